import Derived.Test.YtlhchkajjpefmaaGreatDoorJ12
import Derived.Laws.EntriesVeiled
import Derived.Test.YtlhchkajjpefmaaGreatDoorJ1
import Derived.Laws.Bits64b
import Derived.Test.YtlhchkajjpefmaaGreatDoorJ8
import Derived.Test.YtlhchkajjpefmaaGreatDoorJ4
import Derived.Laws.Bits64
import Derived.OrdersHeld
import Derived.Laws.Rows
set_option maxHeartbeats 16000000
set_option maxRecDepth 100000
namespace Go.Proofs.YtlhchkajjpefmaaGreatDoor
section
open Go.RowKit Go.Maps
attribute [local go_sem ↓] Go.wp_at_zero Go.wp_at_succ
section
variable{w:World}{v:DV}{own:Nat→Option Role}{D:Dev}{a:Nat}{c:Array Value}{F1 F2 F3:Value}
theorem sySetup_of1(hb:Blk w a #[.func (.func 81) #[] c,F2,F3] 166)(h:IsDev w v own D)(hn:64≤D.n){R:Int→World→Prop}
  (H:Calls Tryz.prog 81 (#[(.iface 40 (.pointer (some ⟨v.tb 0,0,none⟩)))]++c) w.drew fun r w'=>∃ x,r = .returned (.int .i64 x)∧R x w') :
  Calls Tryz.prog 305 #[.pointer (some ⟨a,0,none⟩),.pointer (some ⟨v.db,0,none⟩)] w fun r w'=>∃ x,r = .returned (.int .i64 x)∧R x w':=by
 have HL:=Lib.hid (lines_any h);have HTH:=Lib.hid (thrZ_any h.drew);have HC:=Lib.hid H;have c0:=hb.cell (i:=0) rfl;have cd:=hb.drew.cell (i:=0) rfl;obtain⟨k,hk⟩:∃ k,D.n=k:=⟨_,rfl⟩;rw[hk]at HL hn;have hn':¬ (k:Int)<64:=by omega
 clear h H hk
 go_enter Tryz.func305,Tryz.ntmps305
 go_wp2_with fail
 (with_reducible refine HL.out.mono ?_)
 rintro r w1 ⟨rfl,rfl⟩;go_wp2_with fail
 go_region_with (first | (go_at_call 11;(with_reducible refine HTH.out.mono ?_);rintro e w' ⟨rfl,rfl⟩) | (go_at_call 81;(with_reducible refine HC.out.mono ?_);rintro e w3 ⟨x,rfl,hR⟩;have HR:=Lib.hid hR;clear hR))
 all_goals
  go_wp2_with fail
  go_ret
  exact⟨_,rfl,HR.out⟩
theorem sySetup_of2(hb:Blk w a #[.func (.func 88) #[] c,F2,F3] 166)(h:IsDev w v own D)(hn:64≤D.n){R:Int→World→Prop}
  (H:Calls Tryz.prog 88 (#[(.iface 40 (.pointer (some ⟨v.tb 0,0,none⟩)))]++c) w.drew fun r w'=>∃ x,r = .returned (.int .i64 x)∧R x w') :
  Calls Tryz.prog 305 #[.pointer (some ⟨a,0,none⟩),.pointer (some ⟨v.db,0,none⟩)] w fun r w'=>∃ x,r = .returned (.int .i64 x)∧R x w':=by
 have HL:=Lib.hid (lines_any h);have HTH:=Lib.hid (thrZ_any h.drew);have HC:=Lib.hid H;have c0:=hb.cell (i:=0) rfl;have cd:=hb.drew.cell (i:=0) rfl;obtain⟨k,hk⟩:∃ k,D.n=k:=⟨_,rfl⟩;rw[hk]at HL hn;have hn':¬ (k:Int)<64:=by omega
 clear h H hk
 go_enter Tryz.func305,Tryz.ntmps305
 go_wp2_with fail
 (with_reducible refine HL.out.mono ?_)
 rintro r w1 ⟨rfl,rfl⟩;go_wp2_with fail
 go_region_with (first | (go_at_call 11;(with_reducible refine HTH.out.mono ?_);rintro e w' ⟨rfl,rfl⟩) | (go_at_call 88;(with_reducible refine HC.out.mono ?_);rintro e w3 ⟨x,rfl,hR⟩;have HR:=Lib.hid hR;clear hR))
 all_goals
  go_wp2_with fail
  go_ret
  exact⟨_,rfl,HR.out⟩
theorem sySetup_of3(hb:Blk w a #[.func (.func 99) #[] c,F2,F3] 166)(h:IsDev w v own D)(hn:64≤D.n){R:Int→World→Prop}
  (H:Calls Tryz.prog 99 (#[(.iface 40 (.pointer (some ⟨v.tb 0,0,none⟩)))]++c) w.drew fun r w'=>∃ x,r = .returned (.int .i64 x)∧R x w') :
  Calls Tryz.prog 305 #[.pointer (some ⟨a,0,none⟩),.pointer (some ⟨v.db,0,none⟩)] w fun r w'=>∃ x,r = .returned (.int .i64 x)∧R x w':=by
 have HL:=Lib.hid (lines_any h);have HTH:=Lib.hid (thrZ_any h.drew);have HC:=Lib.hid H;have c0:=hb.cell (i:=0) rfl;have cd:=hb.drew.cell (i:=0) rfl;obtain⟨k,hk⟩:∃ k,D.n=k:=⟨_,rfl⟩;rw[hk]at HL hn;have hn':¬ (k:Int)<64:=by omega
 clear h H hk
 go_enter Tryz.func305,Tryz.ntmps305
 go_wp2_with fail
 (with_reducible refine HL.out.mono ?_)
 rintro r w1 ⟨rfl,rfl⟩;go_wp2_with fail
 go_region_with (first | (go_at_call 11;(with_reducible refine HTH.out.mono ?_);rintro e w' ⟨rfl,rfl⟩) | (go_at_call 99;(with_reducible refine HC.out.mono ?_);rintro e w3 ⟨x,rfl,hR⟩;have HR:=Lib.hid hR;clear hR))
 all_goals
  go_wp2_with fail
  go_ret
  exact⟨_,rfl,HR.out⟩
theorem sySetup_of4(hb:Blk w a #[.func (.func 109) #[] c,F2,F3] 166)(h:IsDev w v own D)(hn:64≤D.n){R:Int→World→Prop}
  (H:Calls Tryz.prog 109 (#[(.iface 40 (.pointer (some ⟨v.tb 0,0,none⟩)))]++c) w.drew fun r w'=>∃ x,r = .returned (.int .i64 x)∧R x w') :
  Calls Tryz.prog 305 #[.pointer (some ⟨a,0,none⟩),.pointer (some ⟨v.db,0,none⟩)] w fun r w'=>∃ x,r = .returned (.int .i64 x)∧R x w':=by
 have HL:=Lib.hid (lines_any h);have HTH:=Lib.hid (thrZ_any h.drew);have HC:=Lib.hid H;have c0:=hb.cell (i:=0) rfl;have cd:=hb.drew.cell (i:=0) rfl;obtain⟨k,hk⟩:∃ k,D.n=k:=⟨_,rfl⟩;rw[hk]at HL hn;have hn':¬ (k:Int)<64:=by omega
 clear h H hk
 go_enter Tryz.func305,Tryz.ntmps305
 go_wp2_with fail
 (with_reducible refine HL.out.mono ?_)
 rintro r w1 ⟨rfl,rfl⟩;go_wp2_with fail
 go_region_with (first | (go_at_call 11;(with_reducible refine HTH.out.mono ?_);rintro e w' ⟨rfl,rfl⟩) | (go_at_call 109;(with_reducible refine HC.out.mono ?_);rintro e w3 ⟨x,rfl,hR⟩;have HR:=Lib.hid hR;clear hR))
 all_goals
  go_wp2_with fail
  go_ret
  exact⟨_,rfl,HR.out⟩
theorem sySetup_of5(hb:Blk w a #[.func (.func 113) #[] c,F2,F3] 166)(h:IsDev w v own D)(hn:64≤D.n){R:Int→World→Prop}
  (H:Calls Tryz.prog 113 (#[(.iface 40 (.pointer (some ⟨v.tb 0,0,none⟩)))]++c) w.drew fun r w'=>∃ x,r = .returned (.int .i64 x)∧R x w') :
  Calls Tryz.prog 305 #[.pointer (some ⟨a,0,none⟩),.pointer (some ⟨v.db,0,none⟩)] w fun r w'=>∃ x,r = .returned (.int .i64 x)∧R x w':=by
 have HL:=Lib.hid (lines_any h);have HTH:=Lib.hid (thrZ_any h.drew);have HC:=Lib.hid H;have c0:=hb.cell (i:=0) rfl;have cd:=hb.drew.cell (i:=0) rfl;obtain⟨k,hk⟩:∃ k,D.n=k:=⟨_,rfl⟩;rw[hk]at HL hn;have hn':¬ (k:Int)<64:=by omega
 clear h H hk
 go_enter Tryz.func305,Tryz.ntmps305
 go_wp2_with fail
 (with_reducible refine HL.out.mono ?_)
 rintro r w1 ⟨rfl,rfl⟩;go_wp2_with fail
 go_region_with (first | (go_at_call 11;(with_reducible refine HTH.out.mono ?_);rintro e w' ⟨rfl,rfl⟩) | (go_at_call 113;(with_reducible refine HC.out.mono ?_);rintro e w3 ⟨x,rfl,hR⟩;have HR:=Lib.hid hR;clear hR))
 all_goals
  go_wp2_with fail
  go_ret
  exact⟨_,rfl,HR.out⟩
theorem sySetup_of6(hb:Blk w a #[.func (.func 122) #[] c,F2,F3] 166)(h:IsDev w v own D)(hn:64≤D.n){R:Int→World→Prop}
  (H:Calls Tryz.prog 122 (#[(.iface 40 (.pointer (some ⟨v.tb 0,0,none⟩)))]++c) w.drew fun r w'=>∃ x,r = .returned (.int .i64 x)∧R x w') :
  Calls Tryz.prog 305 #[.pointer (some ⟨a,0,none⟩),.pointer (some ⟨v.db,0,none⟩)] w fun r w'=>∃ x,r = .returned (.int .i64 x)∧R x w':=by
 have HL:=Lib.hid (lines_any h);have HTH:=Lib.hid (thrZ_any h.drew);have HC:=Lib.hid H;have c0:=hb.cell (i:=0) rfl;have cd:=hb.drew.cell (i:=0) rfl;obtain⟨k,hk⟩:∃ k,D.n=k:=⟨_,rfl⟩;rw[hk]at HL hn;have hn':¬ (k:Int)<64:=by omega
 clear h H hk
 go_enter Tryz.func305,Tryz.ntmps305
 go_wp2_with fail
 (with_reducible refine HL.out.mono ?_)
 rintro r w1 ⟨rfl,rfl⟩;go_wp2_with fail
 go_region_with (first | (go_at_call 11;(with_reducible refine HTH.out.mono ?_);rintro e w' ⟨rfl,rfl⟩) | (go_at_call 122;(with_reducible refine HC.out.mono ?_);rintro e w3 ⟨x,rfl,hR⟩;have HR:=Lib.hid hR;clear hR))
 all_goals
  go_wp2_with fail
  go_ret
  exact⟨_,rfl,HR.out⟩
theorem syProgram_of1(hb:Blk w a #[F1,.func (.func 83) #[] c,F3] 166){R:Value→Int→World→Prop}
  (H:Calls Tryz.prog 83 (#[(.iface 40 (.pointer (some ⟨v.tb 0,0,none⟩)))]++c) w fun r w'=>∃ sv x,r = .returned (.tuple #[sv,.int .i64 x])∧R sv x w') :
  Calls Tryz.prog 304 #[.pointer (some ⟨a,0,none⟩),(.iface 40 (.pointer (some ⟨v.tb 0,0,none⟩)))] w fun r w'=>∃ sv x,r = .returned (.tuple #[sv,.int .i64 x])∧R sv x w':=by
 have HC:=Lib.hid H;have c0:=hb.cell (i:=1) rfl;clear H
 go_enter Tryz.func304,Tryz.ntmps304
 go_wp2_with fail
 (with_reducible refine HC.out.mono ?_)
 rintro r w1 ⟨sv,x,rfl,hR⟩;have HR:=Lib.hid hR;clear hR
 go_wp2_with fail
 go_ret2
 exact⟨_,_,rfl,HR.out⟩
theorem syProgram_of2(hb:Blk w a #[F1,.func (.func 91) #[] c,F3] 166){R:Value→Int→World→Prop}
  (H:Calls Tryz.prog 91 (#[(.iface 40 (.pointer (some ⟨v.tb 0,0,none⟩)))]++c) w fun r w'=>∃ sv x,r = .returned (.tuple #[sv,.int .i64 x])∧R sv x w') :
  Calls Tryz.prog 304 #[.pointer (some ⟨a,0,none⟩),(.iface 40 (.pointer (some ⟨v.tb 0,0,none⟩)))] w fun r w'=>∃ sv x,r = .returned (.tuple #[sv,.int .i64 x])∧R sv x w':=by
 have HC:=Lib.hid H;have c0:=hb.cell (i:=1) rfl;clear H
 go_enter Tryz.func304,Tryz.ntmps304
 go_wp2_with fail
 (with_reducible refine HC.out.mono ?_)
 rintro r w1 ⟨sv,x,rfl,hR⟩;have HR:=Lib.hid hR;clear hR
 go_wp2_with fail
 go_ret2
 exact⟨_,_,rfl,HR.out⟩
theorem syProgram_of3(hb:Blk w a #[F1,.func (.func 101) #[] c,F3] 166){R:Value→Int→World→Prop}
  (H:Calls Tryz.prog 101 (#[(.iface 40 (.pointer (some ⟨v.tb 0,0,none⟩)))]++c) w fun r w'=>∃ sv x,r = .returned (.tuple #[sv,.int .i64 x])∧R sv x w') :
  Calls Tryz.prog 304 #[.pointer (some ⟨a,0,none⟩),(.iface 40 (.pointer (some ⟨v.tb 0,0,none⟩)))] w fun r w'=>∃ sv x,r = .returned (.tuple #[sv,.int .i64 x])∧R sv x w':=by
 have HC:=Lib.hid H;have c0:=hb.cell (i:=1) rfl;clear H
 go_enter Tryz.func304,Tryz.ntmps304
 go_wp2_with fail
 (with_reducible refine HC.out.mono ?_)
 rintro r w1 ⟨sv,x,rfl,hR⟩;have HR:=Lib.hid hR;clear hR
 go_wp2_with fail
 go_ret2
 exact⟨_,_,rfl,HR.out⟩
theorem syProgram_of4(hb:Blk w a #[F1,.func (.func 110) #[] c,F3] 166){R:Value→Int→World→Prop}
  (H:Calls Tryz.prog 110 (#[(.iface 40 (.pointer (some ⟨v.tb 0,0,none⟩)))]++c) w fun r w'=>∃ sv x,r = .returned (.tuple #[sv,.int .i64 x])∧R sv x w') :
  Calls Tryz.prog 304 #[.pointer (some ⟨a,0,none⟩),(.iface 40 (.pointer (some ⟨v.tb 0,0,none⟩)))] w fun r w'=>∃ sv x,r = .returned (.tuple #[sv,.int .i64 x])∧R sv x w':=by
 have HC:=Lib.hid H;have c0:=hb.cell (i:=1) rfl;clear H
 go_enter Tryz.func304,Tryz.ntmps304
 go_wp2_with fail
 (with_reducible refine HC.out.mono ?_)
 rintro r w1 ⟨sv,x,rfl,hR⟩;have HR:=Lib.hid hR;clear hR
 go_wp2_with fail
 go_ret2
 exact⟨_,_,rfl,HR.out⟩
theorem syProgram_of5(hb:Blk w a #[F1,.func (.func 115) #[] c,F3] 166){R:Value→Int→World→Prop}
  (H:Calls Tryz.prog 115 (#[(.iface 40 (.pointer (some ⟨v.tb 0,0,none⟩)))]++c) w fun r w'=>∃ sv x,r = .returned (.tuple #[sv,.int .i64 x])∧R sv x w') :
  Calls Tryz.prog 304 #[.pointer (some ⟨a,0,none⟩),(.iface 40 (.pointer (some ⟨v.tb 0,0,none⟩)))] w fun r w'=>∃ sv x,r = .returned (.tuple #[sv,.int .i64 x])∧R sv x w':=by
 have HC:=Lib.hid H;have c0:=hb.cell (i:=1) rfl;clear H
 go_enter Tryz.func304,Tryz.ntmps304
 go_wp2_with fail
 (with_reducible refine HC.out.mono ?_)
 rintro r w1 ⟨sv,x,rfl,hR⟩;have HR:=Lib.hid hR;clear hR
 go_wp2_with fail
 go_ret2
 exact⟨_,_,rfl,HR.out⟩
theorem syProgram_of6(hb:Blk w a #[F1,.func (.func 125) #[] c,F3] 166){R:Value→Int→World→Prop}
  (H:Calls Tryz.prog 125 (#[(.iface 40 (.pointer (some ⟨v.tb 0,0,none⟩)))]++c) w fun r w'=>∃ sv x,r = .returned (.tuple #[sv,.int .i64 x])∧R sv x w') :
  Calls Tryz.prog 304 #[.pointer (some ⟨a,0,none⟩),(.iface 40 (.pointer (some ⟨v.tb 0,0,none⟩)))] w fun r w'=>∃ sv x,r = .returned (.tuple #[sv,.int .i64 x])∧R sv x w':=by
 have HC:=Lib.hid H;have c0:=hb.cell (i:=1) rfl;clear H
 go_enter Tryz.func304,Tryz.ntmps304
 go_wp2_with fail
 (with_reducible refine HC.out.mono ?_)
 rintro r w1 ⟨sv,x,rfl,hR⟩;have HR:=Lib.hid hR;clear hR
 go_wp2_with fail
 go_ret2
 exact⟨_,_,rfl,HR.out⟩
theorem syGood_of1(hb:Blk w a #[F1,F2,.func (.func 84) #[] c] 166)(h:IsDev w v own D)(e:Bool){R:Bool→World→Prop}
  (H:Calls Tryz.prog 84 (#[(.iface 40 (.pointer (some ⟨v.tb 0,0,none⟩))),.bool e]++c) w.drew fun r w'=>∃ x,r = .returned (.bool x)∧R x w') :
  Calls Tryz.prog 303 #[.pointer (some ⟨a,0,none⟩),.pointer (some ⟨v.db,0,none⟩),.bool e] w fun r w'=>∃ x,r = .returned (.bool x)∧R x w':=by
 have HTH:=Lib.hid (thrZ_any h.drew);have HC:=Lib.hid H;have cd:=hb.drew.cell (i:=2) rfl;clear h H
 go_enter Tryz.func303,Tryz.ntmps303
 go_wp2_with fail
 go_region_with (first | (go_at_call 11;(with_reducible refine HTH.out.mono ?_);rintro e w' ⟨rfl,rfl⟩) | (go_at_call 84;(with_reducible refine HC.out.mono ?_);rintro e w3 ⟨x,rfl,hR⟩;have HR:=Lib.hid hR;clear hR))
 all_goals
  go_wp2_with fail
  go_ret
  exact⟨_,rfl,HR.out⟩
theorem syGood_of2(hb:Blk w a #[F1,F2,.func (.func 92) #[] c] 166)(h:IsDev w v own D)(e:Bool){R:Bool→World→Prop}
  (H:Calls Tryz.prog 92 (#[(.iface 40 (.pointer (some ⟨v.tb 0,0,none⟩))),.bool e]++c) w.drew fun r w'=>∃ x,r = .returned (.bool x)∧R x w') :
  Calls Tryz.prog 303 #[.pointer (some ⟨a,0,none⟩),.pointer (some ⟨v.db,0,none⟩),.bool e] w fun r w'=>∃ x,r = .returned (.bool x)∧R x w':=by
 have HTH:=Lib.hid (thrZ_any h.drew);have HC:=Lib.hid H;have cd:=hb.drew.cell (i:=2) rfl;clear h H
 go_enter Tryz.func303,Tryz.ntmps303
 go_wp2_with fail
 go_region_with (first | (go_at_call 11;(with_reducible refine HTH.out.mono ?_);rintro e w' ⟨rfl,rfl⟩) | (go_at_call 92;(with_reducible refine HC.out.mono ?_);rintro e w3 ⟨x,rfl,hR⟩;have HR:=Lib.hid hR;clear hR))
 all_goals
  go_wp2_with fail
  go_ret
  exact⟨_,rfl,HR.out⟩
theorem syGood_of3(hb:Blk w a #[F1,F2,.func (.func 102) #[] c] 166)(h:IsDev w v own D)(e:Bool){R:Bool→World→Prop}
  (H:Calls Tryz.prog 102 (#[(.iface 40 (.pointer (some ⟨v.tb 0,0,none⟩))),.bool e]++c) w.drew fun r w'=>∃ x,r = .returned (.bool x)∧R x w') :
  Calls Tryz.prog 303 #[.pointer (some ⟨a,0,none⟩),.pointer (some ⟨v.db,0,none⟩),.bool e] w fun r w'=>∃ x,r = .returned (.bool x)∧R x w':=by
 have HTH:=Lib.hid (thrZ_any h.drew);have HC:=Lib.hid H;have cd:=hb.drew.cell (i:=2) rfl;clear h H
 go_enter Tryz.func303,Tryz.ntmps303
 go_wp2_with fail
 go_region_with (first | (go_at_call 11;(with_reducible refine HTH.out.mono ?_);rintro e w' ⟨rfl,rfl⟩) | (go_at_call 102;(with_reducible refine HC.out.mono ?_);rintro e w3 ⟨x,rfl,hR⟩;have HR:=Lib.hid hR;clear hR))
 all_goals
  go_wp2_with fail
  go_ret
  exact⟨_,rfl,HR.out⟩
theorem syGood_of4(hb:Blk w a #[F1,F2,.func (.func 111) #[] c] 166)(h:IsDev w v own D)(e:Bool){R:Bool→World→Prop}
  (H:Calls Tryz.prog 111 (#[(.iface 40 (.pointer (some ⟨v.tb 0,0,none⟩))),.bool e]++c) w.drew fun r w'=>∃ x,r = .returned (.bool x)∧R x w') :
  Calls Tryz.prog 303 #[.pointer (some ⟨a,0,none⟩),.pointer (some ⟨v.db,0,none⟩),.bool e] w fun r w'=>∃ x,r = .returned (.bool x)∧R x w':=by
 have HTH:=Lib.hid (thrZ_any h.drew);have HC:=Lib.hid H;have cd:=hb.drew.cell (i:=2) rfl;clear h H
 go_enter Tryz.func303,Tryz.ntmps303
 go_wp2_with fail
 go_region_with (first | (go_at_call 11;(with_reducible refine HTH.out.mono ?_);rintro e w' ⟨rfl,rfl⟩) | (go_at_call 111;(with_reducible refine HC.out.mono ?_);rintro e w3 ⟨x,rfl,hR⟩;have HR:=Lib.hid hR;clear hR))
 all_goals
  go_wp2_with fail
  go_ret
  exact⟨_,rfl,HR.out⟩
theorem syGood_of5(hb:Blk w a #[F1,F2,.func (.func 116) #[] c] 166)(h:IsDev w v own D)(e:Bool){R:Bool→World→Prop}
  (H:Calls Tryz.prog 116 (#[(.iface 40 (.pointer (some ⟨v.tb 0,0,none⟩))),.bool e]++c) w.drew fun r w'=>∃ x,r = .returned (.bool x)∧R x w') :
  Calls Tryz.prog 303 #[.pointer (some ⟨a,0,none⟩),.pointer (some ⟨v.db,0,none⟩),.bool e] w fun r w'=>∃ x,r = .returned (.bool x)∧R x w':=by
 have HTH:=Lib.hid (thrZ_any h.drew);have HC:=Lib.hid H;have cd:=hb.drew.cell (i:=2) rfl;clear h H
 go_enter Tryz.func303,Tryz.ntmps303
 go_wp2_with fail
 go_region_with (first | (go_at_call 11;(with_reducible refine HTH.out.mono ?_);rintro e w' ⟨rfl,rfl⟩) | (go_at_call 116;(with_reducible refine HC.out.mono ?_);rintro e w3 ⟨x,rfl,hR⟩;have HR:=Lib.hid hR;clear hR))
 all_goals
  go_wp2_with fail
  go_ret
  exact⟨_,rfl,HR.out⟩
theorem syGood_of6(hb:Blk w a #[F1,F2,.func (.func 126) #[] c] 166)(h:IsDev w v own D)(e:Bool){R:Bool→World→Prop}
  (H:Calls Tryz.prog 126 (#[(.iface 40 (.pointer (some ⟨v.tb 0,0,none⟩))),.bool e]++c) w.drew fun r w'=>∃ x,r = .returned (.bool x)∧R x w') :
  Calls Tryz.prog 303 #[.pointer (some ⟨a,0,none⟩),.pointer (some ⟨v.db,0,none⟩),.bool e] w fun r w'=>∃ x,r = .returned (.bool x)∧R x w':=by
 have HTH:=Lib.hid (thrZ_any h.drew);have HC:=Lib.hid H;have cd:=hb.drew.cell (i:=2) rfl;clear h H
 go_enter Tryz.func303,Tryz.ntmps303
 go_wp2_with fail
 go_region_with (first | (go_at_call 11;(with_reducible refine HTH.out.mono ?_);rintro e w' ⟨rfl,rfl⟩) | (go_at_call 126;(with_reducible refine HC.out.mono ?_);rintro e w3 ⟨x,rfl,hR⟩;have HR:=Lib.hid hR;clear hR))
 all_goals
  go_wp2_with fail
  go_ret
  exact⟨_,rfl,HR.out⟩
end
end

section
open Go.RowKit Go.Maps
attribute [local go_sem ↓] Go.wp_at_zero Go.wp_at_succ
section
variable{w:World}
theorem mkSuperblock_any:Calls Tryz.prog 31 #[] w fun r w'=>∃ a g1,r = .returned (.iface 160 (.pointer (some ⟨a,0,none⟩)))∧Blk w' a #[.func (.func 81) #[] #[.pointer (some ⟨g1,0,none⟩)],.func (.func 83) #[] #[.pointer (some ⟨g1,0,none⟩)],.func (.func 84) #[] #[.pointer (some ⟨g1,0,none⟩)]] 166∧Blk w' g1 #[.func (.func 80) #[] #[]] 131∧w.heap.size≤g1∧w.heap.size≤a∧Below w.heap.size w w':=by
 go_enter Tryz.func31,Tryz.ntmps31
 go_wp2_with fail
 go_ret
 have H:=Blk.new (w.alloc (.cells #[.func (.func 80) #[] #[]] 131)) #[.func (.func 81) #[] #[.pointer (some ⟨w.heap.size,0,none⟩)],.func (.func 83) #[] #[.pointer (some ⟨w.heap.size,0,none⟩)],.func (.func 84) #[] #[.pointer (some ⟨w.heap.size,0,none⟩)]] 166;rw[World.size_alloc]at H;exact⟨_,_,rfl,H,(Blk.new w _ _).alloc _,Nat.le_refl _,by omega,(below_alloc _ _).trans ((below_alloc _ _).mono (by simp))⟩
theorem mkRoot_any:Calls Tryz.prog 32 #[] w fun r w'=>∃ a g1,r = .returned (.iface 160 (.pointer (some ⟨a,0,none⟩)))∧Blk w' a #[.func (.func 88) #[] #[.pointer (some ⟨g1,0,none⟩)],.func (.func 91) #[] #[.pointer (some ⟨g1,0,none⟩)],.func (.func 92) #[] #[.pointer (some ⟨g1,0,none⟩)]] 166∧Blk w' g1 #[.func (.func 87) #[] #[]] 167∧w.heap.size≤g1∧w.heap.size≤a∧Below w.heap.size w w':=by
 go_enter Tryz.func32,Tryz.ntmps32
 go_wp2_with fail
 go_ret
 have H:=Blk.new (w.alloc (.cells #[.func (.func 87) #[] #[]] 167)) #[.func (.func 88) #[] #[.pointer (some ⟨w.heap.size,0,none⟩)],.func (.func 91) #[] #[.pointer (some ⟨w.heap.size,0,none⟩)],.func (.func 92) #[] #[.pointer (some ⟨w.heap.size,0,none⟩)]] 166;rw[World.size_alloc]at H;exact⟨_,_,rfl,H,(Blk.new w _ _).alloc _,Nat.le_refl _,by omega,(below_alloc _ _).trans ((below_alloc _ _).mono (by simp))⟩
theorem mkRedo_any:Calls Tryz.prog 33 #[] w fun r w'=>∃ a g1,r = .returned (.iface 160 (.pointer (some ⟨a,0,none⟩)))∧Blk w' a #[.func (.func 99) #[] #[.pointer (some ⟨g1,0,none⟩)],.func (.func 101) #[] #[],.func (.func 102) #[] #[.pointer (some ⟨g1,0,none⟩)]] 166∧Blk w' g1 #[.func (.func 96) #[] #[]] 178∧w.heap.size≤g1∧w.heap.size≤a∧Below w.heap.size w w':=by
 go_enter Tryz.func33,Tryz.ntmps33
 go_wp2_with fail
 go_ret
 have H:=Blk.new (w.alloc (.cells #[.func (.func 96) #[] #[]] 178)) #[.func (.func 99) #[] #[.pointer (some ⟨w.heap.size,0,none⟩)],.func (.func 101) #[] #[],.func (.func 102) #[] #[.pointer (some ⟨w.heap.size,0,none⟩)]] 166;rw[World.size_alloc]at H;exact⟨_,_,rfl,H,(Blk.new w _ _).alloc _,Nat.le_refl _,by omega,(below_alloc _ _).trans ((below_alloc _ _).mono (by simp))⟩
theorem mkUndo_any:Calls Tryz.prog 34 #[] w fun r w'=>∃ a g1 g2,r = .returned (.iface 160 (.pointer (some ⟨a,0,none⟩)))∧Blk w' a #[.func (.func 109) #[] #[.pointer (some ⟨g2,0,none⟩)],.func (.func 110) #[] #[.pointer (some ⟨g1,0,none⟩)],.func (.func 111) #[] #[.pointer (some ⟨g2,0,none⟩)]] 166∧Blk w' g1 #[.func (.func 105) #[] #[]] 183∧w.heap.size≤g1∧Blk w' g2 #[.func (.func 106) #[] #[]] 178∧w.heap.size≤g2∧w.heap.size≤a∧Below w.heap.size w w':=by
 go_enter Tryz.func34,Tryz.ntmps34
 go_wp2_with fail
 go_ret
 have H2:=Blk.new (w.alloc (.cells #[.func (.func 105) #[] #[]] 183)) #[.func (.func 106) #[] #[]] 178;have H:=Blk.new ((w.alloc (.cells #[.func (.func 105) #[] #[]] 183)).alloc (.cells #[.func (.func 106) #[] #[]] 178)) #[.func (.func 109) #[] #[.pointer (some ⟨(w.heap.size+1),0,none⟩)],.func (.func 110) #[] #[.pointer (some ⟨w.heap.size,0,none⟩)],.func (.func 111) #[] #[.pointer (some ⟨(w.heap.size+1),0,none⟩)]] 166;rw[World.size_alloc]at H2;rw[World.size_alloc,World.size_alloc]at H;exact⟨_,_,_,rfl,H,((Blk.new w _ _).alloc _).alloc _,Nat.le_refl _,H2.alloc _,by omega,by omega,((below_alloc _ _).trans ((below_alloc _ _).mono (by simp))).trans ((below_alloc _ _).mono (by simp;omega))⟩
theorem mkBucket_any:Calls Tryz.prog 35 #[] w fun r w'=>∃ a,r = .returned (.iface 160 (.pointer (some ⟨a,0,none⟩)))∧Blk w' a #[.func (.func 113) #[] #[],.func (.func 115) #[] #[],.func (.func 116) #[] #[]] 166∧w.heap.size≤a∧Below w.heap.size w w':=by
 go_enter Tryz.func35,Tryz.ntmps35
 go_wp2_with fail
 go_ret
 exact⟨_,rfl,Blk.new _ _ _,Nat.le_refl _,below_alloc _ _⟩
theorem mkLeaf_any:Calls Tryz.prog 36 #[] w fun r w'=>∃ a g1,r = .returned (.iface 160 (.pointer (some ⟨a,0,none⟩)))∧Blk w' a #[.func (.func 122) #[] #[],.func (.func 125) #[] #[.pointer (some ⟨g1,0,none⟩)],.func (.func 126) #[] #[.pointer (some ⟨g1,0,none⟩)]] 166∧Blk w' g1 #[.func (.func 121) #[] #[]] 195∧w.heap.size≤g1∧w.heap.size≤a∧Below w.heap.size w w':=by
 go_enter Tryz.func36,Tryz.ntmps36
 go_wp2_with fail
 go_ret
 have H:=Blk.new (w.alloc (.cells #[.func (.func 121) #[] #[]] 195)) #[.func (.func 122) #[] #[],.func (.func 125) #[] #[.pointer (some ⟨w.heap.size,0,none⟩)],.func (.func 126) #[] #[.pointer (some ⟨w.heap.size,0,none⟩)]] 166;rw[World.size_alloc]at H;exact⟨_,_,rfl,H,(Blk.new w _ _).alloc _,Nat.le_refl _,by omega,(below_alloc _ _).trans ((below_alloc _ _).mono (by simp))⟩
end
end

section
open Go.RowKit
def fld(w sh wd:Nat):Nat:=w/2 ^ sh%2 ^ wd
def setF(w sh wd v:Nat):Nat:=2 ^ sh*(2 ^ wd*(w/2 ^ (sh+wd))+v%2 ^ wd)+w%2 ^ sh
theorem fld_testBit(w sh wd i:Nat):(fld w sh wd).testBit i=(decide (i<wd)&&w.testBit (sh+i)):=by
 unfold fld;rw[Nat.testBit_mod_two_pow,Nat.testBit_div_two_pow,Nat.add_comm]
theorem setF_testBit(w sh wd v i:Nat):(setF w sh wd v).testBit i=if sh≤i∧i<sh+wd then v.testBit (i-sh)else w.testBit i:=by
 unfold setF;rw[Nat.testBit_two_pow_mul_add _ (Nat.mod_lt _ (Nat.two_pow_pos sh))]
 by_cases h1:i<sh
 ·rw[if_pos h1,if_neg (by omega),Nat.testBit_mod_two_pow]
  simp[h1]
 ·rw[if_neg h1,Nat.testBit_two_pow_mul_add _ (Nat.mod_lt _ (Nat.two_pow_pos wd))]
  by_cases h2:i-sh<wd
  ·rw[if_pos h2,if_pos (by omega),Nat.testBit_mod_two_pow]
   simp[h2]
  ·rw[if_neg h2,if_neg (by omega),Nat.testBit_div_two_pow]
   congr 1;omega
theorem setF_lt{w sh wd v n:Nat}(hw:w<2 ^ n)(h:sh+wd≤n):setF w sh wd v<2 ^ n:=by
 refine Nat.lt_pow_two_of_testBit _ fun i hi => ?_
 rw[setF_testBit,if_neg (by omega)];exact Nat.testBit_lt_two_pow (Nat.lt_of_lt_of_le hw (Nat.pow_le_pow_right (by omega) hi))
theorem fld_setF(w sh wd v:Nat):fld (setF w sh wd v) sh wd=v%2 ^ wd:=by
 refine Nat.eq_of_testBit_eq fun i => ?_
 rw[fld_testBit,setF_testBit,Nat.testBit_mod_two_pow]
 by_cases h:i<wd
 ·rw[if_pos (by omega)]
  simp[h]
 ·simp[h]
theorem fld_setF_other(w sh wd v sh' wd':Nat)(h:sh'+wd'≤sh∨sh+wd≤sh'):fld (setF w sh wd v) sh' wd'=fld w sh' wd':=by
 refine Nat.eq_of_testBit_eq fun i => ?_
 rw[fld_testBit,fld_testBit,setF_testBit]
 by_cases hi:i<wd'
 ·rw[if_neg (by omega)]
 ·simp[hi]
theorem fld_zero(sh wd:Nat):fld 0 sh wd=0:=by unfold fld;simp
theorem setF_bits(w sh wd v:Nat):((w ^^^ (w &&& ((2 ^ wd-1)*2 ^ sh))) ||| ((v &&& (2 ^ wd-1))*2 ^ sh))=setF w sh wd v:=by
 refine Nat.eq_of_testBit_eq fun i => ?_
 rw[setF_testBit];simp only[Nat.testBit_or,Nat.testBit_xor,Nat.testBit_and,Nat.testBit_mul_two_pow,Nat.testBit_two_pow_sub_one]
 by_cases h1:sh≤i
 ·by_cases h2:i<sh+wd
  ·rw[if_pos ⟨h1,h2⟩]
   have:i-sh<wd:=by omega
   simp[h1,this]
  ·rw[if_neg (by omega)]
   have:¬ i-sh<wd:=by omega
   simp[this]
 ·rw[if_neg (by omega)]
  simp[h1]
theorem bits_andNot_u64_nat(a b:Nat)(ha:a<18446744073709551616)(hb:b<18446744073709551616):bits .andNot .u64 (a:Int) (b:Int)=((a ^^^ (a &&& b):Nat):Int):=by
 have ha':a%2 ^ 64=a:=Nat.mod_eq_of_lt ha;have hb':b%2 ^ 64=b:=Nat.mod_eq_of_lt hb;have e:((BitVec.ofNat 64 a) &&& ~~~(BitVec.ofNat 64 b)).toNat=a ^^^ (a &&& b):=by
  refine Nat.eq_of_testBit_eq fun i => ?_
  rw[← BitVec.getLsbD,BitVec.getLsbD_and,BitVec.getLsbD_not,BitVec.getLsbD_ofNat,BitVec.getLsbD_ofNat,Nat.testBit_xor,Nat.testBit_and]
  by_cases hi:i<64
  ·simp[hi]
   cases a.testBit i <;> cases b.testBit i <;> rfl
  ·have:a.testBit i=false:=Nat.testBit_lt_two_pow (Nat.lt_of_lt_of_le ha (Nat.pow_le_pow_right (n:=2) (by omega) (show 64≤i by omega)))
   simp[hi,this]
 have hlt:a ^^^ (a &&& b)<18446744073709551616:=Nat.xor_lt_two_pow (n:=64) ha (Nat.and_lt_two_pow (n:=64) _ hb);have e2:bits .andNot .u64 (a:Int) (b:Int)=IntKind.u64.wrap ((((BitVec.ofNat 64 a) &&& ~~~(BitVec.ofNat 64 b)).toNat:Nat):Int):=by
  simp only[bits,BitVec.ofInt_natCast]
  rfl
 rw[e2,e];exact IntWalk.u64_in _ (by omega)
def mixN(x:Nat):Nat:=
 let y:=((x ^^^ x/2 ^ 30)*13787848793156543929)%18446744073709551616
 let z:=((y ^^^ y/2 ^ 27)*10723151780598845931)%18446744073709551616
 z ^^^ z/2 ^ 31
theorem mixN_lt(x:Nat):mixN x<18446744073709551616:=by
 unfold mixN;simp only;exact Nat.xor_lt_two_pow (n:=64) (Nat.mod_lt _ (by decide)) (Nat.lt_of_le_of_lt (Nat.div_le_self _ _) (Nat.mod_lt _ (by decide)))
def usedB(h s:Nat):Bool:=fld h s 1==1
def fpN(h s:Nat):Nat:=fld h (8+8*s) 8
def markN(h s k:Nat):Nat:=setF (setF h s 1 1) (8+8*s) 8 (mixN k)
theorem markN_lt{h:Nat}(hh:h<18446744073709551616){s:Nat}(hs:s<7)(k:Nat):markN h s k<18446744073709551616:=
 setF_lt (n:=64) (setF_lt (n:=64) hh (by omega)) (by omega)
theorem usedB_mark(h s k t:Nat)(hs:s<7)(ht:t<7):usedB (markN h s k) t=(decide (t=s) || usedB h t):=by
 unfold usedB markN;rw[fld_setF_other _ _ _ _ _ _ (by omega)]
 by_cases e:t=s
 ·subst e;rw[fld_setF];simp
 ·rw[fld_setF_other _ _ _ _ _ _ (by omega)];simp[e]
theorem fpN_mark(h s k t:Nat)(hs:s<7)(ht:t<7):fpN (markN h s k) t=if t=s then mixN k%256 else fpN h t:=by
 unfold fpN markN
 by_cases e:t=s
 ·subst e;rw[fld_setF,if_pos rfl]
 ·rw[fld_setF_other _ _ _ _ _ _ (by omega),fld_setF_other _ _ _ _ _ _ (by omega),if_neg e]
theorem usedB_zero(s:Nat):usedB 0 s=false:=by unfold usedB;rw[fld_zero];rfl
end

section
open Go.RowKit
def fstK(p:Nat→Bool):Nat→Int
 | 0 => -1
 | k+1=>if 0≤fstK p k then fstK p k else if p k then(k:Int)else -1
theorem fstK_spec(p:Nat→Bool):∀ k,(fstK p k = -1∧∀ t,t<k→p t=false)∨∃ s,fstK p k=(s:Nat)∧s<k∧p s=true∧∀ t,t<s→p t=false:=by
 intro k
 induction k with
 | zero=>exact .inl ⟨rfl,fun t ht=>absurd ht (Nat.not_lt_zero t)⟩
 | succ k ih=>
  rcases ih with ⟨h1,h2⟩ | ⟨s,h1,h2,h3,h4⟩
  ·cases hp:p k
   ·refine .inl ⟨by unfold fstK;rw[h1,hp];rfl,fun t ht => ?_⟩
    rcases Nat.lt_or_ge t k with h | h
    ·exact h2 t h
    ·obtain rfl:t=k:=by omega
     exact hp
   ·exact .inr ⟨k,by unfold fstK;rw[h1,hp];rfl,by omega,hp,h2⟩
  ·exact .inr ⟨s,by unfold fstK;rw[h1,if_pos (by omega)],by omega,h3,h4⟩
theorem fstK_stay{p:Nat→Bool}{k:Nat}(h:0≤fstK p k):∀ m,k≤m→fstK p m=fstK p k:=by
 intro m hm
 induction m with
 | zero => obtain rfl:k=0:=by omega
           rfl
 | succ m ih=>
  rcases Nat.lt_or_ge k (m+1)with h1 | h1
  ·have:=ih (by omega)
   show(if 0≤fstK p m then fstK p m else _)=_
   rw[this,if_pos h]
  ·obtain rfl:k=m+1:=by omega
   rfl
theorem fstK_bd(p:Nat→Bool)(k:Nat) : -1≤fstK p k∧fstK p k<k:=by
 rcases fstK_spec p k with ⟨h,_⟩ | ⟨s,h,hs,_⟩ <;> omega
theorem fstK_congr{p q:Nat→Bool}:∀ k,(∀ t,t<k→p t=q t)→fstK p k=fstK q k:=by
 intro k
 induction k with
 | zero=>intro _;rfl
 | succ k ih=>
  intro h;unfold fstK;rw[ih (fun t ht=>h t (by omega)),h k (by omega)]
def bkH(C:Nat→Int)(off:Nat):Nat:=(C (off/8)).toNat
def bkK(C:Nat→Int)(off s:Nat):Int:=C (off/8+2+2*s)
def bkV(C:Nat→Int)(off s:Nat):Int:=C (off/8+3+2*s)
def matB(C:Nat→Int)(off k s:Nat):Bool:=(usedB (bkH C off) s&&(fpN (bkH C off) s==mixN k%256))&&bkK C off s==(k:Int)
def fndI(C:Nat→Int)(off k:Nat):Int:=fstK (matB C off k) 7
def freI(h:Nat):Int:=fstK (fun s => !usedB h s) 7
def bkKey(off s:Nat):Nat:=off+16*(s+1)
def bkOther(off s:Nat):List Nat := [bkKey off s,bkKey off s+8].filter fun o => !(o/64==off/64)
def bkRep(off s:Nat)(v:Int):List (Nat×Nat×Int):=storesL [(bkKey off s+8,v)]
def bkNew(off s:Nat)(k v:Int)(h:Nat):List (Nat×Nat×Int) := [(1,bkKey off s,k),(1,bkKey off s+8,v)]++flushL (bkOther off s)++storesL [(off,(h:Int))]
theorem stores1(o:Nat)(v:Int):storesL [(o,v)] = [(1,o,v),(2,64*(o/64),0),(3,0,0)]:=rfl
theorem flush_none:flushL [] = []:=rfl
theorem flush_one(a:Nat):flushL [a] = [(2,64*(a/64),0),(3,0,0)]:=rfl
theorem flush_two(a b:Nat)(h:a/64≤b/64):flushL [a,b]=if a/64=b/64 then [(2,64*(a/64),0),(3,0,0)]else [(2,64*(a/64),0),(2,64*(b/64),0),(3,0,0)]:=by
 by_cases e:a/64=b/64
 ·rw[if_pos e]
  have:linesL [a,b] = [a/64]:=by simp[linesL,insL,lowN,e]
  unfold flushL;rw[this];rfl
 ·rw[if_neg e]
  have h2:¬ b/64<a/64:=by omega
  have:linesL [a,b] = [a/64,b/64]:=by
   have h3:a/64<b/64:=by omega
   simp[linesL,insL,lowN,h3]
  unfold flushL;rw[this];rfl
theorem bkNew_eq(off s:Nat)(k v:Int)(h:Nat):bkNew off s k v h =
  (([(1,bkKey off s,k),(1,bkKey off s+8,v)]++(if bkKey off s/64=off/64 then []else [(2,64*(bkKey off s/64),0)])) ++
    (if(bkKey off s+8)/64=off/64∨(bkKey off s+8)/64=bkKey off s/64 then []else [(2,64*((bkKey off s+8)/64),0)])) ++
    (if bkKey off s/64=off/64∧((bkKey off s+8)/64=off/64∨(bkKey off s+8)/64=bkKey off s/64)then []else [(3,0,0)]) ++ [(1,off,(h:Int)),(2,64*(off/64),0),(3,0,0)]:=by
 unfold bkNew bkOther;rw[stores1];obtain⟨a,ha⟩:∃ a,bkKey off s=a:=⟨_,rfl⟩;have hk:off+16≤a:=by rw[← ha];unfold bkKey;omega
 rw[ha];have hm:a/64≤(a+8)/64:=by omega
 by_cases e1:a/64=off/64
 ·by_cases e2:(a+8)/64=off/64
  ·simp[e1,e2,flush_none]
  ·have e3:¬ (a+8)/64=a/64:=by omega
   simp[e1,e2,flush_one]
 ·have e2:¬ (a+8)/64=off/64:=by omega
  have hfb:([a,a+8].filter fun o => !(o/64==off/64)) = [a,a+8]:=by simp[e1,e2]
  by_cases e3:a/64=(a+8)/64
  ·rw[hfb]
   simp[e1,flush_two _ _ hm,e3.symm]
  ·have e4:¬ (a+8)/64=a/64:=fun h=>e3 h.symm
   rw[hfb];simp[e1,e2,flush_two _ _ hm,e3,e4]
def newGs(off s:Nat)(k v:Int)(h:Nat):List Gr:=
 if bkOther off s = []then [([(bkKey off s,k),(bkKey off s+8,v),(off,(h:Int))],[64*(off/64)])]
 else [([(bkKey off s,k),(bkKey off s+8,v)],lineOffs (bkOther off s)),([(off,(h:Int))],[64*(off/64)])]
theorem newGs_eq(off s:Nat)(k v:Int)(h:Nat):bkNew off s k v h=groupsP (newGs off s k v h):=by
 unfold bkNew newGs;rw[stores1]
 by_cases e:bkOther off s = []
 ·rw[if_pos e,e];rfl
 ·rw[if_neg e]
  unfold flushL;rw[if_neg (fun x=>e (linesL_nil.1 x))];simp[groupsP,groupP,lineOffs]
theorem newGs_flat(off s:Nat)(k v:Int)(h:Nat):(newGs off s k v h).flatMap (·.1) = [(bkKey off s,k),(bkKey off s+8,v),(off,(h:Int))]:=by
 unfold newGs
 split <;> rfl
theorem newGs_ok{off s n:Nat}(k v:Int)(h:Nat)(h8:off%8=0)(hs:s<7)(hl:off+128≤64*n):∀ g∈newGs off s k v h,groupOkX n g:=fun g hg=>by
 have e1:bkKey off s%8=0∧bkKey off s+8<64*n:=by unfold bkKey;omega
 unfold newGs at hg
 split at hg
 ·simp at hg;subst hg
  refine⟨fun e he => ?_,fun o ho => ?_⟩
  ·simp at he;rcases he with rfl | rfl | rfl
   ·exact⟨e1.1,by simp only;omega⟩
   ·exact⟨by simp only;omega,e1.2⟩
   ·exact⟨h8,by simp only;omega⟩
  ·simp at ho;subst ho;omega
 ·simp at hg
  rcases hg with rfl | rfl
  ·refine⟨fun e he => ?_,lineOffs_lt (fun o ho => ?_)⟩
   ·simp at he;rcases he with rfl | rfl
    ·exact⟨e1.1,by simp only;omega⟩
    ·exact⟨by simp only;omega,e1.2⟩
   ·have:=(List.mem_filter.1 ho).1
    simp at this;rcases this with rfl | rfl <;> omega
  ·refine⟨fun e he => ?_,fun o ho => ?_⟩
   ·simp at he;subst he;exact⟨h8,by simp only;omega⟩
   ·simp at ho;subst ho;omega
theorem newGs_clean(off s:Nat)(k v:Int)(h:Nat){S:PerH}(h0:∀ l,S.2 l = [])(l:Nat):(laidX S (newGs off s k v h)).2 l = []:=by
 have hown:hitB [64*(off/64)] (off/64)=true:=by rw[hitB_iff];exact⟨64*(off/64),by simp,by omega⟩
 have hno:∀ l,l≠off/64→hitB [64*(off/64)] l=false:=fun l hl=>by
  cases e:hitB [64*(off/64)] l
  ·rfl
  ·obtain⟨o,ho,he⟩:=(hitB_iff _ _).1 e
   simp at ho;subst ho;omega
 unfold newGs
 split
 ·rename_i he
  show(nextX S ([(bkKey off s,k),(bkKey off s+8,v),(off,(h:Int))],[64*(off/64)])).2 l = []
  unfold nextX;simp only
  by_cases e:l=off/64
  ·subst e;rw[if_pos hown]
  ·rw[hno l e,h0]
   have hf:∀ o ∈ [bkKey off s,bkKey off s+8],o/64=off/64:=fun o ho=>by
    by_cases hq:o/64=off/64
    ·exact hq
    ·have:o∈bkOther off s:=List.mem_filter.2 ⟨ho,by simpa using hq⟩
     rw[he]at this;simp at this
   have a1:=hf (bkKey off s) (by simp);have a2:=hf (bkKey off s+8) (by simp)
   have e1:¬ off/64=l:=fun x=>e x.symm
   simp[filtL,a1,a2,e1]
 ·rename_i he
  show(nextX (nextX S ([(bkKey off s,k),(bkKey off s+8,v)],lineOffs (bkOther off s))) ([(off,(h:Int))],[64*(off/64)])).2 l = []
  unfold nextX;simp only
  by_cases e:l=off/64
  ·subst e;rw[if_pos hown]
  ·rw[hno l e]
   have e1:¬ off/64=l:=fun x=>e x.symm
   have f1:filtL [(off,(h:Int))] l = []:=by simp[filtL,e1]
   rw[f1,h0];simp only[List.nil_append,List.append_nil,Bool.false_eq_true,if_false]
   by_cases hh:hitB (lineOffs (bkOther off s)) l=true
   ·rw[if_pos hh]
   ·rw[if_neg hh]
    have hf:∀ o ∈ [bkKey off s,bkKey off s+8],¬ o/64=l:=fun o ho hl=>by
     refine hh ((hitB_iff _ _).2 ⟨64*(o/64),?_,by omega⟩)
     exact List.mem_map.2 ⟨o/64,(linesL_mem _ _).2 ⟨o,List.mem_filter.2 ⟨ho,by simpa [hl]using e⟩,rfl⟩,rfl⟩
    have a1:=hf (bkKey off s) (by simp);have a2:=hf (bkKey off s+8) (by simp)
    simp[filtL,a1,a2]
structure BCl(D:Dev)(n:Nat)(C:Nat→Int)(x:Nat):Prop where
 grp:Grp D 0 n C [] []
 vb:D.VB
 exec:D.exec≤x
 ar:D.armed=false
theorem Grp.gx{D:Dev}{j n:Nat}{C:Nat→Int}(h:Grp D j n C [] []):GX D j n (C,fun _ => []) [] []:=⟨h.on,h.hst.pers,fun l=>by rw[h.hst.hist];rfl,h.yes,h.no⟩
theorem GX.grp{D:Dev}{j n:Nat}{s:PerH}(h:GX D j n s [] [])(h0:∀ l,s.2 l = []){C:Nat→Int}(hC:∀ i,s.1 i=C i):Grp D j n C [] []:=
 ⟨h.on,⟨fun i=>by rw[h.pers,hC],fun l=>by rw[h.hist,h0];rfl⟩,h.yes,h.no⟩
section
variable{D:Dev}{n x:Nat}{C:Nat→Int}
theorem BCl.mono{y:Nat}(h:BCl D n C x)(hxy:x≤y):BCl D n C y:=⟨h.grp,h.vb,Nat.le_trans h.exec hxy,h.ar⟩
theorem BCl.run(h:BCl D n C x){gs:List Gr}(hg:∀ g∈gs,groupOkX n g)(hc:∀ l,(laidX (C,fun _ => []) gs).2 l = [])(hv:∀ e∈gs.flatMap (·.1),0≤e.2∧e.2<18446744073709551616) :
  BCl (D.run 0 (groupsP gs)) n (fun i=>look (gs.flatMap (·.1)) (C i) i) (x+(groupsP gs).length):=by
 have hx:=D.run_exec 0 (groupsP gs);have:=h.exec
 rcases runX_came h.grp.gx hg with ⟨h1,h2,_⟩ | ⟨_,_,_,_,_,_,_,_,_,h2,_⟩
 ·refine⟨h1.grp hc (fun i => ?_),Dev.VB.run _ h.vb 0 ?_,by omega,by rw[h2];exact h.ar⟩
  ·have:=curX_laid gs (C,fun _ => []) i
   unfold curX at this;rw[hc]at this;exact this
  ·intro e he h1
   obtain⟨g,hg2,he⟩:=List.mem_flatMap.1 he;unfold groupP at he
   rcases List.mem_append.1 he with he | he
   ·rcases List.mem_append.1 he with he | he
    ·obtain⟨y,hy,rfl⟩:=List.mem_map.1 he
     exact hv y (List.mem_flatMap.2 ⟨g,hg2,hy⟩)
    ·obtain⟨y,hy,rfl⟩:=List.mem_map.1 he;cases h1
   ·simp at he;subst he;cases h1
 ·rw[h.ar]at h2;cases h2
theorem BCl.one(h:BCl D n C x){o:Nat}{v:Int}(h8:o%8=0)(hl:o<64*n)(hv:0≤v∧v<18446744073709551616) :
  BCl (D.run 0 (storesL [(o,v)])) n (fun i=>if o/8=i then v else C i) (x+3):=by
 have hg:storesL [(o,v)]=groupsP [([(o,v)],[64*(o/64)])]:=rfl;have hown:hitB [64*(o/64)] (o/64)=true:=by rw[hitB_iff];exact⟨64*(o/64),by simp,by omega⟩
 rw[hg];refine h.run (gs := [([(o,v)],[64*(o/64)])]) (fun g hg => ?_) (fun l => ?_) (fun e he => ?_)
 ·simp at hg;subst hg
  refine⟨fun e he => ?_,fun p hp => ?_⟩
  ·simp at he;subst he;exact⟨h8,hl⟩
  ·simp at hp;subst hp;omega
 ·show(nextX (C,fun _ => []) ([(o,v)],[64*(o/64)])).2 l = []
  unfold nextX;simp only
  by_cases e:l=o/64
  ·subst e;rw[if_pos hown]
  ·by_cases hh:hitB [64*(o/64)] l=true
   ·rw[if_pos hh]
   ·rw[if_neg hh]
    have e1:¬ o/64=l:=fun x=>e x.symm
    simp[filtL,e1]
 ·simp at he;subst he;exact hv
theorem BCl.new(h:BCl D n C x){off s:Nat}{k v:Int}{hd:Nat}(h8:off%8=0)(hs:s<7)(hl:off+128≤64*n)(hk:0≤k∧k<18446744073709551616)(hv:0≤v∧v<18446744073709551616)(hh:hd<18446744073709551616) :
  BCl (D.run 0 (bkNew off s k v hd)) n (fun i=>if off/8=i then(hd:Int)else if off/8+3+2*s=i then v else if off/8+2+2*s=i then k else C i) (x+9):=by
 rw[newGs_eq];have hlen:(groupsP (newGs off s k v hd)).length≤9:=by
  rw[← newGs_eq,bkNew_eq];simp only[List.length_append,List.length_cons,List.length_nil]
  repeat' split
  all_goals simp
 have:=(h.run (newGs_ok k v hd h8 hs hl) (newGs_clean off s k v hd (fun _=>rfl)) (fun e he=>by
  rw[newGs_flat]at he;simp at he
  rcases he with rfl | rfl | rfl
  ·exact hk
  ·exact hv
  ·exact⟨by simp only;omega,by simp only;omega⟩)).mono (y:=x+9) (by omega)
 rw[newGs_flat]at this;have e1:bkKey off s/8=off/8+2+2*s:=by unfold bkKey;omega
 have e2:(bkKey off s+8)/8=off/8+3+2*s:=by unfold bkKey;omega
 have ef:(fun i=>look [(bkKey off s,k),(bkKey off s+8,v),(off,(hd:Int))] (C i) i)=(fun i=>if off/8=i then(hd:Int)else if off/8+3+2*s=i then v else if off/8+2+2*s=i then k else C i):=funext fun i=>by
  simp only[look,List.foldl_cons,List.foldl_nil,e1,e2]
 rw[ef]at this;exact this
end
end

section
open Go.RowKit
section
variable{w:World}
theorem wvalid_any(sh wd:Nat)(h1:1≤wd)(h2:sh+wd≤64):Calls Tryz.prog 230 #[.int .i64 sh,.int .i64 wd] w fun r w'=>r = .returned (.bool true)∧w=w':=by
 have e1:(0:Int)≤sh:=by omega
 have e2:(1:Int)≤wd:=by omega
 have e3:(wd:Int)≤64:=by omega
 have e4:(sh:Int)≤64-wd:=by omega
 go_enter Tryz.func230,Tryz.ntmps230
 go_wp2_with fail
 go_ret
 exact⟨rfl,rfl⟩
theorem wmask_any(wd:Nat)(h:wd=1∨wd=7∨wd=8):Calls Tryz.prog 231 #[.int .i64 wd] w fun r w'=>r = .returned (.int .u64 ((2 ^ wd-1:Nat):Int))∧w=w':=by
 rcases h with rfl | rfl | rfl
 all_goals
  go_enter Tryz.func231,Tryz.ntmps231
  go_wp2_with fail
  go_ret
  exact⟨by rfl,rfl⟩
theorem wField_any(x sh wd:Nat)(hx:x<18446744073709551616)(hw:wd=1∨wd=7∨wd=8)(h2:sh+wd≤64) :
  Calls Tryz.prog 210 #[.int .u64 x,.int .i64 sh,.int .i64 wd] w fun r w'=>r = .returned (.int .u64 (fld x sh wd:Nat))∧w=w':=by
 have HV:=Lib.hid (fun wx=>wvalid_any (w:=wx) sh wd (by omega) h2);have HM:=Lib.hid (fun wx=>wmask_any (w:=wx) wd hw)
 go_enter Tryz.func210,Tryz.ntmps210
 go_wp2_with fail
 (with_reducible refine(HV.out _).mono ?_)
 rintro e w' ⟨rfl,rfl⟩;go_wp2_with fail
 (with_reducible refine(HM.out _).mono ?_)
 rintro e w' ⟨rfl,rfl⟩;go_wp2_with fail
 go_ret
 refine⟨?_,rfl⟩
 have hb:x/2 ^ sh<18446744073709551616:=Nat.lt_of_le_of_lt (Nat.div_le_self _ _) hx;have hm:2 ^ wd-1<18446744073709551616:=by rcases hw with rfl | rfl | rfl <;> decide
 rw[show(x:Int)/2 ^ sh=((x/2 ^ sh:Nat):Int)by simp,bits_and_u64_nat _ _ hb hm,Nat.and_two_pow_sub_one_eq_mod]
 rfl
theorem wrap_u64_nat(a:Nat):IntKind.u64.wrap (a:Int)=((a%18446744073709551616:Nat):Int):=by
 simp[IntKind.wrap,IntKind.bits,IntKind.signed]
theorem shl_u64_nat(a sh:Nat)(h:a*2 ^ sh<18446744073709551616):IntKind.u64.wrap ((a:Int)*2 ^ sh)=((a*2 ^ sh:Nat):Int):=by
 rw[show(a:Int)*2 ^ sh=((a*2 ^ sh:Nat):Int)by simp,wrap_u64_nat,Nat.mod_eq_of_lt h]
theorem wSetField_any(x sh wd y:Nat)(hx:x<18446744073709551616)(hy:y<18446744073709551616)(hw:wd=1∨wd=7∨wd=8)(h2:sh+wd≤64) :
  Calls Tryz.prog 212 #[.int .u64 x,.int .i64 sh,.int .i64 wd,.int .u64 y] w fun r w'=>r = .returned (.int .u64 (setF x sh wd y:Nat))∧w=w':=by
 have HV:=Lib.hid (fun wx=>wvalid_any (w:=wx) sh wd (by omega) h2);have HM:=Lib.hid (fun wx=>wmask_any (w:=wx) wd hw)
 go_enter Tryz.func212,Tryz.ntmps212
 go_wp2_with fail
 (with_reducible refine(HV.out _).mono ?_)
 rintro e w' ⟨rfl,rfl⟩;go_wp2_with fail
 (with_reducible refine(HM.out _).mono ?_)
 rintro e w' ⟨rfl,rfl⟩;go_wp2_with fail
 go_ret
 refine⟨?_,rfl⟩
 have hm:2 ^ wd-1<18446744073709551616:=by rcases hw with rfl | rfl | rfl <;> decide
 have hp:(2 ^ wd-1)*2 ^ sh<18446744073709551616:=by
  have:(2 ^ wd-1)*2 ^ sh<2 ^ wd*2 ^ sh:=Nat.mul_lt_mul_of_pos_right (Nat.sub_lt (Nat.two_pow_pos wd) (by decide)) (Nat.two_pow_pos sh);rw[← Nat.pow_add]at this;exact Nat.lt_of_lt_of_le this (Nat.pow_le_pow_right (n:=2) (by omega) (show wd+sh≤64 by omega))
 have ha:y &&& (2 ^ wd-1)≤2 ^ wd-1:=Nat.and_le_right;have hq:(y &&& (2 ^ wd-1))*2 ^ sh<18446744073709551616:=Nat.lt_of_le_of_lt (Nat.mul_le_mul_right _ ha) hp;have hn:x ^^^ (x &&& ((2 ^ wd-1)*2 ^ sh))<18446744073709551616:=Nat.xor_lt_two_pow (n:=64) hx (Nat.and_lt_two_pow (n:=64) _ hp);rw[bits_and_u64_nat _ _ hy hm,shl_u64_nat _ _ hp,shl_u64_nat _ _ hq,bits_andNot_u64_nat _ _ hx hp,bits_or_u64_nat _ _ hn hq,setF_bits]
 rfl
theorem wMix_any(x:Nat)(hx:x<18446744073709551616):Calls Tryz.prog 213 #[.int .u64 x] w fun r w'=>r = .returned (.int .u64 (mixN x:Nat))∧w=w':=by
 go_enter Tryz.func213,Tryz.ntmps213
 go_wp2_with fail
 go_ret
 refine⟨?_,rfl⟩
 have m1:∀ a:Nat,a<18446744073709551616→∀ b:Nat,bits .xor .u64 (a:Int) ((a:Int)/((2 ^ b:Nat):Int))=((a ^^^ a/2 ^ b:Nat):Int):=fun a ha b=>by
  rw[← Int.natCast_ediv,bits_xor_u64_nat _ _ ha (Nat.lt_of_le_of_lt (Nat.div_le_self _ _) ha)]
 have e1:=m1 x hx 30;rw[show((2 ^ 30:Nat):Int)=1073741824 from rfl]at e1;obtain⟨y,hy⟩:∃ y,y=((x ^^^ x/2 ^ 30)*13787848793156543929)%18446744073709551616:=⟨_,rfl⟩;have e2:IntKind.u64.wrap (((x ^^^ x/2 ^ 30:Nat):Int)*13787848793156543929)=(y:Int):=by
  rw[hy,← wrap_u64_nat];simp
 have hyb:y<18446744073709551616:=by rw[hy];exact Nat.mod_lt _ (by decide)
 have e3:=m1 y hyb 27;rw[show((2 ^ 27:Nat):Int)=134217728 from rfl]at e3;obtain⟨z,hz⟩:∃ z,z=((y ^^^ y/2 ^ 27)*10723151780598845931)%18446744073709551616:=⟨_,rfl⟩;have e4:IntKind.u64.wrap (((y ^^^ y/2 ^ 27:Nat):Int)*10723151780598845931)=(z:Int):=by
  rw[hz,← wrap_u64_nat];simp
 have hzb:z<18446744073709551616:=by rw[hz];exact Nat.mod_lt _ (by decide)
 have e5:=m1 z hzb 31;rw[show((2 ^ 31:Nat):Int)=2147483648 from rfl]at e5;have e6:mixN x=z ^^^ z/2 ^ 31:=by rw[hz,hy];rfl
 rw[e1,e2,e3,e4,e5,e6]
 rfl
theorem used_any(h s:Nat)(hh:h<18446744073709551616)(hs:s<7):Calls Tryz.prog 165 #[.int .u64 h,.int .i64 s] w fun r w'=>r = .returned (.bool (usedB h s))∧w=w':=by
 have HF:=Lib.hid (fun wx=>wField_any (w:=wx) h s 1 hh (.inl rfl) (by omega));rw[show((1:Nat):Int)=1 from rfl]at HF;have hb:(((fld h s 1:Nat):Int)==1)=usedB h s:=by unfold usedB;rw[Bool.eq_iff_iff];simp;omega
 obtain⟨b,hub⟩:∃ b,usedB h s=b:=⟨_,rfl⟩;rw[hub]at hb ⊢;clear hub
 go_enter Tryz.func165,Tryz.ntmps165
 go_wp2_with fail
 (with_reducible refine(HF.out _).mono ?_)
 rintro e w' ⟨rfl,rfl⟩;go_wp2_with fail
 go_ret
 exact⟨rfl,rfl⟩
theorem matches_any(h s k:Nat)(hh:h<18446744073709551616)(hs:s<7)(hk:k<18446744073709551616) :
  Calls Tryz.prog 209 #[.int .u64 h,.int .i64 s,.int .u64 k] w fun r w'=>r = .returned (.bool (usedB h s&&(fpN h s==mixN k%256)))∧w=w':=by
 have HU:=Lib.hid (fun wx=>used_any (w:=wx) h s hh hs);have HF:=Lib.hid (fun wx=>wField_any (w:=wx) h (8+8*s) 8 hh (.inr (.inr rfl)) (by omega));have HM:=Lib.hid (fun wx=>wMix_any (w:=wx) k hk);have hmb:=mixN_lt k;have HG:=Lib.hid (fun wx=>wField_any (w:=wx) (mixN k) 0 8 hmb (.inr (.inr rfl)) (by omega));have hc:((8+8*s:Nat):Int)=8+8*(s:Int):=by omega
 rw[hc]at HF;rw[show((0:Nat):Int)=0 from rfl]at HG;rw[show((8:Nat):Int)=8 from rfl]at HF HG;have hfb:(((fld h (8+8*s) 8:Nat):Int)==((fld (mixN k) 0 8:Nat):Int))=(fpN h s==mixN k%256):=by
  have e:fld (mixN k) 0 8=mixN k%256:=by unfold fld;simp
  rw[e];unfold fpN;rw[Bool.eq_iff_iff];simp;omega
 generalize fld h (8+8*s) 8=f1 at *
 generalize fld (mixN k) 0 8=f2 at *
 generalize (fpN h s==mixN k%256)=fb at *
 generalize usedB h s=ub at *
 generalize mixN k=mk at *
 clear hc
 cases ub
 ·go_enter Tryz.func209,Tryz.ntmps209
  go_wp2_with fail
  (with_reducible refine(HU.out _).mono ?_)
  rintro e w' ⟨rfl,rfl⟩;go_wp2_with fail
  go_ret
  exact⟨rfl,rfl⟩
 ·go_enter Tryz.func209,Tryz.ntmps209
  go_wp2_with fail
  (with_reducible refine(HU.out _).mono ?_)
  rintro e w' ⟨rfl,rfl⟩;go_wp2_with fail
  (with_reducible refine(HF.out _).mono ?_)
  rintro e w' ⟨rfl,rfl⟩;go_wp2_with fail
  (with_reducible refine(HM.out _).mono ?_)
  rintro e w' ⟨rfl,rfl⟩;go_wp2_with fail
  (with_reducible refine(HG.out _).mono ?_)
  rintro e w' ⟨rfl,rfl⟩;go_wp2_with fail
  go_ret
  exact⟨rfl,rfl⟩
theorem marked_any(h s k:Nat)(hh:h<18446744073709551616)(hs:s<7)(hk:k<18446744073709551616) :
  Calls Tryz.prog 167 #[.int .u64 h,.int .i64 s,.int .u64 k] w fun r w'=>r = .returned (.int .u64 (markN h s k:Nat))∧w=w':=by
 have h1:setF h s 1 1<18446744073709551616:=setF_lt (n:=64) hh (by omega);have HF:=Lib.hid (fun wx=>wSetField_any (w:=wx) h s 1 1 hh (by omega) (.inl rfl) (by omega));rw[show((1:Nat):Int)=1 from rfl]at HF;have HM:=Lib.hid (fun wx=>wMix_any (w:=wx) k hk);have hmb:=mixN_lt k;have HG:=Lib.hid (fun wx=>wSetField_any (w:=wx) (setF h s 1 1) (8+8*s) 8 (mixN k) h1 hmb (.inr (.inr rfl)) (by omega));have hc:((8+8*s:Nat):Int)=8+8*(s:Int):=by omega
 rw[hc]at HG;rw[show((8:Nat):Int)=8 from rfl]at HG;have HMK:Hid (setF (setF h s 1 1) (8+8*s) 8 (mixN k)=markN h s k):=rfl;rw[HMK.out]at HG
 generalize setF h s 1 1=f1 at *
 generalize markN h s k=f2 at *
 generalize mixN k=mk at *
 clear hc HMK
 go_enter Tryz.func167,Tryz.ntmps167
 go_wp2_with fail
 (with_reducible refine(HF.out _).mono ?_)
 rintro e w' ⟨rfl,rfl⟩;go_wp2_with fail
 (with_reducible refine(HM.out _).mono ?_)
 rintro e w' ⟨rfl,rfl⟩;go_wp2_with fail
 (with_reducible refine(HG.out _).mono ?_)
 rintro e w' ⟨rfl,rfl⟩;go_wp2_with fail
 go_ret
 exact⟨rfl,rfl⟩
theorem lineOf31_any(o:Nat)(ho:o<18446744073709551616):Calls Tryz.prog 166 #[.int .u64 o] w fun r w'=>r = .returned (.int .u64 ((64*(o/64):Nat):Int))∧w=w':=by
 have HL:Hid (∀ wx,Calls Tryz.prog 211 #[.int .u64 o] wx fun r w'=>r = .returned (.int .u64 ((o/64:Nat):Int))∧wx=w'):=fun wx=>by
  go_enter Tryz.func211,Tryz.ntmps211
  go_wp2_with fail
  go_ret
  exact⟨rfl,rfl⟩
 have hq:IntKind.u64.wrap (((o/64:Nat):Int)*64)=((64*(o/64):Nat):Int):=by
  rw[IntWalk.u64_in _ (by omega)];omega
 go_enter Tryz.func166,Tryz.ntmps166
 go_wp2_with fail
 (with_reducible refine(HL.out _).mono ?_)
 rintro e w' ⟨rfl,rfl⟩;go_wp2_with fail
 go_ret
 refine⟨?_,rfl⟩
 show Ending.returned (.int .u64 ((o:Int)/64*64))=_
 congr 2
 omega
end
end

section
open Go.RowKit
section
variable{P:Program}{ops:Array Oper}{Q:Exit→Act→World→Prop}{md:Region.Mode}{S:World→Prop}
theorem wpAnyH_one{i:Nat}{oi:Oper}{fuel:Nat}{listed:Array Bool}{a:Act}{w:World}(hr:Region.ready md ops listed = [i])(hi:ops[i]? = some oi)(hw:Region.wanted oi (yielded ops a.tmps)=true)
  (h:∀ K:Act→World→Prop,(∀ a' w',S w'∧wpAnyH P md ops Q S fuel (listed.setIfInBounds i true) a' w'→K a' w')→oi.wp P a w K Q):wpAnyH P md ops Q S (fuel+1) listed a w:=
 wpAnyH_all hr (by simp) (fun j hj=>by
  rw[List.mem_singleton]at hj;subst hj;unfold wpOp;simp only[hi,hw,if_true];exact .inl (h _ (fun _ _ hk=>hk)))
theorem exec_load_row{o:Oper}{ev:Operand→Value}{w:World}(ty:TypeId)(x:Operand)(ho:o.op = .load ty x)
  (g:Nat) (hx:ev x = .pointer (some ⟨g,0,none⟩)) (t:TypeId) (cs:Array Value) (fr:Nat×Nat) (d:TypeDesc) (hg:w.heap[g]? = some (.cells cs t fr))
  (hu:P.underlying ty=some d) (hd:(match d with | .struct _ | .array _ _=>true | _=>false)=true) (hi:(P.info? ty).map (·.size)=some cs.size) :
  (execOp ev o).run P w = .ok (.value (.agg cs)) w:=by
 unfold execOp;simp only[ho,hx,Instr.loadAt,Instr.sureAddr,Sem.run_bind,Sem.run_pure,Result.andThen_ok,run_loadVar_row w g t ty cs fr d hg hu hd hi]
end
end
end Go.Proofs.YtlhchkajjpefmaaGreatDoor
