import Derived.Test.YtlhchkajjpefmaaGreatDoorJ9
import Derived.Deep.CutRange
import Derived.Deep.CutBlock
import Derived.Test.YtlhchkajjpefmaaGreatDoorJ3
import Derived.Test.YtlhchkajjpefmaaGreatDoorJ7
set_option maxHeartbeats 16000000
set_option maxRecDepth 100000
namespace Go.Proofs.YtlhchkajjpefmaaGreatDoor
section
open Go.RowKit
section
variable{w:World}{g o c a b:Nat}{xs ys zs:List Int}{wr:World}
structure PtSt(w:World)(g o c:Nat)(xs:List Int)(a b:Nat)(L:Int→Int→Prop)(x:Int)(i j:Nat)(ys:List Int)(wr:World):Prop where
 mix:MixSt w g o c xs a b ys wr
 left:∀ q,a<q→q<i→L (at0 ys q) x
 right:∀ q,j<q→q<b→¬ L (at0 ys q) x
 piv:at0 ys a=x
variable{L:Int→Int→Prop}{x:Int}{i j:Nat}
theorem PtSt.drewN(h:PtSt w g o c xs a b L x i j ys wr)(n:Nat):PtSt w g o c xs a b L x i j ys (wr.drewN n):=⟨h.mix.drewN n,h.left,h.right,h.piv⟩
theorem PtSt.up(h:PtSt w g o c xs a b L x i j ys wr)(hl:L (at0 ys i) x):PtSt w g o c xs a b L x (i+1) j ys wr:=
 ⟨h.mix,fun q h1 h2=>by by_cases e:q=i;exact e ▸ hl;exact h.left q h1 (by omega),h.right,h.piv⟩
theorem PtSt.down(h:PtSt w g o c xs a b L x i j ys wr)(hj:0<j)(hl:¬ L (at0 ys j) x):PtSt w g o c xs a b L x i (j-1) ys wr:=
 ⟨h.mix,h.left,fun q h1 h2=>by by_cases e:q=j;exact e ▸ hl;exact h.right q (by omega) h2,h.piv⟩
theorem PtSt.swap(h:PtSt w g o c xs a b L x i j ys wr)(hai:a<i)(hij:i<j)(hjb:j<b)(hb:b≤xs.length)(h1:¬ L (at0 ys i) x)(h2:L (at0 ys j) x) :
  PtSt w g o c xs a b L x (i+1) (j-1) (swp ys i j) ((wr.setCell ⟨g,o+i,none⟩ (.int .u64 (at0 ys j))).setCell ⟨g,o+j,none⟩ (.int .u64 (at0 ys i))).drew:=by
 have hl:=h.mix.len;have e:=fun q=>at0_swp ys i j q (by omega) (by omega)
 refine⟨h.mix.swap i j (by omega) (by omega) (by omega) hjb hb,fun q h3 h4 => ?_,fun q h3 h4 => ?_,?_⟩
 ·rw[e]
  by_cases e1:q=i
  ·rw[if_neg (by omega),if_pos e1];exact h2
  ·rw[if_neg (by omega),if_neg e1];exact h.left q h3 (by omega)
 ·rw[e]
  by_cases e1:q=j
  ·rw[if_pos e1];exact h1
  ·rw[if_neg e1,if_neg (by omega)];exact h.right q (by omega) h4
 ·rw[e,if_neg (by omega),if_neg (by omega)];exact h.piv
theorem PtSt.stop(h:PtSt w g o c xs a b (· < ·) x i j ys wr)(hij:i=j+1)(haj:a≤j)(hjb:j<b)(_hai:a<i)(hb:b≤xs.length) :
  MixSt w g o c xs a b (swp ys j a) ((wr.setCell ⟨g,o+j,none⟩ (.int .u64 (at0 ys a))).setCell ⟨g,o+a,none⟩ (.int .u64 (at0 ys j))).drew∧Parted (swp ys j a) a j b:=by
 have hl:=h.mix.len;have e:=fun q=>at0_swp ys j a q (by omega) (by omega)
 refine⟨h.mix.swap j a haj hjb (Nat.le_refl _) (by omega) hb,haj,hjb,fun q h1 h2 => ?_,fun q h1 h2 => ?_⟩
 ·rw[e,e,if_neg (show ¬ j=a by omega),if_pos rfl,h.piv]
  by_cases eq:q=a
  ·rw[if_pos eq];exact Int.le_of_lt (h.left j (by omega) (by omega))
  ·rw[if_neg eq,if_neg (by omega)];exact Int.le_of_lt (h.left q (by omega) (by omega))
 ·rw[e q,if_neg (by omega),if_neg (by omega),e j]
  have h3:x≤at0 ys q:=by have:=h.right q h1 h2;omega
  by_cases ea:j=a
  ·rw[if_pos ea,ea,h.piv];exact h3
  ·rw[if_neg ea,if_pos rfl,h.piv];exact h3
theorem PtSt.start{p:Nat}(h:MixSt w g o c xs a b (swp xs a p) wr)(hp:p<xs.length)(ha:a<xs.length):PtSt w g o c xs a b L (at0 xs p) (a+1) (b-1) (swp xs a p) wr:=
 ⟨h,fun q h1 h2=>by omega,fun q h1 h2=>by omega,by
  rw[at0_swp xs a p a ha hp]
  by_cases e:a=p
  ·rw[if_pos e,e]
  ·rw[if_neg e,if_pos rfl]⟩
theorem partitionEqual_any(h:WrU w g o c xs)(p:Nat)(hp:a≤p∧p<b)(hb:b≤xs.length)(hs:xs.length≤100000) :
  Calls Tryz.prog 242 #[.slice (some ⟨g,o,none⟩) xs.length c,.int .i64 a,.int .i64 b,.int .i64 p] w fun r w'=>∃ k:Nat,r = .returned (.int .i64 k)∧∃ ys,MixSt w g o c xs a b ys w'∧PartedEq ys a k b (at0 xs p):=by
 have hm:=h.le;unfold maxLen at hm;have c1:=h.cell a (by omega);have c2:=h.cell p (by omega)
 have f1:=h.frozen (o+a);have f2:=h.frozen (o+p)
 have hg:=h.lt;have H:=Lib.hid (MixSt.refl h a b);have HP:=Lib.hid hp;have HB:=Lib.hid hb;clear h
 generalize hn:xs.length=m at *
 have HN:=Lib.hid hn;clear hn
 have b1:(a:Int)<m:=by omega
 have b2:(p:Int)<m:=by omega
 go_enter Tryz.func242,Tryz.ntmps242
 go_upto_region 1 with fail
 go_cut [] (fun wx=>MixSt w g o c xs a b (swp xs a p) wx)
 case first=>
  by_cases hap:p=a
  ·subst hap
   go_region
   all_goals go_wp2_with fail
   all_goals go_meet
   all_goals exact H.out.swap p p (by omega) (by omega) (by omega) (by omega) (by rw[HN.out];omega)
  ·have hne:¬ o+p=o+a:=by omega
   go_region
   all_goals go_wp2_with fail
   all_goals go_meet
   all_goals exact H.out.swap a p (by omega) (by omega) (by omega) (by omega) (by rw[HN.out];omega)
 case rest=>
  generalize hx:at0 xs p=x at *
  have HX:=Lib.hid hx;clear hx
  have M1:Hid (PtSt w g o c xs a b (· ≤ ·) x (a+1) (b-1) (swp xs a p) wc):=Lib.hid (by rw[← HX.out];exact PtSt.start hcut (by rw[HN.out];omega) (by rw[HN.out];omega));clear hcut c1 c2 f1 f2;go_wp2_with fail
  go_loopw [9,10] (fun u v wr=>∃ i j:Nat,a<i∧i≤j+1∧j<b∧u = .int .i64 i∧v = .int .i64 j∧∃ ys,PtSt w g o c xs a b (· ≤ ·) x i j ys wr) (fun u _ _=>b+1-(intOf u).toNat)
  case atStart=>exact⟨a+1,b-1,by omega,by omega,by omega,by go_num,by rw[show((b-1:Nat):Int)=(b:Int)-1 by omega],_,M1.out⟩
  case round=>
   obtain⟨i,j,h1,h2,h3,rfl,rfl,ys,hP⟩:=hrel;have P:=Lib.hid hP;clear hP M1
   go_upto_block 2 with fail
   go_cut [9]from 29 to 45 (fun u wx=>∃ k:Nat,i≤k∧k≤j+1∧u = .int .i64 k∧PtSt w g o c xs a b (· ≤ ·) x k j ys wx∧(k≤j→¬ at0 ys k≤x))
   case first=>
    go_wp2_with fail
    go_loopw [9] (fun u wx=>∃ k:Nat,i≤k∧k≤j+1∧u = .int .i64 k∧PtSt w g o c xs a b (· ≤ ·) x k j ys wx) (fun u _=>b+1-(intOf u).toNat)
    case atStart=>exact⟨i,by omega,by omega,rfl,P.out⟩
    case round=>
     clear P;obtain⟨k,k1,k2,rfl,hP⟩:=hrel;have hyl:ys.length=m:=by rw[hP.mix.len,HN.out]
     have P:=Lib.hid hP
     by_cases hkj:k≤j
     ·have hkj':(k:Int)≤j:=by omega
      have d1:=hP.mix.own.cell a (by omega);have d2:=hP.mix.own.cell k (by omega)
      rw[hP.piv]at d1;have g1:(k:Int)<m:=by omega
      clear hP hyl
      by_cases hl:x<at0 ys k
      ·have hd:decide (x<at0 ys k)=true:=by simpa using hl
       have LQ:=Lib.hid (less_is _ _ _ hd);have HL:=Lib.hid hl;clear hd hl
       go_wp2_with fail
       go_quiet ((go_at_call 241;exact Calls.quiet_of_same (LQ.out _)))
       go_wp2_with fail
       go_meet
       exact⟨k,k1,k2,rfl,P.out.drewN _,fun _=>by have:=HL.out;omega⟩
      ·have hd:decide (x<at0 ys k)=false:=by simpa using hl
       have LQ:=Lib.hid (less_is _ _ _ hd);have HL:=Lib.hid hl;clear hd hl
       go_wp2_with fail
       go_quiet ((go_at_call 241;exact Calls.quiet_of_same (LQ.out _)))
       go_wp2_with fail
       go_roundw
       case rel=>exact⟨k+1,by omega,by omega,by go_num,(P.out.drewN _).up (by have:=HL.out;omega)⟩
       case measure=>simp[intOf];omega
     ·have hkj':decide ((k:Int)≤j)=false:=by simp;omega
      clear hP hyl;go_wp2_with fail
      go_quiet (fail)
      go_wp2_with fail
      go_meet
      exact⟨k,k1,k2,rfl,P.out.drewN _,fun h=>absurd h hkj⟩
   case rest=>
    clear P;obtain⟨k,k1,k2,rfl,p1,p2⟩:=hcut;have P:=Lib.hid p1;have PI:=Lib.hid p2;clear p1 p2
    go_upto_block 4 with fail
    go_cut [10]from 46 to 61 (fun u wx=>∃ l:Nat,k≤l+1∧l≤j∧u = .int .i64 l∧PtSt w g o c xs a b (· ≤ ·) x k l ys wx∧(k≤l→at0 ys l≤x))
    case first=>
     go_wp2_with fail
     go_loopw [10] (fun u wx=>∃ l:Nat,k≤l+1∧l≤j∧u = .int .i64 l∧PtSt w g o c xs a b (· ≤ ·) x k l ys wx) (fun u _=>(intOf u).toNat)
     case atStart=>exact⟨j,by omega,by omega,rfl,P.out⟩
     case round=>
      clear P;obtain⟨l,l1,l2,rfl,hP⟩:=hrel;have hyl:ys.length=m:=by rw[hP.mix.len,HN.out]
      have P:=Lib.hid hP
      by_cases hkj:k≤l
      ·have hkj':(k:Int)≤l:=by omega
       have d1:=hP.mix.own.cell a (by omega);have d2:=hP.mix.own.cell l (by omega)
       rw[hP.piv]at d1;have g1:(l:Int)<m:=by omega
       clear hP hyl
       by_cases hl:x<at0 ys l
       ·have hd:decide (x<at0 ys l)=true:=by simpa using hl
        have LQ:=Lib.hid (less_is _ _ _ hd);have HL:=Lib.hid hl;clear hd hl
        go_wp2_with fail
        go_quiet ((go_at_call 241;exact Calls.quiet_of_same (LQ.out _)))
        go_wp2_with fail
        go_roundw
        case rel=>exact⟨l-1,by omega,by omega,by rw[show((l-1:Nat):Int)=(l:Int)-1 by omega],(P.out.drewN _).down (by omega) (by have:=HL.out;omega)⟩
        case measure=>simp[intOf];omega
       ·have hd:decide (x<at0 ys l)=false:=by simpa using hl
        have LQ:=Lib.hid (less_is _ _ _ hd);have HL:=Lib.hid hl;clear hd hl
        go_wp2_with fail
        go_quiet ((go_at_call 241;exact Calls.quiet_of_same (LQ.out _)))
        go_wp2_with fail
        go_meet
        exact⟨l,l1,l2,rfl,P.out.drewN _,fun _=>by have:=HL.out;omega⟩
      ·have hkj':decide ((k:Int)≤l)=false:=by simp;omega
       clear hP hyl;go_wp2_with fail
       go_quiet (fail)
       go_wp2_with fail
       go_meet
       exact⟨l,l1,l2,rfl,P.out.drewN _,fun h=>absurd h hkj⟩
    case rest=>
     clear P;obtain⟨l,l1,l2,rfl,p1,p2⟩:=hcut;have P:=Lib.hid p1;have PD:=Lib.hid p2;clear p1 p2
     have P0:=P.out;have hyl:ys.length=m:=by rw[P0.mix.len,HN.out]
     by_cases hkl:l<k
     ·have hkl':(l:Int)<k:=by omega
      clear P0 hyl;go_wp2_with fail
      go_ret
      exact⟨k,rfl,ys,P.out.mix,by omega,by omega,fun q q1 q2=>by
       rw[HX.out]
       by_cases e:q=a
       ·rw[e,P.out.piv];exact Int.le_refl _
       ·exact P.out.left q (by omega) q2⟩
     ·have hkl':¬ (l:Int)<k:=by omega
      have hlt:k<l:=by
       have e1:=PI.out (by omega);have e2:=PD.out (by omega)
       by_cases e:k=l
       ·subst e;exact absurd e2 e1
       ·omega
      have d1:=P0.mix.own.cell k (by omega);have d2:=P0.mix.own.cell l (by omega)
      have f1:=P0.mix.own.frozen (o+k);have f2:=P0.mix.own.frozen (o+l)
      have hgz:=P0.mix.own.lt;have hne:¬ o+l=o+k:=by omega
      have g1:(k:Int)<m:=by omega
      have g2:(l:Int)<m:=by omega
      clear P0 hyl;go_wp2_with fail
      go_region
      all_goals go_wp2_with fail
      all_goals
       go_roundw
       case rel=>exact⟨k+1,l-1,by omega,by omega,by omega,by go_num,by rw[show((l-1:Nat):Int)=(l:Int)-1 by omega],_,P.out.swap (by omega) hlt (by omega) (by rw[HN.out];exact hb) (by have:=PI.out (by omega);omega) (by have:=PD.out (by omega);omega)⟩
       case measure=>simp[intOf];omega
theorem partition_any(h:WrU w g o c xs)(p:Nat)(hp:a≤p∧p<b)(hb:b≤xs.length)(hs:xs.length≤100000) :
  Calls Tryz.prog 243 #[.slice (some ⟨g,o,none⟩) xs.length c,.int .i64 a,.int .i64 b,.int .i64 p] w fun r w'=>∃ (k:Nat) (t:Bool),r = .returned (.tuple #[.int .i64 k,.bool t])∧∃ ys,MixSt w g o c xs a b ys w'∧Parted ys a k b:=by
 have hm:=h.le;unfold maxLen at hm;have c1:=h.cell a (by omega);have c2:=h.cell p (by omega)
 have f1:=h.frozen (o+a);have f2:=h.frozen (o+p)
 have hg:=h.lt;have H:=Lib.hid (MixSt.refl h a b);have HP:=Lib.hid hp;have HB:=Lib.hid hb;clear h
 generalize hn:xs.length=m at *
 have HN:=Lib.hid hn;clear hn
 have b1:(a:Int)<m:=by omega
 have b2:(p:Int)<m:=by omega
 go_enter Tryz.func243,Tryz.ntmps243
 go_upto_region 1 with fail
 go_cut [] (fun wx=>MixSt w g o c xs a b (swp xs a p) wx)
 case first=>
  by_cases hap:p=a
  ·subst hap
   go_region
   all_goals go_wp2_with fail
   all_goals go_meet
   all_goals exact H.out.swap p p (by omega) (by omega) (by omega) (by omega) (by rw[HN.out];omega)
  ·have hne:¬ o+p=o+a:=by omega
   go_region
   all_goals go_wp2_with fail
   all_goals go_meet
   all_goals exact H.out.swap a p (by omega) (by omega) (by omega) (by omega) (by rw[HN.out];omega)
 case rest=>
  generalize hx:at0 xs p=x at *
  have HX:=Lib.hid hx;clear hx
  have P:Hid (PtSt w g o c xs a b (· < ·) x (a+1) (b-1) (swp xs a p) wc):=Lib.hid (by rw[← HX.out];exact PtSt.start hcut (by rw[HN.out];omega) (by rw[HN.out];omega));clear hcut c1 c2 f1 f2
  generalize swp xs a p=ys at *
  obtain⟨i,hi⟩:∃ i,a+1=i:=⟨_,rfl⟩;obtain⟨j,hj⟩:∃ j,b-1=j:=⟨_,rfl⟩;rw[hi,hj]at P;have q6:(a:Int)+1=i:=by omega
  have q7:(b:Int)-1=j:=by omega
  have h1:a<i:=by omega
  have h2:i≤j+1:=by omega
  have h3:j<b:=by omega
  clear hi hj
  go_upto_block 0 with fail
  go_cut [10]from 30 to 45 (fun u wx=>∃ k:Nat,i≤k∧k≤j+1∧u = .int .i64 k∧PtSt w g o c xs a b (· < ·) x k j ys wx∧(k≤j→¬ at0 ys k<x))
  case first=>
   go_wp2_with fail
   go_loopw [10] (fun u wx=>∃ k:Nat,i≤k∧k≤j+1∧u = .int .i64 k∧PtSt w g o c xs a b (· < ·) x k j ys wx) (fun u _=>b+1-(intOf u).toNat)
   case atStart=>exact⟨i,by omega,by omega,rfl,P.out⟩
   case round=>
    clear P;obtain⟨k,k1,k2,rfl,hP⟩:=hrel;have hyl:ys.length=m:=by rw[hP.mix.len,HN.out]
    have P:=Lib.hid hP
    by_cases hkj:k≤j
    ·have hkj':(k:Int)≤j:=by omega
     have d1:=hP.mix.own.cell a (by omega);have d2:=hP.mix.own.cell k (by omega)
     rw[hP.piv]at d1;have g1:(k:Int)<m:=by omega
     clear hP hyl
     by_cases hl:at0 ys k<x
     ·have hd:decide (at0 ys k<x)=true:=by simpa using hl
      have LQ:=Lib.hid (less_is _ _ _ hd);have HL:=Lib.hid hl;clear hd hl
      go_wp2_with fail
      go_quiet ((go_at_call 241;exact Calls.quiet_of_same (LQ.out _)))
      go_wp2_with fail
      go_roundw
      case rel=>exact⟨k+1,by omega,by omega,by go_num,(P.out.drewN _).up HL.out⟩
      case measure=>simp[intOf];omega
     ·have hd:decide (at0 ys k<x)=false:=by simpa using hl
      have LQ:=Lib.hid (less_is _ _ _ hd);have HL:=Lib.hid hl;clear hd hl
      go_wp2_with fail
      go_quiet ((go_at_call 241;exact Calls.quiet_of_same (LQ.out _)))
      go_wp2_with fail
      go_meet
      exact⟨k,k1,k2,rfl,P.out.drewN _,fun _=>by have:=HL.out;omega⟩
    ·have hkj':decide ((k:Int)≤j)=false:=by simp;omega
     clear hP hyl;go_wp2_with fail
     go_quiet (fail)
     go_wp2_with fail
     go_meet
     exact⟨k,k1,k2,rfl,P.out.drewN _,fun h=>absurd h hkj⟩
  case rest=>
   clear P;obtain⟨k,k1,k2,rfl,p1,p2⟩:=hcut;have P:=Lib.hid p1;have PI:=Lib.hid p2;clear p1 p2
   go_upto_block 2 with fail
   go_cut [11]from 46 to 62 (fun u wx=>∃ l:Nat,k≤l+1∧l≤j∧u = .int .i64 l∧PtSt w g o c xs a b (· < ·) x k l ys wx∧(k≤l→at0 ys l<x))
   case first=>
    go_wp2_with fail
    go_loopw [11] (fun u wx=>∃ l:Nat,k≤l+1∧l≤j∧u = .int .i64 l∧PtSt w g o c xs a b (· < ·) x k l ys wx) (fun u _=>(intOf u).toNat)
    case atStart=>exact⟨j,by omega,by omega,rfl,P.out⟩
    case round=>
     clear P;obtain⟨l,l1,l2,rfl,hP⟩:=hrel;have hyl:ys.length=m:=by rw[hP.mix.len,HN.out]
     have P:=Lib.hid hP
     by_cases hkj:k≤l
     ·have hkj':(k:Int)≤l:=by omega
      have d1:=hP.mix.own.cell a (by omega);have d2:=hP.mix.own.cell l (by omega)
      rw[hP.piv]at d1;have g1:(l:Int)<m:=by omega
      clear hP hyl
      by_cases hl:at0 ys l<x
      ·have hd:decide (at0 ys l<x)=true:=by simpa using hl
       have LQ:=Lib.hid (less_is _ _ _ hd);have HL:=Lib.hid hl;clear hd hl
       go_wp2_with fail
       go_quiet ((go_at_call 241;exact Calls.quiet_of_same (LQ.out _)))
       go_wp2_with fail
       go_meet
       exact⟨l,l1,l2,rfl,P.out.drewN _,fun _=>by have:=HL.out;omega⟩
      ·have hd:decide (at0 ys l<x)=false:=by simpa using hl
       have LQ:=Lib.hid (less_is _ _ _ hd);have HL:=Lib.hid hl;clear hd hl
       go_wp2_with fail
       go_quiet ((go_at_call 241;exact Calls.quiet_of_same (LQ.out _)))
       go_wp2_with fail
       go_roundw
       case rel=>exact⟨l-1,by omega,by omega,by rw[show((l-1:Nat):Int)=(l:Int)-1 by omega],(P.out.drewN _).down (by omega) (by have:=HL.out;omega)⟩
       case measure=>simp[intOf];omega
     ·have hkj':decide ((k:Int)≤l)=false:=by simp;omega
      clear hP hyl;go_wp2_with fail
      go_quiet (fail)
      go_wp2_with fail
      go_meet
      exact⟨l,l1,l2,rfl,P.out.drewN _,fun h=>absurd h hkj⟩
   case rest=>
    clear P;obtain⟨l,l1,l2,rfl,p1,p2⟩:=hcut;have P:=Lib.hid p1;have PD:=Lib.hid p2;clear p1 p2
    have P0:=P.out;have hyl:ys.length=m:=by rw[P0.mix.len,HN.out]
    by_cases hkl:l<k
    ·have hkl':(l:Int)<k:=by omega
     have d1:=P0.mix.own.cell l (by omega);have d2:=P0.mix.own.cell a (by omega)
     have f1:=P0.mix.own.frozen (o+l);have f2:=P0.mix.own.frozen (o+a)
     have hgz:=P0.mix.own.lt;have g1:(l:Int)<m:=by omega
     have PE:=Lib.hid (P0.stop (show k=l+1 by omega) (by omega) (by omega) (by omega) (by rw[HN.out];exact hb));clear P0 hyl
     by_cases hla:l=a
     ·subst hla
      go_wp2_with fail
      go_region
      all_goals go_wp2_with fail
      all_goals go_ret2
      all_goals exact⟨l,true,rfl,_,PE.out.1,PE.out.2⟩
     ·have hne:¬ o+a=o+l:=by omega
      go_wp2_with fail
      go_region
      all_goals go_wp2_with fail
      all_goals go_ret2
      all_goals exact⟨l,true,rfl,_,PE.out.1,PE.out.2⟩
    ·have hkl':¬ (l:Int)<k:=by omega
     have hlt:k<l:=by
      have e1:=PI.out (by omega);have e2:=PD.out (by omega)
      by_cases e:k=l
      ·subst e;exact absurd e2 e1
      ·omega
     have d1:=P0.mix.own.cell k (by omega);have d2:=P0.mix.own.cell l (by omega)
     have f1:=P0.mix.own.frozen (o+k);have f2:=P0.mix.own.frozen (o+l)
     have hgz:=P0.mix.own.lt;have hne:¬ o+l=o+k:=by omega
     have g1:(k:Int)<m:=by omega
     have g2:(l:Int)<m:=by omega
     have PS:=Lib.hid (P0.swap (by omega) hlt (by omega) (by rw[HN.out];exact hb) (by have:=PI.out (by omega);omega) (by have:=PD.out (by omega);omega));clear P0 hyl;go_wp2_with fail
     go_region
     all_goals go_wp2_with fail
     go_loopw [10,11] (fun u v wr=>∃ i j:Nat,a<i∧i≤j+1∧j<b∧u = .int .i64 i∧v = .int .i64 j∧∃ ys,PtSt w g o c xs a b (· < ·) x i j ys wr) (fun u _ _=>b+1-(intOf u).toNat)
     case atStart=>exact⟨k+1,l-1,by omega,by omega,by omega,by go_num,by rw[show((l-1:Nat):Int)=(l:Int)-1 by omega],_,PS.out⟩
     case round=>
      clear P PI PD PS h1 h2 h3 k1 k2 l1 l2 hkl hkl' hlt d1 d2 f1 f2 hgz hne g1 g2 q6 q7;obtain⟨i,j,h1,h2,h3,rfl,rfl,ys,hP⟩:=hrel;have P:=Lib.hid hP;clear hP
      go_upto_block 6 with fail
      go_cut [10]from 99 to 114 (fun u wx=>∃ k:Nat,i≤k∧k≤j+1∧u = .int .i64 k∧PtSt w g o c xs a b (· < ·) x k j ys wx∧(k≤j→¬ at0 ys k<x))
      case first=>
       go_wp2_with fail
       go_loopw [10] (fun u wx=>∃ k:Nat,i≤k∧k≤j+1∧u = .int .i64 k∧PtSt w g o c xs a b (· < ·) x k j ys wx) (fun u _=>b+1-(intOf u).toNat)
       case atStart=>exact⟨i,by omega,by omega,rfl,P.out⟩
       case round=>
        clear P;obtain⟨k,k1,k2,rfl,hP⟩:=hrel;have hyl:ys.length=m:=by rw[hP.mix.len,HN.out]
        have P:=Lib.hid hP
        by_cases hkj:k≤j
        ·have hkj':(k:Int)≤j:=by omega
         have d1:=hP.mix.own.cell a (by omega);have d2:=hP.mix.own.cell k (by omega)
         rw[hP.piv]at d1;have g1:(k:Int)<m:=by omega
         clear hP hyl
         by_cases hl:at0 ys k<x
         ·have hd:decide (at0 ys k<x)=true:=by simpa using hl
          have LQ:=Lib.hid (less_is _ _ _ hd);have HL:=Lib.hid hl;clear hd hl
          go_wp2_with fail
          go_quiet ((go_at_call 241;exact Calls.quiet_of_same (LQ.out _)))
          go_wp2_with fail
          go_roundw
          case rel=>exact⟨k+1,by omega,by omega,by go_num,(P.out.drewN _).up HL.out⟩
          case measure=>simp[intOf];omega
         ·have hd:decide (at0 ys k<x)=false:=by simpa using hl
          have LQ:=Lib.hid (less_is _ _ _ hd);have HL:=Lib.hid hl;clear hd hl
          go_wp2_with fail
          go_quiet ((go_at_call 241;exact Calls.quiet_of_same (LQ.out _)))
          go_wp2_with fail
          go_meet
          exact⟨k,k1,k2,rfl,P.out.drewN _,fun _=>by have:=HL.out;omega⟩
        ·have hkj':decide ((k:Int)≤j)=false:=by simp;omega
         clear hP hyl;go_wp2_with fail
         go_quiet (fail)
         go_wp2_with fail
         go_meet
         exact⟨k,k1,k2,rfl,P.out.drewN _,fun h=>absurd h hkj⟩
      case rest=>
       clear P;obtain⟨k,k1,k2,rfl,p1,p2⟩:=hcut;have P:=Lib.hid p1;have PI:=Lib.hid p2;clear p1 p2
       go_upto_block 8 with fail
       go_cut [11]from 115 to 131 (fun u wx=>∃ l:Nat,k≤l+1∧l≤j∧u = .int .i64 l∧PtSt w g o c xs a b (· < ·) x k l ys wx∧(k≤l→at0 ys l<x))
       case first=>
        go_wp2_with fail
        go_loopw [11] (fun u wx=>∃ l:Nat,k≤l+1∧l≤j∧u = .int .i64 l∧PtSt w g o c xs a b (· < ·) x k l ys wx) (fun u _=>(intOf u).toNat)
        case atStart=>exact⟨j,by omega,by omega,rfl,P.out⟩
        case round=>
         clear P;obtain⟨l,l1,l2,rfl,hP⟩:=hrel;have hyl:ys.length=m:=by rw[hP.mix.len,HN.out]
         have P:=Lib.hid hP
         by_cases hkj:k≤l
         ·have hkj':(k:Int)≤l:=by omega
          have d1:=hP.mix.own.cell a (by omega);have d2:=hP.mix.own.cell l (by omega)
          rw[hP.piv]at d1;have g1:(l:Int)<m:=by omega
          clear hP hyl
          by_cases hl:at0 ys l<x
          ·have hd:decide (at0 ys l<x)=true:=by simpa using hl
           have LQ:=Lib.hid (less_is _ _ _ hd);have HL:=Lib.hid hl;clear hd hl
           go_wp2_with fail
           go_quiet ((go_at_call 241;exact Calls.quiet_of_same (LQ.out _)))
           go_wp2_with fail
           go_meet
           exact⟨l,l1,l2,rfl,P.out.drewN _,fun _=>by have:=HL.out;omega⟩
          ·have hd:decide (at0 ys l<x)=false:=by simpa using hl
           have LQ:=Lib.hid (less_is _ _ _ hd);have HL:=Lib.hid hl;clear hd hl
           go_wp2_with fail
           go_quiet ((go_at_call 241;exact Calls.quiet_of_same (LQ.out _)))
           go_wp2_with fail
           go_roundw
           case rel=>exact⟨l-1,by omega,by omega,by rw[show((l-1:Nat):Int)=(l:Int)-1 by omega],(P.out.drewN _).down (by omega) (by have:=HL.out;omega)⟩
           case measure=>simp[intOf];omega
         ·have hkj':decide ((k:Int)≤l)=false:=by simp;omega
          clear hP hyl;go_wp2_with fail
          go_quiet (fail)
          go_wp2_with fail
          go_meet
          exact⟨l,l1,l2,rfl,P.out.drewN _,fun h=>absurd h hkj⟩
       case rest=>
        clear P;obtain⟨l,l1,l2,rfl,p1,p2⟩:=hcut;have P:=Lib.hid p1;have PD:=Lib.hid p2;clear p1 p2
        have P0:=P.out;have hyl:ys.length=m:=by rw[P0.mix.len,HN.out]
        by_cases hkl:l<k
        ·have hkl':(l:Int)<k:=by omega
         have d1:=P0.mix.own.cell l (by omega);have d2:=P0.mix.own.cell a (by omega)
         have f1:=P0.mix.own.frozen (o+l);have f2:=P0.mix.own.frozen (o+a)
         have hgz:=P0.mix.own.lt;have g1:(l:Int)<m:=by omega
         have PE:=Lib.hid (P0.stop (show k=l+1 by omega) (by omega) (by omega) (by omega) (by rw[HN.out];exact hb));clear P0 hyl
         by_cases hla:l=a
         ·subst hla
          go_wp2_with fail
          go_region
          all_goals go_wp2_with fail
          all_goals go_ret2
          all_goals exact⟨l,false,rfl,_,PE.out.1,PE.out.2⟩
         ·have hne:¬ o+a=o+l:=by omega
          go_wp2_with fail
          go_region
          all_goals go_wp2_with fail
          all_goals go_ret2
          all_goals exact⟨l,false,rfl,_,PE.out.1,PE.out.2⟩
        ·have hkl':¬ (l:Int)<k:=by omega
         have hlt:k<l:=by
          have e1:=PI.out (by omega);have e2:=PD.out (by omega)
          by_cases e:k=l
          ·subst e;exact absurd e2 e1
          ·omega
         have d1:=P0.mix.own.cell k (by omega);have d2:=P0.mix.own.cell l (by omega)
         have f1:=P0.mix.own.frozen (o+k);have f2:=P0.mix.own.frozen (o+l)
         have hgz:=P0.mix.own.lt;have hne:¬ o+l=o+k:=by omega
         have g1:(k:Int)<m:=by omega
         have g2:(l:Int)<m:=by omega
         have PS:=Lib.hid (P0.swap (by omega) hlt (by omega) (by rw[HN.out];exact hb) (by have:=PI.out (by omega);omega) (by have:=PD.out (by omega);omega));clear P0 hyl;go_wp2_with fail
         go_region
         all_goals go_wp2_with fail
         all_goals
          go_roundw
          case rel=>exact⟨k+1,l-1,by omega,by omega,by omega,by go_num,by rw[show((l-1:Nat):Int)=(l:Int)-1 by omega],_,PS.out⟩
          case measure=>simp[intOf];omega
end
end

section
open Go.RowKit
section
variable{w:World}{g o c a b:Nat}{xs ys zs:List Int}{wr:World}
theorem LowB.mix(h:LowB xs a b)(hm:Mixed xs ys a b)(hb:b≤xs.length):LowB ys a b:=fun q h1 h2 h3=>by
 rw[hm.out (a-1) (.inl (by omega))];exact hm.all hb (P:=fun y=>at0 xs (a-1)≤y) (fun r h4 h5=>h r h4 h5 h3) q h1 h2
theorem asc_one(l:List Int)(a:Nat):ascOn l a (a+1):=fun p q h1 h2 h3=>by omega
theorem asc_next{l:List Int}{a i:Nat}(h:ascOn l a i)(hi:a<i)(hl:at0 l (i-1)≤at0 l i):ascOn l a (i+1):=fun p q h1 h2 h3=>by
 by_cases e:q=i
 ·subst e
  by_cases e2:p=q-1
  ·rw[e2];exact hl
  ·exact Int.le_trans (h p (q-1) h1 (by omega) (by omega)) hl
 ·exact h p q h1 h2 (by omega)
theorem asc_same{l m:List Int}{a i:Nat}(h:ascOn l a i)(he:∀ p,p<i→at0 m p=at0 l p):ascOn m a i:=fun p q h1 h2 h3=>by
 rw[he p (by omega),he q h3];exact h p q h1 h2 h3
structure PiSt(w:World)(g o c:Nat)(xs:List Int)(a b i:Nat)(ys:List Int)(wr:World):Prop where
 mix:MixSt w g o c xs a b ys wr
 asc:ascOn ys a i
theorem PiSt.drewN{i:Nat}(h:PiSt w g o c xs a b i ys wr)(n:Nat):PiSt w g o c xs a b i ys (wr.drewN n):=⟨h.mix.drewN n,h.asc⟩
def PiPost(w:World)(g o c:Nat)(xs:List Int)(a b:Nat)(r:Ending)(w':World):Prop:=∃ t:Bool,r = .returned (.bool t)∧∃ ys,MixSt w g o c xs a b ys w'∧(t=true→ascOn ys a b)
structure ShSt(w:World)(g o c:Nat)(xs:List Int)(a b k j:Nat)(ys:List Int)(wr:World):Prop where
 mix:MixSt w g o c xs a b ys wr
 ins:insInv ys a (k-1) j
theorem ShSt.drewN{k j:Nat}(h:ShSt w g o c xs a b k j ys wr)(n:Nat):ShSt w g o c xs a b k j ys (wr.drewN n):=⟨h.mix.drewN n,h.ins⟩
theorem ShSt.start{k:Nat}(h:PiSt w g o c xs a b k ys wr)(hk:a+1<k)(hkb:k<b)(hb:b≤xs.length) :
  ShSt w g o c xs a b k (k-1) (swp ys k (k-1)) ((wr.setCell ⟨g,o+k,none⟩ (.int .u64 (at0 ys (k-1)))).setCell ⟨g,o+(k-1),none⟩ (.int .u64 (at0 ys k))).drew:=by
 have hl:=h.mix.len;refine⟨h.mix.swap k (k-1) (by omega) hkb (by omega) (by omega) hb,insInv_start _ _ _ ?_⟩
 exact asc_same (fun p q h1 h2 h3=>h.asc p q h1 h2 (by omega)) (fun p hp=>by rw[at0_swp ys k (k-1) p (by omega) (by omega),if_neg (by omega),if_neg (by omega)])
theorem PiSt.swap0{k:Nat}(h:PiSt w g o c xs a b k ys wr)(hk:a+1=k)(hkb:k<b)(hb:b≤xs.length) :
  PiSt w g o c xs a b k (swp ys k (k-1)) ((wr.setCell ⟨g,o+k,none⟩ (.int .u64 (at0 ys (k-1)))).setCell ⟨g,o+(k-1),none⟩ (.int .u64 (at0 ys k))).drew:=
 ⟨h.mix.swap k (k-1) (by omega) hkb (by omega) (by omega) hb,by rw[← hk];exact asc_one _ _⟩
theorem PiSt.swapR{k j:Nat}(h:PiSt w g o c xs a b k ys wr)(hk:a<k)(hj:k<j)(hjb:j<b)(hb:b≤xs.length) :
  PiSt w g o c xs a b k (swp ys j (j-1)) ((wr.setCell ⟨g,o+j,none⟩ (.int .u64 (at0 ys (j-1)))).setCell ⟨g,o+(j-1),none⟩ (.int .u64 (at0 ys j))).drew:=by
 have hl:=h.mix.len;exact⟨h.mix.swap j (j-1) (by omega) hjb (by omega) (by omega) hb,asc_same h.asc (fun p hp=>by rw[at0_swp ys j (j-1) p (by omega) (by omega),if_neg (by omega),if_neg (by omega)])⟩
theorem ShSt.swap{k j:Nat}(h:ShSt w g o c xs a b k j ys wr)(haj:a<j)(hjk:j+1≤k)(hkb:k<b)(hb:b≤xs.length)(hl:at0 ys j<at0 ys (j-1)) :
  ShSt w g o c xs a b k (j-1) (swp ys j (j-1)) ((wr.setCell ⟨g,o+j,none⟩ (.int .u64 (at0 ys (j-1)))).setCell ⟨g,o+(j-1),none⟩ (.int .u64 (at0 ys j))).drew:=by
 have hlen:=h.mix.len;exact⟨h.mix.swap j (j-1) (by omega) (by omega) (by omega) (by omega) hb,insInv_step ys a (k-1) j h.ins haj (by omega) (by omega) hl⟩
theorem ShSt.stop{k j:Nat}(h:ShSt w g o c xs a b k j ys wr)(haj:a≤j)(hjk:j+1≤k)(hj:j=a∨at0 ys (j-1)≤at0 ys j):PiSt w g o c xs a b k ys wr:=
 ⟨h.mix,by have:=insInv_end ys a (k-1) j h.ins haj (by omega) hj;rwa [show k-1+1=k by omega]at this⟩
theorem partialInsertion_any(h:WrU w g o c xs)(hab:a<b)(hb:b≤xs.length)(hs:xs.length≤100000)(hlow:LowB xs a b) :
  Calls Tryz.prog 240 #[.slice (some ⟨g,o,none⟩) xs.length c,.int .i64 a,.int .i64 b] w (PiPost w g o c xs a b):=by
 have hm:=h.le;unfold maxLen at hm;have H:=Lib.hid (MixSt.refl h a b);have HB:=Lib.hid hb;have HLO:=Lib.hid hlow;clear h hlow
 generalize hn:xs.length=m at *
 have HN:=Lib.hid hn;clear hn
 go_enter Tryz.func240,Tryz.ntmps240
 go_wp2_with fail
 go_loopw [7,8] (fun u v wr=>∃ i n:Nat,a<i∧i≤b∧n≤5∧u = .int .i64 i∧v = .int .i64 n∧∃ ys,PiSt w g o c xs a b i ys wr) (fun _ v _=>5-(intOf v).toNat)
 case atStart=>exact⟨a+1,0,by omega,by omega,by omega,by go_num,rfl,xs,H.out,asc_one _ _⟩
 case round=>
  obtain⟨i,n,h1,h2,h3,rfl,rfl,ys,hP⟩:=hrel;have P:=Lib.hid hP;clear hP H
  by_cases hn5:n<5
  ·have hn5':(n:Int)<5:=by omega
   go_upto_block 2 with fail
   go_cut [7]from 17 to 34 (fun u wx=>∃ k:Nat,i≤k∧k≤b∧u = .int .i64 k∧PiSt w g o c xs a b k ys wx∧(k<b→at0 ys k<at0 ys (k-1)))
   case first=>
    go_wp2_with fail
    go_loopw [7] (fun u wx=>∃ k:Nat,i≤k∧k≤b∧u = .int .i64 k∧PiSt w g o c xs a b k ys wx) (fun u _=>b+1-(intOf u).toNat)
    case atStart=>exact⟨i,by omega,by omega,rfl,P.out⟩
    case round=>
     clear P;obtain⟨k,k1,k2,rfl,hP⟩:=hrel;have hyl:ys.length=m:=by rw[hP.mix.len,HN.out]
     have P:=Lib.hid hP
     by_cases hkb:k<b
     ·have hkb':(k:Int)<b:=by omega
      have d1:=hP.mix.own.cell k (by omega);have d2:=hP.mix.own.cell (k-1) (by omega)
      have g1:(k:Int)<m:=by omega
      have g2:(k:Int)-1<m:=by omega
      have g3:IntKind.i64.wrap ((k:Int)-1)=(k:Int)-1:=IntWalk.i64_in _ (by omega);have g4:((k:Int)-1).toNat=k-1:=by omega
      have g5:(0:Int)≤(k:Int)-1:=by omega
      have g6:(1:Int)≤(k:Int):=by omega
      clear hP hyl
      by_cases hl:at0 ys k<at0 ys (k-1)
      ·have hd:decide (at0 ys k<at0 ys (k-1))=true:=by simpa using hl
       have LQ:=Lib.hid (less_is _ _ _ hd);have HL:=Lib.hid hl;clear hd hl
       go_wp2_with fail
       go_quiet ((go_at_call 241;exact Calls.quiet_of_same (LQ.out _)))
       go_wp2_with fail
       go_meet
       exact⟨k,k1,k2,rfl,P.out.drewN _,fun _=>HL.out⟩
      ·have hd:decide (at0 ys k<at0 ys (k-1))=false:=by simpa using hl
       have LQ:=Lib.hid (less_is _ _ _ hd);have HL:=Lib.hid hl;clear hd hl
       go_wp2_with fail
       go_quiet ((go_at_call 241;exact Calls.quiet_of_same (LQ.out _)))
       go_wp2_with fail
       go_roundw
       case rel=>exact⟨k+1,by omega,by omega,by go_num,(P.out.drewN _).mix,asc_next P.out.asc (by omega) (by have:=HL.out;omega)⟩
       case measure=>simp[intOf];omega
     ·have hkb':decide ((k:Int)<b)=false:=by simp;omega
      clear hP hyl;go_wp2_with fail
      go_quiet (fail)
      go_wp2_with fail
      go_meet
      exact⟨k,k1,k2,rfl,P.out.drewN _,fun h=>absurd h hkb⟩
   case rest=>
    clear P;obtain⟨k,k1,k2,rfl,p1,p2⟩:=hcut;have P:=Lib.hid p1;have PI:=Lib.hid p2;clear p2
    have hyl:ys.length=m:=by rw[p1.mix.len,HN.out]
    by_cases hkb:k=b
    ·subst hkb
     clear p1 hyl;go_wp2_with fail
     go_ret
     exact⟨true,rfl,ys,P.out.mix,fun _=>P.out.asc⟩
    ·have hkb':((k:Int)==b)=false:=by simp;omega
     by_cases h50:b<a+50
     ·have h50':(b:Int)-a<50:=by omega
      clear p1 hyl;go_wp2_with fail
      go_ret
      exact⟨false,rfl,ys,P.out.mix,fun h=>by cases h⟩
     ·have h50':¬ (b:Int)-a<50:=by omega
      have d1:=p1.mix.own.cell k (by omega);have d2:=p1.mix.own.cell (k-1) (by omega)
      have f1:=p1.mix.own.frozen (o+k);have f2:=p1.mix.own.frozen (o+(k-1))
      have hgz:=p1.mix.own.lt;have hne:¬ o+(k-1)=o+k:=by omega
      have g1:(k:Int)<m:=by omega
      have g2:(k:Int)-1<m:=by omega
      have g3:IntKind.i64.wrap ((k:Int)-1)=(k:Int)-1:=IntWalk.i64_in _ (by omega);have g4:((k:Int)-1).toNat=k-1:=by omega
      have g5:(0:Int)≤(k:Int)-1:=by omega
      have g6:(1:Int)≤(k:Int):=by omega
      clear p1 hyl;have PS0:=Lib.hid (fun hk1=>P.out.swap0 hk1 (by omega) (by rw[HN.out];exact hb));have PS1:=Lib.hid (fun hk1=>ShSt.start P.out hk1 (by omega) (by rw[HN.out];exact hb));go_wp2_with fail
      go_region
      go_upto_if 61 with fail
      clear d1 d2 f1 f2 hgz hne g1 g2 g3 g4 g5 g6
      go_cut [9]from 61 to 94 (fun _ wx=>∃ zs,PiSt w g o c xs a b k zs wx)
      case first=>
       by_cases hk1:a+1=k
       ·have hk1':¬ (2:Int)≤(k:Int)-a:=by omega
        go_wp2_with fail
        go_meet
        exact⟨_,PS0.out hk1⟩
       ·have hk1':(2:Int)≤(k:Int)-a:=by omega
        have PS:=Lib.hid (PS1.out (by omega));go_wp2_with fail
        go_loopw [9] (fun u wx=>∃ j:Nat,a≤j∧j+1≤k∧u = .int .i64 j∧∃ zs,ShSt w g o c xs a b k j zs wx) (fun u _=>(intOf u).toNat)
        case atStart=>exact⟨k-1,by omega,by omega,by rw[show((k-1:Nat):Int)=(k:Int)-1 by omega],_,PS.out⟩
        case round=>
         clear PS PS0 PS1;obtain⟨j,j1,j2,rfl,zs,hS⟩:=hrel;have hzl:zs.length=m:=by rw[hS.mix.len,HN.out]
         have S:=Lib.hid hS;have LB:=Lib.hid (HLO.out.mix hS.mix.mix (by rw[HN.out];exact hb))
         by_cases hj0:j=0
         ·subst hj0
          clear hS hzl;go_wp2_with fail
          go_meet
          exact⟨_,S.out.stop j1 j2 (.inl (by omega))⟩
         ·have hj0':(1:Int)≤j:=by omega
          have d1:=hS.mix.own.cell j (by omega);have d2:=hS.mix.own.cell (j-1) (by omega)
          have f1:=hS.mix.own.frozen (o+j);have f2:=hS.mix.own.frozen (o+(j-1))
          have hgz:=hS.mix.own.lt;have hne:¬ o+(j-1)=o+j:=by omega
          have g1:(j:Int)<m:=by omega
          have g2:(j:Int)-1<m:=by omega
          have g3:IntKind.i64.wrap ((j:Int)-1)=(j:Int)-1:=IntWalk.i64_in _ (by omega);have g4:((j:Int)-1).toNat=j-1:=by omega
          have g5:(0:Int)≤(j:Int)-1:=by omega
          clear hS hzl
          by_cases hl:at0 zs j<at0 zs (j-1)
          ·have hja:a<j:=by
            rcases Nat.lt_or_ge a j with h | h
            ·exact h
            ·have hja:j=a:=by omega
             subst hja;have:=LB.out j (Nat.le_refl _) (by omega) (by omega);omega
           have hd:decide (at0 zs j<at0 zs (j-1))=true:=by simpa using hl
           have LQ:=Lib.hid (less_is _ _ _ hd);have HL:=Lib.hid hl;clear hd hl
           go_wp2_with fail
           go_quiet ((go_at_call 241;exact Calls.quiet_of_same (LQ.out _)))
           go_wp2_with fail
           obtain⟨wq,hwq⟩:∃ wq,wr.drewN nq=wq:=⟨_,rfl⟩;rw[hwq];have S2:Hid (ShSt w g o c xs a b k j zs wq):=Lib.hid (by rw[← hwq];exact S.out.drewN _);clear hwq d1 d2 f1 f2 hgz;have d1:=S2.out.mix.own.cell j (by rw[S2.out.mix.len,HN.out];omega);have d2:=S2.out.mix.own.cell (j-1) (by rw[S2.out.mix.len,HN.out];omega)
           have f1:=S2.out.mix.own.frozen (o+j);have f2:=S2.out.mix.own.frozen (o+(j-1))
           have hgz:=S2.out.mix.own.lt
           go_region
           all_goals go_wp2_with fail
           all_goals
            go_roundw
            case rel=>exact⟨j-1,by omega,by omega,by rw[show((j-1:Nat):Int)=(j:Int)-1 by omega],_,S2.out.swap hja j2 (by omega) (by rw[HN.out];exact hb) HL.out⟩
            case measure=>simp[intOf];omega
          ·have hd:decide (at0 zs j<at0 zs (j-1))=false:=by simpa using hl
           have LQ:=Lib.hid (less_is _ _ _ hd);have HL:=Lib.hid hl;clear hd hl
           go_wp2_with fail
           go_quiet ((go_at_call 241;exact Calls.quiet_of_same (LQ.out _)))
           go_wp2_with fail
           go_meet
           exact⟨_,(S.out.drewN _).stop j1 j2 (.inr (by have:=HL.out;omega))⟩
      case rest=>
       clear P PS0 PS1;obtain⟨zs,p1⟩:=hcut;have P:=Lib.hid p1;clear p1
       by_cases hk2:b<k+2
       ·have hk2':¬ (2:Int)≤(b:Int)-k:=by omega
        go_wp2_with fail
        go_roundw
        case rel=>exact⟨k,n+1,by omega,k2,by omega,rfl,by go_num,_,P.out⟩
        case measure=>simp[intOf];omega
       ·have hk2':(2:Int)≤(b:Int)-k:=by omega
        go_wp2_with fail
        go_loopw [10] (fun u wx=>∃ j:Nat,k<j∧j≤b∧u = .int .i64 j∧∃ zs,PiSt w g o c xs a b k zs wx) (fun u _=>b-(intOf u).toNat)
        case atStart=>exact⟨k+1,by omega,by omega,by go_num,_,P.out⟩
        case round=>
         clear P;obtain⟨j,j1,j2,rfl,zs,hS⟩:=hrel;have hzl:zs.length=m:=by rw[hS.mix.len,HN.out]
         have S:=Lib.hid hS
         by_cases hjb:j<b
         ·have hjb':(j:Int)<b:=by omega
          have d1:=hS.mix.own.cell j (by omega);have d2:=hS.mix.own.cell (j-1) (by omega)
          have f1:=hS.mix.own.frozen (o+j);have f2:=hS.mix.own.frozen (o+(j-1))
          have hgz:=hS.mix.own.lt;have hne:¬ o+(j-1)=o+j:=by omega
          have g1:(j:Int)<m:=by omega
          have g2:(j:Int)-1<m:=by omega
          have g3:IntKind.i64.wrap ((j:Int)-1)=(j:Int)-1:=IntWalk.i64_in _ (by omega);have g4:((j:Int)-1).toNat=j-1:=by omega
          have g5:(0:Int)≤(j:Int)-1:=by omega
          have g6:(1:Int)≤(j:Int):=by omega
          clear hS hzl
          by_cases hl:at0 zs j<at0 zs (j-1)
          ·have hd:decide (at0 zs j<at0 zs (j-1))=true:=by simpa using hl
           have LQ:=Lib.hid (less_is _ _ _ hd);have HL:=Lib.hid hl;clear hd hl
           go_wp2_with fail
           go_quiet ((go_at_call 241;exact Calls.quiet_of_same (LQ.out _)))
           go_wp2_with fail
           obtain⟨wq,hwq⟩:∃ wq,wr.drewN nq=wq:=⟨_,rfl⟩;rw[hwq];have S2:Hid (PiSt w g o c xs a b k zs wq):=Lib.hid (by rw[← hwq];exact S.out.drewN _);clear hwq d1 d2 f1 f2 hgz;have d1:=S2.out.mix.own.cell j (by rw[S2.out.mix.len,HN.out];omega);have d2:=S2.out.mix.own.cell (j-1) (by rw[S2.out.mix.len,HN.out];omega)
           have f1:=S2.out.mix.own.frozen (o+j);have f2:=S2.out.mix.own.frozen (o+(j-1))
           have hgz:=S2.out.mix.own.lt
           go_region
           all_goals go_wp2_with fail
           all_goals
            go_roundw
            case rel=>exact⟨j+1,by omega,by omega,by go_num,_,S2.out.swapR (by omega) j1 hjb (by rw[HN.out];exact hb)⟩
            case measure=>simp[intOf];omega
          ·have hd:decide (at0 zs j<at0 zs (j-1))=false:=by simpa using hl
           have LQ:=Lib.hid (less_is _ _ _ hd);have HL:=Lib.hid hl;clear hd hl
           go_wp2_with fail
           go_quiet ((go_at_call 241;exact Calls.quiet_of_same (LQ.out _)))
           go_wp2_with fail
           go_roundw
           case rel=>exact⟨k,n+1,by omega,k2,by omega,rfl,by go_num,_,S.out.drewN _⟩
           case measure=>simp[intOf];omega
         ·have hjb':¬ (j:Int)<b:=by omega
          clear hS hzl;go_wp2_with fail
          go_roundw
          case rel=>exact⟨k,n+1,by omega,k2,by omega,rfl,by go_num,_,S.out⟩
          case measure=>simp[intOf];omega
  ·have hn5':¬ (n:Int)<5:=by omega
   go_wp2_with fail
   go_ret
   exact⟨false,rfl,ys,P.out.mix,fun h=>by cases h⟩
end
end

section
open Go.RowKit
section
variable{w:World}{g o c a b:Nat}{xs ys zs:List Int}{wr:World}
structure PqSt(w:World)(g o c:Nat)(xs:List Int)(a b a' b':Nat)(ys:List Int)(wr:World):Prop where
 mix:MixSt w g o c xs a b ys wr
 sand:Sand ys a a' b' b
variable{a' b':Nat}
theorem PqSt.sub{w2:World}(h:PqSt w g o c xs a b a' b' ys wr)(k:MixSt wr g o c ys a' b' zs w2)(ha:a≤a')(hb':b'≤b)(hb:b≤xs.length):PqSt w g o c xs a b a' b' zs w2:=
 ⟨h.mix.trans (k.mono ha hb'),h.sand.mix ha hb' k.mix (by rw[h.mix.len];omega)⟩
theorem PqSt.later{w2:World}(h:PqSt w g o c xs a b a' b' ys wr)(k:Upd (fun _=>False) wr w2):PqSt w g o c xs a b a' b' ys w2:=⟨h.mix.later k,h.sand⟩
theorem PqSt.drewN(h:PqSt w g o c xs a b a' b' ys wr)(n:Nat):PqSt w g o c xs a b a' b' ys (wr.drewN n):=⟨h.mix.drewN n,h.sand⟩
theorem PqSt.done{w2:World}(h:PqSt w g o c xs a b a' b' ys wr)(k:SortPost wr g o c ys a' b' w2)(ha:a≤a')(hb':b'≤b)(hb:b≤xs.length):SortPost w g o c xs a b w2:=by
 obtain⟨zs,m1,s1,o1,u1⟩:=k;have h2:=h.sub (zs:=zs) (w2:=w2) ⟨m1,o1,u1⟩ ha hb' hb;exact⟨zs,h2.mix.mix,h2.sand.done s1,h2.mix.own,h2.mix.upd⟩
theorem insertion_at{m:Nat}(h:WrU w g o c xs)(hl:xs.length=m)(hab:a≤b)(hb:b≤m)(hs:m≤100000) :
  Calls Tryz.prog 235 #[.slice (some ⟨g,o,none⟩) m c,.int .i64 a,.int .i64 b] w fun r w'=>r = .returned (.tuple #[])∧SortPost w g o c xs a b w':=by
 subst hl;exact insertion_any g o c a b xs h hab hb (by omega)
theorem heapSort_at{m:Nat}(h:WrU w g o c xs)(hl:xs.length=m)(hab:a<b)(hb:b≤m)(hs:m≤100000) :
  Calls Tryz.prog 236 #[.slice (some ⟨g,o,none⟩) m c,.int .i64 a,.int .i64 b] w fun r w'=>r = .returned (.tuple #[])∧SortPost w g o c xs a b w':=by
 subst hl;exact heapSort_any h hab hb hs
theorem break_at{m:Nat}(h:WrU w g o c xs)(hl:xs.length=m)(hab:a+8≤b)(hb:b≤m)(hs:m≤100000) :
  Calls Tryz.prog 237 #[.slice (some ⟨g,o,none⟩) m c,.int .i64 a,.int .i64 b] w fun r w'=>r = .returned (.tuple #[])∧∃ ys,MixSt w g o c xs a b ys w':=by
 subst hl;exact breakPatterns_any h hab hb hs
theorem reverse_at{m:Nat}(h:WrU w g o c xs)(hl:xs.length=m)(hab:a<b)(hb:b≤m)(hs:m≤100000) :
  Calls Tryz.prog 239 #[.slice (some ⟨g,o,none⟩) m c,.int .i64 a,.int .i64 b] w fun r w'=>r = .returned (.tuple #[])∧∃ ys,MixSt w g o c xs a b ys w':=by
 subst hl;exact reverse_any h hab hb (by omega)
theorem choose_at{m:Nat}(h:WrU w g o c xs)(hl:xs.length=m)(hab:a+8≤b)(hb:b≤m)(hs:m≤100000) :
  Calls Tryz.prog 238 #[.slice (some ⟨g,o,none⟩) m c,.int .i64 a,.int .i64 b] w fun r w'=>∃ (x:Nat) (y:Int),r = .returned (.tuple #[.int .i64 x,.int .i64 y])∧(a≤x∧x<b)∧(y=0∨y=1∨y=2)∧Upd (fun _=>False) w w':=by
 subst hl;exact choosePivot_any h hab hb hs
theorem partial_at{m:Nat}(h:WrU w g o c xs)(hl:xs.length=m)(hab:a<b)(hb:b≤m)(hs:m≤100000)(hlow:LowB xs a b) :
  Calls Tryz.prog 240 #[.slice (some ⟨g,o,none⟩) m c,.int .i64 a,.int .i64 b] w (PiPost w g o c xs a b):=by
 subst hl;exact partialInsertion_any h hab hb hs hlow
theorem partEq_at{m:Nat}(h:WrU w g o c xs)(hl:xs.length=m)(p:Nat)(hp:a≤p∧p<b)(hb:b≤m)(hs:m≤100000) :
  Calls Tryz.prog 242 #[.slice (some ⟨g,o,none⟩) m c,.int .i64 a,.int .i64 b,.int .i64 p] w fun r w'=>∃ k:Nat,r = .returned (.int .i64 k)∧∃ ys,MixSt w g o c xs a b ys w'∧PartedEq ys a k b (at0 xs p):=by
 subst hl;exact partitionEqual_any h p hp hb hs
theorem part_at{m:Nat}(h:WrU w g o c xs)(hl:xs.length=m)(p:Nat)(hp:a≤p∧p<b)(hb:b≤m)(hs:m≤100000) :
  Calls Tryz.prog 243 #[.slice (some ⟨g,o,none⟩) m c,.int .i64 a,.int .i64 b,.int .i64 p] w fun r w'=>∃ (k:Nat) (t:Bool),r = .returned (.tuple #[.int .i64 k,.bool t])∧∃ ys,MixSt w g o c xs a b ys w'∧Parted ys a k b:=by
 subst hl;exact partition_any h p hp hb hs
theorem pdq_any(n:Nat):∀ {w:World} {xs:List Int} {a b:Nat} (lim:Nat),b-a=n→WrU w g o c xs→a≤b→b≤xs.length→xs.length≤100000→lim≤64→LowB xs a b →
  Calls Tryz.prog 220 #[.slice (some ⟨g,o,none⟩) xs.length c,.int .i64 a,.int .i64 b,.int .i64 lim] w fun r w'=>r = .returned (.tuple #[])∧SortPost w g o c xs a b w':=by
 induction n using Nat.strongRecOn with
 | ind n ih=>
 intro w xs a b lim hn0 h hab hb hs hlim hlow;have HIH:=Lib.hid ih;clear ih
 have hm:=h.le;unfold maxLen at hm;have H:Hid (PqSt w g o c xs a b a b xs w):=Lib.hid ⟨MixSt.refl h a b,Sand.start hlow⟩;have HB:=Lib.hid hb;have HN0:=Lib.hid hn0;clear h hlow hn0
 generalize hn:xs.length=m at *
 have HN:=Lib.hid hn;clear hn
 go_enter Tryz.func220,Tryz.ntmps220
 go_wp2_with fail
 go_loopw [1,2,3,8,9] (fun u v z s t wr=>∃ (a' b' l:Nat) (t1 t2:Bool),a≤a'∧a'≤b'∧b'≤b∧l≤64∧u = .int .i64 a'∧v = .int .i64 b'∧z = .int .i64 l∧s = .bool t1∧t = .bool t2∧∃ ys,PqSt w g o c xs a b a' b' ys wr) (fun u v _ _ _ _=>(intOf v-intOf u).toNat)
 case atStart=>exact⟨a,b,lim,true,true,Nat.le_refl _,hab,Nat.le_refl _,hlim,rfl,rfl,rfl,rfl,rfl,xs,H.out⟩
 case round=>
  obtain⟨a',b',l,t1,t2,ha,hab',hb',hl,rfl,rfl,rfl,rfl,rfl,ys,hP⟩:=hrel;have P:=Lib.hid hP;clear hP H
  have HBX:Hid (b≤xs.length):=Lib.hid (by rw[HN.out];exact hb);have YL:Hid (ys.length=m):=Lib.hid (by rw[P.out.mix.len,HN.out])
  by_cases h12:b'≤a'+12
  ·have h12':(b':Int)-a'≤12:=by omega
   go_wp2_with fail
   (with_reducible refine(insertion_at P.out.mix.own YL.out hab' (by omega) hs).mono ?_)
   rintro e w1 ⟨rfl,hp⟩;have HQ:=Lib.hid (P.out.done hp ha hb' HBX.out);clear hp
   go_wp2_with fail
   (try simp only[Exit.inBlock,Exit.then]);refine bodyPost_ret (results_none rfl _ _ _) rfl ?_
   exact⟨rfl,HQ.out⟩
  ·have h12':¬ (b':Int)-a'≤12:=by omega
   by_cases hl0:l=0
   ·subst hl0
    go_wp2_with fail
    (with_reducible refine(heapSort_at P.out.mix.own YL.out (by omega) (by omega) hs).mono ?_)
    rintro e w1 ⟨rfl,hp⟩;have HQ:=Lib.hid (P.out.done hp ha hb' HBX.out);clear hp
    go_wp2_with fail
    (try simp only[Exit.inBlock,Exit.then]);refine bodyPost_ret (results_none rfl _ _ _) rfl ?_
    exact⟨rfl,HQ.out⟩
   ·have hl0':((l:Int)==0)=false:=by simp;omega
    go_upto_if 35 with fail
    go_cut [3]from 35 to 41 (fun u wx=>∃ l':Nat,l'≤64∧u = .int .i64 l'∧∃ ys,PqSt w g o c xs a b a' b' ys wx)
    case first=>
     cases t1
     ·go_wp2_with fail
      (with_reducible refine(break_at P.out.mix.own YL.out (by omega) (by omega) hs).mono ?_)
      rintro e w1 ⟨rfl,zs,hp⟩;have HQ:=Lib.hid (P.out.sub hp ha hb' HBX.out);clear hp
      go_wp2_with fail
      go_meet
      exact⟨l-1,by omega,by rw[show((l-1:Nat):Int)=(l:Int)-1 by omega],_,HQ.out⟩
     ·go_wp2_with fail
      go_meet
      exact⟨l,hl,rfl,_,P.out⟩
    case rest=>
     clear P YL hl0 hl0';obtain⟨l',hl',rfl,ys,hP⟩:=hcut;have P:=Lib.hid hP;clear hP
     have YL:Hid (ys.length=m):=Lib.hid (by rw[P.out.mix.len,HN.out]);go_wp2_with fail
     (with_reducible refine(choose_at P.out.mix.own YL.out (by omega) (by omega) hs).mono ?_)
     rintro e w2 ⟨p,y,rfl,hp,hy,hU⟩;have P2:=Lib.hid (P.out.later hU);clear hU P
     go_upto_if 50 with fail
     go_cut [11,12]from 50 to 60 (fun u v wx=>∃ (p':Nat) (y':Int),u = .int .i64 p'∧v = .int .i64 y'∧(a'≤p'∧p'<b')∧(y'=0∨y'=1)∧∃ ys,PqSt w g o c xs a b a' b' ys wx)
     case first=>
      rcases hy with rfl | rfl | rfl
      ·go_wp2_with fail
       go_meet
       exact⟨p,0,rfl,rfl,hp,.inl rfl,_,P2.out⟩
      ·go_wp2_with fail
       go_meet
       exact⟨p,1,rfl,rfl,hp,.inr rfl,_,P2.out⟩
      ·go_wp2_with fail
       (with_reducible refine(reverse_at P2.out.mix.own YL.out (by omega) (by omega) hs).mono ?_)
       rintro e w3 ⟨rfl,zs,hq⟩;have P3:=Lib.hid (P2.out.sub hq ha hb' HBX.out);clear hq
       go_wp2_with fail
       go_meet
       exact⟨b'-1-(p-a'),1,by rw[show((b'-1-(p-a'):Nat):Int)=(b':Int)-1-((p:Int)-a')by omega],rfl,by omega,.inr rfl,_,P3.out⟩
     case rest=>
      clear P2 YL hy hp;obtain⟨p,y,rfl,rfl,hp,hy,ys,hP⟩:=hcut;have P:=Lib.hid hP;clear hP
      have YL:Hid (ys.length=m):=Lib.hid (by rw[P.out.mix.len,HN.out]);obtain⟨wd,hwd⟩:∃ x:World,x=wc:=⟨_,rfl⟩;subst hwd
      go_upto_region 15 with fail
      go_cut [68]from 61 to 67 (fun t wx=>t = .bool (t1&&t2&&(y==1))∧wd=wx)
      case first=>
       rcases hy with rfl | rfl <;> cases t1 <;> cases t2
       all_goals go_wp2_with fail
       all_goals go_meet
       all_goals exact⟨rfl,rfl⟩
      obtain⟨hc1,rfl⟩:=hcut;subst hc1
      generalize (t1&&t2&&(y==1))=tt
      go_upto_if 68 with fail
      go_cut []from 68 to 72 (fun wx=>∃ ys,PqSt w g o c xs a b a' b' ys wx)
      case first=>
       cases tt
       ·go_wp2_with fail
        go_meet
        exact⟨_,P.out⟩
       ·go_wp2_with fail
        (with_reducible refine(partial_at P.out.mix.own YL.out (by omega) (by omega) hs (P.out.sand.low ha hb')).mono ?_)
        rintro e w3 ⟨t,rfl,zs,hq,hqs⟩;have P3:=Lib.hid (P.out.sub hq ha hb' HBX.out);have HQ:=Lib.hid (And.intro hq hqs);clear hq hqs
        cases t
        ·go_wp2_with fail
         go_meet
         exact⟨_,P3.out⟩
        ·go_wp2_with fail
         (try simp only[Exit.inBlock,Exit.then]);refine bodyPost_ret (results_none rfl _ _ _) rfl ?_
         exact⟨rfl,zs,P3.out.mix.mix,P3.out.sand.done (by first | exact HQ.out.2 rfl | exact HQ.out.2 trivial),P3.out.mix.own,P3.out.mix.upd⟩
      case rest=>
       clear P YL hy;obtain⟨ys,hP⟩:=hcut;have P:=Lib.hid hP;have YL:Hid (ys.length=m):=Lib.hid (by rw[P.out.mix.len,HN.out]);have hyl:=YL.out;have c2:=hP.mix.own.cell p (by omega);have b2:(p:Int)<m:=by omega
       have hgz:=hP.mix.own.lt
       by_cases ha0:a'=0
       ·have ha0':decide ((0:Int)<a')=false:=by simp;omega
        have ha0n:¬ 0<a':=by omega
        clear ha0;clear hP hyl;go_wp2_with fail
        go_quiet (fail)
        go_wp2_with fail
        (with_reducible refine(part_at (P.out.drewN _).mix.own YL.out p hp (by omega) hs).mono ?_)
        rintro e w3 ⟨k,t,rfl,zs,hq,hqe⟩;have P3:=Lib.hid ((P.out.drewN _).sub hq ha hb' HBX.out);have QE:=Lib.hid hqe;have hk1:=hqe.1;have hk2:=hqe.2.1;clear hq hqe
        have YL3:Hid (zs.length=m):=Lib.hid (by rw[P3.out.mix.len,HN.out])
        by_cases hlr:k-a'<b'-k
        ·have hlr':(k:Int)-a'<(b':Int)-k:=by omega
         have hpq:=HIH.out (k-a') (by have:=HN0.out;omega) l' rfl P3.out.mix.own hk1 (by rw[YL3.out];omega) (by rw[YL3.out];exact hs) hl' (P3.out.sand.lowL QE.out ha hb');rw[YL3.out]at hpq;have HPQ:=Lib.hid hpq;clear hpq
         go_wp2_with fail
         (with_reducible refine HPQ.out.mono ?_)
         rintro e w4 ⟨rfl,us,m4,s4,o4,u4⟩;have P4:Hid (PqSt w g o c xs a b (k+1) b' us w4):=Lib.hid ⟨P3.out.mix.trans (MixSt.mono ⟨m4,o4,u4⟩ ha (by omega)),P3.out.sand.left ha hb' QE.out m4 s4 (by rw[YL3.out];omega)⟩;clear m4 s4 o4 u4;go_wp2_with fail
         go_roundw
         case rel=>exact⟨k+1,b',l',_,t,by omega,by omega,hb',hl',by go_num,rfl,rfl,rfl,rfl,us,P4.out⟩
         case measure=>simp[intOf];omega
        ·have hlr':¬ (k:Int)-a'<(b':Int)-k:=by omega
         have hpq:=HIH.out (b'-(k+1)) (by have:=HN0.out;omega) l' rfl P3.out.mix.own (by omega) (by rw[YL3.out];omega) (by rw[YL3.out];exact hs) hl' QE.out.lowR;rw[YL3.out,show((k+1:Nat):Int)=(k:Int)+1 by omega]at hpq;have HPQ:=Lib.hid hpq;clear hpq
         go_wp2_with fail
         (with_reducible refine HPQ.out.mono ?_)
         rintro e w4 ⟨rfl,us,m4,s4,o4,u4⟩;have P4:Hid (PqSt w g o c xs a b a' k us w4):=Lib.hid ⟨P3.out.mix.trans (MixSt.mono ⟨m4,o4,u4⟩ (by omega) hb'),P3.out.sand.right ha hb' QE.out m4 s4 (by rw[YL3.out];omega)⟩;clear m4 s4 o4 u4;go_wp2_with fail
         go_roundw
         case rel=>exact⟨a',k,l',_,t,ha,hk1,by omega,hl',rfl,rfl,rfl,rfl,rfl,us,P4.out⟩
         case measure=>simp[intOf];omega
       ·have ha0':0<a':=by omega
        have c1:=hP.mix.own.cell (a'-1) (by omega);have g2:(a':Int)-1<m:=by omega
        have g3:IntKind.i64.wrap ((a':Int)-1)=(a':Int)-1:=IntWalk.i64_in _ (by omega);have g4:((a':Int)-1).toNat=a'-1:=by omega
        have g5:(0:Int)≤(a':Int)-1:=by omega
        have g6:(1:Int)≤(a':Int):=by omega
        clear hP hyl
        by_cases hl:at0 ys (a'-1)<at0 ys p
        ·have hd:decide (at0 ys (a'-1)<at0 ys p)=true:=by simpa using hl
         have LQ:=Lib.hid (less_is _ _ _ hd);clear hd hl
         go_wp2_with fail
         go_quiet ((go_at_call 241;exact Calls.quiet_of_same (LQ.out _)))
         go_wp2_with fail
         (with_reducible refine(part_at (P.out.drewN _).mix.own YL.out p hp (by omega) hs).mono ?_)
         rintro e w3 ⟨k,t,rfl,zs,hq,hqe⟩;have P3:=Lib.hid ((P.out.drewN _).sub hq ha hb' HBX.out);have QE:=Lib.hid hqe;have hk1:=hqe.1;have hk2:=hqe.2.1;clear hq hqe
         have YL3:Hid (zs.length=m):=Lib.hid (by rw[P3.out.mix.len,HN.out])
         by_cases hlr:k-a'<b'-k
         ·have hlr':(k:Int)-a'<(b':Int)-k:=by omega
          have hpq:=HIH.out (k-a') (by have:=HN0.out;omega) l' rfl P3.out.mix.own hk1 (by rw[YL3.out];omega) (by rw[YL3.out];exact hs) hl' (P3.out.sand.lowL QE.out ha hb');rw[YL3.out]at hpq;have HPQ:=Lib.hid hpq;clear hpq
          go_wp2_with fail
          (with_reducible refine HPQ.out.mono ?_)
          rintro e w4 ⟨rfl,us,m4,s4,o4,u4⟩;have P4:Hid (PqSt w g o c xs a b (k+1) b' us w4):=Lib.hid ⟨P3.out.mix.trans (MixSt.mono ⟨m4,o4,u4⟩ ha (by omega)),P3.out.sand.left ha hb' QE.out m4 s4 (by rw[YL3.out];omega)⟩;clear m4 s4 o4 u4;go_wp2_with fail
          go_roundw
          case rel=>exact⟨k+1,b',l',_,t,by omega,by omega,hb',hl',by go_num,rfl,rfl,rfl,rfl,us,P4.out⟩
          case measure=>simp[intOf];omega
         ·have hlr':¬ (k:Int)-a'<(b':Int)-k:=by omega
          have hpq:=HIH.out (b'-(k+1)) (by have:=HN0.out;omega) l' rfl P3.out.mix.own (by omega) (by rw[YL3.out];omega) (by rw[YL3.out];exact hs) hl' QE.out.lowR;rw[YL3.out,show((k+1:Nat):Int)=(k:Int)+1 by omega]at hpq;have HPQ:=Lib.hid hpq;clear hpq
          go_wp2_with fail
          (with_reducible refine HPQ.out.mono ?_)
          rintro e w4 ⟨rfl,us,m4,s4,o4,u4⟩;have P4:Hid (PqSt w g o c xs a b a' k us w4):=Lib.hid ⟨P3.out.mix.trans (MixSt.mono ⟨m4,o4,u4⟩ (by omega) hb'),P3.out.sand.right ha hb' QE.out m4 s4 (by rw[YL3.out];omega)⟩;clear m4 s4 o4 u4;go_wp2_with fail
          go_roundw
          case rel=>exact⟨a',k,l',_,t,ha,hk1,by omega,hl',rfl,rfl,rfl,rfl,rfl,us,P4.out⟩
          case measure=>simp[intOf];omega
        ·have hd:decide (at0 ys (a'-1)<at0 ys p)=false:=by simpa using hl
         have LQ:=Lib.hid (less_is _ _ _ hd);have HL:=Lib.hid hl;clear hd hl
         go_wp2_with fail
         go_quiet ((go_at_call 241;exact Calls.quiet_of_same (LQ.out _)))
         go_wp2_with fail
         (with_reducible refine(partEq_at (P.out.drewN _).mix.own YL.out p hp (by omega) hs).mono ?_)
         rintro e w3 ⟨k,rfl,zs,hq,hqe⟩;have P3:Hid (PqSt w g o c xs a b k b' zs w3):=Lib.hid ⟨((P.out.drewN _).sub hq ha hb' HBX.out).mix,P.out.sand.eq ha hb' hq.mix hqe (by have:=HL.out;omega) (by omega) (by rw[YL.out];omega)⟩;have hk:=And.intro hqe.1 hqe.2.1;clear hq hqe;go_wp2_with fail
         go_roundw
         case rel=>exact⟨k,b',l',t1,t2,by omega,by omega,hb',hl',rfl,rfl,rfl,rfl,rfl,zs,P3.out⟩
         case measure=>simp[intOf];omega
theorem bitsLen_any(n:Nat)(hn:n≤100000):Calls Tryz.prog 221 #[.int .u64 n] w fun r w'=>∃ k:Nat,r = .returned (.int .i64 k)∧k≤64∧w=w':=
 (Tryz.bits_Len n w (by omega) (by omega)).mono fun _ _ h=>⟨_,h.1,by have:=Lib.bitLen_le n 64 (by omega) (by omega);simpa using this,h.2.symm⟩
theorem sort_any(h:WrU w g o c xs)(hs:xs.length≤100000) :
  Calls Tryz.prog 192 #[.slice (some ⟨g,o,none⟩) xs.length c] w fun r w'=>r = .returned (.tuple #[])∧SortPost w g o c xs 0 xs.length w':=by
 have hp:=fun lim hl=>pdq_any (g:=g) (o:=o) (c:=c) (w:=w) (xs:=xs) (a:=0) (b:=xs.length) xs.length lim (by omega) h (by omega) (Nat.le_refl _) hs hl (fun q h1 h2 h3=>by omega)
 rw[show((0:Nat):Int)=0 from rfl]at hp;have HP:=Lib.hid hp;clear hp
 have HL:=Lib.hid (bitsLen_any (w:=w) xs.length hs);clear h
 generalize hn:xs.length=n at *
 clear hn
 go_enter Tryz.func192,Tryz.ntmps192
 go_wp2_with fail
 (with_reducible refine HL.out.mono ?_)
 rintro e w' ⟨k,rfl,hk,rfl⟩;go_wp2_with fail
 (with_reducible refine(HP.out k hk).mono ?_)
 rintro e w1 ⟨rfl,hp⟩;have HQ:=Lib.hid hp;clear hp
 go_wp2_with fail
 go_end0
 exact⟨rfl,HQ.out⟩
theorem sortU_own(sv:Value)(xs:List Int)(h:OwnSl w 31 1 sv xs.length (intsU xs))(hs:xs.length≤100000) :
  Calls Tryz.prog 192 #[sv] w fun r w'=>r = .returned (.tuple #[])∧∃ ys,Mixed xs ys 0 xs.length∧ascOn ys 0 xs.length∧OwnSl w' 31 1 sv xs.length (intsU ys)∧Upd (fun k=>sv.ownBlock=some k) w w':=by
 rcases h.2 with ⟨rfl,hn⟩ | ⟨g,o,cap,cur,rfl,_⟩
 ·have hx:xs = []:=List.eq_nil_of_length_eq_zero hn
  subst hx;exact sort_nil.mono fun r w' ⟨h1,h2⟩=>⟨h1,[],Mixed.refl _ _ _,fun p q _ _ h3=>by simp at h3,by subst h2;exact h,by subst h2;exact Upd.refl _ _⟩
 ·refine(sort_any (g:=g) (o:=o) (c:=cap) (xs:=xs) h hs).mono fun r w' ⟨h1,ys,h2,h3,h4,h5⟩=>⟨h1,ys,h2,h3,?_,h5.mono (fun i _ hi=>by rw[hi];rfl)⟩
  have:WrU w' g o cap ys:=h4;unfold WrU at this;rw[h2.len]at this;exact this
end
end

section
open Go.RowKit
attribute [local go_sem ↓] Go.wp_at_zero Go.wp_at_succ
section
variable{w:World}
end
end
section
open Go.RowKit
section
variable{w:World}
def flC(l:List Nat):List (Nat×Nat×Int):=l.map fun x=>(2,64*x,0)
theorem flC_snoc(l:List Nat)(x:Nat):flC (l ++ [x])=flC l ++ [(2,64*x,0)]:=by simp[flC]
def stC(ws:List (Nat×Int)):List (Nat×Nat×Int):=ws.map fun e=>(1,e.1,e.2)
theorem stC_snoc(l:List (Nat×Int))(e:Nat×Int):stC (l ++ [e])=stC l ++ [(1,e.1,e.2)]:=by simp[stC]
theorem flushL_len(offs:List Nat):(flushL offs).length≤offs.length+1:=by
 have:=linesL_len offs;unfold flushL;split <;> simp;omega
end
end
end Go.Proofs.YtlhchkajjpefmaaGreatDoor
