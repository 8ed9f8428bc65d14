import Derived.Test.YtlhchkajjpefmaaGreatDoorJ11
import Derived.Deep.MidRow
import Derived.Test.YtlhchkajjpefmaaGreatDoorJ6
import Derived.Test.YtlhchkajjpefmaaGreatDoorJ7
set_option maxHeartbeats 16000000
set_option maxRecDepth 100000
namespace Go.Proofs.YtlhchkajjpefmaaGreatDoor
section
open Go.RowKit Go.Maps
attribute [local go_sem ↓] Go.wp_at_zero Go.wp_at_succ
structure CpA(A:Array Value):Prop where
 sz:18=A.size
 one:A.all (·.oneCell')=true
 info:(Tryz.prog.info? 220).map (·.size)=some A.size
theorem ldA_cpA(C:Nat→Int)(n:Nat):CpA (ldA C n 2):=by
 have h1:18=(ldA C n 2).size:=rfl;refine⟨h1,?_,by rw[← h1];kernel_rfl⟩
 show(cpsA _ _ _ _).all (·.oneCell')=true
 simp[cpsA,Value.oneCell']
theorem cpA_alloc{w w1:World}{A:Array Value}(_:Below w.heap.size w w1)(_:w.heap.size≤w1.heap.size):∃ w2,(w1.alloc (.cells #[.int .i64 0,.int .i64 0,.int .i64 0,.int .i64 0,.int .i64 0,.int .i64 0,.int .i64 0,.int .u64 0,.int .i64 0,.int .i64 0,.int .i64 0,.int .i64 0,.int .i64 0,.int .i64 0,.int .i64 0,.int .u64 0,.bool false,.bool false] 220)).setRow w1.heap.size A=w2∧Blk w2 w1.heap.size A 220∧Below w1.heap.size w1 w2:=
 ⟨_,rfl,setRow_heap _ _ _ A 220 (0,0) (Blk.new w1 _ _),below_setRow (below_alloc w1 _) (Nat.le_refl _) A⟩
section
variable{w:World}{v:DV}{own:Nat→Option Role}{D:Dev}{j:Nat}
def opS(C:Nat→Int)(n:Nat):Sup:=if newG C n then newS C n else Sup.zero
def opE(C:Nat→Int)(n:Nat):Int:=if newG C n then 0 else 10
theorem sbOpen_any(hN:Nib w)(h:IsDev w v own D)(hj:j<8)(hof:D.off=false)(he:D.err j=0)(hvb:D.VB)(hn:2≤D.n) :
  Calls Tryz.prog 85 #[.iface 40 (.pointer (some ⟨v.tb j,0,none⟩))] w fun r w'=>r = .returned (.tuple #[.agg (opS D.cur D.n).cells,.int .i64 (opE D.cur D.n)])∧Below w.heap.size w w':=by
 have H:=Lib.hid h;have HNB:=Lib.hid hN
 have hus:=fun wx (hx:IsDev wx v own D)=>usable_any hx hj hn
 rw[he]at hus;have HU:=Lib.hid hus;have hld:=fun wx (hx:IsDev wx v own D) (hnx:Nib wx)=>sbload_any hnx hx hj hof hvb hn
 rw[he]at hld;have HLD:=Lib.hid hld;have HCA:=Lib.hid (ldA_cpA D.cur D.n);have HNW:=Lib.hid (fun(wx:World)=>newest_any (w:=wx) (cpS D.cur D.n 0) (cpS D.cur D.n 1) (cpG D.cur D.n 0) (cpG D.cur D.n 1) (newA D.cur D.n) (newG D.cur D.n) rfl rfl);have HAA:Hid (ldA D.cur D.n 2=cpsA (cpS D.cur D.n 0) (cpS D.cur D.n 1) (cpG D.cur D.n 0) (cpG D.cur D.n 1)):=rfl;rw[← HAA.out]at HNW;have B2:=Lib.hid (below_alloc w (.cells #[.int .i64 0,.int .i64 0,.int .i64 0,.int .i64 0,.int .i64 0,.int .i64 0,.int .i64 0,.int .u64 0] 130));have RB:=Lib.hid (Blk.new w #[.int .i64 0,.int .i64 0,.int .i64 0,.int .i64 0,.int .i64 0,.int .i64 0,.int .i64 0,.int .u64 0] 130)
 generalize ldA D.cur D.n 2=A at *
 clear h hN hvb hus hld
 go_enter Tryz.func85,Tryz.ntmps85
 go_wp2_with fail
 (with_reducible refine(HU.out _ (H.out.alloc _)).mono ?_)
 rintro e w' ⟨rfl,rfl⟩;go_wp2_with fail
 (with_reducible refine(HLD.out _ (H.out.alloc _) (HNB.out.below B2.out)).mono ?_)
 rintro e w1 ⟨rfl,b1⟩;have R1:=Lib.hid (RB.out.below b1);have B1:=Lib.hid (B2.out.trans (b1.mono B2.out.size));have hsz1:w.heap.size<w1.heap.size:=R1.out.lt;clear b1 RB B2 HU HLD;obtain⟨w2,hw2,k2,b2⟩:=cpA_alloc (A:=A) B1.out (by omega);have K2:=Lib.hid k2;have R2:=Lib.hid (R1.out.below b2);have B3:=Lib.hid (B1.out.trans (b2.mono B1.out.size));clear k2 b2;go_wp2_with (first | (refine wpList_store_row rfl 220 (.tmp 5) (.tmp 18) rfl w1.heap.size A rfl rfl 220 #[.int .i64 0,.int .i64 0,.int .i64 0,.int .i64 0,.int .i64 0,.int .i64 0,.int .i64 0,.int .u64 0,.int .i64 0,.int .i64 0,.int .i64 0,.int .i64 0,.int .i64 0,.int .i64 0,.int .i64 0,.int .u64 0,.bool false,.bool false] (Blk.new w1 _ _) HCA.out.info HCA.out.sz HCA.out.one ?_;rw[hw2]) | (refine wpList_load_row rfl 220 (.tmp 5) rfl w1.heap.size rfl 220 A (0,0) _ K2.out Tryz.underlying220 rfl HCA.out.info ?_))
 (with_reducible refine(HNW.out _).mono ?_)
 rintro e w3 ⟨rfl,b3⟩;have K3:=Lib.hid (K2.out.below b3);have R3:=Lib.hid (R2.out.below b3);have B4:=Lib.hid (B3.out.trans (b3.mono B3.out.size));clear b3 HNW hw2 K2 R2 B3 R1 B1
 generalize w1.heap.size=cb at *
 have s0:=R3.out.cell (i:=0) (v:=.int .i64 0) rfl;have s1:=R3.out.cell (i:=1) (v:=.int .i64 0) rfl;have s2:=R3.out.cell (i:=2) (v:=.int .i64 0) rfl;have s3:=R3.out.cell (i:=3) (v:=.int .i64 0) rfl
 have s4:=R3.out.cell (i:=4) (v:=.int .i64 0) rfl;have s5:=R3.out.cell (i:=5) (v:=.int .i64 0) rfl;have s6:=R3.out.cell (i:=6) (v:=.int .i64 0) rfl;have s7:=R3.out.cell (i:=7) (v:=.int .u64 0) rfl
 have f0:=R3.out.frozen 0;have f1:=R3.out.frozen 1;have f2:=R3.out.frozen 2;have f3:=R3.out.frozen 3;have f4:=R3.out.frozen 4;have f5:=R3.out.frozen 5;have f6:=R3.out.frozen 6;have f7:=R3.out.frozen 7
 cases hG:newG D.cur D.n
 ·have HS:Hid (opS D.cur D.n=Sup.zero∧opE D.cur D.n=10):=⟨by unfold opS;rw[hG];rfl,by unfold opE;rw[hG];rfl⟩
  clear hG;go_wp2_with fail
  refine bodyPost_ret (v:=.tuple #[.agg #[.int .i64 0,.int .i64 0,.int .i64 0,.int .i64 0,.int .i64 0,.int .i64 0,.int .i64 0,.int .u64 0],.int .i64 10]) (by simp[results,Tryz.results85,go_sem,s0,s1,s2,s3,s4,s5,s6,s7]) rfl ⟨by rw[HS.out.1,HS.out.2];rfl,?_⟩
  exact below_set8 B4.out (Nat.le_refl _) 0 _ _ _ _ _ _ _ _
 ·have HS:Hid (opS D.cur D.n=newS D.cur D.n∧opE D.cur D.n=0):=⟨by unfold opS;rw[hG];rfl,by unfold opE;rw[hG];rfl⟩
  clear hG;obtain⟨q,hq⟩:∃ q,newA D.cur D.n=q:=⟨_,rfl⟩;have hS:newS D.cur D.n=cpS D.cur D.n q:=by unfold newS;rw[hq]
  have hq1:q=0∨q=1:=by rw[← hq];unfold newA;split <;> simp
  rw[hq];have HSS:=Lib.hid hS;have HAE:=Lib.hid (HAA.out);clear hq hS HAA;obtain rfl | rfl:=hq1
  ·obtain⟨z0,z1,z2,z3,z4,z5,z6,z7,hz⟩:=Sup.ex (cpS D.cur D.n 0)
   have K4:=K3.out;rw[HAE.out,hz]at K4;have HZ:=Lib.hid hz;have c0:w3.cell? ⟨cb,0,none⟩=some (.int .i64 z0):=K4.cell rfl;have c1:w3.cell? ⟨cb,1,none⟩=some (.int .i64 z1):=K4.cell rfl;have c2:w3.cell? ⟨cb,2,none⟩=some (.int .i64 z2):=K4.cell rfl;have c3:w3.cell? ⟨cb,3,none⟩=some (.int .i64 z3):=K4.cell rfl;have c4:w3.cell? ⟨cb,4,none⟩=some (.int .i64 z4):=K4.cell rfl;have c5:w3.cell? ⟨cb,5,none⟩=some (.int .i64 z5):=K4.cell rfl;have c6:w3.cell? ⟨cb,6,none⟩=some (.int .i64 z6):=K4.cell rfl;have c7:w3.cell? ⟨cb,7,none⟩=some (.int .u64 z7):=K4.cell rfl;clear K4 hz K3;rw[show((0:Nat):Int)=0 from rfl];go_wp2_with fail
   refine bodyPost_ret (v:=.tuple #[.agg #[.int .i64 z0,.int .i64 z1,.int .i64 z2,.int .i64 z3,.int .i64 z4,.int .i64 z5,.int .i64 z6,.int .u64 z7],.int .i64 0]) (by simp[results,Tryz.results85,go_sem,s0,s1,s2,s3,s4,s5,s6,s7]) rfl ⟨by rw[HS.out.1,HS.out.2,HSS.out,HZ.out];rfl,?_⟩
   exact below_set8 B4.out (Nat.le_refl _) 0 _ _ _ _ _ _ _ _
  ·obtain⟨z0,z1,z2,z3,z4,z5,z6,z7,hz⟩:=Sup.ex (cpS D.cur D.n 1)
   have K4:=K3.out;rw[HAE.out,hz]at K4;have HZ:=Lib.hid hz;have c0:w3.cell? ⟨cb,8,none⟩=some (.int .i64 z0):=K4.cell rfl;have c1:w3.cell? ⟨cb,9,none⟩=some (.int .i64 z1):=K4.cell rfl;have c2:w3.cell? ⟨cb,10,none⟩=some (.int .i64 z2):=K4.cell rfl;have c3:w3.cell? ⟨cb,11,none⟩=some (.int .i64 z3):=K4.cell rfl;have c4:w3.cell? ⟨cb,12,none⟩=some (.int .i64 z4):=K4.cell rfl;have c5:w3.cell? ⟨cb,13,none⟩=some (.int .i64 z5):=K4.cell rfl;have c6:w3.cell? ⟨cb,14,none⟩=some (.int .i64 z6):=K4.cell rfl;have c7:w3.cell? ⟨cb,15,none⟩=some (.int .u64 z7):=K4.cell rfl;clear K4 hz K3;rw[show((1:Nat):Int)=1 from rfl];go_wp2_with fail
   refine bodyPost_ret (v:=.tuple #[.agg #[.int .i64 z0,.int .i64 z1,.int .i64 z2,.int .i64 z3,.int .i64 z4,.int .i64 z5,.int .i64 z6,.int .u64 z7],.int .i64 0]) (by simp[results,Tryz.results85,go_sem,s0,s1,s2,s3,s4,s5,s6,s7]) rfl ⟨by rw[HS.out.1,HS.out.2,HSS.out,HZ.out];rfl,?_⟩
   exact below_set8 B4.out (Nat.le_refl _) 0 _ _ _ _ _ _ _ _
end
end
section
open Go.RowKit Go.Maps
attribute [local go_sem ↓] Go.wp_at_zero Go.wp_at_succ
section
variable{w:World}{v:DV}{own:Nat→Option Role}{D:Dev}{j:Nat}
theorem usableFor_any(h:IsDev w v own D)(hj:j<8)(hn:2≤D.n)(s:Sup)(hok:s.Ok)(hl:s.lin≤D.n):Calls Tryz.prog 144 #[.iface 40 (.pointer (some ⟨v.tb j,0,none⟩)),.agg s.cells] w fun r w'=>r = .returned (.int .i64 (D.err j))∧Below w.heap.size w w':=by
 have hm1:=meth_Err ⟨v.tb j,0,none⟩;have H:=Lib.hid h;have HLO:=Lib.hid (fun wx (hx:IsDev wx v own D)=>linesOf_any hx hj);have HER:=Lib.hid (fun wx (hx:IsDev wx v own D)=>err_any hx hj);have hv:=fun wx=>valid_any (w:=wx) s
 rw[Sup.okB_true hok]at hv;have HV:=Lib.hid hv;have hn2:=h.wf.le;have l1:=hok.l1;obtain⟨ver,lin,redo,und,desc,que,tab,gen⟩:=s;unfold Sup.cells at *;simp only at hl l1 HV;have hu:IntKind.u64.wrap lin=lin:=IntWalk.u64_in _ (by omega);have d1:decide ((D.n:Int)<lin)=false:=by simp;omega
 have d2:decide ((D.n:Int)<2)=false:=by simp;omega
 have B0:=Lib.hid ((below_alloc w (.cells #[.int .i64 ver,.int .i64 lin,.int .i64 redo,.int .i64 und,.int .i64 desc,.int .i64 que,.int .i64 tab,.int .u64 gen] 130)).drew);have K0:Hid (Blk (w.alloc (.cells #[.int .i64 ver,.int .i64 lin,.int .i64 redo,.int .i64 und,.int .i64 desc,.int .i64 que,.int .i64 tab,.int .u64 gen] 130)).drew w.heap.size #[.int .i64 ver,.int .i64 lin,.int .i64 redo,.int .i64 und,.int .i64 desc,.int .i64 que,.int .i64 tab,.int .u64 gen] 130):=(Blk.new w _ _).drew;have z0:(w.alloc (.cells #[.int .i64 ver,.int .i64 lin,.int .i64 redo,.int .i64 und,.int .i64 desc,.int .i64 que,.int .i64 tab,.int .u64 gen] 130)).drew.cell? ⟨w.heap.size,0,none⟩=some (.int .i64 ver):=K0.out.cell rfl;have z1:(w.alloc (.cells #[.int .i64 ver,.int .i64 lin,.int .i64 redo,.int .i64 und,.int .i64 desc,.int .i64 que,.int .i64 tab,.int .u64 gen] 130)).drew.cell? ⟨w.heap.size,1,none⟩=some (.int .i64 lin):=K0.out.cell rfl;have z2:(w.alloc (.cells #[.int .i64 ver,.int .i64 lin,.int .i64 redo,.int .i64 und,.int .i64 desc,.int .i64 que,.int .i64 tab,.int .u64 gen] 130)).drew.cell? ⟨w.heap.size,2,none⟩=some (.int .i64 redo):=K0.out.cell rfl;have z3:(w.alloc (.cells #[.int .i64 ver,.int .i64 lin,.int .i64 redo,.int .i64 und,.int .i64 desc,.int .i64 que,.int .i64 tab,.int .u64 gen] 130)).drew.cell? ⟨w.heap.size,3,none⟩=some (.int .i64 und):=K0.out.cell rfl
 have z4:(w.alloc (.cells #[.int .i64 ver,.int .i64 lin,.int .i64 redo,.int .i64 und,.int .i64 desc,.int .i64 que,.int .i64 tab,.int .u64 gen] 130)).drew.cell? ⟨w.heap.size,4,none⟩=some (.int .i64 desc):=K0.out.cell rfl;have z5:(w.alloc (.cells #[.int .i64 ver,.int .i64 lin,.int .i64 redo,.int .i64 und,.int .i64 desc,.int .i64 que,.int .i64 tab,.int .u64 gen] 130)).drew.cell? ⟨w.heap.size,5,none⟩=some (.int .i64 que):=K0.out.cell rfl;have z6:(w.alloc (.cells #[.int .i64 ver,.int .i64 lin,.int .i64 redo,.int .i64 und,.int .i64 desc,.int .i64 que,.int .i64 tab,.int .u64 gen] 130)).drew.cell? ⟨w.heap.size,6,none⟩=some (.int .i64 tab):=K0.out.cell rfl;have z7:(w.alloc (.cells #[.int .i64 ver,.int .i64 lin,.int .i64 redo,.int .i64 und,.int .i64 desc,.int .i64 que,.int .i64 tab,.int .u64 gen] 130)).drew.cell? ⟨w.heap.size,7,none⟩=some (.int .u64 gen):=K0.out.cell rfl;clear h hok hl l1 hv
 go_enter Tryz.func144,Tryz.ntmps144
 go_upto_region 1 with fail
 go_cut [24]from 5 to 23 (fun b wx=>b = .bool false∧Below w.heap.size w wx)
 case first=>
  refine wp_region_any (by kernel_rfl) ?_
  change wpAny _ _ _ _ _ _ _ (World.drew _)
  refine wpAny_ready (rs := [0]) (by kernel_rfl) (by simp) ?_
  refine AllReady.cons rfl (fun K hK => ?_) AllReady.nil
  go_simp
  refine hK _ _ ?_
  clear hK K;refine wpAny_ready (rs := [1]) (by kernel_rfl) (by simp) ?_
  refine AllReady.cons rfl (fun K hK => ?_) AllReady.nil
  go_simp
  refine hK _ _ ?_
  clear hK K;refine wpAny_ready (rs := [2]) (by kernel_rfl) (by simp) ?_
  refine AllReady.cons rfl (fun K hK => ?_) AllReady.nil
  go_simp
  refine hK _ _ ?_
  clear hK K;refine wpAny_ready (rs := [3]) (by kernel_rfl) (by simp) ?_
  refine AllReady.cons rfl (fun K hK => ?_) AllReady.nil
  go_simp
  refine hK _ _ ?_
  clear hK K;refine wpAny_ready (rs := [4]) (by kernel_rfl) (by simp) ?_
  refine AllReady.cons rfl (fun K hK => ?_) AllReady.nil
  go_simp
  (with_reducible refine(HLO.out _ (H.out.below B0.out)).mono ?_)
  rintro e w' ⟨rfl,rfl⟩
  go_simp
  refine hK _ _ ?_
  clear hK K;refine wpAny_ready (rs := [5]) (by kernel_rfl) (by simp) ?_
  refine AllReady.cons rfl (fun K hK => ?_) AllReady.nil
  go_simp
  refine hK _ _ ?_
  clear hK K;refine wpAny_ready (rs := [6]) (by kernel_rfl) (by simp) ?_
  refine AllReady.cons rfl (fun K hK => ?_) AllReady.nil
  go_simp
  refine hK _ _ ?_
  clear hK K;refine wpAny_ready (rs := [7]) (by kernel_rfl) (by simp) ?_
  refine AllReady.cons rfl (fun K hK => ?_) AllReady.nil
  go_simp
  refine hK _ _ ?_
  clear hK K;refine wpAny_ready (rs := [8]) (by kernel_rfl) (by simp) ?_
  refine AllReady.cons rfl (fun K hK => ?_) AllReady.nil
  go_simp
  refine hK _ _ ?_
  clear hK K;refine wpAny_ready (rs := [9]) (by kernel_rfl) (by simp) ?_
  refine AllReady.cons rfl (fun K hK => ?_) AllReady.nil
  go_simp
  (with_reducible refine(HV.out _).mono ?_)
  rintro e w4 ⟨rfl,b4⟩;have K4:=Lib.hid (K0.out.below b4);have B4:=Lib.hid (B0.out.trans (b4.mono B0.out.size));have c1:w4.cell? ⟨w.heap.size,1,none⟩=some (.int .i64 lin):=K4.out.cell rfl;clear b4
  go_simp
  refine hK _ _ ?_
  clear hK K;refine wpAny_ready (rs := [10]) (by kernel_rfl) (by simp) ?_
  refine AllReady.cons rfl (fun K hK => ?_) AllReady.nil
  go_simp
  refine hK _ _ ?_
  clear hK K;refine wpAny_ready (rs := [11]) (by kernel_rfl) (by simp) ?_
  refine AllReady.cons rfl (fun K hK => ?_) AllReady.nil
  go_simp
  refine hK _ _ ?_
  clear hK K;refine wpAny_ready (rs := [12]) (by kernel_rfl) (by simp) ?_
  refine AllReady.cons rfl (fun K hK => ?_) AllReady.nil
  go_simp
  refine hK _ _ ?_
  clear hK K;refine wpAny_take (i:=13) (v:=.pointer (some ⟨w.heap.size,1,none⟩)) rfl (by kernel_rfl) (by kernel_rfl) (by kernel_rfl) (fun _ _ _ h=>h) (Or.inl ⟨by kernel_rfl,fun w=>by go_simp⟩) ?_
  refine wpAny_take (i:=16) (v:=.iface 40 (.pointer (some ⟨v.tb j,0,none⟩))) rfl (by kernel_rfl) (by kernel_rfl) (by kernel_rfl) (fun _ _ _ h=>h) (Or.inl ⟨by kernel_rfl,fun w=>by go_simp⟩) ?_
  refine wpAny_ready (rs := [14,17]) (by kernel_rfl) (by simp) ?_
  refine AllReady.cons rfl (fun K hK => ?_) (AllReady.cons rfl (fun K hK => ?_) AllReady.nil)
  ·go_simp
   refine hK _ _ ?_
   clear hK K;refine wpAny_take (i:=15) (v:=.int .u64 lin) rfl (by kernel_rfl) (by kernel_rfl) (by kernel_rfl) (fun _ _ _ h=>h) (Or.inl ⟨by kernel_rfl,fun w=>by go_simp⟩) ?_
   refine wpAny_ready (rs := [17]) (by kernel_rfl) (by simp) ?_
   refine AllReady.cons rfl (fun K hK => ?_) AllReady.nil
   go_simp
   (with_reducible refine(HLO.out _ (H.out.below B4.out)).mono ?_)
   rintro e w' ⟨rfl,rfl⟩
   go_simp
   refine hK _ _ ?_
   clear hK K;refine wpAny_ready (rs := [18]) (by kernel_rfl) (by simp) ?_
   refine AllReady.cons rfl (fun K hK => ?_) AllReady.nil
   go_simp
   refine hK _ _ ?_
   clear hK K;refine wpAny_ready (rs := [19]) (by kernel_rfl) (by simp) ?_
   refine AllReady.cons rfl (fun K hK => ?_) AllReady.nil
   go_simp
   refine hK _ _ ?_
   clear hK K;refine wpAny_done (by kernel_rfl) ?_ _
   go_wp2_with fail
   go_meet
   exact⟨rfl,B4.out⟩
  ·go_simp
   (with_reducible refine(HLO.out _ (H.out.below B4.out)).mono ?_)
   rintro e w' ⟨rfl,rfl⟩
   go_simp
   refine hK _ _ ?_
   clear hK K;refine wpAny_ready (rs := [14]) (by kernel_rfl) (by simp) ?_
   refine AllReady.cons rfl (fun K hK => ?_) AllReady.nil
   go_simp
   refine hK _ _ ?_
   clear hK K;refine wpAny_ready (rs := [15]) (by kernel_rfl) (by simp) ?_
   refine AllReady.cons rfl (fun K hK => ?_) AllReady.nil
   go_simp
   refine hK _ _ ?_
   clear hK K;refine wpAny_ready (rs := [18]) (by kernel_rfl) (by simp) ?_
   refine AllReady.cons rfl (fun K hK => ?_) AllReady.nil
   go_simp
   refine hK _ _ ?_
   clear hK K;refine wpAny_ready (rs := [19]) (by kernel_rfl) (by simp) ?_
   refine AllReady.cons rfl (fun K hK => ?_) AllReady.nil
   go_simp
   refine hK _ _ ?_
   clear hK K;refine wpAny_done (by kernel_rfl) ?_ _
   go_wp2_with fail
   go_meet
   exact⟨rfl,B4.out⟩
 case rest=>
  obtain⟨rfl,hb⟩:=hcut;rename World=>wx
  have BX:=Lib.hid hb;clear hb z0 z1 z2 z3 z4 z5 z6 z7;go_wp2_with fail
  (with_reducible refine(HER.out _ (H.out.below BX.out)).mono ?_)
  rintro e w' ⟨rfl,rfl⟩;go_wp2_with fail
  go_ret
  exact⟨rfl,BX.out⟩
theorem Sup.Ok.fits{s:Sup}(h:s.Ok)(g1:0≤s.gen)(g2:s.gen<18446744073709551616):s.Fits:=by
 obtain⟨v1,v2,l1,l2,r1,u1,d1,q1,t1,r2,u2,d2,q2,t2,_⟩:=h;exact⟨g1,g2,by omega,by omega,by omega,by omega,by omega,by omega,by omega,by omega,by omega,by omega,by omega,by omega,by omega,by omega⟩
theorem cpS_gen{C:Nat→Int}(hC:∀ i,0≤C i∧C i<18446744073709551616)(n i:Nat):0≤(cpS C n i).gen∧(cpS C n i).gen<18446744073709551616:=by
 unfold cpS decoded
 split
 ·rw[of_gen]
  have:=hC (8*i+1);show 0≤(((C (8*i+1)).toNat:Nat):Int)∧(((C (8*i+1)).toNat:Nat):Int)<18446744073709551616
  omega
 ·decide
def PlPost(w:World)(C:Nat→Int)(n:Nat)(s:Sup)(r:Ending)(w':World):Prop:=
 (newG C n=false∧r = .returned (.tuple #[.slice none 0 0,.int .i64 10])∧Below w.heap.size w w') ∨
 (newG C n=true∧(newS C n).gen=18446744073709551615∧r = .returned (.tuple #[.slice none 0 0,.int .i64 9])∧Below w.heap.size w w') ∨
 (newG C n=true∧(newS C n).gen≠18446744073709551615∧∃ ov,r = .returned (.tuple #[ov,.int .i64 0]) ∧
  Acc w w.heap.size w' 73 3 ov (sbP (s.withGen ((newS C n).gen+1)) (1-newA C n)).length (instrC (sbP (s.withGen ((newS C n).gen+1)) (1-newA C n))))
theorem sbPlan_any(hN:Nib w)(h:IsDev w v own D)(hj:j<8)(hof:D.off=false)(he:D.err j=0)(hvb:D.VB)(hn:2≤D.n)(s:Sup)(hok:s.Ok)(hl:s.lin≤D.n)(hg1:0≤s.gen)(hg2:s.gen<18446744073709551616) :
  Calls Tryz.prog 60 #[.iface 40 (.pointer (some ⟨v.tb j,0,none⟩)),.agg s.cells] w (PlPost w D.cur D.n s):=by
 have H:=Lib.hid h;have HNB:=Lib.hid hN
 have HF:=Lib.hid (hok.fits hg1 hg2);have hus:=fun wx (hx:IsDev wx v own D)=>usableFor_any hx hj hn s hok hl
 rw[he]at hus;have HU:=Lib.hid hus;have hld:=fun wx (hx:IsDev wx v own D) (hnx:Nib wx)=>sbload_any hnx hx hj hof hvb hn
 rw[he]at hld;have HLD:=Lib.hid hld;have HCA:=Lib.hid (ldA_cpA D.cur D.n);have HNW:=Lib.hid (fun(wx:World)=>newest_any (w:=wx) (cpS D.cur D.n 0) (cpS D.cur D.n 1) (cpG D.cur D.n 0) (cpG D.cur D.n 1) (newA D.cur D.n) (newG D.cur D.n) rfl rfl);have HAE:Hid (ldA D.cur D.n 2=cpsA (cpS D.cur D.n 0) (cpS D.cur D.n 1) (cpG D.cur D.n 0) (cpG D.cur D.n 1)):=rfl;have hgm:=cpS_gen hvb.cur D.n;rw[← HAE.out]at HNW
 generalize ldA D.cur D.n 2=A at *
 obtain⟨ver,lin,redo,und,desc,que,tab,gen⟩:=s;unfold Sup.cells at *;have B2:=Lib.hid (below_alloc w (.cells #[.int .i64 ver,.int .i64 lin,.int .i64 redo,.int .i64 und,.int .i64 desc,.int .i64 que,.int .i64 tab,.int .u64 gen] 130));have K0:=Lib.hid (Blk.new w #[.int .i64 ver,.int .i64 lin,.int .i64 redo,.int .i64 und,.int .i64 desc,.int .i64 que,.int .i64 tab,.int .u64 gen] 130);simp only at HU hg1 hg2;clear h hN hvb hus hld hok hl
 go_enter Tryz.func60,Tryz.ntmps60
 go_wp2_with fail
 (with_reducible refine(HU.out _ (H.out.alloc _)).mono ?_)
 rintro e w1 ⟨rfl,b1⟩;have K1:=Lib.hid (K0.out.below b1);have B1:=Lib.hid (B2.out.trans (b1.mono B2.out.size));clear b1 K0 B2 HU;go_wp2_with fail
 (with_reducible refine(HLD.out _ (H.out.below B1.out) (HNB.out.below B1.out)).mono ?_)
 rintro e w2 ⟨rfl,b2⟩;have K2:=Lib.hid (K1.out.below b2);have B2:=Lib.hid (B1.out.trans (b2.mono B1.out.size));have hsz2:w.heap.size<w2.heap.size:=K2.out.lt;clear b2 K1 B1 HLD;obtain⟨w9,hw9,k9,b9⟩:=cpA_alloc (A:=A) B2.out (by omega);have C9:=Lib.hid k9;have K9:=Lib.hid (K2.out.below b9);have B9:=Lib.hid (B2.out.trans (b9.mono B2.out.size));clear k9 b9;go_wp2_with (first | (refine wpList_store_row rfl 220 (.tmp 7) (.tmp 20) rfl w2.heap.size A rfl rfl 220 #[.int .i64 0,.int .i64 0,.int .i64 0,.int .i64 0,.int .i64 0,.int .i64 0,.int .i64 0,.int .u64 0,.int .i64 0,.int .i64 0,.int .i64 0,.int .i64 0,.int .i64 0,.int .i64 0,.int .i64 0,.int .u64 0,.bool false,.bool false] (Blk.new w2 _ _) HCA.out.info HCA.out.sz HCA.out.one ?_;rw[hw9]) | (refine wpList_load_row rfl 220 (.tmp 7) rfl w2.heap.size rfl 220 A (0,0) _ C9.out Tryz.underlying220 rfl HCA.out.info ?_))
 (with_reducible refine(HNW.out _).mono ?_)
 rintro e w3 ⟨rfl,b3⟩;have C3:=Lib.hid (C9.out.below b3);have K3:=Lib.hid (K9.out.below b3);have B4:=Lib.hid (B9.out.trans (b3.mono B9.out.size));clear b3 HNW hw9 C9 K9 B9 K2 B2
 generalize w2.heap.size=cb at *
 cases hG:newG D.cur D.n
 ·have HG:=Lib.hid hG
  clear hG;go_wp2_with fail
  go_ret2
  exact .inl ⟨HG.out,rfl,B4.out⟩
 ·have HG:=Lib.hid hG
  clear hG;have z0:w3.cell? ⟨w.heap.size,0,none⟩=some (.int .i64 ver):=K3.out.cell rfl;have z1:w3.cell? ⟨w.heap.size,1,none⟩=some (.int .i64 lin):=K3.out.cell rfl;have z2:w3.cell? ⟨w.heap.size,2,none⟩=some (.int .i64 redo):=K3.out.cell rfl;have z3:w3.cell? ⟨w.heap.size,3,none⟩=some (.int .i64 und):=K3.out.cell rfl;have z4:w3.cell? ⟨w.heap.size,4,none⟩=some (.int .i64 desc):=K3.out.cell rfl;have z5:w3.cell? ⟨w.heap.size,5,none⟩=some (.int .i64 que):=K3.out.cell rfl;have z6:w3.cell? ⟨w.heap.size,6,none⟩=some (.int .i64 tab):=K3.out.cell rfl;have z7:w3.cell? ⟨w.heap.size,7,none⟩=some (.int .u64 gen):=K3.out.cell rfl;obtain⟨q,hq⟩:∃ q,newA D.cur D.n=q:=⟨_,rfl⟩;have hS:newS D.cur D.n=cpS D.cur D.n q:=by unfold newS;rw[hq]
  have hq1:q=0∨q=1:=by rw[← hq];unfold newA;split <;> simp
  have hgb:=hgm q;rw[hq];have HQ:=Lib.hid hq;clear hq;obtain rfl | rfl:=hq1
  ·have hgm:=hgb
   have K5:=C3.out;rw[HAE.out]at K5;have hg:w3.cell? ⟨cb,7,none⟩=some (.int .u64 (cpS D.cur D.n 0).gen):=K5.cell rfl;have HSS:=Lib.hid hS
   generalize hG:(cpS D.cur D.n 0).gen=G at *
   have HGG:=Lib.hid hG;clear K5 hS hG;rw[show((0:Nat):Int)=0 from rfl]
   by_cases hmx:G=18446744073709551615
   ·have hb:(G==18446744073709551615)=true:=by simpa using hmx
    have HMX:=Lib.hid hmx;clear hmx
    go_wp2_with fail
    go_ret2
    exact .inr (.inl ⟨HG.out,by rw[HSS.out,HGG.out];exact HMX.out,rfl,B4.out⟩)
   ·have hb:(G==18446744073709551615)=false:=by simpa using hmx
    have HMX:=Lib.hid hmx;have hw:IntKind.u64.wrap (G+1)=G+1:=IntWalk.u64_in _ (by omega);have HPR:Hid (∀ wx,Nib wx→Calls Tryz.prog 147 #[.agg #[.int .i64 ver,.int .i64 lin,.int .i64 redo,.int .i64 und,.int .i64 desc,.int .i64 que,.int .i64 tab,.int .u64 (G+1)],.int .i64 1] wx fun r w'=>∃ ov,r = .returned ov∧Acc wx wx.heap.size w' 73 3 ov (sbP ⟨ver,lin,redo,und,desc,que,tab,G+1⟩ 1).length (instrC (sbP ⟨ver,lin,redo,und,desc,que,tab,G+1⟩ 1))):=
     fun wx hx=>program_any hx ⟨ver,lin,redo,und,desc,que,tab,G+1⟩ ⟨by simp only;omega,by simp only;omega,HF.out.v1,HF.out.v2,HF.out.l1,HF.out.l2,HF.out.r1,HF.out.r2,HF.out.u1,HF.out.u2,HF.out.d1,HF.out.d2,HF.out.q1,HF.out.q2,HF.out.t1,HF.out.t2⟩ 1 (by omega)
    have B5:Hid (Below w.heap.size w (w3.setCell ⟨w.heap.size,7,none⟩ (.int .u64 (G+1)))):=B4.out.setCell (Nat.le_refl _) _;have f7:=K3.out.frozen 7;clear hmx hgm;go_wp2_with fail
    (with_reducible refine(HPR.out _ (HNB.out.below B5.out)).mono ?_)
    rintro e w6 ⟨ov,rfl,a6⟩;obtain⟨oa,oc,hov⟩:=a6.slice;subst hov;have A6:=Lib.hid (a6.deeper B5.out);clear a6
    go_wp2_with fail
    go_ret2
    refine .inr (.inr ⟨HG.out,by rw[HSS.out,HGG.out];exact HMX.out,_,rfl,?_⟩)
    rw[HSS.out,HGG.out,HQ.out];exact A6.out
  ·have hgm:=hgb
   have K5:=C3.out;rw[HAE.out]at K5;have hg:w3.cell? ⟨cb,15,none⟩=some (.int .u64 (cpS D.cur D.n 1).gen):=K5.cell rfl;have HSS:=Lib.hid hS
   generalize hG:(cpS D.cur D.n 1).gen=G at *
   have HGG:=Lib.hid hG;clear K5 hS hG;rw[show((1:Nat):Int)=1 from rfl]
   by_cases hmx:G=18446744073709551615
   ·have hb:(G==18446744073709551615)=true:=by simpa using hmx
    have HMX:=Lib.hid hmx;clear hmx
    go_wp2_with fail
    go_ret2
    exact .inr (.inl ⟨HG.out,by rw[HSS.out,HGG.out];exact HMX.out,rfl,B4.out⟩)
   ·have hb:(G==18446744073709551615)=false:=by simpa using hmx
    have HMX:=Lib.hid hmx;have hw:IntKind.u64.wrap (G+1)=G+1:=IntWalk.u64_in _ (by omega);have HPR:Hid (∀ wx,Nib wx→Calls Tryz.prog 147 #[.agg #[.int .i64 ver,.int .i64 lin,.int .i64 redo,.int .i64 und,.int .i64 desc,.int .i64 que,.int .i64 tab,.int .u64 (G+1)],.int .i64 0] wx fun r w'=>∃ ov,r = .returned ov∧Acc wx wx.heap.size w' 73 3 ov (sbP ⟨ver,lin,redo,und,desc,que,tab,G+1⟩ 0).length (instrC (sbP ⟨ver,lin,redo,und,desc,que,tab,G+1⟩ 0))):=
     fun wx hx=>program_any hx ⟨ver,lin,redo,und,desc,que,tab,G+1⟩ ⟨by simp only;omega,by simp only;omega,HF.out.v1,HF.out.v2,HF.out.l1,HF.out.l2,HF.out.r1,HF.out.r2,HF.out.u1,HF.out.u2,HF.out.d1,HF.out.d2,HF.out.q1,HF.out.q2,HF.out.t1,HF.out.t2⟩ 0 (by omega)
    have B5:Hid (Below w.heap.size w (w3.setCell ⟨w.heap.size,7,none⟩ (.int .u64 (G+1)))):=B4.out.setCell (Nat.le_refl _) _;have f7:=K3.out.frozen 7;clear hmx hgm;go_wp2_with fail
    (with_reducible refine(HPR.out _ (HNB.out.below B5.out)).mono ?_)
    rintro e w6 ⟨ov,rfl,a6⟩;obtain⟨oa,oc,hov⟩:=a6.slice;subst hov;have A6:=Lib.hid (a6.deeper B5.out);clear a6
    go_wp2_with fail
    go_ret2
    refine .inr (.inr ⟨HG.out,by rw[HSS.out,HGG.out];exact HMX.out,_,rfl,?_⟩)
    rw[HSS.out,HGG.out,HQ.out];exact A6.out
end
end
section
open Go.RowKit Go.Maps
attribute [local go_sem ↓] Go.wp_at_zero Go.wp_at_succ
theorem sbP_ok(s:Sup)(i:Nat)(hi:i≤1):instrOk (sbP s i):=storesL_ok _ (fun e he=>by have:=(sbWs_line s i (i+1) (by omega) e he).2.1;omega)
theorem sbP_len(s:Sup)(i:Nat):(sbP s i).length≤19:=by
 have:=storesL_len (sbWs s i);have h:(sbWs s i).length=9:=by rw[sbWs_eq];rfl
 show(storesL (sbWs s i)).length≤19
 omega
theorem newA_le(C:Nat→Int)(n:Nat):newA C n≤1:=by unfold newA;split <;> omega
def eraseP:List (Nat×Nat×Int):=storesL [(56,0),(120,0)]
theorem eraseP_ok:instrOk eraseP:=storesL_ok _ (by decide)
theorem eraseP_len:eraseP.length≤5:=by have:=storesL_len [(56,0),(120,0)];show(storesL [(56,0),(120,0)]).length≤5;simpa using this
section
variable{w:World}{v:DV}{own:Nat→Option Role}{D:Dev}{j:Nat}
def UpPost(w:World)(v:DV)(own:Nat→Option Role)(D:Dev)(j:Nat)(s:Sup)(r:Ending)(w':World):Prop:=
 (newG D.cur D.n=false∧r = .returned (.int .i64 10)∧Below w.heap.size w w') ∨
 (newG D.cur D.n=true∧(newS D.cur D.n).gen=18446744073709551615∧r = .returned (.int .i64 9)∧Below w.heap.size w w') ∨
 (newG D.cur D.n=true∧(newS D.cur D.n).gen≠18446744073709551615∧r = .returned (.int .i64 ((D.run j (sbP (s.withGen ((newS D.cur D.n).gen+1)) (1-newA D.cur D.n))).err j)) ∧
  DPost v own w (D.run j (sbP (s.withGen ((newS D.cur D.n).gen+1)) (1-newA D.cur D.n))) w')
theorem sbUpdate_any(hN:Nib w)(h:IsDev w v own D)(hj:j<8)(hof:D.off=false)(he:D.err j=0)(hvb:D.VB)(hn:2≤D.n)(s:Sup)(hok:s.Ok)(hl:s.lin≤D.n)(hg1:0≤s.gen)(hg2:s.gen<18446744073709551616)(hx:D.exec+100000<4294967296) :
  Calls Tryz.prog 86 #[.iface 40 (.pointer (some ⟨v.tb j,0,none⟩)),.agg s.cells] w (UpPost w v own D j s):=by
 have HP:=Lib.hid (fun(wx:World) (hx:IsDev wx v own D) (hnx:Nib wx)=>sbPlan_any hnx hx hj hof he hvb hn s hok hl hg1 hg2);have HR:=Lib.hid (fun(wa wb:World) (pv:Value) (hd:IsDev wa v own D) (ha:Acc wa wa.heap.size wb 73 3 pv (sbP (s.withGen ((newS D.cur D.n).gen+1)) (1-newA D.cur D.n)).length (instrC (sbP (s.withGen ((newS D.cur D.n).gen+1)) (1-newA D.cur D.n))))=>
  run_acc hd hj ha (sbP_ok _ _ (by omega)) (by have:=sbP_len (s.withGen ((newS D.cur D.n).gen+1)) (1-newA D.cur D.n);omega) hx)
 have H:=Lib.hid h;have HNB:=Lib.hid hN
 have B0:=Lib.hid (below_alloc w (.cells s.cells 130));obtain⟨ver,lin,redo,und,desc,que,tab,gen⟩:=s;unfold Sup.cells at *;clear h hN hvb hok hl hg1 hg2 he
 go_enter Tryz.func86,Tryz.ntmps86
 go_wp2_with fail
 (with_reducible refine(HP.out _ (H.out.below B0.out) (HNB.out.below B0.out)).mono ?_)
 rintro e w1 (⟨h1,rfl,b1⟩ | ⟨h1,h2,rfl,b1⟩ | ⟨h1,h2,ov,rfl,a1⟩)
 ·have HH:=Lib.hid h1
  have B1:=Lib.hid (B0.out.trans (b1.mono B0.out.size));clear b1 h1
  go_wp2_with fail
  go_ret
  exact .inl ⟨HH.out,rfl,B1.out⟩
 ·have HH:=Lib.hid (And.intro h1 h2)
  have B1:=Lib.hid (B0.out.trans (b1.mono B0.out.size));clear b1 h1 h2
  go_wp2_with fail
  go_ret
  exact .inr (.inl ⟨HH.out.1,HH.out.2,rfl,B1.out⟩)
 ·have HH:=Lib.hid (And.intro h1 h2)
  have HR1:=Lib.hid (HR.out _ _ _ (H.out.below B0.out) a1);obtain⟨oa,oc,hov⟩:=a1.slice;subst hov;clear h1 h2 a1 HR;go_wp2_with fail
  (with_reducible refine HR1.out.mono ?_)
  rintro e w2 ⟨rfl,p2⟩;have P2:=Lib.hid (p2.past B0.out);clear p2
  go_wp2_with fail
  go_ret
  exact .inr (.inr ⟨HH.out.1,HH.out.2,rfl,P2.out⟩)
theorem sbFormat_any(hN:Nib w)(h:IsDev w v own D)(hj:j<8)(he:D.err j=0)(hn:2≤D.n)(s:Sup)(hok:s.Ok)(hl:s.lin≤D.n)(hx:D.exec+100000<4294967296) :
  Calls Tryz.prog 82 #[.iface 40 (.pointer (some ⟨v.tb j,0,none⟩)),.agg s.cells] w fun r w'=>r = .returned (.int .i64 ((D.run j (eraseP++sbP (s.withGen 1) 0)).err j))∧DPost v own w (D.run j (eraseP++sbP (s.withGen 1) 0)) w':=by
 have H:=Lib.hid h;have HNB:=Lib.hid hN
 have hus:=fun wx (hx:IsDev wx v own D)=>usableFor_any hx hj hn s hok hl
 rw[he]at hus;have HU:=Lib.hid hus;have HR:=Lib.hid (fun(wb:World) (pv:Value) (ha:Acc w w.heap.size wb 73 3 pv (eraseP++sbP (s.withGen 1) 0).length (instrC (eraseP++sbP (s.withGen 1) 0)))=>
  run_acc h hj ha (instrOk_append eraseP_ok (sbP_ok _ _ (by omega))) (by have:=sbP_len (s.withGen 1) 0;have:=eraseP_len;rw[List.length_append];omega) hx)
 have HTL:Hid (eraseP.length+(sbP (s.withGen 1) 0).length≤100000):=by have:=sbP_len (s.withGen 1) 0;have:=eraseP_len;show _≤_;omega
 have HPR:=Lib.hid (fun wx (hx:Nib wx)=>program_any hx (s.withGen 1) ((show(s.withGen 1).Ok from⟨hok.v1,hok.v2,hok.l1,hok.l2,hok.r1,hok.u1,hok.d1,hok.q1,hok.t1,hok.r2,hok.u2,hok.d2,hok.q2,hok.t2,hok.h⟩).fits (show(0:Int)≤1 by omega) (show(1:Int)<18446744073709551616 by omega)) 0 (by omega));have HER:=Lib.hid (fun(wx:World) (sv:Value) (hx:RdSl wx 2 sv 2 (flat [(56,0),(120,0)]))=>stores_any (w:=wx) sv [(56,0),(120,0)] hx (by simp) (by decide))
 generalize hP:sbP (s.withGen 1) 0=P at *
 obtain⟨ver,lin,redo,und,desc,que,tab,gen⟩:=s;have HPR2:Hid (∀ wx,Nib wx→Calls Tryz.prog 147 #[.agg #[.int .i64 ver,.int .i64 lin,.int .i64 redo,.int .i64 und,.int .i64 desc,.int .i64 que,.int .i64 tab,.int .u64 1],.int .i64 0] wx fun r w'=>∃ ov,r = .returned ov∧Acc wx wx.heap.size w' 73 3 ov P.length (instrC P)):=HPR.out;have HEQ:Hid (storesL [(56,0),(120,0)]=eraseP):=rfl;rw[HEQ.out]at HER
 generalize eraseP=E at *
 unfold Sup.cells at *;have B0:=Lib.hid (below_alloc w (.cells #[.int .i64 ver,.int .i64 lin,.int .i64 redo,.int .i64 und,.int .i64 desc,.int .i64 que,.int .i64 tab,.int .u64 gen] 130));have K0:=Lib.hid (Blk.new w #[.int .i64 ver,.int .i64 lin,.int .i64 redo,.int .i64 und,.int .i64 desc,.int .i64 que,.int .i64 tab,.int .u64 gen] 130);clear h hN hus hok hl he hP HPR
 go_enter Tryz.func82,Tryz.ntmps82
 go_wp2_with fail
 (with_reducible refine(HU.out _ (H.out.below B0.out)).mono ?_)
 rintro e w1 ⟨rfl,b1⟩;have K1:=Lib.hid (K0.out.below b1);have B1:=Lib.hid (B0.out.trans (b1.mono B0.out.size));have z7:=K1.out.cell (i:=7) (v:=.int .u64 gen) rfl;have f7:=K1.out.frozen 7;have K2:Hid (Blk (w1.setCell ⟨w.heap.size,7,none⟩ (.int .u64 1)) w.heap.size #[.int .i64 ver,.int .i64 lin,.int .i64 redo,.int .i64 und,.int .i64 desc,.int .i64 que,.int .i64 tab,.int .u64 1] 130):=by
  have:=K1.out.set 7 (.int .u64 1);show Blk _ _ _ _
  simpa using this
 have B2:Hid (Below w.heap.size w (w1.setCell ⟨w.heap.size,7,none⟩ (.int .u64 1))):=B1.out.setCell (Nat.le_refl _) _;clear b1 K0 HU;have HE1:=Lib.hid (HER.out ((w1.setCell ⟨w.heap.size,7,none⟩ (.int .u64 1)).alloc (.cells #[.int .u64 56,.int .u64 0,.int .u64 120,.int .u64 0] 140)) (.slice (some ⟨w1.heap.size,0,none⟩) 2 2) (by exact RdSl.newAt _ _ _ 2 2 _ (by simp[World.setCell]) rfl));go_wp2_with fail
 (with_reducible refine HE1.out.mono ?_)
 rintro e w3 ⟨ov,rfl,a3⟩;have K3:=Lib.hid ((K2.out.alloc _).below a3.bel);have A3:=Lib.hid (a3.deeper (B2.out.trans ((below_alloc _ _).mono B2.out.size)));have B3:=Lib.hid A3.out.bel;obtain⟨oa,oc,hov⟩:=a3.slice;subst hov;have z0:=K3.out.cell (i:=0) (v:=.int .i64 ver) rfl;have z1:=K3.out.cell (i:=1) (v:=.int .i64 lin) rfl;have z2:=K3.out.cell (i:=2) (v:=.int .i64 redo) rfl;have z3:=K3.out.cell (i:=3) (v:=.int .i64 und) rfl
 have z4:=K3.out.cell (i:=4) (v:=.int .i64 desc) rfl;have z5:=K3.out.cell (i:=5) (v:=.int .i64 que) rfl;have z6:=K3.out.cell (i:=6) (v:=.int .i64 tab) rfl;have y7:=K3.out.cell (i:=7) (v:=.int .u64 1) rfl
 clear a3 HE1 HER K2 B2 z7 f7 K1 B1;go_wp2_with fail
 (with_reducible refine(HPR2.out _ (HNB.out.below B3.out)).mono ?_)
 rintro e w4 ⟨ov2,rfl,a4⟩;obtain⟨pa,pc,hpv⟩:=a4.slice;subst hpv;have B4:=Lib.hid (B3.out.trans (a4.bel.mono B3.out.size));have HT:=Lib.hid (then_any (w:=w4) _ _ E P (A3.out.keep a4.bel).rd a4.rd HTL.out);clear a4 z0 z1 z2 z3 z4 z5 z6 y7;go_wp2_with fail
 (with_reducible refine HT.out.mono ?_)
 rintro e w5 ⟨ov3,rfl,a5⟩;have hr:=HR.out _ _ (a5.deeper B4.out);obtain⟨qa,qc,hqv⟩:=a5.slice;subst hqv;rw[List.length_append]at hr;have HR1:=Lib.hid hr;clear hr
 clear a5 HR HT;go_wp2_with fail
 (with_reducible refine HR1.out.mono ?_)
 rintro e w6 ⟨rfl,p6⟩;have P6:=Lib.hid p6;clear p6
 go_wp2_with fail
 go_ret
 exact⟨rfl,P6.out⟩
end
end

section
open Go.RowKit Go.Maps
attribute [local go_sem ↓] Go.wp_at_zero Go.wp_at_succ
end
section
open Go.RowKit
theorem Sup.Ok.withGen{s:Sup}(h:s.Ok)(g:Int):(s.withGen g).Ok:=⟨h.v1,h.v2,h.l1,h.l2,h.r1,h.u1,h.d1,h.q1,h.t1,h.r2,h.u2,h.d2,h.q2,h.t2,h.h⟩
structure SCl(D:Dev)(j n:Nat)(C:Nat→Int)(x:Nat):Prop where
 grp:Grp D j n C [] []
 vb:D.VB
 exec:D.exec≤x
 ar:D.armed=false
section
variable{D:Dev}{C:Nat→Int}{j n x:Nat}
theorem SCl.cur(h:SCl D j n C x):D.cur=C:=funext fun i=>by rw[h.grp.hst.cur];rfl
theorem SCl.mono{y:Nat}(h:SCl D j n C x)(hxy:x≤y):SCl D j n C y:=⟨h.grp,h.vb,Nat.le_trans h.exec hxy,h.ar⟩
theorem SCl.bd(h:SCl D j n C x)(i:Nat):0≤C i∧C i<18446744073709551616:=by rw[← h.cur];exact h.vb.cur i
theorem fresh_scl{f:Nat→Int}(hf:∀ i,0≤f i∧f i<18446744073709551616)(j n:Nat):SCl (Dev.fresh n f) j n f 0:=
 ⟨⟨⟨rfl,rfl,rfl⟩,⟨fun _=>rfl,fun _=>rfl⟩,fun o ho=>by simp at ho,fun _ _=>rfl⟩,⟨hf,fun l e he=>by simp[Dev.fresh]at he⟩,Nat.le_refl _,rfl⟩
theorem SCl.stores(h:SCl D j n C x){ws:List (Nat×Int)}(hw:∀ e∈ws,e.1%8=0∧e.1<64*n)(hv:∀ e∈ws,0≤e.2∧e.2<18446744073709551616) :
  SCl (D.run j (storesL ws)) j n (fun i=>look ws (C i) i) (x+(storesL ws).length):=by
 have hx:=D.run_exec j (storesL ws);have:=h.exec;rw[stores_groups]at *
 rcases run_came h.grp (storesGs_ok hw)with ⟨h1,h2,_⟩ | ⟨_,_,_,_,_,_,_,_,h2,_⟩
 ·have e:laidG C (storesGs ws)=fun i=>look ws (C i) i:=funext fun i=>by rw[laidG_flat,storesGs_flat]
  rw[e]at h1;exact⟨h1,Dev.VB.run _ h.vb j (valP_groups (fun e he=>by rw[storesGs_flat]at he;exact hv e he)),by omega,by rw[h2];exact h.ar⟩
 ·rw[h.ar]at h2;cases h2
end
theorem sbWs_bd{s:Sup}(hf:s.Fits)(i:Nat):∀ e∈sbWs s i,0≤e.2∧e.2<18446744073709551616:=by
 obtain⟨g1,g2,v1,v2,l1,l2,r1,r2,u1,u2,d1,d2,q1,q2,t1,t2⟩:=hf;have h0:∀ q,q<8→(s.words.getD q 0)<18446744073709551616:=fun q hq=>by
  obtain rfl | rfl | rfl | rfl | rfl | rfl | rfl | rfl:q=0∨q=1∨q=2∨q=3∨q=4∨q=5∨q=6∨q=7:=by omega
  ·show 7738151121853964849<18446744073709551616;omega
  ·show s.gen.toNat<18446744073709551616;omega
  ·show s.w2<18446744073709551616;unfold Sup.w2;omega
  ·show s.w3<18446744073709551616;unfold Sup.w3;omega
  ·show 0<18446744073709551616;omega
  ·show 0<18446744073709551616;omega
  ·show 0<18446744073709551616;omega
  ·show 4294967296+crcN s.first<18446744073709551616
   have:=crcN_lt s.first;omega
 intro e he;unfold sbWs at he
 rcases List.mem_cons.1 he with rfl | he
 ·simp
 ·obtain⟨k,hk,rfl⟩:=List.mem_map.1 he
  have:=h0 k (List.mem_range.1 hk);simp only;omega
def prgC(s:Sup)(i:Nat)(C:Nat→Int)(x:Nat):Int:=look (sbWs s i) (C x) x
def ersC(C:Nat→Int)(x:Nat):Int:=look [(56,0),(120,0)] (C x) x
theorem prg_cp(s:Sup)(i:Nat)(C:Nat→Int):cpW (prgC s i C) i=s.words∧∀ q,q≠i→cpW (prgC s i C) q=cpW C q:=by
 have h:=cp_part s i 9 C (prgC s i C) (by omega) (fun x=>by rw[List.take_of_length_le (by rw[sbWs_eq];simp)];rfl);exact⟨h.2.2 rfl,h.1⟩
theorem ers_cp(C:Nat→Int):(cpW (ersC C) 0).getD 7 0=0∧(cpW (ersC C) 1).getD 7 0=0:=⟨rfl,rfl⟩
section
variable{D:Dev}{C:Nat→Int}{j n x:Nat}
theorem SCl.prog(h:SCl D j n C x){s:Sup}(hf:s.Fits){i:Nat}(hi:i<n):SCl (D.run j (sbP s i)) j n (prgC s i C) (x+19):=by
 have:=(h.stores (ws:=sbWs s i) (fun e he=>⟨(sbWs_line s i n hi e he).1,(sbWs_line s i n hi e he).2.1⟩) (sbWs_bd hf i));exact this.mono (by have:=sbP_len s i;show x+(sbP s i).length≤_;omega)
theorem SCl.format(h:SCl D j n C x){s:Sup}(hf:s.Fits)(hn:2≤n):SCl (D.run j (eraseP++sbP s 0)) j n (prgC s 0 (ersC C)) (x+24):=by
 rw[Dev.run_append];have h1:=h.stores (ws := [(56,0),(120,0)]) (fun e he=>by
  simp at he
  rcases he with rfl | rfl
  ·exact⟨rfl,by show 56<64*n;omega⟩
  ·exact⟨rfl,by show 120<64*n;omega⟩) (fun e he=>by simp at he;rcases he with rfl | rfl <;> simp)
 exact(SCl.prog (h1.mono (y:=x+5) (by have:=eraseP_len;show x+eraseP.length≤_;omega)) hf (by omega)).mono (by omega)
end
theorem new_format(s:Sup)(hk:s.Ok)(hg:0≤s.gen)(C:Nat→Int){n:Nat}(hl:s.lin≤n) :
  cpG (prgC s 0 (ersC C)) n 1=false∧cpG (prgC s 0 (ersC C)) n 0=true∧newG (prgC s 0 (ersC C)) n=true∧newA (prgC s 0 (ersC C)) n=0∧newS (prgC s 0 (ersC C)) n=s:=by
 obtain⟨h0,h1⟩:=prg_cp s 0 (ersC C);have g1:cpG (prgC s 0 (ersC C)) n 1=false:=by unfold cpG;rw[h1 1 (by omega)];exact goodB_seven (ers_cp C).2
 have hw:=goodB_words s hk hg hl;have g0:cpG (prgC s 0 (ersC C)) n 0=true:=by unfold cpG;rw[h0];exact hw.1
 have hb:newB (prgC s 0 (ersC C)) n=false:=by unfold newB;rw[g1];rfl
 have ha:newA (prgC s 0 (ersC C)) n=0:=by unfold newA;rw[hb];rfl
 refine⟨g1,g0,by unfold newG;rw[hb,g0];rfl,ha,?_⟩
 unfold newS cpS;rw[ha,h0];exact hw.2
theorem newG_good{C:Nat→Int}{n:Nat}(h:newG C n=true):cpG C n (newA C n)=true:=by
 unfold newG at h;unfold newA
 cases hb:newB C n
 ·rw[hb]at h;simpa using h
 ·unfold newB at hb;simp only[Bool.and_eq_true]at hb;simpa using hb.1
theorem new_update(s:Sup)(hk:s.Ok)(C F:Nat→Int){n:Nat}(hl:s.lin≤n)(hG:newG C n=true)(hg:(newS C n).gen<s.gen)(h0:0≤s.gen)(hn:cpW F (1-newA C n)=s.words)(ho:cpW F (newA C n)=cpW C (newA C n)) :
  newG F n=true∧newS F n=s∧newA F n=1-newA C n:=by
 have hgd:=newG_good hG;have hw:=goodB_words s hk h0 hl;have ha:newA C n=0∨newA C n=1:=by unfold newA;split <;> simp
 unfold newS at hg
 rcases ha with ha | ha
 ·rw[ha]at hgd hn ho hg ⊢
  have g1:cpG F n 1=true:=by unfold cpG;rw[hn];exact hw.1
  have s1:cpS F n 1=s:=by unfold cpS;rw[hn];exact hw.2
  have s0:cpS F n 0=cpS C n 0:=by unfold cpS;rw[ho]
  have hb:newB F n=true:=by
   unfold newB;rw[g1,s1,s0];simp[hg]
  have hA:newA F n=1:=by unfold newA;rw[hb];rfl
  exact⟨by unfold newG;rw[hb];rfl,by unfold newS;rw[hA];exact s1,hA⟩
 ·rw[ha]at hgd hn ho hg ⊢
  have g0:cpG F n 0=true:=by unfold cpG;rw[hn];exact hw.1
  have s0:cpS F n 0=s:=by unfold cpS;rw[hn];exact hw.2
  have s1:cpS F n 1=cpS C n 1:=by unfold cpS;rw[ho]
  have hb:newB F n=false:=by
   unfold newB;rw[g0,s1,s0];have:¬ s.gen<(cpS C n 1).gen:=by omega
   simp[this]
  have hA:newA F n=0:=by unfold newA;rw[hb];rfl
  exact⟨by unfold newG;rw[hb,g0];rfl,by unfold newS;rw[hA];exact s0,hA⟩
end

section
open Go.RowKit Go.Maps
attribute [local go_sem ↓] Go.wp_at_zero Go.wp_at_succ
section
variable{w wb:World}{v:DV}{own:Nat→Option Role}{D D1:Dev}{a n:Nat}{q:List (Nat×Nat×Int)}{ok:(Nat→Int)→Prop}{g:(Nat→Int)→Bool→Bool}
theorem DPost.above{w w':World}{D':Dev}{B:Nat}(h:DPost v own w D' w')(ho:∀ k,own k≠none→B≤k)(hB:B≤w.heap.size):Below B w w':=by
 obtain⟨_,_,_,u⟩:=h;exact⟨u.os,u.tape,u.output,u.size,fun k hk=>u.block k (by omega) (fun e=>by have:=ho k e;omega)⟩
structure Pst(B:Nat)(w0:World)(v:DV)(D:Dev)(own:Nat→Option Role)(w:World):Prop where
 dev:IsDev w v own D
 ab:∀ k,own k≠none→B≤k
 bel:Below B w0 w
 le:B≤w0.heap.size
theorem Pst.start{B:Nat}(h:IsDev w v own D)(ho:∀ k,own k≠none→B≤k)(hB:B≤w.heap.size):Pst B w v D own w:=⟨h,ho,Below.refl _ _,hB⟩
theorem Pst.size{B:Nat}{w0:World}(P:Pst B w0 v D own w):B≤w.heap.size:=Nat.le_trans P.le P.bel.size
theorem Pst.next{B:Nat}{w0 w':World}(P:Pst B w0 v D own w)(hb:Below w.heap.size w w'):Pst B w0 v D own w':=⟨P.dev.below hb,P.ab,P.bel.trans (hb.mono P.size),P.le⟩
theorem Pst.post{B:Nat}{w0 w':World}{D':Dev}(P:Pst B w0 v D own w)(h:DPost v own w D' w'):∃ own',Pst B w0 v D' own' w':=by
 have hb:=h.above P.ab P.size;obtain⟨own',d,o,_⟩:=h;refine⟨own',d,fun k hk => ?_,P.bel.trans hb,P.le⟩
 by_cases h1:k<w.heap.size
 ·rw[o k h1]at hk;exact P.ab k hk
 ·have:=P.size;omega
theorem Pst.set{B:Nat}{w0:World}(P:Pst B w0 v D own w){p:Addr}(hp:B≤p.block)(ho:own p.block=none)(u:Value):Pst B w0 v D own (w.setCell p u):=
 ⟨P.dev.kept (by simp[World.setCell]) (fun k hk=>Below.heap_setCell _ _ _ _ (by intro e;subst e;exact hk ho)),P.ab,P.bel.setCell hp u,P.le⟩
structure SyP(wb:World)(a n:Nat)(D1:Dev)(q:List (Nat×Nat×Int))(ok:(Nat→Int)→Prop)(g:(Nat→Int)→Bool→Bool):Prop where
 lo:64≤n
 hi:n≤4096
 dn:D1.n=n
 vb:D1.VB
 ex:D1.exec+q.length<200
 tot:totH D1=0
 len:q.length≤60
 okq:∀ e∈q,OkQ n e
 setup:∀ (wx:World) (v:DV) (own:Nat→Option Role) (B:Nat),Below wb.heap.size wb wx→(∀ k,own k≠none→B≤k)→wb.heap.size≤B→B≤wx.heap.size→IsDev wx v own (Dev.fresh n (fun _=>0)) →
  Calls Tryz.prog 305 #[.pointer (some ⟨a,0,none⟩),.pointer (some ⟨v.db,0,none⟩)] wx fun r w'=>r = .returned (.int .i64 0)∧∃ own',Pst B wx v D1 own' w'
 prog:∀ (wx:World) (v:DV) (own:Nat→Option Role),Below wb.heap.size wb wx→(∀ k,own k≠none→wb.heap.size≤k)→IsDev wx v own D1 →
  Calls Tryz.prog 304 #[.pointer (some ⟨a,0,none⟩),.iface 40 (.pointer (some ⟨v.tb 0,0,none⟩))] wx fun r w'=>∃ sv,r = .returned (.tuple #[sv,.int .i64 0])∧Acc wx wx.heap.size w' 73 3 sv q.length (instrC q)
 good:∀ (wx:World) (v:DV) (own:Nat→Option Role) (D:Dev) (x:Nat) (F:Nat→Int) (B:Nat) (e:Bool),Below wb.heap.size wb wx→ok F→SCl D 0 n F x→x≤1000→IsDev wx v own D→(∀ k,own k≠none→B≤k)→wb.heap.size≤B→B≤wx.heap.size →
  Calls Tryz.prog 303 #[.pointer (some ⟨a,0,none⟩),.pointer (some ⟨v.db,0,none⟩),.bool e] wx fun r w'=>r = .returned (.bool (g F e))∧Below B wx w'
theorem SyP.next(P:SyP wb a n D1 q ok g)(hb:Below wb.heap.size wb w):SyP w a n D1 q ok g:=
 ⟨P.lo,P.hi,P.dn,P.vb,P.ex,P.tot,P.len,P.okq,fun wx v own B h ho hB=>P.setup wx v own B (hb.trans (h.mono hb.size)) ho (Nat.le_trans hb.size hB),fun wx v own h ho=>P.prog wx v own (hb.trans (h.mono hb.size)) (fun k hk=>Nat.le_trans hb.size (ho k hk)),fun wx v own D x F B e h hk hS hx hd ho hB=>P.good wx v own D x F B e (hb.trans (h.mono hb.size)) hk hS hx hd ho (Nat.le_trans hb.size hB)⟩
theorem meth_syProgram(a:Addr)(w:World):(method 461 160 (.pointer (some a)) "Program").run Tryz.prog w = .ok (304,.pointer (some a)) w:=by kernel_rfl
theorem meth_syGood(a:Addr)(w:World):(method 461 160 (.pointer (some a)) "Good").run Tryz.prog w = .ok (303,.pointer (some a)) w:=by kernel_rfl
theorem nil_syProgram(a:Addr)(w:World):(nilAhead 461 160 (.pointer (some a)) "Program").run Tryz.prog w = .ok (some false) w:=by kernel_rfl
def SyPp(w:World)(D1:Dev)(q:List (Nat×Nat×Int))(f:Int)(r:Ending)(w':World):Prop:=
 (isOf f q=false∧r = .returned (.tuple #[.pointer none,.slice none 0 0,.int .i64 2])) ∨
 (isOf f q=true∧∃ (v:DV) (own:Nat→Option Role) (sv:Value),r = .returned (.tuple #[.pointer (some ⟨v.db,0,none⟩),sv,.int .i64 0])∧IsDev w' v own D1∧RdSl w' 3 sv (qOf f q).length (instrC (qOf f q)) ∧
  (∀ k,own k≠none→w.heap.size≤k)∧∀ g,sv.ownBlock=some g→own g=none)
theorem prepS_any(P:SyP w a n D1 q ok g)(f:Int) :
  Calls Tryz.prog 56 #[(.iface 160 (.pointer (some ⟨a,0,none⟩))),.int .i64 n,.int .i64 f] w fun r w'=>SyPp w D1 q f r w'∧Below w.heap.size w w':=by
 have hl:=P.len;have HN:=Lib.hid (new_any (w:=w) n (by have:=P.lo;omega) P.hi);have hms:=meth_sySetup ⟨a,0,none⟩;have hmp:=meth_syProgram ⟨a,0,none⟩;have hnl:=nil_syProgram ⟨a,0,none⟩
 have HFE:=Lib.hid (fun(wx:World) (sv:Value) (hx:RdSl wx 3 sv q.length (instrC q))=>fences_any sv q hx (by omega));have HWO:=Lib.hid (fun(wx:World) (sv:Value) (hx:RdSl wx 3 sv q.length (instrC q))=>mWithout_any sv q hx (by omega) f);have HIS:Hid (isOf f q=(decide (f = -1) || decide (0≤f∧f<fenN q))):=rfl;have HQ1:Hid (f = -1→qOf f q=q):=fun e=>by unfold qOf;rw[if_pos e]
 have HQ2:Hid (f ≠ -1→qOf f q=woI f q 0):=fun e=>by unfold qOf;rw[if_neg e]
 have HSU:=Lib.hid P.setup;have HPG:=Lib.hid P.prog
 have hfl:=fenN_le q;obtain⟨fn,hfn⟩:∃ fn,fenN q=fn:=⟨_,rfl⟩;rw[hfn]at HFE HIS hfl;obtain⟨m,hm⟩:∃ m,q.length=m:=⟨_,rfl⟩;have HMQ:Hid (q.length=m):=hm;rw[hm]at HPG HFE HWO hl hfl;clear P hfn hm
 go_enter Tryz.func56,Tryz.ntmps56
 go_wp2_with fail
 (with_reducible refine HN.out.mono ?_)
 rintro r w1 ⟨v,own,rfl,d1,o1,b1⟩;have O1:=Lib.hid o1;have B1:=Lib.hid b1
 have HSU1:=Lib.hid (HSU.out w1 v own w.heap.size b1 o1 (Nat.le_refl _) b1.size d1);clear d1 o1 b1 HN HSU;go_wp2_with fail
 (with_reducible refine HSU1.out.mono ?_)
 rintro r w2 ⟨rfl,own2,p2⟩;have B2:Hid (Below w.heap.size w w2):=Lib.hid (B1.out.trans p2.bel);have D2:=Lib.hid p2.dev;have O2:Hid (∀ k,own2 k≠none→w.heap.size≤k):=Lib.hid p2.ab;clear p2 O1 B1 HSU1;have HTH:=Lib.hid (fun(wx:World) (hx:IsDev wx v own2 D1)=>thrZ_any hx);have D2d:Hid (IsDev w2.drew v own2 D1):=D2.out.drew;have HP2:=Lib.hid (HPG.out w2.drew v own2 B2.out.drew O2.out D2d.out);go_wp2_with fail
 go_region_with (first | (go_at_call 11;(with_reducible refine(HTH.out _ D2d.out).mono ?_);rintro e w' ⟨rfl,rfl⟩) | (go_at_call 304;(with_reducible refine HP2.out.mono ?_);rintro e w3 ⟨sv,rfl,a3⟩;have A3:=Lib.hid a3;clear a3))
 all_goals
  obtain⟨sa,sc,hsv⟩:=A3.out.slice;subst hsv;have B3:Hid (Below w.heap.size w w3):=Lib.hid ((B2.out.drew).trans (A3.out.bel.mono (by exact B2.out.size)));have D3:Hid (IsDev w3 v own2 D1):=Lib.hid (D2d.out.kept A3.out.bel.size (fun k hk=>A3.out.bel.block k (D2d.out.lt k hk)));have HFE1:=Lib.hid (HFE.out w3 _ A3.out.rd);have HON:Hid (∀ g,(Value.slice sa m sc).ownBlock=some g→own2 g=none):=fun g hg=>by
   have h1:=A3.out.new g hg
   cases hh:own2 g with
   | none=>rfl
   | some x=>have:=D2d.out.lt g (by rw[hh];simp);omega
  by_cases hf1:f < -1
  ·have e:isOf f q=false:=by rw[HIS.out,decide_eq_false (by omega),decide_eq_false (by omega)];rfl
   go_wp2_with fail
   go_ret3
   exact⟨.inl ⟨e,rfl⟩,B3.out⟩
  ·go_wp2_with fail
   (with_reducible refine HFE1.out.mono ?_)
   rintro r w4 ⟨rfl,b4⟩;have B4:=Lib.hid (B3.out.trans (b4.mono B3.out.size));have D4:=Lib.hid (D3.out.kept b4.size (fun k hk=>b4.block k (D3.out.lt k hk)));have R4:=Lib.hid (A3.out.rd.below b4);clear b4
   by_cases hf2:(fn:Int)≤f
   ·have e:isOf f q=false:=by rw[HIS.out,decide_eq_false (by omega),decide_eq_false (by omega)];rfl
    go_wp2_with fail
    go_ret3
    exact⟨.inl ⟨e,rfl⟩,B4.out⟩
   ·by_cases hf3:0≤f
    ·have e:isOf f q=true:=by rw[HIS.out,decide_eq_true (show 0≤f∧f<(fn:Int)by omega),Bool.or_true]
     have eq:=HQ2.out (by omega);have HW1:=Lib.hid (HWO.out w4 _ R4.out);go_wp2_with fail
     (with_reducible refine HW1.out.mono ?_)
     rintro r w5 ⟨sv5,rfl,a5⟩;have A5:=Lib.hid a5;clear a5;have E:=Lib.hid (And.intro e eq);clear e eq;go_wp2_with fail
     go_ret3
     refine⟨.inr ⟨E.out.1,v,own2,sv5,rfl,D4.out.kept A5.out.bel.size (fun k hk=>A5.out.bel.block k (D4.out.lt k hk)),by rw[E.out.2];exact A5.out.rd,fun k hk=>O2.out k hk,fun g hg => ?_⟩,B4.out.trans (A5.out.bel.mono B4.out.size)⟩
     have h1:=A5.out.new g hg
     cases hh:own2 g with
     | none=>rfl
     | some x=>have:=D4.out.lt g (by rw[hh];simp);omega
    ·have e:isOf f q=true:=by rw[HIS.out,decide_eq_true (show f = -1 by omega),Bool.true_or]
     have eq:=HQ1.out (by omega);have E:=Lib.hid (And.intro e eq);clear e eq;go_wp2_with fail
     go_ret3
     exact⟨.inr ⟨E.out.1,v,own2,_,rfl,D4.out,by rw[E.out.2,HMQ.out];exact R4.out,fun k hk=>O2.out k hk,HON.out⟩,B4.out⟩
end
end
end Go.Proofs.YtlhchkajjpefmaaGreatDoor
