/- Lemmas and walks, part 12: each theorem says what it proves; no condition beside its own. -/
import Derived.Test.YtlhchkajjpefmaaGreatDoorK11
set_option maxHeartbeats 16000000
set_option maxRecDepth 100000
namespace Go.Proofs.YtlhchkajjpefmaaGreatDoor
open Lib(hid)
open Go.RowKit Go.Proofs.Tryz
section
open Go.Maps
attribute [local go_sem ↓] Go.wp_at_zero Go.wp_at_succ
def Rx(a b:Sup)(g0 g1:Bool):Array Value:=
 #[.int .i64 a.ver,.int .i64 a.lin,.int .i64 a.redo,.int .i64 a.und,.int .i64 a.desc,.int .i64 a.que,.int .i64 a.tab,.int .u64 a.gen,
  .int .i64 b.ver,.int .i64 b.lin,.int .i64 b.redo,.int .i64 b.und,.int .i64 b.desc,.int .i64 b.que,.int .i64 b.tab,.int .u64 b.gen,.bool g0,.bool g1]
def nwB(a b:Sup)(g0 g1:Bool):Bool:=g1&&(!g0 || decide (a.gen<b.gen))
section
variable{w:World}{v:DV}{own:Nat->Option Qp}{D:Dev}{j:Nat}
theorem Wp(h:IsDev w v own D)(hj:j<8):Calls prog 198 #[.iface 40 (.pointer (some ⟨v.tb j,0,none⟩))] w fun r w'=>r = .returned (.int .u64 D.n)/\w=w':=by
 have hm1:=meth_Size ⟨v.tb j,0,none⟩;have HT:=hid (thrSize_any h hj);have hq:(D.n:Int)*64/64=D.n:=by omega
 have hn:=h.wf.le;have hu:IntKind.u64.wrap (D.n:Int)=D.n:=IntWalk.u64_in _ (by omega);clear h
 go_enter func198,ntmps198
 go_wp2_with fail
 (with_reducible refine HT.out.mono ?_)
 rintro e w' ⟨rfl,rfl⟩;go_wp2_with fail
 go_ret
 exact⟨rfl,rfl⟩
theorem Qk5(h:IsDev w v own D)(hj:j<8)(hn:2<=D.n):Calls prog 181 #[.iface 40 (.pointer (some ⟨v.tb j,0,none⟩))] w fun r w'=>r = .returned (.int .i64 (D.err j))/\w=w':=by
 have hm1:=meth_Err ⟨v.tb j,0,none⟩;have HT:=hid (Wp h hj);have HE:=hid (err_any h hj);have hn':¬ (D.n:Int)<2:=by omega
 clear h
 go_enter func181,ntmps181
 go_wp2_with fail
 (with_reducible refine HT.out.mono ?_)
 rintro e w' ⟨rfl,rfl⟩;go_wp2_with fail
 (with_reducible refine HE.out.mono ?_)
 rintro e w' ⟨rfl,rfl⟩;go_wp2_with fail
 go_ret
 exact⟨rfl,rfl⟩
theorem Ex(a b:Sup)(g0 g1:Bool)(nn:Nat)(gg:Bool)(h1:nn=if nwB a b g0 g1 then 1 else 0)(h2:gg=if nwB a b g0 g1 then true else g0) :
  Calls prog 146 #[.agg (Rx a b g0 g1)] w fun r w'=>r = .returned (.tuple #[.int .i64 nn,.bool gg])/\Below w.heap.size w w':=by
 obtain⟨av,al,ar,au,ad,aq,at',ag⟩:=a;obtain⟨bv,bl,br,bu,bd,bq,bt,bg⟩:=b;have HB:=hid (Qa w (.cells (Rx ⟨av,al,ar,au,ad,aq,at',ag⟩ ⟨bv,bl,br,bu,bd,bq,bt,bg⟩ g0 g1) 220));unfold Rx at *
 cases g1
 ·obtain rfl:nn=0:=h1
  obtain rfl:gg=g0:=h2
  go_enter func146,ntmps146
  go_wp2_with fail
  go_region
  all_goals go_wp2_with fail
  all_goals go_ret2
  all_goals exact⟨rfl,HB.out.drew⟩
 ·cases g0
  ·obtain rfl:nn=1:=h1
   obtain rfl:gg=true:=h2
   go_enter func146,ntmps146
   go_wp2_with fail
   go_ret2
   exact⟨rfl,HB.out⟩
  ·by_cases hg:ag<bg
   ·have hd:decide (ag<bg)=true:=by simpa using hg
    have hN:nwB ⟨av,al,ar,au,ad,aq,at',ag⟩ ⟨bv,bl,br,bu,bd,bq,bt,bg⟩ true true=true:=by unfold nwB;simp[hg]
    rw[hN]at h1 h2;obtain rfl:nn=1:=h1;obtain rfl:gg=true:=h2;clear hg hN
    go_enter func146,ntmps146
    go_wp2_with fail
    go_ret2
    exact⟨rfl,HB.out⟩
   ·have hd:decide (ag<bg)=false:=by simpa using hg
    have hN:nwB ⟨av,al,ar,au,ad,aq,at',ag⟩ ⟨bv,bl,br,bu,bd,bq,bt,bg⟩ true true=false:=by unfold nwB;simp[hg]
    rw[hN]at h1 h2;obtain rfl:nn=0:=h1;obtain rfl:gg=true:=h2;clear hg hN
    go_enter func146,ntmps146
    go_wp2_with fail
    go_region
    all_goals go_wp2_with fail
    all_goals go_ret2
    all_goals exact⟨rfl,HB.out.drew⟩
theorem Rl(hN:Nib w)(s:Sup)(hf:s.Fits)(i:Nat)(hi:i<=1):Calls prog 147 #[.agg s.cells,.int .i64 i] w fun r w'=>∃ ov,r = .returned ov/\Acc w w.heap.size w' 73 3 ov (sbP s i).length (Qd (sbP s i)):=by
 have HE:=hid (fun wx (hx:Nib wx)=>Ee hx s hf);have HNB:=hid hN;obtain⟨k0,hi0,hz0,hz1,hz2⟩:=info_parts Xe;have I2:=hid (And.intro hi0 (And.intro hz0 (And.intro hz1 hz2)));clear hi0 hz0 hz1 hz2
 obtain⟨o,ho⟩:∃ o,64*i=o:=⟨_,rfl⟩;have y1:(i:Int)*64=(o:Int):=by omega
 have ho64:o<=64:=by omega
 obtain⟨b0,b1,b2,b3,b4,b5,b6,b7,hb⟩:∃ b0 b1 b2 b3 b4 b5 b6 b7,s.words = [b0,b1,b2,b3,b4,b5,b6,b7]:=⟨_,_,_,_,_,_,_,_,rfl⟩;have HWS:Hid (Dr s i = [(o+56,0),(o,(b0:Int)),(o+8,(b1:Int)),(o+16,(b2:Int)),(o+24,(b3:Int)),(o+32,(b4:Int)),(o+40,(b5:Int)),(o+48,(b6:Int)),(o+56,(b7:Int))]):=by
  show Dr s i=_
  rw[Rs,hb,ho];rfl
 have HST:=hid (fun(wx:World) (sv:Value) (hx:Ql wx 2 sv (Dr s i).length (Qv (Dr s i)))=>Xd sv (Dr s i) hx (by rw[Rs];simp) (fun e he=>by have:=(Ff s i (i+1) (by omega) e he).2.1;omega));have hP:sbP s i=Qe (Dr s i):=rfl;rw[hb]at HE;rw[show Qic [b0,b1,b2,b3,b4,b5,b6,b7] = #[.int .u64 (b0:Int),.int .u64 (b1:Int),.int .u64 (b2:Int),.int .u64 (b3:Int),.int .u64 (b4:Int),.int .u64 (b5:Int),.int .u64 (b6:Int),.int .u64 (b7:Int)]from rfl]at HE;rw[hP];rw[HWS.out]at HST ⊢;clear hP hf hb HWS hN ho hi;obtain⟨ver,lin,redo,und,desc,que,tab,gen⟩:=s;unfold Sup.cells at *
 go_enter func147,ntmps147
 go_wp2_with fail
 (with_reducible refine(HE.out _ (HNB.out.below (Qa _ _))).mono ?_)
 rintro e w1 ⟨rfl,b1'⟩;have B1:=hid ((Qa w (.cells #[.int .i64 ver,.int .i64 lin,.int .i64 redo,.int .i64 und,.int .i64 desc,.int .i64 que,.int .i64 tab,.int .u64 gen] 130)).trans (b1'.mono (by simp)));clear b1' HE;have hB:=B1.out.size;have A0:Hid (Acc w w.heap.size ((w1.alloc (.cells #[.int .u64 (b0:Int),.int .u64 (b1:Int),.int .u64 (b2:Int),.int .u64 (b3:Int),.int .u64 (b4:Int),.int .u64 (b5:Int),.int .u64 (b6:Int),.int .u64 (b7:Int)] 277)).alloc (.cells #[.int .u64 ((o:Int)+56),.int .u64 0] 140)) 140 2 (.slice (some ⟨w1.heap.size+1,0,none⟩) 1 1) 1 (Qv [(o+56,0)])):=
  ⟨by have:=Qj.new (w1.alloc (.cells #[.int .u64 (b0:Int),.int .u64 (b1:Int),.int .u64 (b2:Int),.int .u64 (b3:Int),.int .u64 (b4:Int),.int .u64 (b5:Int),.int .u64 (b6:Int),.int .u64 (b7:Int)] 277)) #[.int .u64 ((o:Int)+56),.int .u64 0] 140 2 1 1 rfl (Nat.le_refl _) (by unfold maxLen;omega)
      simpa [Qv]using this,
   fun g hg=>by simp[Value.ownBlock]at hg;omega,B1.out.trans ((Ze w1 _ _).mono B1.out.size),by simp;omega⟩
 go_wp2_with fail
 go_loopw [7,20] (fun sv y wr=>∃ k:Nat,k<=8/\y = .int .i64 k/\Acc w w.heap.size wr 140 2 sv (k+1) (Qv (([(o+56,0),(o,(b0:Int)),(o+8,(b1:Int)),(o+16,(b2:Int)),(o+24,(b3:Int)),(o+32,(b4:Int)),(o+40,(b5:Int)),(o+48,(b6:Int)),(o+56,(b7:Int))]:List (Nat×Int)).take (k+1)))) (fun _ y _=>8-(intOf y).toNat)
 case atStart=>exact⟨0,by omega,rfl,A0.out⟩
 case round=>
  clear A0;obtain⟨k,hk,rfl,ha⟩:=hrel;obtain⟨qa,qc,hov⟩:=ha.slice;subst hov;have A:=hid ha;clear ha
  by_cases hlt:k<8
  ·obtain⟨x,hx⟩:∃ x:Nat,x = [b0,b1,b2,b3,b4,b5,b6,b7].getD k 0:=⟨_,rfl⟩
   have HT:Hid (Qv (([(o+56,0),(o,(b0:Int)),(o+8,(b1:Int)),(o+16,(b2:Int)),(o+24,(b3:Int)),(o+32,(b4:Int)),(o+40,(b5:Int)),(o+48,(b6:Int)),(o+56,(b7:Int))]:List (Nat×Int)).take (k+1+1))=Qv (([(o+56,0),(o,(b0:Int)),(o+8,(b1:Int)),(o+16,(b2:Int)),(o+24,(b3:Int)),(o+32,(b4:Int)),(o+40,(b5:Int)),(o+48,(b6:Int)),(o+56,(b7:Int))]:List (Nat×Int)).take (k+1))++Qv [(o+8*k,(x:Int))]):=by
    show Qv _=_
    rw[<- Za]
    congr 1
    subst hx;obtain rfl | rfl | rfl | rfl | rfl | rfl | rfl | rfl:k=0\/k=1\/k=2\/k=3\/k=4\/k=5\/k=6\/k=7:=by omega
    all_goals rfl
   have hk':(k:Int)<8:=by omega
   have hix:∀ wx,(Instr.index 277 (.agg #[.int .u64 (b0:Int),.int .u64 (b1:Int),.int .u64 (b2:Int),.int .u64 (b3:Int),.int .u64 (b4:Int),.int .u64 (b5:Int),.int .u64 (b6:Int),.int .u64 (b7:Int)]) (.int .i64 (k:Int))).run prog wx = .ok (.int .u64 (x:Int)) wx:=by
    intro wx;subst hx;obtain rfl | rfl | rfl | rfl | rfl | rfl | rfl | rfl:k=0\/k=1\/k=2\/k=3\/k=4\/k=5\/k=6\/k=7:=by omega
    all_goals kernel_rfl
   obtain⟨t,ht⟩:∃ t,o+8*k=t:=⟨_,rfl⟩;have ht2:(o:Int)+(k:Int)*8=(t:Int):=by omega
   rw[ht]at HT;have htl:t<200:=by omega
   clear hx ht;go_wp2_with (at_builtin;refine Qc _ rfl _ _ 52 rfl 140 k0 _ 2 16 underlying52 I2.out.1 I2.out.2.1 I2.out.2.2.1 I2.out.2.2.2 rfl (by decide) _ (k+1) (Qv (([(o+56,0),(o,(b0:Int)),(o+8,(b1:Int)),(o+16,(b2:Int)),(o+24,(b3:Int)),(o+32,(b4:Int)),(o+40,(b5:Int)),(o+48,(b6:Int)),(o+56,(b7:Int))]:List (Nat×Int)).take (k+1))) rfl (by exact A.out.own.alloc _) _ 1 (Qv [(t,(x:Int))]) rfl (by exact Ql.newAt _ _ _ 2 1 _ (by simp) rfl) (Xp _) (by unfold maxLen;omega) (by omega) ?_)
   intro v1 w4 o1 g1 n1 m1;have A4:=hid (A.out.next (Qa wr _) o1 g1 n1 (by simp));clear o1 g1 n1 m1 A
   go_wp2_with fail
   go_roundw
   case rel=>exact⟨k+1,by omega,by go_num,A4.out.congr rfl HT.out.symm⟩
   case measure=>simp[intOf];omega
  ·obtain rfl:k=8:=by omega
   have HS:=hid (HST.out _ _ A.out.rd);go_wp2_with fail
   (with_reducible refine HS.out.mono ?_)
   rintro e w4 ⟨ov,rfl,a4⟩;have A4:=hid (a4.deeper A.out.bel);clear a4
   go_wp2_with fail
   go_ret
   exact⟨_,rfl,A4.out⟩
end
end
section
open Go.Maps
attribute [local go_sem ↓] Go.wp_at_zero Go.wp_at_succ
theorem Qoz(a:Addr)(w:World):(nilAhead 461 40 (.pointer (some a)) "Load").run prog w = .ok (some false) w:=by kernel_rfl
theorem Sup.ex(s:Sup):∃ z0 z1 z2 z3 z4 z5 z6 z7,s=⟨z0,z1,z2,z3,z4,z5,z6,z7⟩:=⟨_,_,_,_,_,_,_,_,rfl⟩
structure Qqx(w:World)(A:Array Value)(wr:World):Prop where
 res:Blk wr w.heap.size (Rx Sup.zero Sup.zero false false) 220
 cps:Blk wr (w.heap.size+1) A 220
 bel:Below w.heap.size w wr
section
variable{w wr wz:World}{v:DV}{own:Nat->Option Qp}{D:Dev}{j:Nat}{A:Array Value}
theorem Qqx.next(h:Qqx w A wr)(hb:Below wr.heap.size wr wz):Qqx w A wz:=⟨h.res.below hb,h.cps.below hb,h.bel.trans (hb.mono h.bel.size)⟩
theorem Qqx.set(h:Qqx w A wr)(k:Nat)(u:Value):Qqx w (A.setIfInBounds k u) (wr.setCell ⟨w.heap.size+1,k,none⟩ u):=⟨h.res.other (by simp) u,h.cps.set k u,h.bel.setCell (by simp) u⟩
theorem Qqx.start:Qqx w (Rx Sup.zero Sup.zero false false) ((w.alloc (.cells (Rx Sup.zero Sup.zero false false) 220)).alloc (.cells (Rx Sup.zero Sup.zero false false) 220)):=by
 refine⟨(Blk.new w _ _).alloc _,?_,Ze w _ _⟩
 have:=Blk.new (w.alloc (.cells (Rx Sup.zero Sup.zero false false) 220)) (Rx Sup.zero Sup.zero false false) 220;simpa using this
theorem Qr0(a b:Sup)(g0 g1 g:Bool)(z0 z1 z2 z3 z4 z5 z6 z7:Int):(((((((((Rx a b g0 g1).setIfInBounds 0 (.int .i64 z0)).setIfInBounds 1 (.int .i64 z1)).setIfInBounds 2 (.int .i64 z2)).setIfInBounds 3 (.int .i64 z3)).setIfInBounds 4 (.int .i64 z4)).setIfInBounds 5 (.int .i64 z5)).setIfInBounds 6 (.int .i64 z6)).setIfInBounds 7 (.int .u64 z7)).setIfInBounds 16 (.bool g)=Rx ⟨z0,z1,z2,z3,z4,z5,z6,z7⟩ b g g1:=by
 simp[Rx]
theorem Qr1(a b:Sup)(g0 g1 g:Bool)(z0 z1 z2 z3 z4 z5 z6 z7:Int):(((((((((Rx a b g0 g1).setIfInBounds 8 (.int .i64 z0)).setIfInBounds 9 (.int .i64 z1)).setIfInBounds 10 (.int .i64 z2)).setIfInBounds 11 (.int .i64 z3)).setIfInBounds 12 (.int .i64 z4)).setIfInBounds 13 (.int .i64 z5)).setIfInBounds 14 (.int .i64 z6)).setIfInBounds 15 (.int .u64 z7)).setIfInBounds 17 (.bool g)=Rx a ⟨z0,z1,z2,z3,z4,z5,z6,z7⟩ g0 g:=by
 simp[Rx]
theorem Hs{P:Program}{fn:Func}{p u:Tmp}{ty:TypeId}(h:fn.results = #[.cell p ty,.tmp u])(tmps:Array Value)(wx:World)(g:Nat)(t:TypeId)(cs:Array Value)(d:TypeDesc)
  (hp:tmps.getD p undef = .pointer (some ⟨g,0,none⟩)) (hg:wx.heap[g]? = some (.cells cs t (0,0))) (hu:P.underlying ty=some d) (hd:(match d with | .struct _ | .array _ _=>true | _=>false)=true) (hi:(P.info? ty).map (·.size)=some cs.size)
  (x:Value) (hx:tmps.getD u undef=x):(results fn tmps).run P wx = .ok (.tuple #[.agg cs,x]) wx:=by
 rw[results_cell_tmp h,hp,hx];simp[asAddr,run_loadVar_row wx g t ty cs (0,0) d hg hu hd hi]
def ldA(C:Nat->Int)(n i:Nat):Array Value:=if i=0 then Rx Sup.zero Sup.zero false false else if i=1 then Rx (cpS C n 0) Sup.zero (cpG C n 0) false else Rx (cpS C n 0) (cpS C n 1) (cpG C n 0) (cpG C n 1)
structure Qem(wr0:World)(g:Nat)(F:Nat->Int)(k:Nat)(wr:World):Prop where
 row:Row wr g 8 277 (fun i => .int .u64 (if i<k then F i else 0))
 bel:Below g wr0 wr
theorem Qem.start(F:Nat->Int):Qem wr wr.heap.size F 0 (wr.alloc (.cells #[.int .u64 0,.int .u64 0,.int .u64 0,.int .u64 0,.int .u64 0,.int .u64 0,.int .u64 0,.int .u64 0] 277)):=
 ⟨Row.new wr _ _ _ _ (fun i hi=>by
  obtain rfl | rfl | rfl | rfl | rfl | rfl | rfl | rfl:i=0\/i=1\/i=2\/i=3\/i=4\/i=5\/i=6\/i=7:=by omega
  all_goals rfl),Qa wr _⟩
theorem Qem.step{wr0:World}{g k:Nat}{F:Nat->Int}{x:Int}(h:Qem wr0 g F k wr)(hx:F k=x):Qem wr0 g F (k+1) (wr.setCell ⟨g,k,none⟩ (.int .u64 x)):=by
 subst hx;refine⟨(h.row.set k (.int .u64 (F k))).congr (fun i _ => ?_),h.bel.setCell (Nat.le_refl _) _⟩
 by_cases e:i=k
 ·subst e;simp
 ·simp only[if_neg e]
  by_cases e2:i<k
  ·rw[if_pos e2,if_pos (by omega)]
  ·rw[if_neg e2,if_neg (by omega)]
theorem Ht(hN:Nib w)(h:IsDev w v own D)(hj:j<8)(hof:D.off=false)(hvb:D.VB)(hn:2<=D.n) :
  Calls prog 145 #[.iface 40 (.pointer (some ⟨v.tb j,0,none⟩))] w fun r w'=>r = .returned (.tuple #[.agg (ldA D.cur D.n 2),.int .i64 (D.err j)])/\Below w.heap.size w w':=by
 have hm1:=meth_Load ⟨v.tb j,0,none⟩;have hn1:=Qoz ⟨v.tb j,0,none⟩;have hm2:=meth_Err ⟨v.tb j,0,none⟩
 have H:=hid h;have HV:=hid hvb;have HNB:=hid hN
 have hn2:=h.wf.le;have HLO:=hid (fun wx (hx:IsDev wx v own D)=>Wp hx hj);have HER:=hid (fun wx (hx:IsDev wx v own D)=>err_any hx hj);have HLD:=hid (fun wx (hx:IsDev wx v own D) (o:Nat) (h8:o%8=0) (hl:o<64*D.n)=>load_ok hx hj o hof h8 hl);have S0:=hid (Qqx.start (w:=w));have HDC:=hid (fun(wx:World) (hx:Nib wx) (i:Nat)=>Qiw hx (D.cur (8*i)).toNat (D.cur (8*i+1)).toNat (D.cur (8*i+2)).toNat (D.cur (8*i+3)).toNat (D.cur (8*i+4)).toNat (D.cur (8*i+5)).toNat (D.cur (8*i+6)).toNat (D.cur (8*i+7)).toNat D.n (by have:=hvb.cur (8*i+1);omega) (by have:=hvb.cur (8*i+2);omega) (by have:=hvb.cur (8*i+3);omega) (by omega));have HA0:Hid (ldA D.cur D.n 0=Rx Sup.zero Sup.zero false false):=rfl;have HA1:Hid (ldA D.cur D.n 1=Rx (cpS D.cur D.n 0) Sup.zero (cpG D.cur D.n 0) false):=rfl;clear h hN hvb
 go_enter func145,ntmps145
 go_wp2_with fail
 (with_reducible refine(HLO.out _ ((H.out.alloc _).alloc _)).mono ?_)
 rintro e w' ⟨rfl,rfl⟩;go_wp2_with fail
 go_loopw [11] (fun y wr=>∃ i:Nat,i<=2/\y = .int .i64 i/\Qqx w (ldA D.cur D.n i) wr) (fun y _=>2-(intOf y).toNat)
 case atStart=>exact⟨0,by omega,rfl,S0.out⟩
 case round=>
  clear S0;obtain⟨i,hi,rfl,hs⟩:=hrel;have S:=hid hs;clear hs
  by_cases hlt:i<2
  ·have hi':(i:Int)<2:=by omega
   have M0:=hid (Qem.start (wr:=wr) (fun k=>D.cur (8*i+k)));have S1:=hid (S.out.next (Qa wr (.cells #[.int .u64 0,.int .u64 0,.int .u64 0,.int .u64 0,.int .u64 0,.int .u64 0,.int .u64 0,.int .u64 0] 277)));have hwsz:w.heap.size+1<wr.heap.size:=S.out.cps.lt;go_wp2_with fail
   go_loopw [14] (fun y wq=>∃ k:Nat,k<=8/\y = .int .i64 k/\Qem wr wr.heap.size (fun k=>D.cur (8*i+k)) k wq) (fun y _=>8-(intOf y).toNat)
   case atStart=>exact⟨0,by omega,rfl,M0.out⟩
   case round=>
    clear M0 S1;obtain⟨k,hk,rfl,hM⟩:=hrel;rename World=>wq
    have M:=hid hM;have SQ:=hid (S.out.next (hM.bel))
    by_cases hlt2:k<8
    ·have hk':(k:Int)<8:=by omega
     have hcell:=hM.row.cell (i:=k) hlt2;have hfro:=hM.row.frozen k;have hgl:=hM.row.lt;have hLk:=fun wy hy=>HLD.out wy hy (64*i+8*k) (by omega) (by omega)
     rw[show(64*i+8*k)/8=8*i+k by omega]at hLk;obtain⟨x,hx⟩:∃ x,D.cur (8*i+k)=x:=⟨_,rfl⟩;rw[hx]at hLk;have HX:=hid hx;obtain⟨q,hq⟩:∃ q,64*i+8*k=q:=⟨_,rfl⟩;rw[hq]at hLk;have hq2:(i:Int)*64+(k:Int)*8=(q:Int):=by omega
     have HLK:=hid hLk;have hqb:q<200:=by omega
     generalize (if k<k then D.cur (8*i+k)else 0)=old at *
     clear hM hLk hx hq;go_wp2_with fail
     (with_reducible refine(HLK.out _ (H.out.below SQ.out.bel)).mono ?_)
     rintro e w' ⟨rfl,rfl⟩;go_wp2_with fail
     go_roundw
     case rel=>exact⟨k+1,by omega,by go_num,M.out.step HX.out⟩
     case measure=>simp[intOf];omega
    ·obtain rfl:k=8:=by omega
     have hrow:Row wq wr.heap.size 8 277 (fun q => .int .u64 (D.cur (8*i+q))):=hM.row.congr (fun q hq=>by rw[if_pos hq]);have hc:∀ q,q<8->wq.cell? ⟨wr.heap.size,q,none⟩=some (.int .u64 (((D.cur (8*i+q)).toNat:Nat):Int)):=fun q hq=>by
      rw[hrow.cell hq,Int.toNat_of_nonneg (HV.out.cur _).1]
     have c0:=hc 0 (by omega);have c1:=hc 1 (by omega);have c2:=hc 2 (by omega);have c3:=hc 3 (by omega)
     have c4:=hc 4 (by omega);have c5:=hc 5 (by omega);have c6:=hc 6 (by omega);have c7:=hc 7 (by omega)
     rw[Nat.add_zero]at c0;have HD:=hid (HDC.out wq (HNB.out.below SQ.out.bel) i);have hS:Jy [(D.cur (8*i)).toNat,(D.cur (8*i+1)).toNat,(D.cur (8*i+2)).toNat,(D.cur (8*i+3)).toNat,(D.cur (8*i+4)).toNat,(D.cur (8*i+5)).toNat,(D.cur (8*i+6)).toNat,(D.cur (8*i+7)).toNat] D.n=cpS D.cur D.n i:=rfl;have hG:Wk [(D.cur (8*i)).toNat,(D.cur (8*i+1)).toNat,(D.cur (8*i+2)).toNat,(D.cur (8*i+3)).toNat,(D.cur (8*i+4)).toNat,(D.cur (8*i+5)).toNat,(D.cur (8*i+6)).toNat,(D.cur (8*i+7)).toNat] D.n=cpG D.cur D.n i:=rfl;rw[hS,hG]at HD;have hL:ldA D.cur D.n (i+1)=if i=0 then Rx (cpS D.cur D.n 0) Sup.zero (cpG D.cur D.n 0) false else Rx (cpS D.cur D.n 0) (cpS D.cur D.n 1) (cpG D.cur D.n 0) (cpG D.cur D.n 1):=by
      unfold ldA;rw[if_neg (by omega)]
      by_cases h:i=0
      ·subst h;rfl
      ·rw[if_neg (by omega),if_neg h]
     have HL2:=hid hL
     generalize (D.cur (8*i)).toNat=a0 at *
     generalize (D.cur (8*i+1)).toNat=a1 at *
     generalize (D.cur (8*i+2)).toNat=a2 at *
     generalize (D.cur (8*i+3)).toNat=a3 at *
     generalize (D.cur (8*i+4)).toNat=a4 at *
     generalize (D.cur (8*i+5)).toNat=a5 at *
     generalize (D.cur (8*i+6)).toNat=a6 at *
     generalize (D.cur (8*i+7)).toNat=a7 at *
     rw[show Qic [a0,a1,a2,a3,a4,a5,a6,a7] = #[.int .u64 (a0:Int),.int .u64 (a1:Int),.int .u64 (a2:Int),.int .u64 (a3:Int),.int .u64 (a4:Int),.int .u64 (a5:Int),.int .u64 (a6:Int),.int .u64 (a7:Int)]from rfl]at HD;clear hM hrow hc hL hS hG HLD M;go_wp2_with fail
     (with_reducible refine HD.out.mono ?_)
     rintro e w3 ⟨rfl,b3⟩;have S3:=hid (SQ.out.next b3);clear b3 HD c0 c1 c2 c3 c4 c5 c6 c7;obtain rfl | rfl:i=0\/i=1:=by omega
     ·have Q:=S3.out
      rw[HA0.out]at Q;have QH:=hid Q;have f0:=Q.cps.frozen 0;have f1:=Q.cps.frozen 1;have f2:=Q.cps.frozen 2;have f3:=Q.cps.frozen 3;have f4:=Q.cps.frozen 4;have f5:=Q.cps.frozen 5;have f6:=Q.cps.frozen 6;have f7:=Q.cps.frozen 7;have f16:=Q.cps.frozen 16
      have r0:=Q.cps.cell (i:=0) rfl;have r1:=Q.cps.cell (i:=1) rfl;have r2:=Q.cps.cell (i:=2) rfl;have r3:=Q.cps.cell (i:=3) rfl;have r4:=Q.cps.cell (i:=4) rfl;have r5:=Q.cps.cell (i:=5) rfl;have r6:=Q.cps.cell (i:=6) rfl;have r7:=Q.cps.cell (i:=7) rfl;have r16:=Q.cps.cell (i:=16) rfl
      obtain⟨z0,z1,z2,z3,z4,z5,z6,z7,hz⟩:=Sup.ex (cpS D.cur D.n 0);have HZ:=hid hz;have HL3:=HL2.out;rw[hz]at HL3;rw[hz,show(⟨z0,z1,z2,z3,z4,z5,z6,z7⟩:Sup).cells = #[.int .i64 z0,.int .i64 z1,.int .i64 z2,.int .i64 z3,.int .i64 z4,.int .i64 z5,.int .i64 z6,.int .u64 z7]from rfl,show((0:Nat):Int)=0 from rfl];have HL4:=hid HL3
      generalize cpG D.cur D.n 0=g at *
      clear Q hz HL3 S3 SQ S HL2;go_wp2_with fail
      go_roundw
      case rel=>
       have hq:=(((((((((QH.out.set 0 (.int .i64 z0)).set 1 (.int .i64 z1)).set 2 (.int .i64 z2)).set 3 (.int .i64 z3)).set 4 (.int .i64 z4)).set 5 (.int .i64 z5)).set 6 (.int .i64 z6)).set 7 (.int .u64 z7)).set 16 (.bool g));rw[Qr0]at hq;refine⟨1,by omega,by go_num,?_⟩
       rw[HL4.out];exact hq
      case measure=>simp[intOf]
     ·have Q:=S3.out
      rw[HA1.out]at Q;have QH:=hid Q;have f8:=Q.cps.frozen 8;have f9:=Q.cps.frozen 9;have f10:=Q.cps.frozen 10;have f11:=Q.cps.frozen 11;have f12:=Q.cps.frozen 12;have f13:=Q.cps.frozen 13;have f14:=Q.cps.frozen 14;have f15:=Q.cps.frozen 15;have f17:=Q.cps.frozen 17
      have r8:=Q.cps.cell (i:=8) rfl;have r9:=Q.cps.cell (i:=9) rfl;have r10:=Q.cps.cell (i:=10) rfl;have r11:=Q.cps.cell (i:=11) rfl;have r12:=Q.cps.cell (i:=12) rfl;have r13:=Q.cps.cell (i:=13) rfl;have r14:=Q.cps.cell (i:=14) rfl;have r15:=Q.cps.cell (i:=15) rfl;have r17:=Q.cps.cell (i:=17) rfl
      obtain⟨z0,z1,z2,z3,z4,z5,z6,z7,hz⟩:=Sup.ex (cpS D.cur D.n 1);have HZ:=hid hz;have HL3:=HL2.out;rw[hz]at HL3;rw[hz,show(⟨z0,z1,z2,z3,z4,z5,z6,z7⟩:Sup).cells = #[.int .i64 z0,.int .i64 z1,.int .i64 z2,.int .i64 z3,.int .i64 z4,.int .i64 z5,.int .i64 z6,.int .u64 z7]from rfl,show((1:Nat):Int)=1 from rfl];have HL4:=hid HL3
      generalize cpG D.cur D.n 1=g at *
      clear Q hz HL3 S3 SQ S HL2;go_wp2_with fail
      go_roundw
      case rel=>
       have hq:=(((((((((QH.out.set 8 (.int .i64 z0)).set 9 (.int .i64 z1)).set 10 (.int .i64 z2)).set 11 (.int .i64 z3)).set 12 (.int .i64 z4)).set 13 (.int .i64 z5)).set 14 (.int .i64 z6)).set 15 (.int .u64 z7)).set 17 (.bool g));rw[Qr1]at hq;refine⟨2,by omega,by go_num,?_⟩
       rw[HL4.out];exact hq
      case measure=>simp[intOf]
  ·obtain rfl:i=2:=by omega
   have QH:=S;have HSZ:Hid (18=(ldA D.cur D.n 2).size):=rfl;have HOC:Hid ((ldA D.cur D.n 2).all (·.oneCell')=true):=by show(Rx _ _ _ _).all (·.oneCell')=true;simp[Rx,Value.oneCell']
   have HSI:Hid ((Tryz.prog.info? 220).map (·.size)=some (ldA D.cur D.n 2).size):=by show _=_;rw[<- HSZ.out];kernel_rfl
   clear S HA0 HA1 HDC HLD HLO
   generalize hAA:ldA D.cur D.n 2=A at *
   have HAA:=hid hAA;clear hAA
   go_upto_region 14 with fail
   refine wp_region_any (by kernel_rfl) ?_
   change wpAny _ _ _ _ _ _ _ (World.drew _)
   refine wpAny_take (i:=1) (v:=.iface 40 (.pointer (some ⟨v.tb j,0,none⟩))) rfl (by kernel_rfl) (by kernel_rfl) (by kernel_rfl) (fun _ _ _ h=>h) (Or.inl ⟨by kernel_rfl,fun w=>by go_simp⟩) ?_
   refine wpAny_ready (rs := [0,2]) (by kernel_rfl) (by simp) ?_
   refine AllReady.cons rfl (fun K hK => ?_) (AllReady.cons rfl (fun K hK => ?_) AllReady.nil)
   ·refine wp_load_row 220 (.tmp 4) rfl (w.heap.size+1) rfl 220 A (0,0) _ QH.out.cps.drew underlying220 rfl HSI.out ?_
    refine hK _ _ ?_
    clear hK K;refine wpAny_ready (rs := [2]) (by kernel_rfl) (by simp) ?_
    refine AllReady.cons rfl (fun K hK => ?_) AllReady.nil
    go_simp
    (with_reducible refine(HER.out _ (H.out.below (QH.out.bel.drew))).mono ?_)
    rintro e w' ⟨rfl,rfl⟩
    go_simp
    refine hK _ _ ?_
    clear hK K;refine wpAny_ready (rs := [3]) (by kernel_rfl) (by simp) ?_
    refine AllReady.cons rfl (fun K hK => ?_) AllReady.nil
    refine wp_store_row 220 (.tmp 2) (.tmp 41) rfl w.heap.size A rfl rfl 220 (Rx Sup.zero Sup.zero false false) QH.out.res.drew HSI.out HSZ.out HOC.out ?_
    refine hK _ _ ?_
    clear hK K;refine wpAny_ready (rs := [4]) (by kernel_rfl) (by simp) ?_
    refine AllReady.cons rfl (fun K hK => ?_) AllReady.nil
    go_simp
    refine hK _ _ ?_
    clear hK K;refine wpAny_done (by kernel_rfl) ?_ _
    go_wp2_with fail
    refine bodyPost_ret (v:=.tuple #[.agg A,.int .i64 (D.err j)]) (Hs results145 _ _ _ _ A _ rfl (setRow_heap _ _ _ A 220 (0,0) QH.out.res.drew) underlying220 rfl HSI.out _ rfl) rfl ⟨by rw[HAA.out],below_setRow QH.out.bel.drew (Nat.le_refl _) A⟩
   ·go_simp
    (with_reducible refine(HER.out _ (H.out.below (QH.out.bel.drew))).mono ?_)
    rintro e w' ⟨rfl,rfl⟩
    go_simp
    refine hK _ _ ?_
    clear hK K;refine wpAny_ready (rs := [0]) (by kernel_rfl) (by simp) ?_
    refine AllReady.cons rfl (fun K hK => ?_) AllReady.nil
    refine wp_load_row 220 (.tmp 4) rfl (w.heap.size+1) rfl 220 A (0,0) _ QH.out.cps.drew underlying220 rfl HSI.out ?_
    refine hK _ _ ?_
    clear hK K;refine wpAny_ready (rs := [3]) (by kernel_rfl) (by simp) ?_
    refine AllReady.cons rfl (fun K hK => ?_) AllReady.nil
    refine wp_store_row 220 (.tmp 2) (.tmp 41) rfl w.heap.size A rfl rfl 220 (Rx Sup.zero Sup.zero false false) QH.out.res.drew HSI.out HSZ.out HOC.out ?_
    refine hK _ _ ?_
    clear hK K;refine wpAny_ready (rs := [4]) (by kernel_rfl) (by simp) ?_
    refine AllReady.cons rfl (fun K hK => ?_) AllReady.nil
    go_simp
    refine hK _ _ ?_
    clear hK K;refine wpAny_done (by kernel_rfl) ?_ _
    go_wp2_with fail
    refine bodyPost_ret (v:=.tuple #[.agg A,.int .i64 (D.err j)]) (Hs results145 _ _ _ _ A _ rfl (setRow_heap _ _ _ A 220 (0,0) QH.out.res.drew) underlying220 rfl HSI.out _ rfl) rfl ⟨by rw[HAA.out],below_setRow QH.out.bel.drew (Nat.le_refl _) A⟩
end
end

section
open Go.Maps
attribute [local go_sem ↓] Go.wp_at_zero Go.wp_at_succ
structure CpA(A:Array Value):Prop where
 sz:18=A.size
 one:A.all (·.oneCell')=true
 info:(Tryz.prog.info? 220).map (·.size)=some A.size
theorem Qnz(C:Nat->Int)(n:Nat):CpA (ldA C n 2):=by
 have h1:18=(ldA C n 2).size:=rfl;refine⟨h1,?_,by rw[<- h1];kernel_rfl⟩
 show(Rx _ _ _ _).all (·.oneCell')=true
 simp[Rx,Value.oneCell']
theorem Qcd{w w1:World}{A:Array Value}(_:Below w.heap.size w w1)(_:w.heap.size<=w1.heap.size):∃ w2,(w1.alloc (.cells #[.int .i64 0,.int .i64 0,.int .i64 0,.int .i64 0,.int .i64 0,.int .i64 0,.int .i64 0,.int .u64 0,.int .i64 0,.int .i64 0,.int .i64 0,.int .i64 0,.int .i64 0,.int .i64 0,.int .i64 0,.int .u64 0,.bool false,.bool false] 220)).setRow w1.heap.size A=w2/\Blk w2 w1.heap.size A 220/\Below w1.heap.size w1 w2:=
 ⟨_,rfl,setRow_heap _ _ _ A 220 (0,0) (Blk.new w1 _ _),below_setRow (Qa w1 _) (Nat.le_refl _) A⟩
section
variable{w:World}{v:DV}{own:Nat->Option Qp}{D:Dev}{j:Nat}
def opS(C:Nat->Int)(n:Nat):Sup:=if Np C n then Vn C n else Sup.zero
def opE(C:Nat->Int)(n:Nat):Int:=if Np C n then 0 else 10
theorem Tb(hN:Nib w)(h:IsDev w v own D)(hj:j<8)(hof:D.off=false)(he:D.err j=0)(hvb:D.VB)(hn:2<=D.n) :
  Calls prog 85 #[.iface 40 (.pointer (some ⟨v.tb j,0,none⟩))] w fun r w'=>r = .returned (.tuple #[.agg (opS D.cur D.n).cells,.int .i64 (opE D.cur D.n)])/\Below w.heap.size w w':=by
 have H:=hid h;have HNB:=hid hN
 have hus:=fun wx (hx:IsDev wx v own D)=>Qk5 hx hj hn
 rw[he]at hus;have HU:=hid hus;have hld:=fun wx (hx:IsDev wx v own D) (hnx:Nib wx)=>Ht hnx hx hj hof hvb hn
 rw[he]at hld;have HLD:=hid hld;have HCA:=hid (Qnz D.cur D.n);have HNW:=hid (fun(wx:World)=>Ex (w:=wx) (cpS D.cur D.n 0) (cpS D.cur D.n 1) (cpG D.cur D.n 0) (cpG D.cur D.n 1) (Kz D.cur D.n) (Np D.cur D.n) rfl rfl);have HAA:Hid (ldA D.cur D.n 2=Rx (cpS D.cur D.n 0) (cpS D.cur D.n 1) (cpG D.cur D.n 0) (cpG D.cur D.n 1)):=rfl;rw[<- HAA.out]at HNW;have B2:=hid (Qa w (.cells #[.int .i64 0,.int .i64 0,.int .i64 0,.int .i64 0,.int .i64 0,.int .i64 0,.int .i64 0,.int .u64 0] 130));have RB:=hid (Blk.new w #[.int .i64 0,.int .i64 0,.int .i64 0,.int .i64 0,.int .i64 0,.int .i64 0,.int .i64 0,.int .u64 0] 130)
 generalize ldA D.cur D.n 2=A at *
 clear h hN hvb hus hld
 go_enter func85,ntmps85
 go_wp2_with fail
 (with_reducible refine(HU.out _ (H.out.alloc _)).mono ?_)
 rintro e w' ⟨rfl,rfl⟩;go_wp2_with fail
 (with_reducible refine(HLD.out _ (H.out.alloc _) (HNB.out.below B2.out)).mono ?_)
 rintro e w1 ⟨rfl,b1⟩;have R1:=hid (RB.out.below b1);have B1:=hid (B2.out.trans (b1.mono B2.out.size));have hsz1:w.heap.size<w1.heap.size:=R1.out.lt;clear b1 RB B2 HU HLD;obtain⟨w2,hw2,k2,b2⟩:=Qcd (A:=A) B1.out (by omega);have K2:=hid k2;have R2:=hid (R1.out.below b2);have B3:=hid (B1.out.trans (b2.mono B1.out.size));clear k2 b2;go_wp2_with (first | (refine wpList_store_row rfl 220 (.tmp 5) (.tmp 18) rfl w1.heap.size A rfl rfl 220 #[.int .i64 0,.int .i64 0,.int .i64 0,.int .i64 0,.int .i64 0,.int .i64 0,.int .i64 0,.int .u64 0,.int .i64 0,.int .i64 0,.int .i64 0,.int .i64 0,.int .i64 0,.int .i64 0,.int .i64 0,.int .u64 0,.bool false,.bool false] (Blk.new w1 _ _) HCA.out.info HCA.out.sz HCA.out.one ?_;rw[hw2]) | (refine wpList_load_row rfl 220 (.tmp 5) rfl w1.heap.size rfl 220 A (0,0) _ K2.out underlying220 rfl HCA.out.info ?_))
 (with_reducible refine(HNW.out _).mono ?_)
 rintro e w3 ⟨rfl,b3⟩;have K3:=hid (K2.out.below b3);have R3:=hid (R2.out.below b3);have B4:=hid (B3.out.trans (b3.mono B3.out.size));clear b3 HNW hw2 K2 R2 B3 R1 B1
 generalize w1.heap.size=cb at *
 have s0:=R3.out.cell (i:=0) (v:=.int .i64 0) rfl;have s1:=R3.out.cell (i:=1) (v:=.int .i64 0) rfl;have s2:=R3.out.cell (i:=2) (v:=.int .i64 0) rfl;have s3:=R3.out.cell (i:=3) (v:=.int .i64 0) rfl
 have s4:=R3.out.cell (i:=4) (v:=.int .i64 0) rfl;have s5:=R3.out.cell (i:=5) (v:=.int .i64 0) rfl;have s6:=R3.out.cell (i:=6) (v:=.int .i64 0) rfl;have s7:=R3.out.cell (i:=7) (v:=.int .u64 0) rfl
 have f0:=R3.out.frozen 0;have f1:=R3.out.frozen 1;have f2:=R3.out.frozen 2;have f3:=R3.out.frozen 3;have f4:=R3.out.frozen 4;have f5:=R3.out.frozen 5;have f6:=R3.out.frozen 6;have f7:=R3.out.frozen 7
 cases hG:Np D.cur D.n
 ·have HS:Hid (opS D.cur D.n=Sup.zero/\opE D.cur D.n=10):=⟨by unfold opS;rw[hG];rfl,by unfold opE;rw[hG];rfl⟩
  clear hG;go_wp2_with fail
  refine bodyPost_ret (v:=.tuple #[.agg #[.int .i64 0,.int .i64 0,.int .i64 0,.int .i64 0,.int .i64 0,.int .i64 0,.int .i64 0,.int .u64 0],.int .i64 10]) (by simp[results,results85,go_sem,s0,s1,s2,s3,s4,s5,s6,s7]) rfl ⟨by rw[HS.out.1,HS.out.2];rfl,?_⟩
  exact Ks B4.out (Nat.le_refl _) 0 _ _ _ _ _ _ _ _
 ·have HS:Hid (opS D.cur D.n=Vn D.cur D.n/\opE D.cur D.n=0):=⟨by unfold opS;rw[hG];rfl,by unfold opE;rw[hG];rfl⟩
  clear hG;obtain⟨q,hq⟩:∃ q,Kz D.cur D.n=q:=⟨_,rfl⟩;have hS:Vn D.cur D.n=cpS D.cur D.n q:=by unfold Vn;rw[hq]
  have hq1:q=0\/q=1:=by rw[<- hq];unfold Kz;split <;> simp
  rw[hq];have HSS:=hid hS;have HAE:=hid (HAA.out);clear hq hS HAA;obtain rfl | rfl:=hq1
  ·obtain⟨z0,z1,z2,z3,z4,z5,z6,z7,hz⟩:=Sup.ex (cpS D.cur D.n 0)
   have K4:=K3.out;rw[HAE.out,hz]at K4;have HZ:=hid hz;have c0:w3.cell? ⟨cb,0,none⟩=some (.int .i64 z0):=K4.cell rfl;have c1:w3.cell? ⟨cb,1,none⟩=some (.int .i64 z1):=K4.cell rfl;have c2:w3.cell? ⟨cb,2,none⟩=some (.int .i64 z2):=K4.cell rfl;have c3:w3.cell? ⟨cb,3,none⟩=some (.int .i64 z3):=K4.cell rfl;have c4:w3.cell? ⟨cb,4,none⟩=some (.int .i64 z4):=K4.cell rfl;have c5:w3.cell? ⟨cb,5,none⟩=some (.int .i64 z5):=K4.cell rfl;have c6:w3.cell? ⟨cb,6,none⟩=some (.int .i64 z6):=K4.cell rfl;have c7:w3.cell? ⟨cb,7,none⟩=some (.int .u64 z7):=K4.cell rfl;clear K4 hz K3;rw[show((0:Nat):Int)=0 from rfl];go_wp2_with fail
   refine bodyPost_ret (v:=.tuple #[.agg #[.int .i64 z0,.int .i64 z1,.int .i64 z2,.int .i64 z3,.int .i64 z4,.int .i64 z5,.int .i64 z6,.int .u64 z7],.int .i64 0]) (by simp[results,results85,go_sem,s0,s1,s2,s3,s4,s5,s6,s7]) rfl ⟨by rw[HS.out.1,HS.out.2,HSS.out,HZ.out];rfl,?_⟩
   exact Ks B4.out (Nat.le_refl _) 0 _ _ _ _ _ _ _ _
  ·obtain⟨z0,z1,z2,z3,z4,z5,z6,z7,hz⟩:=Sup.ex (cpS D.cur D.n 1)
   have K4:=K3.out;rw[HAE.out,hz]at K4;have HZ:=hid hz;have c0:w3.cell? ⟨cb,8,none⟩=some (.int .i64 z0):=K4.cell rfl;have c1:w3.cell? ⟨cb,9,none⟩=some (.int .i64 z1):=K4.cell rfl;have c2:w3.cell? ⟨cb,10,none⟩=some (.int .i64 z2):=K4.cell rfl;have c3:w3.cell? ⟨cb,11,none⟩=some (.int .i64 z3):=K4.cell rfl;have c4:w3.cell? ⟨cb,12,none⟩=some (.int .i64 z4):=K4.cell rfl;have c5:w3.cell? ⟨cb,13,none⟩=some (.int .i64 z5):=K4.cell rfl;have c6:w3.cell? ⟨cb,14,none⟩=some (.int .i64 z6):=K4.cell rfl;have c7:w3.cell? ⟨cb,15,none⟩=some (.int .u64 z7):=K4.cell rfl;clear K4 hz K3;rw[show((1:Nat):Int)=1 from rfl];go_wp2_with fail
   refine bodyPost_ret (v:=.tuple #[.agg #[.int .i64 z0,.int .i64 z1,.int .i64 z2,.int .i64 z3,.int .i64 z4,.int .i64 z5,.int .i64 z6,.int .u64 z7],.int .i64 0]) (by simp[results,results85,go_sem,s0,s1,s2,s3,s4,s5,s6,s7]) rfl ⟨by rw[HS.out.1,HS.out.2,HSS.out,HZ.out];rfl,?_⟩
   exact Ks B4.out (Nat.le_refl _) 0 _ _ _ _ _ _ _ _
end
end
section
open Go.Maps
attribute [local go_sem ↓] Go.wp_at_zero Go.wp_at_succ
section
variable{w:World}{v:DV}{own:Nat->Option Qp}{D:Dev}{j:Nat}
theorem Mk(h:IsDev w v own D)(hj:j<8)(hn:2<=D.n)(s:Sup)(hok:s.Ok)(hl:s.lin<=D.n):Calls prog 144 #[.iface 40 (.pointer (some ⟨v.tb j,0,none⟩)),.agg s.cells] w fun r w'=>r = .returned (.int .i64 (D.err j))/\Below w.heap.size w w':=by
 have hm1:=meth_Err ⟨v.tb j,0,none⟩;have H:=hid h;have HLO:=hid (fun wx (hx:IsDev wx v own D)=>Wp hx hj);have HER:=hid (fun wx (hx:IsDev wx v own D)=>err_any hx hj);have hv:=fun wx=>Qd5 (w:=wx) s
 rw[Sup.okB_true hok]at hv;have HV:=hid hv;have hn2:=h.wf.le;have l1:=hok.l1;obtain⟨ver,lin,redo,und,desc,que,tab,gen⟩:=s;unfold Sup.cells at *;simp only at hl l1 HV;have hu:IntKind.u64.wrap lin=lin:=IntWalk.u64_in _ (by omega);have d1:decide ((D.n:Int)<lin)=false:=by simp;omega
 have d2:decide ((D.n:Int)<2)=false:=by simp;omega
 have B0:=hid ((Qa w (.cells #[.int .i64 ver,.int .i64 lin,.int .i64 redo,.int .i64 und,.int .i64 desc,.int .i64 que,.int .i64 tab,.int .u64 gen] 130)).drew);have K0:Hid (Blk (w.alloc (.cells #[.int .i64 ver,.int .i64 lin,.int .i64 redo,.int .i64 und,.int .i64 desc,.int .i64 que,.int .i64 tab,.int .u64 gen] 130)).drew w.heap.size #[.int .i64 ver,.int .i64 lin,.int .i64 redo,.int .i64 und,.int .i64 desc,.int .i64 que,.int .i64 tab,.int .u64 gen] 130):=(Blk.new w _ _).drew;have z0:(w.alloc (.cells #[.int .i64 ver,.int .i64 lin,.int .i64 redo,.int .i64 und,.int .i64 desc,.int .i64 que,.int .i64 tab,.int .u64 gen] 130)).drew.cell? ⟨w.heap.size,0,none⟩=some (.int .i64 ver):=K0.out.cell rfl;have z1:(w.alloc (.cells #[.int .i64 ver,.int .i64 lin,.int .i64 redo,.int .i64 und,.int .i64 desc,.int .i64 que,.int .i64 tab,.int .u64 gen] 130)).drew.cell? ⟨w.heap.size,1,none⟩=some (.int .i64 lin):=K0.out.cell rfl;have z2:(w.alloc (.cells #[.int .i64 ver,.int .i64 lin,.int .i64 redo,.int .i64 und,.int .i64 desc,.int .i64 que,.int .i64 tab,.int .u64 gen] 130)).drew.cell? ⟨w.heap.size,2,none⟩=some (.int .i64 redo):=K0.out.cell rfl;have z3:(w.alloc (.cells #[.int .i64 ver,.int .i64 lin,.int .i64 redo,.int .i64 und,.int .i64 desc,.int .i64 que,.int .i64 tab,.int .u64 gen] 130)).drew.cell? ⟨w.heap.size,3,none⟩=some (.int .i64 und):=K0.out.cell rfl
 have z4:(w.alloc (.cells #[.int .i64 ver,.int .i64 lin,.int .i64 redo,.int .i64 und,.int .i64 desc,.int .i64 que,.int .i64 tab,.int .u64 gen] 130)).drew.cell? ⟨w.heap.size,4,none⟩=some (.int .i64 desc):=K0.out.cell rfl;have z5:(w.alloc (.cells #[.int .i64 ver,.int .i64 lin,.int .i64 redo,.int .i64 und,.int .i64 desc,.int .i64 que,.int .i64 tab,.int .u64 gen] 130)).drew.cell? ⟨w.heap.size,5,none⟩=some (.int .i64 que):=K0.out.cell rfl;have z6:(w.alloc (.cells #[.int .i64 ver,.int .i64 lin,.int .i64 redo,.int .i64 und,.int .i64 desc,.int .i64 que,.int .i64 tab,.int .u64 gen] 130)).drew.cell? ⟨w.heap.size,6,none⟩=some (.int .i64 tab):=K0.out.cell rfl;have z7:(w.alloc (.cells #[.int .i64 ver,.int .i64 lin,.int .i64 redo,.int .i64 und,.int .i64 desc,.int .i64 que,.int .i64 tab,.int .u64 gen] 130)).drew.cell? ⟨w.heap.size,7,none⟩=some (.int .u64 gen):=K0.out.cell rfl;clear h hok hl l1 hv
 go_enter func144,ntmps144
 go_upto_region 1 with fail
 go_cut [24]from 5 to 23 (fun b wx=>b = .bool false/\Below w.heap.size w wx)
 case first=>
  refine wp_region_any (by kernel_rfl) ?_
  change wpAny _ _ _ _ _ _ _ (World.drew _)
  refine wpAny_ready (rs := [0]) (by kernel_rfl) (by simp) ?_
  refine AllReady.cons rfl (fun K hK => ?_) AllReady.nil
  go_simp
  refine hK _ _ ?_
  clear hK K;refine wpAny_ready (rs := [1]) (by kernel_rfl) (by simp) ?_
  refine AllReady.cons rfl (fun K hK => ?_) AllReady.nil
  go_simp
  refine hK _ _ ?_
  clear hK K;refine wpAny_ready (rs := [2]) (by kernel_rfl) (by simp) ?_
  refine AllReady.cons rfl (fun K hK => ?_) AllReady.nil
  go_simp
  refine hK _ _ ?_
  clear hK K;refine wpAny_ready (rs := [3]) (by kernel_rfl) (by simp) ?_
  refine AllReady.cons rfl (fun K hK => ?_) AllReady.nil
  go_simp
  refine hK _ _ ?_
  clear hK K;refine wpAny_ready (rs := [4]) (by kernel_rfl) (by simp) ?_
  refine AllReady.cons rfl (fun K hK => ?_) AllReady.nil
  go_simp
  (with_reducible refine(HLO.out _ (H.out.below B0.out)).mono ?_)
  rintro e w' ⟨rfl,rfl⟩
  go_simp
  refine hK _ _ ?_
  clear hK K;refine wpAny_ready (rs := [5]) (by kernel_rfl) (by simp) ?_
  refine AllReady.cons rfl (fun K hK => ?_) AllReady.nil
  go_simp
  refine hK _ _ ?_
  clear hK K;refine wpAny_ready (rs := [6]) (by kernel_rfl) (by simp) ?_
  refine AllReady.cons rfl (fun K hK => ?_) AllReady.nil
  go_simp
  refine hK _ _ ?_
  clear hK K;refine wpAny_ready (rs := [7]) (by kernel_rfl) (by simp) ?_
  refine AllReady.cons rfl (fun K hK => ?_) AllReady.nil
  go_simp
  refine hK _ _ ?_
  clear hK K;refine wpAny_ready (rs := [8]) (by kernel_rfl) (by simp) ?_
  refine AllReady.cons rfl (fun K hK => ?_) AllReady.nil
  go_simp
  refine hK _ _ ?_
  clear hK K;refine wpAny_ready (rs := [9]) (by kernel_rfl) (by simp) ?_
  refine AllReady.cons rfl (fun K hK => ?_) AllReady.nil
  go_simp
  (with_reducible refine(HV.out _).mono ?_)
  rintro e w4 ⟨rfl,b4⟩;have K4:=hid (K0.out.below b4);have B4:=hid (B0.out.trans (b4.mono B0.out.size));have c1:w4.cell? ⟨w.heap.size,1,none⟩=some (.int .i64 lin):=K4.out.cell rfl;clear b4
  go_simp
  refine hK _ _ ?_
  clear hK K;refine wpAny_ready (rs := [10]) (by kernel_rfl) (by simp) ?_
  refine AllReady.cons rfl (fun K hK => ?_) AllReady.nil
  go_simp
  refine hK _ _ ?_
  clear hK K;refine wpAny_ready (rs := [11]) (by kernel_rfl) (by simp) ?_
  refine AllReady.cons rfl (fun K hK => ?_) AllReady.nil
  go_simp
  refine hK _ _ ?_
  clear hK K;refine wpAny_ready (rs := [12]) (by kernel_rfl) (by simp) ?_
  refine AllReady.cons rfl (fun K hK => ?_) AllReady.nil
  go_simp
  refine hK _ _ ?_
  clear hK K;refine wpAny_take (i:=13) (v:=.pointer (some ⟨w.heap.size,1,none⟩)) rfl (by kernel_rfl) (by kernel_rfl) (by kernel_rfl) (fun _ _ _ h=>h) (Or.inl ⟨by kernel_rfl,fun w=>by go_simp⟩) ?_
  refine wpAny_take (i:=16) (v:=.iface 40 (.pointer (some ⟨v.tb j,0,none⟩))) rfl (by kernel_rfl) (by kernel_rfl) (by kernel_rfl) (fun _ _ _ h=>h) (Or.inl ⟨by kernel_rfl,fun w=>by go_simp⟩) ?_
  refine wpAny_ready (rs := [14,17]) (by kernel_rfl) (by simp) ?_
  refine AllReady.cons rfl (fun K hK => ?_) (AllReady.cons rfl (fun K hK => ?_) AllReady.nil)
  ·go_simp
   refine hK _ _ ?_
   clear hK K;refine wpAny_take (i:=15) (v:=.int .u64 lin) rfl (by kernel_rfl) (by kernel_rfl) (by kernel_rfl) (fun _ _ _ h=>h) (Or.inl ⟨by kernel_rfl,fun w=>by go_simp⟩) ?_
   refine wpAny_ready (rs := [17]) (by kernel_rfl) (by simp) ?_
   refine AllReady.cons rfl (fun K hK => ?_) AllReady.nil
   go_simp
   (with_reducible refine(HLO.out _ (H.out.below B4.out)).mono ?_)
   rintro e w' ⟨rfl,rfl⟩
   go_simp
   refine hK _ _ ?_
   clear hK K;refine wpAny_ready (rs := [18]) (by kernel_rfl) (by simp) ?_
   refine AllReady.cons rfl (fun K hK => ?_) AllReady.nil
   go_simp
   refine hK _ _ ?_
   clear hK K;refine wpAny_ready (rs := [19]) (by kernel_rfl) (by simp) ?_
   refine AllReady.cons rfl (fun K hK => ?_) AllReady.nil
   go_simp
   refine hK _ _ ?_
   clear hK K;refine wpAny_done (by kernel_rfl) ?_ _
   go_wp2_with fail
   go_meet
   exact⟨rfl,B4.out⟩
  ·go_simp
   (with_reducible refine(HLO.out _ (H.out.below B4.out)).mono ?_)
   rintro e w' ⟨rfl,rfl⟩
   go_simp
   refine hK _ _ ?_
   clear hK K;refine wpAny_ready (rs := [14]) (by kernel_rfl) (by simp) ?_
   refine AllReady.cons rfl (fun K hK => ?_) AllReady.nil
   go_simp
   refine hK _ _ ?_
   clear hK K;refine wpAny_ready (rs := [15]) (by kernel_rfl) (by simp) ?_
   refine AllReady.cons rfl (fun K hK => ?_) AllReady.nil
   go_simp
   refine hK _ _ ?_
   clear hK K;refine wpAny_ready (rs := [18]) (by kernel_rfl) (by simp) ?_
   refine AllReady.cons rfl (fun K hK => ?_) AllReady.nil
   go_simp
   refine hK _ _ ?_
   clear hK K;refine wpAny_ready (rs := [19]) (by kernel_rfl) (by simp) ?_
   refine AllReady.cons rfl (fun K hK => ?_) AllReady.nil
   go_simp
   refine hK _ _ ?_
   clear hK K;refine wpAny_done (by kernel_rfl) ?_ _
   go_wp2_with fail
   go_meet
   exact⟨rfl,B4.out⟩
 case rest=>
  obtain⟨rfl,hb⟩:=hcut;rename World=>wx
  have BX:=hid hb;clear hb z0 z1 z2 z3 z4 z5 z6 z7;go_wp2_with fail
  (with_reducible refine(HER.out _ (H.out.below BX.out)).mono ?_)
  rintro e w' ⟨rfl,rfl⟩;go_wp2_with fail
  go_ret
  exact⟨rfl,BX.out⟩
theorem Sup.Ok.fits{s:Sup}(h:s.Ok)(g1:0<=s.gen)(g2:s.gen<18446744073709551616):s.Fits:=by
 obtain⟨v1,v2,l1,l2,r1,u1,d1,q1,t1,r2,u2,d2,q2,t2,_⟩:=h;exact⟨g1,g2,by omega,by omega,by omega,by omega,by omega,by omega,by omega,by omega,by omega,by omega,by omega,by omega,by omega,by omega⟩
theorem Qmb{C:Nat->Int}(hC:∀ i,0<=C i/\C i<18446744073709551616)(n i:Nat):0<=(cpS C n i).gen/\(cpS C n i).gen<18446744073709551616:=by
 unfold cpS Jy
 split
 ·rw[Q1y]
  have:=hC (8*i+1);show 0<=(((C (8*i+1)).toNat:Nat):Int)/\(((C (8*i+1)).toNat:Nat):Int)<18446744073709551616
  omega
 ·decide
def Qlk(w:World)(C:Nat->Int)(n:Nat)(s:Sup)(r:Ending)(w':World):Prop:=
 (Np C n=false/\r = .returned (.tuple #[.slice none 0 0,.int .i64 10])/\Below w.heap.size w w') \/
 (Np C n=true/\(Vn C n).gen=18446744073709551615/\r = .returned (.tuple #[.slice none 0 0,.int .i64 9])/\Below w.heap.size w w') \/
 (Np C n=true/\(Vn C n).gen≠18446744073709551615/\∃ ov,r = .returned (.tuple #[ov,.int .i64 0]) /\
  Acc w w.heap.size w' 73 3 ov (sbP (s.withGen ((Vn C n).gen+1)) (1-Kz C n)).length (Qd (sbP (s.withGen ((Vn C n).gen+1)) (1-Kz C n))))
theorem Lg(hN:Nib w)(h:IsDev w v own D)(hj:j<8)(hof:D.off=false)(he:D.err j=0)(hvb:D.VB)(hn:2<=D.n)(s:Sup)(hok:s.Ok)(hl:s.lin<=D.n)(hg1:0<=s.gen)(hg2:s.gen<18446744073709551616) :
  Calls prog 60 #[.iface 40 (.pointer (some ⟨v.tb j,0,none⟩)),.agg s.cells] w (Qlk w D.cur D.n s):=by
 have H:=hid h;have HNB:=hid hN
 have HF:=hid (hok.fits hg1 hg2);have hus:=fun wx (hx:IsDev wx v own D)=>Mk hx hj hn s hok hl
 rw[he]at hus;have HU:=hid hus;have hld:=fun wx (hx:IsDev wx v own D) (hnx:Nib wx)=>Ht hnx hx hj hof hvb hn
 rw[he]at hld;have HLD:=hid hld;have HCA:=hid (Qnz D.cur D.n);have HNW:=hid (fun(wx:World)=>Ex (w:=wx) (cpS D.cur D.n 0) (cpS D.cur D.n 1) (cpG D.cur D.n 0) (cpG D.cur D.n 1) (Kz D.cur D.n) (Np D.cur D.n) rfl rfl);have HAE:Hid (ldA D.cur D.n 2=Rx (cpS D.cur D.n 0) (cpS D.cur D.n 1) (cpG D.cur D.n 0) (cpG D.cur D.n 1)):=rfl;have hgm:=Qmb hvb.cur D.n;rw[<- HAE.out]at HNW
 generalize ldA D.cur D.n 2=A at *
 obtain⟨ver,lin,redo,und,desc,que,tab,gen⟩:=s;unfold Sup.cells at *;have B2:=hid (Qa w (.cells #[.int .i64 ver,.int .i64 lin,.int .i64 redo,.int .i64 und,.int .i64 desc,.int .i64 que,.int .i64 tab,.int .u64 gen] 130));have K0:=hid (Blk.new w #[.int .i64 ver,.int .i64 lin,.int .i64 redo,.int .i64 und,.int .i64 desc,.int .i64 que,.int .i64 tab,.int .u64 gen] 130);simp only at HU hg1 hg2;clear h hN hvb hus hld hok hl
 go_enter func60,ntmps60
 go_wp2_with fail
 (with_reducible refine(HU.out _ (H.out.alloc _)).mono ?_)
 rintro e w1 ⟨rfl,b1⟩;have K1:=hid (K0.out.below b1);have B1:=hid (B2.out.trans (b1.mono B2.out.size));clear b1 K0 B2 HU;go_wp2_with fail
 (with_reducible refine(HLD.out _ (H.out.below B1.out) (HNB.out.below B1.out)).mono ?_)
 rintro e w2 ⟨rfl,b2⟩;have K2:=hid (K1.out.below b2);have B2:=hid (B1.out.trans (b2.mono B1.out.size));have hsz2:w.heap.size<w2.heap.size:=K2.out.lt;clear b2 K1 B1 HLD;obtain⟨w9,hw9,k9,b9⟩:=Qcd (A:=A) B2.out (by omega);have C9:=hid k9;have K9:=hid (K2.out.below b9);have B9:=hid (B2.out.trans (b9.mono B2.out.size));clear k9 b9;go_wp2_with (first | (refine wpList_store_row rfl 220 (.tmp 7) (.tmp 20) rfl w2.heap.size A rfl rfl 220 #[.int .i64 0,.int .i64 0,.int .i64 0,.int .i64 0,.int .i64 0,.int .i64 0,.int .i64 0,.int .u64 0,.int .i64 0,.int .i64 0,.int .i64 0,.int .i64 0,.int .i64 0,.int .i64 0,.int .i64 0,.int .u64 0,.bool false,.bool false] (Blk.new w2 _ _) HCA.out.info HCA.out.sz HCA.out.one ?_;rw[hw9]) | (refine wpList_load_row rfl 220 (.tmp 7) rfl w2.heap.size rfl 220 A (0,0) _ C9.out underlying220 rfl HCA.out.info ?_))
 (with_reducible refine(HNW.out _).mono ?_)
 rintro e w3 ⟨rfl,b3⟩;have C3:=hid (C9.out.below b3);have K3:=hid (K9.out.below b3);have B4:=hid (B9.out.trans (b3.mono B9.out.size));clear b3 HNW hw9 C9 K9 B9 K2 B2
 generalize w2.heap.size=cb at *
 cases hG:Np D.cur D.n
 ·have HG:=hid hG
  clear hG;go_wp2_with fail
  go_ret2
  exact .inl ⟨HG.out,rfl,B4.out⟩
 ·have HG:=hid hG
  clear hG;have z0:w3.cell? ⟨w.heap.size,0,none⟩=some (.int .i64 ver):=K3.out.cell rfl;have z1:w3.cell? ⟨w.heap.size,1,none⟩=some (.int .i64 lin):=K3.out.cell rfl;have z2:w3.cell? ⟨w.heap.size,2,none⟩=some (.int .i64 redo):=K3.out.cell rfl;have z3:w3.cell? ⟨w.heap.size,3,none⟩=some (.int .i64 und):=K3.out.cell rfl;have z4:w3.cell? ⟨w.heap.size,4,none⟩=some (.int .i64 desc):=K3.out.cell rfl;have z5:w3.cell? ⟨w.heap.size,5,none⟩=some (.int .i64 que):=K3.out.cell rfl;have z6:w3.cell? ⟨w.heap.size,6,none⟩=some (.int .i64 tab):=K3.out.cell rfl;have z7:w3.cell? ⟨w.heap.size,7,none⟩=some (.int .u64 gen):=K3.out.cell rfl;obtain⟨q,hq⟩:∃ q,Kz D.cur D.n=q:=⟨_,rfl⟩;have hS:Vn D.cur D.n=cpS D.cur D.n q:=by unfold Vn;rw[hq]
  have hq1:q=0\/q=1:=by rw[<- hq];unfold Kz;split <;> simp
  have hgb:=hgm q;rw[hq];have HQ:=hid hq;clear hq;obtain rfl | rfl:=hq1
  ·have hgm:=hgb
   have K5:=C3.out;rw[HAE.out]at K5;have hg:w3.cell? ⟨cb,7,none⟩=some (.int .u64 (cpS D.cur D.n 0).gen):=K5.cell rfl;have HSS:=hid hS
   generalize hG:(cpS D.cur D.n 0).gen=G at *
   have HGG:=hid hG;clear K5 hS hG;rw[show((0:Nat):Int)=0 from rfl]
   by_cases hmx:G=18446744073709551615
   ·have hb:(G==18446744073709551615)=true:=by simpa using hmx
    have HMX:=hid hmx;clear hmx
    go_wp2_with fail
    go_ret2
    exact .inr (.inl ⟨HG.out,by rw[HSS.out,HGG.out];exact HMX.out,rfl,B4.out⟩)
   ·have hb:(G==18446744073709551615)=false:=by simpa using hmx
    have HMX:=hid hmx;have hw:IntKind.u64.wrap (G+1)=G+1:=IntWalk.u64_in _ (by omega);have HPR:Hid (∀ wx,Nib wx->Calls prog 147 #[.agg #[.int .i64 ver,.int .i64 lin,.int .i64 redo,.int .i64 und,.int .i64 desc,.int .i64 que,.int .i64 tab,.int .u64 (G+1)],.int .i64 1] wx fun r w'=>∃ ov,r = .returned ov/\Acc wx wx.heap.size w' 73 3 ov (sbP ⟨ver,lin,redo,und,desc,que,tab,G+1⟩ 1).length (Qd (sbP ⟨ver,lin,redo,und,desc,que,tab,G+1⟩ 1))):=
     fun wx hx=>Rl hx ⟨ver,lin,redo,und,desc,que,tab,G+1⟩ ⟨by simp only;omega,by simp only;omega,HF.out.v1,HF.out.v2,HF.out.l1,HF.out.l2,HF.out.r1,HF.out.r2,HF.out.u1,HF.out.u2,HF.out.d1,HF.out.d2,HF.out.q1,HF.out.q2,HF.out.t1,HF.out.t2⟩ 1 (by omega)
    have B5:Hid (Below w.heap.size w (w3.setCell ⟨w.heap.size,7,none⟩ (.int .u64 (G+1)))):=B4.out.setCell (Nat.le_refl _) _;have f7:=K3.out.frozen 7;clear hmx hgm;go_wp2_with fail
    (with_reducible refine(HPR.out _ (HNB.out.below B5.out)).mono ?_)
    rintro e w6 ⟨ov,rfl,a6⟩;obtain⟨oa,oc,hov⟩:=a6.slice;subst hov;have A6:=hid (a6.deeper B5.out);clear a6
    go_wp2_with fail
    go_ret2
    refine .inr (.inr ⟨HG.out,by rw[HSS.out,HGG.out];exact HMX.out,_,rfl,?_⟩)
    rw[HSS.out,HGG.out,HQ.out];exact A6.out
  ·have hgm:=hgb
   have K5:=C3.out;rw[HAE.out]at K5;have hg:w3.cell? ⟨cb,15,none⟩=some (.int .u64 (cpS D.cur D.n 1).gen):=K5.cell rfl;have HSS:=hid hS
   generalize hG:(cpS D.cur D.n 1).gen=G at *
   have HGG:=hid hG;clear K5 hS hG;rw[show((1:Nat):Int)=1 from rfl]
   by_cases hmx:G=18446744073709551615
   ·have hb:(G==18446744073709551615)=true:=by simpa using hmx
    have HMX:=hid hmx;clear hmx
    go_wp2_with fail
    go_ret2
    exact .inr (.inl ⟨HG.out,by rw[HSS.out,HGG.out];exact HMX.out,rfl,B4.out⟩)
   ·have hb:(G==18446744073709551615)=false:=by simpa using hmx
    have HMX:=hid hmx;have hw:IntKind.u64.wrap (G+1)=G+1:=IntWalk.u64_in _ (by omega);have HPR:Hid (∀ wx,Nib wx->Calls prog 147 #[.agg #[.int .i64 ver,.int .i64 lin,.int .i64 redo,.int .i64 und,.int .i64 desc,.int .i64 que,.int .i64 tab,.int .u64 (G+1)],.int .i64 0] wx fun r w'=>∃ ov,r = .returned ov/\Acc wx wx.heap.size w' 73 3 ov (sbP ⟨ver,lin,redo,und,desc,que,tab,G+1⟩ 0).length (Qd (sbP ⟨ver,lin,redo,und,desc,que,tab,G+1⟩ 0))):=
     fun wx hx=>Rl hx ⟨ver,lin,redo,und,desc,que,tab,G+1⟩ ⟨by simp only;omega,by simp only;omega,HF.out.v1,HF.out.v2,HF.out.l1,HF.out.l2,HF.out.r1,HF.out.r2,HF.out.u1,HF.out.u2,HF.out.d1,HF.out.d2,HF.out.q1,HF.out.q2,HF.out.t1,HF.out.t2⟩ 0 (by omega)
    have B5:Hid (Below w.heap.size w (w3.setCell ⟨w.heap.size,7,none⟩ (.int .u64 (G+1)))):=B4.out.setCell (Nat.le_refl _) _;have f7:=K3.out.frozen 7;clear hmx hgm;go_wp2_with fail
    (with_reducible refine(HPR.out _ (HNB.out.below B5.out)).mono ?_)
    rintro e w6 ⟨ov,rfl,a6⟩;obtain⟨oa,oc,hov⟩:=a6.slice;subst hov;have A6:=hid (a6.deeper B5.out);clear a6
    go_wp2_with fail
    go_ret2
    refine .inr (.inr ⟨HG.out,by rw[HSS.out,HGG.out];exact HMX.out,_,rfl,?_⟩)
    rw[HSS.out,HGG.out,HQ.out];exact A6.out
end
end
section
open Go.Maps
attribute [local go_sem ↓] Go.wp_at_zero Go.wp_at_succ
theorem Qvs(s:Sup)(i:Nat)(hi:i<=1):Qz (sbP s i):=Tc _ (fun e he=>by have:=(Ff s i (i+1) (by omega) e he).2.1;omega)
theorem Qbc(s:Sup)(i:Nat):(sbP s i).length<=19:=by
 have:=Zx (Dr s i);have h:(Dr s i).length=9:=by rw[Rs];rfl
 show(Qe (Dr s i)).length<=19
 omega
theorem Qxw(C:Nat->Int)(n:Nat):Kz C n<=1:=by unfold Kz;split <;> omega
def Gc:List (Nat×Nat×Int):=Qe [(56,0),(120,0)]
theorem Qmu:Qz Gc:=Tc _ (by decide)
theorem Nf:Gc.length<=5:=by have:=Zx [(56,0),(120,0)];show(Qe [(56,0),(120,0)]).length<=5;simpa using this
section
variable{w:World}{v:DV}{own:Nat->Option Qp}{D:Dev}{j:Nat}
def Quv(w:World)(v:DV)(own:Nat->Option Qp)(D:Dev)(j:Nat)(s:Sup)(r:Ending)(w':World):Prop:=
 (Np D.cur D.n=false/\r = .returned (.int .i64 10)/\Below w.heap.size w w') \/
 (Np D.cur D.n=true/\(Vn D.cur D.n).gen=18446744073709551615/\r = .returned (.int .i64 9)/\Below w.heap.size w w') \/
 (Np D.cur D.n=true/\(Vn D.cur D.n).gen≠18446744073709551615/\r = .returned (.int .i64 ((D.run j (sbP (s.withGen ((Vn D.cur D.n).gen+1)) (1-Kz D.cur D.n))).err j)) /\
  Qr v own w (D.run j (sbP (s.withGen ((Vn D.cur D.n).gen+1)) (1-Kz D.cur D.n))) w')
theorem Qdv(hN:Nib w)(h:IsDev w v own D)(hj:j<8)(hof:D.off=false)(he:D.err j=0)(hvb:D.VB)(hn:2<=D.n)(s:Sup)(hok:s.Ok)(hl:s.lin<=D.n)(hg1:0<=s.gen)(hg2:s.gen<18446744073709551616)(hx:D.exec+100000<4294967296) :
  Calls prog 86 #[.iface 40 (.pointer (some ⟨v.tb j,0,none⟩)),.agg s.cells] w (Quv w v own D j s):=by
 have HP:=hid (fun(wx:World) (hx:IsDev wx v own D) (hnx:Nib wx)=>Lg hnx hx hj hof he hvb hn s hok hl hg1 hg2);have HR:=hid (fun(wa wb:World) (pv:Value) (hd:IsDev wa v own D) (ha:Acc wa wa.heap.size wb 73 3 pv (sbP (s.withGen ((Vn D.cur D.n).gen+1)) (1-Kz D.cur D.n)).length (Qd (sbP (s.withGen ((Vn D.cur D.n).gen+1)) (1-Kz D.cur D.n))))=>
  Le hd hj ha (Qvs _ _ (by omega)) (by have:=Qbc (s.withGen ((Vn D.cur D.n).gen+1)) (1-Kz D.cur D.n);omega) hx)
 have H:=hid h;have HNB:=hid hN
 have B0:=hid (Qa w (.cells s.cells 130));obtain⟨ver,lin,redo,und,desc,que,tab,gen⟩:=s;unfold Sup.cells at *;clear h hN hvb hok hl hg1 hg2 he
 go_enter func86,ntmps86
 go_wp2_with fail
 (with_reducible refine(HP.out _ (H.out.below B0.out) (HNB.out.below B0.out)).mono ?_)
 rintro e w1 (⟨h1,rfl,b1⟩ | ⟨h1,h2,rfl,b1⟩ | ⟨h1,h2,ov,rfl,a1⟩)
 ·have HH:=hid h1
  have B1:=hid (B0.out.trans (b1.mono B0.out.size));clear b1 h1
  go_wp2_with fail
  go_ret
  exact .inl ⟨HH.out,rfl,B1.out⟩
 ·have HH:=hid (And.intro h1 h2)
  have B1:=hid (B0.out.trans (b1.mono B0.out.size));clear b1 h1 h2
  go_wp2_with fail
  go_ret
  exact .inr (.inl ⟨HH.out.1,HH.out.2,rfl,B1.out⟩)
 ·have HH:=hid (And.intro h1 h2)
  have HR1:=hid (HR.out _ _ _ (H.out.below B0.out) a1);obtain⟨oa,oc,hov⟩:=a1.slice;subst hov;clear h1 h2 a1 HR;go_wp2_with fail
  (with_reducible refine HR1.out.mono ?_)
  rintro e w2 ⟨rfl,p2⟩;have P2:=hid (p2.past B0.out);clear p2
  go_wp2_with fail
  go_ret
  exact .inr (.inr ⟨HH.out.1,HH.out.2,rfl,P2.out⟩)
theorem Qdu(hN:Nib w)(h:IsDev w v own D)(hj:j<8)(he:D.err j=0)(hn:2<=D.n)(s:Sup)(hok:s.Ok)(hl:s.lin<=D.n)(hx:D.exec+100000<4294967296) :
  Calls prog 82 #[.iface 40 (.pointer (some ⟨v.tb j,0,none⟩)),.agg s.cells] w fun r w'=>r = .returned (.int .i64 ((D.run j (Gc++sbP (s.withGen 1) 0)).err j))/\Qr v own w (D.run j (Gc++sbP (s.withGen 1) 0)) w':=by
 have H:=hid h;have HNB:=hid hN
 have hus:=fun wx (hx:IsDev wx v own D)=>Mk hx hj hn s hok hl
 rw[he]at hus;have HU:=hid hus;have HR:=hid (fun(wb:World) (pv:Value) (ha:Acc w w.heap.size wb 73 3 pv (Gc++sbP (s.withGen 1) 0).length (Qd (Gc++sbP (s.withGen 1) 0)))=>
  Le h hj ha (Df Qmu (Qvs _ _ (by omega))) (by have:=Qbc (s.withGen 1) 0;have:=Nf;rw[List.length_append];omega) hx)
 have HTL:Hid (Gc.length+(sbP (s.withGen 1) 0).length<=100000):=by have:=Qbc (s.withGen 1) 0;have:=Nf;show _<=_;omega
 have HPR:=hid (fun wx (hx:Nib wx)=>Rl hx (s.withGen 1) ((show(s.withGen 1).Ok from⟨hok.v1,hok.v2,hok.l1,hok.l2,hok.r1,hok.u1,hok.d1,hok.q1,hok.t1,hok.r2,hok.u2,hok.d2,hok.q2,hok.t2,hok.h⟩).fits (show(0:Int)<=1 by omega) (show(1:Int)<18446744073709551616 by omega)) 0 (by omega));have HER:=hid (fun(wx:World) (sv:Value) (hx:Ql wx 2 sv 2 (Qv [(56,0),(120,0)]))=>Xd (w:=wx) sv [(56,0),(120,0)] hx (by simp) (by decide))
 generalize hP:sbP (s.withGen 1) 0=P at *
 obtain⟨ver,lin,redo,und,desc,que,tab,gen⟩:=s;have HPR2:Hid (∀ wx,Nib wx->Calls prog 147 #[.agg #[.int .i64 ver,.int .i64 lin,.int .i64 redo,.int .i64 und,.int .i64 desc,.int .i64 que,.int .i64 tab,.int .u64 1],.int .i64 0] wx fun r w'=>∃ ov,r = .returned ov/\Acc wx wx.heap.size w' 73 3 ov P.length (Qd P)):=HPR.out;have HEQ:Hid (Qe [(56,0),(120,0)]=Gc):=rfl;rw[HEQ.out]at HER
 generalize Gc=E at *
 unfold Sup.cells at *;have B0:=hid (Qa w (.cells #[.int .i64 ver,.int .i64 lin,.int .i64 redo,.int .i64 und,.int .i64 desc,.int .i64 que,.int .i64 tab,.int .u64 gen] 130));have K0:=hid (Blk.new w #[.int .i64 ver,.int .i64 lin,.int .i64 redo,.int .i64 und,.int .i64 desc,.int .i64 que,.int .i64 tab,.int .u64 gen] 130);clear h hN hus hok hl he hP HPR
 go_enter func82,ntmps82
 go_wp2_with fail
 (with_reducible refine(HU.out _ (H.out.below B0.out)).mono ?_)
 rintro e w1 ⟨rfl,b1⟩;have K1:=hid (K0.out.below b1);have B1:=hid (B0.out.trans (b1.mono B0.out.size));have z7:=K1.out.cell (i:=7) (v:=.int .u64 gen) rfl;have f7:=K1.out.frozen 7;have K2:Hid (Blk (w1.setCell ⟨w.heap.size,7,none⟩ (.int .u64 1)) w.heap.size #[.int .i64 ver,.int .i64 lin,.int .i64 redo,.int .i64 und,.int .i64 desc,.int .i64 que,.int .i64 tab,.int .u64 1] 130):=by
  have:=K1.out.set 7 (.int .u64 1);show Blk _ _ _ _
  simpa using this
 have B2:Hid (Below w.heap.size w (w1.setCell ⟨w.heap.size,7,none⟩ (.int .u64 1))):=B1.out.setCell (Nat.le_refl _) _;clear b1 K0 HU;have HE1:=hid (HER.out ((w1.setCell ⟨w.heap.size,7,none⟩ (.int .u64 1)).alloc (.cells #[.int .u64 56,.int .u64 0,.int .u64 120,.int .u64 0] 140)) (.slice (some ⟨w1.heap.size,0,none⟩) 2 2) (by exact Ql.newAt _ _ _ 2 2 _ (by simp[World.setCell]) rfl));go_wp2_with fail
 (with_reducible refine HE1.out.mono ?_)
 rintro e w3 ⟨ov,rfl,a3⟩;have K3:=hid ((K2.out.alloc _).below a3.bel);have A3:=hid (a3.deeper (B2.out.trans ((Qa _ _).mono B2.out.size)));have B3:=hid A3.out.bel;obtain⟨oa,oc,hov⟩:=a3.slice;subst hov;have z0:=K3.out.cell (i:=0) (v:=.int .i64 ver) rfl;have z1:=K3.out.cell (i:=1) (v:=.int .i64 lin) rfl;have z2:=K3.out.cell (i:=2) (v:=.int .i64 redo) rfl;have z3:=K3.out.cell (i:=3) (v:=.int .i64 und) rfl
 have z4:=K3.out.cell (i:=4) (v:=.int .i64 desc) rfl;have z5:=K3.out.cell (i:=5) (v:=.int .i64 que) rfl;have z6:=K3.out.cell (i:=6) (v:=.int .i64 tab) rfl;have y7:=K3.out.cell (i:=7) (v:=.int .u64 1) rfl
 clear a3 HE1 HER K2 B2 z7 f7 K1 B1;go_wp2_with fail
 (with_reducible refine(HPR2.out _ (HNB.out.below B3.out)).mono ?_)
 rintro e w4 ⟨ov2,rfl,a4⟩;obtain⟨pa,pc,hpv⟩:=a4.slice;subst hpv;have B4:=hid (B3.out.trans (a4.bel.mono B3.out.size));have HT:=hid (Xx (w:=w4) _ _ E P (A3.out.keep a4.bel).rd a4.rd HTL.out);clear a4 z0 z1 z2 z3 z4 z5 z6 y7;go_wp2_with fail
 (with_reducible refine HT.out.mono ?_)
 rintro e w5 ⟨ov3,rfl,a5⟩;have hr:=HR.out _ _ (a5.deeper B4.out);obtain⟨qa,qc,hqv⟩:=a5.slice;subst hqv;rw[List.length_append]at hr;have HR1:=hid hr;clear hr
 clear a5 HR HT;go_wp2_with fail
 (with_reducible refine HR1.out.mono ?_)
 rintro e w6 ⟨rfl,p6⟩;have P6:=hid p6;clear p6
 go_wp2_with fail
 go_ret
 exact⟨rfl,P6.out⟩
end
end
end Go.Proofs.YtlhchkajjpefmaaGreatDoor
