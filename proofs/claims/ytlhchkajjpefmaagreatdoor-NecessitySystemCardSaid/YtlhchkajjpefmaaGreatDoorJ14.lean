import Derived.Test.YtlhchkajjpefmaaGreatDoorJ13
import Derived.Test.YtlhchkajjpefmaaGreatDoorJ4
import Derived.Test.YtlhchkajjpefmaaGreatDoorJ3
import Derived.Deep.RegionHeld3
set_option maxHeartbeats 16000000
set_option maxRecDepth 100000
namespace Go.Proofs.YtlhchkajjpefmaaGreatDoor
section
open Go.RowKit
theorem nilB_LoadB(a:Addr)(w:World):(nilAhead 461 40 (.pointer (some a)) "Load").run Tryz.prog w = .ok (some false) w:=by kernel_rfl
theorem infoBk:(Tryz.prog.info? 147).map (·.size)=some 2:=by kernel_rfl
structure Bx1(w:World)(c:Array Value)(t:TypeId)(wx:World):Prop where
 blk:Blk wx w.heap.size c t
 bel:Below w.heap.size w wx
theorem Bx1.start(w:World)(c:Array Value)(t:TypeId):Bx1 w c t (w.alloc (.cells c t)):=⟨Blk.new w c t,below_alloc w _⟩
theorem Bx1.next{w wx wy:World}{c:Array Value}{t:TypeId}(h:Bx1 w c t wx)(hb:Below wx.heap.size wx wy):Bx1 w c t wy:=⟨h.blk.below hb,h.bel.trans (hb.mono h.bel.size)⟩
theorem exec_load_cell{o:Oper}{ev:Operand→Value}{w:World}(ty:TypeId)(x:Operand)(ho:o.op = .load ty x)
  (a:Addr) (hx:ev x = .pointer (some a)) (u:Value) (hc:w.cell? a=some u) (hd:(isAgg ty).run Tryz.prog w = .ok false w):(execOp ev o).run Tryz.prog w = .ok (.value u) w:=by
 unfold execOp;simp only[ho,hx,Instr.loadAt,Instr.sureAddr,Sem.run_bind,Sem.run_pure,Result.andThen_ok,loadVar,hd];simp[go_sem,hc]
theorem aggMem(w:World):(isAgg 90).run Tryz.prog w = .ok false w:=by kernel_rfl
section
variable{w:World}{v:DV}{own:Nat→Option Role}{D:Dev}
theorem keyAt_any(off s:Nat)(hs:s<7)(hl:off+128≤18446744073709551616):Calls Tryz.prog 164 #[.agg #[.iface 40 (.pointer (some ⟨v.tb 0,0,none⟩)),.int .u64 off],.int .i64 s] w fun r w'=>r = .returned (.int .u64 (bkKey off s:Nat))∧Below w.heap.size w w':=by
 have hb:=below_alloc w (.cells #[.iface 40 (.pointer (some ⟨v.tb 0,0,none⟩)),.int .u64 off] 147);have HB:=Lib.hid hb;have he:((bkKey off s:Nat):Int)=(off:Int)+16*((s:Int)+1):=by unfold bkKey;omega
 have e1:IntKind.u64.wrap ((s:Int)+1)=(s:Int)+1:=IntWalk.u64_in _ (by omega);have e2:IntKind.u64.wrap (16*((s:Int)+1))=16*((s:Int)+1):=IntWalk.u64_in _ (by omega);have e3:IntKind.u64.wrap ((off:Int)+16*((s:Int)+1))=(off:Int)+16*((s:Int)+1):=IntWalk.u64_in _ (by omega);rw[he];clear hb he
 go_enter Tryz.func164,Tryz.ntmps164
 go_wp2_with fail
 go_ret
 exact⟨rfl,HB.out⟩
theorem check31_ok(h:IsDev w v own D)(off:Nat)(h8:off%8=0)(hl:off+128≤64*D.n):Calls Tryz.prog 190 #[.agg #[.iface 40 (.pointer (some ⟨v.tb 0,0,none⟩)),.int .u64 off]] w fun r w'=>r = .returned (.int .i64 (D.err 0))∧Below w.heap.size w w':=by
 have hm1:=meth_Size ⟨v.tb 0,0,none⟩;have hm2:=meth_Err ⟨v.tb 0,0,none⟩
 have H:=Lib.hid h;have HT:=Lib.hid (fun wx (hx:IsDev wx v own D)=>thrSize_any hx (j:=0) (by omega));have HER:=Lib.hid (fun wx (hx:IsDev wx v own D)=>err_any hx (j:=0) (by omega));have HB:=Lib.hid (below_alloc w (.cells #[.iface 40 (.pointer (some ⟨v.tb 0,0,none⟩)),.int .u64 off] 147));have hn:=h.wf.le;have e1:(off:Int)%8=0:=by omega
 have e2:¬ (D.n:Int)*64<128:=by omega
 have e3:IntKind.u64.wrap ((D.n:Int)*64-128)=(D.n:Int)*64-128:=IntWalk.u64_in _ (by omega);have e4:¬ (D.n:Int)*64-128<(off:Int):=by omega
 clear h
 go_enter Tryz.func190,Tryz.ntmps190
 go_wp2_with fail
 (with_reducible refine(HT.out _ (H.out.alloc _)).mono ?_)
 rintro e w' ⟨rfl,rfl⟩;go_wp2_with fail
 (with_reducible refine(HER.out _ (H.out.alloc _)).mono ?_)
 rintro e w' ⟨rfl,rfl⟩;go_wp2_with fail
 go_ret
 exact⟨rfl,HB.out⟩
theorem find31_ok(h:IsDev w v own D)(hvb:D.VB)(hof:D.off=false)(he:D.err 0=0)(off k:Nat)(hk:k<18446744073709551616)(h8:off%8=0)(hl:off+128≤64*D.n) :
  Calls Tryz.prog 162 #[.agg #[.iface 40 (.pointer (some ⟨v.tb 0,0,none⟩)),.int .u64 off],.int .u64 k] w fun r w'=>r = .returned (.tuple #[.int .u64 (bkH D.cur off:Nat),.int .i64 (fndI D.cur off k),.int .i64 0])∧Below w.heap.size w w':=by
 have hm1:=meth_Load ⟨v.tb 0,0,none⟩;have hn1:=nilB_LoadB ⟨v.tb 0,0,none⟩;have hm2:=meth_Err ⟨v.tb 0,0,none⟩
 have H:=Lib.hid h;have hck:=fun wx (hx:IsDev wx v own D)=>check31_ok hx off h8 hl
 rw[he]at hck;have HCK:=Lib.hid hck;have hn:=h.wf.le;have hld:=fun wx (hx:IsDev wx v own D)=>load_ok hx (j:=0) (by omega) off hof h8 (by omega)
 have hhd:D.cur (off/8)=((bkH D.cur off:Nat):Int):=by unfold bkH;have:=hvb.cur (off/8);omega
 have hhb:bkH D.cur off<18446744073709551616:=by unfold bkH;have:=hvb.cur (off/8);omega
 rw[hhd]at hld;have HLD:=Lib.hid hld;have her:=fun wx (hx:IsDev wx v own D)=>err_any hx (j:=0) (by omega)
 rw[he]at her;have HER:=Lib.hid her;have HMT:=Lib.hid (fun(wx:World) (s:Nat) (hs:s<7)=>matches_any (w:=wx) (bkH D.cur off) s k hhb hs hk);have HKA:=Lib.hid (fun(wx:World) (s:Nat) (hs:s<7)=>keyAt_any (w:=wx) (v:=v) off s hs (by omega));have HLK:=Lib.hid (fun(wx:World) (hx:IsDev wx v own D) (s:Nat) (hs:s<7)=>(show Calls Tryz.prog 290 #[.pointer (some ⟨v.tb 0,0,none⟩),.int .u64 (bkKey off s:Nat)] wx fun r w'=>r = .returned (.int .u64 (bkK D.cur off s))∧wx=w' from by
  have:=load_ok hx (j:=0) (by omega) (bkKey off s) hof (by unfold bkKey;omega) (by unfold bkKey;omega);rw[show bkKey off s/8=off/8+2+2*s by unfold bkKey;omega]at this;exact this))
 have HMB:Hid (∀ s,matB D.cur off k s=((usedB (bkH D.cur off) s&&(fpN (bkH D.cur off) s==mixN k%256))&&bkK D.cur off s==(k:Int))):=fun s=>rfl
 have HFI:Hid (fndI D.cur off k=fstK (matB D.cur off k) 7):=rfl;have HKB:=Lib.hid (fun s=>hvb.cur (off/8+2+2*s));have hkb:Hid (∀ s,0≤bkK D.cur off s∧bkK D.cur off s<18446744073709551616):=fun s=>HKB.out s
 generalize bkH D.cur off=hd at *
 generalize matB D.cur off k=mt at *
 generalize fndI D.cur off k=fi at *
 generalize hkk:bkK D.cur off=kk at *
 have X0:=Lib.hid (Bx1.start w #[.iface 40 (.pointer (some ⟨v.tb 0,0,none⟩)),.int .u64 off] 147);clear h hck hld her hvb hkk HKB hhd
 go_enter Tryz.func162,Tryz.ntmps162
 go_wp2_with fail
 (with_reducible refine(HCK.out _ (H.out.below X0.out.bel)).mono ?_)
 rintro e w1 ⟨rfl,b1⟩;have X1:=Lib.hid (X0.out.next b1);have c0:=X1.out.blk.cell (i:=0) (v:=.iface 40 (.pointer (some ⟨v.tb 0,0,none⟩))) rfl;have c1:=X1.out.blk.cell (i:=1) (v:=.int .u64 off) rfl;clear b1 X0 HCK;go_wp2_with fail
 (with_reducible refine(HLD.out _ (H.out.below X1.out.bel)).mono ?_)
 rintro e w' ⟨rfl,rfl⟩;clear c0 c1 HLD;go_wp2_with fail
 go_loopw [9,10] (fun f y wr=>∃ s:Nat,s≤7∧y = .int .i64 s∧f = .int .i64 (fstK mt s)∧Bx1 w #[.iface 40 (.pointer (some ⟨v.tb 0,0,none⟩)),.int .u64 off] 147 wr) (fun _ y _=>7-(intOf y).toNat)
 case atStart=>exact⟨0,by omega,rfl,rfl,X1.out⟩
 case round=>
  obtain⟨s,hs,rfl,rfl,hx⟩:=hrel;have X:=Lib.hid hx;clear hx X1;have c0:=X.out.blk.cell (i:=0) (v:=.iface 40 (.pointer (some ⟨v.tb 0,0,none⟩))) rfl;have c1:=X.out.blk.cell (i:=1) (v:=.int .u64 off) rfl
  by_cases hlt:s<7
  ·by_cases hf:fstK mt s<0
   ·have hs1:(s:Int)<7:=by omega
    have hfe:fstK mt (s+1)=if mt s then(s:Int)else fstK mt s:=by
     rcases fstK_bd mt s with ⟨h1,_⟩
     show(if 0≤fstK mt s then fstK mt s else if mt s then(s:Int)else -1)=_
     rw[if_neg (by omega),show fstK mt s = -1 by omega]
    have hbd:=(fstK_bd mt s).1;have HM:=Lib.hid (fun wx=>HMT.out wx s hlt);have HK:=Lib.hid (fun wx=>HKA.out wx s hlt);have HL:=Lib.hid (fun wx hx=>HLK.out wx hx s hlt);have hms:=HMB.out s;have hkk:=hkb.out s
    generalize kk s=ks at *
    generalize (usedB hd s&&(fpN hd s==mixN k%256))=mb at *
    have HFE:=Lib.hid hfe;have HMS:=Lib.hid hms;clear hfe hms HMT HKA HLK HMB hkb HFI
    generalize fstK mt s=fs at *
    go_wp2_with fail
    have X4:=Lib.hid (X.out.next ((Below.refl _ _).drew));clear c0 c1 X;refine wp_region_held (S:=(fun wx=>Bx1 w #[.iface 40 (.pointer (some ⟨v.tb 0,0,none⟩)),.int .u64 off] 147 wx)) (by kernel_rfl) ?_
    change wpAnyH _ _ _ _ _ _ _ _ (World.drew _)
    refine wpAnyH_take (i:=0) (v:=.int .u64 (hd:Nat)) rfl (by kernel_rfl) (by kernel_rfl) (by kernel_rfl) (fun _ _ _ h=>h) (Or.inl ⟨by kernel_rfl,fun w _=>by go_simp⟩) X4.out ?_
    refine wpAnyH_take (i:=1) (v:=.int .i64 s) rfl (by kernel_rfl) (by kernel_rfl) (by kernel_rfl) (fun _ _ _ h=>h) (Or.inl ⟨by kernel_rfl,fun w _=>by go_simp⟩) X4.out ?_
    refine wpAnyH_take (i:=2) (v:=.int .u64 (k:Nat)) rfl (by kernel_rfl) (by kernel_rfl) (by kernel_rfl) (fun _ _ _ h=>h) (Or.inl ⟨by kernel_rfl,fun w _=>by go_simp⟩) X4.out ?_
    refine wpAnyH_one (i:=3) (by kernel_rfl) rfl rfl (fun K hK => ?_)
    go_simp
    (with_reducible refine(HM.out _).mono ?_)
    rintro e w5 ⟨rfl,rfl⟩
    go_simp
    refine hK _ _ ⟨X4.out,?_⟩
    clear hK K;refine wpAnyH_one (i:=4) (by kernel_rfl) rfl rfl (fun K hK => ?_)
    go_simp
    refine hK _ _ ⟨X4.out,?_⟩
    clear hK K
    cases mb
    case false=>
     refine wpAnyH_take (i:=5) (v:=undef) rfl (by kernel_rfl) (by kernel_rfl) (by kernel_rfl) (fun _ _ _ h=>h) (Or.inr ⟨by kernel_rfl,rfl⟩) X4.out ?_
     refine wpAnyH_take (i:=6) (v:=undef) rfl (by kernel_rfl) (by kernel_rfl) (by kernel_rfl) (fun _ _ _ h=>h) (Or.inr ⟨by kernel_rfl,rfl⟩) X4.out ?_
     refine wpAnyH_take (i:=7) (v:=undef) rfl (by kernel_rfl) (by kernel_rfl) (by kernel_rfl) (fun _ _ _ h=>h) (Or.inr ⟨by kernel_rfl,rfl⟩) X4.out ?_
     refine wpAnyH_take (i:=8) (v:=undef) rfl (by kernel_rfl) (by kernel_rfl) (by kernel_rfl) (fun _ _ _ h=>h) (Or.inr ⟨by kernel_rfl,rfl⟩) X4.out ?_
     refine wpAnyH_take (i:=9) (v:=undef) rfl (by kernel_rfl) (by kernel_rfl) (by kernel_rfl) (fun _ _ _ h=>h) (Or.inr ⟨by kernel_rfl,rfl⟩) X4.out ?_
     refine wpAnyH_take (i:=10) (v:=undef) rfl (by kernel_rfl) (by kernel_rfl) (by kernel_rfl) (fun _ _ _ h=>h) (Or.inr ⟨by kernel_rfl,rfl⟩) X4.out ?_
     refine wpAnyH_take (i:=11) (v:=undef) rfl (by kernel_rfl) (by kernel_rfl) (by kernel_rfl) (fun _ _ _ h=>h) (Or.inr ⟨by kernel_rfl,rfl⟩) X4.out ?_
     refine wpAnyH_take (i:=12) (v:=undef) rfl (by kernel_rfl) (by kernel_rfl) (by kernel_rfl) (fun _ _ _ h=>h) (Or.inr ⟨by kernel_rfl,rfl⟩) X4.out ?_
     refine wpAnyH_take (i:=13) (v:=undef) rfl (by kernel_rfl) (by kernel_rfl) (by kernel_rfl) (fun _ _ _ h=>h) (Or.inr ⟨by kernel_rfl,rfl⟩) X4.out ?_
     refine wpAnyH_take (i:=14) (v:=undef) rfl (by kernel_rfl) (by kernel_rfl) (by kernel_rfl) (fun _ _ _ h=>h) (Or.inr ⟨by kernel_rfl,rfl⟩) X4.out ?_
     refine wpAnyH_one (i:=15) (by kernel_rfl) rfl rfl (fun K hK => ?_)
     go_simp
     refine hK _ _ ⟨X4.out,?_⟩
     clear hK K;refine wpAnyH_done (by kernel_rfl) ?_ _
     have hfe:=HFE.out;rw[HMS.out]at hfe;simp only[Bool.false_and,Bool.false_eq_true,if_false]at hfe;have HF2:=Lib.hid hfe;clear hfe;go_wp2_with fail
     go_roundw
     case rel=>exact⟨s+1,by omega,by go_num,by rw[HF2.out],X4.out⟩
     case measure=>simp[intOf];omega
    case true=>
     refine wpAnyH_take (i:=5) (v:=.pointer (some ⟨w.heap.size,0,none⟩)) rfl (by kernel_rfl) (by kernel_rfl) (by kernel_rfl) (fun _ _ _ h=>h) (Or.inl ⟨by kernel_rfl,fun w _=>by go_simp⟩) X4.out ?_
     refine wpAnyH_take (i:=8) (v:=.int .i64 s) rfl (by kernel_rfl) (by kernel_rfl) (by kernel_rfl) (fun _ _ _ h=>h) (Or.inl ⟨by kernel_rfl,fun w _=>by go_simp⟩) X4.out ?_
     refine wpAnyH_take (i:=13) (v:=.int .u64 (k:Nat)) rfl (by kernel_rfl) (by kernel_rfl) (by kernel_rfl) (fun _ _ _ h=>h) (Or.inl ⟨by kernel_rfl,fun w _=>by go_simp⟩) X4.out ?_
     refine wpAnyH_take (i:=6) (v:=.iface 40 (.pointer (some ⟨v.tb 0,0,none⟩))) rfl (by kernel_rfl) (by kernel_rfl) (by kernel_rfl) (fun _ _ _ h=>h) (Or.inl ⟨by kernel_rfl,fun wx hx=>exec_load_cell 90 (.tmp 34) rfl ⟨w.heap.size,0,none⟩ rfl _ (hx.blk.cell (i:=0) (v:=.iface 40 (.pointer (some ⟨v.tb 0,0,none⟩))) rfl) (aggMem _)⟩) X4.out ?_
     refine wpAnyH_take (i:=7) (v:=.agg #[.iface 40 (.pointer (some ⟨v.tb 0,0,none⟩)),.int .u64 off]) rfl (by kernel_rfl) (by kernel_rfl) (by kernel_rfl) (fun _ _ _ h=>h) (Or.inl ⟨by kernel_rfl,fun wx hx=>exec_load_row 147 (.tmp 2) rfl w.heap.size rfl 147 #[.iface 40 (.pointer (some ⟨v.tb 0,0,none⟩)),.int .u64 off] (0,0) _ hx.blk Tryz.underlying147 rfl infoBk⟩) X4.out ?_
     refine wpAnyH_take (i:=10) (v:=.iface 40 (.pointer (some ⟨v.tb 0,0,none⟩))) rfl (by kernel_rfl) (by kernel_rfl) (by kernel_rfl) (fun _ _ _ h=>h) (Or.inl ⟨by kernel_rfl,fun w _=>by go_simp⟩) X4.out ?_
     refine wpAnyH_take (i:=11) (v:=.iface 40 (.pointer (some ⟨v.tb 0,0,none⟩))) rfl (by kernel_rfl) (by kernel_rfl) (by kernel_rfl) (fun _ _ _ h=>h) (Or.inl ⟨by kernel_rfl,fun w _=>by go_simp⟩) X4.out ?_
     refine wpAnyH_one (i:=9) (by kernel_rfl) rfl rfl (fun K hK => ?_)
     go_simp
     (with_reducible refine(HK.out _).mono ?_)
     rintro e w6 ⟨rfl,b6⟩;have X6:=Lib.hid (X4.out.next b6)
     go_simp
     refine hK _ _ ⟨X6.out,?_⟩
     clear hK K;refine wpAnyH_one (i:=12) (by kernel_rfl) rfl rfl (fun K hK => ?_)
     go_simp
     (with_reducible refine(HL.out _ (H.out.below X6.out.bel)).mono ?_)
     rintro e w7 ⟨rfl,rfl⟩
     go_simp
     refine hK _ _ ⟨X6.out,?_⟩
     clear hK K;refine wpAnyH_one (i:=14) (by kernel_rfl) rfl rfl (fun K hK => ?_)
     go_simp
     refine hK _ _ ⟨X6.out,?_⟩
     clear hK K;refine wpAnyH_one (i:=15) (by kernel_rfl) rfl rfl (fun K hK => ?_)
     go_simp
     refine hK _ _ ⟨X6.out,?_⟩
     clear hK K;refine wpAnyH_done (by kernel_rfl) ?_ _
     by_cases he:ks=(k:Int)
     ·have hb:(ks==(k:Int))=true:=by simpa using he
      have hfe:=HFE.out;rw[HMS.out,hb]at hfe;simp only[Bool.true_and,if_true]at hfe;have HF2:=Lib.hid hfe;clear hfe he;go_wp2_with fail
      go_roundw
      case rel=>exact⟨s+1,by omega,by go_num,by rw[HF2.out],X6.out⟩
      case measure=>simp[intOf];omega
     ·have hb:(ks==(k:Int))=false:=by simpa using he
      have hfe:=HFE.out;rw[HMS.out,hb]at hfe;simp only[Bool.true_and,Bool.false_eq_true,if_false]at hfe;have HF2:=Lib.hid hfe;clear hfe he;go_wp2_with fail
      go_roundw
      case rel=>exact⟨s+1,by omega,by go_num,by rw[HF2.out],X6.out⟩
      case measure=>simp[intOf];omega
   ·have hs1:(s:Int)<7:=by omega
    have hfi:fstK mt 7=fstK mt s:=fstK_stay (by omega) 7 (by omega);rw[hfi]at HFI;have HF2:=Lib.hid HFI.out;clear hfi HFI
    generalize fstK mt s=fs at *
    go_wp2_with fail
    (with_reducible refine(HER.out _ (H.out.below X.out.bel)).mono ?_)
    rintro e w' ⟨rfl,rfl⟩;go_wp2_with fail
    go_ret3
    exact⟨by simp[HF2.out],X.out.bel⟩
  ·obtain rfl:s=7:=by omega
   have HF2:=Lib.hid HFI.out;clear HFI
   generalize fstK mt 7=fs at *
   go_wp2_with fail
   (with_reducible refine(HER.out _ (H.out.below X.out.bel)).mono ?_)
   rintro e w' ⟨rfl,rfl⟩;go_wp2_with fail
   go_ret3
   exact⟨by simp[HF2.out],X.out.bel⟩
end
end

section
open Go.RowKit
def rfB(C:Nat→Int)(off k s:Nat):Bool:=usedB (bkH C off) s&&bkK C off s==(k:Int)
structure BInv(C:Nat→Int)(off:Nat):Prop where
 bd:∀ i,0≤C i∧C i<18446744073709551616
 fp:∀ s,s<7→usedB (bkH C off) s=true→fpN (bkH C off) s=mixN (bkK C off s).toNat%256
 one:∀ s t,s<7→t<7→usedB (bkH C off) s=true→usedB (bkH C off) t=true→bkK C off s=bkK C off t→s=t
theorem BInv.hd{C:Nat→Int}{off:Nat}(h:BInv C off):bkH C off<18446744073709551616:=by have:=h.bd (off/8);unfold bkH;omega
theorem BInv.zero{off:Nat}(C:Nat→Int)(h:∀ i,0≤C i∧C i<18446744073709551616)(h0:C (off/8)=0):BInv C off:=by
 have e:bkH C off=0:=by unfold bkH;rw[h0];rfl
 refine⟨h,fun s _ hu => ?_,fun s t _ _ hu => ?_⟩
 ·rw[e,usedB_zero]at hu;cases hu
 ·rw[e,usedB_zero]at hu;cases hu
theorem fnd_ref{C:Nat→Int}{off:Nat}(h:BInv C off)(k:Nat):fndI C off k=fstK (rfB C off k) 7:=by
 refine fstK_congr 7 fun s hs => ?_
 unfold matB rfB
 cases hu:usedB (bkH C off) s
 ·simp
 ·by_cases e:bkK C off s=(k:Int)
  ·have:=h.fp s hs hu
   rw[e]at this;simp only[Int.toNat_natCast]at this;rw[this,e];simp
  ·rw[beq_eq_false_iff_ne.2 e];simp
def repC(C:Nat→Int)(off s:Nat)(v:Int):Nat→Int:=fun i=>if off/8+3+2*s=i then v else C i
def newC(C:Nat→Int)(off s:Nat)(k v:Int)(hd:Nat):Nat→Int:=fun i=>if off/8=i then(hd:Int)else if off/8+3+2*s=i then v else if off/8+2+2*s=i then k else C i
def putC(C:Nat→Int)(off k:Nat)(v:Int):Nat→Int:=
 if 0≤fstK (rfB C off k) 7 then repC C off (fstK (rfB C off k) 7).toNat v
 else if 0≤freI (bkH C off)then newC C off (freI (bkH C off)).toNat k v (markN (bkH C off) (freI (bkH C off)).toNat k)else C
def putE(C:Nat→Int)(off k:Nat):Int:=if 0≤fstK (rfB C off k) 7 then 0 else if 0≤freI (bkH C off)then 0 else 4
def putL(C:Nat→Int)(off k:Nat)(v:Int):List (Nat×Nat×Int):=
 if 0≤fstK (rfB C off k) 7 then bkRep off (fstK (rfB C off k) 7).toNat v
 else if 0≤freI (bkH C off)then bkNew off (freI (bkH C off)).toNat k v (markN (bkH C off) (freI (bkH C off)).toNat k)else []
theorem H_rep(C:Nat→Int)(off s:Nat)(v:Int):bkH (repC C off s v) off=bkH C off:=by unfold bkH repC;rw[if_neg (by omega)]
theorem K_rep(C:Nat→Int)(off s t:Nat)(v:Int):bkK (repC C off s v) off t=bkK C off t:=by unfold bkK repC;rw[if_neg (by omega)]
theorem H_new(C:Nat→Int)(off s:Nat)(k v:Int)(hd:Nat):bkH (newC C off s k v hd) off=hd:=by unfold bkH newC;rw[if_pos rfl];rfl
theorem K_new(C:Nat→Int)(off s t:Nat)(k v:Int)(hd:Nat):bkK (newC C off s k v hd) off t=if t=s then k else bkK C off t:=by
 unfold bkK newC;rw[if_neg (by omega),if_neg (by omega)]
 by_cases e:t=s
 ·rw[if_pos (by omega),if_pos e]
 ·rw[if_neg (by omega),if_neg e]
section
variable{C:Nat→Int}{off:Nat}
theorem fnd_cases(C:Nat→Int)(off k:Nat):(fstK (rfB C off k) 7 = -1∧∀ t,t<7→rfB C off k t=false)∨∃ s,fstK (rfB C off k) 7=(s:Nat)∧s<7∧usedB (bkH C off) s=true∧bkK C off s=(k:Int):=by
 rcases fstK_spec (rfB C off k) 7 with h | ⟨s,h1,h2,h3,_⟩
 ·exact .inl h
 ·unfold rfB at h3
  rw[Bool.and_eq_true,beq_iff_eq]at h3;exact .inr ⟨s,h1,h2,h3.1,h3.2⟩
theorem fre_cases(h:Nat):(freI h = -1∧∀ t,t<7→usedB h t=true)∨∃ s,freI h=(s:Nat)∧s<7∧usedB h s=false:=by
 rcases fstK_spec (fun s => !usedB h s) 7 with ⟨h1,h2⟩ | ⟨s,h1,h2,h3,_⟩
 ·exact .inl ⟨h1,fun t ht=>by simpa using h2 t ht⟩
 ·exact .inr ⟨s,h1,h2,by simpa using h3⟩
theorem BInv.rep(h:BInv C off)(s:Nat){v:Int}(hv:0≤v∧v<18446744073709551616):BInv (repC C off s v) off:=by
 refine⟨fun i => ?_,fun t ht hu => ?_,fun a b ha hb hu hw he => ?_⟩
 ·unfold repC;split
  ·exact hv
  ·exact h.bd i
 ·rw[H_rep]at hu ⊢;rw[K_rep];exact h.fp t ht hu
 ·rw[H_rep]at hu hw;rw[K_rep,K_rep]at he;exact h.one a b ha hb hu hw he
theorem BInv.new(h:BInv C off){k:Nat}{v:Int}{s:Nat}(hs:s<7)(hk:k<18446744073709551616)(hv:0≤v∧v<18446744073709551616)(hno:∀ t,t<7→rfB C off k t=false):BInv (newC C off s k v (markN (bkH C off) s k)) off:=by
 refine⟨fun i => ?_,fun t ht hu => ?_,fun a b ha hb hu hw he => ?_⟩
 ·have:=markN_lt h.hd hs k
  unfold newC;repeat' split
  ·omega
  ·exact hv
  ·omega
  ·exact h.bd i
 ·rw[H_new,usedB_mark _ _ _ _ hs ht]at hu
  rw[H_new,fpN_mark _ _ _ _ hs ht,K_new]
  by_cases e:t=s
  ·rw[if_pos e,if_pos e];rfl
  ·rw[if_neg e,if_neg e]
   rw[decide_eq_false e,Bool.false_or]at hu;exact h.fp t ht hu
 ·rw[H_new,usedB_mark _ _ _ _ hs ha]at hu
  rw[H_new,usedB_mark _ _ _ _ hs hb]at hw;rw[K_new,K_new]at he;have hn:∀ t,t<7→usedB (bkH C off) t=true→bkK C off t=(k:Int)→False:=fun t ht hu e=>by
   have:=hno t ht;unfold rfB at this;rw[hu,e]at this;simp at this
  by_cases e1:a=s
  ·by_cases e2:b=s
   ·omega
   ·rw[if_pos e1,if_neg e2]at he
    rw[decide_eq_false e2,Bool.false_or]at hw;exact(hn b hb hw he.symm).elim
  ·by_cases e2:b=s
   ·rw[if_neg e1,if_pos e2]at he
    rw[decide_eq_false e1,Bool.false_or]at hu;exact(hn a ha hu he).elim
   ·rw[if_neg e1,if_neg e2]at he
    rw[decide_eq_false e1,Bool.false_or]at hu;rw[decide_eq_false e2,Bool.false_or]at hw;exact h.one a b ha hb hu hw he
theorem BInv.put(h:BInv C off){k:Nat}{v:Int}(hk:k<18446744073709551616)(hv:0≤v∧v<18446744073709551616):BInv (putC C off k v) off:=by
 unfold putC
 rcases fnd_cases C off k with ⟨e,hno⟩ | ⟨s,e,_,_⟩
 ·rw[if_neg (by omega)]
  rcases fre_cases (bkH C off)with ⟨e2,_⟩ | ⟨s,e2,hs,_⟩
  ·rw[if_neg (by omega)];exact h
  ·rw[if_pos (by omega),e2];exact h.new hs hk hv hno
 ·rw[if_pos (by omega)];exact h.rep _ hv
end
section
variable{D:Dev}{n x:Nat}{C:Nat→Int}{off:Nat}
theorem BCl.put(h:BCl D n C x)(h8:off%8=0)(hl:off+128≤64*n){k:Nat}{v:Int}(hk:k<18446744073709551616)(hv:0≤v∧v<18446744073709551616)(hh:bkH C off<18446744073709551616) :
  BCl (D.run 0 (putL C off k v)) n (putC C off k v) (x+9):=by
 unfold putL putC
 rcases fnd_cases C off k with ⟨e,_⟩ | ⟨s,e,hs,_⟩
 ·rw[e,if_neg (show ¬ (0:Int) ≤ -1 by decide),if_neg (show ¬ (0:Int) ≤ -1 by decide)]
  rcases fre_cases (bkH C off)with ⟨e2,_⟩ | ⟨s,e2,hs,_⟩
  ·rw[e2,if_neg (show ¬ (0:Int) ≤ -1 by decide),if_neg (show ¬ (0:Int) ≤ -1 by decide)];exact h.mono (by omega)
  ·rw[e2,if_pos (show(0:Int)≤(s:Nat)by omega),if_pos (show(0:Int)≤(s:Nat)by omega)]
   exact h.new h8 hs hl ⟨by omega,by omega⟩ hv (markN_lt hh hs k)
 ·rw[e,if_pos (show(0:Int)≤(s:Nat)by omega),if_pos (show(0:Int)≤(s:Nat)by omega)]
  have:=h.one (o:=bkKey off s+8) (v:=v) (by unfold bkKey;omega) (by unfold bkKey;omega) hv;rw[show(bkKey off s+8)/8=off/8+3+2*s by unfold bkKey;omega]at this;exact this.mono (by omega)
end
def slotE(C:Nat→Int)(off s:Nat):List (Int×Int):=if usedB (bkH C off) s then [(bkK C off s,bkV C off s)]else []
def entB(C:Nat→Int)(off k:Nat):List (Int×Int):=(List.range k).flatMap (slotE C off)
theorem entB_succ(C:Nat→Int)(off k:Nat):entB C off (k+1)=entB C off k++slotE C off k:=by
 unfold entB;rw[List.range_succ,List.flatMap_append];simp
theorem entB_len(C:Nat→Int)(off:Nat):∀ k,(entB C off k).length=((List.range k).filter (usedB (bkH C off))).length:=by
 intro k
 induction k with
 | zero=>rfl
 | succ k ih=>
  rw[entB_succ,List.range_succ,List.filter_append,List.length_append,List.length_append,ih];unfold slotE
  cases h:usedB (bkH C off) k <;> simp[h]
theorem entB_le(C:Nat→Int)(off:Nat):∀ k,(entB C off k).length≤k:=by
 intro k;rw[entB_len];exact Nat.le_trans (List.length_filter_le _ _) (by simp)
def lookI(l:List (Nat×Nat×Int))(C:Nat→Int):Nat→Int:=l.foldl (fun C e=>if e.1=1 then fun i=>if e.2.1/8=i then e.2.2 else C i else C) C
theorem lookI_nil(C:Nat→Int):lookI [] C=C:=rfl
theorem lookI_cons(e:Nat×Nat×Int)(l:List (Nat×Nat×Int))(C:Nat→Int):lookI (e::l) C=lookI l (if e.1=1 then fun i=>if e.2.1/8=i then e.2.2 else C i else C):=rfl
theorem lookI_append(l m:List (Nat×Nat×Int))(C:Nat→Int):lookI (l++m) C=lookI m (lookI l C):=by unfold lookI;rw[List.foldl_append]
end

section
open Go.RowKit
section
variable{w:World}{v:DV}{own:Nat→Option Role}{D:Dev}
end
end

section
open Go.RowKit
structure BOk(D:Dev)(off:Nat):Prop where
 vb:D.VB
 of:D.off=false
 er:D.err 0=0
 h8:off%8=0
 hl:off+128≤64*D.n
theorem aggU64(w:World):(isAgg 31).run Tryz.prog w = .ok false w:=by kernel_rfl
section
variable{w:World}{v:DV}{own:Nat→Option Role}{D:Dev}{off:Nat}
theorem BOk.bd(h:BOk D off):bkH D.cur off<18446744073709551616:=by have:=h.vb.cur (off/8);unfold bkH;omega
theorem BOk.find(hb:BOk D off)(h:IsDev w v own D)(k:Nat)(hk:k<18446744073709551616) :
  Calls Tryz.prog 162 #[.agg #[.iface 40 (.pointer (some ⟨v.tb 0,0,none⟩)),.int .u64 off],.int .u64 k] w fun r w'=>r = .returned (.tuple #[.int .u64 (bkH D.cur off:Nat),.int .i64 (fndI D.cur off k),.int .i64 0])∧Below w.heap.size w w':=
 find31_ok h hb.vb hb.of hb.er off k hk hb.h8 hb.hl
theorem BOk.loadV(hb:BOk D off)(h:IsDev w v own D)(s:Nat)(hs:s<7):Calls Tryz.prog 290 #[.pointer (some ⟨v.tb 0,0,none⟩),.int .u64 ((bkKey off s:Nat)+8:Int)] w fun r w'=>r = .returned (.int .u64 (bkV D.cur off s))∧w=w':=by
 have hl:=hb.hl;have h8:=hb.h8
 have:=load_ok h (j:=0) (by omega) (bkKey off s+8) hb.of (by unfold bkKey;omega) (by unfold bkKey;omega);rw[show(bkKey off s+8)/8=off/8+3+2*s by unfold bkKey;omega]at this;exact this
theorem BOk.err(hb:BOk D off)(h:IsDev w v own D):Calls Tryz.prog 289 #[.pointer (some ⟨v.tb 0,0,none⟩)] w fun r w'=>r = .returned (.int .i64 0)∧w=w':=by
 have:=err_any h (j:=0) (by omega);rw[hb.er]at this;exact this
theorem BOk.check(hb:BOk D off)(h:IsDev w v own D):Calls Tryz.prog 190 #[.agg #[.iface 40 (.pointer (some ⟨v.tb 0,0,none⟩)),.int .u64 off]] w fun r w'=>r = .returned (.int .i64 0)∧Below w.heap.size w w':=by
 have:=check31_ok h off hb.h8 hb.hl;rw[hb.er]at this;exact this
theorem BOk.loadH(hb:BOk D off)(h:IsDev w v own D):Calls Tryz.prog 290 #[.pointer (some ⟨v.tb 0,0,none⟩),.int .u64 off] w fun r w'=>r = .returned (.int .u64 (bkH D.cur off:Nat))∧w=w':=by
 have hl:=hb.hl;have:=load_ok h (j:=0) (by omega) off hb.of hb.h8 (by omega);rw[show D.cur (off/8)=((bkH D.cur off:Nat):Int)by unfold bkH;have:=hb.vb.cur (off/8);omega]at this;exact this
theorem commit31_any{w0:World}(pv:Value)(l:List (Nat×Nat×Int))(o:Nat)(x:Int)(ho:o<18446744073709551616)(hp:Acc w0 w0.heap.size w 73 3 pv l.length (instrC l))(hl:l.length≤1000) :
  Calls Tryz.prog 163 #[pv,.int .u64 o,.int .u64 x] w fun r w'=>∃ v',r = .returned v'∧Acc w0 w0.heap.size w' 73 3 v' (l++storesL [(o,x)]).length (instrC (l++storesL [(o,x)])):=by
 obtain⟨i0,hi0,hz0,hz1,hz2⟩:=info_parts infoInstr;have I:=Lib.hid (And.intro hi0 (And.intro hz0 (And.intro hz1 hz2)));clear hi0 hz0 hz1 hz2
 obtain⟨pa,pc,hpv⟩:=hp.own.slice;subst hpv;have HP:=Lib.hid hp;clear hp
 have HLO:=Lib.hid (fun wx=>lineOf31_any (w:=wx) o ho);rw[stores1]
 generalize 64*(o/64)=q at *
 go_enter Tryz.func163,Tryz.ntmps163
 go_wp2_with fail
 (with_reducible refine(HLO.out _).mono ?_)
 rintro e w' ⟨rfl,rfl⟩;go_wp2_with (at_builtin;refine wpList_append_sl _ rfl _ _ 37 rfl 73 i0 _ 3 24 Tryz.underlying37 I.out.1 I.out.2.1 I.out.2.2.1 I.out.2.2.2 rfl (by decide) _ l.length (instrC l) rfl (by exact HP.out.own.alloc _) _ 3 (instrC [(1,o,x),(2,q,0),(3,0,0)]) rfl (by exact RdSl.newAt _ _ _ 3 3 _ rfl rfl) (instrC_one _) (by unfold maxLen;omega) (by omega) ?_)
 intro v1 w1 o1 g1 b1 n1;have O1:=Lib.hid (And.intro o1 (And.intro g1 b1));clear o1 g1 b1 n1
 obtain⟨va,vc,hv⟩:=O1.out.1.slice;go_wp2_with fail
 go_ret
 refine⟨v1,rfl,?_⟩
 have:=HP.out.next (below_alloc _ _) O1.out.1 O1.out.2.1 O1.out.2.2 (by simp);rw[List.length_append,instrC_append];exact this
def ProgP(w:World)(l:List (Nat×Nat×Int))(e:Int)(r:Ending)(w':World):Prop:=
 ∃ pv,r = .returned (.tuple #[pv,.int .i64 e])∧Acc w w.heap.size w' 73 3 pv l.length (instrC l)
end
end
end Go.Proofs.YtlhchkajjpefmaaGreatDoor
