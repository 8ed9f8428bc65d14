/- Lemmas and walks, part 14: each theorem says what it proves; no condition beside its own. -/
import Derived.Test.YtlhchkajjpefmaaGreatDoorK13
set_option maxHeartbeats 16000000
set_option maxRecDepth 100000
namespace Go.Proofs.YtlhchkajjpefmaaGreatDoor
open Lib(hid)
open Go.RowKit Go.Proofs.Tryz
section
section
variable{P:Program}{ops:Array Oper}{Q:Exit->Act->World->Prop}{md:Region.Mode}{S:World->Prop}
theorem Qb{i:Nat}{oi:Oper}{fuel:Nat}{listed:Array Bool}{a:Act}{w:World}(hr:Region.ready md ops listed = [i])(hi:ops[i]? = some oi)(hw:Region.wanted oi (yielded ops a.tmps)=true)
  (h:∀ K:Act->World->Prop,(∀ a' w',S w'/\wpAnyH P md ops Q S fuel (listed.setIfInBounds i true) a' w'->K a' w')->oi.wp P a w K Q):wpAnyH P md ops Q S (fuel+1) listed a w:=
 wpAnyH_all hr (by simp) (fun j hj=>by
  rw[List.mem_singleton]at hj;subst hj;unfold wpOp;simp only[hi,hw,if_true];exact .inl (h _ (fun _ _ hk=>hk)))
theorem tkH(i:Nat)(v:Value){oi:Oper}{fuel:Nat}{listed:Array Bool}{a:Act}{w:World}(hi:ops[i]? = some oi)(hy:∀ w,S w->(execOp a.eval oi).run P w = .ok (.value v) w)(hS:S w)
  (h:wpAnyH P md ops Q S fuel (listed.setIfInBounds i true) (a.put oi.dst v) w)
  (hb:(Region.noSelect ops&&(Region.free md ops listed i&&((Region.ready md ops listed).contains i&&Region.wanted oi (yielded ops a.tmps))))=true:=by kernel_rfl)
  (hQ:∀ c a w,Q (.panic c) (a.put oi.dst v) w->Q (.panic c) a w:=by exact fun _ _ _ h=>h):wpAnyH P md ops Q S (fuel+1) listed a w:=by
 simp only[Bool.and_eq_true]at hb;exact wpAnyH_take hi hb.1 hb.2.1 hb.2.2.1 hQ (.inl ⟨hb.2.2.2,hy⟩) hS h
theorem offH(i:Nat){oi:Oper}{fuel:Nat}{listed:Array Bool}{a:Act}{w:World}(hi:ops[i]? = some oi)(hS:S w)
  (h:wpAnyH P md ops Q S fuel (listed.setIfInBounds i true) (a.put oi.dst undef) w)
  (hb:(Region.noSelect ops&&(Region.free md ops listed i&&((Region.ready md ops listed).contains i && !Region.wanted oi (yielded ops a.tmps))))=true:=by kernel_rfl)
  (hQ:∀ c a w,Q (.panic c) (a.put oi.dst undef) w->Q (.panic c) a w:=by exact fun _ _ _ h=>h):wpAnyH P md ops Q S (fuel+1) listed a w:=by
 simp only[Bool.and_eq_true,Bool.not_eq_true']at hb;exact wpAnyH_take hi hb.1 hb.2.1 hb.2.2.1 hQ (.inr ⟨hb.2.2.2,rfl⟩) hS h
theorem onH(i:Nat){oi:Oper}{fuel:Nat}{listed:Array Bool}{a:Act}{w:World}(hi:ops[i]? = some oi)
  (h:∀ K:Act->World->Prop,(∀ a' w',S w'/\wpAnyH P md ops Q S fuel (listed.setIfInBounds i true) a' w'->K a' w')->oi.wp P a w K Q)
  (hr:Region.ready md ops listed = [i]:=by kernel_rfl) (hw:Region.wanted oi (yielded ops a.tmps)=true:=by kernel_rfl):wpAnyH P md ops Q S (fuel+1) listed a w:=
 Qb hr hi hw h
theorem Ym{o:Oper}{ev:Operand->Value}{w:World}(ty:TypeId)(x:Operand)(ho:o.op = .load ty x)
  (g:Nat) (hx:ev x = .pointer (some ⟨g,0,none⟩)) (t:TypeId) (cs:Array Value) (fr:Nat×Nat) (d:TypeDesc) (hg:w.heap[g]? = some (.cells cs t fr))
  (hu:P.underlying ty=some d) (hd:(match d with | .struct _ | .array _ _=>true | _=>false)=true) (hi:(P.info? ty).map (·.size)=some cs.size) :
  (execOp ev o).run P w = .ok (.value (.agg cs)) w:=by
 unfold execOp;simp only[ho,hx,Instr.loadAt,Instr.sureAddr,Sem.run_bind,Sem.run_pure,Result.andThen_ok,run_loadVar_row w g t ty cs fr d hg hu hd hi]
end
end

section
theorem Nr(a:Addr)(w:World):(nilAhead 461 40 (.pointer (some a)) "Load").run prog w = .ok (some false) w:=by kernel_rfl
theorem Qhh:(Tryz.prog.info? 147).map (·.size)=some 2:=by kernel_rfl
structure Bx1(w:World)(c:Array Value)(t:TypeId)(wx:World):Prop where
 blk:Blk wx w.heap.size c t
 bel:Below w.heap.size w wx
theorem Bx1.start(w:World)(c:Array Value)(t:TypeId):Bx1 w c t (w.alloc (.cells c t)):=⟨Blk.new w c t,Qa w _⟩
theorem Bx1.next{w wx wy:World}{c:Array Value}{t:TypeId}(h:Bx1 w c t wx)(hb:Below wx.heap.size wx wy):Bx1 w c t wy:=⟨h.blk.below hb,h.bel.trans (hb.mono h.bel.size)⟩
theorem Xg{o:Oper}{ev:Operand->Value}{w:World}(ty:TypeId)(x:Operand)(ho:o.op = .load ty x)
  (a:Addr) (hx:ev x = .pointer (some a)) (u:Value) (hc:w.cell? a=some u) (hd:(isAgg ty).run prog w = .ok false w):(execOp ev o).run prog w = .ok (.value u) w:=by
 unfold execOp;simp only[ho,hx,Instr.loadAt,Instr.sureAddr,Sem.run_bind,Sem.run_pure,Result.andThen_ok,loadVar,hd];simp[go_sem,hc]
theorem Qg0(w:World):(isAgg 90).run prog w = .ok false w:=by kernel_rfl
section
variable{w:World}{v:DV}{own:Nat->Option Qp}{D:Dev}
theorem Vm(off s:Nat)(hs:s<7)(hl:off+128<=18446744073709551616):Calls prog 164 #[.agg #[.iface 40 (.pointer (some ⟨v.tb 0,0,none⟩)),.int .u64 off],.int .i64 s] w fun r w'=>r = .returned (.int .u64 (Qg off s:Nat))/\Below w.heap.size w w':=by
 have hb:=Qa w (.cells #[.iface 40 (.pointer (some ⟨v.tb 0,0,none⟩)),.int .u64 off] 147);have HB:=hid hb;have he:((Qg off s:Nat):Int)=(off:Int)+16*((s:Int)+1):=by unfold Qg;omega
 have e1:IntKind.u64.wrap ((s:Int)+1)=(s:Int)+1:=IntWalk.u64_in _ (by omega);have e2:IntKind.u64.wrap (16*((s:Int)+1))=16*((s:Int)+1):=IntWalk.u64_in _ (by omega);have e3:IntKind.u64.wrap ((off:Int)+16*((s:Int)+1))=(off:Int)+16*((s:Int)+1):=IntWalk.u64_in _ (by omega);rw[he];clear hb he
 go_enter func164,ntmps164
 go_wp2_with fail
 go_ret
 exact⟨rfl,HB.out⟩
theorem My(h:IsDev w v own D)(off:Nat)(h8:off%8=0)(hl:off+128<=64*D.n):Calls prog 190 #[.agg #[.iface 40 (.pointer (some ⟨v.tb 0,0,none⟩)),.int .u64 off]] w fun r w'=>r = .returned (.int .i64 (D.err 0))/\Below w.heap.size w w':=by
 have hm1:=meth_Size ⟨v.tb 0,0,none⟩;have hm2:=meth_Err ⟨v.tb 0,0,none⟩
 have H:=hid h;have HT:=hid (fun wx (hx:IsDev wx v own D)=>thrSize_any hx (j:=0) (by omega));have HER:=hid (fun wx (hx:IsDev wx v own D)=>err_any hx (j:=0) (by omega));have HB:=hid (Qa w (.cells #[.iface 40 (.pointer (some ⟨v.tb 0,0,none⟩)),.int .u64 off] 147));have hn:=h.wf.le;have e1:(off:Int)%8=0:=by omega
 have e2:¬ (D.n:Int)*64<128:=by omega
 have e3:IntKind.u64.wrap ((D.n:Int)*64-128)=(D.n:Int)*64-128:=IntWalk.u64_in _ (by omega);have e4:¬ (D.n:Int)*64-128<(off:Int):=by omega
 clear h
 go_enter func190,ntmps190
 go_wp2_with fail
 (with_reducible refine(HT.out _ (H.out.alloc _)).mono ?_)
 rintro e w' ⟨rfl,rfl⟩;go_wp2_with fail
 (with_reducible refine(HER.out _ (H.out.alloc _)).mono ?_)
 rintro e w' ⟨rfl,rfl⟩;go_wp2_with fail
 go_ret
 exact⟨rfl,HB.out⟩
theorem Qm0(h:IsDev w v own D)(hvb:D.VB)(hof:D.off=false)(he:D.err 0=0)(off k:Nat)(hk:k<18446744073709551616)(h8:off%8=0)(hl:off+128<=64*D.n) :
  Calls prog 162 #[.agg #[.iface 40 (.pointer (some ⟨v.tb 0,0,none⟩)),.int .u64 off],.int .u64 k] w fun r w'=>r = .returned (.tuple #[.int .u64 (bkH D.cur off:Nat),.int .i64 (Qhc D.cur off k),.int .i64 0])/\Below w.heap.size w w':=by
 have hm1:=meth_Load ⟨v.tb 0,0,none⟩;have hn1:=Nr ⟨v.tb 0,0,none⟩;have hm2:=meth_Err ⟨v.tb 0,0,none⟩
 have H:=hid h;have hck:=fun wx (hx:IsDev wx v own D)=>My hx off h8 hl
 rw[he]at hck;have HCK:=hid hck;have hn:=h.wf.le;have hld:=fun wx (hx:IsDev wx v own D)=>load_ok hx (j:=0) (by omega) off hof h8 (by omega)
 have hhd:D.cur (off/8)=((bkH D.cur off:Nat):Int):=by unfold bkH;have:=hvb.cur (off/8);omega
 have hhb:bkH D.cur off<18446744073709551616:=by unfold bkH;have:=hvb.cur (off/8);omega
 rw[hhd]at hld;have HLD:=hid hld;have her:=fun wx (hx:IsDev wx v own D)=>err_any hx (j:=0) (by omega)
 rw[he]at her;have HER:=hid her;have HMT:=hid (fun(wx:World) (s:Nat) (hs:s<7)=>Qfu (w:=wx) (bkH D.cur off) s k hhb hs hk);have HKA:=hid (fun(wx:World) (s:Nat) (hs:s<7)=>Vm (w:=wx) (v:=v) off s hs (by omega));have HLK:=hid (fun(wx:World) (hx:IsDev wx v own D) (s:Nat) (hs:s<7)=>(show Calls prog 290 #[.pointer (some ⟨v.tb 0,0,none⟩),.int .u64 (Qg off s:Nat)] wx fun r w'=>r = .returned (.int .u64 (bkK D.cur off s))/\wx=w' from by
  have:=load_ok hx (j:=0) (by omega) (Qg off s) hof (by unfold Qg;omega) (by unfold Qg;omega);rw[show Qg off s/8=off/8+2+2*s by unfold Qg;omega]at this;exact this))
 have HMB:Hid (∀ s,Q1p D.cur off k s=((Xf (bkH D.cur off) s&&(fpN (bkH D.cur off) s==Bu k%256))&&bkK D.cur off s==(k:Int))):=fun s=>rfl
 have HFI:Hid (Qhc D.cur off k=Vw (Q1p D.cur off k) 7):=rfl;have HKB:=hid (fun s=>hvb.cur (off/8+2+2*s));have hkb:Hid (∀ s,0<=bkK D.cur off s/\bkK D.cur off s<18446744073709551616):=fun s=>HKB.out s
 generalize bkH D.cur off=hd at *
 generalize Q1p D.cur off k=mt at *
 generalize Qhc D.cur off k=fi at *
 generalize hkk:bkK D.cur off=kk at *
 have X0:=hid (Bx1.start w #[.iface 40 (.pointer (some ⟨v.tb 0,0,none⟩)),.int .u64 off] 147);clear h hck hld her hvb hkk HKB hhd
 go_enter func162,ntmps162
 go_wp2_with fail
 (with_reducible refine(HCK.out _ (H.out.below X0.out.bel)).mono ?_)
 rintro e w1 ⟨rfl,b1⟩;have X1:=hid (X0.out.next b1);have c0:=X1.out.blk.cell (i:=0) (v:=.iface 40 (.pointer (some ⟨v.tb 0,0,none⟩))) rfl;have c1:=X1.out.blk.cell (i:=1) (v:=.int .u64 off) rfl;clear b1 X0 HCK;go_wp2_with fail
 (with_reducible refine(HLD.out _ (H.out.below X1.out.bel)).mono ?_)
 rintro e w' ⟨rfl,rfl⟩;clear c0 c1 HLD;go_wp2_with fail
 go_loopw [9,10] (fun f y wr=>∃ s:Nat,s<=7/\y = .int .i64 s/\f = .int .i64 (Vw mt s)/\Bx1 w #[.iface 40 (.pointer (some ⟨v.tb 0,0,none⟩)),.int .u64 off] 147 wr) (fun _ y _=>7-(intOf y).toNat)
 case atStart=>exact⟨0,by omega,rfl,rfl,X1.out⟩
 case round=>
  obtain⟨s,hs,rfl,rfl,hx⟩:=hrel;have X:=hid hx;clear hx X1;have c0:=X.out.blk.cell (i:=0) (v:=.iface 40 (.pointer (some ⟨v.tb 0,0,none⟩))) rfl;have c1:=X.out.blk.cell (i:=1) (v:=.int .u64 off) rfl
  by_cases hlt:s<7
  ·by_cases hf:Vw mt s<0
   ·have hs1:(s:Int)<7:=by omega
    have hfe:Vw mt (s+1)=if mt s then(s:Int)else Vw mt s:=by
     rcases Qnd mt s with ⟨h1,_⟩
     show(if 0<=Vw mt s then Vw mt s else if mt s then(s:Int)else -1)=_
     rw[if_neg (by omega),show Vw mt s = -1 by omega]
    have hbd:=(Qnd mt s).1;have HM:=hid (fun wx=>HMT.out wx s hlt);have HK:=hid (fun wx=>HKA.out wx s hlt);have HL:=hid (fun wx hx=>HLK.out wx hx s hlt);have hms:=HMB.out s;have hkk:=hkb.out s
    generalize kk s=ks at *
    generalize (Xf hd s&&(fpN hd s==Bu k%256))=mb at *
    have HFE:=hid hfe;have HMS:=hid hms;clear hfe hms HMT HKA HLK HMB hkb HFI
    generalize Vw mt s=fs at *
    go_wp2_with fail
    have X4:=hid (X.out.next ((Below.refl _ _).drew));clear c0 c1 X;refine wp_region_held (S:=(fun wx=>Bx1 w #[.iface 40 (.pointer (some ⟨v.tb 0,0,none⟩)),.int .u64 off] 147 wx)) (by kernel_rfl) ?_
    change wpAnyH _ _ _ _ _ _ _ _ (World.drew _)
    refine tkH 0 (.int .u64 (hd:Nat)) rfl (fun w _=>by go_simp) X4.out ?_
    refine tkH 1 (.int .i64 s) rfl (fun w _=>by go_simp) X4.out ?_
    refine tkH 2 (.int .u64 (k:Nat)) rfl (fun w _=>by go_simp) X4.out ?_
    refine onH 3 rfl (fun K hK => ?_);go_simp
    (with_reducible refine(HM.out _).mono ?_)
    rintro e w5 ⟨rfl,rfl⟩
    go_simp;refine hK _ _ ⟨X4.out,?_⟩;clear hK K
    refine onH 4 rfl (fun K hK => ?_);go_simp;refine hK _ _ ⟨X4.out,?_⟩;clear hK K
    cases mb
    case false=>
     refine offH 5 rfl X4.out ?_
     refine offH 6 rfl X4.out ?_
     refine offH 7 rfl X4.out ?_
     refine offH 8 rfl X4.out ?_
     refine offH 9 rfl X4.out ?_
     refine offH 10 rfl X4.out ?_
     refine offH 11 rfl X4.out ?_
     refine offH 12 rfl X4.out ?_
     refine offH 13 rfl X4.out ?_
     refine offH 14 rfl X4.out ?_
     refine onH 15 rfl (fun K hK => ?_);go_simp;refine hK _ _ ⟨X4.out,?_⟩;clear hK K
     refine wpAnyH_done (by kernel_rfl) ?_ _
     have hfe:=HFE.out;rw[HMS.out]at hfe;simp only[Bool.false_and,Bool.false_eq_true,if_false]at hfe;have HF2:=hid hfe;clear hfe;go_wp2_with fail
     go_roundw
     case rel=>exact⟨s+1,by omega,by go_num,by rw[HF2.out],X4.out⟩
     case measure=>simp[intOf];omega
    case true=>
     refine tkH 5 (.pointer (some ⟨w.heap.size,0,none⟩)) rfl (fun w _=>by go_simp) X4.out ?_
     refine tkH 8 (.int .i64 s) rfl (fun w _=>by go_simp) X4.out ?_
     refine tkH 13 (.int .u64 (k:Nat)) rfl (fun w _=>by go_simp) X4.out ?_
     refine tkH 6 (.iface 40 (.pointer (some ⟨v.tb 0,0,none⟩))) rfl (fun wx hx=>Xg 90 (.tmp 34) rfl ⟨w.heap.size,0,none⟩ rfl _ (hx.blk.cell (i:=0) (v:=.iface 40 (.pointer (some ⟨v.tb 0,0,none⟩))) rfl) (Qg0 _)) X4.out ?_
     refine tkH 7 (.agg #[.iface 40 (.pointer (some ⟨v.tb 0,0,none⟩)),.int .u64 off]) rfl (fun wx hx=>Ym 147 (.tmp 2) rfl w.heap.size rfl 147 #[.iface 40 (.pointer (some ⟨v.tb 0,0,none⟩)),.int .u64 off] (0,0) _ hx.blk underlying147 rfl Qhh) X4.out ?_
     refine tkH 10 (.iface 40 (.pointer (some ⟨v.tb 0,0,none⟩))) rfl (fun w _=>by go_simp) X4.out ?_
     refine tkH 11 (.iface 40 (.pointer (some ⟨v.tb 0,0,none⟩))) rfl (fun w _=>by go_simp) X4.out ?_
     refine onH 9 rfl (fun K hK => ?_);go_simp
     (with_reducible refine(HK.out _).mono ?_)
     rintro e w6 ⟨rfl,b6⟩;have X6:=hid (X4.out.next b6)
     go_simp;refine hK _ _ ⟨X6.out,?_⟩;clear hK K
     refine onH 12 rfl (fun K hK => ?_);go_simp
     (with_reducible refine(HL.out _ (H.out.below X6.out.bel)).mono ?_)
     rintro e w7 ⟨rfl,rfl⟩
     go_simp;refine hK _ _ ⟨X6.out,?_⟩;clear hK K
     refine onH 14 rfl (fun K hK => ?_);go_simp;refine hK _ _ ⟨X6.out,?_⟩;clear hK K
     refine onH 15 rfl (fun K hK => ?_);go_simp;refine hK _ _ ⟨X6.out,?_⟩;clear hK K
     refine wpAnyH_done (by kernel_rfl) ?_ _
     by_cases he:ks=(k:Int)
     ·have hb:(ks==(k:Int))=true:=by simpa using he
      have hfe:=HFE.out;rw[HMS.out,hb]at hfe;simp only[Bool.true_and,if_true]at hfe;have HF2:=hid hfe;clear hfe he;go_wp2_with fail
      go_roundw
      case rel=>exact⟨s+1,by omega,by go_num,by rw[HF2.out],X6.out⟩
      case measure=>simp[intOf];omega
     ·have hb:(ks==(k:Int))=false:=by simpa using he
      have hfe:=HFE.out;rw[HMS.out,hb]at hfe;simp only[Bool.true_and,Bool.false_eq_true,if_false]at hfe;have HF2:=hid hfe;clear hfe he;go_wp2_with fail
      go_roundw
      case rel=>exact⟨s+1,by omega,by go_num,by rw[HF2.out],X6.out⟩
      case measure=>simp[intOf];omega
   ·have hs1:(s:Int)<7:=by omega
    have hfi:Vw mt 7=Vw mt s:=Qne (by omega) 7 (by omega);rw[hfi]at HFI;have HF2:=hid HFI.out;clear hfi HFI
    generalize Vw mt s=fs at *
    go_wp2_with fail
    (with_reducible refine(HER.out _ (H.out.below X.out.bel)).mono ?_)
    rintro e w' ⟨rfl,rfl⟩;go_wp2_with fail
    go_ret3
    exact⟨by simp[HF2.out],X.out.bel⟩
  ·obtain rfl:s=7:=by omega
   have HF2:=hid HFI.out;clear HFI
   generalize Vw mt 7=fs at *
   go_wp2_with fail
   (with_reducible refine(HER.out _ (H.out.below X.out.bel)).mono ?_)
   rintro e w' ⟨rfl,rfl⟩;go_wp2_with fail
   go_ret3
   exact⟨by simp[HF2.out],X.out.bel⟩
end
end

section
def rfB(C:Nat->Int)(off k s:Nat):Bool:=Xf (bkH C off) s&&bkK C off s==(k:Int)
structure Gk(C:Nat->Int)(off:Nat):Prop where
 bd:∀ i,0<=C i/\C i<18446744073709551616
 fp:∀ s,s<7->Xf (bkH C off) s=true->fpN (bkH C off) s=Bu (bkK C off s).toNat%256
 one:∀ s t,s<7->t<7->Xf (bkH C off) s=true->Xf (bkH C off) t=true->bkK C off s=bkK C off t->s=t
theorem Gk.hd{C:Nat->Int}{off:Nat}(h:Gk C off):bkH C off<18446744073709551616:=by have:=h.bd (off/8);unfold bkH;omega
theorem Gk.zero{off:Nat}(C:Nat->Int)(h:∀ i,0<=C i/\C i<18446744073709551616)(h0:C (off/8)=0):Gk C off:=by
 have e:bkH C off=0:=by unfold bkH;rw[h0];rfl
 refine⟨h,fun s _ hu => ?_,fun s t _ _ hu => ?_⟩
 ·rw[e,Ib]at hu;cases hu
 ·rw[e,Ib]at hu;cases hu
theorem Qna{C:Nat->Int}{off:Nat}(h:Gk C off)(k:Nat):Qhc C off k=Vw (rfB C off k) 7:=by
 refine Qja 7 fun s hs => ?_
 unfold Q1p rfB
 cases hu:Xf (bkH C off) s
 ·simp
 ·by_cases e:bkK C off s=(k:Int)
  ·have:=h.fp s hs hu
   rw[e]at this;simp only[Int.toNat_natCast]at this;rw[this,e];simp
  ·rw[beq_eq_false_iff_ne.2 e];simp
def Qq4(C:Nat->Int)(off s:Nat)(v:Int):Nat->Int:=fun i=>if off/8+3+2*s=i then v else C i
def Qq2(C:Nat->Int)(off s:Nat)(k v:Int)(hd:Nat):Nat->Int:=fun i=>if off/8=i then(hd:Int)else if off/8+3+2*s=i then v else if off/8+2+2*s=i then k else C i
def Qkd(C:Nat->Int)(off k:Nat)(v:Int):Nat->Int:=
 if 0<=Vw (rfB C off k) 7 then Qq4 C off (Vw (rfB C off k) 7).toNat v
 else if 0<=Qff (bkH C off)then Qq2 C off (Qff (bkH C off)).toNat k v (Yy (bkH C off) (Qff (bkH C off)).toNat k)else C
def Qdk(C:Nat->Int)(off k:Nat):Int:=if 0<=Vw (rfB C off k) 7 then 0 else if 0<=Qff (bkH C off)then 0 else 4
def Rm(C:Nat->Int)(off k:Nat)(v:Int):List (Nat×Nat×Int):=
 if 0<=Vw (rfB C off k) 7 then Qes off (Vw (rfB C off k) 7).toNat v
 else if 0<=Qff (bkH C off)then Ud off (Qff (bkH C off)).toNat k v (Yy (bkH C off) (Qff (bkH C off)).toNat k)else []
def Qxb(C:Nat->Int)(off k:Nat):Int:=if 0<=Vw (rfB C off k) 7 then bkV C off (Vw (rfB C off k) 7).toNat else 0
def Qxa(C:Nat->Int)(off k:Nat):Int:=if 0<=Vw (rfB C off k) 7 then 0 else 5
theorem Qz9(C:Nat->Int)(off s:Nat)(v:Int):bkH (Qq4 C off s v) off=bkH C off:=by unfold bkH Qq4;rw[if_neg (by omega)]
theorem Qv4(C:Nat->Int)(off s t:Nat)(v:Int):bkK (Qq4 C off s v) off t=bkK C off t:=by unfold bkK Qq4;rw[if_neg (by omega)]
theorem Qq7(C:Nat->Int)(off s:Nat)(k v:Int)(hd:Nat):bkH (Qq2 C off s k v hd) off=hd:=by unfold bkH Qq2;rw[if_pos rfl];rfl
theorem Qv3(C:Nat->Int)(off s t:Nat)(k v:Int)(hd:Nat):bkK (Qq2 C off s k v hd) off t=if t=s then k else bkK C off t:=by
 unfold bkK Qq2;rw[if_neg (by omega),if_neg (by omega)]
 by_cases e:t=s
 ·rw[if_pos (by omega),if_pos e]
 ·rw[if_neg (by omega),if_neg e]
section
variable{C:Nat->Int}{off:Nat}
theorem Vj(C:Nat->Int)(off k:Nat):(Vw (rfB C off k) 7 = -1/\∀ t,t<7->rfB C off k t=false)\/∃ s,Vw (rfB C off k) 7=(s:Nat)/\s<7/\Xf (bkH C off) s=true/\bkK C off s=(k:Int):=by
 rcases Sg (rfB C off k) 7 with h | ⟨s,h1,h2,h3,_⟩
 ·exact .inl h
 ·unfold rfB at h3
  rw[Bool.and_eq_true,beq_iff_eq]at h3;exact .inr ⟨s,h1,h2,h3.1,h3.2⟩
theorem Sf(h:Nat):(Qff h = -1/\∀ t,t<7->Xf h t=true)\/∃ s,Qff h=(s:Nat)/\s<7/\Xf h s=false:=by
 rcases Sg (fun s => !Xf h s) 7 with ⟨h1,h2⟩ | ⟨s,h1,h2,h3,_⟩
 ·exact .inl ⟨h1,fun t ht=>by simpa using h2 t ht⟩
 ·exact .inr ⟨s,h1,h2,by simpa using h3⟩
theorem Gk.rep(h:Gk C off)(s:Nat){v:Int}(hv:0<=v/\v<18446744073709551616):Gk (Qq4 C off s v) off:=by
 refine⟨fun i => ?_,fun t ht hu => ?_,fun a b ha hb hu hw he => ?_⟩
 ·unfold Qq4;split
  ·exact hv
  ·exact h.bd i
 ·rw[Qz9]at hu ⊢;rw[Qv4];exact h.fp t ht hu
 ·rw[Qz9]at hu hw;rw[Qv4,Qv4]at he;exact h.one a b ha hb hu hw he
theorem Gk.new(h:Gk C off){k:Nat}{v:Int}{s:Nat}(hs:s<7)(hk:k<18446744073709551616)(hv:0<=v/\v<18446744073709551616)(hno:∀ t,t<7->rfB C off k t=false):Gk (Qq2 C off s k v (Yy (bkH C off) s k)) off:=by
 refine⟨fun i => ?_,fun t ht hu => ?_,fun a b ha hb hu hw he => ?_⟩
 ·have:=Qho h.hd hs k
  unfold Qq2;repeat' split
  ·omega
  ·exact hv
  ·omega
  ·exact h.bd i
 ·rw[Qq7,Lo _ _ _ _ hs ht]at hu
  rw[Qq7,Qsi _ _ _ _ hs ht,Qv3]
  by_cases e:t=s
  ·rw[if_pos e,if_pos e];rfl
  ·rw[if_neg e,if_neg e]
   rw[decide_eq_false e,Bool.false_or]at hu;exact h.fp t ht hu
 ·rw[Qq7,Lo _ _ _ _ hs ha]at hu
  rw[Qq7,Lo _ _ _ _ hs hb]at hw;rw[Qv3,Qv3]at he;have hn:∀ t,t<7->Xf (bkH C off) t=true->bkK C off t=(k:Int)->False:=fun t ht hu e=>by
   have:=hno t ht;unfold rfB at this;rw[hu,e]at this;simp at this
  by_cases e1:a=s
  ·by_cases e2:b=s
   ·omega
   ·rw[if_pos e1,if_neg e2]at he
    rw[decide_eq_false e2,Bool.false_or]at hw;exact(hn b hb hw he.symm).elim
  ·by_cases e2:b=s
   ·rw[if_neg e1,if_pos e2]at he
    rw[decide_eq_false e1,Bool.false_or]at hu;exact(hn a ha hu he).elim
   ·rw[if_neg e1,if_neg e2]at he
    rw[decide_eq_false e1,Bool.false_or]at hu;rw[decide_eq_false e2,Bool.false_or]at hw;exact h.one a b ha hb hu hw he
theorem Gk.put(h:Gk C off){k:Nat}{v:Int}(hk:k<18446744073709551616)(hv:0<=v/\v<18446744073709551616):Gk (Qkd C off k v) off:=by
 unfold Qkd
 rcases Vj C off k with ⟨e,hno⟩ | ⟨s,e,_,_⟩
 ·rw[if_neg (by omega)]
  rcases Sf (bkH C off)with ⟨e2,_⟩ | ⟨s,e2,hs,_⟩
  ·rw[if_neg (by omega)];exact h
  ·rw[if_pos (by omega),e2];exact h.new hs hk hv hno
 ·rw[if_pos (by omega)];exact h.rep _ hv
end
section
variable{D:Dev}{n x:Nat}{C:Nat->Int}{off:Nat}
theorem BCl.put(h:BCl D n C x)(h8:off%8=0)(hl:off+128<=64*n){k:Nat}{v:Int}(hk:k<18446744073709551616)(hv:0<=v/\v<18446744073709551616)(hh:bkH C off<18446744073709551616) :
  BCl (D.run 0 (Rm C off k v)) n (Qkd C off k v) (x+9):=by
 unfold Rm Qkd
 rcases Vj C off k with ⟨e,_⟩ | ⟨s,e,hs,_⟩
 ·rw[e,if_neg (show ¬ (0:Int) <= -1 by decide),if_neg (show ¬ (0:Int) <= -1 by decide)]
  rcases Sf (bkH C off)with ⟨e2,_⟩ | ⟨s,e2,hs,_⟩
  ·rw[e2,if_neg (show ¬ (0:Int) <= -1 by decide),if_neg (show ¬ (0:Int) <= -1 by decide)];exact h.mono (by omega)
  ·rw[e2,if_pos (show(0:Int)<=(s:Nat)by omega),if_pos (show(0:Int)<=(s:Nat)by omega)]
   exact h.new h8 hs hl ⟨by omega,by omega⟩ hv (Qho hh hs k)
 ·rw[e,if_pos (show(0:Int)<=(s:Nat)by omega),if_pos (show(0:Int)<=(s:Nat)by omega)]
  have:=h.one (o:=Qg off s+8) (v:=v) (by unfold Qg;omega) (by unfold Qg;omega) hv;rw[show(Qg off s+8)/8=off/8+3+2*s by unfold Qg;omega]at this;exact this.mono (by omega)
end
def Qt9(C:Nat->Int)(off s:Nat):List (Int×Int):=if Xf (bkH C off) s then [(bkK C off s,bkV C off s)]else []
def Th(C:Nat->Int)(off k:Nat):List (Int×Int):=(List.range k).flatMap (Qt9 C off)
theorem Aw(C:Nat->Int)(off k:Nat):Th C off (k+1)=Th C off k++Qt9 C off k:=by
 unfold Th;rw[List.range_succ,List.flatMap_append];simp
theorem Qg6(C:Nat->Int)(off:Nat):∀ k,(Th C off k).length=((List.range k).filter (Xf (bkH C off))).length:=by
 intro k
 induction k with
 | zero=>rfl
 | succ k ih=>
  rw[Aw,List.range_succ,List.filter_append,List.length_append,List.length_append,ih];unfold Qt9
  cases h:Xf (bkH C off) k <;> simp[h]
theorem Qe9(C:Nat->Int)(off:Nat):∀ k,(Th C off k).length<=k:=by
 intro k;rw[Qg6];exact Nat.le_trans (List.length_filter_le _ _) (by simp)
def Xj(l:List (Nat×Nat×Int))(C:Nat->Int):Nat->Int:=l.foldl (fun C e=>if e.1=1 then fun i=>if e.2.1/8=i then e.2.2 else C i else C) C
theorem Qc4(C:Nat->Int):Xj [] C=C:=rfl
theorem Kx(e:Nat×Nat×Int)(l:List (Nat×Nat×Int))(C:Nat->Int):Xj (e::l) C=Xj l (if e.1=1 then fun i=>if e.2.1/8=i then e.2.2 else C i else C):=rfl
theorem Kb(l m:List (Nat×Nat×Int))(C:Nat->Int):Xj (l++m) C=Xj m (Xj l C):=by unfold Xj;rw[List.foldl_append]
end

section
section
variable{w:World}{v:DV}{own:Nat->Option Qp}{D:Dev}
end
end

section
structure BOk(D:Dev)(off:Nat):Prop where
 vb:D.VB
 of:D.off=false
 er:D.err 0=0
 h8:off%8=0
 hl:off+128<=64*D.n
theorem Qg1(w:World):(isAgg 31).run prog w = .ok false w:=by kernel_rfl
section
variable{w:World}{v:DV}{own:Nat->Option Qp}{D:Dev}{off:Nat}
theorem BOk.bd(h:BOk D off):bkH D.cur off<18446744073709551616:=by have:=h.vb.cur (off/8);unfold bkH;omega
theorem BOk.find(hb:BOk D off)(h:IsDev w v own D)(k:Nat)(hk:k<18446744073709551616) :
  Calls prog 162 #[.agg #[.iface 40 (.pointer (some ⟨v.tb 0,0,none⟩)),.int .u64 off],.int .u64 k] w fun r w'=>r = .returned (.tuple #[.int .u64 (bkH D.cur off:Nat),.int .i64 (Qhc D.cur off k),.int .i64 0])/\Below w.heap.size w w':=
 Qm0 h hb.vb hb.of hb.er off k hk hb.h8 hb.hl
theorem BOk.loadV(hb:BOk D off)(h:IsDev w v own D)(s:Nat)(hs:s<7):Calls prog 290 #[.pointer (some ⟨v.tb 0,0,none⟩),.int .u64 ((Qg off s:Nat)+8:Int)] w fun r w'=>r = .returned (.int .u64 (bkV D.cur off s))/\w=w':=by
 have hl:=hb.hl;have h8:=hb.h8
 have:=load_ok h (j:=0) (by omega) (Qg off s+8) hb.of (by unfold Qg;omega) (by unfold Qg;omega);rw[show(Qg off s+8)/8=off/8+3+2*s by unfold Qg;omega]at this;exact this
theorem BOk.err(hb:BOk D off)(h:IsDev w v own D):Calls prog 289 #[.pointer (some ⟨v.tb 0,0,none⟩)] w fun r w'=>r = .returned (.int .i64 0)/\w=w':=by
 have:=err_any h (j:=0) (by omega);rw[hb.er]at this;exact this
theorem BOk.check(hb:BOk D off)(h:IsDev w v own D):Calls prog 190 #[.agg #[.iface 40 (.pointer (some ⟨v.tb 0,0,none⟩)),.int .u64 off]] w fun r w'=>r = .returned (.int .i64 0)/\Below w.heap.size w w':=by
 have:=My h off hb.h8 hb.hl;rw[hb.er]at this;exact this
theorem BOk.loadH(hb:BOk D off)(h:IsDev w v own D):Calls prog 290 #[.pointer (some ⟨v.tb 0,0,none⟩),.int .u64 off] w fun r w'=>r = .returned (.int .u64 (bkH D.cur off:Nat))/\w=w':=by
 have hl:=hb.hl;have:=load_ok h (j:=0) (by omega) off hb.of hb.h8 (by omega);rw[show D.cur (off/8)=((bkH D.cur off:Nat):Int)by unfold bkH;have:=hb.vb.cur (off/8);omega]at this;exact this
theorem Qjb(h:IsDev w v own D)(hb:BOk D off)(k:Nat)(hk:k<18446744073709551616)(hf:Qhc D.cur off k = -1) :
  Calls prog 176 #[.agg #[.iface 40 (.pointer (some ⟨v.tb 0,0,none⟩)),.int .u64 off],.int .u64 k] w fun r w'=>r = .returned (.tuple #[.int .u64 0,.int .i64 5])/\Below w.heap.size w w':=by
 have HF:=hid (fun wx (hx:IsDev wx v own D)=>hf ▸ hb.find hx k hk);have H:=hid h;have X0:=hid (Bx1.start w #[.iface 40 (.pointer (some ⟨v.tb 0,0,none⟩)),.int .u64 off] 147)
 generalize bkH D.cur off=hd at *
 clear h hf
 go_enter func176,ntmps176
 go_wp2_with fail
 (with_reducible refine(HF.out _ (H.out.below X0.out.bel)).mono ?_)
 rintro e w1 ⟨rfl,b1⟩;have X1:=hid (X0.out.next b1);clear b1;go_wp2_with fail
 go_ret2
 exact⟨rfl,X1.out.bel⟩
theorem Qjc(h:IsDev w v own D)(hb:BOk D off)(k:Nat)(hk:k<18446744073709551616)(s:Nat)(hs:s<7)(hf:Qhc D.cur off k=(s:Nat)) :
  Calls prog 176 #[.agg #[.iface 40 (.pointer (some ⟨v.tb 0,0,none⟩)),.int .u64 off],.int .u64 k] w fun r w'=>r = .returned (.tuple #[.int .u64 (bkV D.cur off s),.int .i64 0])/\Below w.heap.size w w':=by
 have hm1:=meth_Load ⟨v.tb 0,0,none⟩;have hn1:=Nr ⟨v.tb 0,0,none⟩;have hm2:=meth_Err ⟨v.tb 0,0,none⟩
 have HF:=hid (fun wx (hx:IsDev wx v own D)=>hf ▸ hb.find hx k hk);have hl:=hb.hl;have hn:=h.wf.le
 have HK:=hid (fun(wx:World)=>Vm (w:=wx) (v:=v) off s hs (by omega));have HL:=hid (fun wx (hx:IsDev wx v own D)=>hb.loadV hx s hs);have HER:=hid (fun wx (hx:IsDev wx v own D)=>hb.err hx);have hkb:Qg off s+8<18446744073709551616:=by unfold Qg;omega
 have hkw:IntKind.u64.wrap ((Qg off s:Nat)+8:Int)=(Qg off s:Nat)+8:=IntWalk.u64_in _ (by omega);have H:=hid h;have X0:=hid (Bx1.start w #[.iface 40 (.pointer (some ⟨v.tb 0,0,none⟩)),.int .u64 off] 147)
 generalize bkH D.cur off=hd at *
 generalize bkV D.cur off s=bv at *
 generalize Qg off s=bk at *
 clear h hf
 go_enter func176,ntmps176
 go_wp2_with fail
 (with_reducible refine(HF.out _ (H.out.below X0.out.bel)).mono ?_)
 rintro e w1 ⟨rfl,b1⟩;have X1:=hid (X0.out.next b1);clear b1;go_wp2_with fail
 have X4:=hid (X1.out.next ((Below.refl _ _).drew));clear X1;refine wp_region_held (S:=(fun wx=>Bx1 w #[.iface 40 (.pointer (some ⟨v.tb 0,0,none⟩)),.int .u64 off] 147 wx)) (by kernel_rfl) ?_
 change wpAnyH _ _ _ _ _ _ _ _ (World.drew _)
 refine tkH 0 (.pointer (some ⟨w.heap.size,0,none⟩)) rfl (fun w _=>by go_simp) X4.out ?_
 refine tkH 3 (.int .i64 s) rfl (fun w _=>by go_simp) X4.out ?_
 refine tkH 1 (.iface 40 (.pointer (some ⟨v.tb 0,0,none⟩))) rfl (fun wx hx=>Xg 90 (.tmp 23) rfl ⟨w.heap.size,0,none⟩ rfl _ (hx.blk.cell (i:=0) (v:=.iface 40 (.pointer (some ⟨v.tb 0,0,none⟩))) rfl) (Qg0 _)) X4.out ?_
 refine tkH 2 (.agg #[.iface 40 (.pointer (some ⟨v.tb 0,0,none⟩)),.int .u64 off]) rfl (fun wx hx=>Ym 147 (.tmp 2) rfl w.heap.size rfl 147 #[.iface 40 (.pointer (some ⟨v.tb 0,0,none⟩)),.int .u64 off] (0,0) _ hx.blk underlying147 rfl Qhh) X4.out ?_
 refine tkH 6 (.iface 40 (.pointer (some ⟨v.tb 0,0,none⟩))) rfl (fun w _=>by go_simp) X4.out ?_
 refine tkH 7 (.iface 40 (.pointer (some ⟨v.tb 0,0,none⟩))) rfl (fun w _=>by go_simp) X4.out ?_
 refine onH 4 rfl (fun K hK => ?_);go_simp
 (with_reducible refine(HK.out _).mono ?_)
 rintro e w6 ⟨rfl,b6⟩;have X6:=hid (X4.out.next b6)
 go_simp;refine hK _ _ ⟨X6.out,?_⟩;clear hK K
 refine onH 5 rfl (fun K hK => ?_);go_simp;refine hK _ _ ⟨X6.out,?_⟩;clear hK K
 refine onH 8 rfl (fun K hK => ?_);go_simp
 (with_reducible refine(HL.out _ (H.out.below X6.out.bel)).mono ?_)
 rintro e w7 ⟨rfl,rfl⟩
 go_simp;refine hK _ _ ⟨X6.out,?_⟩;clear hK K
 refine onH 9 rfl (fun K hK => ?_);go_simp;refine hK _ _ ⟨X6.out,?_⟩;clear hK K
 refine wpAnyH_done (by kernel_rfl) ?_ _
 have c0:=X6.out.blk.cell (i:=0) (v:=.iface 40 (.pointer (some ⟨v.tb 0,0,none⟩))) rfl;go_wp2_with fail
 (with_reducible refine(HER.out _ (H.out.below X6.out.bel)).mono ?_)
 rintro e w7 ⟨rfl,rfl⟩;go_wp2_with fail
 go_ret2
 exact⟨rfl,X6.out.bel⟩
theorem Qo1(x:Fin 128):Calls prog 232 #[.int .u64 ((x.val:Nat):Int)] w fun r w'=>r = .returned (.int .i64 (((List.range 7).filter (Xf x.val)).length:Nat))/\w=w':=by
 go_enter func232,ntmps232
 go_wp2_with fail
 go_ret
 refine⟨Xm ?_,rfl⟩
 revert x
 decide +kernel
theorem Qww(h:Nat):Qk9 h=Qk9 (h%128):=by
 unfold Qk9
 congr 1
 refine List.filter_congr fun s hs => ?_
 have hs:s<7:=List.mem_range.1 hs;unfold Xf
 congr 1
 refine Nat.eq_of_testBit_eq fun i => ?_
 rw[Ug,Ug,show(128:Nat)=2 ^ 7 from rfl,Nat.testBit_mod_two_pow]
 by_cases hi:i<1
 ·have:s+i<7:=by omega
  simp[this]
 ·simp[hi]
theorem Qqo(h:Nat):Calls prog 217 #[.int .u64 (fld h 0 7:Nat)] w fun r w'=>r = .returned (.int .i64 (Qk9 h:Nat))/\w=w':=by
 have e:fld h 0 7=h%128:=by unfold fld;simp
 have HO:=hid (fun wx=>Qo1 (w:=wx) ⟨h%128,Nat.mod_lt _ (by decide)⟩);have HC:=hid (Qww h);rw[e];unfold Qk9 at HC;simp only at HO
 generalize h%128=y at *
 unfold Qk9;rw[HC.out];clear HC e
 generalize (List.filter (Xf y) (List.range 7)).length=cn at *
 go_enter func217,ntmps217
 go_wp2_with fail
 (with_reducible refine(HO.out _).mono ?_)
 rintro e w1 ⟨rfl,rfl⟩;go_wp2_with fail
 go_ret
 exact⟨rfl,rfl⟩
theorem Na(h:IsDev w v own D)(hb:BOk D off):Calls prog 177 #[.agg #[.iface 40 (.pointer (some ⟨v.tb 0,0,none⟩)),.int .u64 off]] w fun r w'=>r = .returned (.int .i64 (Qk9 (bkH D.cur off):Nat))/\Below w.heap.size w w':=by
 have hm1:=meth_Load ⟨v.tb 0,0,none⟩;have hm2:=meth_Err ⟨v.tb 0,0,none⟩
 have HCK:=hid (fun wx (hx:IsDev wx v own D)=>hb.check hx);have HL:=hid (fun wx (hx:IsDev wx v own D)=>hb.loadH hx);have HER:=hid (fun wx (hx:IsDev wx v own D)=>hb.err hx);have HF:=hid (fun wx=>Tg (w:=wx) (bkH D.cur off) 0 7 hb.bd (.inr (.inl rfl)) (by omega));rw[show((0:Nat):Int)=0 from rfl,show((7:Nat):Int)=7 from rfl]at HF;have HO:=hid (fun wx=>Qqo (w:=wx) (bkH D.cur off))
 generalize fld (bkH D.cur off) 0 7=f1 at *
 generalize Qk9 (bkH D.cur off)=cn at *
 have H:=hid h;have X0:=hid (Bx1.start w #[.iface 40 (.pointer (some ⟨v.tb 0,0,none⟩)),.int .u64 off] 147)
 generalize bkH D.cur off=hd at *
 clear h
 go_enter func177,ntmps177
 go_wp2_with fail
 (with_reducible refine(HCK.out _ (H.out.below X0.out.bel)).mono ?_)
 rintro e w1 ⟨rfl,b1⟩;have X1:=hid (X0.out.next b1);have c0:=X1.out.blk.cell (i:=0) (v:=.iface 40 (.pointer (some ⟨v.tb 0,0,none⟩))) rfl;have c1:=X1.out.blk.cell (i:=1) (v:=.int .u64 off) rfl;clear b1 X0;go_wp2_with fail
 (with_reducible refine(HL.out _ (H.out.below X1.out.bel)).mono ?_)
 rintro e w' ⟨rfl,rfl⟩;go_wp2_with fail
 (with_reducible refine(HER.out _ (H.out.below X1.out.bel)).mono ?_)
 rintro e w' ⟨rfl,rfl⟩;go_wp2_with fail
 (with_reducible refine(HF.out _).mono ?_)
 rintro e w' ⟨rfl,rfl⟩;go_wp2_with fail
 (with_reducible refine(HO.out _).mono ?_)
 rintro e w' ⟨rfl,rfl⟩;go_wp2_with fail
 go_ret
 exact⟨rfl,X1.out.bel⟩
theorem Vi{w0:World}(pv:Value)(l:List (Nat×Nat×Int))(o:Nat)(x:Int)(ho:o<18446744073709551616)(hp:Acc w0 w0.heap.size w 73 3 pv l.length (Qd l))(hl:l.length<=1000) :
  Calls prog 163 #[pv,.int .u64 o,.int .u64 x] w fun r w'=>∃ v',r = .returned v'/\Acc w0 w0.heap.size w' 73 3 v' (l++Qe [(o,x)]).length (Qd (l++Qe [(o,x)])):=by
 obtain⟨i0,hi0,hz0,hz1,hz2⟩:=info_parts Xs;have I:=hid (And.intro hi0 (And.intro hz0 (And.intro hz1 hz2)));clear hi0 hz0 hz1 hz2
 obtain⟨pa,pc,hpv⟩:=hp.own.slice;subst hpv;have HP:=hid hp;clear hp
 have HLO:=hid (fun wx=>Zo (w:=wx) o ho);rw[stores1]
 generalize 64*(o/64)=q at *
 go_enter func163,ntmps163
 go_wp2_with fail
 (with_reducible refine(HLO.out _).mono ?_)
 rintro e w' ⟨rfl,rfl⟩;go_wp2_with (at_builtin;refine Qc _ rfl _ _ 37 rfl 73 i0 _ 3 24 underlying37 I.out.1 I.out.2.1 I.out.2.2.1 I.out.2.2.2 rfl (by decide) _ l.length (Qd l) rfl (by exact HP.out.own.alloc _) _ 3 (Qd [(1,o,x),(2,q,0),(3,0,0)]) rfl (by exact Ql.newAt _ _ _ 3 3 _ rfl rfl) (Zn _) (by unfold maxLen;omega) (by omega) ?_)
 intro v1 w1 o1 g1 b1 n1;have O1:=hid (And.intro o1 (And.intro g1 b1));clear o1 g1 b1 n1
 obtain⟨va,vc,hv⟩:=O1.out.1.slice;go_wp2_with fail
 go_ret
 refine⟨v1,rfl,?_⟩
 have:=HP.out.next (Qa _ _) O1.out.1 O1.out.2.1 O1.out.2.2 (by simp);rw[List.length_append,Zv];exact this
def Ij(w:World)(l:List (Nat×Nat×Int))(e:Int)(r:Ending)(w':World):Prop:=
 ∃ pv,r = .returned (.tuple #[pv,.int .i64 e])/\Acc w w.heap.size w' 73 3 pv l.length (Qd l)
end
end
end Go.Proofs.YtlhchkajjpefmaaGreatDoor
