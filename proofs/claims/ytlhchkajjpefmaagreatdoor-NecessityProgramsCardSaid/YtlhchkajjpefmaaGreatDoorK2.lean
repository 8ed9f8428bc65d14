/- Lemmas and walks, part 2: each theorem says what it proves; no condition beside its own. -/
import Derived.Test.YtlhchkajjpefmaaGreatDoorK1
import Derived.Test.YtlhchkajjpefmaaGreatDoorRows
import Derived.StillTailTactics
import Derived.BigQuiet
set_option maxHeartbeats 16000000
set_option maxRecDepth 100000
namespace Go.Proofs.YtlhchkajjpefmaaGreatDoor
open Lib(hid)
open Go.RowKit Go.Proofs.Tryz
section
open Go.Maps
theorem Q6x:Keyed prog 3:=int_keyed underlying3
structure IsDev(w:World)(v:DV)(own:Nat->Option Qp)(D:Dev):Prop where
 wf:D.WF
 dev:Blk w v.db (Zm v D) 88
 pers:Row w v.pb (8*D.n) 31 (fun i => .int .u64 (D.pers i))
 cur:Row w v.cb (8*D.n) 31 (fun i => .int .u64 (D.cur i))
 lines:∃ hv:Nat->Value,Row w v.lb (2*D.n) 119 (fun j=>if j%2=0 then .int .u64 (D.done (j/2))else hv (j/2))/\∀ i,i<D.n->Lr w own 140 i (hv i) (D.hist i)
 thr:∀ j,j<8->Blk w (v.tb j) (Ja v D j) 113
 notes:∀ j,j<8->Vr prog 3 31 w (v.nb j) D.exec (D.note j)
 odb:own v.db=some .dev
 opb:own v.pb=some .pers
 ocb:own v.cb=some .cur
 olb:own v.lb=some .lines
 otb:∀ j,j<8->own (v.tb j)=some (.thr j)
 onb:∀ j,j<8->own (v.nb j)=some (.notes j)
 lt:∀ k,own k≠none->k<w.heap.size
 pcs:8*D.n<=v.pc/\8*D.n<=v.cc
def Qr(v:DV)(own:Nat->Option Qp)(w:World)(D':Dev)(w':World):Prop:=
 ∃ own',IsDev w' v own' D'/\(∀ k,k<w.heap.size->own' k=own k)/\Upd (fun k=>own k≠none) w w'
theorem Qr.refl{v:DV}{own:Nat->Option Qp}{w:World}{D:Dev}(h:IsDev w v own D):Qr v own w D w:=⟨own,h,fun _ _=>rfl,Upd.refl _ _⟩
theorem Qr.trans{v:DV}{own own1:Nat->Option Qp}{w w1 w2:World}{D2:Dev}(hs:w.heap.size<=w1.heap.size)(ho:∀ k,k<w.heap.size->own1 k=own k)(hu:Upd (fun k=>own k≠none) w w1)
  (h:Qr v own1 w1 D2 w2):Qr v own w D2 w2:=by
 obtain⟨own2,h1,h2,h3⟩:=h;exact⟨own2,h1,fun k hk=>(h2 k (Nat.lt_of_lt_of_le hk hs)).trans (ho k hk),hu.trans h3 (fun i hi hS=>by rw[<- ho i hi];exact hS)⟩
theorem Zf{own:Nat->Option Qp}{a b:Nat}{x y:Qp}(ha:own a=some x)(hb:own b=some y)(h:x≠y):a≠b:=by
 rintro rfl;rw[ha]at hb;exact h (Option.some.inj hb)
section
variable{w:World}{v:DV}{own:Nat->Option Qp}{D:Dev}
theorem Vr.kept{P:Program}{kt et:TypeId}{w w':World}{b B B':Nat}{f:Nat->Option Nat}(h:Vr P kt et w b B f)(hB:B<=B')(hb:w'.heap[b]? = w.heap[b]?):Vr P kt et w' b B' f:=by
 obtain⟨m,N,h1,h2,h3⟩:=h;refine⟨m,N,Nat.le_trans h1 hB,?_,h3⟩
 unfold World.ownsMap at *;rw[hb];exact h2
theorem IsDev.kept{w':World}(h:IsDev w v own D)(hs:w.heap.size<=w'.heap.size)(hb:∀ k,own k≠none->w'.heap[k]? = w.heap[k]?):IsDev w' v own D:=by
 have hB:∀ k c t,own k≠none->Blk w k c t->Blk w' k c t:=fun k c t hk hc=>(hb k hk).trans hc
 have hR:∀ k n t f,own k≠none->Row w k n t f->Row w' k n t f:=fun k n t f hk ⟨c,h1,h2⟩=>⟨c,hB k c t hk h1,h2⟩
 obtain⟨hv,l1,l2⟩:=h.lines;exact {
  wf:=h.wf
  dev:=hB _ _ _ (by simp[h.odb]) h.dev
  pers:=hR _ _ _ _ (by simp[h.opb]) h.pers
  cur:=hR _ _ _ _ (by simp[h.ocb]) h.cur
  lines:=⟨hv,hR _ _ _ _ (by simp[h.olb]) l1,fun i hi=>(l2 i hi).mono (fun _ hg _=>hg) (fun g hg _=>hb g (by simp[hg]))⟩
  thr:=fun j hj=>hB _ _ _ (by simp[h.otb j hj]) (h.thr j hj)
  notes:=fun j hj=>(h.notes j hj).kept (Nat.le_refl _) (hb _ (by simp[h.onb j hj]))
  odb:=h.odb,opb:=h.opb,ocb:=h.ocb,olb:=h.olb,otb:=h.otb,onb:=h.onb
  lt:=fun k hk=>Nat.lt_of_lt_of_le (h.lt k hk) hs
  pcs:=h.pcs}
theorem IsDev.upd{w':World}{S:Nat->Prop}(h:IsDev w v own D)(hu:Upd S w w')(hS:∀ k,own k≠none->¬ S k):IsDev w' v own D:=
 h.kept hu.size (fun k hk=>hu.block k (h.lt k hk) (hS k hk))
theorem IsDev.alloc(h:IsDev w v own D)(o:Obj):IsDev (w.alloc o) v own D:=h.kept (by simp) (fun k hk=>Below.heap_alloc _ _ _ (h.lt k hk))
theorem IsDev.drew(h:IsDev w v own D):IsDev w.drew v own D:=h.kept (Nat.le_refl _) (fun _ _=>rfl)
theorem IsDev.setDev(h:IsDev w v own D)(i:Nat)(u:Value)(D':Dev)(hw:D'.WF)(hc:(Zm v D).setIfInBounds i u=Zm v D')
  (hn:D'.n=D.n) (hp:D'.pers=D.pers) (hh:D'.hist=D.hist) (hd:D'.done=D.done) (he:D'.err=D.err) (hno:D'.note=D.note) (hx:D.exec<=D'.exec) :
  IsDev (w.setCell ⟨v.db,i,none⟩ u) v own D':=by
 have ne:∀ k,own k≠some .dev->k≠v.db:=fun k hk e=>hk (by rw[e];exact h.odb)
 obtain⟨hv,l1,l2⟩:=h.lines;exact {
  wf:=hw
  dev:=by rw[<- hc];exact h.dev.set i u
  pers:=by rw[hn,hp];exact h.pers.other (ne _ (by simp[h.opb])) u
  cur:=by
   have:D'.cur=D.cur:=by funext i;simp[Dev.cur,hh,hp]
   rw[hn,this];exact h.cur.other (ne _ (by simp[h.ocb])) u
  lines:=⟨hv,by rw[hn,hd];exact l1.other (ne _ (by simp[h.olb])) u,fun i hi=>by
   rw[hh];exact(l2 i (hn ▸ hi)).mono (fun _ hg _=>hg) (fun g hg _=>Below.heap_setCell _ _ _ _ (ne g (by simp[hg])))⟩
  thr:=fun j hj=>by
   have:Ja v D' j=Ja v D j:=by simp[Ja,he]
   rw[this];exact(h.thr j hj).other (ne _ (by simp[h.otb j hj])) u
  notes:=fun j hj=>by rw[hno];exact(h.notes j hj).kept hx (Below.heap_setCell _ _ _ _ (ne _ (by simp[h.onb j hj])))
  odb:=h.odb,opb:=h.opb,ocb:=h.ocb,olb:=h.olb,otb:=h.otb,onb:=h.onb
  lt:=fun k hk=>by simpa [World.setCell]using h.lt k hk
  pcs:=by rw[hn];exact h.pcs}
theorem IsDev.setErr(h:IsDev w v own D){j:Nat}(hj:j<8)(e:Int):IsDev (w.setCell ⟨v.tb j,2,none⟩ (.int .i64 e)) v own (D.setErr j e):=by
 have ne:∀ k,own k≠some (.thr j)->k≠v.tb j:=fun k hk e=>hk (by rw[e];exact h.otb j hj)
 obtain⟨hv,l1,l2⟩:=h.lines;exact {
  wf:=⟨h.wf.pos,h.wf.le,h.wf.line,h.wf.cnt,h.wf.note,h.wf.left⟩
  dev:=h.dev.other (ne _ (by simp[h.odb])) _
  pers:=h.pers.other (ne _ (by simp[h.opb])) _
  cur:=h.cur.other (ne _ (by simp[h.ocb])) _
  lines:=⟨hv,l1.other (ne _ (by simp[h.olb])) _,fun i hi=>(l2 i hi).mono (fun _ hg _=>hg) (fun g hg _=>Below.heap_setCell _ _ _ _ (ne g (by simp[hg])))⟩
  thr:=fun k hk=>by
   by_cases ek:k=j
   ·subst ek
    have:=(h.thr k hk).set 2 (.int .i64 e);simpa [Ja,Dev.setErr]using this
   ·have:Ja v (D.setErr j e) k=Ja v D k:=by simp[Ja,Dev.setErr,ek]
    rw[this];exact(h.thr k hk).other (ne _ (by simp[h.otb k hk,ek])) _
  notes:=fun k hk=>(h.notes k hk).kept (Nat.le_refl _) (Below.heap_setCell _ _ _ _ (ne _ (by simp[h.onb k hk])))
  odb:=h.odb,opb:=h.opb,ocb:=h.ocb,olb:=h.olb,otb:=h.otb,onb:=h.onb
  lt:=fun k hk=>by simpa [World.setCell]using h.lt k hk
  pcs:=h.pcs}
theorem It(h:IsDev w v own D){j:Nat}(hj:j<8)(e:Int) :
  Calls prog 139 #[.pointer (some ⟨v.tb j,0,none⟩),.int .i64 e] w fun r w'=>r = .returned (.tuple #[])/\Qr v own w (D.fail j e) w':=by
 have c2:w.cell? ⟨v.tb j,2,none⟩=some (.int .i64 (D.err j)):=(h.thr j hj).cell rfl;have f2:=(h.thr j hj).frozen 2;have H:=hid h;clear h
 by_cases he:D.err j=0
 ·have hb:(D.err j==0)=true:=by simp[he]
  have He:=hid he;clear he
  go_enter func139,ntmps139
  go_wp2
  go_end0
  refine⟨rfl,own,?_,fun _ _=>rfl,(Upd.refl _ _).setCell (fun _=>by simp[H.out.otb j hj]) _⟩
  simp only[Dev.fail,He.out,if_true];exact H.out.setErr hj e
 ·have hb:(D.err j==0)=false:=by simp[he]
  have He:=hid he;clear he
  go_enter func139,ntmps139
  go_wp2
  go_end0
  refine⟨rfl,?_⟩
  simp only[Dev.fail,He.out,if_false];exact Qr.refl H.out
theorem Ul(h:IsDev w v own D):Calls prog 140 #[.pointer (some ⟨v.db,0,none⟩)] w fun r w'=>r = .returned (.int .i64 D.n)/\w=w':=by
 have c2:w.cell? ⟨v.db,2,none⟩=some (.slice (some ⟨v.lb,0,none⟩) D.n D.n):=h.dev.cell rfl;clear h
 go_enter func140,ntmps140
 go_wp2
 go_ret
 exact⟨rfl,rfl⟩
theorem Me(h:IsDev w v own D):Calls prog 54 #[.pointer (some ⟨v.db,0,none⟩)] w fun r w'=>r = .returned (.int .u64 (D.n*64))/\w=w':=by
 have hn:=h.wf.le;have H:=hid h;clear h
 go_enter func54,ntmps54
 go_wp2_with (go_at_call 140;refine(Ul H.out).mono ?_;rintro e w' ⟨rfl,rfl⟩)
 go_ret
 exact⟨rfl,rfl⟩
theorem Qx{a b:Bool}(h:a=b):Ending.returned (.bool a) = .returned (.bool b):=by rw[h]
theorem Xm{k:IntKind}{a b:Int}(h:a=b):Ending.returned (.int k a) = .returned (.int k b):=by rw[h]
theorem Mm(h:IsDev w v own D){j:Nat}(hj:j<8)(off:Nat) :
  Calls prog 52 #[.pointer (some ⟨v.tb j,0,none⟩),.int .u64 off] w fun r w'=>r = .returned (.bool (D.wordB off))/\w=w':=by
 have c0:w.cell? ⟨v.tb j,0,none⟩=some (.pointer (some ⟨v.db,0,none⟩)):=(h.thr j hj).cell rfl;have hn:=h.wf.le;have H:=hid h;clear h
 by_cases h8:off%8=0
 ·have hb:(((off:Int)%8)==0)=true:=by simp;omega
  go_enter func52,ntmps52
  go_wp2_with (go_at_call 54;refine(Me H.out).mono ?_;rintro e w' ⟨rfl,rfl⟩)
  go_ret
  exact⟨Qx (by simp only[Dev.wordB,decide_eq_decide];omega),rfl⟩
 ·have hb:(((off:Int)%8)==0)=false:=by simp;omega
  go_enter func52,ntmps52
  go_wp2_with (go_at_call 54;refine(Me H.out).mono ?_;rintro e w' ⟨rfl,rfl⟩)
  go_ret
  exact⟨Qx (by simp[Dev.wordB,h8]),rfl⟩
theorem Qde(h:IsDev w v own D){j:Nat}(hj:j<8)(ho:D.off=false) :
  Calls prog 138 #[.pointer (some ⟨v.tb j,0,none⟩),.bool true] w fun r w'=>r = .returned (.bool true)/\w=w':=by
 have c0:w.cell? ⟨v.tb j,0,none⟩=some (.pointer (some ⟨v.db,0,none⟩)):=(h.thr j hj).cell rfl;have c1:w.cell? ⟨v.db,11,none⟩=some (.bool D.off):=h.dev.cell rfl;rw[ho]at c1;clear ho h
 go_enter func138,ntmps138
 go_wp2_with fail
 go_ret
 exact⟨rfl,rfl⟩
theorem Q2c(h:IsDev w v own D){j:Nat}(hj:j<8)(b:Bool)(hb:D.onB b=false) :
  Calls prog 138 #[.pointer (some ⟨v.tb j,0,none⟩),.bool b] w fun r w'=>r = .returned (.bool false)/\Qr v own w (D.onD j b) w':=by
 have c0:w.cell? ⟨v.tb j,0,none⟩=some (.pointer (some ⟨v.db,0,none⟩)):=(h.thr j hj).cell rfl;have c1:w.cell? ⟨v.db,11,none⟩=some (.bool D.off):=h.dev.cell rfl;have H:=hid h;clear h
 have Hb:=hid hb;clear hb
 have ho:D.off=true\/D.off=false:=by cases D.off <;> simp
 rcases ho with ho | ho
 ·have Ho:=hid ho
  rw[ho]at c1;clear ho
  go_enter func138,ntmps138
  go_wp2_with (go_at_call 139;refine(It H.out hj _).mono ?_;rintro e w' ⟨rfl,hp⟩;have Hp:=hid hp;clear hp)
  go_ret
  refine⟨rfl,?_⟩
  simp only[Dev.onD,Ho.out,if_true];exact Hp.out
 ·have Ho:=hid ho
  rw[ho]at c1;have hbf:b=false:=by have:=Hb.out;simpa [Dev.onB,ho]using this
  clear ho;subst hbf
  go_enter func138,ntmps138
  go_wp2_with (go_at_call 139;refine(It H.out hj _).mono ?_;rintro e w' ⟨rfl,hp⟩;have Hp:=hid hp;clear hp)
  go_ret
  refine⟨rfl,?_⟩
  simp only[Dev.onD,Ho.out,if_false,Bool.false_eq_true];exact Hp.out
theorem Dev.WF.off(h:D.WF)(b:Bool):({D with off:=b}:Dev).WF:=⟨h.pos,h.le,h.line,h.cnt,h.note,h.left⟩
theorem Dev.WF.tick(h:D.WF):D.tick.WF:=⟨h.pos,h.le,h.line,fun i hi=>Nat.le_succ_of_le (h.cnt i hi),h.note,by
 have:=h.left;simp only[Dev.tick];split <;> omega⟩
theorem IsDev.tickArmed(h:IsDev w v own D)(ha:D.armed=true)(hl:0<D.left):IsDev ((w.setCell ⟨v.db,13,none⟩ (.int .i64 ((D.left:Int)-1))).setCell ⟨v.db,14,none⟩ (.int .u64 ((D.exec:Int)+1))) v own D.tick:=by
 have h1:=h.setDev 13 (.int .i64 ((D.left:Int)-1)) {D with left:=D.left-1} ⟨h.wf.pos,h.wf.le,h.wf.line,h.wf.cnt,h.wf.note,by have:=h.wf.left;show D.left-1<=_;omega⟩
  (by have:((D.left-1:Nat):Int)=(D.left:Int)-1:=by omega
      simp[Zm,this]) rfl rfl rfl rfl rfl rfl (Nat.le_refl _)
 have h2:=h1.setDev 14 (.int .u64 ((D.exec:Int)+1)) D.tick h.wf.tick (by simp[Zm,Dev.tick,ha]) rfl rfl rfl rfl rfl rfl (Nat.le_succ _);exact h2
theorem IsDev.tickPlain(h:IsDev w v own D)(ha:D.armed=false):IsDev (w.setCell ⟨v.db,14,none⟩ (.int .u64 ((D.exec:Int)+1))) v own D.tick:=
 h.setDev 14 (.int .u64 ((D.exec:Int)+1)) D.tick h.wf.tick (by simp[Zm,Dev.tick,ha]) rfl rfl rfl rfl rfl rfl (Nat.le_succ _)
theorem IsDev.turnOff(h:IsDev w v own D):IsDev (w.setCell ⟨v.db,11,none⟩ (.bool true)) v own {D with off:=true}:=
 h.setDev 11 (.bool true) {D with off:=true} (h.wf.off true) (by simp[Zm]) rfl rfl rfl rfl rfl rfl (Nat.le_refl _)
theorem Tx(h:IsDev w v own D){j:Nat}(hj:j<8)(hx:D.exec<4611686018427387904)(hb:D.countedB true=true) :
  Calls prog 51 #[.pointer (some ⟨v.tb j,0,none⟩),.bool true] w fun r w'=>r = .returned (.bool true)/\IsDev w' v own D.tick/\(∀ k,k≠v.db->w'.heap[k]? = w.heap[k]?)/\Upd (fun k=>own k≠none) w w':=by
 have c0:w.cell? ⟨v.tb j,0,none⟩=some (.pointer (some ⟨v.db,0,none⟩)):=(h.thr j hj).cell rfl;have c12:w.cell? ⟨v.db,12,none⟩=some (.bool D.armed):=h.dev.cell rfl;have c13:w.cell? ⟨v.db,13,none⟩=some (.int .i64 D.left):=h.dev.cell rfl;have c14:w.cell? ⟨v.db,14,none⟩=some (.int .u64 D.exec):=h.dev.cell rfl;have f13:=h.dev.frozen 13;have f14:=h.dev.frozen 14;have hl:=h.wf.left;simp only[Dev.countedB,Dev.onB,Bool.and_true,Bool.and_eq_true,Bool.not_eq_true',Dev.cut]at hb;obtain⟨hoff,hcut⟩:=hb;have H:=hid h;have Hoff:=hid hoff;clear h hoff
 have hu:∀ (w':World) p u,p.block=v.db->Upd (fun k=>own k≠none) w w'->Upd (fun k=>own k≠none) w (w'.setCell p u):=fun w' p u hp hw=>hw.setCell (fun _=>by rw[hp];simp[H.out.odb]) u
 have ha:D.armed=true\/D.armed=false:=by cases D.armed <;> simp
 rcases ha with ha | ha
 ·have hl0:0<D.left:=by rw[ha]at hcut;simp at hcut;omega
  have hlb:((D.left:Int)==0)=false:=by simp;omega
  have Ha:=hid ha;rw[ha]at c12;clear ha hcut
  have Hu:=hid hu;clear hu
  go_enter func51,ntmps51
  go_wp2_with (go_at_call 138;refine(Qde H.out hj Hoff.out).mono ?_;rintro e w' ⟨rfl,rfl⟩)
  go_ret
  exact⟨rfl,H.out.tickArmed Ha.out hl0,fun k hk=>(Below.heap_setCell _ _ _ _ hk).trans (Below.heap_setCell _ _ _ _ hk),Hu.out _ _ _ rfl (Hu.out _ _ _ rfl (Upd.refl _ _))⟩
 ·have Ha:=hid ha
  rw[ha]at c12;clear ha hcut
  have Hu:=hid hu;clear hu
  go_enter func51,ntmps51
  go_wp2_with (go_at_call 138;refine(Qde H.out hj Hoff.out).mono ?_;rintro e w' ⟨rfl,rfl⟩)
  go_ret
  exact⟨rfl,H.out.tickPlain Ha.out,fun k hk=>Below.heap_setCell _ _ _ _ hk,Hu.out _ _ _ rfl (Upd.refl _ _)⟩
theorem Nb(h:IsDev w v own D){j:Nat}(hj:j<8)(b:Bool)(hb:D.countedB b=false) :
  Calls prog 51 #[.pointer (some ⟨v.tb j,0,none⟩),.bool b] w fun r w'=>r = .returned (.bool false)/\Qr v own w (D.countedD j b) w':=by
 have c0:w.cell? ⟨v.tb j,0,none⟩=some (.pointer (some ⟨v.db,0,none⟩)):=(h.thr j hj).cell rfl;have c12:w.cell? ⟨v.db,12,none⟩=some (.bool D.armed):=h.dev.cell rfl;have c13:w.cell? ⟨v.db,13,none⟩=some (.int .i64 D.left):=h.dev.cell rfl;have c11:w.cell? ⟨v.db,11,none⟩=some (.bool D.off):=h.dev.cell rfl;have f11:=h.dev.frozen 11;have H:=hid h;have Hb:=hid hb;clear h hb
 by_cases hon:D.onB b=true
 ·have hbt:b=true/\D.off=false:=by simpa [Dev.onB,and_comm]using hon
  obtain⟨rfl,hoff⟩:=hbt;have hcut:D.armed=true/\D.left=0:=by have:=Hb.out;simpa [Dev.countedB,hon,Dev.cut]using this
  have Hc:Hid (D.cut=true):=by show D.cut=true;simp[Dev.cut,hcut.1,hcut.2]
  have Hon:=hid hon;have Hoff:=hid hoff
  rw[hcut.1]at c12;rw[hcut.2]at c13;clear hcut hon hoff
  go_enter func51,ntmps51
  go_wp2_with (first | (go_at_call 138;refine(Qde H.out hj Hoff.out).mono ?_;rintro e w' ⟨rfl,rfl⟩) | (go_at_call 139;refine(It H.out.turnOff hj _).mono ?_;rintro e w' ⟨rfl,hp⟩;have Hp:=hid hp;clear hp))
  go_ret
  refine⟨rfl,?_⟩
  simp only[Dev.countedD,Hon.out,Hc.out,if_true];exact Qr.trans (by simp[World.setCell]) (fun _ _=>rfl) ((Upd.refl _ _).setCell (fun _=>by simp[H.out.odb]) _) Hp.out
 ·have Hon:=hid hon
  have Hf:Hid (D.onB b=false):=by show D.onB b=false;simpa using hon
  clear hon
  go_enter func51,ntmps51
  go_wp2_with (go_at_call 138;refine(Q2c H.out hj _ Hf.out).mono ?_;rintro e w' ⟨rfl,hp⟩;have Hp:=hid hp;clear hp)
  go_ret
  refine⟨rfl,?_⟩
  simp only[Dev.countedD,Hf.out,if_false,Bool.false_eq_true];exact Hp.out
end
end
section
open Go.Maps
section
variable{w:World}{v:DV}{own:Nat->Option Qp}{D:Dev}
theorem err_any(h:IsDev w v own D){j:Nat}(hj:j<8) :
  Calls prog 289 #[.pointer (some ⟨v.tb j,0,none⟩)] w fun r w'=>r = .returned (.int .i64 (D.err j))/\w=w':=by
 have c0:w.cell? ⟨v.tb j,0,none⟩=some (.pointer (some ⟨v.db,0,none⟩)):=(h.thr j hj).cell rfl;have c2:w.cell? ⟨v.tb j,2,none⟩=some (.int .i64 (D.err j)):=(h.thr j hj).cell rfl;clear h
 go_enter func289,ntmps289
 go_wp2
 go_ret
 exact⟨rfl,rfl⟩
theorem thrSize_any(h:IsDev w v own D){j:Nat}(hj:j<8) :
  Calls prog 291 #[.pointer (some ⟨v.tb j,0,none⟩)] w fun r w'=>r = .returned (.int .u64 (D.n*64))/\w=w':=by
 have c0:w.cell? ⟨v.tb j,0,none⟩=some (.pointer (some ⟨v.db,0,none⟩)):=(h.thr j hj).cell rfl;have H:=hid h;clear h
 go_enter func291,ntmps291
 go_wp2_with (go_at_call 54;refine(Me H.out).mono ?_;rintro e w' ⟨rfl,rfl⟩)
 go_ret
 exact⟨rfl,rfl⟩
theorem Td(h:IsDev w v own D){j:Nat}(hj:j<8) :
  Calls prog 11 #[.pointer (some ⟨v.db,0,none⟩),.int .i64 j] w fun r w'=>r = .returned (.pointer (some ⟨v.tb j,0,none⟩))/\w=w':=by
 have c0:w.cell? ⟨v.db,3+j,none⟩=some (.pointer (some ⟨v.tb j,0,none⟩)):=h.dev.cell (Uz v D j hj);have h1:¬ (j:Int)<0:=by omega
 have h2:¬ (8:Int)<=j:=by omega
 clear h
 go_enter func11,ntmps11
 go_wp2
 go_ret
 exact⟨rfl,rfl⟩
theorem Qmg(h:IsDev w v own D){k:Nat}(hk:k<8*D.n):w.cell? ⟨v.cb,k,none⟩=some (.int .u64 (D.cur k)):=h.cur.cell hk
end
end
section
open Go.Maps
theorem Xe:(Tryz.prog.info? 140).map (fun i=>(i.zero,i.size,i.bytes))=some (some (.agg #[.int .u64 0,.int .u64 0]),2,16):=by kernel_rfl
section
variable{w:World}{v:DV}{own:Nat->Option Qp}{D:Dev}
theorem Wo(h:IsDev w v own D):∃ hv:Nat->Value,(∀ l,l<D.n->w.cell? ⟨v.lb,l*2,none⟩=some (.int .u64 (D.done l))/\w.cell? ⟨v.lb,l*2+1,none⟩=some (hv l)) /\
  ∀ i,i<D.n->Lr w own 140 i (hv i) (D.hist i):=by
 obtain⟨hv,l1,l2⟩:=h.lines;refine⟨hv,fun l hl=>⟨?_,?_⟩,l2⟩
 ·rw[l1.cell (i:=l*2) (by omega)];simp
 ·rw[l1.cell (i:=l*2+1) (by omega)];rw[if_neg (by omega),show(l*2+1)/2=l from by omega]
theorem Dev.put_cur(D:Dev)(off:Nat)(x:Int)(i:Nat):(D.put off x).cur i=if i=off/8 then x else D.cur i:=by
 simp only[Dev.cur,Dev.put]
 by_cases h:i/8=off/64
 ·rw[if_pos h,Xt]
  by_cases e:off/8=i
  ·simp[e]
  ·rw[if_neg (by simpa using e),if_neg (fun h=>e h.symm)]
 ·rw[if_neg h,if_neg (by omega)]
theorem IsDev.put_post(h:IsDev w v own D)(off:Nat)(x:Int)(_hoff:off<64*D.n)(h8:off%8=0)(hc:∀ i,i<D.n->D.done i+(D.hist i).length<D.exec)
  {w1:World} {v':Value} (ne1:∀ k r,own k=some r->r ≠ .hist (off/64)->w1.heap[k]? = w.heap[k]?) (hU:Upd (fun k=>own k≠none) w w1)
  (ho1:Qj w1 140 2 v' ((D.hist (off/64)).length+1) (Qv (D.hist (off/64)) ++ [.int .u64 off,.int .u64 x]))
  (hb1:∀ g,v'.ownBlock=some g->own g=some (.hist (off/64))\/w.heap.size<=g) :
  Qr v own w (D.put off x) ((w1.setCell ⟨v.lb,off/64*2+1,none⟩ v').setCell ⟨v.cb,off/8,none⟩ (.int .u64 x)):=by
 obtain⟨hv,l1,l2⟩:=h.lines;have hs:w.heap.size<=w1.heap.size:=hU.size;have wne:∀ k,k≠v.lb->k≠v.cb->((w1.setCell ⟨v.lb,off/64*2+1,none⟩ v').setCell ⟨v.cb,off/8,none⟩ (.int .u64 x)).heap[k]? = w1.heap[k]?:=fun k k1 k2=>
  (Below.heap_setCell _ _ _ _ k2).trans (Below.heap_setCell _ _ _ _ k1)
 have wn:∀ k r,own k=some r->r ≠ .hist (off/64)->r ≠ .lines->r ≠ .cur->((w1.setCell ⟨v.lb,off/64*2+1,none⟩ v').setCell ⟨v.cb,off/8,none⟩ (.int .u64 x)).heap[k]? = w.heap[k]?:=fun k r hk r1 r2 r3=>
  (wne k (Zf hk h.olb r2) (Zf hk h.ocb r3)).trans (ne1 k r hk r1)
 have bne:∀ g,v'.ownBlock=some g->g≠v.lb/\g≠v.cb:=fun g hg=>by
  rcases hb1 g hg with hg | hg
  ·exact⟨Zf hg h.olb (by simp),Zf hg h.ocb (by simp)⟩
  ·exact⟨fun e=>by have:=h.lt v.lb (by simp[h.olb]);omega,fun e=>by have:=h.lt v.cb (by simp[h.ocb]);omega⟩
 have lc:v.lb≠v.cb:=Zf h.olb h.ocb (by simp);refine⟨fun k=>if v'.ownBlock=some k/\w.heap.size<=k then some (.hist (off/64))else own k,?_,fun k hk=>if_neg (by omega),
  (hU.setCell (p:=⟨v.lb,off/64*2+1,none⟩) (fun _=>by simp[h.olb]) v').setCell (p:=⟨v.cb,off/8,none⟩) (fun _=>by simp[h.ocb]) _⟩
 have old:∀ k r,own k=some r->(if v'.ownBlock=some k/\w.heap.size<=k then some (.hist (off/64))else own k)=some r:=fun k r hk=>by
  rw[if_neg (fun e=>by have:=h.lt k (by simp[hk]);omega)];exact hk
 exact {
  wf:=⟨h.wf.pos,h.wf.le,fun i hi e he=>by
    simp only[Dev.put]at he
    split at he
    ·rename_i hi'
     rcases List.mem_append.1 he with he | he
     ·exact h.wf.line i hi e he
     ·simp at he;subst he;exact⟨hi'.symm,h8⟩
    ·exact h.wf.line i hi e he,
   fun i hi=>by
    have:=hc i hi;simp only[Dev.put]
    split <;> (try simp only[List.length_append,List.length_cons,List.length_nil]) <;> omega,
   fun j l p hp=>by
    have:=h.wf.note j l p hp;refine⟨this.1,?_⟩
    simp only[Dev.put]
    split <;> (try simp only[List.length_append,List.length_cons,List.length_nil]) <;> omega,h.wf.left⟩
  dev:=(wn _ _ h.odb (by simp) (by simp) (by simp)).trans h.dev
  pers:=by
   obtain⟨c,p1,p2⟩:=h.pers;exact⟨c,(wn _ _ h.opb (by simp) (by simp) (by simp)).trans p1,p2⟩
  cur:=by
   have:Row w1 v.cb (8*D.n) 31 (fun i => .int .u64 (D.cur i)):=by
    obtain⟨c,p1,p2⟩:=h.cur;exact⟨c,(ne1 _ _ h.ocb (by simp)).trans p1,p2⟩
   refine((this.other (a:=⟨v.lb,off/64*2+1,none⟩) (Ne.symm lc) v').set (off/8) (.int .u64 x)).congr (fun i _ => ?_)
   simp only[Dev.put_cur]
   split <;> rfl
  lines:=by
   have:Row w1 v.lb (2*D.n) 119 (fun j=>if j%2=0 then .int .u64 (D.done (j/2))else hv (j/2)):=by
    obtain⟨c,p1,p2⟩:=l1;exact⟨c,(ne1 _ _ h.olb (by simp)).trans p1,p2⟩
   refine⟨fun i=>if i=off/64 then v' else hv i,((this.set (off/64*2+1) v').other lc _).congr (fun i _ => ?_),fun i hi => ?_⟩
   ·simp only[Dev.put]
    by_cases e:i=off/64*2+1
    ·rw[if_pos e,if_neg (by omega),if_pos (by omega)]
    ·rw[if_neg e]
     by_cases e2:i%2=0
     ·rw[if_pos e2,if_pos e2]
     ·rw[if_neg e2,if_neg e2,if_neg (by omega)]
   ·simp only[Dev.put]
    by_cases e:i=off/64
    ·subst e
     simp only[if_true];refine⟨?_,fun g hg => ?_⟩
     ·rw[Za,List.length_append]
      exact ho1.kept (fun k hk=>wne k (bne k hk).1 (bne k hk).2)
     ·rcases hb1 g hg with hg' | hg'
      ·exact old g _ hg'
      ·simp[hg,hg']
    ·rw[if_neg e,if_neg e]
     exact(l2 i hi).mono (fun g hg _=>old g _ hg) (fun g hg _=>wn g _ hg (by simp[e]) (by simp) (by simp))
  thr:=fun j hj=>(wn _ _ (h.otb j hj) (by simp) (by simp) (by simp)).trans (h.thr j hj)
  notes:=fun j hj=>(h.notes j hj).kept (Nat.le_refl _) (wn _ _ (h.onb j hj) (by simp) (by simp) (by simp))
  odb:=old _ _ h.odb,opb:=old _ _ h.opb,ocb:=old _ _ h.ocb,olb:=old _ _ h.olb
  otb:=fun j hj=>old _ _ (h.otb j hj),onb:=fun j hj=>old _ _ (h.onb j hj)
  lt:=fun k hk=>by
   have e:((w1.setCell ⟨v.lb,off/64*2+1,none⟩ v').setCell ⟨v.cb,off/8,none⟩ (.int .u64 x)).heap.size=w1.heap.size:=by simp[World.setCell]
   rw[e]
   by_cases c:v'.ownBlock=some k/\w.heap.size<=k
   ·exact ho1.lt k c.1
   ·rw[if_neg c]at hk;exact Nat.lt_of_lt_of_le (h.lt k hk) hs
  pcs:=h.pcs}
theorem Qqu(h:IsDev w v own D){j:Nat}(hj:j<8)(off:Nat)(x:Int)(hx:D.exec<4611686018)(hoff:off<64*D.n)(h8:off%8=0)
  (hc:∀ i,i<D.n->D.done i+(D.hist i).length<D.exec) :
   Calls prog 53 #[.pointer (some ⟨v.tb j,0,none⟩),.int .u64 off,.int .u64 x] w fun r w'=>r = .returned (.tuple #[])/\Qr v own w (D.put off x) w':=by
 have c0:w.cell? ⟨v.tb j,0,none⟩=some (.pointer (some ⟨v.db,0,none⟩)):=(h.thr j hj).cell rfl;have c1:w.cell? ⟨v.db,1,none⟩=some (.slice (some ⟨v.cb,0,none⟩) (8*D.n) v.cc):=h.dev.cell rfl;have c2:w.cell? ⟨v.db,2,none⟩=some (.slice (some ⟨v.lb,0,none⟩) D.n D.n):=h.dev.cell rfl;have hn:=h.wf.le;obtain⟨hv,l1,l2⟩:=Wo h;have hl:off/64<D.n:=by omega
 have c3:=(l1 _ hl).2;have hh:=l2 _ hl;obtain⟨a,c,hve⟩:=hh.1.slice;rw[hve]at c3 hh;have b1:(off:Int)/64<D.n:=by omega
 have b2:(off:Int)/8<(8*D.n:Nat):=by omega
 obtain⟨i0,hi,hz0,hz1,hz2⟩:=info_parts Xe;have I:=hid (And.intro hi (And.intro hz0 (And.intro hz1 hz2)));clear hi hz0 hz1 hz2
 have H:=hid h;have HH:=hid hh;have HC:=hid hc;have L1:=hid l1;have L2:=hid l2;clear h hh hve hc l1 l2
 go_enter func53,ntmps53
 go_wp2_with (at_builtin;refine Qc _ rfl _ _ 52 rfl 140 i0 _ 2 16 underlying52 I.out.1 I.out.2.1 I.out.2.2.1 I.out.2.2.2 rfl (by decide) _ _ _ rfl (HH.out.1.alloc _) _ 1 _ rfl (Ql.new _ _ _ 2 1 rfl) ?h1 ?h2 ?h3 ?_)
 case h1=>exact⟨rfl,rfl⟩
 case h2=>have:=HC.out _ hl;unfold maxLen;omega
 case h3=>have:=HC.out _ hl;omega
 intro v' w1 ho1 hg1 hb1 hn1;have ne1:∀ k r,own k=some r->r ≠ .hist (off/64)->w1.heap[k]? = w.heap[k]?:=by
  intro k r hk hr;have hlt:=H.out.lt k (by simp[hk]);rw[hg1.block k (by simp;omega) (fun e => ?_)]
  ·exact Below.heap_alloc _ _ _ hlt
  ·have:=HH.out.2 k e.symm;rw[hk]at this;exact hr (Option.some.inj this)
 have c0':w1.cell? ⟨v.tb j,0,none⟩=some (.pointer (some ⟨v.db,0,none⟩)):=(World.cell?_of_block (ne1 _ _ (H.out.otb j hj) (by simp))).trans c0;have c1':w1.cell? ⟨v.db,1,none⟩=some (.slice (some ⟨v.cb,0,none⟩) (8*D.n) v.cc):=(World.cell?_of_block (ne1 _ _ H.out.odb (by simp))).trans c1;have c3':w1.cell? ⟨v.lb,off/64*2+1,none⟩=some (.slice a (D.hist (off/64)).length c):=(World.cell?_of_block (ne1 _ _ H.out.olb (by simp))).trans c3;have f3':w1.frozen? ⟨v.lb,off/64*2+1,none⟩=false:=by
  rw[World.frozen?_of_block (w:=w) (ne1 _ _ H.out.olb (by simp))];obtain⟨_,l1,_⟩:=H.out.lines;exact l1.frozen _
 have c4':w1.cell? ⟨v.cb,off/8,none⟩=some (.int .u64 (D.cur (off/8))):=(World.cell?_of_block (ne1 _ _ H.out.ocb (by simp))).trans (Qmg H.out (by omega));have f4':w1.frozen? ⟨v.cb,off/8,none⟩=false:=by
  rw[World.frozen?_of_block (w:=w) (ne1 _ _ H.out.ocb (by simp))];exact H.out.cur.frozen _
 have n1:v.tb j≠v.lb:=Zf (H.out.otb j hj) H.out.olb (by simp);have n2:v.db≠v.lb:=Zf H.out.odb H.out.olb (by simp);have n3:v.cb≠v.lb:=Zf H.out.ocb H.out.olb (by simp);obtain⟨a',c',hv'⟩:=ho1.slice;have Ho1:=hid ho1;have Hg1:=hid hg1;have Hb1:=hid hb1;have Hn1:=hid hn1;have Ne1:=hid ne1
 clear ho1 hg1 hb1 hn1 ne1 c0 c1 c2 c3;rw[hv'];have Hv':=hid hv';clear hv'
 go_wp2
 go_end0
 refine⟨rfl,?_⟩
 rw[<- Hv'.out];refine H.out.put_post off x hoff h8 HC.out Ne1.out ?_ Ho1.out ?_
 ·refine((Upd.refl _ w).alloc _).grown Hg1.out (fun k hk _ => ?_)
  simp[HH.out.2 k hk]
 ·intro g hg
  rcases Hb1.out with hb | hb
  ·rw[Qh,hb,<- Qh]at hg;exact .inl (HH.out.2 g hg)
  ·rw[Qh,hb]at hg;cases hg;exact .inr (Nat.le_succ _)
theorem Mf(h:IsDev w v own D){j:Nat}(hj:j<8)(off:Nat)(x:Int)(hx:D.exec<4294967296) :
  Calls prog 18 #[.pointer (some ⟨v.tb j,0,none⟩),.int .u64 off,.int .u64 x] w fun r w'=>r = .returned (.tuple #[])/\Qr v own w (D.store j off x) w':=by
 have c0:w.cell? ⟨v.tb j,0,none⟩=some (.pointer (some ⟨v.db,0,none⟩)):=(h.thr j hj).cell rfl
 by_cases hb:D.countedB (D.wordB off)=true
 ·have h2:D.wordB off=true:=by revert hb;cases D.wordB off <;> simp[Dev.countedB,Dev.onB]
  have h3:off%8=0/\off<64*D.n:=by simpa [Dev.wordB]using h2
  have Hd:Hid (D.store j off x=D.tick.put off x):=by
   show D.store j off x=_
   have h4:D.onB (D.wordB off)=true/\D.cut=false:=by simpa [Dev.countedB]using hb
   simp only[Dev.store,hb,if_true,Dev.countedD,h4.1,h4.2,Bool.false_eq_true,if_false]
  rw[h2]at hb;have H:=hid h;have Hb:=hid hb;have H2:=hid h2;clear h hb h2
  go_enter func18,ntmps18
  go_wp2_with (first | (go_at_call 52;refine(Mm H.out hj off).mono ?_;rintro e w' ⟨rfl,rfl⟩;rw[H2.out]) | (go_at_call 51;refine(Tx H.out hj (by omega) Hb.out).mono ?_;rintro e w1 ⟨rfl,d1,o1,u1⟩;have Hp:=hid (And.intro d1 u1);clear d1 o1 u1) | (go_at_call 53;refine(Qqu Hp.out.1 hj off x (by simp only[Dev.tick];omega) h3.2 h3.1 (fun i hi=>Nat.lt_succ_of_le (H.out.wf.cnt i hi))).mono ?_;rintro e w2 ⟨rfl,hq⟩;have Hq:=hid hq;clear hq))
  go_end0
  refine⟨rfl,?_⟩
  rw[Hd.out];exact Qr.trans Hp.out.2.size (fun _ _=>rfl) Hp.out.2 Hq.out
 ·have hf:D.countedB (D.wordB off)=false:=by simpa using hb
  have H:=hid h;have Hf:=hid hf;clear h hb hf
  go_enter func18,ntmps18
  go_wp2_with (first | (go_at_call 52;refine(Mm H.out hj off).mono ?_;rintro e w' ⟨rfl,rfl⟩) | (go_at_call 51;refine(Nb H.out hj _ Hf.out).mono ?_;rintro e w1 ⟨rfl,hp⟩;have Hp:=hid hp;clear hp))
  (try simp only[Exit.inBlock,Exit.then]);refine bodyPost_ret (results_none rfl _ _ _) rfl ?_
  refine⟨rfl,?_⟩
  simp only[Dev.store,Hf.out,Bool.false_eq_true,if_false];exact Hp.out
end
end
section
open Go.Maps
section
variable{w:World}{v:DV}{own:Nat->Option Qp}{D:Dev}
theorem Vr.put{P:Program}{kt et:TypeId}{w':World}{b B:Nat}{f:Nat->Option Nat}{m:Nat}{N:DataW Unit}(l p:Nat)(hp:p<18446744073709551616)
  (h1:m<=B) (h2:IsMap N) (h3:∀ l p,f l=some p->p<18446744073709551616) (h4:∀ x:Int,Maps.has N (.int .i64 x)=true->∃ l p:Nat,x=l/\f l=some p)
  (h5:∀ l p,f l=some p->Maps.has N (.int .i64 l)=true/\∀ z,N.atKey (.int .i64 l) z = .lit (.int .u64 p))
  (h:w'.ownsMap P kt (plainElem P et) b (m+1) (N.put (.int .i64 l) (.lit (.int .u64 p)))):Vr P kt et w' b (B+1) (fun k=>if k=l then some p else f k):=by
 refine⟨m+1,_,by omega,h,?_,?_,?_⟩
 ·intro l' p' h'
  simp only at h'
  split at h'
  ·cases h';exact hp
  ·exact h3 _ _ h'
 ·intro x hx
  by_cases e:x=l
  ·exact⟨l,p,e,if_pos rfl⟩
  ·rw[has_put_other (by simpa using e)]at hx
   obtain⟨l',p',rfl,h'⟩:=h4 x hx;exact⟨l',p',rfl,by simp only;rw[if_neg (fun e'=>e (by rw[e']))];exact h'⟩
 ·intro l' p' h'
  simp only at h'
  split at h'
  ·rename_i e;subst e;cases h'
   exact⟨has_put_same h2 (show WideAt.IsKeyLit (.int .i64 (l':Int))from trivial) _,fun z=>atKey_put_same h2 (show WideAt.IsKeyLit (.int .i64 (l':Int))from trivial) _ _⟩
  ·rename_i e
   have e':(Lit.int .i64 (l':Int)) ≠ .int .i64 l:=by intro h;injection h with _ h;exact e (by omega)
   rw[has_put_other e'];refine⟨(h5 _ _ h').1,fun z => ?_⟩
   rw[atKey_put_other e'];exact(h5 _ _ h').2 z
theorem IsDev.jot_post(h:IsDev w v own D){j:Nat}(hj:j<8){l:Nat}(hl:l<D.n){w1:World}(hg:w.grownBy w1 (some (v.nb j)))
  (hN:Vr prog 3 31 w1 (v.nb j) D.exec (fun k=>if k=l then some (D.done l+(D.hist l).length)else D.note j k)):IsDev w1 v own (D.jot j l):=by
 have ne:∀ k r,own k=some r->r ≠ .notes j->w1.heap[k]? = w.heap[k]?:=fun k r hk hr=>
  hg.block k (h.lt k (by simp[hk])) (fun e=>Zf hk (h.onb j hj) hr (Option.some.inj e))
 have nB:∀ k r c t,own k=some r->r ≠ .notes j->Blk w k c t->Blk w1 k c t:=fun k r c t hk hr hb=>(ne k r hk hr).trans hb
 have nR:∀ k r n t f,own k=some r->r ≠ .notes j->Row w k n t f->Row w1 k n t f:=fun k r n t f hk hr ⟨c,h1,h2⟩=>⟨c,nB k r c t hk hr h1,h2⟩
 obtain⟨hv,l1,l2⟩:=h.lines;exact {
  wf:=⟨h.wf.pos,h.wf.le,h.wf.line,h.wf.cnt,fun j' l' p' hp=>by
   simp only[Dev.jot]at hp
   split at hp
   ·rename_i e;obtain⟨rfl,rfl⟩:=e;cases hp;exact⟨hl,Nat.le_refl _⟩
   ·exact h.wf.note j' l' p' hp,h.wf.left⟩
  dev:=nB _ _ _ _ h.odb (by simp) h.dev
  pers:=nR _ _ _ _ _ h.opb (by simp) h.pers
  cur:=nR _ _ _ _ _ h.ocb (by simp) h.cur
  lines:=⟨hv,nR _ _ _ _ _ h.olb (by simp) l1,fun i hi=>(l2 i hi).mono (fun _ hg _=>hg) (fun g hg _=>ne g _ hg (by simp))⟩
  thr:=fun k hk=>nB _ _ _ _ (h.otb k hk) (by simp) (h.thr k hk)
  notes:=fun k hk=>by
   by_cases e:k=j
   ·subst e
    have:(D.jot k l).note k=(fun m=>if m=l then some (D.done l+(D.hist l).length)else D.note k m):=by funext m;simp[Dev.jot]
    rw[this];exact hN
   ·have:(D.jot j l).note k=D.note k:=by funext m;simp[Dev.jot,e]
    rw[this];exact(h.notes k hk).kept (Nat.le_refl _) (ne _ _ (h.onb k hk) (by simpa using e))
  odb:=h.odb,opb:=h.opb,ocb:=h.ocb,olb:=h.olb,otb:=h.otb,onb:=h.onb
  lt:=fun k hk=>Nat.lt_of_lt_of_le (h.lt k hk) hg.size
  pcs:=h.pcs}
theorem Qcr(h:IsDev w v own D){j:Nat}(hj:j<8)(off:Nat)(ho:off<18446744073709551616)(hx:D.exec<4294967296) :
  Calls prog 19 #[.pointer (some ⟨v.tb j,0,none⟩),.int .u64 off] w fun r w'=>r = .returned (.tuple #[])/\Qr v own w (D.flush j off) w':=by
 have c0:w.cell? ⟨v.tb j,0,none⟩=some (.pointer (some ⟨v.db,0,none⟩)):=(h.thr j hj).cell rfl;have hn:=h.wf.le
 by_cases hb:D.countedB (D.inB off)=true
 ·have h2:D.inB off=true:=by revert hb;cases D.inB off <;> simp[Dev.countedB,Dev.onB]
  have h3:off<64*D.n:=by simpa [Dev.inB]using h2
  have Hd:Hid (D.flush j off=D.tick.jot j (off/64)):=by
   show D.flush j off=_
   have h4:D.onB (D.inB off)=true/\D.cut=false:=by simpa [Dev.countedB]using hb
   simp only[Dev.flush,hb,if_true,Dev.countedD,h4.1,h4.2,Bool.false_eq_true,if_false]
  rw[h2]at hb;have hlt:(off:Int)<(D.n:Int)*64:=by omega
  have hl:off/64<D.n:=by omega
  have b1:(off:Int)/64<D.n:=by omega
  have H:=hid h;have Hb:=hid hb;have H2:=hid h2;clear h hb h2
  go_enter func19,ntmps19
  go_wp2_with (go_at_call 54;refine(Me H.out).mono ?_;rintro e w' ⟨rfl,rfl⟩)
  refine(Tx H.out hj (by omega) Hb.out).mono ?_
  rintro e w1 ⟨rfl,d1,o1,u1⟩;have c0':w1.cell? ⟨v.tb j,0,none⟩=some (.pointer (some ⟨v.db,0,none⟩)):=(d1.thr j hj).cell rfl;have c3':w1.cell? ⟨v.tb j,3,none⟩=some (.map (some (v.nb j))):=(d1.thr j hj).cell rfl;have c2':w1.cell? ⟨v.db,2,none⟩=some (.slice (some ⟨v.lb,0,none⟩) D.n D.n):=d1.dev.cell rfl;obtain⟨hv,l1,l2⟩:=Wo d1;have e0:w1.cell? ⟨v.lb,off/64*2,none⟩=some (.int .u64 (D.done (off/64))):=(l1 _ hl).1;have e1:=(l1 _ hl).2;obtain⟨a,c,hve⟩:=(l2 _ hl).1.slice;rw[hve]at e1;have e1':w1.cell? ⟨v.lb,off/64*2+1,none⟩=some (.slice a (D.hist (off/64)).length c):=e1;have hcn:=H.out.wf.cnt _ hl;have Hp:=hid (And.intro d1 (And.intro o1 u1));clear d1 o1 u1 c0 hve l1 l2 e1;go_wp2_with fail
  have hw1:IntKind.u64.wrap ((D.hist (off/64)).length:Int)=((D.hist (off/64)).length:Int):=IntWalk.u64_in _ (by omega);have hw2:IntKind.u64.wrap ((D.done (off/64):Int)+((D.hist (off/64)).length:Int))=(D.done (off/64):Int)+((D.hist (off/64)).length:Int):=IntWalk.u64_in _ (by omega)
  go_still_tail 16,(by kernel_rfl)
  change wpList _ _ _ _ _ w1.drew
  clear hw1 hw2;obtain⟨m,N,n1,n2,n3,n4,n5⟩:=(H.out.notes j hj).kept (w':=w1) (Nat.le_refl _) (Hp.out.2.1 _ (Zf (H.out.onb j hj) H.out.odb (by simp)));have hk:keyOf prog 3 (.int .i64 ((off:Int)/64))=some (.int .i64 ((off/64:Nat):Int)):=by
   rw[show((off:Int)/64)=((off/64:Nat):Int)from by omega];exact keyOf_int_mk underlying3 (WalkArith.wf_i64 (by omega))
  have hval:plainElem (H:=Unit) prog 31 (.int .u64 ((D.done (off/64):Int)+((D.hist (off/64)).length:Int)))=some (.lit (.int .u64 ((D.done (off/64)+(D.hist (off/64)).length:Nat):Int)),[]):=by
   rw[show((D.done (off/64):Int)+((D.hist (off/64)).length:Int))=((D.done (off/64)+(D.hist (off/64)).length:Nat):Int)from by omega];exact plainElem_int underlying31 (WalkArith.wf_u64 (by omega))
  refine wpList_mapUpdate_own _ rfl _ _ _ 111 rfl 3 31 Q6x underlying111 _ (v.nb j) m _ rfl n2.drew (by unfold maxLen;omega) _ _ _ rfl rfl hk _ [] hval ?_
  intro w2 o2 g2
  go_frame
  refine wpList_nil ?_
  go_end0
  refine⟨rfl,?_⟩
  rw[Hd.out];have hN:=Vr.put (off/64) (D.done (off/64)+(D.hist (off/64)).length) (by omega) n1 n2.isMap n3 n4 n5 o2;have g2':w1.grownBy w2 (some (v.nb j)):=⟨g2.os,g2.tape,g2.output,g2.size,g2.block⟩;refine⟨own,Hp.out.1.jot_post hj hl g2' hN,fun _ _=>rfl,Hp.out.2.2.grown g2' (fun k hk _ => ?_)⟩
  cases hk;simp[H.out.onb j hj]
 ·have hf:D.countedB (D.inB off)=false:=by simpa using hb
  have hd:decide ((off:Int)<(D.n:Int)*64)=D.inB off:=by simp only[Dev.inB,decide_eq_decide];omega
  have H:=hid h;have Hf:=hid hf;clear h hb hf
  go_enter func19,ntmps19
  go_wp2_with (first | (go_at_call 54;refine(Me H.out).mono ?_;rintro e w' ⟨rfl,rfl⟩) | (go_at_call 51;refine(Nb H.out hj _ Hf.out).mono ?_;rintro e w1 ⟨rfl,hp⟩;have Hp:=hid hp;clear hp))
  (try simp only[Exit.inBlock,Exit.then]);refine bodyPost_ret (results_none rfl _ _ _) rfl ?_
  refine⟨rfl,?_⟩
  simp only[Dev.flush,Hf.out,Bool.false_eq_true,if_false];exact Hp.out
end
end
section
open Go.Maps
section
variable{w:World}
def Yh(l:List (Nat×Int))(f:Nat->Int)(i:Nat):Int:=Qu l (f i) i
theorem Qb1(b n c:Nat)(f:Nat->Int)(sv:Value)(l:List (Nat×Int))(hr:Row w b n 31 (fun i => .int .u64 (f i)))(hs:Ql w 2 sv l.length (Qv l))(hne:∀ k,sv.ownBlock=some k->k≠b)
  (hl:∀ e∈l,e.1/8<n) (hn:n<=32768) (hlen:l.length<=4611686018427387904) :
  Calls prog 141 #[.slice (some ⟨b,0,none⟩) n c,sv] w fun r w'=>r = .returned (.tuple #[])/\Row w' b n 31 (fun i => .int .u64 (Yh l f i))/\Upd (fun k=>k=b) w w':=by
 obtain⟨_,a,cap,rfl,hcap,ha⟩:=hs;have HA:=hid ha;have HR:=hid hr;have HL:=hid hl;have HNE:=hid hne;clear ha hr hl hne
 go_enter func141,ntmps141
 go_wp2
 go_loopw [8] (fun i wr=>∃ k:Nat,k<=l.length/\i = .int .i64 k/\Row wr b n 31 (fun i => .int .u64 (Yh (l.take k) f i))/\Upd (fun k=>k=b) w wr) (fun i _=>l.length-(intOf i).toNat)
 case atStart=>exact⟨0,Nat.zero_le _,rfl,HR.out,Upd.refl _ _⟩
 case round=>
  obtain⟨k,hk,rfl,hr,hu⟩:=hrel;have Hr:=hid hr;have Hu:=hid hu;clear hr hu
  by_cases hlt:k<l.length
  ·obtain⟨e,he⟩:∃ e,l[k]? = some e:=⟨_,List.getElem?_eq_getElem hlt⟩
   have hf:=Iv l k e he;obtain⟨sb,so,rfl,hc⟩:∃ sb so,a=some ⟨sb,so,none⟩/\∀ j u,(Qv l)[j]? = some u->w.cell? ⟨sb,so+j,none⟩=some u:=by
    rcases HA.out with h0 | h0
    ·rw[h0]at hf;simp at hf
    ·exact h0
   have hsb:sb≠b:=HNE.out sb rfl;have hbl:∀ o,wr.cell? ⟨sb,o,none⟩=w.cell? ⟨sb,o,none⟩:=fun o=>by
    have hlt':=World.block_lt_of_cell? w _ (hc _ _ hf.1);exact World.cell?_of_block (Hu.out.block sb hlt' hsb)
   have e1:wr.cell? ⟨sb,so+k*2,none⟩=some (.int .u64 e.1):=by rw[hbl,Nat.mul_comm k 2];exact hc _ _ hf.1
   have e2:wr.cell? ⟨sb,so+k*2+1,none⟩=some (.int .u64 e.2):=by rw[hbl,Nat.mul_comm k 2];exact hc _ _ hf.2
   have hen:=HL.out e (List.mem_of_getElem? he);have hen':(e.1:Int)/8<n:=by omega
   have cb:wr.cell? ⟨b,e.1/8,none⟩=some (.int .u64 (Yh (l.take k) f (e.1/8))):=Hr.out.cell hen;have fb:wr.frozen? ⟨b,e.1/8,none⟩=false:=Hr.out.frozen _;have hbs:b<wr.heap.size:=Hr.out.lt;have He:=hid he;clear hf hc hbl he
   go_wp2
   go_roundw
   case rel=>
    refine⟨k+1,by omega,by go_num,?_,(Hu.out.setCell (p:=⟨b,e.1/8,none⟩) (fun _=>rfl) _).alloc _⟩
    refine((Hr.out.set (e.1/8) (.int .u64 e.2)).alloc _).congr (fun i hi => ?_)
    have ht:l.take (k+1)=l.take k ++ [e]:=by rw[List.take_add_one,He.out];rfl
    simp only[Yh,ht,Xt]
    by_cases ei:i=e.1/8
    ·rw[if_pos ei,if_pos ei.symm]
    ·rw[if_neg ei,if_neg (fun h=>ei h.symm)]
   case measure=>simp[intOf];omega
  ·go_wp2
   go_end0
   have ht:l.take k=l:=List.take_of_length_le (by omega);refine⟨rfl,?_,Hu.out⟩
   have:=Hr.out;rw[ht]at this;exact this
end
section
variable{w:World}{v:DV}{own:Nat->Option Qp}{D:Dev}
theorem Dev.persist_cur(D:Dev)(l k i:Nat):(D.persist l k).cur i=D.cur i:=by
 simp only[Dev.cur,Dev.persist]
 by_cases h:i/8=l
 ·rw[if_pos h,if_pos h,h,<- Jc,List.take_append_drop]
 ·rw[if_neg h,if_neg h]
theorem Ql.take{w:World}{a:Option Addr}{n c:Nat}{xs:List (Nat×Int)}(h:Ql w 2 (.slice a n c) xs.length (Qv xs))(k:Nat)(hk:k<=xs.length):Ql w 2 (.slice a k c) k (Qv (xs.take k)):=by
 obtain⟨h1,a',c',e,hc,h2⟩:=h
 cases e
 have ht:Qv (xs.take k)=(Qv xs).take (k*2):=by
  have h3:Qv xs=Qv (xs.take k)++Qv (xs.drop k):=by rw[<- Za,List.take_append_drop]
  rw[h3,List.take_left' (by rw[Rb,List.length_take,Nat.min_eq_left hk])]
 refine⟨by rw[Rb,List.length_take,Nat.min_eq_left hk],a,c,rfl,by omega,?_⟩
 rcases h2 with h2 | ⟨b,o,rfl,h3⟩
 ·left;rw[ht,h2];simp
 ·right;refine⟨b,o,rfl,fun j u hu=>h3 j u ?_⟩
  rw[ht,List.getElem?_take]at hu
  split at hu
  ·exact hu
  ·cases hu
theorem Qj.drop{w:World}{e:TypeId}{a:Option Addr}{c:Nat}{xs:List (Nat×Int)}(h:Qj w e 2 (.slice a xs.length c) xs.length (Qv xs))(k:Nat)(hk:k<xs.length) :
  Qj w e 2 (.slice (a.map (·.add (k*2))) (xs.length-k) (c-k)) (xs.drop k).length (Qv (xs.drop k)):=by
 rcases h with ⟨h1,⟨e1,e2⟩ | ⟨g,o,cap,cur,e1,hg,hc,hm,hs,ht⟩⟩
 ·omega
 ·cases e1
  refine⟨Rb _,.inr ⟨g,o+k*2,c-k,cur,?_,hg,?_,by omega,by omega,?_⟩⟩
  ·simp[Addr.add_lit]
  ·rw[List.length_drop];omega
  ·rw[<- Qco,<- ht,List.length_drop,Nat.sub_mul]
   rw[<- List.drop_drop];rw[List.drop_take]
theorem Pe{a:Option Addr}{n c n' c':Nat}:(Value.slice a n c).ownBlock=(Value.slice a n' c').ownBlock:=by cases a <;> rfl
theorem Qbe(w:World)(a:Addr)(u u':Value):(w.setCell a u).setCell a u'=w.setCell a u':=by
 unfold World.setCell;simp only[World.mk.injEq,and_true]
 apply Array.ext
 ·simp
 ·intro i h1 h2
  simp only[Array.getElem_modify]
  split
  ·have hi:i<w.heap.size:=by simpa using h2
   cases w.heap[i] <;> simp
   split <;> simp
  ·rfl
theorem IsDev.persist_post(h:IsDev w v own D){l k:Nat}(hl:l<D.n)(hk:k<=(D.hist l).length){w1:World}(ne1:∀ g r,own g=some r->r ≠ .pers->w1.heap[g]? = w.heap[g]?)
  (hU:Upd (fun k=>own k=some .pers\/own k=some .lines) w w1) (hp:Row w1 v.pb (8*D.n) 31 (fun i => .int .u64 (Yh ((D.hist l).take k) D.pers i)))
  (hv':Value) (hh:Lr w1 own 140 l hv' ((D.hist l).drop k)) (wx:World) (hx:wx=((w1.setCell ⟨v.lb,l*2,none⟩ (.int .u64 ((D.done l:Int)+(k:Int)))).setCell ⟨v.lb,l*2+1,none⟩ hv')) :
  IsDev wx v own (D.persist l k)/\Upd (fun k=>own k=some .pers\/own k=some .lines) w wx:=by
 obtain⟨hv,l1,l2⟩:=h.lines;have wne:∀ g,g≠v.lb->wx.heap[g]? = w1.heap[g]?:=fun g hg=>by
  rw[hx];exact(Below.heap_setCell _ _ _ _ hg).trans (Below.heap_setCell _ _ _ _ hg)
 have wn:∀ g r,own g=some r->r ≠ .pers->r ≠ .lines->wx.heap[g]? = w.heap[g]?:=fun g r hg r1 r2=>(wne g (Zf hg h.olb r2)).trans (ne1 g r hg r1)
 have nB:∀ k r c t,own k=some r->r ≠ .pers->r ≠ .lines->Blk w k c t->Blk wx k c t:=fun k r c t hk r1 r2 hb=>(wn k r hk r1 r2).trans hb
 refine⟨?_,?_⟩
 ·exact {
   wf:=⟨h.wf.pos,h.wf.le,fun i hi e he=>by
     simp only[Dev.persist]at he
     split at he
     ·exact h.wf.line i hi e (List.mem_of_mem_drop he)
     ·exact h.wf.line i hi e he,
    fun i hi=>by
     have:=h.wf.cnt i hi;simp only[Dev.persist]
     split
     ·rename_i e;subst e;rw[List.length_drop];omega
     ·exact this,
    fun j' l' p' hp=>by
     have:=h.wf.note j' l' p' hp;refine⟨this.1,?_⟩
     simp only[Dev.persist]
     split
     ·rename_i e;subst e;rw[List.length_drop];omega
     ·exact this.2,h.wf.left⟩
   dev:=nB _ _ _ _ h.odb (by simp) (by simp) h.dev
   pers:=by
    obtain⟨c,p1,p2⟩:=hp;refine Row.congr (f:=fun i => .int .u64 (Yh ((D.hist l).take k) D.pers i)) ⟨c,(wne _ (Zf h.opb h.olb (by simp))).trans p1,p2⟩ (fun i hi => ?_)
    simp only[Dev.persist,Yh]
    split
    ·rfl
    ·rename_i e
     congr 1
     have:∀ (L:List (Nat×Int)) (d:Int),(∀ x∈L,x.1/64=l)->Qu L d i=d:=by
      intro L
      induction L with
      | nil=>intro d _;rfl
      | cons x L ih=>
       intro d hL;have hx':=hL x (by simp);have hne:¬ x.1/8=i:=by omega
       show Qu L (if x.1/8=i then x.2 else d) i=d
       rw[if_neg hne];exact ih d (fun y hy=>hL y (by simp[hy]))
     exact this _ _ (fun x hx=>(h.wf.line l hl x (List.mem_of_mem_take hx)).1)
   cur:=by
    have:(D.persist l k).cur=D.cur:=funext (Dev.persist_cur D l k);rw[this];obtain⟨c,p1,p2⟩:=h.cur;exact⟨c,nB _ _ _ _ h.ocb (by simp) (by simp) p1,p2⟩
   lines:=by
    have:Row w1 v.lb (2*D.n) 119 (fun j=>if j%2=0 then .int .u64 (D.done (j/2))else hv (j/2)):=by
     obtain⟨c,p1,p2⟩:=l1;exact⟨c,(ne1 _ _ h.olb (by simp)).trans p1,p2⟩
    refine⟨fun i=>if i=l then hv' else hv i,?_,fun i hi => ?_⟩
    ·rw[hx]
     refine((this.set (l*2) (.int .u64 ((D.done l:Int)+(k:Int)))).set (l*2+1) hv').congr (fun i _ => ?_)
     simp only[Dev.persist]
     by_cases e:i=l*2+1
     ·rw[if_pos e,if_neg (by omega),if_pos (by omega)]
     ·rw[if_neg e]
      by_cases e2:i%2=0
      ·rw[if_pos e2,if_pos e2]
       by_cases e3:i=l*2
       ·rw[if_pos e3,if_pos (by omega),show i/2=l from by omega,Int.natCast_add]
       ·rw[if_neg e3,if_neg (by omega)]
      ·rw[if_neg e2,if_neg e2,if_neg (by omega),if_neg (by omega)]
    ·simp only[Dev.persist]
     by_cases e:i=l
     ·subst e
      simp only[if_true];exact hh.mono (fun g hg _=>hg) (fun g hg _=>wne g (Zf hg h.olb (by simp)))
     ·rw[if_neg e,if_neg e]
      exact(l2 i hi).mono (fun g hg _=>hg) (fun g hg _=>wn g _ hg (by simp) (by simp))
   thr:=fun j hj=>nB _ _ _ _ (h.otb j hj) (by simp) (by simp) (h.thr j hj)
   notes:=fun j hj=>(h.notes j hj).kept (Nat.le_refl _) (wn _ _ (h.onb j hj) (by simp) (by simp))
   odb:=h.odb,opb:=h.opb,ocb:=h.ocb,olb:=h.olb,otb:=h.otb,onb:=h.onb
   lt:=fun g hg=>by rw[hx];simp only[World.setCell,Array.size_modify];exact Nat.lt_of_lt_of_le (h.lt g hg) hU.size
   pcs:=h.pcs}
 ·rw[hx]
  exact(hU.setCell (p:=⟨v.lb,l*2,none⟩) (fun _=>by simp[h.olb]) _).setCell (p:=⟨v.lb,l*2+1,none⟩) (fun _=>by simp[h.olb]) _
theorem Qf3(h:IsDev w v own D)(l k:Nat)(hl:l<D.n)(hk:k<=(D.hist l).length)(hx:D.exec<4611686018) :
  Calls prog 55 #[.pointer (some ⟨v.db,0,none⟩),.int .i64 l,.int .i64 k] w fun r w'=>r = .returned (.tuple #[])/\IsDev w' v own (D.persist l k)/\Upd (fun k=>own k=some .pers\/own k=some .lines) w w':=by
 have c0:w.cell? ⟨v.db,0,none⟩=some (.slice (some ⟨v.pb,0,none⟩) (8*D.n) v.pc):=h.dev.cell rfl;have c2:w.cell? ⟨v.db,2,none⟩=some (.slice (some ⟨v.lb,0,none⟩) D.n D.n):=h.dev.cell rfl;obtain⟨hv,l1,l2⟩:=Wo h;have e0:=(l1 _ hl).1;have e1:=(l1 _ hl).2;have hh:=l2 _ hl;obtain⟨a,c,hve⟩:=hh.1.slice;rw[hve]at e1 hh;have hn:=h.wf.le;have hl':(l:Int)<D.n:=by omega
 have hcnt:=h.wf.cnt l hl;have hcap:(D.hist l).length<=c:=by obtain⟨_,_,_,e,hc,_⟩:=hh.1.rd;cases e;exact hc
 have hk':(k:Int)<=c:=by omega
 have H:=hid h;have HH:=hid hh;clear h hh hve l1 l2
 go_enter func55,ntmps55
 go_wp2_with fail
 go_still_tail 10,(by kernel_rfl)
 change wpList _ _ _ _ _ w.drew
 go_wp2_with fail
 have hrd:Ql w.drew 2 (.slice a k c) ((D.hist l).take k).length (Qv ((D.hist l).take k)):=by
  rw[List.length_take,Nat.min_eq_left hk];exact HH.out.1.rd.take k hk
 have hkl:((D.hist l).take k).length=k:=by rw[List.length_take,Nat.min_eq_left hk]
 refine(Qb1 v.pb (8*D.n) v.pc D.pers _ _ H.out.pers.drew hrd ?_ ?_ (by omega) (by omega)).mono ?_
 ·intro g hg;rw[Pe (n':=(D.hist l).length) (c':=c)]at hg;exact Zf (HH.out.2 g hg) H.out.opb (by simp)
 ·intro e he;have:=H.out.wf.line l hl e (List.mem_of_mem_take he);omega
 rintro e w1 ⟨rfl,r1,u1⟩;have ne1:∀ g r,own g=some r->r ≠ .pers->w1.heap[g]? = w.heap[g]?:=fun g r hg hr=>u1.block g (H.out.lt g (by simp[hg])) (Zf hg H.out.opb hr)
 have hU:Upd (fun k=>own k=some .pers\/own k=some .lines) w w1:=(Upd.refl _ w).drew.trans u1 (fun i _ hi=>by rw[hi];simp[H.out.opb]);have e0':w1.cell? ⟨v.lb,l*2,none⟩=some (.int .u64 (D.done l)):=(World.cell?_of_block (ne1 _ _ H.out.olb (by simp))).trans e0;have e1':w1.cell? ⟨v.lb,l*2+1,none⟩=some (.slice a (D.hist l).length c):=(World.cell?_of_block (ne1 _ _ H.out.olb (by simp))).trans e1;have f':∀ o,w1.frozen? ⟨v.lb,o,none⟩=false:=fun o=>by
  rw[World.frozen?_of_block (w:=w) (ne1 _ _ H.out.olb (by simp))];obtain⟨_,l1,_⟩:=H.out.lines;exact l1.frozen _
 have f0:=f' (l*2);have f1:=f' (l*2+1)
 have HH1:Lr w1 own 140 l (.slice a (D.hist l).length c) (D.hist l):=HH.out.mono (fun g hg _=>hg) (fun g hg _=>ne1 g _ hg (by simp));have HP:=hid (And.intro r1 (And.intro ne1 (And.intro hU HH1)));clear hrd r1 u1 ne1 hU f' HH1 c0 c2 e0 e1 hkl
 by_cases hkk:k=(D.hist l).length
 ·have hkb:((((D.hist l).length-k:Nat):Int)==0)=true:=by simp;omega
  have Hk:=hid hkk;clear hkk
  go_wp2_with fail
  all_goals
   go_end0
   refine⟨rfl,H.out.persist_post hl hk HP.out.2.1 HP.out.2.2.1 HP.out.1 (.slice none 0 0) ?_ _ (by first | rfl | exact Qbe _ _ _ _)⟩
   rw[List.drop_of_length_le (by rw[Hk.out];exact Nat.le_refl _)];exact⟨Qj.nil _ _ _,fun g hg=>by simp[Value.ownBlock]at hg⟩
 ·have hkb:((((D.hist l).length-k:Nat):Int)==0)=false:=by simp;omega
  have hck:¬ c=k:=by omega
  go_wp2_with fail
  go_end0
  refine⟨rfl,H.out.persist_post hl hk HP.out.2.1 HP.out.2.2.1 HP.out.1 _ ⟨HP.out.2.2.2.1.drop k (by omega),fun g hg => ?_⟩ _ rfl⟩
  refine HP.out.2.2.2.2 g ?_
  rw[<- hg]
  cases a with
  | none=>rfl
  | some a=>simp[Value.ownBlock,Addr.add];split <;> rfl
end
end
section
open Go.Maps
namespace Dev
def owedP(D:Dev)(j:Nat)(left:Nat->Bool)(l:Nat):Nat:=if left l then 0 else D.owed j l
def part(D:Dev)(j:Nat)(left:Nat->Bool):Dev:=
 {D with pers:=fun i=>Qu ((D.hist (i/8)).take (D.owedP j left (i/8))) (D.pers i) i,hist:=fun i=>(D.hist i).drop (D.owedP j left i),done:=fun i=>D.done i+D.owedP j left i}
theorem part_start(D:Dev)(j:Nat)(left:Nat->Bool)(h:∀ l,left l=false->D.note j l=none):D.part j left=D:=by
 have e:∀ l,D.owedP j left l=0:=fun l=>by
  unfold owedP owed
  split
  ·rfl
  ·rename_i hl;rw[h l (by simpa using hl)]
 simp only[part,e,List.take_zero,List.drop_zero,Nat.add_zero,Sl]
theorem part_step(D:Dev)(j:Nat)(left:Nat->Bool)(l:Nat)(hl:left l=true):D.part j (fun k=>left k && !(k==l))=(D.part j left).persist l (D.owed j l):=by
 have e1:∀ k,k≠l->D.owedP j (fun k=>left k && !(k==l)) k=D.owedP j left k:=fun k hk=>by simp[owedP,hk]
 have e2:D.owedP j (fun k=>left k && !(k==l)) l=D.owed j l:=by simp[owedP]
 have e3:D.owedP j left l=0:=by simp[owedP,hl]
 unfold part persist;simp only[mk.injEq,true_and,and_true];refine⟨?_,?_,?_⟩
 ·funext i
  by_cases h:i/8=l
  ·rw[if_pos h,h,e2,e3];simp[Sl]
  ·rw[if_neg h,e1 _ h]
 ·funext i
  by_cases h:i=l
  ·rw[if_pos h,h,e2,e3];simp
  ·rw[if_neg h,e1 _ h]
 ·funext i
  by_cases h:i=l
  ·rw[if_pos h,h,e2,e3];simp
  ·rw[if_neg h,e1 _ h]
theorem part_skip(D:Dev)(j:Nat)(left:Nat->Bool)(l:Nat)(h0:D.owed j l=0):D.part j (fun k=>left k && !(k==l))=D.part j left:=by
 have e1:∀ k,D.owedP j (fun k=>left k && !(k==l)) k=D.owedP j left k:=fun k=>by
  by_cases hk:k=l
  ·subst hk;simp[owedP,h0]
  ·simp[owedP,hk]
 simp only[part,e1]
theorem part_done(D:Dev)(j:Nat)(left:Nat->Bool)(l:Nat)(h:left l=true):(D.part j left).done l=D.done l:=by simp[part,owedP,h]
theorem part_hist(D:Dev)(j:Nat)(left:Nat->Bool)(l:Nat)(h:left l=true):(D.part j left).hist l=D.hist l:=by simp[part,owedP,h]
theorem part_end(D:Dev)(j:Nat)(left:Nat->Bool)(h:∀ l,left l=false):D.sync j={D.part j left with note:=fun k m=>if k=j then none else D.note k m}:=by
 have e:∀ l,D.owedP j left l=D.owed j l:=fun l=>by simp[owedP,h]
 simp only[sync,part,e]
end Dev
theorem Pt{H:Type}{P:Program}(w:World){ops:Array Oper}{rest:List Oper}{o:Oper}{a:Act}{Q:Exit->Act->World->Prop}
  (hg:o.guard=none) (m:Operand) (t:TypeId) (hop:o.op=Op.call {callee:=Callee.builtin Builtin.clear,args:=#[m],argTypes:=#[t]})
  (k e:TypeId) (ht:P.underlying t=some (.map k e)) (R:Value->Option (DataW H×List MemPlace)) (b n:Nat) (D:DataW H)
  (hm:a.eval m = .map (some b)) (hown:w.ownsMap P k R b n D)
  (hK:∀ w',w'.ownsMap P k R b 0 (.map [])->w.grownBy w' (some b)->wpList P ops Q rest (a.put o.dst (.tuple #[])) w') :
  wpList P ops Q (o::rest) a w:=by
 refine wpList_plain hg fun K' hK' => ?_
 obtain⟨es,clock,hb,F,_⟩:=hown;have hlt:b<w.heap.size:=lt_of_block hb;have hrun:(Builtin.clear_ #[t] o.type #[.map (some b)]).run P w = .ok (.tuple #[]) {w with heap:=w.heap.setIfInBounds b (.map #[] clock)}:=by
  simp[Builtin.clear_,run_underlying ht,getObj,setObj,Sem.run,hb]
 unfold Oper.wp;simp[execOp,hop,resolve,invoke,builtin,hm,hrun,Result.andThen];refine hK' _ _ (hK _ ⟨#[],clock,by simp[hlt],⟨by simp,?_,by simp⟩,by simp,by simp⟩ ⟨rfl,rfl,rfl,by simp,fun i hi hne => ?_⟩)
 ·exact MapKept.stamped_empty clock
 ·have:b≠i:=fun e=>hne (by rw[e])
  simp[this]
section
variable{w:World}{v:DV}{own:Nat->Option Qp}{D:Dev}
def Xw(left:Lit->Bool)(l:Nat):Bool:=left (.int .i64 l)
theorem Gx(left:Lit->Bool)(l:Nat):Xw (fun z=>left z && !z.sameKey (.int .i64 (l:Int)))=fun k=>Xw left k && !(k==l):=by
 funext k
 simp only[Xw]
 congr 2
 by_cases e:k=l
 ·subst e;simp[Lit.sameKey]
 ·rw[sameKey_ne (by intro h;injection h with _ h;exact e (by omega))];simp[e]
theorem Qgj{j l:Nat}{left:Lit->Bool}(h:IsDev w v own (D.part j (Xw left)))(h0:D.owed j l=0):IsDev w v own (D.part j (Xw fun z=>left z && !z.sameKey (.int .i64 (l:Int)))):=by
 rw[Gx,Dev.part_skip _ _ _ _ h0];exact h
theorem Qgk{j l k:Nat}{left:Lit->Bool}(h:IsDev w v own ((D.part j (Xw left)).persist l k))(hk:D.owed j l=k)(hl:Xw left l=true):IsDev w v own (D.part j (Xw fun z=>left z && !z.sameKey (.int .i64 (l:Int)))):=by
 rw[Gx,Dev.part_step _ _ _ _ hl,hk];exact h
theorem Qkf{H:Type}{P:Program}{k:TypeId}{R:Value->Option (DataW H×List MemPlace)}{b r n:Nat}{N:DataW H}{left:Lit->Bool}{cnt:Nat}{w':World}{S:Nat->Prop}
  (h:w.ranges P k R b r n N left cnt) (hu:Upd S w w') (hb:¬ S b) (hr:¬ S r):w'.ranges P k R b r n N left cnt:=by
 have e1:w'.heap[b]? = w.heap[b]?:=hu.block b h.owns.lt hb;have e2:w'.heap[r]? = w.heap[r]?:=hu.block r h.lt hr;unfold World.ranges at *;rw[e1,e2];exact h
theorem IsDev.clear_post(h:IsDev w v own D){j:Nat}(hj:j<8){w1:World}(hg:w.grownBy w1 (some (v.nb j)))
  (ho:w1.ownsMap prog 3 (plainElem prog 31) (v.nb j) 0 (.map []:DataW Unit)):IsDev w1 v own {D with note:=fun k m=>if k=j then none else D.note k m}:=by
 have ne:∀ k r,own k=some r->r ≠ .notes j->w1.heap[k]? = w.heap[k]?:=fun k r hk hr=>
  hg.block k (h.lt k (by simp[hk])) (fun e=>Zf hk (h.onb j hj) hr (Option.some.inj e))
 have nB:∀ k r c t,own k=some r->r ≠ .notes j->Blk w k c t->Blk w1 k c t:=fun k r c t hk hr hb=>(ne k r hk hr).trans hb
 have nR:∀ k r n t f,own k=some r->r ≠ .notes j->Row w k n t f->Row w1 k n t f:=fun k r n t f hk hr ⟨c,h1,h2⟩=>⟨c,nB k r c t hk hr h1,h2⟩
 obtain⟨hv,l1,l2⟩:=h.lines;exact {
  wf:=⟨h.wf.pos,h.wf.le,h.wf.line,h.wf.cnt,fun j' l' p' hp=>by
   simp only at hp
   split at hp
   ·cases hp
   ·exact h.wf.note j' l' p' hp,h.wf.left⟩
  dev:=nB _ _ _ _ h.odb (by simp) h.dev
  pers:=nR _ _ _ _ _ h.opb (by simp) h.pers
  cur:=nR _ _ _ _ _ h.ocb (by simp) h.cur
  lines:=⟨hv,nR _ _ _ _ _ h.olb (by simp) l1,fun i hi=>(l2 i hi).mono (fun _ hg _=>hg) (fun g hg _=>ne g _ hg (by simp))⟩
  thr:=fun k hk=>nB _ _ _ _ (h.otb k hk) (by simp) (h.thr k hk)
  notes:=fun k hk=>by
   by_cases e:k=j
   ·subst e
    simp only[if_true];exact⟨0,_,Nat.zero_le _,ho,by simp,fun x hx=>by simp[has]at hx,by simp⟩
   ·simp only[e,if_false]
    exact(h.notes k hk).kept (Nat.le_refl _) (ne _ _ (h.onb k hk) (by simpa using e))
  odb:=h.odb,opb:=h.opb,ocb:=h.ocb,olb:=h.olb,otb:=h.otb,onb:=h.onb
  lt:=fun k hk=>Nat.lt_of_lt_of_le (h.lt k hk) hg.size
  pcs:=h.pcs}
theorem Qck(h:IsDev w v own D){j:Nat}(hj:j<8)(hx:D.exec<4294967296) :
  Calls prog 20 #[.pointer (some ⟨v.tb j,0,none⟩)] w fun r w'=>r = .returned (.tuple #[])/\Qr v own w (D.fence j) w':=by
 have c0:w.cell? ⟨v.tb j,0,none⟩=some (.pointer (some ⟨v.db,0,none⟩)):=(h.thr j hj).cell rfl;have hn:=h.wf.le
 by_cases hb:D.countedB true=true
 ·have Hd:Hid (D.fence j=D.tick.sync j):=by
   show D.fence j=_
   have h4:D.onB true=true/\D.cut=false:=by simpa [Dev.countedB]using hb
   simp only[Dev.fence,hb,if_true,Dev.countedD,h4.1,h4.2,Bool.false_eq_true,if_false]
  have H:=hid h;have Hb:=hid hb;clear h hb
  go_enter func20,ntmps20
  go_wp2_with fail
  refine(Tx H.out hj (by omega) Hb.out).mono ?_
  rintro e w1 ⟨rfl,d1,o1,u1⟩;have c3:w1.cell? ⟨v.tb j,3,none⟩=some (.map (some (v.nb j))):=(d1.thr j hj).cell rfl;obtain⟨m,N,n1,n2,n3,n4,n5⟩:=d1.notes j hj;have Hp:=hid (And.intro d1 (And.intro o1 u1));have N1:=hid (And.intro n1 (And.intro n3 (And.intro n4 n5)));clear d1 o1 u1 c0 n1 n3 n4 n5;go_wp2_with (at_range;refine wpList_range_own _ rfl _ 111 rfl 3 31 Q6x underlying111 _ (v.nb j) m _ rfl n2 ?_;intro w0 hrg0 hg0 hs0)
  go_frame
  go_loopw [2] (fun _ wr=>∃ (left:Lit->Bool) (cnt:Nat),wr.ranges prog 3 (plainElem prog 31) (v.nb j) w1.heap.size m N left cnt/\(∀ k,left k=true->Maps.has N k=true)/\IsDev wr v own (D.tick.part j (Xw left))/\Upd (fun k=>own k=some .pers\/own k=some .lines) w1 wr) (fun _ wr=>wr.rangeLeft (v.nb j) w1.heap.size)
  case atStart=>
   have hu:Upd (fun k=>own k=some .pers\/own k=some .lines) w1 w0:=(Upd.refl _ _).grown hg0 (fun k hk _=>by cases hk);refine⟨_,_,hrg0,fun k hk=>hk,?_,hu⟩
   rw[Dev.part_start]
   ·exact Hp.out.1.kept hg0.size (fun k hk=>hg0.block k (Hp.out.1.lt k hk) (by simp))
   ·intro l hl
    cases hnl:D.tick.note j l with
    | none=>rfl
    | some p=>have:=(N1.out.2.2.2 l p hnl).1;simp only[Xw]at hl;rw[this]at hl;cases hl
  case round=>
   obtain⟨left,cnt,hrg,hlh,hd,hu⟩:=hrel;have Hlh:=hid hlh;have HD:=hid hd;have HU:=hid hu;clear hlh hd hu
   go_wp2_with (at_next;refine wpList_next_ranges_ii _ rfl _ rfl 3 31 .i64 .u64 Q6x underlying3 underlying31 (v.nb j) w1.heap.size m _ _ _ rfl hrg ?_ ?_)
   ·intro _ hl0
    have c3':wr.cell? ⟨v.tb j,3,none⟩=some (.map (some (v.nb j))):=(HD.out.thr j hj).cell rfl;have ho:=hrg.owns;have Hl0:=hid hl0;clear hl0 hrg c3;have Ho:=hid ho;clear ho
    go_wp2_with ((with_reducible refine Pt _ rfl _ 111 rfl 3 31 underlying111 _ (v.nb j) m _ rfl Ho.out ?_);intro w3 o3 g3)
    go_end0
    refine⟨rfl,own,?_,fun _ _=>rfl,?_⟩
    ·rw[Hd.out,Dev.part_end D.tick j (Xw left) (fun l=>Hl0.out _)]
     exact HD.out.clear_post hj g3 o3
    ·refine(Hp.out.2.2.trans HU.out (fun i _ hi => ?_)).grown g3 (fun k hk _ => ?_)
     ·rcases hi with hi | hi <;> simp[hi]
     ·cases hk;simp[H.out.onb j hj]
   ·intro x c w2 cnt2 hwx hwc hlx hat hrg2 hlt hg2 hs2 hen
    obtain⟨l,p,rfl,hnl⟩:=N1.out.2.2.1 x (Hlh.out _ hlx);have hcp:c=p:=by
     have:=(N1.out.2.2.2 l p hnl).2 (.lit (.bool true));rw[hat]at this;injection this with this;injection this
    subst hcp;have hw:=H.out.wf.note j l p hnl;have hcn:=H.out.wf.cnt l hw.1;have d2:IsDev w2 v own (D.tick.part j (Xw left)):=HD.out.kept (by omega) (fun k hk=>hg2.block k (HD.out.lt k hk) (fun e=>by have:=Hp.out.1.lt k hk;cases e;omega));have u2:Upd (fun k=>own k=some .pers\/own k=some .lines) w1 w2:=HU.out.grown hg2 (fun k hk hlt=>by cases hk;omega);have c0':w2.cell? ⟨v.tb j,0,none⟩=some (.pointer (some ⟨v.db,0,none⟩)):=(d2.thr j hj).cell rfl;have c2':w2.cell? ⟨v.db,2,none⟩=some (.slice (some ⟨v.lb,0,none⟩) D.n D.n):=d2.dev.cell rfl;obtain⟨hv,l1,l2⟩:=Wo d2;have e0:w2.cell? ⟨v.lb,l*2,none⟩=some (.int .u64 (D.done l)):=by
     rw[(l1 l hw.1).1,Dev.part_done _ _ _ _ hlx];rfl
    have hl':(l:Int)<D.n:=by omega
    have how:D.tick.owed j l=p-D.done l:=by unfold Dev.owed;rw[hnl];rfl
    have hph:((D.tick.part j (Xw left)).hist l)=D.hist l:=(Dev.part_hist _ _ _ _ hlx).trans rfl;have D2:=hid d2;have U2:=hid u2;have Hlx:=hid hlx;have How:=hid how;have Hph:=hid hph;have Hw:=hid hw
    have Hrg:=hid hrg;have Hrg2:=hid hrg2
    have hls:∀ k,(left k && !k.sameKey (.int .i64 (l:Int)))=true->has N k=true:=fun k hk=>Hlh.out k (by revert hk;cases left k <;> simp)
    have Hls:=hid hls;clear d2 u2 hlx how hph hw hat hnl l1 l2 hrg hrg2 hls hwx hwc;clear hs2 hs0 hg0 hrg0 hg2 c3 n2
    by_cases hpd:D.done l<p
    ·have hpd':(D.done l:Int)<p:=by omega
     have hpb:p<=4294967296:=by have:=Hw.out.2;omega
     have hkk:p-D.done l<=((D.tick.part j (Xw left)).hist l).length:=by rw[Hph.out];have:=Hw.out.2;omega
     have hxx:(D.tick.part j (Xw left)).exec<4611686018:=by show D.exec+1<_;omega
     have HC:=hid (Qf3 D2.out l (p-D.done l) Hw.out.1 hkk hxx);clear hkk hxx;go_wp2_with fail
     rw[show((p:Int)-(D.done l:Int))=((p-D.done l:Nat):Int)from by omega]
     (with_reducible refine HC.out.mono ?_)
     rintro e w3 ⟨rfl,d3,u3⟩;have D3:=hid (Qgk d3 How.out Hlx.out);have U3:=hid (U2.out.trans u3 (fun _ _ h=>h));have R3:=hid (Qkf Hrg2.out u3 (by rw[H.out.onb j hj];simp) (fun hs=>by have:=Hp.out.1.lt w1.heap.size (by rcases hs with hs | hs <;> rw[hs] <;> simp);omega));clear d3 u3;go_wp2_with fail
     go_roundw
     case rel=>exact⟨_,cnt2,R3.out,Hls.out,D3.out,U3.out⟩
     case measure=>rw[R3.out.left_eq,Hrg.out.left_eq];omega
    ·have hpd':¬ (D.done l:Int)<p:=by omega
     have h0:D.tick.owed j l=0:=by rw[How.out];omega
     have D3:=hid (Qgj D2.out h0);clear h0;go_wp2_with fail
     go_roundw
     case rel=>exact⟨_,cnt2,Hrg2.out,Hls.out,D3.out,U2.out⟩
     case measure=>rw[Hrg2.out.left_eq,Hrg.out.left_eq];omega
 ·have hf:D.countedB true=false:=by simpa using hb
  have H:=hid h;have Hf:=hid hf;clear h hb hf
  go_enter func20,ntmps20
  go_wp2_with (go_at_call 51;refine(Nb H.out hj _ Hf.out).mono ?_;rintro e w1 ⟨rfl,hp⟩;have Hp:=hid hp;clear hp)
  (try simp only[Exit.inBlock,Exit.then]);refine bodyPost_ret (results_none rfl _ _ _) rfl ?_
  refine⟨rfl,?_⟩
  simp only[Dev.fence,Hf.out,Bool.false_eq_true,if_false];exact Hp.out
end
end
end Go.Proofs.YtlhchkajjpefmaaGreatDoor
