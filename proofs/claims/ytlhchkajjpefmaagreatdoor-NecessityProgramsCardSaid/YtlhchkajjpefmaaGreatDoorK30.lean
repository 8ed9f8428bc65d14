/- Lemmas and walks, part 30: each theorem says what it proves; no condition beside its own. -/
import Derived.Test.YtlhchkajjpefmaaGreatDoorK29
import Derived.Shelf.SlMaps.Clone
set_option maxHeartbeats 16000000
set_option maxRecDepth 100000
namespace Go.Proofs.YtlhchkajjpefmaaGreatDoor
open Lib(hid)
open Go.RowKit Go.Proofs.Tryz
section
open Go.Maps
structure PgS(s:Nat)(D1 D2:Dev)(q:List (Nat×Nat×Int)):Prop where
 prog:∀ (wx:World) (v:DV) (own:Nat->Option Qp),Nib wx->IsDev wx v own D1->Calls Tryz.prog 25 #[.int .i64 s,(.iface 40 (.pointer (some ⟨v.tb 0,0,none⟩)))] wx fun r w'=>∃ sv,r = .returned (.tuple #[sv,.int .i64 0])/\Acc wx wx.heap.size w' 73 3 sv q.length (Qd q)
 st0:∀ (wx:World) (v:DV) (own:Nat->Option Qp),Nib wx->IsDev wx v own D1->Calls Tryz.prog 76 #[.int .i64 s,(.iface 40 (.pointer (some ⟨v.tb 0,0,none⟩))),.int .i64 0] wx (StT wx)
 st1:∀ (wx:World) (v:DV) (own:Nat->Option Qp),Nib wx->IsDev wx v own D2->Calls Tryz.prog 76 #[.int .i64 s,(.iface 40 (.pointer (some ⟨v.tb 0,0,none⟩))),.int .i64 1] wx (StT wx)
theorem Qxg{F:Nat->Int}(hF:Bd F)(h:Q4q F=true):Gk F 1312:=by
 unfold Q4q at h;simp only[Bool.and_eq_true,List.all_eq_true,List.mem_range,Bool.or_eq_true,Bool.not_eq_true',decide_eq_true_eq]at h;refine⟨hF,fun s hs hu => ?_,fun s t hs ht hu hv hk => ?_⟩
 ·rcases h.1 s hs with h1 | h1
  ·rw[hu]at h1;cases h1
  ·exact h1
 ·rcases h.2 s hs t ht with h1 | h1
  ·rw[hu,hv,decide_eq_true hk]at h1;cases h1
  ·exact h1
section
variable{w:World}{ad:Nat->Nat}
theorem Q9z(R:SyL w ad 64):PgS 0 ((Dev.fresh 64 (fun _=>0)).run 0 Ts) (((Dev.fresh 64 (fun _=>0)).run 0 Ts).run 0 sbQ) sbQ:=by
 have S1:=Qbd (Ge 64) (Nat.le_refl 64);have S2:=R.sb.done Q9a;obtain⟨f3,f4,f5⟩:=Qp1 (n:=64) (by omega);refine⟨fun wx v own hN h => ?_,fun wx v own hN h=>st0 0 1 (.inl ⟨rfl,rfl⟩) hN h S1 (by kernel_rfl) (by kernel_rfl),fun wx v own hN h=>st0 1 2 (.inr ⟨rfl,rfl⟩) hN h S2 (by kernel_rfl) (by kernel_rfl)⟩
 refine(Qs1 hN h S1.grp.on.off S1.grp.on.err S1.vb (by rw[S1.grp.on.n];omega)).mono fun r w' hp => ?_
 rw[S1.cur,S1.grp.on.n]at hp
 rcases hp with ⟨k,_⟩ | ⟨_,k,_⟩ | ⟨_,_,ov,rfl,a2⟩
 ·rw[f3]at k;cases k
 ·rw[f5]at k;exact absurd k (by decide)
 ·rw[f5,f4]at a2
  exact⟨ov,rfl,a2⟩
theorem Zaa(R:SyL w ad 64):PgS 1 ((Dev.fresh 64 (fun _=>0)).run 0 Gg) (((Dev.fresh 64 (fun _=>0)).run 0 Gg).run 0 (Yt 128 (rtW Dq) [98] (ptV 2))) (Yt 128 (rtW Dq) [98] (ptV 2)):=by
 have S1:=Qa9 (Ge 64) (Nat.le_refl 64);have S2:=R.rt.done Q8z;exact⟨fun wx v own hN h=>Qs2 hN h S1 (Nat.le_refl 64) Qa8 Qh2,fun wx v own hN h=>Q7l hN h S1 Qa8 (by kernel_rfl),fun wx v own hN h=>Q7m hN h S2 (by kernel_rfl) (by kernel_rfl)⟩
theorem Zab(R:SyL w ad 64):PgS 2 ((Dev.fresh 64 (fun _=>0)).run 0 Gf) (((Dev.fresh 64 (fun _=>0)).run 0 Gf).run 0 (Zb 640 (rdW 3 4))) (Zb 640 (rdW 3 4)):=by
 have S1:=Qa4 (Ge 64) (Nat.le_refl 64);have S2:=R.rd.done Q8y;exact⟨fun wx v own hN h=>Qs3 hN h S1 (Qvg _ _ _) (Nat.le_refl 64),fun wx v own hN h=>st2 0 1 2 (.inl ⟨rfl,rfl,rfl⟩) hN h S1 (by kernel_rfl) (by kernel_rfl) (by kernel_rfl),fun wx v own hN h=>st2 1 3 4 (.inr ⟨rfl,rfl,rfl⟩) hN h S2 (by kernel_rfl) (by kernel_rfl) (by kernel_rfl)⟩
theorem Zac(R:SyL w ad 64):PgS 3 ((Dev.fresh 64 (fun _=>0)).run 0 Mj) (((Dev.fresh 64 (fun _=>0)).run 0 Mj).run 0 (udQ 3 4 (Ds 1 2 (fun _=>0)))) (udQ 3 4 (Ds 1 2 (fun _=>0))):=by
 have S1:=Cq (Ge 64) (Nat.le_refl 64) 1 2 (by omega) (by omega);have S2:=R.ud.done Q9b;exact⟨fun wx v own hN h=>Qs4 h S1 (Wb (Qqi _ _ _)) (Nat.le_refl 64),fun wx v own hN h=>st3 0 1 2 (.inl ⟨rfl,rfl,rfl⟩) h S1 (Wb (Qqi _ _ _)) (by kernel_rfl) (by kernel_rfl),fun wx v own hN h=>st3 1 3 4 (.inr ⟨rfl,rfl,rfl⟩) h S2 (by kernel_rfl) (by kernel_rfl) (by kernel_rfl)⟩
theorem Zad(R:SyL w ad 64):PgS 4 ((Dev.fresh 64 (fun _=>0)).run 0 Tn) (((Dev.fresh 64 (fun _=>0)).run 0 Tn).run 0 bkQ) bkQ:=by
 have S1:=Io (Ge 64) (Nat.le_refl 64);have S2:=R.bk.done Q8w;have I2:Gk (pgC bkC bkQ) 1312:=Qxg (fun i=>S2.bd i) (by kernel_rfl);exact⟨fun wx v own hN h=>Qs5 h S1 (Nat.le_refl 64) Qer Ql3,fun wx v own hN h=>st4 0 1 0 5 (.inl ⟨rfl,rfl,rfl,rfl⟩) h S1 Qer (by kernel_rfl) (by kernel_rfl) (by kernel_rfl) (by kernel_rfl) (by kernel_rfl),fun wx v own hN h=>st4 1 2 2 0 (.inr ⟨rfl,rfl,rfl,rfl⟩) h S2 I2 (by kernel_rfl) (by kernel_rfl) (by kernel_rfl) (by kernel_rfl) (by kernel_rfl)⟩
theorem Zae(R:SyL w ad 64):PgS 5 ((Dev.fresh 64 (fun _=>0)).run 0 Uk) (((Dev.fresh 64 (fun _=>0)).run 0 Uk).run 0 (Yu lfC 6 2)) (Yu lfC 6 2):=by
 have S1:=Qhk (Ge 64) (Nat.le_refl 64);have S2:=R.lf.done Q8x;exact⟨fun wx v own hN h=>Qs6 h S1.onC (Nat.le_refl 64) rfl rfl Qn2,fun wx v own hN h=>st5 0 1 0 5 (.inl ⟨rfl,rfl,rfl,rfl⟩) h S1.onC (by decide +kernel) (by kernel_rfl) (by kernel_rfl) (by kernel_rfl),fun wx v own hN h=>st5 1 2 2 0 (.inr ⟨rfl,rfl,rfl,rfl⟩) h S2.onC (by decide +kernel) (by kernel_rfl) (by kernel_rfl) (by kernel_rfl)⟩
theorem SyL.atP(R:SyL w ad 64){i:Nat}(hi:i<6):∃ sp q C ok g g64 okB,SyR w (ad i) 64 sp q C ok g g64 okB (fnL i)/\EvP q C g64 okB/\PgS i ((Dev.fresh 64 (fun _=>0)).run 0 sp) (((Dev.fresh 64 (fun _=>0)).run 0 sp).run 0 q) q:=by
 obtain rfl | rfl | rfl | rfl | rfl | rfl:i=0\/i=1\/i=2\/i=3\/i=4\/i=5:=by omega
 ·exact⟨_,_,_,_,_,_,_,R.sb,Q9a,Q9z R⟩
 ·exact⟨_,_,_,_,_,_,_,R.rt,Q8z,Zaa R⟩
 ·exact⟨_,_,_,_,_,_,_,R.rd,Q8y,Zab R⟩
 ·exact⟨_,_,_,_,_,_,_,R.ud,Q9b,Zac R⟩
 ·exact⟨_,_,_,_,_,_,_,R.bk,Q8w,Zad R⟩
 ·exact⟨_,_,_,_,_,_,_,R.lf,Q8x,Zae R⟩
end
end

section
end

section
open Go.Maps
attribute [local go_sem ↓] Go.wp_at_zero Go.wp_at_succ
section
variable{w wb:World}{a n:Nat}{sp q:List (Nat×Nat×Int)}{C:Nat->Int}{ok:(Nat->Int)->Prop}{g g64:(Nat->Int)->Bool->Bool}{okB:(Nat->Int)->Bool}{fn:Nat}
theorem Sk:Calls prog 21 #[] w fun r w'=>∃ b:Nat,r = .returned (.slice (some ⟨b,0,none⟩) 6 6)/\Row w' b 6 3 (fun i => .int .i64 (fnL i))/\Below w.heap.size w w':=by
 go_enter func21,ntmps21
 go_wp2_with fail
 go_ret
 refine⟨_,rfl,⟨_,Blk.new _ _ _,fun i hi => ?_⟩,Qa _ _⟩
 obtain rfl | rfl | rfl | rfl | rfl | rfl:i=0\/i=1\/i=2\/i=3\/i=4\/i=5:=by omega
 all_goals rfl
theorem Ix{b s fn:Nat}(row:Row w b 6 3 (fun i => .int .i64 (fnL i)))(h:s<6)(e:fnL s=fn):w.cell? ⟨b,s,none⟩=some (.int .i64 (fn:Int)):=by
 subst e;exact row.cell h
end
end

section
open Go.Maps
section
variable{w:World}
theorem Qam(b:Nat)(es:Array MapEntry)(clock:Nat)(hb:w.heap[b]? = some (.map es clock)) :
  Calls prog 79 #[.map (some b)] w fun e w'=>e = .returned (.map (some w.heap.size))/\w'=w.alloc (.map es clock):=by
 have hq:=fun wx=>run_eql_map_nil_sl (P:=prog) wx 111 _ _ (some b) underlying111
 go_enter func79,ntmps79
 go_wp2
 rw[run_callFunc_extern func180 (by kernel_rfl) (by kernel_rfl) (by kernel_rfl) (e:=Extern.MapsClone.clone) (by kernel_rfl),run_maps_clone_sl w 111 hb];simp only[Result.andThen];rw[Oper.upon_value]
 go_wp2
 rw[run_typeAssert_map_sl _ 111 _ _ _ _ underlying111];simp only[Result.andThen];rw[Oper.upon_value]
 go_wp2
 go_ret
 exact⟨rfl,rfl⟩
theorem Qin(a:Addr)(n c:Nat)(xs:List (Nat×Int))(h:Ql w 2 (.slice (some a) n c) n (Qv xs))(hn:n<=4294967296) :
  Calls prog 78 #[.slice (some a) n c] w fun r w'=>∃ g cap,r = .returned (.slice (some ⟨g,0,none⟩) n cap)/\Qj w' 140 2 (.slice (some ⟨g,0,none⟩) n cap) n (Qv xs)/\w.heap.size<=g/\Below w.heap.size w w':=by
 obtain⟨i0,hi,hz0,hz1,hz2⟩:=info_parts Xe;have I:=hid (And.intro hi (And.intro hz0 (And.intro hz1 hz2)));clear hi hz0 hz1 hz2
 have H:=hid h;have H1:=hid (Xp xs);clear h
 generalize Qv xs=fx at *
 have hq:=fun wx=>Lib.run_eql_slice_nil (P:=prog) wx 52 140 (some a) n c 0 0 underlying52
 go_enter func78,ntmps78
 go_wp2_with (at_builtin;refine Qc _ rfl _ _ 52 rfl 140 i0 _ 2 16 underlying52 I.out.1 I.out.2.1 I.out.2.2.1 I.out.2.2.2 rfl (by decide) _ 0 [] rfl ?h0 _ n fx rfl ?h1 ?h2 ?h3 ?h4 ?_)
 case h0=>exact Qj.new _ _ _ 2 0 0 rfl (Nat.le_refl _) (Nat.zero_le _)
 case h1=>exact H.out.alloc _
 case h2=>exact H1.out
 case h3=>unfold maxLen;omega
 case h4=>omega
 intro v' w1 o1 g1 b1 n1;have O1:=hid o1;have G1:=hid g1;have B1:=hid b1;clear o1 g1 b1 n1
 go_wp2
 go_ret
 have hb:Below w.heap.size w w1:=((Below.refl _ _).alloc (Nat.le_refl _) _).grown G1.out (by simp) (fun k hk=>by cases hk;exact Nat.le_refl _);obtain⟨a',c',hv⟩:=O1.out.slice;have O2:=O1.out;have B2:=B1.out;rw[hv]at O2 B2
 rcases B2 with h | h
 ·simp only[Zc]at h
  subst h;exact⟨w.heap.size,c',by rw[<- hv];rfl,O2,Nat.le_refl _,hb⟩
 ·simp only[Zc]at h
  subst h;exact⟨w.heap.size+1,c',by rw[<- hv];rfl,O2,Nat.le_succ _,hb⟩
end
end
section
open Go.Maps
structure Ct(w0:World)(v v':DV)(own own':Nat->Option Qp)(D:Dev)(kl kt kn:Nat)(w:World):Prop where
 src:IsDev w v own D
 old:∀ k,own k≠none->k<w0.heap.size
 dev:Blk w v'.db (Zm v' {D with off:=false,armed:=false,left:=0,exec:=0}) 88
 pers:Row w v'.pb (8*D.n) 31 (fun i => .int .u64 (D.pers i))
 cur:Row w v'.cb (8*D.n) 31 (fun i => .int .u64 (D.cur i))
 lines:∃ F:Nat->Value,Row w v'.lb (2*D.n) 119 F/\∀ i,i<kl->F (2*i) = .int .u64 (D.done i)/\Lr w own' 140 i (F (2*i+1)) (D.hist i)
 thr:∀ j,j<8->Blk w (v'.tb j) #[.pointer (some ⟨v'.db,0,none⟩),.int .i64 j,.int .i64 (if j<kt then D.err j else 0),.map (some (v'.nb j))] 113
 notes:∀ j,j<8->Vr prog 3 31 w (v'.nb j) D.exec (if j<kn then D.note j else fun _=>none)
 odb:own' v'.db=some .dev
 opb:own' v'.pb=some .pers
 ocb:own' v'.cb=some .cur
 olb:own' v'.lb=some .lines
 otb:∀ j,j<8->own' (v'.tb j)=some (.thr j)
 onb:∀ j,j<8->own' (v'.nb j)=some (.notes j)
 lt:∀ k,own' k≠none->k<w.heap.size
 new:∀ k,own' k≠none->w0.heap.size<=k
 bel:Below w0.heap.size w0 w
 pcs:8*D.n<=v'.pc/\8*D.n<=v'.cc
section
variable{w0 w w1:World}{v v':DV}{own own':Nat->Option Qp}{D:Dev}{kl kt kn:Nat}
theorem Ct.next(h:Ct w0 v v' own own' D kl kt kn w)(hb:Below w.heap.size w w1):Ct w0 v v' own own' D kl kt kn w1:=by
 obtain⟨F,h1,h2⟩:=h.lines;exact {
  src:=h.src.below hb,old:=h.old,dev:=h.dev.below hb,pers:=h.pers.below hb,cur:=h.cur.below hb
  lines:=⟨F,h1.below hb,fun i hi=>⟨(h2 i hi).1,(h2 i hi).2.mono (fun _ hg _=>hg) (fun g hg _=>hb.block g (h.lt g (by rw[hg];simp)))⟩⟩
  thr:=fun j hj=>(h.thr j hj).below hb
  notes:=fun j hj=>(h.notes j hj).kept (Nat.le_refl _) (hb.block _ (h.lt _ (by rw[h.onb j hj];simp)))
  odb:=h.odb,opb:=h.opb,ocb:=h.ocb,olb:=h.olb,otb:=h.otb,onb:=h.onb
  lt:=fun k hk=>Nat.lt_of_lt_of_le (h.lt k hk) hb.size
  new:=h.new,bel:=h.bel.trans (hb.mono h.bel.size),pcs:=h.pcs}
theorem Ct.start(hold:∀ k,own k≠none->k<w0.heap.size)(hd:IsDev w v own D)(hn:IsDev w v' own' (Dev.fresh D.n D.pers))(ho:∀ k,own' k≠none->w0.heap.size<=k)(hb:Below w0.heap.size w0 w)
  (hu:Upd (fun k=>k=v'.cb) w w1) (hc:Row w1 v'.cb (8*D.n) 31 (fun i => .int .u64 (D.cur i))):Ct w0 v v' own own' D 0 0 0 w1:=by
 obtain⟨hv,l1,_⟩:=hn.lines;have hcb:=ho v'.cb (by rw[hn.ocb];simp);exact {
  src:=hd.upd hu (fun k hk e=>by have:=hold k hk;omega)
  old:=hold
  dev:=hn.dev.upd hu (Zf hn.odb hn.ocb (by simp))
  pers:=hn.pers.upd hu (Zf hn.opb hn.ocb (by simp))
  cur:=hc
  lines:=⟨_,l1.upd hu (Zf hn.olb hn.ocb (by simp)),fun i hi=>by omega⟩
  thr:=fun j hj=>(hn.thr j hj).upd hu (Zf (hn.otb j hj) hn.ocb (by simp))
  notes:=fun j hj=>(hn.notes j hj).kept (Nat.zero_le _) (hu.block _ (hn.lt _ (by rw[hn.onb j hj];simp)) (Zf (hn.onb j hj) hn.ocb (by simp)))
  odb:=hn.odb,opb:=hn.opb,ocb:=hn.ocb,olb:=hn.olb,otb:=hn.otb,onb:=hn.onb
  lt:=fun k hk=>Nat.lt_of_lt_of_le (hn.lt k hk) hu.size
  new:=ho
  bel:=⟨hu.os.trans hb.os,hu.tape.trans hb.tape,hu.output.trans hb.output,Nat.le_trans hb.size hu.size,fun k hk=>by rw[hu.block k (Nat.lt_of_lt_of_le hk hb.size) (by omega)];exact hb.block k hk⟩
  pcs:=hn.pcs}
theorem Ct.line{l:Nat}(h:Ct w0 v v' own own' D l kt kn w)(hl:l<D.n)(sv:Value)(ho:Qj w 140 2 sv (D.hist l).length (Qv (D.hist l)))(hg:∀ g,sv.ownBlock=some g->own' g=none/\w0.heap.size<=g) :
  ∃ own2,Ct w0 v v' own own2 D (l+1) kt kn ((w.setCell ⟨v'.lb,l*2,none⟩ (.int .u64 (D.done l))).setCell ⟨v'.lb,l*2+1,none⟩ sv):=by
 obtain⟨F,h1,h2⟩:=h.lines;have hlb:=h.new v'.lb (by rw[h.olb];simp);have hu:Upd (fun k=>k=v'.lb) w ((w.setCell ⟨v'.lb,l*2,none⟩ (.int .u64 (D.done l))).setCell ⟨v'.lb,l*2+1,none⟩ sv):=((Upd.refl (fun k=>k=v'.lb) w).setCell (p:=⟨v'.lb,l*2,none⟩) (fun _=>rfl) _).setCell (p:=⟨v'.lb,l*2+1,none⟩) (fun _=>rfl) _;have key:∀ k r,own' k=some r->sv.ownBlock≠some k:=fun k r hk e=>by rw[(hg k e).1]at hk;cases hk
 have hsl:∀ g,sv.ownBlock=some g->g≠v'.lb:=fun g hg2 e=>key _ _ h.olb (by rw[hg2,e])
 let own2:Nat->Option Qp:=fun k=>if sv.ownBlock=some k then some (.hist l)else own' k
 have k2:∀ k r,own' k=some r->own2 k=some r:=fun k r hk=>by show(if _ then _ else _)=_;rw[if_neg (key k r hk),hk]
 refine⟨own2,{
  src:=h.src.upd hu (fun k hk e=>by have:=h.old k hk;omega)
  old:=h.old
  dev:=h.dev.upd hu (Zf h.odb h.olb (by simp))
  pers:=h.pers.upd hu (Zf h.opb h.olb (by simp))
  cur:=h.cur.upd hu (Zf h.ocb h.olb (by simp))
  lines:=⟨_,(h1.set (l*2) (.int .u64 (D.done l))).set (l*2+1) sv,fun i hi => ?_⟩
  thr:=fun j hj=>(h.thr j hj).upd hu (Zf (h.otb j hj) h.olb (by simp))
  notes:=fun j hj=>(h.notes j hj).kept (Nat.le_refl _) (hu.block _ (h.lt _ (by rw[h.onb j hj];simp)) (Zf (h.onb j hj) h.olb (by simp)))
  odb:=k2 _ _ h.odb,opb:=k2 _ _ h.opb,ocb:=k2 _ _ h.ocb,olb:=k2 _ _ h.olb,otb:=fun j hj=>k2 _ _ (h.otb j hj),onb:=fun j hj=>k2 _ _ (h.onb j hj)
  lt:=fun k hk => ?_
  new:=fun k hk => ?_
  bel:=⟨hu.os.trans h.bel.os,hu.tape.trans h.bel.tape,hu.output.trans h.bel.output,Nat.le_trans h.bel.size hu.size,fun k hk=>by rw[hu.block k (Nat.lt_of_lt_of_le hk h.bel.size) (by omega)];exact h.bel.block k hk⟩
  pcs:=h.pcs}⟩
 ·by_cases e:i=l
  ·subst e
   rw[if_neg (by omega),if_pos (by omega),if_pos (by omega)];refine⟨rfl,ho.upd hu (fun k hk e=>hsl k hk e),fun g hg2 => ?_⟩
   show(if _ then _ else _)=_
   rw[if_pos hg2]
  ·rw[if_neg (by omega),if_neg (by omega),if_neg (by omega),if_neg (by omega)]
   obtain⟨e1,e2⟩:=h2 i (by omega);refine⟨e1,e2.mono (fun g hg2 _=>k2 _ _ hg2) (fun g hg2 _=>hu.block g (h.lt g (by rw[hg2];simp)) (Zf hg2 h.olb (by simp)))⟩
 ·have hk':(if sv.ownBlock=some k then some (Qp.hist l)else own' k)≠none:=hk
  refine Nat.lt_of_lt_of_le ?_ hu.size
  by_cases e:sv.ownBlock=some k
  ·exact ho.lt k e
  ·rw[if_neg e]at hk';exact h.lt k hk'
 ·have hk':(if sv.ownBlock=some k then some (Qp.hist l)else own' k)≠none:=hk
  by_cases e:sv.ownBlock=some k
  ·exact(hg k e).2
  ·rw[if_neg e]at hk';exact h.new k hk'
theorem Ct.err{j:Nat}(h:Ct w0 v v' own own' D kl j kn w)(hj:j<8):Ct w0 v v' own own' D kl (j+1) kn (w.setCell ⟨v'.tb j,2,none⟩ (.int .i64 (D.err j))):=by
 obtain⟨F,h1,h2⟩:=h.lines;have ht:=h.otb j hj;have hlt:=h.new (v'.tb j) (by rw[ht];simp);have hu:Upd (fun k=>k=v'.tb j) w (w.setCell ⟨v'.tb j,2,none⟩ (.int .i64 (D.err j))):=(Upd.refl (fun k=>k=v'.tb j) w).setCell (p:=⟨v'.tb j,2,none⟩) (fun _=>rfl) _;exact {
  src:=h.src.upd hu (fun k hk e=>by have:=h.old k hk;omega)
  old:=h.old
  dev:=h.dev.upd hu (Zf h.odb ht (by simp))
  pers:=h.pers.upd hu (Zf h.opb ht (by simp))
  cur:=h.cur.upd hu (Zf h.ocb ht (by simp))
  lines:=⟨F,h1.upd hu (Zf h.olb ht (by simp)),fun i hi=>⟨(h2 i hi).1,(h2 i hi).2.mono (fun _ hg _=>hg) (fun g hg _=>hu.block g (h.lt g (by rw[hg];simp)) (Zf hg ht (by simp)))⟩⟩
  thr:=fun i hi=>by
   by_cases e:i=j
   ·subst e
    have:=(h.thr i hi).set 2 (.int .i64 (D.err i));rw[if_neg (by omega)]at this;rw[if_pos (by omega)];exact this
   ·have:=(h.thr i hi).upd hu (Zf (h.otb i hi) ht (by simp;exact e))
    by_cases hlt:i<j
    ·rw[if_pos hlt]at this;rw[if_pos (by omega)];exact this
    ·rw[if_neg hlt]at this;rw[if_neg (by omega)];exact this
  notes:=fun i hi=>(h.notes i hi).kept (Nat.le_refl _) (hu.block _ (h.lt _ (by rw[h.onb i hi];simp)) (Zf (h.onb i hi) ht (by simp)))
  odb:=h.odb,opb:=h.opb,ocb:=h.ocb,olb:=h.olb,otb:=h.otb,onb:=h.onb
  lt:=fun k hk=>Nat.lt_of_lt_of_le (h.lt k hk) hu.size
  new:=h.new
  bel:=⟨hu.os.trans h.bel.os,hu.tape.trans h.bel.tape,hu.output.trans h.bel.output,Nat.le_trans h.bel.size hu.size,fun k hk=>by rw[hu.block k (Nat.lt_of_lt_of_le hk h.bel.size) (by omega)];exact h.bel.block k hk⟩
  pcs:=h.pcs}
theorem Ct.note{j g:Nat}(h:Ct w0 v v' own own' D kl kt j w)(hj:j<8)(hn:Vr prog 3 31 w g D.exec (D.note j))(hg:own' g=none)(hgl:w0.heap.size<=g)(hgs:g<w.heap.size) :
  ∃ own2,Ct w0 v {v' with nb:=fun i=>if i=j then g else v'.nb i} own own2 D kl kt (j+1) (w.setCell ⟨v'.tb j,3,none⟩ (.map (some g))):=by
 obtain⟨F,h1,h2⟩:=h.lines;have ht:=h.otb j hj;have hlt:=h.new (v'.tb j) (by rw[ht];simp);have hu:Upd (fun k=>k=v'.tb j) w (w.setCell ⟨v'.tb j,3,none⟩ (.map (some g))):=(Upd.refl (fun k=>k=v'.tb j) w).setCell (p:=⟨v'.tb j,3,none⟩) (fun _=>rfl) _
 let own2:Nat->Option Qp:=fun k=>if k=g then some (.notes j)else own' k
 have k2:∀ k r,own' k=some r->own2 k=some r:=fun k r hk=>by show(if _ then _ else _)=_;rw[if_neg (fun e=>by rw[e,hg]at hk;cases hk),hk]
 have hgt:g≠v'.tb j:=fun e=>by rw[e,ht]at hg;cases hg
 refine⟨own2,{
  src:=h.src.upd hu (fun k hk e=>by have:=h.old k hk;omega)
  old:=h.old
  dev:=h.dev.upd hu (Zf h.odb ht (by simp))
  pers:=h.pers.upd hu (Zf h.opb ht (by simp))
  cur:=h.cur.upd hu (Zf h.ocb ht (by simp))
  lines:=⟨F,h1.upd hu (Zf h.olb ht (by simp)),fun i hi=>⟨(h2 i hi).1,(h2 i hi).2.mono (fun _ hg2 _=>k2 _ _ hg2) (fun g2 hg2 _=>hu.block g2 (h.lt g2 (by rw[hg2];simp)) (Zf hg2 ht (by simp)))⟩⟩
  thr:=fun i hi=>by
   by_cases e:i=j
   ·subst e
    have:=(h.thr i hi).set 3 (.map (some g));simp only[if_true];exact this
   ·have:=(h.thr i hi).upd hu (Zf (h.otb i hi) ht (by simp;exact e))
    simp only[if_neg e];exact this
  notes:=fun i hi=>by
   by_cases e:i=j
   ·subst e
    simp only[if_true];rw[if_pos (by omega)];exact hn.kept (Nat.le_refl _) (hu.block _ hgs hgt)
   ·simp only[if_neg e]
    have:=(h.notes i hi).kept (Nat.le_refl _) (hu.block _ (h.lt _ (by rw[h.onb i hi];simp)) (Zf (h.onb i hi) ht (by simp)))
    by_cases hlt:i<j
    ·rw[if_pos hlt]at this;rw[if_pos (by omega)];exact this
    ·rw[if_neg hlt]at this;rw[if_neg (by omega)];exact this
  odb:=k2 _ _ h.odb,opb:=k2 _ _ h.opb,ocb:=k2 _ _ h.ocb,olb:=k2 _ _ h.olb,otb:=fun i hi=>k2 _ _ (h.otb i hi)
  onb:=fun i hi=>by
   by_cases e:i=j
   ·subst e
    simp only[if_true];show(if _ then _ else _)=_
    rw[if_pos rfl]
   ·simp only[if_neg e]
    exact k2 _ _ (h.onb i hi)
  lt:=fun k hk => ?_
  new:=fun k hk => ?_
  bel:=⟨hu.os.trans h.bel.os,hu.tape.trans h.bel.tape,hu.output.trans h.bel.output,Nat.le_trans h.bel.size hu.size,fun k hk=>by rw[hu.block k (Nat.lt_of_lt_of_le hk h.bel.size) (by omega)];exact h.bel.block k hk⟩
  pcs:=h.pcs}⟩
 ·have hk':(if k=g then some (Qp.notes j)else own' k)≠none:=hk
  refine Nat.lt_of_lt_of_le ?_ hu.size
  by_cases e:k=g
  ·omega
  ·rw[if_neg e]at hk';exact h.lt k hk'
 ·have hk':(if k=g then some (Qp.notes j)else own' k)≠none:=hk
  by_cases e:k=g
  ·omega
  ·rw[if_neg e]at hk';exact h.new k hk'
theorem Ct.whole{w2:World}(h:Ct w0 v v' own own' D D.n 8 8 w)(hu:Upd (fun k=>k=v'.db) w w2)(hd:Blk w2 v'.db (Zm v' D) 88):IsDev w2 v own D/\IsDev w2 v' own' D/\(∀ k,own' k≠none->w0.heap.size<=k)/\Below w0.heap.size w0 w2:=by
 obtain⟨F,h1,h2⟩:=h.lines;have hlt:=h.new v'.db (by rw[h.odb];simp);refine⟨h.src.upd hu (fun k hk e=>by have:=h.old k hk;omega),{
  wf:=h.src.wf
  dev:=hd
  pers:=h.pers.upd hu (Zf h.opb h.odb (by simp))
  cur:=h.cur.upd hu (Zf h.ocb h.odb (by simp))
  lines:=⟨fun i=>F (2*i+1),(h1.upd hu (Zf h.olb h.odb (by simp))).congr (fun j hj => ?_),fun i hi=>(h2 i hi).2.mono (fun _ hg _=>hg) (fun g hg _=>hu.block g (h.lt g (by rw[hg];simp)) (Zf hg h.odb (by simp)))⟩
  thr:=fun j hj=>by
   have:=(h.thr j hj).upd hu (Zf (h.otb j hj) h.odb (by simp));rw[if_pos hj]at this;exact this
  notes:=fun j hj=>by
   have:=(h.notes j hj).kept (Nat.le_refl _) (hu.block _ (h.lt _ (by rw[h.onb j hj];simp)) (Zf (h.onb j hj) h.odb (by simp)));rw[if_pos hj]at this;exact this
  odb:=h.odb,opb:=h.opb,ocb:=h.ocb,olb:=h.olb,otb:=h.otb,onb:=h.onb
  lt:=fun k hk=>Nat.lt_of_lt_of_le (h.lt k hk) hu.size
  pcs:=h.pcs},h.new,⟨hu.os.trans h.bel.os,hu.tape.trans h.bel.tape,hu.output.trans h.bel.output,Nat.le_trans h.bel.size hu.size,fun k hk=>by rw[hu.block k (Nat.lt_of_lt_of_le hk h.bel.size) (by omega)];exact h.bel.block k hk⟩⟩
 by_cases e:j%2=0
 ·rw[if_pos e]
  have:=(h2 (j/2) (by omega)).1;rw[show 2*(j/2)=j by omega]at this;exact this
 ·rw[if_neg e]
  show F j=F (2*(j/2)+1)
  rw[show 2*(j/2)+1=j by omega]
end
end
section
open Go.Maps
theorem Qt8:(Tryz.prog.info? 31).map (·.size)=some 1:=by kernel_rfl
theorem Va(f:Nat->Int)(n:Nat):Xb (Qjd f n)=(List.range n).map fun i => .int .u64 (f i):=by
 unfold Xb Qjd;rw[List.map_map]
 rfl
section
variable{w:World}{v:DV}{own:Nat->Option Qp}{D:Dev}
theorem Qio:Calls prog 78 #[.slice none 0 0] w fun r w'=>r = .returned (.slice none 0 0)/\w=w':=by
 have hq:=fun wx=>Lib.run_eql_slice_nil (P:=prog) wx 52 140 none 0 0 0 0 underlying52
 go_enter func78,ntmps78
 go_wp2
 go_ret
 exact⟨rfl,rfl⟩
theorem Ql7(hv:Value)(xs:List (Nat×Int))(h:Qj w 140 2 hv xs.length (Qv xs))(hn:xs.length<=4294967296) :
  Calls prog 78 #[hv] w fun r w'=>∃ sv,r = .returned sv/\Qj w' 140 2 sv xs.length (Qv xs)/\(∀ g,sv.ownBlock=some g->w.heap.size<=g)/\Below w.heap.size w w':=by
 rcases h.2 with ⟨rfl,e⟩ | ⟨g,o,cap,cur,rfl,_⟩
 ·refine Qio.mono ?_
  rintro r w' ⟨rfl,rfl⟩;exact⟨_,rfl,h,fun g hg=>by simp[Value.ownBlock]at hg,Below.refl _ _⟩
 ·refine(Qin ⟨g,o,none⟩ xs.length cap xs h.rd hn).mono ?_
  rintro r w' ⟨g2,cap2,rfl,h1,h2,h3⟩;exact⟨_,rfl,h1,fun g hg=>by simp[Value.ownBlock]at hg;omega,h3⟩
theorem Qrz{w2:World}{v':DV}{own':Nat->Option Qp}(hd:IsDev w2 v own D)(hn:IsDev w2 v' own' (Dev.fresh D.n D.pers)) :
  ∃ w3,(∀ ty,(Builtin.copy_ #[56,56] ty #[.slice (some ⟨v'.cb,0,none⟩) (8*D.n) v'.cc,.slice (some ⟨v.cb,0,none⟩) (8*D.n) v.cc]).run prog w2 = .ok (goInt ((8*D.n:Nat):Int)) w3) /\
   Upd (fun k=>k=v'.cb) w2 w3/\Row w3 v'.cb (8*D.n) 31 (fun i => .int .u64 (D.cur i)):=by
 obtain⟨c,hb,hc⟩:=hn.cur;have hcs:∀ i,i<8*D.n->c[i]? ≠ none:=fun i hi=>by rw[hc i hi];simp
 have hsz:8*D.n<=c.size:=by
  rcases Nat.lt_or_ge c.size (8*D.n)with h | h
  ·exact(hcs c.size h (by simp)).elim
  ·exact h
 have hlen:(Xb (Qjd D.cur (8*D.n))).length=8*D.n:=by rw[Va];simp
 have hr:=fun ty=>run_copy_row (P:=prog) w2 56 56 ty 31 v'.cb 0 (8*D.n) v'.cc ⟨v.cb,0,none⟩ (8*D.n) v.cc c 31 (Xb (Qjd D.cur (8*D.n))) underlying56 Qt8 hb (by rw[hlen];simp)
  (fun j u hj=>by
   rw[Addr.add_lit];rw[Va]at hj;have hj2:j<8*D.n:=by
    rcases Nat.lt_or_ge j (8*D.n)with h | h
    ·exact h
    ·rw[List.getElem?_eq_none (by simpa using h)]at hj;cases hj
   rw[List.getElem?_map,List.getElem?_range hj2]at hj
   cases hj
   simpa using hd.cur.cell hj2) (by rw[hlen];omega) (fun u hu=>by rw[Va]at hu;simp at hu;obtain⟨i,_,rfl⟩:=hu;rfl)
 refine⟨w2.setRow v'.cb (c.toList.take 0++Xb (Qjd D.cur (8*D.n))++c.toList.drop (0+8*D.n)).toArray,fun ty=>by rw[hr ty,hlen],⟨rfl,rfl,rfl,by simp[World.setRow],fun k hk hne=>setRow_other _ _ _ _ hne⟩,_,setRow_heap _ _ _ _ 31 (0,0) hb,fun i hi => ?_⟩
 simp only[List.take_zero,List.nil_append,Va,List.getElem?_toArray];rw[List.getElem?_append_left (by simpa using hi),List.getElem?_map,List.getElem?_range hi]
 rfl
def Qzy(v:DV):List Value:=(List.range 8).map fun j => .pointer (some ⟨v.tb j,0,none⟩)
theorem Qqd(h:Blk w v.db (Zm v D) 88):w.rangeAt v.db 3 (Qzy v):=by
 intro j u hu;unfold Qzy at hu;have hj:j<8:=by
  rcases Nat.lt_or_ge j 8 with h | h
  ·exact h
  ·rw[List.getElem?_eq_none (by simpa using h)]at hu;cases hu
 rw[List.getElem?_map,List.getElem?_range hj]at hu
 cases hu
 exact h.cell (Uz v D j hj)
theorem Quj(v:DV):(Tryz.prog.info? 86).map (·.size)=some (Qzy v).length:=by show _=some 8;kernel_rfl
theorem Qqc(v:DV)(j:Nat)(hj:j<8)(wx:World):(Instr.index 86 (.agg (Qzy v).toArray) (.int .i64 (j:Int))).run prog wx = .ok (.pointer (some ⟨v.tb j,0,none⟩)) wx:=by
 obtain rfl | rfl | rfl | rfl | rfl | rfl | rfl | rfl:j=0\/j=1\/j=2\/j=3\/j=4\/j=5\/j=6\/j=7:=by omega
 all_goals kernel_rfl
theorem Qim{b B:Nat}{f:Nat->Option Nat}(h:Vr prog 3 31 w b B f) :
  Calls prog 79 #[.map (some b)] w fun e w'=>e = .returned (.map (some w.heap.size))/\Vr prog 3 31 w' w.heap.size B f/\w.heap.size<w'.heap.size/\Below w.heap.size w w':=by
 obtain⟨m,N,hm,⟨es,clock,hb,F,hs,hD⟩,h3⟩:=h;refine(Qam b es clock hb).mono ?_
 rintro e w' ⟨rfl,rfl⟩;exact⟨rfl,⟨m,N,hm,⟨es,clock,(MapKept.heap_alloc w _).1,F,hs,hD⟩,h3⟩,by rw[show(w.alloc (.map es clock)).heap.size=w.heap.size+1 from Array.size_push _];omega,(Below.refl _ w).alloc (Nat.le_refl _) _⟩
theorem Qry(h:IsDev w v own D)(hx:D.exec<4294967296):Calls prog 28 #[.pointer (some ⟨v.db,0,none⟩)] w fun r w'=>∃ v' own',r = .returned (.pointer (some ⟨v'.db,0,none⟩))/\IsDev w' v own D/\IsDev w' v' own' D/\(∀ k,own' k≠none->w.heap.size<=k)/\Below w.heap.size w w':=by
 have H:=hid h;have hold:=hid h.lt;have c0:w.cell? ⟨v.db,0,none⟩=some (.slice (some ⟨v.pb,0,none⟩) (8*D.n) v.pc):=h.dev.cell rfl;have hpos:=h.wf.pos;have hle:=h.wf.le
 have HCL:=hid (Mz ⟨v.pb,0,none⟩ (8*D.n) v.pc _ (Qvn h.pers h.pcs.1) (by intro u hu;rw[Va]at hu;simp at hu;obtain⟨i,_,rfl⟩:=hu;rfl) (by omega));clear h
 go_enter func28,ntmps28
 go_wp2_with fail
 (with_reducible refine HCL.out.mono ?_)
 rintro e w1 ⟨g,cap,rfl,ho1,hg1,b1⟩;rw[Va]at ho1;obtain⟨hrow,hcap⟩:=ho1.row;have HOF:=hid (Qo0 g cap D.n D.pers hrow hpos hle hcap);have B1:=hid b1;have G1:=hid hg1
 clear ho1 hrow hcap b1 hg1 c0;go_wp2_with fail
 (with_reducible refine HOF.out.mono ?_)
 rintro e w2 ⟨v',own',rfl,_,_,d2,o2,b2⟩;have B2:=hid (B1.out.trans (b2.mono B1.out.size));have O2:Hid (∀ k,own' k≠none->w.heap.size<=k):=fun k hk=>by have:=o2 k hk;have:=B1.out.size;have:=G1.out;omega
 have D2:=hid d2;have H2:=hid (H.out.below B2.out);clear d2 o2 b2 HOF HCL G1 B1;obtain⟨w3,hcp,u3,r3⟩:=Qrz (H2.out.drew) (D2.out.drew);have A0:=hid (Ct.start hold.out H2.out.drew D2.out.drew O2.out (B2.out.drew) u3 r3);have hcd:Hid (Blk w2 v'.db (Zm v' (Dev.fresh D.n D.pers)) 88/\Blk w2 v.db (Zm v D) 88):=⟨D2.out.dev,H2.out.dev⟩;have hS:Hid (Blk w3 v'.db (Zm v' (Dev.fresh D.n D.pers)) 88/\Blk w3 v.db (Zm v D) 88):=⟨A0.out.dev,A0.out.src.dev⟩;go_wp2_with fail
 refine wp_region_held (S:=(fun wx=>Blk wx v'.db (Zm v' (Dev.fresh D.n D.pers)) 88/\Blk wx v.db (Zm v D) 88)) (by kernel_rfl) ?_
 change wpAnyH _ _ _ _ _ _ _ _ (World.drew _)
 refine tkH 0 (.pointer (some ⟨v'.db,0,none⟩)) rfl (fun w _=>by go_simp) hcd.out ?_
 refine tkH 1 (.pointer (some ⟨v'.db,0,none⟩)) rfl (fun w _=>by go_simp) hcd.out ?_
 refine tkH 2 (.pointer (some ⟨v'.db,1,none⟩)) rfl (fun w _=>by go_simp) hcd.out ?_
 refine tkH 3 (.slice (some ⟨v'.cb,0,none⟩) (8*D.n) v'.cc) rfl (fun wx hx=>(by have c:=hx.1.cell (i:=1) (v:=.slice (some ⟨v'.cb,0,none⟩) (8*D.n) v'.cc) rfl;go_simp)) hcd.out ?_
 refine tkH 4 (.pointer (some ⟨v.db,0,none⟩)) rfl (fun w _=>by go_simp) hcd.out ?_
 refine tkH 5 (.pointer (some ⟨v.db,0,none⟩)) rfl (fun w _=>by go_simp) hcd.out ?_
 refine tkH 6 (.pointer (some ⟨v.db,1,none⟩)) rfl (fun w _=>by go_simp) hcd.out ?_
 refine tkH 7 (.slice (some ⟨v.cb,0,none⟩) (8*D.n) v.cc) rfl (fun wx hx=>(by have c:=hx.2.cell (i:=1) (v:=.slice (some ⟨v.cb,0,none⟩) (8*D.n) v.cc) rfl;go_simp)) hcd.out ?_
 refine onH 8 rfl (fun K hK => ?_);go_simp;refine hK _ _ ⟨hS.out,?_⟩;clear hK K
 refine wpAnyH_done (by kernel_rfl) ?_ _
 have c2:w3.cell? ⟨v.db,2,none⟩=some (.slice (some ⟨v.lb,0,none⟩) D.n D.n):=hS.out.2.cell rfl;clear hcp u3 r3 hcd;go_wp2_with fail
 go_loopw [30] (fun y wr=>∃ l:Nat,l<=D.n/\y = .int .i64 l/\∃ own2,Ct w v v' own own2 D l 0 0 wr) (fun y _=>D.n-(intOf y).toNat)
 case atStart=>exact⟨0,by omega,rfl,own',A0.out⟩
 case round=>
  obtain⟨l,hl,rfl,own2,ha⟩:=hrel;have A:=hid ha;clear ha c2 A0 hS D2 H2 O2 B2
  by_cases hlt:l<D.n
  ·have hl1:(l:Int)<D.n:=by omega
   obtain⟨hv,l1,l2⟩:=Wo A.out.src;obtain⟨e0,e1⟩:=l1 l hlt;have HH:=hid (l2 l hlt).1;have hlen:=A.out.src.wf.cnt l hlt;obtain⟨ha,hc,hve⟩:=(l2 l hlt).1.slice;obtain⟨hvl,hvv⟩:∃ u,hv l=u:=⟨_,rfl⟩;rw[hvv]at e1 HH hve;subst hve;obtain⟨dn,hdn⟩:∃ d,D.done l=d:=⟨_,rfl⟩;rw[hdn]at e0;have A4:=hid (A.out.next (Xn wr (.cells #[.int .u64 dn,.slice ha (D.hist l).length hc] 119)));have BX:Hid (Blk (wr.alloc (.cells #[.int .u64 dn,.slice ha (D.hist l).length hc] 119)).drew wr.heap.size #[.int .u64 dn,.slice ha (D.hist l).length hc] 119):=(Blk.new wr _ _).drew;have H4:Hid (Qj (wr.alloc (.cells #[.int .u64 dn,.slice ha (D.hist l).length hc] 119)).drew 140 2 (.slice ha (D.hist l).length hc) (D.hist l).length (Qv (D.hist l))):=(HH.out.alloc _).drew;have SS:Hid (Blk (wr.alloc (.cells #[.int .u64 dn,.slice ha (D.hist l).length hc] 119)).drew v'.db (Zm v' {D with off:=false,armed:=false,left:=0,exec:=0}) 88/\Blk (wr.alloc (.cells #[.int .u64 dn,.slice ha (D.hist l).length hc] 119)).drew wr.heap.size #[.int .u64 dn,.slice ha (D.hist l).length hc] 119):=⟨A4.out.dev,BX.out⟩;have HCH:=hid (Ql7 _ _ H4.out (by omega));have hlb:=A.out.lt v'.lb (by rw[A.out.olb];simp);have hdb:=Zf A.out.odb A.out.olb (by simp);clear l1 l2 hvv HH;go_wp2_with fail
   refine wp_region_held (S:=(fun wx=>Blk wx v'.db (Zm v' {D with off:=false,armed:=false,left:=0,exec:=0}) 88/\Blk wx wr.heap.size #[.int .u64 dn,.slice ha (D.hist l).length hc] 119)) (by kernel_rfl) ?_
   change wpAnyH _ _ _ _ _ _ _ _ (World.drew _)
   refine tkH 0 (.pointer (some ⟨v'.db,0,none⟩)) rfl (fun w _=>by go_simp) SS.out ?_
   refine tkH 1 (.pointer (some ⟨v'.db,0,none⟩)) rfl (fun w _=>by go_simp) SS.out ?_
   refine tkH 2 (.pointer (some ⟨v'.db,2,none⟩)) rfl (fun w _=>by go_simp) SS.out ?_
   refine tkH 3 (.slice (some ⟨v'.lb,0,none⟩) D.n D.n) rfl (fun wx hx=>(by have c:=hx.1.cell (i:=2) (v:=.slice (some ⟨v'.lb,0,none⟩) D.n D.n) rfl;go_simp)) SS.out ?_
   refine tkH 4 (.int .i64 l) rfl (fun w _=>by go_simp) SS.out ?_
   refine tkH 5 (.pointer (some ⟨wr.heap.size,0,none⟩)) rfl (fun w _=>by go_simp) SS.out ?_
   refine tkH 6 (.int .u64 dn) rfl (fun wx hx=>(by have c:=hx.2.cell (i:=0) (v:=.int .u64 dn) rfl;go_simp)) SS.out ?_
   refine tkH 7 (.pointer (some ⟨wr.heap.size,1,none⟩)) rfl (fun w _=>by go_simp) SS.out ?_
   refine tkH 8 (.slice ha (D.hist l).length hc) rfl (fun wx hx=>(by have c:=hx.2.cell (i:=1) (v:=.slice ha (D.hist l).length hc) rfl;go_simp)) SS.out ?_
   refine onH 9 rfl (fun K hK => ?_);go_simp
   (with_reducible refine HCH.out.mono ?_)
   rintro e w5 ⟨sv0,rfl,o50,g5,b5⟩;obtain⟨sa,sc,rfl⟩:=o50.slice;have O5:=hid o50;clear o50;have A5:=hid (A4.out.next b5);have S5:=hid (And.intro A5.out.dev (BX.out.below b5))
   go_simp;refine hK _ _ ⟨S5.out,?_⟩;clear hK K
   refine onH 10 rfl (fun K hK => ?_);go_simp;refine hK _ _ ⟨S5.out,?_⟩;clear hK K
   obtain⟨F5,hF5,_⟩:=A5.out.lines;have f0:=hF5.cell (i:=l*2) (by omega);have f1:=hF5.cell (i:=l*2+1) (by omega);have z0:=hF5.frozen (l*2);have z1:=hF5.frozen (l*2+1);refine onH 11 rfl (fun K hK => ?_);go_simp;refine hK _ _ ⟨S5.out,?_⟩;clear hK K
   refine onH 12 rfl (fun K hK => ?_);go_simp;refine hK _ _ ⟨⟨(S5.out.1.other hdb _).other hdb _,(S5.out.2.other (Nat.ne_of_gt hlb) _).other (Nat.ne_of_gt hlb) _⟩,?_⟩;clear hK K
   refine wpAnyH_done (by kernel_rfl) ?_ _
   obtain⟨own3,A6⟩:=A5.out.line hlt _ O5.out (fun g hg=>by
    have hz:=g5 g hg;have hsz:g>=wr.heap.size+1:=by rw[show(wr.alloc (.cells #[.int .u64 dn,.slice ha (D.hist l).length hc] 119)).drew.heap.size=wr.heap.size+1 from Array.size_push _]at hz;exact hz
    refine⟨?_,by have:=A.out.bel.size;omega⟩
    cases ho:own2 g with
    | none=>rfl
    | some r=>have:=A.out.lt g (by rw[ho];simp);omega)
   rw[hdn]at A6;have A7:=hid A6;clear A6 A5 A4 S5 SS H4 BX O5 HCH hF5 f0 f1 z0 z1 g5 b5;go_wp2_with fail
   go_roundw
   case rel=>exact⟨l+1,by omega,by go_num,own3,A7.out⟩
   case measure=>simp[intOf];omega
  ·obtain rfl:l=D.n:=by omega
   have hl1:¬ ((D.n:Nat):Int)<D.n:=by omega
   have HR:=hid (Qqd A.out.src.dev);have HI:=hid (Quj v);have HIX:=hid (Qqc v);go_wp2_with (refine wpList_load_mid rfl 86 (.tmp 50) rfl v.db 3 rfl (Qzy v) _ HR.out underlying86 rfl HI.out ?_)
   generalize (Qzy v).toArray=TV at *
   clear HI HR hl;have AZ:Hid (∃ v2 own2,v2.db=v'.db/\Ct w v v2 own own2 D D.n 0 0 wr):=⟨v',own2,rfl,A.out⟩;clear A
   go_loopw [52] (fun y wr=>∃ j:Nat,j<=8/\y = .int .i64 j/\∃ v2 own2,v2.db=v'.db/\Ct w v v2 own own2 D D.n j j wr) (fun y _=>8-(intOf y).toNat)
   case atStart=>exact⟨0,by omega,rfl,AZ.out⟩
   case round=>
    obtain⟨j,hj,rfl,v2,own2,hv2,ha⟩:=hrel;have A:=hid ha;clear ha AZ
    by_cases hlt:j<8
    ·have hj1:(j:Int)<8:=by omega
     have hix:=fun wx=>HIX.out j hlt wx
     go_wp2_with fail
     have S0:Hid (Blk wr.drew v'.db (Zm v2 {D with off:=false,armed:=false,left:=0,exec:=0}) 88/\Blk wr.drew (v.tb j) (Ja v D j) 113):=⟨hv2 ▸ A.out.dev.drew,(A.out.src.thr j hlt).drew⟩;have hne:v2.db≠v2.tb j:=Zf A.out.odb (A.out.otb j hlt) (by simp);have hnt:v.tb j≠v2.tb j:=fun e=>by have h1:=A.out.old (v.tb j) (by rw[A.out.src.otb j hlt];simp);have h2:=A.out.new (v2.tb j) (by rw[A.out.otb j hlt];simp);omega
     rw[hv2]at hne;have z0:=(A.out.thr j hlt).drew.frozen 2;have f0:=(A.out.thr j hlt).drew.cell (i:=2) (v:=.int .i64 (if j<j then D.err j else 0)) rfl;rw[if_neg (Nat.lt_irrefl j)]at f0;refine wp_region_held (S:=(fun wx=>Blk wx v'.db (Zm v2 {D with off:=false,armed:=false,left:=0,exec:=0}) 88/\Blk wx (v.tb j) (Ja v D j) 113)) (by kernel_rfl) ?_
     change wpAnyH _ _ _ _ _ _ _ _ (World.drew _)
     refine tkH 0 (.pointer (some ⟨v'.db,0,none⟩)) rfl (fun w _=>by go_simp) S0.out ?_
     refine tkH 1 (.int .i64 j) rfl (fun w _=>by go_simp) S0.out ?_
     refine tkH 2 (.pointer (some ⟨v'.db,0,none⟩)) rfl (fun w _=>by go_simp) S0.out ?_
     refine tkH 3 (.pointer (some ⟨v'.db,3,none⟩)) rfl (fun w _=>by go_simp) S0.out ?_
     refine tkH 4 (.pointer (some ⟨v'.db,3+j,none⟩)) rfl (fun w _=>by go_simp) S0.out ?_
     refine tkH 5 (.pointer (some ⟨v2.tb j,0,none⟩)) rfl (fun wx hx=>(by have c:=hx.1.cell (Uz v2 {D with off:=false,armed:=false,left:=0,exec:=0} j hlt);go_simp)) S0.out ?_
     refine tkH 6 (.pointer (some ⟨v.tb j,0,none⟩)) rfl (fun w _=>by go_simp) S0.out ?_
     refine tkH 7 (.pointer (some ⟨v.tb j,0,none⟩)) rfl (fun w _=>by go_simp) S0.out ?_
     refine tkH 8 (.pointer (some ⟨v.tb j,2,none⟩)) rfl (fun w _=>by go_simp) S0.out ?_
     refine tkH 9 (.int .i64 (D.err j)) rfl (fun wx hx=>(by have c:=hx.2.cell (i:=2) (v:=.int .i64 (D.err j)) rfl;go_simp)) S0.out ?_
     refine onH 10 rfl (fun K hK => ?_);go_simp;refine hK _ _ ⟨S0.out,?_⟩;clear hK K
     refine onH 11 rfl (fun K hK => ?_);go_simp;refine hK _ _ ⟨S0.out,?_⟩;clear hK K
     refine onH 12 rfl (fun K hK => ?_);go_simp;refine hK _ _ ⟨⟨S0.out.1.other hne _,S0.out.2.other hnt _⟩,?_⟩;clear hK K
     refine wpAnyH_done (by kernel_rfl) ?_ _
     have A2:Hid (Ct w v v2 own own2 D D.n (j+1) j (wr.setCell ⟨v2.tb j,2,none⟩ (.int .i64 (D.err j))).drew):=(A.out.next (Below.refl _ wr).drew).err hlt;have S1:Hid (Blk (wr.setCell ⟨v2.tb j,2,none⟩ (.int .i64 (D.err j))).drew.drew v'.db (Zm v2 {D with off:=false,armed:=false,left:=0,exec:=0}) 88/\Blk (wr.setCell ⟨v2.tb j,2,none⟩ (.int .i64 (D.err j))).drew.drew (v.tb j) (Ja v D j) 113):=⟨hv2 ▸ A2.out.dev.drew,(A2.out.src.thr j hlt).drew⟩;clear S0 A z0 f0
     generalize (wr.setCell ⟨v2.tb j,2,none⟩ (.int .i64 (D.err j))).drew=w6 at *
     have A3:=hid (A2.out.next (Below.refl _ w6).drew);have HCN:=hid (Qim (A3.out.src.notes j hlt));clear A2;go_wp2_with fail
     refine wp_region_held (S:=(fun wx=>Blk wx v'.db (Zm v2 {D with off:=false,armed:=false,left:=0,exec:=0}) 88/\Blk wx (v.tb j) (Ja v D j) 113)) (by kernel_rfl) ?_
     change wpAnyH _ _ _ _ _ _ _ _ (World.drew _)
     refine tkH 0 (.pointer (some ⟨v'.db,0,none⟩)) rfl (fun w _=>by go_simp) S1.out ?_
     refine tkH 1 (.int .i64 j) rfl (fun w _=>by go_simp) S1.out ?_
     refine tkH 2 (.pointer (some ⟨v'.db,0,none⟩)) rfl (fun w _=>by go_simp) S1.out ?_
     refine tkH 3 (.pointer (some ⟨v'.db,3,none⟩)) rfl (fun w _=>by go_simp) S1.out ?_
     refine tkH 4 (.pointer (some ⟨v'.db,3+j,none⟩)) rfl (fun w _=>by go_simp) S1.out ?_
     refine tkH 5 (.pointer (some ⟨v2.tb j,0,none⟩)) rfl (fun wx hx=>(by have c:=hx.1.cell (Uz v2 {D with off:=false,armed:=false,left:=0,exec:=0} j hlt);go_simp)) S1.out ?_
     refine tkH 6 (.pointer (some ⟨v.tb j,0,none⟩)) rfl (fun w _=>by go_simp) S1.out ?_
     refine tkH 7 (.pointer (some ⟨v.tb j,0,none⟩)) rfl (fun w _=>by go_simp) S1.out ?_
     refine tkH 8 (.pointer (some ⟨v.tb j,3,none⟩)) rfl (fun w _=>by go_simp) S1.out ?_
     refine tkH 9 (.map (some (v.nb j))) rfl (fun wx hx=>(by have c:=hx.2.cell (i:=3) (v:=.map (some (v.nb j))) rfl;go_simp)) S1.out ?_
     refine onH 10 rfl (fun K hK => ?_);go_simp
     (with_reducible refine HCN.out.mono ?_)
     rintro e w7 ⟨rfl,n7,g7,b7⟩;have N7:=hid n7;have A4:=hid (A3.out.next b7);have S4:=hid (And.intro (S1.out.1.below b7) (S1.out.2.below b7));clear n7 b7
     go_simp;refine hK _ _ ⟨S4.out,?_⟩;clear hK K
     refine onH 11 rfl (fun K hK => ?_);go_simp;refine hK _ _ ⟨S4.out,?_⟩;clear hK K
     refine onH 12 rfl (fun K hK => ?_);go_simp;refine hK _ _ ⟨S4.out,?_⟩;clear hK K
     have z0:=(A4.out.thr j hlt).frozen 3;have f0:=(A4.out.thr j hlt).cell (i:=3) (v:=.map (some (v2.nb j))) rfl;refine onH 13 rfl (fun K hK => ?_);go_simp;refine hK _ _ ⟨⟨S4.out.1.other hne _,S4.out.2.other hnt _⟩,?_⟩;clear hK K
     refine wpAnyH_done (by kernel_rfl) ?_ _
     obtain⟨own3,A5⟩:=A4.out.note hlt N7.out (by
      cases ho:own2 w6.drew.heap.size with
      | none=>rfl
      | some r=>have:=A3.out.lt _ (by rw[ho];simp);omega) A3.out.bel.size g7
     have A6:=hid A5;clear A5 A4 A3 S4 S1 N7 HCN z0 f0 g7;go_wp2_with fail
     go_roundw
     case rel=>exact⟨j+1,by omega,by go_num,{v2 with nb:=fun i=>if i=j then w6.drew.heap.size else v2.nb i},own3,hv2,A6.out⟩
     case measure=>simp[intOf];omega
    ·obtain rfl:j=8:=by omega
     have A0:Hid (Ct w v v2 own own2 D D.n 8 8 wr.drew):=A.out.next (Below.refl _ wr).drew;have S0:Hid (Blk wr.drew v.db (Zm v D) 88):=A0.out.src.dev;have hne:v.db≠v'.db:=fun e=>by have h1:=A0.out.old v.db (by rw[A0.out.src.odb];simp);have h2:=A0.out.new v2.db (by rw[A0.out.odb];simp);omega
     have B0:=A0.out.dev;rw[hv2]at B0;have HB0:=hid B0;have z0:=B0.frozen 11;have f0:=B0.cell (i:=11) (v:=.bool false) rfl;have hj1:¬ ((8:Nat):Int)<8:=by omega
     clear A B0;go_wp2_with fail
     refine wp_region_held (S:=(fun wx=>Blk wx v.db (Zm v D) 88)) (by kernel_rfl) ?_
     change wpAnyH _ _ _ _ _ _ _ _ (World.drew _)
     refine tkH 0 (.pointer (some ⟨v'.db,0,none⟩)) rfl (fun w _=>by go_simp) S0.out ?_
     refine tkH 1 (.pointer (some ⟨v'.db,0,none⟩)) rfl (fun w _=>by go_simp) S0.out ?_
     refine tkH 2 (.pointer (some ⟨v'.db,0,none⟩)) rfl (fun w _=>by go_simp) S0.out ?_
     refine tkH 3 (.pointer (some ⟨v'.db,0,none⟩)) rfl (fun w _=>by go_simp) S0.out ?_
     refine tkH 4 (.pointer (some ⟨v.db,0,none⟩)) rfl (fun w _=>by go_simp) S0.out ?_
     refine tkH 5 (.pointer (some ⟨v.db,0,none⟩)) rfl (fun w _=>by go_simp) S0.out ?_
     refine tkH 6 (.pointer (some ⟨v.db,11,none⟩)) rfl (fun w _=>by go_simp) S0.out ?_
     refine tkH 7 (.bool D.off) rfl (fun wx hx=>(by have c:=hx.cell (i:=11) (v:=.bool D.off) rfl;go_simp)) S0.out ?_
     refine tkH 8 (.pointer (some ⟨v.db,0,none⟩)) rfl (fun w _=>by go_simp) S0.out ?_
     refine tkH 9 (.pointer (some ⟨v.db,0,none⟩)) rfl (fun w _=>by go_simp) S0.out ?_
     refine tkH 10 (.pointer (some ⟨v.db,12,none⟩)) rfl (fun w _=>by go_simp) S0.out ?_
     refine tkH 11 (.bool D.armed) rfl (fun wx hx=>(by have c:=hx.cell (i:=12) (v:=.bool D.armed) rfl;go_simp)) S0.out ?_
     refine tkH 12 (.pointer (some ⟨v.db,0,none⟩)) rfl (fun w _=>by go_simp) S0.out ?_
     refine tkH 13 (.pointer (some ⟨v.db,0,none⟩)) rfl (fun w _=>by go_simp) S0.out ?_
     refine tkH 14 (.pointer (some ⟨v.db,13,none⟩)) rfl (fun w _=>by go_simp) S0.out ?_
     refine tkH 15 (.int .i64 D.left) rfl (fun wx hx=>(by have c:=hx.cell (i:=13) (v:=.int .i64 D.left) rfl;go_simp)) S0.out ?_
     refine tkH 16 (.pointer (some ⟨v.db,0,none⟩)) rfl (fun w _=>by go_simp) S0.out ?_
     refine tkH 17 (.pointer (some ⟨v.db,0,none⟩)) rfl (fun w _=>by go_simp) S0.out ?_
     refine tkH 18 (.pointer (some ⟨v.db,14,none⟩)) rfl (fun w _=>by go_simp) S0.out ?_
     refine tkH 19 (.int .u64 D.exec) rfl (fun wx hx=>(by have c:=hx.cell (i:=14) (v:=.int .u64 D.exec) rfl;go_simp)) S0.out ?_
     refine onH 20 rfl (fun K hK => ?_);go_simp;refine hK _ _ ⟨S0.out,?_⟩;clear hK K
     refine onH 21 rfl (fun K hK => ?_);go_simp;refine hK _ _ ⟨S0.out,?_⟩;clear hK K
     refine onH 22 rfl (fun K hK => ?_);go_simp;refine hK _ _ ⟨(S0.out.other (a:=⟨v'.db,11,none⟩) hne _),?_⟩;clear hK K
     clear z0 f0;have HB1:=hid (show Blk (wr.setCell ⟨v'.db,11,none⟩ (.bool D.off)).drew v'.db _ 88 from HB0.out.set 11 (.bool D.off));have z1:=HB1.out.frozen 12;have f1:=HB1.out.cell (i:=12) (v:=.bool false) rfl;refine onH 23 rfl (fun K hK => ?_);go_simp;refine hK _ _ ⟨(S0.out.other (a:=⟨v'.db,11,none⟩) hne _),?_⟩;clear hK K
     refine onH 24 rfl (fun K hK => ?_);go_simp;refine hK _ _ ⟨(S0.out.other (a:=⟨v'.db,11,none⟩) hne _),?_⟩;clear hK K
     refine onH 25 rfl (fun K hK => ?_);go_simp;refine hK _ _ ⟨((S0.out.other (a:=⟨v'.db,11,none⟩) hne _).other (a:=⟨v'.db,12,none⟩) hne _),?_⟩;clear hK K
     clear z1 f1;have HB2:=hid (show Blk ((wr.setCell ⟨v'.db,11,none⟩ (.bool D.off)).setCell ⟨v'.db,12,none⟩ (.bool D.armed)).drew v'.db _ 88 from HB1.out.set 12 (.bool D.armed));have z2:=HB2.out.frozen 13;have f2:=HB2.out.cell (i:=13) (v:=.int .i64 0) rfl;refine onH 26 rfl (fun K hK => ?_);go_simp;refine hK _ _ ⟨((S0.out.other (a:=⟨v'.db,11,none⟩) hne _).other (a:=⟨v'.db,12,none⟩) hne _),?_⟩;clear hK K
     refine onH 27 rfl (fun K hK => ?_);go_simp;refine hK _ _ ⟨((S0.out.other (a:=⟨v'.db,11,none⟩) hne _).other (a:=⟨v'.db,12,none⟩) hne _),?_⟩;clear hK K
     refine onH 28 rfl (fun K hK => ?_);go_simp;refine hK _ _ ⟨(((S0.out.other (a:=⟨v'.db,11,none⟩) hne _).other (a:=⟨v'.db,12,none⟩) hne _).other (a:=⟨v'.db,13,none⟩) hne _),?_⟩;clear hK K
     clear z2 f2;have HB3:=hid (show Blk (((wr.setCell ⟨v'.db,11,none⟩ (.bool D.off)).setCell ⟨v'.db,12,none⟩ (.bool D.armed)).setCell ⟨v'.db,13,none⟩ (.int .i64 D.left)).drew v'.db _ 88 from HB2.out.set 13 (.int .i64 D.left));have z3:=HB3.out.frozen 14;have f3:=HB3.out.cell (i:=14) (v:=.int .u64 0) rfl;refine onH 29 rfl (fun K hK => ?_);go_simp;refine hK _ _ ⟨(((S0.out.other (a:=⟨v'.db,11,none⟩) hne _).other (a:=⟨v'.db,12,none⟩) hne _).other (a:=⟨v'.db,13,none⟩) hne _),?_⟩;clear hK K
     refine onH 30 rfl (fun K hK => ?_);go_simp;refine hK _ _ ⟨(((S0.out.other (a:=⟨v'.db,11,none⟩) hne _).other (a:=⟨v'.db,12,none⟩) hne _).other (a:=⟨v'.db,13,none⟩) hne _),?_⟩;clear hK K
     refine onH 31 rfl (fun K hK => ?_);go_simp;refine hK _ _ ⟨((((S0.out.other (a:=⟨v'.db,11,none⟩) hne _).other (a:=⟨v'.db,12,none⟩) hne _).other (a:=⟨v'.db,13,none⟩) hne _).other (a:=⟨v'.db,14,none⟩) hne _),?_⟩;clear hK K
     refine wpAnyH_done (by kernel_rfl) ?_ _
     clear S0 z3 f3;have HB4:=hid (show Blk ((((wr.setCell ⟨v'.db,11,none⟩ (.bool D.off)).setCell ⟨v'.db,12,none⟩ (.bool D.armed)).setCell ⟨v'.db,13,none⟩ (.int .i64 D.left)).setCell ⟨v'.db,14,none⟩ (.int .u64 D.exec)).drew v'.db _ 88 from HB3.out.set 14 (.int .u64 D.exec));go_wp2_with fail
     go_ret
     refine⟨v2,own2,by rw[hv2];rfl,?_⟩
     refine A0.out.whole ?_ ?_
     ·rw[hv2]
      exact((((Upd.refl (fun k=>k=v'.db) wr.drew).setCell (p:=⟨v'.db,11,none⟩) (fun _=>rfl) (.bool D.off)).setCell (p:=⟨v'.db,12,none⟩) (fun _=>rfl) (.bool D.armed)).setCell (p:=⟨v'.db,13,none⟩) (fun _=>rfl) (.int .i64 D.left)).setCell (p:=⟨v'.db,14,none⟩) (fun _=>rfl) (.int .u64 D.exec)
     ·rw[hv2]
      exact HB4.out
end
end
end Go.Proofs.YtlhchkajjpefmaaGreatDoor
