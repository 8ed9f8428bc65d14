/- Lemmas and walks, part 29: each theorem says what it proves; no condition beside its own. -/
import Derived.Test.YtlhchkajjpefmaaGreatDoorK28
set_option maxHeartbeats 16000000
set_option maxRecDepth 100000
namespace Go.Proofs.YtlhchkajjpefmaaGreatDoor
open Lib(hid)
open Go.RowKit Go.Proofs.Tryz
section
open Go.Maps
attribute [local go_sem ↓] Go.wp_at_zero Go.wp_at_succ
abbrev q8:List (Nat×Nat×Int) := [(1,0,7),(1,128,7),(2,0,0),(2,128,0),(3,0,0),(1,64,1),(2,64,0),(3,0,0)]
theorem Q6p:(fnd (Dev.fresh 4 (fun _=>0)) (qOf 0 q8) 100).1=5/\(fnd (Dev.fresh 4 (fun _=>0)) (qOf 0 q8) 100).2.2=0:=⟨by kernel_rfl,by kernel_rfl⟩
theorem Q6q:(fnd (Dev.fresh 4 (fun _=>0)) q8 100).2.2=1:=by kernel_rfl
theorem is8:Rd 0 q8=true:=by kernel_rfl
theorem ok8:∀ e∈q8,OkQ 4 e:=by
 intro e he;simp only[q8,List.mem_cons,List.not_mem_nil,or_false]at he
 rcases he with rfl | rfl | rfl | rfl | rfl | rfl | rfl | rfl <;> exact⟨by decide,by decide,by decide,by decide,by decide,by decide⟩
theorem pl8:Mr q8:=by
 intro e he;simp only[q8,List.mem_cons,List.not_mem_nil,or_false]at he
 rcases he with rfl | rfl | rfl | rfl | rfl | rfl | rfl | rfl <;> exact⟨by decide,by decide⟩
section
variable{w:World}
theorem Im:Calls prog 9 #[] w fun r w'=>r = .returned (.bool true)/\Below w.heap.size w w':=by
 have R1:Hid (Ql (w.alloc (.cells #[.int .i64 0,.int .u64 0,.int .u64 7,.int .i64 0,.int .u64 128,.int .u64 7,.int .i64 1,.int .u64 0,.int .u64 0,.int .i64 1,.int .u64 128,.int .u64 0,.int .i64 2,.int .u64 0,.int .u64 0,.int .i64 0,.int .u64 64,.int .u64 1,.int .i64 1,.int .u64 64,.int .u64 0,.int .i64 2,.int .u64 0,.int .u64 0] 80)) 3 (.slice (some ⟨w.heap.size,0,none⟩) 8 8) q8.length (Cy q8)):=hid (by
  have:=Ql.new w #[.int .i64 0,.int .u64 0,.int .u64 7,.int .i64 0,.int .u64 128,.int .u64 7,.int .i64 1,.int .u64 0,.int .u64 0,.int .i64 1,.int .u64 128,.int .u64 0,.int .i64 2,.int .u64 0,.int .u64 0,.int .i64 0,.int .u64 64,.int .u64 1,.int .i64 1,.int .u64 64,.int .u64 0,.int .i64 2,.int .u64 0,.int .u64 0] 80 3 8 rfl;exact this)
 have B1:=hid (Qa w (.cells #[.int .i64 0,.int .u64 0,.int .u64 7,.int .i64 0,.int .u64 128,.int .u64 7,.int .i64 1,.int .u64 0,.int .u64 0,.int .i64 1,.int .u64 128,.int .u64 0,.int .i64 2,.int .u64 0,.int .u64 0,.int .i64 0,.int .u64 64,.int .u64 1,.int .i64 1,.int .u64 64,.int .u64 0,.int .i64 2,.int .u64 0,.int .u64 0] 80));have HF:=hid (fun(wx:World) (hx:Ql wx 3 (.slice (some ⟨w.heap.size,0,none⟩) 8 8) q8.length (Cy q8))=>Eu 4 _ q8 hx ok8 pl8 (by decide) (by omega) (by omega) 0 100 ⟨by omega,by omega⟩ (by omega));have HH:=hid (fun(wx:World) (hx:Ql wx 3 (.slice (some ⟨w.heap.size,0,none⟩) 8 8) q8.length (Cy q8))=>Qfw 4 _ q8 hx ok8 pl8 (by decide) (by omega) (by omega) 100 (by omega) (by omega));unfold Qlc at HF;rw[Q6q]at HH;simp only[is8]at HF;rw[show((100:Int)).toNat=100 from rfl,show((4:Nat):Int)=4 from rfl]at HF;rw[show((4:Nat):Int)=4 from rfl,show((100:Nat):Int)=100 from rfl]at HH;have H8:=hid Q6p;obtain⟨Q,hQ⟩:∃ Q,qOf 0 q8=Q:=⟨_,rfl⟩;rw[hQ]at HF H8;obtain⟨q,hq⟩:∃ q,q8=q:=⟨_,rfl⟩;obtain⟨D0,hD0⟩:∃ D0,Dev.fresh 4 (fun _=>0)=D0:=⟨_,rfl⟩;rw[hD0]at HF H8
 have HR1:=hid (fun wx (hb:Below (w.alloc (.cells #[.int .i64 0,.int .u64 0,.int .u64 7,.int .i64 0,.int .u64 128,.int .u64 7,.int .i64 1,.int .u64 0,.int .u64 0,.int .i64 1,.int .u64 128,.int .u64 0,.int .i64 2,.int .u64 0,.int .u64 0,.int .i64 0,.int .u64 64,.int .u64 1,.int .i64 1,.int .u64 64,.int .u64 0,.int .i64 2,.int .u64 0,.int .u64 0] 80)).heap.size (w.alloc (.cells #[.int .i64 0,.int .u64 0,.int .u64 7,.int .i64 0,.int .u64 128,.int .u64 7,.int .i64 1,.int .u64 0,.int .u64 0,.int .i64 1,.int .u64 128,.int .u64 0,.int .i64 2,.int .u64 0,.int .u64 0,.int .i64 0,.int .u64 64,.int .u64 1,.int .i64 1,.int .u64 64,.int .u64 0,.int .i64 2,.int .u64 0,.int .u64 0] 80)) wx)=>R1.out.below hb);clear hQ hD0;rw[hq]at HF HH HR1 R1;clear hq
 go_enter func9,ntmps9
 have K2:Hid (Blk ((w.alloc (.cells #[.int .i64 0,.int .u64 0,.int .u64 7,.int .i64 0,.int .u64 128,.int .u64 7,.int .i64 1,.int .u64 0,.int .u64 0,.int .i64 1,.int .u64 128,.int .u64 0,.int .i64 2,.int .u64 0,.int .u64 0,.int .i64 0,.int .u64 64,.int .u64 1,.int .i64 1,.int .u64 64,.int .u64 0,.int .i64 2,.int .u64 0,.int .u64 0] 80)).alloc (.cells #[.slice (some ⟨w.heap.size,0,none⟩) 8 8] 83)) (w.heap.size+1) #[.slice (some ⟨w.heap.size,0,none⟩) 8 8] 83):=hid (by
  have:=Blk.new (w.alloc (.cells #[.int .i64 0,.int .u64 0,.int .u64 7,.int .i64 0,.int .u64 128,.int .u64 7,.int .i64 1,.int .u64 0,.int .u64 0,.int .i64 1,.int .u64 128,.int .u64 0,.int .i64 2,.int .u64 0,.int .u64 0,.int .i64 0,.int .u64 64,.int .u64 1,.int .i64 1,.int .u64 64,.int .u64 0,.int .i64 2,.int .u64 0,.int .u64 0] 80)) #[.slice (some ⟨w.heap.size,0,none⟩) 8 8] 83
  rwa [World.size_alloc]at this)
 have B2:Hid (Below (w.alloc (.cells #[.int .i64 0,.int .u64 0,.int .u64 7,.int .i64 0,.int .u64 128,.int .u64 7,.int .i64 1,.int .u64 0,.int .u64 0,.int .i64 1,.int .u64 128,.int .u64 0,.int .i64 2,.int .u64 0,.int .u64 0,.int .i64 0,.int .u64 64,.int .u64 1,.int .i64 1,.int .u64 64,.int .u64 0,.int .i64 2,.int .u64 0,.int .u64 0] 80)).heap.size (w.alloc (.cells #[.int .i64 0,.int .u64 0,.int .u64 7,.int .i64 0,.int .u64 128,.int .u64 7,.int .i64 1,.int .u64 0,.int .u64 0,.int .i64 1,.int .u64 128,.int .u64 0,.int .i64 2,.int .u64 0,.int .u64 0,.int .i64 0,.int .u64 64,.int .u64 1,.int .i64 1,.int .u64 64,.int .u64 0,.int .i64 2,.int .u64 0,.int .u64 0] 80)) ((w.alloc (.cells #[.int .i64 0,.int .u64 0,.int .u64 7,.int .i64 0,.int .u64 128,.int .u64 7,.int .i64 1,.int .u64 0,.int .u64 0,.int .i64 1,.int .u64 128,.int .u64 0,.int .i64 2,.int .u64 0,.int .u64 0,.int .i64 0,.int .u64 64,.int .u64 1,.int .i64 1,.int .u64 64,.int .u64 0,.int .i64 2,.int .u64 0,.int .u64 0] 80)).alloc (.cells #[.slice (some ⟨w.heap.size,0,none⟩) 8 8] 83))):=hid (Qa _ _);have HF2:=hid (HF.out _ (HR1.out _ B2.out));clear HF;go_wp2_with fail
 (with_reducible refine HF2.out.mono ?_)
 rintro r w1 ⟨⟨h1,_⟩ | ⟨_,hp⟩,b1⟩
 ·exact absurd h1 (by decide)
 have B3:=hid (B2.out.trans (b1.mono B2.out.size));have K3:=hid (K2.out.below b1);clear b1 HF2 B2 K2
 rcases hp with ⟨h1,_⟩ | ⟨_,h2,_⟩ | ⟨_,h2,_⟩ | ⟨_,k,i,g,h2,_,_,rfl,_⟩
 ·cases h1
 ·rw[h2]at H8;exact absurd H8.out.2 (by decide)
 ·rw[h2]at H8;exact absurd H8.out.2 (by decide)
 ·have hk:k=5:=by have:=H8.out.1;rw[h2]at this;exact this
  subst hk;obtain⟨dm,hdm⟩:∃ dm,(D0.run 0 (Q.take 5)).dirtyL.length=dm:=⟨_,rfl⟩;rw[hdm];clear h2 H8 hdm;have K4:=hid (K3.out.alloc (.cells #[.int .i64 0,.int .i64 5,.slice (some ⟨g,0,none⟩) dm dm] 64));have X4:=hid (Blk.new w1 #[.int .i64 0,.int .i64 5,.slice (some ⟨g,0,none⟩) dm dm] 64);have B4:=hid (B3.out.trans ((Qa w1 (.cells #[.int .i64 0,.int .i64 5,.slice (some ⟨g,0,none⟩) dm dm] 64)).mono B3.out.size));have HH2:=hid (HH.out _ (HR1.out _ B4.out));have k0:=K3.out.cell (i:=0) (v:=.slice (some ⟨w.heap.size,0,none⟩) 8 8) rfl;have k0l:=K3.out.lt;clear HH HR1 B3;go_wp2_with fail
  (with_reducible refine HH2.out.mono ?_)
  rintro r w2 ⟨⟨h1,_⟩ | ⟨_,rfl⟩,b2⟩
  ·exact absurd h1 (by decide)
  ·have X5:=hid (X4.out.below b2)
   have B5:=hid ((B1.out.trans ((B4.out).mono B1.out.size)).trans (b2.mono (Nat.le_trans B1.out.size B4.out.size)));have x0:=X5.out.cell (i:=0) rfl;have x1:=X5.out.cell (i:=1) rfl;clear b2 HH2 k0;go_wp2_with fail
   go_ret
   exact⟨rfl,B5.out⟩
end
end

section
open Go.Maps
attribute [local go_sem ↓] Go.wp_at_zero Go.wp_at_succ
section
variable{w:World}
theorem Q5k(a:Int):∃ t:Int,a.tmod 6=t/\IntKind.i64.wrap t=t/\IntKind.i64.wrap (t+6)=t+6/\∃ s:Nat,(t+6).tmod 6=s/\IntKind.i64.wrap (s:Int)=s/\s<6:=by
 have h1:=Int.tmod_lt_of_pos a (show(0:Int)<6 by omega);have h2 : -6<a.tmod 6:=Int.lt_tmod_of_pos a (by omega);have h3:=Int.tmod_nonneg 6 (show 0<=a.tmod 6+6 by omega);have h4:=Int.tmod_lt_of_pos (a.tmod 6+6) (show(0:Int)<6 by omega);exact⟨_,rfl,IntWalk.i64_in _ (by omega),IntWalk.i64_in _ (by omega),((a.tmod 6+6).tmod 6).toNat,by omega,IntWalk.i64_in _ (by omega),by omega⟩
end
end

section
section
variable{w:World}{a n:Nat}{sp q:List (Nat×Nat×Int)}{C:Nat->Int}{ok:(Nat->Int)->Prop}{g g64:(Nat->Int)->Bool->Bool}{okB:(Nat->Int)->Bool}{fn:Nat}
end
end

section
open Go.Maps
attribute [local go_sem ↓] Go.wp_at_zero Go.wp_at_succ
theorem Qp9{D:Dev}{e:Nat×Nat×Int}(he:OkQ 64 e)(hn:64<=D.n)(ho:D.off=false)(ha:D.armed=false)(h0:D.err 0=0) :
  64<=(D.step 0 e).n/\(D.step 0 e).off=false/\(D.step 0 e).armed=false/\(D.step 0 e).err 0=0:=by
 have hlt:=he.lt;have h3:e.1=1\/e.1=2\/e.1=3:=by have:=he.lo;have:=he.hi;omega
 rcases h3 with h3 | h3 | h3
 ·rw[Vd ho ha h3 he.al (by omega)];exact⟨hn,ho,ha,h0⟩
 ·rw[Vc ho ha h3 (by omega)];exact⟨hn,ho,ha,h0⟩
 ·rw[Jh ho ha h3];exact⟨hn,ho,ha,h0⟩
theorem Qyo{q:List (Nat×Nat×Int)}:∀ {D:Dev},(∀ e∈q,OkQ 64 e)->64<=D.n->D.off=false->D.armed=false->D.err 0=0->(D.run 0 q).err 0=0:=by
 induction q with
 | nil=>intro D _ _ _ _ h;exact h
 | cons e q ih=>
  intro D hq hn ho ha h0;obtain⟨a,b,c,d⟩:=Qp9 (hq e (List.mem_cons_self ..)) hn ho ha h0;exact ih (fun e he=>hq e (List.mem_cons_of_mem _ he)) a b c d
section
variable{w wb:World}{v:DV}{own:Nat->Option Qp}{D:Dev}{a n:Nat}{sp q:List (Nat×Nat×Int)}{C F:Nat->Int}{ok:(Nat->Int)->Prop}{g g64:(Nat->Int)->Bool->Bool}{okB:(Nat->Int)->Bool}{fn x:Nat}
theorem SyR.behind(R:SyR w a 64 sp q C ok g g64 okB fn)(c:Nat) :
  let D:=((Dev.fresh 64 (fun _=>0)).run 0 sp).run 0 (q.take c)
  D.n=64/\D.VB/\D.exec<1000/\D.err 0=0/\((Dev.fresh 64 (fun _=>0)).run 0 sp).exec<1000/\Qz (q.take c)/\Qm (Qf D)<=4611686018427387904/\(∀ l∈D.dirtyL,(D.hist l).length<=1000000000):=by
 intro D;obtain⟨x,hx,S⟩:=R.cl;have hq:∀ e∈q.take c,OkQ 64 e:=fun e he=>Kl (R.okq e (List.mem_of_mem_take he)) (Nat.le_refl _)
 have h1:D.exec<=((Dev.fresh 64 (fun _=>0)).run 0 sp).exec+(q.take c).length:=((Dev.fresh 64 (fun _=>0)).run 0 sp).run_exec 0 (q.take c);have h2:=R.P.len;have h3:=S.exec;have hl:(q.take c).length<=60:=by rw[List.length_take];omega
 have hp:Qm (Qf D)<=1152921504606846976:=Qhy ((Dev.fresh 64 (fun _=>0)).run 0 sp) (q.take c) R.P.tot hl;refine⟨by rw[Pj];exact R.P.dn,Dev.VB.run _ S.vb 0 (fun e he _=>⟨(hq e he).v0,(hq e he).v1⟩),by omega,Qyo hq (by rw[S.grp.on.n];omega) S.grp.on.off S.ar S.grp.on.err,by omega,fun e he=>⟨(hq e he).lo,(hq e he).hi,by have:=(hq e he).lt;omega⟩,by omega,fun l hl2 => ?_⟩
 have h4:(D.hist l).length<=Qd2 D:=by
  have:∀ m,l<m->(fun l=>(D.hist l).length) l<=Qbt (fun l=>(D.hist l).length) m:=by
   intro m
   induction m with
   | zero=>intro h;omega
   | succ m ih=>
    intro h;show(D.hist l).length<=Qbt (fun l=>(D.hist l).length) m+(D.hist m).length
    by_cases e:l=m
    ·subst e;omega
    ·have h:(D.hist l).length<=Qbt (fun l=>(D.hist l).length) m:=ih (by omega)
     omega
  exact this D.n ((Gq D l).1 hl2).1
 have h5:=Qbn (q.take c) ((Dev.fresh 64 (fun _=>0)).run 0 sp);rw[R.P.tot]at h5;have h6:Qd2 D<=0+(q.take c).length:=h5;omega
end
end

section
def pgC(C:Nat->Int)(q:List (Nat×Nat×Int)):Nat->Int:=((Dev.fresh 64 C).run 0 q).pers
structure EvP(q:List (Nat×Nat×Int))(C:Nat->Int)(g64:(Nat->Int)->Bool->Bool)(okB:(Nat->Int)->Bool):Prop where
 dirty:((Dev.fresh 64 C).run 0 q).dirtyL = []
 last:(q.getLast?.map fun e=>e.1)=some 3
 okC:okB C=true
 okC2:okB (pgC C q)=true
 c0:g64 C false=true
 c1:g64 C true=false
 d0:g64 (pgC C q) false=true
 d1:g64 (pgC C q) true=true
theorem Q9a:EvP sbQ sbC (gSb 64) Qx1:=⟨by kernel_rfl,by kernel_rfl,by kernel_rfl,by kernel_rfl,by kernel_rfl,by kernel_rfl,by kernel_rfl,by kernel_rfl⟩
theorem Q8z:EvP (Yt 128 (rtW Dq) [98] (ptV 2)) Dq gRt (fun _=>true):=⟨by kernel_rfl,by kernel_rfl,rfl,rfl,by kernel_rfl,by kernel_rfl,by kernel_rfl,by kernel_rfl⟩
theorem Q8y:EvP (Zb 640 (rdW 3 4)) rdC (gRd 64) Qtj:=⟨by kernel_rfl,by kernel_rfl,by kernel_rfl,by kernel_rfl,by kernel_rfl,by kernel_rfl,by kernel_rfl,by kernel_rfl⟩
theorem Q9b:EvP (udQ 3 4 (Ds 1 2 (fun _=>0))) udC (gUd 64) Qx2:=⟨by kernel_rfl,by kernel_rfl,by kernel_rfl,by kernel_rfl,by kernel_rfl,by kernel_rfl,by kernel_rfl,by kernel_rfl⟩
theorem Q8w:EvP bkQ bkC gBk Qdc:=⟨by kernel_rfl,by kernel_rfl,by kernel_rfl,by kernel_rfl,by kernel_rfl,by kernel_rfl,by kernel_rfl,by kernel_rfl⟩
theorem Q8x:EvP (Yu lfC 6 2) lfC gLf Qdd:=⟨by kernel_rfl,by kernel_rfl,by kernel_rfl,by kernel_rfl,by kernel_rfl,by kernel_rfl,by kernel_rfl,by kernel_rfl⟩
section
variable{w:World}{a n:Nat}{sp q:List (Nat×Nat×Int)}{C:Nat->Int}{ok:(Nat->Int)->Prop}{g g64:(Nat->Int)->Bool->Bool}{okB:(Nat->Int)->Bool}{fn:Nat}
theorem Qnx{q:List (Nat×Nat×Int)}(h:(q.getLast?.map fun e=>e.1)=some 3):∃ p e,q=p ++ [e]/\e.1=3:=by
 cases hq:q.getLast? with
 | none=>rw[hq]at h;cases h
 | some e=>
  rw[hq]at h;have h3:e.1=3:=by simpa using h
  obtain⟨p,hp⟩:=List.getLast?_eq_some_iff.1 hq;exact⟨p,e,hp,h3⟩
theorem Qiz{D:Dev}(ho:D.off=false)(ha:D.armed=false){e:Nat×Nat×Int}(h:e.1=3)(l:Nat):(D.step 0 e).note 0 l=none:=by
 rw[Jh ho ha h]
 rfl
theorem SyR.done(R:SyR w a 64 sp q C ok g g64 okB fn)(E:EvP q C g64 okB):SCl (((Dev.fresh 64 (fun _=>0)).run 0 sp).run 0 q) 0 64 (pgC C q) 1000:=by
 obtain⟨x,hx,S⟩:=R.cl;have hq:∀ e∈q,OkQ 64 e:=fun e he=>Kl (R.okq e he) (Nat.le_refl _)
 have B:=R.behind q.length;rw[List.take_length]at B;have M:=(S.sim (Nat.le_refl 64)).run hq;refine⟨⟨⟨B.1,M.doff,B.2.2.2.1⟩,⟨M.pers,fun l => ?_⟩,fun o ho=>by simp at ho,fun l _ => ?_⟩,B.2.1,Nat.le_of_lt B.2.2.1,M.dar⟩
 ·rw[M.hist]
  show _ = []
  rcases Nat.lt_or_ge l 64 with h | h
  ·have hd:=E.dirty
   unfold Dev.dirtyL at hd;have hn:((Dev.fresh 64 C).run 0 q).n=64:=by rw[Qyp];rfl
   rw[hn,List.filter_eq_nil_iff]at hd;have:=hd l (List.mem_range.2 h);simp only[decide_eq_true_eq]at this;exact List.eq_nil_of_length_eq_zero (by omega)
  ·exact M.out l h
 ·obtain⟨p,e,rfl,he⟩:=Qnx E.last
  rw[Dev.run_snoc];have M1:=(S.sim (Nat.le_refl 64)).run (q:=p) (fun x hx=>hq x (List.mem_append.2 (.inl hx)));exact Qiz M1.doff M1.dar he l
theorem SyR.okC(R:SyR w a n sp q C ok g g64 okB fn)(E:EvP q C g64 okB):ok C/\g C false=true/\g C true=false:=by
 have h:=R.h C R.bd E.okC;exact⟨h.1,by rw[h.2];exact E.c0,by rw[h.2];exact E.c1⟩
theorem SyR.okC2(R:SyR w a 64 sp q C ok g g64 okB fn)(E:EvP q C g64 okB):ok (pgC C q)/\g (pgC C q) false=true/\g (pgC C q) true=true:=by
 have h:=R.h (pgC C q) (fun i=>(R.done E).bd i) E.okC2;exact⟨h.1,by rw[h.2];exact E.d0,by rw[h.2];exact E.d1⟩
end
end

section
open Go.Maps
attribute [local go_sem ↓] Go.wp_at_zero Go.wp_at_succ
section
variable{w:World}{v:DV}{own:Nat->Option Qp}{D:Dev}{g n x:Nat}{C F:Nat->Int}
theorem Qs4(h:IsDev w v own D)(hS:SCl D 0 n C x)(h0:Qk C 640 2 = [])(hn:64<=n) :
  Calls prog 25 #[.int .i64 3,(.iface 40 (.pointer (some ⟨v.tb 0,0,none⟩)))] w fun r w'=>∃ sv,r = .returned (.tuple #[sv,.int .i64 0])/\Acc w w.heap.size w' 73 3 sv (udQ 3 4 C).length (Qd (udQ 3 4 C)):=by
 have hcu:=hS.cur;have hdn:D.n=n:=hS.grp.on.n;have hbd:=hS.bd;have hle:n<=4096:=by rw[<- hdn];exact h.wf.le
 have HOV:=hid (Ov.over_any h hS.grp.on.off hS.grp.on.err);rw[hcu,hdn]at HOV;have hq1:∀ e∈Ji C++Yp 3 4,OkQ n e:=fun e he=>(List.mem_append.1 he).elim (Qvv hbd hn e) (Qvu 3 4 (by omega) (by omega) hn e)
 have HO:Hid (∀ (wx:World) (v1:DV) (own1:Nat->Option Qp),Ov.IsDev wx v1 own1 (Ov.ovE n C 0)->Calls prog 49 #[.iface 141 (.pointer (some ⟨v1.tb 0,0,none⟩)),.int .i64 10,.int .i64 2] wx (Ov.OpenPostU wx v1 own1 (Ov.ovE n C 0) 0 640 2)):=hid (fun wx v1 own1 hd=>Ov.uOpen_ok hd (j:=0) (by omega) 10 2 (by omega) (by show 10+2<=n;omega));unfold Ov.OpenPostU at HO;have HPL:Hid (∀ (wx:World) (v1:DV) (own1:Nat->Option Qp) (lb:Nat) (sv:Value),Ov.LogAt wx v1 own1 (Ov.ovE n C 0) lb 0 640 2->Ql wx 1 sv [2560,2624].length (Zw [2560,2624])->Calls prog 68 #[.pointer (some ⟨lb,0,none⟩),sv] wx fun r w'=>∃ sv,r = .returned (.tuple #[sv,.int .i64 0])/\Acc wx wx.heap.size w' 73 3 sv (Ji C).length (Qd (Ji C))):=hid (fun wx v1 own1 lb sv hl hr=>by
  have hp:=Ov.uPlan_live hl rfl rfl (Qhu hbd) sv [2560,2624] hr (by simp) (by simp) (by show ∀ o ∈ [2560,2624],Qw (64*n) 640 2 o=true;simp[Qw];omega);rw[show(Ov.ovE n C 0).cur=C from rfl,h0,show List.map (·.1) ([]:List (Nat×Int)) = []from rfl,Co]at hp;refine hp.mono ?_
  rintro r w1 (⟨k,_⟩ | ⟨_,ov,rfl,a1⟩)
  ·simp[udF]at k
  have e1:Jf 640 ([]:List (Nat×Int)).length (udF C)=Ji C:=by unfold Jf Ji;rw[if_neg (by simp[udF])];rfl
  rw[e1]at a1;exact⟨ov,rfl,a1⟩)
 have HRN:Hid (∀ (wx w1:World) (v1:DV) (own1:Nat->Option Qp) (lb:Nat) (pv:Value),Ov.LogAt wx v1 own1 (Ov.ovE n C 0) lb 0 640 2->(∀ k,own1 k=some .dev->w.heap.size<=k)->w.heap.size<=wx.heap.size->Acc wx wx.heap.size w1 73 3 pv (Ji C++Yp 3 4).length (Qd (Ji C++Yp 3 4)) ->
   Calls prog 12 #[pv,.iface 141 (.pointer (some ⟨v1.tb 0,0,none⟩))] w1 fun r w'=>r = .returned (.int .i64 0)/\Below w.heap.size w1 w'/\Ql w' 3 pv (Ji C++Yp 3 4).length (Qd (Ji C++Yp 3 4)) /\
    Calls prog 70 #[.pointer (some ⟨lb,0,none⟩)] w' fun r w2=>∃ sv,r = .returned (.tuple #[sv,.int .i64 0])/\Acc w' w'.heap.size w2 73 3 sv Qh7.length (Qd Qh7)):=hid (fun wx w1 v1 own1 lb pv hl hnew hsz ha1=>by
  have hl1:=hl.below ha1.bel;have hpn:∀ k,pv.ownBlock=some k->own1 k=none:=fun k hk=>by
   have h1:=ha1.new k hk
   cases hh:own1 k with
   | none=>rfl
   | some r=>have:=hl.dev.lt k (by rw[hh];simp);omega
  refine(Ov.run_ok hl1.dev pv _ ha1.rd hpn hq1 (by rw[Ln];simp[Yp])).mono ?_
  rintro r w' ⟨rfl,own2,d2,o2,u2⟩;have hl2:=hl1.go d2 o2 u2 rfl;refine⟨rfl,⟨u2.os,u2.tape,u2.output,u2.size,fun k hk=>u2.block k (by have:=ha1.bel.size;omega) (fun e=>by have:=hnew k e;omega)⟩,ha1.rd.upd u2 (fun k hk=>by rw[hpn k hk];simp),?_⟩
  have hcur:(Ov.ovE n (Xj (Ji C++Yp 3 4) C) (Ji C++Yp 3 4).length).cur=Xj (Yp 3 4) (Qbu C):=Qh8 3 4 C;have hload:=Ov.uload_any hl2 rfl rfl (Qhu (Qhl hq1 hbd));rw[hcur,Lm 3 4 C hbd]at hload;rw[show 64*(Ov.ovE n (Xj (Ji C++Yp 3 4) C) (Ji C++Yp 3 4).length).n=64*n from rfl,Cp n hn]at hload;have hpc:=Ov.uPlanCommit_any hl2 (udF C) (udF C) hload ⟨by simp[udF],by simp[udF]⟩ (Nat.le_refl _);exact hpc)
 have R0:Hid (∀ wx:World,Ql (wx.alloc (.cells #[.int .u64 2560,.int .u64 2624] 31)) 1 (.slice (some ⟨wx.heap.size,0,none⟩) 2 2) [2560,2624].length (Zw [2560,2624])):=hid (fun wx=>Ql.new wx #[.int .u64 2560,.int .u64 2624] 31 1 2 rfl);have hpl:(Ji C).length=9:=by rw[Ln];rfl
 have HTH:Hid (∀ (wx:World) (pv qv:Value),Ql wx 3 pv (Ji C).length (Qd (Ji C))->Ql wx 3 qv (Yp 3 4).length (Qd (Yp 3 4))->Calls prog 69 #[pv,qv] wx fun r w'=>∃ ov,r = .returned ov/\Acc wx wx.heap.size w' 73 3 ov (Ji C++Yp 3 4).length (Qd (Ji C++Yp 3 4))):=hid (fun wx pv qv h1 h2=>Xx pv qv _ _ h1 h2 (by rw[hpl];simp[Yp]));have HTH2:Hid (∀ (wx:World) (pv qv:Value),Ql wx 3 pv (Ji C++Yp 3 4).length (Qd (Ji C++Yp 3 4))->Ql wx 3 qv Qh7.length (Qd Qh7)->Calls prog 69 #[pv,qv] wx fun r w'=>∃ ov,r = .returned ov/\Acc wx wx.heap.size w' 73 3 ov (udQ 3 4 C).length (Qd (udQ 3 4 C))):=hid (fun wx pv qv h1 h2=>Xx pv qv _ _ h1 h2 (by rw[List.length_append,hpl,Qqj];simp[Yp]));clear h hS h0 hn hcu hdn hbd hle hq1 hpl;have RS:Hid (∀ wx:World,Ql (wx.alloc (.cells #[.int .u8 1,.int .u64 2560,.int .u64 3,.int .u8 1,.int .u64 2624,.int .u64 4] 73)) 3 (.slice (some ⟨wx.heap.size,0,none⟩) 2 2) (Yp 3 4).length (Qd (Yp 3 4))):=hid (fun wx=>Ql.new wx #[.int .u8 1,.int .u64 2560,.int .u64 3,.int .u8 1,.int .u64 2624,.int .u64 4] 73 3 2 rfl)
 generalize udQ 3 4 C=QQ at *
 generalize Ji C++Yp 3 4=Q2 at *
 generalize Yp 3 4=Q1 at *
 generalize Ji C=Q0 at *
 generalize Qh7=Q3 at *
 go_enter func25,ntmps25
 go_wp2_with fail
 (with_reducible refine HOV.out.mono ?_)
 rintro r w1 ⟨v1,own1,rfl,d1,b1,n1⟩;have B1:=hid b1;have N1:=hid n1
 have HO1:=hid (HO.out w1 v1 own1 d1);clear d1 b1 n1 HO HOV;go_wp2_with fail
 (with_reducible refine HO1.out.mono ?_)
 rintro r w2 ⟨rfl,l2,b2⟩;have B2:=hid ((B1.out.trans (b2.mono B1.out.size)).trans ((Qa w2 (.cells #[.int .u64 2560,.int .u64 2624] 31)).mono (Nat.le_trans B1.out.size b2.size)));have L2:=hid (l2.alloc (.cells #[.int .u64 2560,.int .u64 2624] 31));have HP1:=hid (HPL.out _ v1 own1 _ _ L2.out (R0.out w2));clear l2 b2 HO1 HPL;go_wp2_with fail
 (with_reducible refine HP1.out.mono ?_)
 rintro r w3 ⟨sv,rfl,a3⟩;obtain⟨pa,pc,hsv⟩:=a3.slice;subst hsv;have BA:=Qa w3 (.cells #[.int .u8 1,.int .u64 2560,.int .u64 3,.int .u8 1,.int .u64 2624,.int .u64 4] 73);have A3:=hid (a3.rd.below BA);have L3:=hid ((L2.out.below a3.bel).below BA);have B3:=hid ((B2.out.trans (a3.bel.mono B2.out.size)).trans (BA.mono (Nat.le_trans B2.out.size a3.bel.size)));have HT1:=hid (HTH.out _ _ _ A3.out (RS.out w3));clear a3 HP1 BA HTH;go_wp2_with fail
 (with_reducible refine HT1.out.mono ?_)
 rintro r w6 ⟨pv,rfl,a6⟩;have B6:=hid (B3.out.trans (a6.bel.mono B3.out.size));have HR1:=hid (HRN.out _ w6 v1 own1 _ pv L3.out N1.out B3.out.size a6);clear a6 HT1 HRN;go_wp2_with fail
 (with_reducible refine HR1.out.mono ?_)
 rintro r w7 ⟨rfl,b7,r7,h7⟩;have B7:=hid (B6.out.trans b7);have R7:=hid r7;have H7:=hid h7
 clear b7 r7 h7 HR1;go_wp2_with fail
 (with_reducible refine H7.out.mono ?_)
 rintro r w8 ⟨sv8,rfl,a8⟩;have B8:=hid (B7.out.trans (a8.bel.mono B7.out.size));have HT2:=hid (HTH2.out w8 pv sv8 (R7.out.below a8.bel) a8.rd);clear a8 H7 HTH2;go_wp2_with fail
 (with_reducible refine HT2.out.mono ?_)
 rintro r w9 ⟨ov,rfl,a9⟩;have A9:=hid (a9.deeper B8.out);clear a9;go_wp2_with fail
 go_ret2
 exact⟨_,rfl,A9.out⟩
end
end

section
open Go.Maps
attribute [local go_sem ↓] Go.wp_at_zero Go.wp_at_succ
section
variable{w:World}{v:DV}{own:Nat->Option Qp}{D:Dev}{g n x:Nat}{C F:Nat->Int}
theorem Qc3(k:Int):Calls prog 61 #[.int .i64 k] w fun r w'=>r = .returned (.agg (Lk k).cells)/\Below w.heap.size w w':=by
 go_enter func61,ntmps61
 go_wp2_with fail
 refine bodyPost_ret (v:=.agg (Lk k).cells) (by simp[results,results61,go_sem,Sup.cells,Lk]) rfl ⟨rfl,?_⟩
 exact Qa _ _
theorem Kv(i:Nat)(h1:1<=i)(h3:i<=3):Calls prog 64 #[.int .i64 i] w fun r w'=>r = .returned (.int .u64 (ptV i))/\w=w':=by
 have H:Hid (Calls prog 73 #[.int .u64 (4096-64*(i:Int)),.int .u16 1,.int .u8 64] w fun r w'=>r = .returned (.tuple #[.int .u64 (ptV i),.int .i64 0])/\w=w'):=hid (by
  have:=Eq (w:=w) (4096-64*i) (by omega) (by omega) (by omega)
  rwa [show((4096-64*i:Nat):Int)=4096-64*(i:Int)by omega]at this)
 have g1:IntKind.i64.wrap (64*(i:Int))=64*(i:Int):=IntWalk.i64_in _ (by omega);have g2:IntKind.i64.wrap (4096-64*(i:Int))=4096-64*(i:Int):=IntWalk.i64_in _ (by omega);have g3:IntKind.u64.wrap (4096-64*(i:Int))=4096-64*(i:Int):=IntWalk.u64_in _ (by omega)
 go_enter func64,ntmps64
 go_wp2_with fail
 (with_reducible refine H.out.mono ?_)
 rintro r w1 ⟨rfl,rfl⟩;go_wp2_with fail
 go_ret
 exact⟨rfl,rfl⟩
theorem Qs1(hN:Nib w)(h:IsDev w v own D)(hof:D.off=false)(he:D.err 0=0)(hvb:D.VB)(hn:48<=D.n) :
  Calls prog 25 #[.int .i64 0,(.iface 40 (.pointer (some ⟨v.tb 0,0,none⟩)))] w (Qlk w D.cur D.n (Lk 2)):=by
 have H1:=hid (Qc3 (w:=w) 2);have H2:=hid (fun(wx:World) (hb:Below w.heap.size w wx)=>Lg (hN.below hb) (h.below hb) (j:=0) (by omega) hof he hvb (by omega) (Lk 2) (Ru 2 (by omega) (by omega)) (by show(48:Int)<=(D.n:Int);omega) (by decide) (by decide));clear hN h he hn hof hvb
 go_enter func25,ntmps25
 go_wp2_with fail
 (with_reducible refine H1.out.mono ?_)
 rintro r w1 ⟨rfl,b1⟩;have B1:=hid b1;have H3:=hid (H2.out w1 b1);clear b1 H2;go_wp2_with fail
 (with_reducible refine H3.out.mono ?_)
 rintro r w2 (⟨h1,rfl,b2⟩ | ⟨h1,h2,rfl,b2⟩ | ⟨h1,h2,ov,rfl,a2⟩)
 ·have HH:=hid h1
  have B2:=hid (B1.out.trans (b2.mono B1.out.size));clear b2 h1
  go_wp2_with fail
  go_ret2
  exact .inl ⟨HH.out,rfl,B2.out⟩
 ·have HH:=hid (And.intro h1 h2)
  have B2:=hid (B1.out.trans (b2.mono B1.out.size));clear b2 h1 h2
  go_wp2_with fail
  go_ret2
  exact .inr (.inl ⟨HH.out.1,HH.out.2,rfl,B2.out⟩)
 ·have HH:=hid (And.intro h1 h2)
  have A2:=hid (a2.deeper B1.out);clear a2 h1 h2
  go_wp2_with fail
  go_ret2
  exact .inr (.inr ⟨HH.out.1,HH.out.2,_,rfl,A2.out⟩)
theorem Qs2(hN:Nib w)(h:IsDev w v own D)(hS:SCl D 0 n C x)(hn:64<=n)(ho:Bz (rtW C)=0)(he:Ry (rtW C) [98] (ptV 2) 4096=0) :
  Calls prog 25 #[.int .i64 1,(.iface 40 (.pointer (some ⟨v.tb 0,0,none⟩)))] w fun r w'=>∃ sv,r = .returned (.tuple #[sv,.int .i64 0])/\Acc w w.heap.size w' 73 3 sv (Yt 128 (rtW C) [98] (ptV 2)).length (Qd (Yt 128 (rtW C) [98] (ptV 2))):=by
 have H2:Hid (Calls prog 62 #[(.iface 40 (.pointer (some ⟨v.tb 0,0,none⟩))),.int .i64 2] w fun r w'=>r = .returned (.tuple #[.pointer (some ⟨w.heap.size,0,none⟩),.int .i64 0])/\Yg w' w.heap.size 128 (.iface 40 (.pointer (some ⟨v.tb 0,0,none⟩)))/\Below w.heap.size w w'):=hid (by
  refine(Lb hN h hS hn).mono ?_
  rintro r w' (⟨k,_⟩ | ⟨_,k⟩)
  ·exact absurd ho k
  ·exact k)
 have HP:Hid (∀ wx,Calls prog 64 #[.int .i64 2] wx fun r w'=>r = .returned (.int .u64 (ptV 2:Nat))/\wx=w'):=hid (fun wx=>Kv (w:=wx) 2 (by omega) (by omega));have H3:Hid (∀ w1 b,Below w.heap.size w w1->Yg w1 b 128 (.iface 40 (.pointer (some ⟨v.tb 0,0,none⟩)))->Calls prog 63 #[.pointer (some ⟨b,0,none⟩),.string ⟨#[98]⟩,.int .u64 (ptV 2:Nat)] w1 fun r w'=>∃ sv,r = .returned (.tuple #[sv,.int .i64 0])/\Acc w1 w1.heap.size w' 73 3 sv (Yt 128 (rtW C) [98] (ptV 2)).length (Qd (Yt 128 (rtW C) [98] (ptV 2)))):=hid (fun w1 b hb hd=>by
  have:=La (hS.don hn (h.below hb) hd) (hN.below hb) ⟨#[98]⟩ (ptV 2) (Cd 2);unfold Q5w at this;rw[Qyx,hS.grp.on.n,Qmv _ _ (by omega) (by omega) (by omega),he]at this;refine this.mono ?_
  rintro r w' (⟨k,_⟩ | ⟨_,k⟩)
  ·exact absurd rfl k
  ·exact k)
 clear hN h hS hn ho he
 go_enter func25,ntmps25
 go_wp2_with fail
 (with_reducible refine H2.out.mono ?_)
 rintro r w2 ⟨rfl,d2,b2⟩;have B2:=hid b2;have H4:=hid (H3.out w2 _ b2 d2);clear d2 b2 H2 H3;go_wp2_with fail
 (with_reducible refine(HP.out _).mono ?_)
 rintro r w3 ⟨rfl,rfl⟩;go_wp2_with fail
 (with_reducible refine H4.out.mono ?_)
 rintro r w4 ⟨sv,rfl,a4⟩;have A4:=hid (a4.deeper B2.out);clear a4
 go_wp2_with fail
 go_ret2
 exact⟨_,rfl,A4.out⟩
theorem Qs3(hN:Nib w)(h:IsDev w v own D)(hS:SCl D 0 n C x)(h0:C 80=0)(hn:64<=n) :
  Calls prog 25 #[.int .i64 2,(.iface 40 (.pointer (some ⟨v.tb 0,0,none⟩)))] w fun r w'=>∃ sv,r = .returned (.tuple #[sv,.int .i64 0])/\Acc w w.heap.size w' 73 3 sv (Zb 640 (rdW 3 4)).length (Qd (Zb 640 (rdW 3 4))):=by
 have hdn:D.n=n:=hS.grp.on.n;have hcu:=hS.cur;have HO:Hid (Calls prog 65 #[(.iface 40 (.pointer (some ⟨v.tb 0,0,none⟩))),.int .i64 10,.int .i64 26] w (Ve w v own D 0 640 1664)):=hid (Sz h (j:=0) (by omega) 10 26 (by omega) (by omega));have RS:Hid (∀ wx:World,Ql (wx.alloc (.cells #[.int .u64 2560,.int .u64 3,.int .u64 2624,.int .u64 4] 140)) 2 (.slice (some ⟨wx.heap.size,0,none⟩) 2 2) (rdW 3 4).length (Qv (rdW 3 4))):=hid (fun wx=>Ql.new wx #[.int .u64 2560,.int .u64 3,.int .u64 2624,.int .u64 4] 140 2 2 rfl);have HC:Hid (∀ (wx:World) (lb:Nat) (sv:Value),Ut wx v own D lb 0 640 1664->Nib wx->Ql wx 2 sv (rdW 3 4).length (Qv (rdW 3 4))->Calls prog 66 #[.pointer (some ⟨lb,0,none⟩),sv] wx fun r w'=>∃ sv,r = .returned (.tuple #[sv,.int .i64 0])/\Acc wx wx.heap.size w' 73 3 sv (Zb 640 (rdW 3 4)).length (Qd (Zb 640 (rdW 3 4)))):=hid (fun wx lb sv hl hnx hr=>by
  have:=Rq hnx hl hS.grp.on.off hS.grp.on.err hS.vb sv (rdW 3 4) hr (by simp[rdW]) (by simp[rdW]) (by rw[hdn];simp[rdW,Zg];omega);rw[Qa3]at this;refine this.mono fun r w' hp => ?_
  rcases hp with ⟨k1,_⟩ | ⟨_,k1,_⟩ | ⟨_,_,k2⟩
  ·exact absurd k1 (by simp[rdW])
  ·exact absurd (by rw[hcu];exact h0) k1
  ·exact k2)
 unfold Ve at HO;have HNB:=hid hN;clear hN h hS h0 hn hdn hcu
 go_enter func25,ntmps25
 go_wp2_with fail
 (with_reducible refine HO.out.mono ?_)
 rintro r w1 ⟨rfl,l1,b1⟩;have L1:=hid l1;have B1:=hid b1
 clear l1 b1 HO;have BA:=Qa w1 (.cells #[.int .u64 2560,.int .u64 3,.int .u64 2624,.int .u64 4] 140);have B2:=hid (B1.out.trans (BA.mono B1.out.size));have HC2:=hid (HC.out _ _ _ (L1.out.below BA) (HNB.out.below B2.out) (RS.out w1));clear BA HC;go_wp2_with fail
 (with_reducible refine HC2.out.mono ?_)
 rintro r w3 ⟨sv,rfl,a3⟩;have A3:=hid (a3.deeper B2.out);clear a3
 go_wp2_with fail
 go_ret2
 exact⟨_,rfl,A3.out⟩
theorem Qs5(h:IsDev w v own D)(hS:SCl D 0 n C x)(hn:64<=n)(hi:Gk C 1312)(h0:Qdk C 1312 6=0) :
  Calls prog 25 #[.int .i64 4,(.iface 40 (.pointer (some ⟨v.tb 0,0,none⟩)))] w fun r w'=>∃ sv,r = .returned (.tuple #[sv,.int .i64 0])/\Acc w w.heap.size w' 73 3 sv (Rm C 1312 6 2).length (Qd (Rm C 1312 6 2)):=by
 have H1:=hid (Fp (w:=w) (v:=v));have hcur:=hS.cur;have H2:Hid (∀ wx,Below w.heap.size w wx->Calls prog 72 #[.agg #[(.iface 40 (.pointer (some ⟨v.tb 0,0,none⟩))),.int .u64 1312],.int .u64 6,.int .u64 2] wx fun r w'=>∃ sv,r = .returned (.tuple #[sv,.int .i64 0])/\Acc wx wx.heap.size w' 73 3 sv (Rm C 1312 6 2).length (Qd (Rm C 1312 6 2))):=hid (fun wx hb=>by
  have:=Kd (h.below hb) (hS.bok hn) (by rw[hcur];exact hi) 6 (by omega) 2;rw[hcur,h0]at this;exact this)
 clear h hS hn hi h0 hcur
 go_enter func25,ntmps25
 go_wp2_with fail
 (with_reducible refine H1.out.mono ?_)
 rintro r w1 ⟨rfl,b1⟩;have B1:=hid b1;have H3:=hid (H2.out w1 b1);clear b1 H2;go_wp2_with fail
 (with_reducible refine H3.out.mono ?_)
 rintro r w2 ⟨sv,rfl,a2⟩;have A2:=hid (a2.deeper B1.out);clear a2
 go_wp2_with fail
 go_ret2
 exact⟨_,rfl,A2.out⟩
theorem Qs6(hd:IsDev w v own D)(h:OnC D n F x)(hn:64<=n)(hF:F 193=0)(h3:F 195=0)(P:Qlg F 6 2) :
  Calls prog 25 #[.int .i64 5,(.iface 40 (.pointer (some ⟨v.tb 0,0,none⟩)))] w fun r w'=>∃ sv,r = .returned (.tuple #[sv,.int .i64 0])/\Acc w w.heap.size w' 73 3 sv (Yu F 6 2).length (Qd (Yu F 6 2)):=by
 have H1:Hid (∀ wx,Calls prog 73 #[.int .u64 1536,.int .u16 1,.int .u8 2] wx fun r w'=>r = .returned (.tuple #[.int .u64 562954248388800,.int .i64 0])/\wx=w'):=hid (fun wx=>Ad (w:=wx) 1536 (by omega) (by omega) (by omega));have H2:Hid (∀ wx,Calls prog 74 #[(.iface 40 (.pointer (some ⟨v.tb 0,0,none⟩))),.int .u64 562954248388800] wx fun r w'=>r = .returned (.agg #[(.iface 40 (.pointer (some ⟨v.tb 0,0,none⟩))),.int .u64 562954248388800])/\Below wx.heap.size wx w'):=hid (fun wx=>Qg3 (w:=wx) _ _ (.inr ⟨_,_,rfl⟩));have H3:=hid (fun(wx:World) (hb:Below w.heap.size w wx)=>Qft (hd.below hb) h hn hF h3 6 2 P);clear hd h hn hF h3 P
 go_enter func25,ntmps25
 go_wp2_with fail
 (with_reducible refine(H1.out _).mono ?_)
 rintro r w1 ⟨rfl,rfl⟩;go_wp2_with fail
 (with_reducible refine(H2.out _).mono ?_)
 rintro r w1 ⟨rfl,b1⟩;have B1:=hid b1;have H4:=hid (H3.out w1 b1);clear b1 H3;go_wp2_with fail
 (with_reducible refine H4.out.mono ?_)
 rintro r w2 ⟨sv,rfl,a2⟩;have A2:=hid (a2.deeper B1.out);clear a2
 go_wp2_with fail
 go_ret2
 exact⟨_,rfl,A2.out⟩
end
end

section
open Go.Maps
attribute [local go_sem ↓] Go.wp_at_zero Go.wp_at_succ
section
variable{w:World}{v:DV}{own:Nat->Option Qp}{D:Dev}{g n x:Nat}{C F:Nat->Int}
def StT(w:World)(r:Ending)(w':World):Prop:=r = .returned (.bool true)/\Below w.heap.size w w'
theorem st0(k a:Int)(hk:k=0/\a=1\/k=1/\a=2)(hN:Nib w)(h:IsDev w v own D)(hS:SCl D 0 64 C x)(h1:opE C 64=0)(h2:(opS C 64).ver=a):Calls prog 76 #[.int .i64 0,(.iface 40 (.pointer (some ⟨v.tb 0,0,none⟩))),.int .i64 k] w (StT w):=by
 have HO:=hid (Tb hN h (j:=0) (by omega) hS.grp.on.off hS.grp.on.err hS.vb (by rw[hS.grp.on.n];omega));rw[hS.cur,hS.grp.on.n,h1]at HO;obtain⟨s,hs⟩:∃ s,opS C 64=s:=⟨_,rfl⟩;rw[hs]at HO h2;obtain⟨a0,a1,a2,a3,a4,a5,a6,a7⟩:=s;obtain rfl:a0=a:=h2;unfold Sup.cells at HO;clear hN h hS h1 hs;unfold StT
 rcases hk with ⟨rfl,rfl⟩ | ⟨rfl,rfl⟩
 all_goals
  go_enter func76,ntmps76
  go_wp2_with fail
  (with_reducible refine HO.out.mono ?_)
  rintro r w1 ⟨rfl,b1⟩;have B1:=hid b1;clear b1;go_wp2_with fail
  go_ret
  exact⟨rfl,B1.out.trans ((Qa _ _).mono B1.out.size)⟩
theorem st2(k a b:Int)(hk:k=0/\a=1/\b=2\/k=1/\a=3/\b=4)(hN:Nib w)(h:IsDev w v own D)(hS:SCl D 0 64 C x)(h1:(rdL 64 C).1=1)(h2:C 320=a)(h3:C 328=b):Calls prog 76 #[.int .i64 2,(.iface 40 (.pointer (some ⟨v.tb 0,0,none⟩))),.int .i64 k] w (StT w):=by
 have hdn:D.n=64:=hS.grp.on.n;have hcu:=hS.cur;have HLK:Hid (Calls prog 16 #[(.iface 40 (.pointer (some ⟨v.tb 0,0,none⟩))),.int .i64 10,.int .i64 26] w fun r w'=>∃ sv,r = .returned (.tuple #[.int .u8 1,sv])/\Below w.heap.size w w'):=hid ((Fz hN h (j:=0) (by omega) 10 26 (by omega) (by omega) hS.grp.on.off hS.vb).mono fun r w' hp=>by
  rw[hdn,hcu]at hp;obtain⟨sv,k1,k2⟩:=hp;rw[show Jj (64*64) (64*10) (64*26) C=rdL 64 C from rfl,h1]at k1;exact⟨sv,k1,k2.bel⟩)
 have H1:Hid (∀ wx,Below w.heap.size w wx->Calls prog 290 #[.pointer (some ⟨v.tb 0,0,none⟩),.int .u64 2560] wx fun r w'=>r = .returned (.int .u64 a)/\wx=w'):=hid (fun wx hb=>by
  have:=load_ok (h.below hb) (j:=0) (by omega) 2560 hS.grp.on.off (by omega) (by omega);rw[show((2560:Nat):Int)=2560 from rfl,show 2560/8=320 from rfl,hcu,h2]at this;exact this)
 have H2:Hid (∀ wx,Below w.heap.size w wx->Calls prog 290 #[.pointer (some ⟨v.tb 0,0,none⟩),.int .u64 2624] wx fun r w'=>r = .returned (.int .u64 b)/\wx=w'):=hid (fun wx hb=>by
  have:=load_ok (h.below hb) (j:=0) (by omega) 2624 hS.grp.on.off (by omega) (by omega);rw[show((2624:Nat):Int)=2624 from rfl,show 2624/8=328 from rfl,hcu,h3]at this;exact this)
 have hm1:=meth_Load ⟨v.tb 0,0,none⟩;clear hN h hS h1 h2 h3 hdn hcu;unfold StT
 rcases hk with ⟨rfl,rfl,rfl⟩ | ⟨rfl,rfl,rfl⟩
 all_goals
  go_enter func76,ntmps76
  go_wp2_with fail
  (with_reducible refine HLK.out.mono ?_)
  rintro r w1 ⟨sv,rfl,b1⟩;have B1:=hid b1;clear b1 HLK;go_wp2_with fail
  (with_reducible refine(H1.out _ B1.out).mono ?_)
  rintro r w2 ⟨rfl,rfl⟩;go_wp2_with fail
  (with_reducible refine(H2.out _ B1.out).mono ?_)
  rintro r w2 ⟨rfl,rfl⟩;go_wp2_with fail
  go_ret
  exact⟨rfl,B1.out⟩
theorem st3(k a b:Int)(hk:k=0/\a=1/\b=2\/k=1/\a=3/\b=4)(h:IsDev w v own D)(hS:SCl D 0 64 C x)(h1:Qk C 640 2 = [])(h2:C 320=a)(h3:C 328=b):Calls prog 76 #[.int .i64 3,(.iface 40 (.pointer (some ⟨v.tb 0,0,none⟩))),.int .i64 k] w (StT w):=by
 have hdn:D.n=64:=hS.grp.on.n;have hcu:=hS.cur;have HLK:Hid (Calls prog 17 #[(.iface 40 (.pointer (some ⟨v.tb 0,0,none⟩))),.int .i64 10,.int .i64 2] w fun r w'=>∃ sa sc,r = .returned (.slice sa 0 sc)/\Below w.heap.size w w'):=hid ((Mh h (j:=0) (by omega) 10 2 (by omega) (by omega) hS.grp.on.off hS.vb).mono fun r w' hp=>by
  rw[hcu]at hp;obtain⟨sv,rfl,k2⟩:=hp;rw[show Qk C (64*10) 2=Qk C 640 2 from rfl,h1]at k2;obtain⟨sa,sc,rfl⟩:=k2.slice;exact⟨sa,sc,rfl,k2.bel⟩)
 have H1:Hid (∀ wx,Below w.heap.size w wx->Calls prog 290 #[.pointer (some ⟨v.tb 0,0,none⟩),.int .u64 2560] wx fun r w'=>r = .returned (.int .u64 a)/\wx=w'):=hid (fun wx hb=>by
  have:=load_ok (h.below hb) (j:=0) (by omega) 2560 hS.grp.on.off (by omega) (by omega);rw[show((2560:Nat):Int)=2560 from rfl,show 2560/8=320 from rfl,hcu,h2]at this;exact this)
 have H2:Hid (∀ wx,Below w.heap.size w wx->Calls prog 290 #[.pointer (some ⟨v.tb 0,0,none⟩),.int .u64 2624] wx fun r w'=>r = .returned (.int .u64 b)/\wx=w'):=hid (fun wx hb=>by
  have:=load_ok (h.below hb) (j:=0) (by omega) 2624 hS.grp.on.off (by omega) (by omega);rw[show((2624:Nat):Int)=2624 from rfl,show 2624/8=328 from rfl,hcu,h3]at this;exact this)
 have hm1:=meth_Load ⟨v.tb 0,0,none⟩;clear h hS h1 h2 h3 hdn hcu;unfold StT
 rcases hk with ⟨rfl,rfl,rfl⟩ | ⟨rfl,rfl,rfl⟩
 all_goals
  go_enter func76,ntmps76
  go_wp2_with fail
  (with_reducible refine HLK.out.mono ?_)
  rintro r w1 ⟨sa,sc,rfl,b1⟩;have B1:=hid b1;clear b1 HLK;go_wp2_with fail
  (with_reducible refine(H1.out _ B1.out).mono ?_)
  rintro r w2 ⟨rfl,rfl⟩;go_wp2_with fail
  (with_reducible refine(H2.out _ B1.out).mono ?_)
  rintro r w2 ⟨rfl,rfl⟩;go_wp2_with fail
  go_ret
  exact⟨rfl,B1.out⟩
theorem st4(k c y e:Int)(hk:k=0/\c=1/\y=0/\e=5\/k=1/\c=2/\y=2/\e=0)(h:IsDev w v own D)(hS:SCl D 0 64 C x)(hi:Gk C 1312)(h1:(Qk9 (bkH C 1312):Int)=c)(h2:Qxb C 1312 5=1)(h3:Qxa C 1312 5=0)(h4:Qxb C 1312 6=y)(h5:Qxa C 1312 6=e):Calls prog 76 #[.int .i64 4,(.iface 40 (.pointer (some ⟨v.tb 0,0,none⟩))),.int .i64 k] w (StT w):=by
 have hcu:=hS.cur;have hok:=hS.bok (Nat.le_refl 64);have H1:=hid (Fp (w:=w) (v:=v));have H5:Hid (∀ wx,Below w.heap.size w wx->Calls prog 176 #[.agg #[(.iface 40 (.pointer (some ⟨v.tb 0,0,none⟩))),.int .u64 1312],.int .u64 5] wx fun r w'=>r = .returned (.tuple #[.int .u64 1,.int .i64 0])/\Below wx.heap.size wx w'):=hid (fun wx hb=>by
  have:=Sh (h.below hb) hok (by rw[hcu];exact hi) 5 (by omega);rw[hcu,h2,h3]at this;exact this)
 have H6:Hid (∀ wx,Below w.heap.size w wx->Calls prog 176 #[.agg #[(.iface 40 (.pointer (some ⟨v.tb 0,0,none⟩))),.int .u64 1312],.int .u64 6] wx fun r w'=>r = .returned (.tuple #[.int .u64 y,.int .i64 e])/\Below wx.heap.size wx w'):=hid (fun wx hb=>by
  have:=Sh (h.below hb) hok (by rw[hcu];exact hi) 6 (by omega);rw[hcu,h4,h5]at this;exact this)
 have HC:Hid (∀ wx,Below w.heap.size w wx->Calls prog 177 #[.agg #[(.iface 40 (.pointer (some ⟨v.tb 0,0,none⟩))),.int .u64 1312]] wx fun r w'=>r = .returned (.int .i64 c)/\Below wx.heap.size wx w'):=hid (fun wx hb=>by
  have:=Na (h.below hb) hok;rw[hcu,h1]at this;exact this)
 clear h hS hi h1 h2 h3 h4 h5 hcu hok;unfold StT
 rcases hk with ⟨rfl,rfl,rfl,rfl⟩ | ⟨rfl,rfl,rfl,rfl⟩
 all_goals
  go_enter func76,ntmps76
  go_wp2_with fail
  (with_reducible refine H1.out.mono ?_)
  rintro r w1 ⟨rfl,b1⟩;have B1:=hid (b1.trans ((Qa w1 (.cells #[(.iface 40 (.pointer (some ⟨v.tb 0,0,none⟩))),.int .u64 1312] 147)).mono b1.size));have K1:=hid (Blk.new w1 #[(.iface 40 (.pointer (some ⟨v.tb 0,0,none⟩))),.int .u64 1312] 147);have HG5:=hid (H5.out _ B1.out);clear b1 H1 H5;go_wp2_with fail
  (with_reducible refine HG5.out.mono ?_)
  rintro r w2 ⟨rfl,b2⟩;have B2:=hid (B1.out.trans (b2.mono B1.out.size));have K2:=hid (K1.out.below b2);have c0:=K2.out.cell (i:=0) (v:=(.iface 40 (.pointer (some ⟨v.tb 0,0,none⟩)))) rfl;have c1:=K2.out.cell (i:=1) (v:=.int .u64 1312) rfl
  have HG6:=hid (H6.out _ B2.out);clear b2 HG5 H6;go_wp2_with fail
  clear c0 c1
  (with_reducible refine HG6.out.mono ?_)
  rintro r w3 ⟨rfl,b3⟩;have B3:=hid (B2.out.trans (b3.mono B2.out.size));have K3:=hid (K2.out.below b3);have c0:=K3.out.cell (i:=0) (v:=(.iface 40 (.pointer (some ⟨v.tb 0,0,none⟩)))) rfl;have c1:=K3.out.cell (i:=1) (v:=.int .u64 1312) rfl
  have HC1:=hid (HC.out _ B3.out);clear b3 HG6 HC;go_wp2_with fail
  (with_reducible refine HC1.out.mono ?_)
  rintro r w4 ⟨rfl,b4⟩;have B4:=hid (B3.out.trans (b4.mono B3.out.size));clear b4;go_wp2_with fail
  go_ret
  exact⟨rfl,B4.out⟩
theorem st5(k c y e:Int)(hk:k=0/\c=1/\y=0/\e=5\/k=1/\c=2/\y=2/\e=0)(hd:IsDev w v own D)(h:OnC D 64 C x)(h1:Xk (lfW C) 4096)(h2:((Zd (lfW C)).length:Int)=c)(h3:Bb (lfW C) 5 = .tuple #[.int .u64 1,.int .i64 0])(h4:Bb (lfW C) 6 = .tuple #[.int .u64 y,.int .i64 e]):Calls prog 76 #[.int .i64 5,(.iface 40 (.pointer (some ⟨v.tb 0,0,none⟩))),.int .i64 k] w (StT w):=by
 have hw:=Sq h.cur;have hdn:=h.dn;have HM:Hid (∀ wx,Calls prog 73 #[.int .u64 1536,.int .u16 1,.int .u8 2] wx fun r w'=>r = .returned (.tuple #[.int .u64 562954248388800,.int .i64 0])/\wx=w'):=hid (fun wx=>Ad (w:=wx) 1536 (by omega) (by omega) (by omega));have HA:Hid (∀ wx,Calls prog 74 #[(.iface 40 (.pointer (some ⟨v.tb 0,0,none⟩))),.int .u64 562954248388800] wx fun r w'=>r = .returned (.agg #[(.iface 40 (.pointer (some ⟨v.tb 0,0,none⟩))),.int .u64 562954248388800])/\Below wx.heap.size wx w'):=hid (fun wx=>Qg3 (w:=wx) _ _ (.inr ⟨_,_,rfl⟩));have H5:Hid (∀ wx,Below w.heap.size w wx->Calls prog 178 #[.agg #[(.iface 40 (.pointer (some ⟨v.tb 0,0,none⟩))),.int .u64 562954248388800],.int .u64 5] wx fun r w'=>r = .returned (.tuple #[.int .u64 1,.int .i64 0])/\Below wx.heap.size wx w'):=hid (fun wx hb=>(Bc (h.node (hd.below hb) (Nat.le_refl 64)) 5).mono fun r w' hp=>by
  unfold Jk at hp;rw[hw,hdn,h3]at hp;exact⟨hp.2.elim (fun k=>k.2) (fun k=>absurd h1 k.1),hp.1⟩)
 have H6:Hid (∀ wx,Below w.heap.size w wx->Calls prog 178 #[.agg #[(.iface 40 (.pointer (some ⟨v.tb 0,0,none⟩))),.int .u64 562954248388800],.int .u64 6] wx fun r w'=>r = .returned (.tuple #[.int .u64 y,.int .i64 e])/\Below wx.heap.size wx w'):=hid (fun wx hb=>(Bc (h.node (hd.below hb) (Nat.le_refl 64)) 6).mono fun r w' hp=>by
  unfold Jk at hp;rw[hw,hdn,h4]at hp;exact⟨hp.2.elim (fun k=>k.2) (fun k=>absurd h1 k.1),hp.1⟩)
 have HK:Hid (∀ wx,Below w.heap.size w wx->Calls prog 127 #[.agg #[(.iface 40 (.pointer (some ⟨v.tb 0,0,none⟩))),.int .u64 562954248388800]] wx fun r w'=>r = .returned (.int .i64 0)/\Below wx.heap.size wx w'):=hid (fun wx hb=>(Ap (h.node (hd.below hb) (Nat.le_refl 64))).mono fun r w' hp=>by
  unfold Jk at hp;rw[hw,hdn]at hp;exact⟨hp.2.elim (fun k=>k.2) (fun k=>absurd h1 k.1),hp.1⟩)
 have HL:Hid (∀ wx,Below w.heap.size w wx->Calls prog 179 #[.agg #[(.iface 40 (.pointer (some ⟨v.tb 0,0,none⟩))),.int .u64 562954248388800]] wx fun r w'=>r = .returned (.int .i64 c)/\Below wx.heap.size wx w'):=hid (fun wx hb=>(Qfr (h.node (hd.below hb) (Nat.le_refl 64))).mono fun r w' hp=>by
  unfold Jk at hp;rw[hw,hdn,h2]at hp;exact⟨hp.2.elim (fun k=>k.2) (fun k=>absurd h1 k.1),hp.1⟩)
 clear hd h h1 h2 h3 h4 hw hdn;unfold StT
 rcases hk with ⟨rfl,rfl,rfl,rfl⟩ | ⟨rfl,rfl,rfl,rfl⟩
 all_goals
  go_enter func76,ntmps76
  go_wp2_with fail
  (with_reducible refine(HM.out _).mono ?_)
  rintro r w0 ⟨rfl,rfl⟩;go_wp2_with fail
  (with_reducible refine(HA.out _).mono ?_)
  rintro r w1 ⟨rfl,b1⟩;have B1:=hid (b1.trans ((Qa w1 (.cells #[(.iface 40 (.pointer (some ⟨v.tb 0,0,none⟩))),.int .u64 562954248388800] 154)).mono b1.size));have K1:=hid (Blk.new w1 #[(.iface 40 (.pointer (some ⟨v.tb 0,0,none⟩))),.int .u64 562954248388800] 154);have HG5:=hid (H5.out _ B1.out);clear b1 HA HM H5;go_wp2_with fail
  (with_reducible refine HG5.out.mono ?_)
  rintro r w2 ⟨rfl,b2⟩;have B2:=hid (B1.out.trans (b2.mono B1.out.size));have K2:=hid (K1.out.below b2);have c0:=K2.out.cell (i:=0) (v:=(.iface 40 (.pointer (some ⟨v.tb 0,0,none⟩)))) rfl;have c1:=K2.out.cell (i:=1) (v:=.int .u64 562954248388800) rfl
  have HG6:=hid (H6.out _ B2.out);clear b2 HG5 H6;go_wp2_with fail
  clear c0 c1
  (with_reducible refine HG6.out.mono ?_)
  rintro r w3 ⟨rfl,b3⟩;have B3:=hid (B2.out.trans (b3.mono B2.out.size));have K3:=hid (K2.out.below b3);have c0:=K3.out.cell (i:=0) (v:=(.iface 40 (.pointer (some ⟨v.tb 0,0,none⟩)))) rfl;have c1:=K3.out.cell (i:=1) (v:=.int .u64 562954248388800) rfl
  have HK1:=hid (HK.out _ B3.out);clear b3 HG6 HK;go_wp2_with fail
  clear c0 c1
  (with_reducible refine HK1.out.mono ?_)
  rintro r w4 ⟨rfl,b4⟩;have B4:=hid (B3.out.trans (b4.mono B3.out.size));have K4:=hid (K3.out.below b4);have c0:=K4.out.cell (i:=0) (v:=(.iface 40 (.pointer (some ⟨v.tb 0,0,none⟩)))) rfl;have c1:=K4.out.cell (i:=1) (v:=.int .u64 562954248388800) rfl
  have HL1:=hid (HL.out _ B4.out);clear b4 HK1 HL;go_wp2_with fail
  (with_reducible refine HL1.out.mono ?_)
  rintro r w5 ⟨rfl,b5⟩;have B5:=hid (B4.out.trans (b5.mono B4.out.size));clear b5;go_wp2_with fail
  go_ret
  exact⟨rfl,B5.out⟩
end
end

section
open Go.Maps
attribute [local go_sem ↓] Go.wp_at_zero Go.wp_at_succ
section
variable{w:World}{v:DV}{own:Nat->Option Qp}{D:Dev}{g n x:Nat}{C F:Nat->Int}
theorem Q7l(hN:Nib w)(h:IsDev w v own D)(hS:SCl D 0 64 C x)(ho:Bz (rtW C)=0)(hl:Tm (Gs (rtW C) 16) = [(⟨#[97]⟩,ptV 1)]):Calls prog 76 #[.int .i64 1,(.iface 40 (.pointer (some ⟨v.tb 0,0,none⟩))),.int .i64 0] w (StT w):=by
 have H2:Hid (Calls prog 62 #[(.iface 40 (.pointer (some ⟨v.tb 0,0,none⟩))),.int .i64 2] w fun r w'=>r = .returned (.tuple #[.pointer (some ⟨w.heap.size,0,none⟩),.int .i64 0])/\Yg w' w.heap.size 128 (.iface 40 (.pointer (some ⟨v.tb 0,0,none⟩)))/\Below w.heap.size w w'):=hid (by
  refine(Lb hN h hS (Nat.le_refl 64)).mono ?_
  rintro r w' (⟨k,_⟩ | ⟨_,k⟩)
  ·exact absurd ho k
  ·exact k)
 have HL:Hid (∀ wx b,Below w.heap.size w wx->Yg wx b 128 (.iface 40 (.pointer (some ⟨v.tb 0,0,none⟩)))->Calls prog 94 #[.pointer (some ⟨b,0,none⟩)] wx fun r w'=>∃ ov,r = .returned ov/\Acc wx wx.heap.size w' 171 2 ov 1 (eC [(⟨#[97]⟩,ptV 1)])):=hid (fun wx b hb hd=>by
  have:=Ta (hS.don (Nat.le_refl 64) (h.below hb) hd);rw[<- Kg (Gs (rtW C) 16),hl]at this;exact this)
 have HP1:Hid (∀ wx,Calls prog 64 #[.int .i64 1] wx fun r w'=>r = .returned (.int .u64 (ptV 1:Nat))/\wx=w'):=hid (fun wx=>Kv (w:=wx) 1 (by omega) (by omega));have HP2:Hid (∀ wx,Calls prog 64 #[.int .i64 2] wx fun r w'=>r = .returned (.int .u64 (ptV 2:Nat))/\wx=w'):=hid (fun wx=>Kv (w:=wx) 2 (by omega) (by omega));clear hN h hS ho hl;unfold StT
 generalize ptV 1=p1 at *
 generalize ptV 2=p2 at *
 go_enter func76,ntmps76
 go_wp2_with fail
 (with_reducible refine H2.out.mono ?_)
 rintro r w1 ⟨rfl,d1,b1⟩;have B1:=hid b1;have HL1:=hid (HL.out w1 _ b1 d1);clear d1 b1 H2 HL;go_wp2_with fail
 (with_reducible refine HL1.out.mono ?_)
 rintro r w2 ⟨ov,rfl,a2⟩;have B2:=hid (B1.out.trans (a2.bel.mono B1.out.size));have BD:=hid B2.out.drew;obtain⟨_,sa,sc,rfl,hsc,hE⟩:=a2.rd;obtain⟨g2,o2,rfl,hc2⟩:=Zr hE (show(eC [(⟨#[97]⟩,p1)])[0]? = some (.string ⟨#[97]⟩)from rfl);have c1:w2.drew.cell? ⟨g2,o2,none⟩=some (.string ⟨#[97]⟩):=hc2 0 _ rfl;have c2:w2.drew.cell? ⟨g2,o2+1,none⟩=some (.int .u64 p1):=hc2 1 _ rfl;clear a2 hE hc2 HL1;go_wp2_with fail
 refine wp_region_held (S:=(fun wx=>wx=w2.drew)) (by kernel_rfl) ?_
 change wpAnyH _ _ _ _ _ _ _ _ (World.drew _)
 refine tkH 0 (.slice (some ⟨g2,o2,none⟩) 1 sc) rfl (fun w _=>by go_simp) rfl ?_
 refine tkH 2 (.int .i64 0) rfl (fun w _=>by go_simp) rfl ?_
 refine tkH 3 (.int .i64 1) rfl (fun wx hx=>(by go_simp <;> exact IntWalk.i64_in _ (by omega))) rfl ?_
 refine onH 1 rfl (fun K hK => ?_);go_simp;refine hK _ _ ⟨rfl,?_⟩;clear hK K
 refine onH 4 rfl (fun K hK => ?_);go_simp;refine hK _ _ ⟨rfl,?_⟩;clear hK K
 refine onH 5 rfl (fun K hK => ?_);go_simp;refine hK _ _ ⟨rfl,?_⟩;clear hK K
 refine tkH 6 (.slice (some ⟨g2,o2,none⟩) 1 sc) rfl (fun w _=>by go_simp) rfl ?_
 refine tkH 7 (.pointer (some ⟨g2,o2,none⟩)) rfl (fun w _=>by go_simp) rfl ?_
 refine tkH 8 (.agg #[.string ⟨#[97]⟩,.int .u64 p1]) rfl (fun wx hx=>(by subst hx;go_simp)) rfl ?_
 refine onH 9 rfl (fun K hK => ?_);go_simp
 (with_reducible refine(HP1.out _).mono ?_)
 rintro e w' ⟨rfl,rfl⟩
 go_simp;refine hK _ _ ⟨rfl,?_⟩;clear hK K
 refine onH 10 rfl (fun K hK => ?_);go_simp;refine hK _ _ ⟨rfl,?_⟩;clear hK K
 refine onH 11 rfl (fun K hK => ?_);go_simp;refine hK _ _ ⟨rfl,?_⟩;clear hK K
 refine onH 12 rfl (fun K hK => ?_);go_simp;refine hK _ _ ⟨rfl,?_⟩;clear hK K
 refine onH 13 rfl (fun K hK => ?_);go_simp;refine hK _ _ ⟨rfl,?_⟩;clear hK K
 refine onH 14 rfl (fun K hK => ?_);go_simp;refine hK _ _ ⟨rfl,?_⟩;clear hK K
 refine onH 15 rfl (fun K hK => ?_);go_simp;refine hK _ _ ⟨rfl,?_⟩;clear hK K
 refine onH 16 rfl (fun K hK => ?_);go_simp;refine hK _ _ ⟨rfl,?_⟩;clear hK K
 refine offH 17 rfl rfl ?_
 refine offH 18 rfl rfl ?_
 refine offH 19 rfl rfl ?_
 refine offH 20 rfl rfl ?_
 refine offH 21 rfl rfl ?_
 refine offH 22 rfl rfl ?_
 refine onH 23 rfl (fun K hK => ?_);go_simp;refine hK _ _ ⟨rfl,?_⟩;clear hK K
 refine onH 24 rfl (fun K hK => ?_);go_simp;refine hK _ _ ⟨rfl,?_⟩;clear hK K
 refine onH 25 rfl (fun K hK => ?_);go_simp;refine hK _ _ ⟨rfl,?_⟩;clear hK K
 refine wpAnyH_done (by kernel_rfl) ?_ _
 go_wp2_with fail
 go_ret
 exact⟨rfl,BD.out⟩
theorem Q7m(hN:Nib w)(h:IsDev w v own D)(hS:SCl D 0 64 C x)(ho:Bz (rtW C)=0)(hl:Tm (Gs (rtW C) 16) = [(⟨#[97]⟩,ptV 1),(⟨#[98]⟩,ptV 2)]):Calls prog 76 #[.int .i64 1,(.iface 40 (.pointer (some ⟨v.tb 0,0,none⟩))),.int .i64 1] w (StT w):=by
 have H2:Hid (Calls prog 62 #[(.iface 40 (.pointer (some ⟨v.tb 0,0,none⟩))),.int .i64 2] w fun r w'=>r = .returned (.tuple #[.pointer (some ⟨w.heap.size,0,none⟩),.int .i64 0])/\Yg w' w.heap.size 128 (.iface 40 (.pointer (some ⟨v.tb 0,0,none⟩)))/\Below w.heap.size w w'):=hid (by
  refine(Lb hN h hS (Nat.le_refl 64)).mono ?_
  rintro r w' (⟨k,_⟩ | ⟨_,k⟩)
  ·exact absurd ho k
  ·exact k)
 have HL:Hid (∀ wx b,Below w.heap.size w wx->Yg wx b 128 (.iface 40 (.pointer (some ⟨v.tb 0,0,none⟩)))->Calls prog 94 #[.pointer (some ⟨b,0,none⟩)] wx fun r w'=>∃ ov,r = .returned ov/\Acc wx wx.heap.size w' 171 2 ov 2 (eC [(⟨#[97]⟩,ptV 1),(⟨#[98]⟩,ptV 2)])):=hid (fun wx b hb hd=>by
  have:=Ta (hS.don (Nat.le_refl 64) (h.below hb) hd);rw[<- Kg (Gs (rtW C) 16),hl]at this;exact this)
 have HP1:Hid (∀ wx,Calls prog 64 #[.int .i64 1] wx fun r w'=>r = .returned (.int .u64 (ptV 1:Nat))/\wx=w'):=hid (fun wx=>Kv (w:=wx) 1 (by omega) (by omega));have HP2:Hid (∀ wx,Calls prog 64 #[.int .i64 2] wx fun r w'=>r = .returned (.int .u64 (ptV 2:Nat))/\wx=w'):=hid (fun wx=>Kv (w:=wx) 2 (by omega) (by omega));clear hN h hS ho hl;unfold StT
 generalize ptV 1=p1 at *
 generalize ptV 2=p2 at *
 go_enter func76,ntmps76
 go_wp2_with fail
 (with_reducible refine H2.out.mono ?_)
 rintro r w1 ⟨rfl,d1,b1⟩;have B1:=hid b1;have HL1:=hid (HL.out w1 _ b1 d1);clear d1 b1 H2 HL;go_wp2_with fail
 (with_reducible refine HL1.out.mono ?_)
 rintro r w2 ⟨ov,rfl,a2⟩;have B2:=hid (B1.out.trans (a2.bel.mono B1.out.size));have BD:=hid B2.out.drew;obtain⟨_,sa,sc,rfl,hsc,hE⟩:=a2.rd;obtain⟨g2,o2,rfl,hc2⟩:=Zr hE (show(eC [(⟨#[97]⟩,p1),(⟨#[98]⟩,p2)])[0]? = some (.string ⟨#[97]⟩)from rfl);have c1:w2.drew.cell? ⟨g2,o2,none⟩=some (.string ⟨#[97]⟩):=hc2 0 _ rfl;have c2:w2.drew.cell? ⟨g2,o2+1,none⟩=some (.int .u64 p1):=hc2 1 _ rfl;have c3:w2.drew.cell? ⟨g2,o2+2,none⟩=some (.string ⟨#[98]⟩):=hc2 2 _ rfl;have c4:w2.drew.cell? ⟨g2,o2+2+1,none⟩=some (.int .u64 p2):=hc2 3 _ rfl;clear a2 hE hc2 HL1;go_wp2_with fail
 refine wp_region_held (S:=(fun wx=>wx=w2.drew)) (by kernel_rfl) ?_
 change wpAnyH _ _ _ _ _ _ _ _ (World.drew _)
 refine tkH 0 (.slice (some ⟨g2,o2,none⟩) 2 sc) rfl (fun w _=>by go_simp) rfl ?_
 refine tkH 2 (.int .i64 1) rfl (fun w _=>by go_simp) rfl ?_
 refine tkH 3 (.int .i64 2) rfl (fun wx hx=>(by go_simp <;> exact IntWalk.i64_in _ (by omega))) rfl ?_
 refine onH 1 rfl (fun K hK => ?_);go_simp;refine hK _ _ ⟨rfl,?_⟩;clear hK K
 refine onH 4 rfl (fun K hK => ?_);go_simp;refine hK _ _ ⟨rfl,?_⟩;clear hK K
 refine onH 5 rfl (fun K hK => ?_);go_simp;refine hK _ _ ⟨rfl,?_⟩;clear hK K
 refine tkH 6 (.slice (some ⟨g2,o2,none⟩) 2 sc) rfl (fun w _=>by go_simp) rfl ?_
 refine tkH 7 (.pointer (some ⟨g2,o2,none⟩)) rfl (fun w _=>by go_simp) rfl ?_
 refine tkH 8 (.agg #[.string ⟨#[97]⟩,.int .u64 p1]) rfl (fun wx hx=>(by subst hx;go_simp)) rfl ?_
 refine onH 9 rfl (fun K hK => ?_);go_simp
 (with_reducible refine(HP1.out _).mono ?_)
 rintro e w' ⟨rfl,rfl⟩
 go_simp;refine hK _ _ ⟨rfl,?_⟩;clear hK K
 refine onH 10 rfl (fun K hK => ?_);go_simp;refine hK _ _ ⟨rfl,?_⟩;clear hK K
 refine onH 11 rfl (fun K hK => ?_);go_simp;refine hK _ _ ⟨rfl,?_⟩;clear hK K
 refine onH 12 rfl (fun K hK => ?_);go_simp;refine hK _ _ ⟨rfl,?_⟩;clear hK K
 refine onH 13 rfl (fun K hK => ?_);go_simp;refine hK _ _ ⟨rfl,?_⟩;clear hK K
 refine onH 14 rfl (fun K hK => ?_);go_simp;refine hK _ _ ⟨rfl,?_⟩;clear hK K
 refine onH 15 rfl (fun K hK => ?_);go_simp;refine hK _ _ ⟨rfl,?_⟩;clear hK K
 refine onH 16 rfl (fun K hK => ?_);go_simp;refine hK _ _ ⟨rfl,?_⟩;clear hK K
 refine tkH 17 (.slice (some ⟨g2,o2,none⟩) 2 sc) rfl (fun w _=>by go_simp) rfl ?_
 refine tkH 18 (.pointer (some ⟨g2,o2+2,none⟩)) rfl (fun w _=>by go_simp) rfl ?_
 refine tkH 19 (.agg #[.string ⟨#[98]⟩,.int .u64 p2]) rfl (fun wx hx=>(by subst hx;go_simp)) rfl ?_
 refine onH 20 rfl (fun K hK => ?_);go_simp
 (with_reducible refine(HP2.out _).mono ?_)
 rintro e w' ⟨rfl,rfl⟩
 go_simp;refine hK _ _ ⟨rfl,?_⟩;clear hK K
 refine onH 21 rfl (fun K hK => ?_);go_simp;refine hK _ _ ⟨rfl,?_⟩;clear hK K
 refine onH 22 rfl (fun K hK => ?_);go_simp;refine hK _ _ ⟨rfl,?_⟩;clear hK K
 refine onH 23 rfl (fun K hK => ?_);go_simp;refine hK _ _ ⟨rfl,?_⟩;clear hK K
 refine onH 24 rfl (fun K hK => ?_);go_simp;refine hK _ _ ⟨rfl,?_⟩;clear hK K
 refine onH 25 rfl (fun K hK => ?_);go_simp;refine hK _ _ ⟨rfl,?_⟩;clear hK K
 refine wpAnyH_done (by kernel_rfl) ?_ _
 go_wp2_with fail
 go_ret
 exact⟨rfl,BD.out⟩
end
end
end Go.Proofs.YtlhchkajjpefmaaGreatDoor
