import Derived.Test.YtlhchkajjpefmaaGreatDoorJ6
import Derived.Test.YtlhchkajjpefmaaGreatDoorJ4
import Derived.Test.YtlhchkajjpefmaaGreatDoorJ1
import Derived.Test.YtlhchkajjpefmaaGreatDoorJ3
import Derived.Laws.BitsAllLaws
set_option maxHeartbeats 16000000
set_option maxRecDepth 100000
namespace Go.Proofs.YtlhchkajjpefmaaGreatDoor
section
open Go.RowKit Go.Maps
attribute [local go_sem ↓] Go.wp_at_zero Go.wp_at_succ
section
variable{w:World}{v:DV}{own:Nat→Option Role}{D:Dev}
theorem csChoice_any(h:IsDev w v own D)(hvb:D.VB)(hx:D.exec<200)(n:Nat)(hn:n<prodN (basesL D))(hp:prodN (basesL D)≤4611686018427387904) :
  Calls Tryz.prog 58 #[.pointer (some ⟨v.db,0,none⟩),.int .u64 n] w fun r w'=>∃ g,r = .returned (.tuple #[.slice (some ⟨g,0,none⟩) D.dirtyL.length D.dirtyL.length,.int .i64 0])∧Row w' g D.dirtyL.length 5 (fun i => .int .u8 (digN (basesL D) n i))∧w.heap.size≤g∧Below w.heap.size w w':=by
 have hql:∀ l∈D.dirtyL,(D.hist l).length≤200:=fun l hl=>by
  have hln:l<D.n:=by
   unfold Dev.dirtyL at hl;have:=(List.mem_filter.1 hl).1;simpa using this
  have:=h.wf.cnt l hln;omega
 have hdl:D.dirtyL.length≤1000000:=by
  have h1:D.dirtyL.length≤D.n:=by unfold Dev.dirtyL;exact filt_len D D.n
  have:=h.wf.le;omega
 have HE:=Lib.hid (examine_any h hvb (by omega));have HSP:=Lib.hid (fun(wx:World) (pg:Nat) (lv hv:Value) (hs:List Value) (hE:ExAt D pg lv hv hs wx)=>splitN_any (N:=64*D.n) hE n hn (by omega) hdl (fun l hl=>by have:=hql l hl;omega));have HQL:=Lib.hid hql;have HBA:=Lib.hid (bases_at D);obtain⟨N,hN⟩:∃ N,64*D.n=N:=⟨_,rfl⟩;obtain⟨m,hm⟩:∃ m,D.dirtyL.length=m:=⟨_,rfl⟩;have HM:=Lib.hid hm;rw[hN]at HE HSP;rw[hm]at HSP hdl ⊢;have hmk:=fun(wx:World)=>mkBytes wx m hdl
 clear h hvb hx hn hp hN hm hql
 go_enter Tryz.func58,Tryz.ntmps58
 go_wp2_with fail
 (with_reducible refine HE.out.mono ?_)
 rintro r w1 ⟨pg,lv,hv,hs,rfl,hE,b1⟩;obtain⟨la,lc,rfl⟩:∃ la lc,lv = .slice la m lc:=by obtain⟨_,a,c,e,_,_⟩:=hE.lines;rw[HM.out]at e;exact⟨a,c,e⟩
 obtain⟨ha,hc,rfl⟩:∃ ha hc,hv = .slice ha m hc:=by obtain⟨_,a,c,e,_,_⟩:=hE.hist;rw[HM.out]at e;exact⟨a,c,e⟩
 have B1:=Lib.hid b1;have b2:=below_alloc w1 (.cells #[.slice (some ⟨pg,0,none⟩) N N,.slice la m lc,.slice ha m hc] 95);have X2:=Lib.hid (Blk.new w1 #[.slice (some ⟨pg,0,none⟩) N N,.slice la m lc,.slice ha m hc] 95);have B2:=Lib.hid (B1.out.trans (b2.mono B1.out.size));have E2:=Lib.hid (hE.next b2);have HS2:=Lib.hid (HSP.out _ _ _ _ _ E2.out);have x0:=X2.out.cell (i:=0) rfl;have x1:=X2.out.cell (i:=1) rfl;have x2:=X2.out.cell (i:=2) rfl;clear b1 b2 hE HE HSP;go_wp2_with fail
 (with_reducible refine HS2.out.mono ?_)
 rintro r w3 ⟨kb,f,rfl,f1,f2,f3,b3⟩;have B3:=Lib.hid (B2.out.trans (b3.mono B2.out.size));have X3:=Lib.hid (X2.out.below b3);have E3:=Lib.hid (E2.out.next b3);have F1:=Lib.hid (And.intro f1 f2);clear f1 f2 f3 b3 HS2 x0 x1 x2 E2 X2;have M0:Hid (Row (w3.alloc (.cells (madeCells #[.int .u8 0] m) 5)) w3.heap.size m 5 (fun i => .int .u8 (if i<0 then(digN (basesL D) n i:Int)else 0))∧Upd (· = w3.heap.size) (w3.alloc (.cells (madeCells #[.int .u8 0] m) 5)) (w3.alloc (.cells (madeCells #[.int .u8 0] m) 5))):=⟨(row_made w3 5 .u8 m).congr (fun i _=>by simp),Upd.refl _ _⟩;have BM:Hid (Below w3.heap.size w3 (w3.alloc (.cells (madeCells #[.int .u8 0] m) 5))):=Lib.hid (below_alloc _ _);go_wp2_with fail
 obtain⟨wb,hwb⟩:∃ wb,w3.alloc (.cells (madeCells #[.int .u8 0] m) 5)=wb:=⟨_,rfl⟩;rw[hwb]at M0 BM ⊢;clear hwb
 go_loopw [29] (fun y wr=>∃ k:Nat,k≤m∧y = .int .i64 k∧Row wr w3.heap.size m 5 (fun i => .int .u8 (if i<k then(digN (basesL D) n i:Int)else 0))∧Upd (· = w3.heap.size) wb wr) (fun y _=>m-(intOf y).toNat)
 case atStart=>exact⟨0,by omega,rfl,M0.out⟩
 case round=>
  clear M0;obtain⟨k,hk,rfl,hr,hu⟩:=hrel;rename World=>wr
  have R:=Lib.hid hr;have BR:Hid (Below w3.heap.size w3 wr):=Lib.hid ⟨hu.os.trans BM.out.os,hu.tape.trans BM.out.tape,hu.output.trans BM.out.output,Nat.le_trans BM.out.size hu.size,fun j hj=>(hu.block j (Nat.lt_of_lt_of_le hj BM.out.size) (fun e=>by have e':j=w3.heap.size:=e;omega)).trans (BM.out.block j hj)⟩;have U:=Lib.hid hu;clear hr hu
  by_cases hlt:k<m
  ·have hlt':(k:Int)<m:=by omega
   obtain⟨l,hl⟩:∃ l,D.dirtyL[k]? = some l:=⟨_,List.getElem?_eq_getElem (by rw[HM.out];exact hlt)⟩;have hq1:=HQL.out l (List.mem_of_getElem? hl);obtain⟨hb1,hb2⟩:=HBA.out k l hl;obtain⟨hfk,hfd⟩:=F1.out.2 k _ hb2;have E4:=E3.out.next BR.out;obtain⟨u,r1,r2⟩:=E4.row k l hl;have hhb:=E4.hist;rw[HM.out]at hhb;obtain⟨_,_,_,e',_,hE⟩:=hhb
   cases e'
   obtain⟨hb,ho,rfl,hE2⟩:=rd_at hE r1;have c1:=hE2 k _ r1;obtain⟨ua,q,uc,rfl,hqe⟩:∃ ua q uc,u = .slice ua q uc∧q=(D.hist l).length:=by obtain⟨_,a,c,e,_,_⟩:=r2;exact⟨a,_,c,e,rfl⟩
   rw[← hqe]at hq1 hfk;have c2:=(F1.out.1.below BR.out).cell (i:=k) hlt;have x2:=(X3.out.below BR.out).cell (i:=2) rfl;have d1:=R.out.cell (i:=k) hlt;have d2:=R.out.frozen k;have hgl:=R.out.lt;obtain⟨z,hz⟩:∃ z,f k=z:=⟨_,rfl⟩;rw[hz]at c2 hfk hfd;have gz:IntKind.u8.wrap (z:Int)=(z:Int):=IntWalk.u8_in _ (by omega);have HFD:=Lib.hid hfd;clear hE hE2 r1 r2 E4 hl hb1 hb2 hqe hz;go_wp2_with fail
   go_roundw
   case rel=>
    refine⟨k+1,by omega,by go_num,(R.out.set k _).congr (fun i _ => ?_),U.out.setCell (fun _=>rfl) _⟩
    by_cases e:i=k
    ·subst e
     rw[if_pos rfl,if_pos (by omega)]
    ·rw[if_neg e]
     by_cases e2:i<k
     ·rw[if_pos e2,if_pos (by omega)]
     ·rw[if_neg e2,if_neg (by omega)]
   case measure=>simp[intOf];omega
  ·obtain rfl:k=m:=by omega
   go_wp2_with fail
   go_ret2
   exact⟨w3.heap.size,rfl,R.out.congr (fun i hi=>by rw[if_pos hi]),B3.out.size,B3.out.trans (BR.out.mono B3.out.size)⟩
end
end

section
open Go.RowKit Go.Maps
attribute [local go_sem ↓] Go.wp_at_zero Go.wp_at_succ
theorem below_set3{w wx:World}{b B:Nat}(h:Below B w wx)(hb:B≤b)(v0 v1 v2:Value):Below B w (((wx.setCell ⟨b,0,none⟩ v0).setCell ⟨b,1,none⟩ v1).setCell ⟨b,2,none⟩ v2):=((h.setCell hb _).setCell hb _).setCell hb _
section
variable{w:World}{v:DV}{own:Nat→Option Role}{D0:Dev}
structure FiS(w:World)(v:DV)(own:Nat→Option Role)(D0:Dev)(q:List (Nat×Nat×Int))(w1:World)(b:Nat)(C:Array Value)(t:TypeId)(k:Nat)(wr:World):Prop where
 post:DPost v own w1 (D0.run 0 (q.take k)) wr
 res:Blk wr b C t
 bel:Below w.heap.size w wr
 own:∀ j,own j≠none→w.heap.size≤j∧j≠b
 sz:w.heap.size≤w1.heap.size
 bz:w.heap.size≤b∧b<w1.heap.size
section
variable{q:List (Nat×Nat×Int)}{w1 wr wz:World}{b k:Nat}{C:Array Value}{t:TypeId}
theorem FiS.next(h:FiS w v own D0 q w1 b C t k wr)(hb:Below wr.heap.size wr wz):FiS w v own D0 q w1 b C t k wz:=by
 obtain⟨own1,d1,o1,u1⟩:=h.post;exact⟨⟨own1,d1.kept hb.size (fun k hk=>hb.block k (d1.lt k hk)),o1,u1.trans (Upd.of_below hb) (fun _ _ h=>h)⟩,h.res.below hb,h.bel.trans (hb.mono h.bel.size),h.own,h.sz,h.bz⟩
theorem FiS.start(h:IsDev w1 v own D0)(hr:Blk w1 b C t)(hb:Below w.heap.size w w1)(ho:∀ j,own j≠none→w.heap.size≤j∧j≠b)(hz:w.heap.size≤b):FiS w v own D0 q w1 b C t 0 w1:=
 ⟨DPost.refl h,hr,hb,ho,hb.size,⟨hz,hr.lt⟩⟩
theorem FiS.run(h:FiS w v own D0 q w1 b C t k wr){own1:Nat→Option Role}(o1:∀ j,j<w1.heap.size→own1 j=own j)(u1:Upd (fun j=>own j≠none) w1 wr){e:Nat×Nat×Int}(he:q[k]? = some e)(hp:DPost v own1 wr ((D0.run 0 (q.take k)).run 0 [e]) wz):FiS w v own D0 q w1 b C t (k+1) wz:=by
 have e1:(D0.run 0 (q.take k)).run 0 [e]=D0.run 0 (q.take (k+1)):=by rw[take_snocI q k e he,Dev.run_append]
 rw[e1]at hp;have hu:Upd (fun j=>own1 j≠none) wr wz:=by obtain⟨_,_,_,hu⟩:=hp;exact hu
 have hb1:own1 b=none:=by
  rw[o1 b h.bz.2]
  cases hh:own b with
  | none=>rfl
  | some x=>exact absurd rfl ((h.own b (by rw[hh];simp)).2)
 refine⟨DPost.next o1 u1 hp,h.res.upd hu (by simpa using hb1),⟨hu.os.trans h.bel.os,hu.tape.trans h.bel.tape,hu.output.trans h.bel.output,Nat.le_trans h.bel.size hu.size,fun j hj => ?_⟩,h.own,h.sz,h.bz⟩
 have hj1:j<w1.heap.size:=Nat.lt_of_lt_of_le hj h.sz;rw[hu.block j (Nat.lt_of_lt_of_le hj h.bel.size) (by
  rw[o1 j hj1]
  cases hh:own j with
  | none=>simp
  | some x=>have:=(h.own j (by rw[hh];simp)).1;omega)]
 exact h.bel.block j hj
end
theorem slice_one(fb fo M sc k:Nat)(h:k+1≤sc)(wx:World):(Instr.slice 37 (.slice (some ⟨fb,fo,none⟩) M sc) (some (.int .i64 k)) (some (.int .i64 ((k:Int)+1))) none).run Tryz.prog wx = .ok (.slice (some ⟨fb,fo+k*3,none⟩) 1 (sc-k)) wx:=by
 have hne:¬ sc=k:=by omega
 rw[run_slice_lh wx 37 _ M sc (by kernel_rfl) .i64 .i64 _ _ (by omega) (by omega) (by omega)];have hs:(sizeOf (Tryz.prog.elem 37)).run Tryz.prog wx = .ok 3 wx:=by kernel_rfl
 rw[hs];have e1:((k:Int)).toNat=k:=by omega
 have e2:((k:Int)+1).toNat=k+1:=by omega
 have e3:(⟨fb,fo,none⟩:Addr).add (k*3)=⟨fb,fo+k*3,none⟩:=Addr.add_mid _ _ _;simp[Result.andThen,sliced,e1,e2,hne,e3]
theorem sliceAt_one(fb fo M sc k:Nat)(h:k+1≤sc)(wx:World):(Instr.sliceAt 37 (.slice (some ⟨fb,fo,none⟩) M sc) (some (.int .i64 k)) (some (.int .i64 ((k:Int)+1))) none).run Tryz.prog wx = .ok (.slice (some ⟨fb,fo+k*3,none⟩) 1 (sc-k)) wx:=by
 rw[run_sliceAt_slice wx 37 _ _ _ _ (by kernel_rfl)];exact slice_one fb fo M sc k h wx
def FiP(D0:Dev)(Q:List (Nat×Nat×Int))(is:Bool)(f:Int)(L:Nat)(r:Ending)(w':World):Prop:=
 (is=false∧r = .returned (.tuple #[.agg #[.int .i64 0,.int .i64 0,.slice none 0 0],.bool false,.int .i64 2])) ∨
 (is=true∧(fnd D0 Q L).2.2=2∧r = .returned (.tuple #[.agg #[.int .i64 0,.int .i64 0,.slice none 0 0],.bool false,.int .i64 9])) ∨
 (is=true∧(fnd D0 Q L).2.2=1∧r = .returned (.tuple #[.agg #[.int .i64 0,.int .i64 0,.slice none 0 0],.bool false,.int .i64 0])) ∨
 (is=true∧∃ (k i g:Nat),fnd D0 Q L=(k,i,0)∧k≤Q.length∧i<prodN (basesL (D0.run 0 (Q.take k))) ∧
  r = .returned (.tuple #[.agg #[.int .i64 f,.int .i64 k,.slice (some ⟨g,0,none⟩) (D0.run 0 (Q.take k)).dirtyL.length (D0.run 0 (Q.take k)).dirtyL.length],.bool true,.int .i64 0]) ∧
  Row w' g (D0.run 0 (Q.take k)).dirtyL.length 5 (fun j => .int .u8 (digN (basesL (D0.run 0 (Q.take k))) i j)))
def FiPost(n:Nat)(q:List (Nat×Nat×Int))(f L:Int)(r:Ending)(w':World):Prop:=
 (L<1∧r = .returned (.tuple #[.agg #[.int .i64 0,.int .i64 0,.slice none 0 0],.bool false,.int .i64 1]))∨(1≤L∧FiP (Dev.fresh n (fun _=>0)) (qOf f q) (isOf f q) f L.toNat r w')
theorem ncFind_any(n:Nat)(pv:Value)(q:List (Nat×Nat×Int))(h:RdSl w 3 pv q.length (refP q))(hq:∀ e∈q,OkQ n e)(hpl:Plain54 q)(hl:q.length≤60)(h4:4≤n)(hn:n≤4096)(f L:Int)(_hf0 : -9223372036854775808≤f∧f≤9223372036854775807)(hL:L≤9223372036854775807) :
  Calls Tryz.prog 22 #[.iface 83 (.agg #[pv]),.int .i64 n,.int .i64 f,.int .i64 L] w fun r w'=>FiPost n q f L r w'∧Below w.heap.size w w':=by
 have K0:=Lib.hid (Blk.new w #[.int .i64 0,.int .i64 0,.slice none 0 0] 64);have B0:=Lib.hid (below_alloc w (.cells #[.int .i64 0,.int .i64 0,.slice none 0 0] 64))
 by_cases hL1:L<1
 ·clear h hq hpl
  go_enter Tryz.func22,Tryz.ntmps22
  go_wp2_with fail
  refine bodyPost_ret (v:=.tuple #[.agg #[.int .i64 0,.int .i64 0,.slice none 0 0],.bool false,.int .i64 1]) (by simp[results,Tryz.results22,go_sem]) rfl ⟨.inl ⟨hL1,rfl⟩,?_⟩
  exact B0.out
 ·have hL1':¬ L<1:=hL1
  obtain⟨LN,hLN⟩:∃ LN:Nat,L=LN:=⟨L.toNat,by omega⟩;subst hLN;have HTryz:=Lib.hid (ncPrepare_any pv q (h.alloc (.cells #[.int .i64 0,.int .i64 0,.slice none 0 0] 64)) (fun e he=>⟨(hq e he).lo,(hq e he).hi⟩) hpl (by omega) n (by omega) hn f);have HQ:Hid (∀ e∈qOf f q,OkQ n e):=Lib.hid (fun e he=>hq e (qOf_mem e he));have hql:=qOf_len f q;obtain⟨_,a,c,rfl,_,_⟩:=h;have hLN1:1≤(LN:Int):=by omega
  obtain⟨mq,hmq⟩:∃ mq,q.length=mq:=⟨_,rfl⟩;rw[hmq]at HTryz hl hql ⊢;clear hq hpl hmq;refine Calls.mono (R:=fun r w'=>FiP (Dev.fresh n (fun _=>0)) (qOf f q) (isOf f q) f LN r w'∧Below w.heap.size w w') ?_ (fun r w' hh=>⟨.inr ⟨hLN1,hh.1⟩,hh.2⟩)
  unfold PpPost at HTryz;obtain⟨Q,hQ⟩:∃ Q,qOf f q=Q:=⟨_,rfl⟩;rw[hQ]at HTryz HQ hql ⊢;obtain⟨is,his⟩:∃ is,isOf f q=is:=⟨_,rfl⟩;rw[his]at HTryz ⊢;clear hQ his;have HD0:Hid ((Dev.fresh n (fun _=>0)).n=n∧(Dev.fresh n (fun _=>0)).exec=0∧(Dev.fresh n (fun _=>0)).VB):=⟨rfl,rfl,fresh_vb n (fun i=>by omega)⟩;have HPR:Hid (∀ k,k≤Q.length→prodN (basesL ((Dev.fresh n (fun _=>0)).run 0 (Q.take k)))≤1152921504606846976):=fun k hk=>fresh_prod n _ (by rw[List.length_take];omega)
  obtain⟨D0,hD0⟩:∃ D0,Dev.fresh n (fun _=>0)=D0:=⟨_,rfl⟩;rw[hD0]at HTryz HD0 HPR ⊢;clear hD0;have HF0:Hid (fnd D0 Q LN=fndL D0 Q LN (Q.length+1-0) 0):=rfl;have HFM:=Lib.hid (fun k mm=>fnd_many (D0:=D0) (q:=Q) (limit:=LN) (m:=mm) (k:=k));have HFB:=Lib.hid (fun k mm x=>fnd_bad (D0:=D0) (q:=Q) (limit:=LN) (m:=mm) (k:=k) (n:=x));have HFN:=Lib.hid (fun k mm=>fnd_next (D0:=D0) (q:=Q) (limit:=LN) (m:=mm) (k:=k));have HRV:Hid (∀ k,(D0.run 0 (Q.take k)).VB∧(D0.run 0 (Q.take k)).exec≤Q.length∧(D0.run 0 (Q.take k)).n=n):=fun k=>by
   have h1:=D0.run_exec 0 (Q.take k);have h2:=List.length_take_le' k Q;rw[HD0.out.2.1]at h1;refine⟨Dev.VB.run _ HD0.out.2.2 0 (fun e he h1 => ?_),by omega,by rw[run_nN];exact HD0.out.1⟩
   have:=HQ.out e (List.mem_of_mem_take he);exact⟨this.v0,this.v1⟩
  obtain⟨res,hres⟩:∃ res,fnd D0 Q LN=res:=⟨_,rfl⟩;have HRS:=Lib.hid hres;rw[hres]at HF0;clear hres;obtain⟨M,hM⟩:∃ M,Q.length=M:=⟨_,rfl⟩;have HM:=Lib.hid hM;rw[hM]at HTryz hql HPR HF0 HFB HFN HRV;clear hM
  go_enter Tryz.func22,Tryz.ntmps22
  go_wp2_with fail
  (with_reducible refine HTryz.out.mono ?_)
  rintro r w1 ⟨⟨hi1,rfl⟩ | ⟨hi1,v,own,sv,rfl,d1,r1,o1,s1⟩,b1⟩
  ·subst hi1
   have K1:=Lib.hid (K0.out.below b1);have B1:=Lib.hid (B0.out.trans (b1.mono B0.out.size));have r0:=K1.out.cell (i:=0) rfl;have r1:=K1.out.cell (i:=1) rfl;have r2:=K1.out.cell (i:=2) rfl
   have f0:=K1.out.frozen 0;have f1:=K1.out.frozen 1;have f2:=K1.out.frozen 2
   clear b1;go_wp2_with fail
   refine bodyPost_ret (v:=.tuple #[.agg #[.int .i64 0,.int .i64 0,.slice none 0 0],.bool false,.int .i64 2]) (by simp[results,Tryz.results22,go_sem,r0,r1,r2]) rfl ⟨.inl ⟨rfl,rfl⟩,?_⟩
   exact below_set3 B1.out (Nat.le_refl _) _ _ _
  ·subst hi1
   obtain⟨sa,sc,hsv⟩:∃ sa sc,sv = .slice sa M sc:=by obtain⟨_,a,c,e,_,_⟩:=r1;exact⟨a,c,e⟩
   subst hsv;have hMc:M≤sc:=by obtain⟨_,_,_,e,h1,_⟩:=r1;cases e;exact h1
   have BB:=Lib.hid (B0.out.trans (b1.mono B0.out.size));have S1:Hid (FiS w v own D0 Q w1 w.heap.size #[.int .i64 0,.int .i64 0,.slice none 0 0] 64 0 w1):=Lib.hid (FiS.start d1 (K0.out.below b1) BB.out (fun j hj=>by have:=o1 j hj;rw[World.size_alloc]at this;omega) (Nat.le_refl _));have R1:=Lib.hid r1;have S2:=Lib.hid s1
   clear d1 r1 o1 s1 b1 K0 B0 HTryz;go_wp2_with fail
   go_loopw [14] (fun y wr=>∃ k:Nat,k≤M∧y = .int .i64 k∧FiS w v own D0 Q w1 w.heap.size #[.int .i64 0,.int .i64 0,.slice none 0 0] 64 k wr∧res=fndL D0 Q LN (M+1-k) k) (fun y _=>M-(intOf y).toNat)
   case atStart=>exact⟨0,by omega,rfl,S1.out,HF0.out⟩
   case round=>
    clear S1 HF0;obtain⟨k,hk,rfl,hst,hr⟩:=hrel;rename World=>wr
    obtain⟨own1,d1,o1,u1⟩:=hst.post;have S:=Lib.hid hst;have D1:=Lib.hid d1;have O1:=Lib.hid o1;have U1:=Lib.hid u1;have HR:=Lib.hid hr
    clear hst d1 o1 u1 hr;obtain⟨hv1,hx1,hn1⟩:=HRV.out k;have hpr:=HPR.out k hk;obtain⟨eb,heb⟩:∃ eb,((k:Int)==(M:Int))=eb:=⟨_,rfl⟩;have hde:decide (k=M)=eb:=by
     rw[← heb]
     by_cases hkm:k=M
     ·subst hkm;simp
     ·have:¬ (k:Int)=(M:Int):=by omega
      simp[hkm,this]
    have hmk:M+1-k=M-k+1:=by omega
    have HFM1:=Lib.hid (HFM.out k (M-k));have HFB1:=Lib.hid (HFB.out k (M-k));have HFN1:=Lib.hid (HFN.out k (M-k));rw[hmk]at HR;rw[← HR.out]at HFM1 HFB1 HFN1;rw[hde]at HFB1 HFN1;have HIN:=Lib.hid (ncInc_any D1.out hv1 (by omega) (by omega) hpr a mq c eb LN (by omega));have HCH:=Lib.hid (fun(wx:World) (hb:Below wr.heap.size wr wx) (i:Nat) (hi:i<prodN (basesL (D0.run 0 (Q.take k))))=>csChoice_any (D1.out.kept hb.size (fun k hk=>hb.block k (D1.out.lt k hk))) hv1 (by omega) i hi (by omega));have HEB:=Lib.hid hde;clear HR hde hmk hv1 hx1 hn1 hpr;go_wp2_with fail
    (with_reducible refine HIN.out.mono ?_)
    rintro r w2 ⟨⟨hLP,rfl⟩ | ⟨hLP,i,hbi,hip,rfl⟩ | ⟨hLP,hbn,rfl⟩,b2⟩
    ·have K2:=Lib.hid (S.out.res.below b2)
     have B2:=Lib.hid (S.out.bel.trans (b2.mono S.out.bel.size));have e:=HFM1.out hLP;subst e;have HRS2:=HRS.out;have r0:=K2.out.cell (i:=0) rfl;have r1:=K2.out.cell (i:=1) rfl;have r2:=K2.out.cell (i:=2) rfl
     have f0:=K2.out.frozen 0;have f1:=K2.out.frozen 1;have f2:=K2.out.frozen 2
     clear b2;go_wp2_with fail
     refine bodyPost_ret (v:=.tuple #[.agg #[.int .i64 0,.int .i64 0,.slice none 0 0],.bool false,.int .i64 9]) (by simp[results,Tryz.results22,go_sem,r0,r1,r2]) rfl ⟨.inr (.inl ⟨rfl,by rw[HRS2],rfl⟩),?_⟩
     exact below_set3 B2.out (Nat.le_refl _) _ _ _
    ·have e:=HFB1.out i hLP hbi
     subst e;have HRS2:=Lib.hid HRS.out;have B2:=Lib.hid b2;have HC1:=Lib.hid (HCH.out w2 b2 i hip);clear b2 HCH HFM1 HFB1 HFN1;obtain⟨DD,hDD⟩:∃ DD,D0.run 0 (Q.take k)=DD:=⟨_,rfl⟩;have HDD:=Lib.hid hDD;rw[hDD]at HC1 hip;obtain⟨dm,hdm⟩:∃ dm,DD.dirtyL.length=dm:=⟨_,rfl⟩;have HDM:=Lib.hid hdm;rw[hdm]at HC1;clear hDD hdm;go_wp2_with fail
     (with_reducible refine HC1.out.mono ?_)
     rintro r w3 ⟨g,rfl,rg,hg,b3⟩;have K3:=Lib.hid ((S.out.res.below B2.out).below b3);have B3:=Lib.hid ((S.out.bel.trans (B2.out.mono S.out.bel.size)).trans (b3.mono (Nat.le_trans S.out.bel.size B2.out.size)));have RG:=Lib.hid rg;have hgl:=rg;have r0:=K3.out.cell (i:=0) rfl;have r1:=K3.out.cell (i:=1) rfl;have r2:=K3.out.cell (i:=2) rfl
     have f0:=K3.out.frozen 0;have f1:=K3.out.frozen 1;have f2:=K3.out.frozen 2
     have HGG:Hid (w.heap.size<g):=Lib.hid (by have h1:=S.out.bel.size;have h2:=B2.out.size;have h3:=S.out.sz;have h4:=S.out.res.lt;omega);clear rg hg b3 hgl;go_wp2_with fail
     refine bodyPost_ret (v:=.tuple #[.agg #[.int .i64 f,.int .i64 k,.slice (some ⟨g,0,none⟩) dm dm],.bool true,.int .i64 0]) (by simp[results,Tryz.results22,go_sem,r0,r1,r2]) rfl ⟨.inr (.inr (.inr ⟨rfl,k,i,g,HRS2.out,by rw[HM.out];exact hk,by rw[HDD.out];exact hip,by rw[HDD.out,HDM.out],?_⟩)),?_⟩
     ·rw[HDD.out,HDM.out]
      have hne:g≠w.heap.size:=by have:=HGG.out;omega
      exact((RG.out.other (a:=⟨w.heap.size,0,none⟩) hne _).other (a:=⟨w.heap.size,1,none⟩) hne _).other (a:=⟨w.heap.size,2,none⟩) hne _
     ·exact below_set3 B3.out (Nat.le_refl _) _ _ _
    ·have e:=HFN1.out hLP hbn
     have HE:=Lib.hid e;have S2':=Lib.hid (S.out.next b2);clear e HFM1 HFB1 HFN1 HCH
     by_cases hkM:k=M
     ·have hebt:eb=true:=by rw[← HEB.out,decide_eq_true hkM]
      subst hebt;have K2:=Lib.hid S2'.out.res;have r0:=K2.out.cell (i:=0) rfl;have r1:=K2.out.cell (i:=1) rfl;have r2:=K2.out.cell (i:=2) rfl
      have f0:=K2.out.frozen 0;have f1:=K2.out.frozen 1;have f2:=K2.out.frozen 2
      have e:=HE.out;rw[show M-k=0 by omega]at e;subst e;have HRS2:=HRS.out;clear b2;go_wp2_with fail
      refine bodyPost_ret (v:=.tuple #[.agg #[.int .i64 0,.int .i64 0,.slice none 0 0],.bool false,.int .i64 0]) (by simp[results,Tryz.results22,go_sem,r0,r1,r2]) rfl ⟨.inr (.inr (.inl ⟨rfl,by rw[HRS2];rfl,rfl⟩)),?_⟩
      exact below_set3 S2'.out.bel (Nat.le_refl _) _ _ _
     ·have hebf:eb=false:=by rw[← HEB.out,decide_eq_false hkM]
      subst hebf;have D2:=Lib.hid (D1.out.kept b2.size (fun k hk=>b2.block k (D1.out.lt k hk)));have U2:=Lib.hid (U1.out.trans (Upd.of_below (S:=fun j=>own j≠none) b2) (fun _ _ h=>h));clear b2;obtain⟨e,hge⟩:∃ e,Q[k]? = some e:=⟨_,List.getElem?_eq_getElem (by rw[HM.out];omega)⟩;have hkM':k<M:=by omega
      obtain⟨_,a',c',e',_,hE⟩:=R1.out.upd U2.out (fun g hg=>by simpa using S2.out g hg)
      cases e'
      have hg:=instrC_get Q k e hge;obtain⟨fb,fo,rfl,hE2⟩:=rd_at hE hg.1;have q1:=hE2 _ _ hg.1;have q2:=hE2 _ _ hg.2.1;have q3:=hE2 _ _ hg.2.2
      have hok:=HQ.out e (List.mem_of_getElem? hge);have hone:RdSl w2 3 (.slice (some ⟨fb,fo+k*3,none⟩) 1 (sc-k)) 1 (instrC [e]):=by
       refine⟨rfl,_,_,rfl,by omega,.inr ⟨fb,fo+k*3,rfl,fun j u hu => ?_⟩⟩
       have hj:j<3:=by
        rcases Nat.lt_or_ge j 3 with h | h
        ·exact h
        ·rw[List.getElem?_eq_none (by simp[instrC];omega)]at hu;cases hu
       obtain rfl | rfl | rfl:j=0∨j=1∨j=2:=by omega
       ·cases hu;exact q1
       ·cases hu;rw[Nat.add_assoc];exact q2
       ·cases hu;rw[Nat.add_assoc];exact q3
      have hofb:own1 fb=none:=by
       have h1:=S2.out fb rfl;have h2:fb<w1.heap.size:=by
        have hrr:=R1.out;obtain⟨_,a2,c2,e2,_,hE3⟩:=hrr
        cases e2
        obtain⟨b3,o3,e3,hE4⟩:=rd_at hE3 hg.1
        cases e3
        exact World.block_lt_of_cell? _ _ (hE4 _ _ hg.1)
       rw[O1.out fb h2];exact h1
      have HRUN:=Lib.hid (run_any (w:=w2.drew) (v:=v) (own:=own1) (D:=D0.run 0 (Q.take k)) (j:=0) D2.out.drew (by omega) (.slice (some ⟨fb,fo+k*3,none⟩) 1 (sc-k)) [e] hone.drew (fun g hg=>by simp[Value.ownBlock]at hg;subst hg;exact hofb) (fun x hx=>by
       rw[List.mem_singleton]at hx;subst hx;exact⟨hok.lo,hok.hi,by have:=hok.lt;omega⟩) (by simp) (by have:=(HRV.out k).2.1;show _+1<_;omega))
      have HSR:=Lib.hid (fun(wz:World) (hp:DPost v own1 w2.drew ((D0.run 0 (Q.take k)).run 0 [e]) wz)=>FiS.run (w:=w) (wr:=w2) S2'.out O1.out U2.out hge (by obtain⟨o9,d9,e9,u9⟩:=hp;exact⟨o9,d9,e9,⟨u9.os,u9.tape,u9.output,u9.size,u9.block⟩⟩));have HTH:=Lib.hid (thrZ_any D2.out.drew);have hkc:(k:Int)+1≤sc:=by omega
      have hek:¬ (k:Int)=(M:Int):=by omega
      obtain⟨ek,hek2⟩:∃ ek,((D0.run 0 (Q.take k)).run 0 [e]).err 0=ek:=⟨_,rfl⟩;rw[hek2]at HRUN;have hck:¬ sc=k:=by omega
      have gk1:IntKind.i64.wrap ((k:Int)+1)=(k:Int)+1:=IntWalk.i64_in _ (by omega);have hsl1:=fun wx=>slice_one fb fo M sc k (by omega) wx
      have hsl2:=fun wx=>sliceAt_one fb fo M sc k (by omega) wx
      clear hE hE2 hge hg q1 q2 q3 hone hofb hek2 D1 D2 U1 U2;go_wp2_with fail
      go_region_with (first | (go_at_call 11;(with_reducible refine HTH.out.mono ?_);rintro e w' ⟨rfl,rfl⟩) | (go_at_call 12;(with_reducible refine HRUN.out.mono ?_);rintro e w3 ⟨rfl,hp⟩;have S3:=Lib.hid (HSR.out _ hp);clear hp))
      all_goals
       have hm2:M-k=M+1-(k+1):=by omega
       have HE2:=Lib.hid HE.out;rw[hm2]at HE2;go_wp2_with fail
       go_roundw
       case rel=>exact⟨k+1,by omega,by go_num,S3.out,HE2.out⟩
       case measure=>simp[intOf];omega
end
end

section
open Go.RowKit Go.Maps
attribute [local go_sem ↓] Go.wp_at_zero Go.wp_at_succ
section
variable{w:World}{v:DV}{own:Nat→Option Role}{D0:Dev}
def HoPost(code:Nat)(r:Ending):Prop:=
 (code=2∧r = .returned (.tuple #[.bool false,.int .i64 9]))∨(code≠2∧r = .returned (.tuple #[.bool (decide (code=1)),.int .i64 0]))
theorem ncHolds_any(n:Nat)(pv:Value)(q:List (Nat×Nat×Int))(h:RdSl w 3 pv q.length (refP q))(hq:∀ e∈q,OkQ n e)(hpl:Plain54 q)(hl:q.length≤60)(h4:4≤n)(hn:n≤4096)(L:Nat)(hL0:1≤L)(hL:L≤9223372036854775807) :
  Calls Tryz.prog 8 #[.iface 83 (.agg #[pv]),.int .i64 n,.int .i64 L] w fun r w'=>HoPost (fnd (Dev.fresh n (fun _=>0)) q L).2.2 r∧Below w.heap.size w w':=by
 have HF:=Lib.hid (ncFind_any n pv q h hq hpl hl h4 hn (-1) L ⟨by omega,by omega⟩ (by omega));have e1:qOf (-1) q=q:=by simp[qOf]
 have e2:isOf (-1) q=true:=by simp[isOf]
 have HL0:Hid (¬ (L:Int)<1):=by show ¬ (L:Int)<1;omega
 obtain⟨_,a,c,rfl,_,_⟩:=h;unfold FiPost at HF;rw[e1,e2,show((L:Int)).toNat=L from rfl]at HF;obtain⟨D0,hD0⟩:∃ D0,Dev.fresh n (fun _=>0)=D0:=⟨_,rfl⟩;rw[hD0]at HF ⊢;obtain⟨m,hm⟩:∃ m,q.length=m:=⟨_,rfl⟩;rw[hm]at HF ⊢;clear hq hpl hm hD0 e1 e2
 go_enter Tryz.func8,Tryz.ntmps8
 go_wp2_with fail
 (with_reducible refine HF.out.mono ?_)
 rintro r w1 ⟨⟨h1,_⟩ | ⟨_,hp⟩,b1⟩
 ·exact absurd h1 (by have:=HL0.out;omega)
 have B1:=Lib.hid b1;clear b1 HF
 rcases hp with ⟨h1,_⟩ | ⟨_,h2,rfl⟩ | ⟨_,h2,rfl⟩ | ⟨_,k,i,g,h2,_,_,rfl,_⟩
 ·cases h1
 ·have X:=Lib.hid h2
  clear h2;go_wp2_with fail
  go_ret2
  exact⟨.inl ⟨X.out,rfl⟩,B1.out.trans ((below_alloc _ _).mono B1.out.size)⟩
 ·have X:=Lib.hid h2
  clear h2;go_wp2_with fail
  go_ret2
  exact⟨.inr ⟨by rw[X.out];decide,by rw[X.out];rfl⟩,B1.out.trans ((below_alloc _ _).mono B1.out.size)⟩
 ·have X:Hid ((fnd D0 q L).2.2=0):=by show(fnd D0 q L).2.2=0;rw[h2]
  clear h2;go_wp2_with fail
  go_ret2
  exact⟨.inr ⟨by rw[X.out];decide,by rw[X.out];rfl⟩,B1.out.trans ((below_alloc _ _).mono B1.out.size)⟩
end
end

section
open Go.RowKit Go.Maps
attribute [local go_sem ↓] Go.wp_at_zero Go.wp_at_succ
section
variable{w:World}
theorem meth_sySetup(a:Addr)(w:World):(method 461 160 (.pointer (some a)) "Setup").run Tryz.prog w = .ok (305,.pointer (some a)) w:=by kernel_rfl
end
end

section
open Go.RowKit
def nibT:List Nat := [0x00000000,0x105ec76f,0x20bd8ede,0x30e349b1,0x417b1dbc,0x5125dad3,0x61c69362,0x7198540d,0x82f63b78,0x92a8fc17,0xa24bb5a6,0xb21572c9,0xc38d26c4,0xd3d3e1ab,0xe330a81a,0xf36e6f75]
def nibA(i:Nat):Nat:=nibT.getD i 0
theorem nibA_lt(i:Nat):nibA i<4294967296:=by
 unfold nibA nibT
 by_cases h:i<16
 ·have:i=0∨i=1∨i=2∨i=3∨i=4∨i=5∨i=6∨i=7∨i=8∨i=9∨i=10∨i=11∨i=12∨i=13∨i=14∨i=15:=by omega
  rcases this with rfl | rfl | rfl | rfl | rfl | rfl | rfl | rfl | rfl | rfl | rfl | rfl | rfl | rfl | rfl | rfl <;> decide
 ·rw[List.getD,List.getElem?_eq_none (by simp;omega)];decide
def crcHalf(r:Nat):Nat:=(r/16) ^^^ nibA (r%16)
def crcStep(r b:Nat):Nat:=crcHalf (crcHalf (r ^^^ b))
theorem xor32{a b:Nat}(h1:a<4294967296)(h2:b<4294967296):a ^^^ b<4294967296:=Nat.xor_lt_two_pow (n:=32) h1 h2
theorem crcHalf_lt(r:Nat)(h:r<4294967296):crcHalf r<4294967296:=xor32 (by omega) (nibA_lt _)
theorem crcStep_lt(r b:Nat)(h:r<4294967296)(hb:b<4294967296):crcStep r b<4294967296:=crcHalf_lt _ (crcHalf_lt _ (xor32 h hb))
def crcWord(r x:Nat):Nat→Nat
 | 0=>r
 | k+1=>crcStep (crcWord r x k) (x/256 ^ k%256)
theorem crcWord_lt(r x k:Nat)(h:r<4294967296):crcWord r x k<4294967296:=by
 induction k with
 | zero=>exact h
 | succ k ih=>exact crcStep_lt _ _ ih (by omega)
def crcReg(l:List Nat):Nat:=l.foldl (fun r x=>crcWord r x 8) 4294967295
theorem crcReg_snoc(l:List Nat)(x:Nat):crcReg (l ++ [x])=crcWord (crcReg l) x 8:=by simp[crcReg,List.foldl_append]
theorem crcReg_lt(l:List Nat):crcReg l<4294967296:=by
 suffices h:∀ (l:List Nat) (r:Nat),r<4294967296→l.foldl (fun r x=>crcWord r x 8) r<4294967296 from h l _ (by decide)
 intro l
 induction l with
 | nil=>intro r h;exact h
 | cons x l ih=>intro r h;exact ih _ (crcWord_lt _ _ _ h)
def crcN(l:List Nat):Nat:=4294967295-crcReg l
theorem crcN_lt(l:List Nat):crcN l<4294967296:=by unfold crcN;omega
end
section
open Go.RowKit
end

section
open Go.RowKit
structure Sup where
 ver:Int
 lin:Int
 redo:Int
 und:Int
 desc:Int
 que:Int
 tab:Int
 gen:Int
namespace Sup
def cells(s:Sup):Array Value:=#[.int .i64 s.ver,.int .i64 s.lin,.int .i64 s.redo,.int .i64 s.und,.int .i64 s.desc,.int .i64 s.que,.int .i64 s.tab,.int .u64 s.gen]
def rest(s:Sup):Int:=s.lin-2-8-s.redo-s.und-s.desc-1-s.que-s.tab
structure Ok(s:Sup):Prop where
 v1:1≤s.ver
 v2:s.ver≤65535
 l1:1≤s.lin
 l2:s.lin≤4096
 r1:1≤s.redo
 u1:1≤s.und
 d1:1≤s.desc
 q1:0≤s.que
 t1:0≤s.tab
 r2:s.redo≤s.lin
 u2:s.und≤s.lin
 d2:s.desc≤s.lin
 q2:s.que≤s.lin
 t2:s.tab≤s.lin
 h:32≤s.rest
instance (s:Sup):Decidable s.Ok:=
 if h:1≤s.ver∧s.ver≤65535∧1≤s.lin∧s.lin≤4096∧1≤s.redo∧1≤s.und∧1≤s.desc∧0≤s.que∧0≤s.tab∧s.redo≤s.lin∧s.und≤s.lin∧s.desc≤s.lin∧s.que≤s.lin∧s.tab≤s.lin∧32≤s.rest then
  .isTrue ⟨h.1,h.2.1,h.2.2.1,h.2.2.2.1,h.2.2.2.2.1,h.2.2.2.2.2.1,h.2.2.2.2.2.2.1,h.2.2.2.2.2.2.2.1,h.2.2.2.2.2.2.2.2.1,h.2.2.2.2.2.2.2.2.2.1,h.2.2.2.2.2.2.2.2.2.2.1,h.2.2.2.2.2.2.2.2.2.2.2.1,h.2.2.2.2.2.2.2.2.2.2.2.2.1,h.2.2.2.2.2.2.2.2.2.2.2.2.2.1,h.2.2.2.2.2.2.2.2.2.2.2.2.2.2⟩
 else .isFalse fun k=>h ⟨k.v1,k.v2,k.l1,k.l2,k.r1,k.u1,k.d1,k.q1,k.t1,k.r2,k.u2,k.d2,k.q2,k.t2,k.h⟩
def okB(s:Sup):Bool:=decide s.Ok
def heap(s:Sup):Int:=if s.rest<32 then 0 else s.rest-s.rest%32
def w2(s:Sup):Nat:=(s.ver+s.lin*65536+s.redo*4294967296+s.und*281474976710656).toNat
def w3(s:Sup):Nat:=(s.desc+s.que*65536+s.tab*4294967296).toNat
def first(s:Sup):List Nat := [7738151121853964849,s.gen.toNat,s.w2,s.w3,0,0,0]
def words(s:Sup):List Nat:=s.first ++ [4294967296+crcN s.first]
end Sup
end

section
open Go.RowKit
section
variable{w:World}
theorem heap_any(s:Sup)(l1:0≤s.lin)(l2:s.lin≤4096)(r1:0≤s.redo)(r2:s.redo≤4096)(u1:0≤s.und)(u2:s.und≤4096)(d1:0≤s.desc)(d2:s.desc≤4096)(q1:0≤s.que)(q2:s.que≤4096)(t1:0≤s.tab)(t2:s.tab≤4096) :
  Calls Tryz.prog 222 #[.agg s.cells] w fun r w'=>r = .returned (.int .i64 s.heap)∧Below w.heap.size w w':=by
 obtain⟨ver,lin,redo,und,desc,que,tab,gen⟩:=s;simp only at l1 l2 r1 r2 u1 u2 d1 d2 q1 q2 t1 t2;unfold Sup.cells
 by_cases h:lin-2-8-redo-und-desc-1-que-tab<32
 ·go_enter Tryz.func222,Tryz.ntmps222
  go_wp2_with fail
  go_ret
  exact⟨ret_int (by simp[Sup.heap,Sup.rest,h]),below_alloc _ _⟩
 ·go_enter Tryz.func222,Tryz.ntmps222
  go_wp2_with fail
  go_ret
  exact⟨ret_int (by unfold Sup.heap;rw[if_neg (by unfold Sup.rest;simp only;omega)];rfl),below_alloc _ _⟩
def mnI(x y:Int):Int:=if y<x then y else x
def mxI(x y:Int):Int:=if y>x then y else x
theorem mnI_eq(x y:Int):mnI x y=min x y:=by unfold mnI;split <;> omega
theorem mxI_eq(x y:Int):mxI x y=max x y:=by unfold mxI;split <;> omega
theorem run_max5{P:Program}(w:World)(ts:Array TypeId)(t:TypeId)(k:IntKind)(a b c d e:Int):(Builtin.max_ ts t #[.int k a,.int k b,.int k c,.int k d,.int k e]).run P w = .ok (.int k (mxI (mxI (mxI (mxI a b) c) d) e)) w:=by
 simp[Builtin.max_,Builtin.max2,mxI]
theorem Sup.okB_false{s:Sup}(h:¬ s.Ok):s.okB=false:=by unfold Sup.okB;simpa using h
theorem Sup.okB_true{s:Sup}(h:s.Ok):s.okB=true:=by unfold Sup.okB;simpa using h
theorem valid_any(s:Sup):Calls Tryz.prog 199 #[.agg s.cells] w fun r w'=>r = .returned (.bool s.okB)∧Below w.heap.size w w':=by
 by_cases h1:s.ver<1
 ·have E:=Lib.hid (Sup.okB_false (s:=s) (fun h=>by(try simp only[mnI_eq,mxI_eq]at *);have:=h.v1;omega))
  obtain⟨ver,lin,redo,und,desc,que,tab,gen⟩:=s;unfold Sup.cells;simp only at h1;have e1:decide (ver<1)=true:=by simpa using h1
  have hm1:(if und<redo then und else redo)=mnI redo und:=rfl;have hm2:(if desc<mnI redo und then desc else mnI redo und)=mnI (mnI redo und) desc:=rfl;have hm3:(if tab<que then tab else que)=mnI que tab:=rfl;have hmx:=fun(w:World) (ts:Array TypeId) (t:TypeId)=>run_max5 (P:=Tryz.prog) w ts t .i64 redo und desc que tab
  go_enter Tryz.func199,Tryz.ntmps199
  go_wp2_with fail
  go_ret
  exact⟨ret_bool E.out.symm,below_alloc _ _⟩
 by_cases h2:65535<s.ver
 ·have E:=Lib.hid (Sup.okB_false (s:=s) (fun h=>by(try simp only[mnI_eq,mxI_eq]at *);have:=h.v2;omega))
  obtain⟨ver,lin,redo,und,desc,que,tab,gen⟩:=s;unfold Sup.cells;simp only at h1 h2;have e1:decide (ver<1)=false:=by simpa using h1
  have e2:decide (65535<ver)=true:=by simpa using h2
  have hm1:(if und<redo then und else redo)=mnI redo und:=rfl;have hm2:(if desc<mnI redo und then desc else mnI redo und)=mnI (mnI redo und) desc:=rfl;have hm3:(if tab<que then tab else que)=mnI que tab:=rfl;have hmx:=fun(w:World) (ts:Array TypeId) (t:TypeId)=>run_max5 (P:=Tryz.prog) w ts t .i64 redo und desc que tab
  go_enter Tryz.func199,Tryz.ntmps199
  go_wp2_with fail
  go_ret
  exact⟨ret_bool E.out.symm,below_alloc _ _⟩
 by_cases h3:s.lin<1
 ·have E:=Lib.hid (Sup.okB_false (s:=s) (fun h=>by(try simp only[mnI_eq,mxI_eq]at *);have:=h.l1;omega))
  obtain⟨ver,lin,redo,und,desc,que,tab,gen⟩:=s;unfold Sup.cells;simp only at h1 h2 h3;have e1:decide (ver<1)=false:=by simpa using h1
  have e2:decide (65535<ver)=false:=by simpa using h2
  have e3:decide (lin<1)=true:=by simpa using h3
  have hm1:(if und<redo then und else redo)=mnI redo und:=rfl;have hm2:(if desc<mnI redo und then desc else mnI redo und)=mnI (mnI redo und) desc:=rfl;have hm3:(if tab<que then tab else que)=mnI que tab:=rfl;have hmx:=fun(w:World) (ts:Array TypeId) (t:TypeId)=>run_max5 (P:=Tryz.prog) w ts t .i64 redo und desc que tab
  go_enter Tryz.func199,Tryz.ntmps199
  go_wp2_with fail
  go_ret
  exact⟨ret_bool E.out.symm,below_alloc _ _⟩
 by_cases h4:4096<s.lin
 ·have E:=Lib.hid (Sup.okB_false (s:=s) (fun h=>by(try simp only[mnI_eq,mxI_eq]at *);have:=h.l2;omega))
  obtain⟨ver,lin,redo,und,desc,que,tab,gen⟩:=s;unfold Sup.cells;simp only at h1 h2 h3 h4;have e1:decide (ver<1)=false:=by simpa using h1
  have e2:decide (65535<ver)=false:=by simpa using h2
  have e3:decide (lin<1)=false:=by simpa using h3
  have e4:decide (4096<lin)=true:=by simpa using h4
  have hm1:(if und<redo then und else redo)=mnI redo und:=rfl;have hm2:(if desc<mnI redo und then desc else mnI redo und)=mnI (mnI redo und) desc:=rfl;have hm3:(if tab<que then tab else que)=mnI que tab:=rfl;have hmx:=fun(w:World) (ts:Array TypeId) (t:TypeId)=>run_max5 (P:=Tryz.prog) w ts t .i64 redo und desc que tab
  go_enter Tryz.func199,Tryz.ntmps199
  go_wp2_with fail
  go_ret
  exact⟨ret_bool E.out.symm,below_alloc _ _⟩
 by_cases h5:mnI (mnI s.redo s.und) s.desc<1
 ·have E:=Lib.hid (Sup.okB_false (s:=s) (fun h=>by(try simp only[mnI_eq]at *);have:=h.r1;have:=h.u1;have:=h.d1;omega))
  obtain⟨ver,lin,redo,und,desc,que,tab,gen⟩:=s;unfold Sup.cells;simp only at h1 h2 h3 h4 h5;have e1:decide (ver<1)=false:=by simpa using h1
  have e2:decide (65535<ver)=false:=by simpa using h2
  have e3:decide (lin<1)=false:=by simpa using h3
  have e4:decide (4096<lin)=false:=by simpa using h4
  have e5:decide (mnI (mnI redo und) desc<1)=true:=by simpa using h5
  have hm1:(if und<redo then und else redo)=mnI redo und:=rfl;have hm2:(if desc<mnI redo und then desc else mnI redo und)=mnI (mnI redo und) desc:=rfl;have hm3:(if tab<que then tab else que)=mnI que tab:=rfl;have hmx:=fun(w:World) (ts:Array TypeId) (t:TypeId)=>run_max5 (P:=Tryz.prog) w ts t .i64 redo und desc que tab
  go_enter Tryz.func199,Tryz.ntmps199
  go_wp2_with fail
  go_ret
  exact⟨ret_bool E.out.symm,below_alloc _ _⟩
 by_cases h6:mnI s.que s.tab<0
 ·have E:=Lib.hid (Sup.okB_false (s:=s) (fun h=>by(try simp only[mnI_eq]at *);have:=h.q1;have:=h.t1;omega))
  obtain⟨ver,lin,redo,und,desc,que,tab,gen⟩:=s;unfold Sup.cells;simp only at h1 h2 h3 h4 h5 h6;have e1:decide (ver<1)=false:=by simpa using h1
  have e2:decide (65535<ver)=false:=by simpa using h2
  have e3:decide (lin<1)=false:=by simpa using h3
  have e4:decide (4096<lin)=false:=by simpa using h4
  have e5:decide (mnI (mnI redo und) desc<1)=false:=by simpa using h5
  have e6:decide (mnI que tab<0)=true:=by simpa using h6
  have hm1:(if und<redo then und else redo)=mnI redo und:=rfl;have hm2:(if desc<mnI redo und then desc else mnI redo und)=mnI (mnI redo und) desc:=rfl;have hm3:(if tab<que then tab else que)=mnI que tab:=rfl;have hmx:=fun(w:World) (ts:Array TypeId) (t:TypeId)=>run_max5 (P:=Tryz.prog) w ts t .i64 redo und desc que tab
  go_enter Tryz.func199,Tryz.ntmps199
  go_wp2_with fail
  go_ret
  exact⟨ret_bool E.out.symm,below_alloc _ _⟩
 by_cases h7:s.lin<mxI (mxI (mxI (mxI s.redo s.und) s.desc) s.que) s.tab
 ·have E:=Lib.hid (Sup.okB_false (s:=s) (fun h=>by(try simp only[mnI_eq,mxI_eq]at *);have:=h.r2;have:=h.u2;have:=h.d2;have:=h.q2;have:=h.t2;omega))
  obtain⟨ver,lin,redo,und,desc,que,tab,gen⟩:=s;unfold Sup.cells;simp only at h1 h2 h3 h4 h5 h6 h7;have e1:decide (ver<1)=false:=by simpa using h1
  have e2:decide (65535<ver)=false:=by simpa using h2
  have e3:decide (lin<1)=false:=by simpa using h3
  have e4:decide (4096<lin)=false:=by simpa using h4
  have e5:decide (mnI (mnI redo und) desc<1)=false:=by simpa using h5
  have e6:decide (mnI que tab<0)=false:=by simpa using h6
  have e7:decide (lin<mxI (mxI (mxI (mxI redo und) desc) que) tab)=true:=by simpa using h7
  have hm1:(if und<redo then und else redo)=mnI redo und:=rfl;have hm2:(if desc<mnI redo und then desc else mnI redo und)=mnI (mnI redo und) desc:=rfl;have hm3:(if tab<que then tab else que)=mnI que tab:=rfl;have hmx:=fun(w:World) (ts:Array TypeId) (t:TypeId)=>run_max5 (P:=Tryz.prog) w ts t .i64 redo und desc que tab
  go_enter Tryz.func199,Tryz.ntmps199
  go_wp2_with fail
  go_ret
  exact⟨ret_bool E.out.symm,below_alloc _ _⟩
 have k5:=h5;have k6:=h6;have k7:=h7
 simp only[mnI_eq,mxI_eq]at k5 k6 k7;have HH:=Lib.hid (fun wx=>heap_any (w:=wx) s (by omega) (by omega) (by omega) (by omega) (by omega) (by omega) (by omega) (by omega) (by omega) (by omega) (by omega) (by omega));have E:Hid (s.okB=decide (32≤s.heap)):=by
  show s.okB=decide (32≤s.heap)
  unfold Sup.okB;rw[decide_eq_decide]
  constructor
  ·intro h;have:=h.h;unfold Sup.heap;rw[if_neg (by omega)];omega
  ·intro h
   refine⟨by omega,by omega,by omega,by omega,by omega,by omega,by omega,by omega,by omega,by omega,by omega,by omega,by omega,by omega,?_⟩
   unfold Sup.heap at h
   split at h <;> omega
 generalize hhp:s.heap=hp at *
 generalize s.okB=ob at *
 clear hhp k5 k6 k7;obtain⟨ver,lin,redo,und,desc,que,tab,gen⟩:=s;unfold Sup.cells at *;simp only at h1 h2 h3 h4 h5 h6 h7;have e1:decide (ver<1)=false:=by simpa using h1
 have e2:decide (65535<ver)=false:=by simpa using h2
 have e3:decide (lin<1)=false:=by simpa using h3
 have e4:decide (4096<lin)=false:=by simpa using h4
 have e5:decide (mnI (mnI redo und) desc<1)=false:=by simpa using h5
 have e6:decide (mnI que tab<0)=false:=by simpa using h6
 have e7:decide (lin<mxI (mxI (mxI (mxI redo und) desc) que) tab)=false:=by simpa using h7
 have hm1:(if und<redo then und else redo)=mnI redo und:=rfl;have hm2:(if desc<mnI redo und then desc else mnI redo und)=mnI (mnI redo und) desc:=rfl;have hm3:(if tab<que then tab else que)=mnI que tab:=rfl;have hmx:=fun(w:World) (ts:Array TypeId) (t:TypeId)=>run_max5 (P:=Tryz.prog) w ts t .i64 redo und desc que tab
 go_enter Tryz.func199,Tryz.ntmps199
 go_wp2_with fail
 (with_reducible refine(HH.out _).mono ?_)
 rintro e w1 ⟨rfl,b1⟩;have B1:=Lib.hid ((below_alloc w _).trans (b1.mono (by simp)));clear b1;go_wp2_with fail
 go_ret
 exact⟨ret_bool E.out.symm,B1.out⟩
end
end

section
def cmpStep(acc:List Int)(x:Int):List Int:=if acc.getLast? = some x then acc else acc ++ [x]
def cmpL(xs:List Int):List Int:=xs.foldl cmpStep []
theorem cmpL_snoc(xs:List Int)(x:Int):cmpL (xs ++ [x])=cmpStep (cmpL xs) x:=by unfold cmpL;rw[List.foldl_append];rfl
theorem cmpStep_last(acc:List Int)(x:Int):(cmpStep acc x).getLast? = some x:=by
 unfold cmpStep
 split
 ·assumption
 ·simp
theorem cmpL_last(xs:List Int):(cmpL xs).getLast? = xs.getLast?:=by
 rcases List.eq_nil_or_concat xs with rfl | ⟨l,x,rfl⟩
 ·rfl
 ·rw[List.concat_eq_append,cmpL_snoc,cmpStep_last];simp
theorem cmpL_take(xs:List Int)(k:Nat)(hk:k+1<xs.length) :
  cmpL (xs.take (k+2))=if xs[k+1]! = xs[k]! then cmpL (xs.take (k+1))else cmpL (xs.take (k+1)) ++ [xs[k+1]!]:=by
 have e1:xs.take (k+2)=xs.take (k+1) ++ [xs[k+1]!]:=by
  rw[List.take_add_one,List.getElem?_eq_getElem hk,getElem!_pos xs (k+1) hk];rfl
 have e2:(cmpL (xs.take (k+1))).getLast? = some xs[k]!:=by
  have e3:xs.take (k+1)=xs.take k ++ [xs[k]!]:=by
   rw[List.take_add_one,List.getElem?_eq_getElem (by omega:k<xs.length),getElem!_pos xs k (by omega)];rfl
  rw[cmpL_last,e3];simp
 rw[e1,cmpL_snoc];unfold cmpStep;rw[e2]
 by_cases h:xs[k+1]! = xs[k]!
 ·rw[if_pos h,if_pos (by rw[h])]
 ·rw[if_neg h,if_neg (fun e=>h (Option.some.inj e).symm)]
theorem cmpL_one(xs:List Int)(h:0<xs.length):cmpL (xs.take 1)=xs.take 1:=by
 match xs,h with
 | x::l,_=>simp[cmpL,cmpStep]
theorem mem_cmpL(xs:List Int)(x:Int):x∈cmpL xs↔x∈xs:=by
 have key:∀ (l acc:List Int),x∈l.foldl cmpStep acc↔x∈acc∨x∈l:=by
  intro l
  induction l with
  | nil=>intro acc;simp
  | cons y l ih=>
   intro acc;rw[List.foldl_cons,ih];unfold cmpStep
   split
   ·rename_i h
    have hy:y∈acc:=List.mem_of_getLast? h
    constructor
    ·rintro(h | h)
     ·exact .inl h
     ·exact .inr (by simp[h])
    ·rintro(h | h)
     ·exact .inl h
     ·rcases List.mem_cons.1 h with rfl | h
      ·exact .inl hy
      ·exact .inr h
   ·simp only[List.mem_append,List.mem_cons,List.not_mem_nil,or_false]
    constructor
    ·rintro((h | h) | h)
     ·exact .inl h
     ·exact .inr (.inl h)
     ·exact .inr (.inr h)
    ·rintro(h | h | h)
     ·exact .inl (.inl h)
     ·exact .inl (.inr h)
     ·exact .inr h
 unfold cmpL;rw[key];simp
structure CmpMid(xs ys:List Int)(q i:Nat):Prop where
 len:ys.length=xs.length
 pre:ys.take i=cmpL (xs.take q)
 rest:∀ j,q≤j+1→ys[j]? = xs[j]?
 lt:i<q
 le:q≤xs.length
theorem CmpMid.skip{xs ys:List Int}{q i:Nat}(h:CmpMid xs ys (q+1) i)(hq:q+1<xs.length)(e:xs[q+1]! = xs[q]!):CmpMid xs ys (q+2) i:=
 ⟨h.len,by rw[cmpL_take xs q hq,if_pos e];exact h.pre,fun j hj=>h.rest j (by omega),by have:=h.lt;omega,by omega⟩
theorem CmpMid.keep{xs ys:List Int}{q i:Nat}(h:CmpMid xs ys (q+1) i)(hq:q+1<xs.length)(e:¬ xs[q+1]! = xs[q]!):CmpMid xs (ys.set i xs[q+1]!) (q+2) (i+1):=by
 have hi:=h.lt;have hl:=h.len
 refine⟨by simp[hl],?_,fun j hj => ?_,by omega,by omega⟩
 ·rw[cmpL_take xs q hq,if_neg e,← h.pre,List.take_add_one,List.take_set_of_le (Nat.le_refl _),List.getElem?_set]
  simp;omega
 ·rw[List.getElem?_set,if_neg (by omega)];exact h.rest j (by omega)
end
section
open Go.RowKit
def at0(l:List Int)(i:Nat):Int:=l.getD i 0
def ascOn(l:List Int)(a b:Nat):Prop:=∀ p q,a≤p→p<q→q<b→at0 l p≤at0 l q
structure Mixed(xs ys:List Int)(a b:Nat):Prop where
 perm:ys.Perm xs
 out:∀ p,p<a∨b≤p→at0 ys p=at0 xs p
theorem Mixed.refl(xs:List Int)(a b:Nat):Mixed xs xs a b:=⟨.refl _,fun _ _=>rfl⟩
theorem Mixed.trans{xs ys zs:List Int}{a b:Nat}(h:Mixed xs ys a b)(k:Mixed ys zs a b):Mixed xs zs a b:=⟨k.perm.trans h.perm,fun p hp=>(k.out p hp).trans (h.out p hp)⟩
theorem Mixed.len{xs ys:List Int}{a b:Nat}(h:Mixed xs ys a b):ys.length=xs.length:=h.perm.length_eq
theorem Mixed.mono{xs ys:List Int}{a b a' b':Nat}(h:Mixed xs ys a b)(h1:a'≤a)(h2:b≤b'):Mixed xs ys a' b':=⟨h.perm,fun p hp=>h.out p (by omega)⟩
def swp(l:List Int)(i j:Nat):List Int:=(l.set i (at0 l j)).set j (at0 l i)
theorem swp_length(l:List Int)(i j:Nat):(swp l i j).length=l.length:=by simp[swp]
theorem at0_set(l:List Int)(i:Nat)(x:Int)(k:Nat)(hi:i<l.length):at0 (l.set i x) k=if k=i then x else at0 l k:=by
 unfold at0;simp only[List.getD,List.getElem?_set]
 by_cases e:i=k
 ·subst e;simp[hi]
 ·rw[if_neg e,if_neg (fun h=>e h.symm)]
theorem at0_swp(l:List Int)(i j k:Nat)(hi:i<l.length)(hj:j<l.length):at0 (swp l i j) k=if k=j then at0 l i else if k=i then at0 l j else at0 l k:=by
 unfold swp;rw[at0_set _ _ _ _ (by simpa using hj),at0_set _ _ _ _ hi]
theorem swp_perm(l:List Int)(i j:Nat)(hi:i<l.length)(hj:j<l.length):(swp l i j).Perm l:=by
 have e1:at0 l j=l[j]:=by simp[at0,List.getD,hj]
 have e2:at0 l i=l[i]:=by simp[at0,List.getD,hi]
 unfold swp;rw[e1,e2]
 exact List.set_set_perm hi hj
theorem swp_mixed(l:List Int)(i j a b:Nat)(hi:i<l.length)(hj:j<l.length)(h1:a≤i)(h2:i<b)(h3:a≤j)(h4:j<b):Mixed l (swp l i j) a b:=
 ⟨swp_perm l i j hi hj,fun p hp=>by rw[at0_swp l i j p hi hj,if_neg (by omega),if_neg (by omega)]⟩
def insInv(l:List Int)(a i j:Nat):Prop:=(∀ p q,a≤p→p<q→q≤i→p≠j→q≠j→at0 l p≤at0 l q)∧∀ q,j<q→q≤i→at0 l j≤at0 l q
theorem insInv_start(l:List Int)(a i:Nat)(h:ascOn l a i):insInv l a i i:=⟨fun p q h1 h2 h3 _ h5=>h p q h1 h2 (by omega),fun q h1 h2=>by omega⟩
theorem insInv_step(l:List Int)(a i j:Nat)(h:insInv l a i j)(haj:a<j)(hji:j≤i)(hil:i<l.length)(hlt:at0 l j<at0 l (j-1)):insInv (swp l j (j-1)) a i (j-1):=by
 have e:=fun k=>at0_swp l j (j-1) k (by omega) (by omega)
 refine⟨fun p q h1 h2 h3 h4 h5 => ?_,fun q h1 h2 => ?_⟩
 ·rw[e,e,if_neg h4,if_neg h5]
  by_cases ep:p=j
  ·rw[if_pos ep,if_neg (by omega)];exact h.1 (j-1) q (by omega) (by omega) h3 (by omega) (by omega)
  ·rw[if_neg ep]
   by_cases eq:q=j
   ·rw[if_pos eq];exact h.1 p (j-1) h1 (by omega) (by omega) ep (by omega)
   ·rw[if_neg eq];exact h.1 p q h1 h2 h3 ep eq
 ·rw[e,e,if_pos rfl,if_neg (by omega)]
  by_cases eq:q=j
  ·rw[if_pos eq];omega
  ·rw[if_neg eq];exact h.2 q (by omega) h2
theorem insInv_end(l:List Int)(a i j:Nat)(h:insInv l a i j)(haj:a≤j)(hji:j≤i)(hj:j=a∨at0 l (j-1)≤at0 l j):ascOn l a (i+1):=by
 intro p q h1 h2 h3
 by_cases ep:p=j
 ·subst ep;exact h.2 q h2 (by omega)
 ·by_cases eq:q=j
  ·subst eq
   rcases hj with hj | hj
   ·omega
   ·by_cases e:p=q-1
    ·rw[e];exact hj
    ·exact Int.le_trans (h.1 p (q-1) h1 (by omega) (by omega) ep (by omega)) hj
  ·exact h.1 p q h1 h2 (by omega) ep eq
end
section
open Go.RowKit
def natsU(l:List Nat):List Value:=l.map fun(n:Nat)=>Value.int .u64 n
theorem natsU_get{l:List Nat}{i n:Nat}(h:l[i]? = some n):(natsU l)[i]? = some (.int .u64 n):=by simp[natsU,h]
def lowN(out:List Nat)(l:Nat):Nat:=(out.takeWhile fun x=>decide (x<l)).length
theorem lowN_le(out:List Nat)(l:Nat):lowN out l≤out.length:=(List.takeWhile_sublist _).length_le
theorem lowN_lt(out:List Nat)(l i x:Nat)(hi:i<lowN out l)(h:out[i]? = some x):x<l:=by
 induction out generalizing i with
 | nil=>simp at h
 | cons y out ih=>
  unfold lowN at hi
  by_cases hy:y<l
  ·rw[List.takeWhile_cons_of_pos (by simpa using hy),List.length_cons]at hi
   cases i with
   | zero=>simp at h;omega
   | succ i=>exact ih i (by unfold lowN;omega) (by simpa using h)
  ·rw[List.takeWhile_cons_of_neg (by simpa using hy)]at hi;simp at hi
theorem lowN_ge(out:List Nat)(l x:Nat)(h:out[lowN out l]? = some x):¬ x<l:=by
 induction out with
 | nil=>simp at h
 | cons y out ih=>
  unfold lowN at h
  by_cases hy:y<l
  ·rw[List.takeWhile_cons_of_pos (by simpa using hy),List.length_cons,List.getElem?_cons_succ]at h
   exact ih h
  ·rw[List.takeWhile_cons_of_neg (by simpa using hy)]at h;simp at h;omega
def insL(out:List Nat)(l:Nat):List Nat:=if out[lowN out l]? = some l then out else out.take (lowN out l)++l::out.drop (lowN out l)
def linesL(offs:List Nat):List Nat:=offs.foldl (fun out o=>insL out (o/64)) []
theorem insL_len(out:List Nat)(l:Nat):(insL out l).length≤out.length+1:=by
 have:=lowN_le out l;unfold insL;split
 ·omega
 ·simp;omega
theorem linesF_len(offs:List Nat):∀ out:List Nat,(offs.foldl (fun out o=>insL out (o/64)) out).length≤out.length+offs.length:=by
 induction offs with
 | nil=>intro out;simp
 | cons o offs ih=>intro out;have h1:=ih (insL out (o/64));have h2:=insL_len out (o/64);simp only[List.foldl_cons,List.length_cons];omega
theorem linesL_len(offs:List Nat):(linesL offs).length≤offs.length:=by have:=linesF_len offs [];simpa [linesL]using this
theorem linesF_bd(offs:List Nat)(B:Nat)(h:∀ o∈offs,o/64<B):∀ out:List Nat,(∀ l∈out,l<B)→∀ l∈offs.foldl (fun out o=>insL out (o/64)) out,l<B:=by
 induction offs with
 | nil=>intro out ho;exact ho
 | cons o offs ih=>
  intro out ho;refine ih (fun x hx=>h x (by simp[hx])) (insL out (o/64)) (fun l hl => ?_)
  unfold insL at hl
  split at hl
  ·exact ho l hl
  ·rcases List.mem_append.1 hl with h1 | h1
   ·exact ho l (List.mem_of_mem_take h1)
   ·rcases List.mem_cons.1 h1 with rfl | h1
    ·exact h o (by simp)
    ·exact ho l (List.mem_of_mem_drop h1)
theorem linesL_bd(offs:List Nat)(B:Nat)(h:∀ o∈offs,o/64<B):∀ l∈linesL offs,l<B:=linesF_bd offs B h [] (by simp)
def flushL(offs:List Nat):List (Nat×Nat×Int):=if linesL offs = []then []else((linesL offs).map fun l=>(2,64*l,0)) ++ [(3,0,0)]
def storesL(ws:List (Nat×Int)):List (Nat×Nat×Int):=(ws.map fun e=>(1,e.1,e.2))++flushL (ws.map (·.1))
end
section
open Go.RowKit
theorem asc_ext:∀ (l m:List Int),l.Pairwise (· < ·)→m.Pairwise (· < ·)→(∀ x,x∈l↔x∈m)→l=m
 | [],[],_,_,_=>rfl
 | [],y::m,_,_,h=>by have:=(h y).2 (by simp);simp at this
 | x::l,[],_,_,h=>by have:=(h x).1 (by simp);simp at this
 | x::l,y::m,hl,hm,h=>by
  rw[List.pairwise_cons]at hl hm;have hxy:x=y:=by
   rcases List.mem_cons.1 ((h x).1 (by simp))with h1 | h1
   ·exact h1
   ·rcases List.mem_cons.1 ((h y).2 (by simp))with h2 | h2
    ·exact h2.symm
    ·have h3:=hm.1 x h1;have h4:=hl.1 y h2;omega
  subst hxy;rw[asc_ext l m hl.2 hm.2 (fun z=>by
   have hz:=h z;simp only[List.mem_cons]at hz
   constructor
   ·intro k
    rcases hz.1 (.inr k)with e | e
    ·have:=hl.1 z k;omega
    ·exact e
   ·intro k
    rcases hz.2 (.inr k)with e | e
    ·have:=hm.1 z k;omega
    ·exact e)]
theorem cmpF_asc:∀ (l acc:List Int),acc.Pairwise (· < ·)→l.Pairwise (· ≤ ·)→(∀ a∈acc,∀ x∈l,a≤x)→(l.foldl cmpStep acc).Pairwise (· < ·):=by
 intro l
 induction l with
 | nil=>intro acc h _ _;exact h
 | cons x l ih=>
  intro acc ha hl hal;rw[List.pairwise_cons]at hl;have hle:∀ a∈acc,∀ y∈l,a≤y:=fun a h y hy=>hal a h y (by simp[hy])
  rw[List.foldl_cons];unfold cmpStep
  split
  ·exact ih acc ha hl.2 hle
  ·rename_i hne
   refine ih _ ?_ hl.2 ?_
   ·rw[List.pairwise_append]
    refine⟨ha,by simp,fun a h y hy => ?_⟩
    simp at hy;subst hy
    have hay:=hal a h y (by simp)
    rcases List.eq_nil_or_concat acc with e | ⟨i,z,e⟩
    ·subst e;simp at h
    ·rw[List.concat_eq_append]at e;subst e
     have hz:z≠y:=fun e=>hne (by simp[e])
     have hzy:=hal z (by simp) y (by simp);rw[List.pairwise_append]at ha
     rcases List.mem_append.1 h with h1 | h1
     ·have:=ha.2.2 a h1 z (by simp);omega
     ·simp at h1;omega
   ·intro a h y hy
    rcases List.mem_append.1 h with h1 | h1
    ·exact hle a h1 y hy
    ·simp at h1;subst h1;exact hl.1 y hy
theorem cmpL_asc(l:List Int)(h:l.Pairwise (· ≤ ·)):(cmpL l).Pairwise (· < ·):=cmpF_asc l [] (by simp) h (by simp)
theorem ascOn_pw(l:List Int)(h:ascOn l 0 l.length):l.Pairwise (· ≤ ·):=by
 rw[List.pairwise_iff_getElem];intro i j hi hj hij;have:=h i j (by omega) hij hj;simpa [at0,List.getD,hi,hj]using this
theorem insL_mem(out:List Nat)(l x:Nat):x∈insL out l↔x=l∨x∈out:=by
 unfold insL
 split
 ·rename_i h
  have:=List.mem_of_getElem? h
  constructor
  ·exact .inr
  ·rintro(e | e)
   ·subst e;exact this
   ·exact e
 ·have e:out=out.take (lowN out l)++out.drop (lowN out l):=(List.take_append_drop _ _).symm
  constructor
  ·intro h
   rcases List.mem_append.1 h with h | h
   ·exact .inr (List.mem_of_mem_take h)
   ·rcases List.mem_cons.1 h with h | h
    ·exact .inl h
    ·exact .inr (List.mem_of_mem_drop h)
  ·rintro(h | h)
   ·subst h;simp
   ·rw[e]at h
    rcases List.mem_append.1 h with h | h
    ·exact List.mem_append.2 (.inl h)
    ·exact List.mem_append.2 (.inr (by simp[h]))
theorem insL_asc(out:List Nat)(l:Nat)(h:out.Pairwise (· < ·)):(insL out l).Pairwise (· < ·):=by
 unfold insL
 split
 ·exact h
 ·rename_i hne
  have e:out=out.take (lowN out l)++out.drop (lowN out l):=(List.take_append_drop _ _).symm;have h':=h;rw[e,List.pairwise_append]at h';obtain⟨h1,h2,h3⟩:=h';have lo:∀ a∈out.take (lowN out l),a<l:=fun a ha=>by
   obtain⟨i,hi,hx⟩:=List.getElem_of_mem ha;rw[List.length_take]at hi;exact lowN_lt out l i a (by omega) (by rw[← hx,List.getElem_take];exact List.getElem?_eq_getElem (by omega))
  have hi:∀ a∈out.drop (lowN out l),l<a:=fun a ha=>by
   obtain⟨i,hi,hx⟩:=List.getElem_of_mem ha;rw[List.length_drop]at hi;have h0:out[lowN out l]? = some out[lowN out l]:=List.getElem?_eq_getElem (by omega);have h4:=lowN_ge out l _ h0;have h5:out[lowN out l]≠l:=fun e=>hne (by rw[h0,e])
   rw[List.getElem_drop]at hx
   rcases Nat.eq_zero_or_pos i with e0 | e0
   ·subst e0;simp only[Nat.add_zero]at hx;omega
   ·have:=List.pairwise_iff_getElem.1 h (lowN out l) (lowN out l+i) (by omega) (by omega) (by omega)
    omega
  rw[List.pairwise_append,List.pairwise_cons];refine⟨h1,⟨hi,h2⟩,fun a ha b hb => ?_⟩
  have hal:=lo a ha
  rcases List.mem_cons.1 hb with e | hb
  ·omega
  ·have:=hi b hb;omega
theorem linesF_asc(offs:List Nat):∀ out:List Nat,out.Pairwise (· < ·)→(offs.foldl (fun out o=>insL out (o/64)) out).Pairwise (· < ·):=by
 induction offs with
 | nil=>intro out h;exact h
 | cons o offs ih=>intro out h;exact ih _ (insL_asc out _ h)
theorem linesF_mem(offs:List Nat)(x:Nat):∀ out:List Nat,x∈offs.foldl (fun out o=>insL out (o/64)) out↔x∈out∨∃ o∈offs,o/64=x:=by
 induction offs with
 | nil=>intro out;simp
 | cons o offs ih=>
  intro out;rw[List.foldl_cons,ih,insL_mem];simp only[List.mem_cons]
  constructor
  ·rintro((h | h) | ⟨p,hp,h⟩)
   ·exact .inr ⟨o,.inl rfl,h.symm⟩
   ·exact .inl h
   ·exact .inr ⟨p,.inr hp,h⟩
  ·rintro(h | ⟨p,hp | hp,h⟩)
   ·exact .inl (.inr h)
   ·subst hp;exact .inl (.inl h.symm)
   ·exact .inr ⟨p,hp,h⟩
theorem linesL_asc(offs:List Nat):(linesL offs).Pairwise (· < ·):=linesF_asc offs [] (by simp)
theorem linesL_mem(offs:List Nat)(x:Nat):x∈linesL offs↔∃ o∈offs,o/64=x:=by
 unfold linesL;rw[linesF_mem];simp
theorem lines_compact(offs:List Nat)(ys:List Int)(hp:ys.Perm (offs.map fun o=>(((o-o%64:Nat)):Int)))(ha:ascOn ys 0 ys.length):cmpL ys=(linesL offs).map fun l=>((64*l:Nat):Int):=by
 refine asc_ext _ _ (cmpL_asc ys (ascOn_pw ys ha)) ?_ (fun x => ?_)
 ·rw[List.pairwise_map]
  exact(linesL_asc offs).imp (fun h=>by omega)
 ·rw[mem_cmpL,hp.mem_iff,List.mem_map,List.mem_map]
  constructor
  ·rintro⟨o,ho,rfl⟩
   exact⟨o/64,(linesL_mem _ _).2 ⟨o,ho,rfl⟩,by omega⟩
  ·rintro⟨l,hl,rfl⟩
   obtain⟨o,ho,rfl⟩:=(linesL_mem _ _).1 hl;exact⟨o,ho,by omega⟩
end

section
open Go.RowKit
def Nib(w:World):Prop:=∀ i,i<16→w.cell? ⟨0,i,none⟩=some (.int .u32 (nibA i:Nat))
theorem Nib.below{w w':World}(h:Nib w)(hb:Below w.heap.size w w'):Nib w':=fun i hi=>cell_bel hb (h i hi)
theorem Nib.lt{w:World}(h:Nib w):0<w.heap.size:=World.block_lt_of_cell? w _ (h 0 (by omega))
theorem bits_half(x n:Nat)(hx:x<4294967296)(hn:n<4294967296):bits .xor .u32 ((x:Int)/16) (n:Int)=((x/16 ^^^ n:Nat):Int):=by
 rw[show((x:Int)/16)=((x/16:Nat):Int)by omega];exact u32_xor_nat _ _ (by omega) hn
theorem bits_and15(x:Nat)(hx:x<4294967296):bits .and .u32 (x:Int) 15=((x%16:Nat):Int):=by
 have:=u32_and_nat x 15 hx (by omega);rw[nat_mask4]at this;exact this
theorem xor_ones(x:Nat)(h:x<4294967296):4294967295 ^^^ x=4294967295-x:=by
 have h1:(BitVec.allOnes 32 ^^^ BitVec.ofNat 32 x) = ~~~ (BitVec.ofNat 32 x):=BitVec.allOnes_xor;have h2:=congrArg BitVec.toNat h1;rw[BitVec.toNat_xor,BitVec.toNat_not,BitVec.toNat_allOnes,BitVec.toNat_ofNat,Nat.mod_eq_of_lt (by omega)]at h2;exact h2
theorem bits_not(x:Nat)(h:x<4294967296):bits .xor .u32 IntKind.u32.max (x:Int)=((4294967295-x:Nat):Int):=by
 have:=u32_xor_nat 4294967295 x (by omega) h;rw[xor_ones x h]at this;exact this
section
variable{w:World}
theorem crcstep_any(h:Nib w)(r b:Nat)(hr:r<4294967296)(hb:b<256):Calls Tryz.prog 197 #[.int .u32 r,.int .u8 b] w fun e w'=>e = .returned (.int .u32 (crcStep r b:Nat))∧w=w':=by
 have y1:=u32_xor_nat r b hr (by omega);have l1:=xor32 hr (show b<4294967296 by omega);have E:crcStep r b=crcHalf (crcHalf (r ^^^ b)):=rfl
 generalize r ^^^ b=r1 at *
 have y2:=bits_and15 r1 l1;have c1:=h (r1%16) (by omega);have y3:=bits_half r1 (nibA (r1%16)) l1 (nibA_lt _);have l2:=crcHalf_lt r1 l1;have e2:r1/16 ^^^ nibA (r1%16)=crcHalf r1:=rfl;rw[e2]at y3
 generalize crcHalf r1=r2 at *
 have y4:=bits_and15 r2 l2;have c2:=h (r2%16) (by omega);have y5:=bits_half r2 (nibA (r2%16)) l2 (nibA_lt _);have e3:r2/16 ^^^ nibA (r2%16)=crcHalf r2:=rfl;rw[e3]at y5
 generalize nibA (r1%16)=n1 at *
 generalize nibA (r2%16)=n2 at *
 have hm1:r1%16<16:=by omega
 have hm2:r2%16<16:=by omega
 generalize r1%16=m1 at *
 generalize r2%16=m2 at *
 have HE:=Lib.hid E;clear h E e2 e3
 go_enter Tryz.func197,Tryz.ntmps197
 go_wp2_with fail
 go_ret
 exact⟨ret_int (by rw[HE.out]),rfl⟩
theorem crcWords_any(h:Nib w)(sv:Value)(l:List Nat)(hs:RdSl w 1 sv l.length (natsU l))(hl:l.length≤1000)(h64:∀ x∈l,x<18446744073709551616) :
  Calls Tryz.prog 133 #[sv] w fun e w'=>e = .returned (.int .u32 (crcN l:Nat))∧w=w':=by
 obtain⟨_,a,c,rfl,hc,ha⟩:=hs;have HS:=Lib.hid (fun r b hr hb=>crcstep_any h r b hr hb);have HA:=Lib.hid ha;have H64:=Lib.hid h64;clear ha h64 h
 have HE:Hid (crcN l=4294967295-crcReg (l.take l.length)):=by show crcN l=_;rw[List.take_length];rfl
 generalize crcN l=res at *
 generalize hn:l.length=n at *
 have HN:=Lib.hid hn;clear hn
 go_enter Tryz.func133,Tryz.ntmps133
 go_wp2_with fail
 go_loop [3,8] (fun r y=>∃ k:Nat,k≤n∧y = .int .i64 k∧r = .int .u32 (crcReg (l.take k):Nat)) (fun _ y=>n-(intOf y).toNat)
 case atStart=>exact⟨0,by omega,rfl,rfl⟩
 case round=>
  obtain⟨k,hk,rfl,rfl⟩:=hrel;have hrl:=crcReg_lt (l.take k)
  by_cases hlt:k<n
  ·have hk':(k:Int)<n:=by omega
   obtain⟨x,hx⟩:∃ x,l[k]? = some x:=⟨_,List.getElem?_eq_getElem (by rw[HN.out];exact hlt)⟩;obtain⟨eb,eo,rfl,hE⟩:=rd_at HA.out (show(natsU l)[k]? = some (.int .u64 x)by simp[natsU,hx]);have c1:=hE k _ (show(natsU l)[k]? = some (.int .u64 x)by simp[natsU,hx]);have hx64:=H64.out x (List.mem_of_getElem? hx);have HT:Hid (crcReg (l.take (k+1))=crcWord (crcReg (l.take k)) x 8):=by show crcReg (l.take (k+1))=_;rw[List.take_add_one,hx];exact crcReg_snoc _ _
   clear hE hx
   generalize crcReg (l.take k)=r0 at *
   go_wp2_with fail
   go_loop [3,5,12] (fun r v y=>∃ i:Nat,i≤8∧y = .int .i64 i∧r = .int .u32 (crcWord r0 x i:Nat)∧v = .int .u64 (x/256 ^ i:Nat)) (fun _ _ y=>8-(intOf y).toNat)
   case atStart=>exact⟨0,by omega,rfl,rfl,by simp⟩
   case round=>
    obtain⟨i,hi,rfl,rfl,rfl⟩:=hrel;have hrw:=crcWord_lt r0 x i hrl
    by_cases hi8:i<8
    ·have hi':(i:Int)<8:=by omega
     have hv:x/256 ^ i≤x:=Nat.div_le_self _ _;have HS1:Hid (crcWord r0 x (i+1)=crcStep (crcWord r0 x i) (x/256 ^ i%256)):=rfl;have HV:Hid (x/256 ^ (i+1)=x/256 ^ i/256):=by show x/256 ^ (i+1)=_;rw[Nat.pow_succ,Nat.div_div_eq_div_mul]
     generalize crcWord r0 x i=r1 at *
     generalize x/256 ^ i=v1 at *
     have hS:=HS.out r1 (v1%256) hrw (by omega);rw[show((v1%256:Nat):Int)=(v1:Int)%256 by omega]at hS;have HQ:=Lib.hid hS;clear hS
     go_wp2_with fail
     (with_reducible refine HQ.out.mono ?_)
     rintro e w' ⟨rfl,rfl⟩;go_wp2_with fail
     go_round
     case rel=>exact⟨i+1,by omega,by go_num,by rw[HS1.out],by rw[HV.out];congr 1⟩
     case measure=>simp[intOf];omega
    ·obtain rfl:i=8:=by omega
     generalize hr2:crcWord r0 x 8=r1 at *
     have HR:=Lib.hid hr2;clear hr2
     go_wp2_with fail
     go_round
     case rel=>exact⟨k+1,by omega,by go_num,by rw[HT.out]⟩
     case measure=>simp[intOf];omega
  ·obtain rfl:k=n:=by omega
   generalize crcReg (l.take k)=r0 at *
   go_wp2_with fail
   go_ret
   exact⟨ret_int (by rw[HE.out];exact bits_not r0 hrl),rfl⟩
end
end
end Go.Proofs.YtlhchkajjpefmaaGreatDoor
