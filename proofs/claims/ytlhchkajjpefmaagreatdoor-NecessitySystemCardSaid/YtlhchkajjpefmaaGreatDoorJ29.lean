import Derived.Test.YtlhchkajjpefmaaGreatDoorJ28
import Derived.Test.YtlhchkajjpefmaaGreatDoorJ7
import Derived.Test.YtlhchkajjpefmaaGreatDoorJ3
import Derived.WalkKit
import Derived.ProofKit
import Derived.OpenShut
set_option maxHeartbeats 16000000
set_option maxRecDepth 100000
namespace Go.Proofs.YtlhchkajjpefmaaGreatDoor
section
open Go.RowKit Go.Maps
attribute [local go_sem ↓] Go.wp_at_zero Go.wp_at_succ
section
variable{w wb:World}{v:DV}{own:Nat→Option Role}{D D1:Dev}{a n:Nat}{q:List (Nat×Nat×Int)}{ok:(Nat→Int)→Prop}{g:(Nat→Int)→Bool→Bool}
def SyFi(g:(Nat→Int)→Bool→Bool)(D0:Dev)(Q:List (Nat×Nat×Int))(is:Bool)(f:Int)(L:Nat)(r:Ending)(w':World):Prop:=
 (is=false∧r = .returned (.tuple #[.agg #[.int .i64 0,.int .i64 0,.slice none 0 0],.bool false,.int .i64 2])) ∨
 (is=true∧(fndG g D0 Q L).2.2=2∧r = .returned (.tuple #[.agg #[.int .i64 0,.int .i64 0,.slice none 0 0],.bool false,.int .i64 9])) ∨
 (is=true∧(fndG g D0 Q L).2.2=1∧r = .returned (.tuple #[.agg #[.int .i64 0,.int .i64 0,.slice none 0 0],.bool false,.int .i64 0])) ∨
 (is=true∧∃ (k i gb:Nat),fndG g D0 Q L=(k,i,0)∧k≤Q.length∧i<prodN (basesL (D0.run 0 (Q.take k))) ∧
  r = .returned (.tuple #[.agg #[.int .i64 f,.int .i64 k,.slice (some ⟨gb,0,none⟩) (D0.run 0 (Q.take k)).dirtyL.length (D0.run 0 (Q.take k)).dirtyL.length],.bool true,.int .i64 0]) ∧
  Row w' gb (D0.run 0 (Q.take k)).dirtyL.length 5 (fun j => .int .u8 (digN (basesL (D0.run 0 (Q.take k))) i j)))
theorem findS_any(P:SyP wb a n D1 q ok g)(hb:Below wb.heap.size wb w)(f:Int)(L:Nat)(hL0:1≤L)(hL:L≤9223372036854775807)
  (hok:∀ k,k≤(qOf f q).length→∀ i,i<prodN (basesL (D1.run 0 ((qOf f q).take k)))→ok (imgN (D1.run 0 ((qOf f q).take k)) i)) :
  Calls Tryz.prog 22 #[(.iface 160 (.pointer (some ⟨a,0,none⟩))),.int .i64 n,.int .i64 f,.int .i64 L] w fun r w'=>SyFi g D1 (qOf f q) (isOf f q) f L r w'∧Below w.heap.size w w':=by
  have K0:=Lib.hid (Blk.new w #[.int .i64 0,.int .i64 0,.slice none 0 0] 64);have B0:=Lib.hid (below_alloc w (.cells #[.int .i64 0,.int .i64 0,.slice none 0 0] 64));have hL1':¬ (L:Int)<1:=by omega
  have hLN1:1≤(L:Int):=by omega
  have PW:=P.next hb;have HTryz:=Lib.hid (prepS_any (PW.next B0.out) f);have HQ:Hid (∀ e∈qOf f q,OkQ n e):=Lib.hid (fun e he=>P.okq e (qOf_mem e he));have hql:=qOf_len f q;have hl:=P.len;have hex:=P.ex;have hlo:=P.lo;have hhi:=P.hi
  have HPA:=Lib.hid (fun(wx:World) (hx:Below w.heap.size w wx)=>PW.next hx);have HOK:=Lib.hid hok;have HTO:=P.tot;have HVB:=P.vb;have HDN:=P.dn
  clear hok;unfold SyPp at HTryz;obtain⟨Q,hQ⟩:∃ Q,qOf f q=Q:=⟨_,rfl⟩;rw[hQ]at HTryz HQ HOK hql ⊢;obtain⟨is,his⟩:∃ is,isOf f q=is:=⟨_,rfl⟩;rw[his]at HTryz ⊢;clear hQ his;have HPR:Hid (∀ k,k≤Q.length→prodN (basesL (D1.run 0 (Q.take k)))≤1152921504606846976):=fun k hk=>prod_run D1 _ HTO (by rw[List.length_take];omega)
  obtain⟨D0,hD0⟩:∃ D0,D1=D0:=⟨_,rfl⟩;have HD0:Hid (D0.n=n∧D0.exec+q.length<200∧D0.VB):=Lib.hid (by rw[← hD0];exact⟨HDN,hex,HVB⟩);rw[hD0]at HTryz HPR HOK ⊢;clear hD0 HTO HVB HDN P PW hex;have HF0:Hid (fndG g D0 Q L=fndGL g D0 Q L (Q.length+1-0) 0):=rfl;have HFM:=Lib.hid (fun k mm=>fndG_many g (D0:=D0) (q:=Q) (limit:=L) (m:=mm) (k:=k));have HFB:=Lib.hid (fun k mm x=>fndG_bad g (D0:=D0) (q:=Q) (limit:=L) (m:=mm) (k:=k) (n:=x));have HFN:=Lib.hid (fun k mm=>fndG_next g (D0:=D0) (q:=Q) (limit:=L) (m:=mm) (k:=k));have HRV:Hid (∀ k,(D0.run 0 (Q.take k)).VB∧(D0.run 0 (Q.take k)).exec<200∧(D0.run 0 (Q.take k)).n=n):=fun k=>by
   have h1:=D0.run_exec 0 (Q.take k);have h2:=List.length_take_le' k Q;have h3:=HD0.out.2.1;refine⟨Dev.VB.run _ HD0.out.2.2 0 (fun e he h1 => ?_),by omega,by rw[run_nN];exact HD0.out.1⟩
   have:=HQ.out e (List.mem_of_mem_take he);exact⟨this.v0,this.v1⟩
  obtain⟨res,hres⟩:∃ res,fndG g D0 Q L=res:=⟨_,rfl⟩;have HRS:=Lib.hid hres;rw[hres]at HF0;clear hres;obtain⟨M,hM⟩:∃ M,Q.length=M:=⟨_,rfl⟩;have HM:=Lib.hid hM;rw[hM]at HTryz hql HPR HF0 HFB HFN HOK;clear hM
  go_enter Tryz.func22,Tryz.ntmps22
  go_wp2_with fail
  (with_reducible refine HTryz.out.mono ?_)
  rintro r w1 ⟨⟨hi1,rfl⟩ | ⟨hi1,v,own,sv,rfl,d1,r1,o1,s1⟩,b1⟩
  ·subst hi1
   have K1:=Lib.hid (K0.out.below b1);have B1:=Lib.hid (B0.out.trans (b1.mono B0.out.size));have r0:=K1.out.cell (i:=0) rfl;have r1:=K1.out.cell (i:=1) rfl;have r2:=K1.out.cell (i:=2) rfl
   have f0:=K1.out.frozen 0;have f1:=K1.out.frozen 1;have f2:=K1.out.frozen 2
   clear b1;go_wp2_with fail
   refine bodyPost_ret (v:=.tuple #[.agg #[.int .i64 0,.int .i64 0,.slice none 0 0],.bool false,.int .i64 2]) (by simp[results,Tryz.results22,go_sem,r0,r1,r2]) rfl ⟨.inl ⟨rfl,rfl⟩,?_⟩
   exact below_set3 B1.out (Nat.le_refl _) _ _ _
  ·subst hi1
   obtain⟨sa,sc,hsv⟩:∃ sa sc,sv = .slice sa M sc:=by obtain⟨_,a,c,e,_,_⟩:=r1;exact⟨a,c,e⟩
   subst hsv;have hMc:M≤sc:=by obtain⟨_,_,_,e,h1,_⟩:=r1;cases e;exact h1
   have BB:=Lib.hid (B0.out.trans (b1.mono B0.out.size));have S1:Hid (FiS w v own D0 Q w1 w.heap.size #[.int .i64 0,.int .i64 0,.slice none 0 0] 64 0 w1):=Lib.hid (FiS.start d1 (K0.out.below b1) BB.out (fun j hj=>by have:=o1 j hj;rw[World.size_alloc]at this;omega) (Nat.le_refl _));have R1:=Lib.hid r1;have S2:=Lib.hid s1
   clear d1 r1 o1 s1 b1 K0 B0 HTryz;go_wp2_with fail
   go_loopw [14] (fun y wr=>∃ k:Nat,k≤M∧y = .int .i64 k∧FiS w v own D0 Q w1 w.heap.size #[.int .i64 0,.int .i64 0,.slice none 0 0] 64 k wr∧res=fndGL g D0 Q L (M+1-k) k) (fun y _=>M-(intOf y).toNat)
   case atStart=>exact⟨0,by omega,rfl,S1.out,HF0.out⟩
   case round=>
    clear S1 HF0;obtain⟨k,hk,rfl,hst,hr⟩:=hrel;rename World=>wr
    obtain⟨own1,d1,o1,u1⟩:=hst.post;have S:=Lib.hid hst;have D1:=Lib.hid d1;have O1:=Lib.hid o1;have U1:=Lib.hid u1;have HR:=Lib.hid hr
    clear hst d1 o1 u1 hr;obtain⟨hv1,hx1,hn1⟩:=HRV.out k;have hpr:=HPR.out k hk;obtain⟨eb,heb⟩:∃ eb,((k:Int)==(M:Int))=eb:=⟨_,rfl⟩;have hde:decide (k=M)=eb:=by
     rw[← heb]
     by_cases hkm:k=M
     ·subst hkm;simp
     ·have:¬ (k:Int)=(M:Int):=by omega
      simp[hkm,this]
    have hmk:M+1-k=M-k+1:=by omega
    have HFM1:=Lib.hid (HFM.out k (M-k));have HFB1:=Lib.hid (HFB.out k (M-k));have HFN1:=Lib.hid (HFN.out k (M-k));rw[hmk]at HR;rw[← HR.out]at HFM1 HFB1 HFN1;rw[hde]at HFB1 HFN1;have HIN:=Lib.hid (incS_any (HPA.out wr S.out.bel) D1.out hn1 hv1 (by omega) (fun i hi=>HOK.out k hk i hi) hpr eb L (by omega));have HCH:=Lib.hid (fun(wx:World) (hb:Below wr.heap.size wr wx) (i:Nat) (hi:i<prodN (basesL (D0.run 0 (Q.take k))))=>csChoice_any (D1.out.kept hb.size (fun k hk=>hb.block k (D1.out.lt k hk))) hv1 (by omega) i hi (by omega));have HEB:=Lib.hid hde;clear HR hde hmk hv1 hx1 hn1 hpr;go_wp2_with fail
    (with_reducible refine HIN.out.mono ?_)
    rintro r w2 ⟨⟨hLP,rfl⟩ | ⟨hLP,i,hbi,hip,rfl⟩ | ⟨hLP,hbn,rfl⟩,b2⟩
    ·have K2:=Lib.hid (S.out.res.below b2)
     have B2:=Lib.hid (S.out.bel.trans (b2.mono S.out.bel.size));have e:=HFM1.out hLP;subst e;have HRS2:=HRS.out;have r0:=K2.out.cell (i:=0) rfl;have r1:=K2.out.cell (i:=1) rfl;have r2:=K2.out.cell (i:=2) rfl
     have f0:=K2.out.frozen 0;have f1:=K2.out.frozen 1;have f2:=K2.out.frozen 2
     clear b2;go_wp2_with fail
     refine bodyPost_ret (v:=.tuple #[.agg #[.int .i64 0,.int .i64 0,.slice none 0 0],.bool false,.int .i64 9]) (by simp[results,Tryz.results22,go_sem,r0,r1,r2]) rfl ⟨.inr (.inl ⟨rfl,by rw[HRS2],rfl⟩),?_⟩
     exact below_set3 B2.out (Nat.le_refl _) _ _ _
    ·have e:=HFB1.out i hLP hbi
     subst e;have HRS2:=Lib.hid HRS.out;have B2:=Lib.hid b2;have HC1:=Lib.hid (HCH.out w2 b2 i hip);clear b2 HCH HFM1 HFB1 HFN1;obtain⟨DD,hDD⟩:∃ DD,D0.run 0 (Q.take k)=DD:=⟨_,rfl⟩;have HDD:=Lib.hid hDD;rw[hDD]at HC1 hip;obtain⟨dm,hdm⟩:∃ dm,DD.dirtyL.length=dm:=⟨_,rfl⟩;have HDM:=Lib.hid hdm;rw[hdm]at HC1;clear hDD hdm;go_wp2_with fail
     (with_reducible refine HC1.out.mono ?_)
     rintro r w3 ⟨g,rfl,rg,hg,b3⟩;have K3:=Lib.hid ((S.out.res.below B2.out).below b3);have B3:=Lib.hid ((S.out.bel.trans (B2.out.mono S.out.bel.size)).trans (b3.mono (Nat.le_trans S.out.bel.size B2.out.size)));have RG:=Lib.hid rg;have hgl:=rg;have r0:=K3.out.cell (i:=0) rfl;have r1:=K3.out.cell (i:=1) rfl;have r2:=K3.out.cell (i:=2) rfl
     have f0:=K3.out.frozen 0;have f1:=K3.out.frozen 1;have f2:=K3.out.frozen 2
     have HGG:Hid (w.heap.size<g):=Lib.hid (by have h1:=S.out.bel.size;have h2:=B2.out.size;have h3:=S.out.sz;have h4:=S.out.res.lt;omega);clear rg hg b3 hgl;go_wp2_with fail
     refine bodyPost_ret (v:=.tuple #[.agg #[.int .i64 f,.int .i64 k,.slice (some ⟨g,0,none⟩) dm dm],.bool true,.int .i64 0]) (by simp[results,Tryz.results22,go_sem,r0,r1,r2]) rfl ⟨.inr (.inr (.inr ⟨rfl,k,i,g,HRS2.out,by rw[HM.out];exact hk,by rw[HDD.out];exact hip,by rw[HDD.out,HDM.out],?_⟩)),?_⟩
     ·rw[HDD.out,HDM.out]
      have hne:g≠w.heap.size:=by have:=HGG.out;omega
      exact((RG.out.other (a:=⟨w.heap.size,0,none⟩) hne _).other (a:=⟨w.heap.size,1,none⟩) hne _).other (a:=⟨w.heap.size,2,none⟩) hne _
     ·exact below_set3 B3.out (Nat.le_refl _) _ _ _
    ·have e:=HFN1.out hLP hbn
     have HE:=Lib.hid e;have S2':=Lib.hid (S.out.next b2);clear e HFM1 HFB1 HFN1 HCH
     by_cases hkM:k=M
     ·have hebt:eb=true:=by rw[← HEB.out,decide_eq_true hkM]
      subst hebt;have K2:=Lib.hid S2'.out.res;have r0:=K2.out.cell (i:=0) rfl;have r1:=K2.out.cell (i:=1) rfl;have r2:=K2.out.cell (i:=2) rfl
      have f0:=K2.out.frozen 0;have f1:=K2.out.frozen 1;have f2:=K2.out.frozen 2
      have e:=HE.out;rw[show M-k=0 by omega]at e;subst e;have HRS2:=HRS.out;clear b2;go_wp2_with fail
      refine bodyPost_ret (v:=.tuple #[.agg #[.int .i64 0,.int .i64 0,.slice none 0 0],.bool false,.int .i64 0]) (by simp[results,Tryz.results22,go_sem,r0,r1,r2]) rfl ⟨.inr (.inr (.inl ⟨rfl,by rw[HRS2];rfl,rfl⟩)),?_⟩
      exact below_set3 S2'.out.bel (Nat.le_refl _) _ _ _
     ·have hebf:eb=false:=by rw[← HEB.out,decide_eq_false hkM]
      subst hebf;have D2:=Lib.hid (D1.out.kept b2.size (fun k hk=>b2.block k (D1.out.lt k hk)));have U2:=Lib.hid (U1.out.trans (Upd.of_below (S:=fun j=>own j≠none) b2) (fun _ _ h=>h));clear b2;obtain⟨e,hge⟩:∃ e,Q[k]? = some e:=⟨_,List.getElem?_eq_getElem (by rw[HM.out];omega)⟩;have hkM':k<M:=by omega
      obtain⟨_,a',c',e',_,hE⟩:=R1.out.upd U2.out (fun g hg=>by simpa using S2.out g hg)
      cases e'
      have hg:=instrC_get Q k e hge;obtain⟨fb,fo,rfl,hE2⟩:=rd_at hE hg.1;have q1:=hE2 _ _ hg.1;have q2:=hE2 _ _ hg.2.1;have q3:=hE2 _ _ hg.2.2
      have hok:=HQ.out e (List.mem_of_getElem? hge);have hone:RdSl w2 3 (.slice (some ⟨fb,fo+k*3,none⟩) 1 (sc-k)) 1 (instrC [e]):=by
       refine⟨rfl,_,_,rfl,by omega,.inr ⟨fb,fo+k*3,rfl,fun j u hu => ?_⟩⟩
       have hj:j<3:=by
        rcases Nat.lt_or_ge j 3 with h | h
        ·exact h
        ·rw[List.getElem?_eq_none (by simp[instrC];omega)]at hu;cases hu
       obtain rfl | rfl | rfl:j=0∨j=1∨j=2:=by omega
       ·cases hu;exact q1
       ·cases hu;rw[Nat.add_assoc];exact q2
       ·cases hu;rw[Nat.add_assoc];exact q3
      have hofb:own1 fb=none:=by
       have h1:=S2.out fb rfl;have h2:fb<w1.heap.size:=by
        have hrr:=R1.out;obtain⟨_,a2,c2,e2,_,hE3⟩:=hrr
        cases e2
        obtain⟨b3,o3,e3,hE4⟩:=rd_at hE3 hg.1
        cases e3
        exact World.block_lt_of_cell? _ _ (hE4 _ _ hg.1)
       rw[O1.out fb h2];exact h1
      have HRUN:=Lib.hid (run_any (w:=w2.drew) (v:=v) (own:=own1) (D:=D0.run 0 (Q.take k)) (j:=0) D2.out.drew (by omega) (.slice (some ⟨fb,fo+k*3,none⟩) 1 (sc-k)) [e] hone.drew (fun g hg=>by simp[Value.ownBlock]at hg;subst hg;exact hofb) (fun x hx=>by
       rw[List.mem_singleton]at hx;subst hx;exact⟨hok.lo,hok.hi,by have:=hok.lt;omega⟩) (by simp) (by have:=(HRV.out k).2.1;show _+1<_;omega))
      have HSR:=Lib.hid (fun(wz:World) (hp:DPost v own1 w2.drew ((D0.run 0 (Q.take k)).run 0 [e]) wz)=>FiS.run (w:=w) (wr:=w2) S2'.out O1.out U2.out hge (by obtain⟨o9,d9,e9,u9⟩:=hp;exact⟨o9,d9,e9,⟨u9.os,u9.tape,u9.output,u9.size,u9.block⟩⟩));have HTH:=Lib.hid (thrZ_any D2.out.drew);have hkc:(k:Int)+1≤sc:=by omega
      have hek:¬ (k:Int)=(M:Int):=by omega
      obtain⟨ek,hek2⟩:∃ ek,((D0.run 0 (Q.take k)).run 0 [e]).err 0=ek:=⟨_,rfl⟩;rw[hek2]at HRUN;have hck:¬ sc=k:=by omega
      have gk1:IntKind.i64.wrap ((k:Int)+1)=(k:Int)+1:=IntWalk.i64_in _ (by omega);have hsl1:=fun wx=>slice_one fb fo M sc k (by omega) wx
      have hsl2:=fun wx=>sliceAt_one fb fo M sc k (by omega) wx
      clear hE hE2 hge hg q1 q2 q3 hone hofb hek2 D1 D2 U1 U2;go_wp2_with fail
      go_region_with (first | (go_at_call 11;(with_reducible refine HTH.out.mono ?_);rintro e w' ⟨rfl,rfl⟩) | (go_at_call 12;(with_reducible refine HRUN.out.mono ?_);rintro e w3 ⟨rfl,hp⟩;have S3:=Lib.hid (HSR.out _ hp);clear hp))
      all_goals
       have hm2:M-k=M+1-(k+1):=by omega
       have HE2:=Lib.hid HE.out;rw[hm2]at HE2;go_wp2_with fail
       go_roundw
       case rel=>exact⟨k+1,by omega,by go_num,S3.out,HE2.out⟩
       case measure=>simp[intOf];omega
end
end

section
open Go.RowKit Go.Maps
attribute [local go_sem ↓] Go.wp_at_zero Go.wp_at_succ
section
variable{w wb:World}{v:DV}{own:Nat→Option Role}{D D1:Dev}{a n:Nat}{q:List (Nat×Nat×Int)}{ok:(Nat→Int)→Prop}{g:(Nat→Int)→Bool→Bool}
theorem holdsS_any(P:SyP wb a n D1 q ok g)(hb:Below wb.heap.size wb w)(L:Nat)(hL0:1≤L)(hL:L≤9223372036854775807)
  (hok:∀ k,k≤q.length→∀ i,i<prodN (basesL (D1.run 0 (q.take k)))→ok (imgN (D1.run 0 (q.take k)) i)) :
  Calls Tryz.prog 8 #[(.iface 160 (.pointer (some ⟨a,0,none⟩))),.int .i64 n,.int .i64 L] w fun r w'=>HoPost (fndG g D1 q L).2.2 r∧Below w.heap.size w w':=by
 have e1:qOf (-1) q=q:=by simp[qOf]
 have e2:isOf (-1) q=true:=by simp[isOf]
 have HF:=Lib.hid (findS_any P hb (-1) L hL0 hL (by rw[e1];exact hok));unfold SyFi at HF;rw[e1,e2]at HF;clear hok P hL0 hL e1 e2
 go_enter Tryz.func8,Tryz.ntmps8
 go_wp2_with fail
 (with_reducible refine HF.out.mono ?_)
 rintro r w1 ⟨hp,b1⟩;have B1:=Lib.hid b1;clear b1 HF
 rcases hp with ⟨h1,_⟩ | ⟨_,h2,rfl⟩ | ⟨_,h2,rfl⟩ | ⟨_,k,i,gb,h2,_,_,rfl,_⟩
 ·cases h1
 ·have X:=Lib.hid h2
  clear h2;go_wp2_with fail
  go_ret2
  exact⟨.inl ⟨X.out,rfl⟩,B1.out.trans ((below_alloc _ _).mono B1.out.size)⟩
 ·have X:=Lib.hid h2
  clear h2;go_wp2_with fail
  go_ret2
  exact⟨.inr ⟨by rw[X.out];decide,by rw[X.out];rfl⟩,B1.out.trans ((below_alloc _ _).mono B1.out.size)⟩
 ·have X:Hid ((fndG g D1 q L).2.2=0):=by show(fndG g D1 q L).2.2=0;rw[h2]
  clear h2;go_wp2_with fail
  go_ret2
  exact⟨.inr ⟨by rw[X.out];decide,by rw[X.out];rfl⟩,B1.out.trans ((below_alloc _ _).mono B1.out.size)⟩
end
end

section
open Go.RowKit Go.Maps
attribute [local go_sem ↓] Go.wp_at_zero Go.wp_at_succ
section
variable{w wb:World}{a n:Nat}{sp q:List (Nat×Nat×Int)}{C:Nat→Int}{ok:(Nat→Int)→Prop}{g g64:(Nat→Int)→Bool→Bool}{okB:(Nat→Int)→Bool}{fn:Nat}
structure SyR(w:World)(a n:Nat)(sp q:List (Nat×Nat×Int))(C:Nat→Int)(ok:(Nat→Int)→Prop)(g g64:(Nat→Int)→Bool→Bool)(okB:(Nat→Int)→Bool)(fn:Nat):Prop where
 P:SyP w a n ((Dev.fresh n (fun _=>0)).run 0 sp) q ok g
 ev:Ev q C g64 okB fn
 cl:∃ x,x≤100∧SCl ((Dev.fresh n (fun _=>0)).run 0 sp) 0 n C x
 okq:∀ e∈q,okqB e=true
 h:∀ F,Bd F→okB F=true→ok F∧∀ e,g F e=g64 F e
theorem SyR.next(R:SyR wb a n sp q C ok g g64 okB fn)(hb:Below wb.heap.size wb w):SyR w a n sp q C ok g g64 okB fn:=⟨R.P.next hb,R.ev,R.cl,R.okq,R.h⟩
theorem SyR.bd(R:SyR w a n sp q C ok g g64 okB fn):Bd C:=by
 obtain⟨x,_,S⟩:=R.cl;intro i;have:=S.vb.cur i;rw[S.cur]at this;exact this
theorem SyR.use(R:SyR w a n sp q C ok g g64 okB fn)(f:Int)(h1 : -1≤f)(h2:f<fn) :
  (∀ k,k≤(qOf f q).length→∀ i,i<prodN (basesL (((Dev.fresh n (fun _=>0)).run 0 sp).run 0 ((qOf f q).take k)))→ok (imgN (((Dev.fresh n (fun _=>0)).run 0 sp).run 0 ((qOf f q).take k)) i)) ∧
  fndG g ((Dev.fresh n (fun _=>0)).run 0 sp) (qOf f q) 1000=fndG g64 (Dev.fresh 64 C) (qOf f q) 1000:=by
 obtain⟨x,_,S⟩:=R.cl;exact R.ev.use (S.sim R.P.lo) R.bd R.okq R.h f h1 h2
theorem SyR.holds(R:SyR w a n sp q C ok g g64 okB fn):(fndG g ((Dev.fresh n (fun _=>0)).run 0 sp) q 1000).2.2=1:=by
 have h:=(R.use (-1) (by omega) (by omega)).2;rw[show qOf (-1) q=q by simp[qOf]]at h;rw[h];exact R.ev.sys
def fnL:Nat→Nat | 0=>1 | 1=>1 | 2=>4 | 3=>4 | 4=>2 | _=>2
structure SyL(w:World)(ad:Nat→Nat)(n:Nat):Prop where
 sb:SyR w (ad 0) n sbSetP sbQ sbC (fun _=>True) (gSb n) (gSb 64) okSb 1
 rt:SyR w (ad 1) n rtSetP (progR 128 (rtW rtCs) [98] (ptV 2)) rtCs (fun _=>True) gRt gRt (fun _=>true) 1
 rd:SyR w (ad 2) n rdSetP (rPlanP 640 (rdW 3 4)) rdC (fun _=>True) (gRd n) (gRd 64) okRd 4
 ud:SyR w (ad 3) n udSetP (udQ 3 4 (udCC 1 2 (fun _=>0))) udC (fun _=>True) (gUd n) (gUd 64) okUd 4
 bk:SyR w (ad 4) n bkSetP bkQ bkC okBk gBk gBk okBkB 2
 lf:SyR w (ad 5) n lfSetP (putL1 lfC 6 2) lfC OkLf gLf gLf okLfB 2
theorem SyL.at{ad:Nat→Nat}(R:SyL w ad n){i:Nat}(hi:i<6):∃ sp q C ok g g64 okB,SyR w (ad i) n sp q C ok g g64 okB (fnL i):=by
 obtain rfl | rfl | rfl | rfl | rfl | rfl:i=0∨i=1∨i=2∨i=3∨i=4∨i=5:=by omega
 ·exact⟨_,_,_,_,_,_,_,R.sb⟩
 ·exact⟨_,_,_,_,_,_,_,R.rt⟩
 ·exact⟨_,_,_,_,_,_,_,R.rd⟩
 ·exact⟨_,_,_,_,_,_,_,R.ud⟩
 ·exact⟨_,_,_,_,_,_,_,R.bk⟩
 ·exact⟨_,_,_,_,_,_,_,R.lf⟩
theorem fresh0(n:Nat):SCl (Dev.fresh n (fun _=>0)) 0 n (fun _=>0) 0:=fresh_scl (f:=fun _=>0) (fun _=>by omega) 0 n
theorem sbR(P:∀ n,64≤n→n≤4096→SyP w a n ((Dev.fresh n (fun _=>0)).run 0 sbSetP) sbQ (fun _=>True) (gSb n))(hn:64≤n)(hn2:n≤4096):SyR w a n sbSetP sbQ sbC (fun _=>True) (gSb n) (gSb 64) okSb 1:=
 ⟨P n hn hn2,evSb,⟨_,by omega,sb_setup (fresh0 n) hn⟩,sbQ_q,fun F _ h=>⟨trivial,fun e=>okSb_n h hn e⟩⟩
theorem rtR(P:∀ n,64≤n→n≤4096→SyP w a n ((Dev.fresh n (fun _=>0)).run 0 rtSetP) (progR 128 (rtW rtCs) [98] (ptV 2)) (fun _=>True) gRt)(hn:64≤n)(hn2:n≤4096):SyR w a n rtSetP (progR 128 (rtW rtCs) [98] (ptV 2)) rtCs (fun _=>True) gRt gRt (fun _=>true) 1:=
 ⟨P n hn hn2,evRt,⟨_,by omega,rt_setup (fresh0 n) hn⟩,rtQ_q,fun F _ h=>⟨trivial,fun e=>rfl⟩⟩
theorem rdR(P:∀ n,64≤n→n≤4096→SyP w a n ((Dev.fresh n (fun _=>0)).run 0 rdSetP) (rPlanP 640 (rdW 3 4)) (fun _=>True) (gRd n))(hn:64≤n)(hn2:n≤4096):SyR w a n rdSetP (rPlanP 640 (rdW 3 4)) rdC (fun _=>True) (gRd n) (gRd 64) okRd 4:=
 ⟨P n hn hn2,evRd,⟨_,by omega,rd_setup (fresh0 n) hn⟩,rdQ_q,fun F _ h=>⟨trivial,fun e=>okRd_n h hn e⟩⟩
theorem udR(P:∀ n,64≤n→n≤4096→SyP w a n ((Dev.fresh n (fun _=>0)).run 0 udSetP) (udQ 3 4 (udCC 1 2 (fun _=>0))) (fun _=>True) (gUd n))(hn:64≤n)(hn2:n≤4096):SyR w a n udSetP (udQ 3 4 (udCC 1 2 (fun _=>0))) udC (fun _=>True) (gUd n) (gUd 64) okUd 4:=
 ⟨P n hn hn2,evUd,⟨_,by omega,ud_exec (fresh0 n) hn 1 2 (by omega) (by omega)⟩,udQ_q,fun F _ h=>⟨trivial,fun e=>okUd_n h hn e⟩⟩
theorem bkR(P:∀ n,64≤n→n≤4096→SyP w a n ((Dev.fresh n (fun _=>0)).run 0 bkSetP) bkQ okBk gBk)(hn:64≤n)(hn2:n≤4096):SyR w a n bkSetP bkQ bkC okBk gBk gBk okBkB 2:=
 ⟨P n hn hn2,evBk,⟨_,by omega,bk_setup (fresh0 n) hn⟩,bkQ_q,fun F hF h=>⟨okBkB_ok hF h,fun e=>rfl⟩⟩
theorem lfR(P:∀ n,64≤n→n≤4096→SyP w a n ((Dev.fresh n (fun _=>0)).run 0 lfSetP) (putL1 lfC 6 2) OkLf gLf)(hn:64≤n)(hn2:n≤4096):SyR w a n lfSetP (putL1 lfC 6 2) lfC OkLf gLf gLf okLfB 2:=
 ⟨P n hn hn2,evLf,⟨_,by rw[show lfSetP.length=33 by decide +kernel];omega,lf_set (fresh0 n) hn⟩,lfQ_q,fun F hF h=>⟨okLfB_ok h,fun e=>rfl⟩⟩
def syV(g:Nat):Value:=.iface 160 (.pointer (some ⟨g,0,none⟩))
theorem l54allS_any(hN:Nib w)(h0:0<w.heap.size):Calls Tryz.prog 7 #[] w fun r w'=>∃ (b:Nat) (ad:Nat→Nat),r = .returned (.slice (some ⟨b,0,none⟩) 6 6)∧Row w' b 6 23 (fun i=>syV (ad i))∧(∀ n,64≤n→n≤4096→SyL w' ad n)∧Below w.heap.size w w':=by
 have H0:=Lib.hid (fun(wx:World)=>mkSuperblock_any (w:=wx));have H1:=Lib.hid (fun(wx:World)=>mkRoot_any (w:=wx));have H2:=Lib.hid (fun(wx:World)=>mkRedo_any (w:=wx));have H3:=Lib.hid (fun(wx:World)=>mkUndo_any (w:=wx));have H4:=Lib.hid (fun(wx:World)=>mkBucket_any (w:=wx));have H5:=Lib.hid (fun(wx:World)=>mkLeaf_any (w:=wx));have HN:=Lib.hid hN;have HZ:=Lib.hid h0
 clear hN h0;have B0:=Lib.hid (Below.refl w.heap.size w)
 go_enter Tryz.func7,Tryz.ntmps7
 go_wp2_with fail
 (with_reducible refine(H0.out _).mono ?_)
 rintro e w1 ⟨g1,x1,rfl,k1,y1,_,_,b1⟩;have B1:=Lib.hid (B0.out.trans (b1.mono B0.out.size));have P1:Hid (∀ n,64≤n→n≤4096→SyP w1 g1 n ((Dev.fresh n (fun _=>0)).run 0 sbSetP) sbQ (fun _=>True) (gSb n)):=Lib.hid (fun n h1 h2=>sySb k1 y1 (HN.out.below B1.out) (Nat.lt_of_lt_of_le HZ.out B1.out.size) h1 h2);clear b1 k1 y1;go_wp2_with fail
 (with_reducible refine(H1.out _).mono ?_)
 rintro e w2 ⟨g2,x2,rfl,k2,y2,_,_,b2⟩;have B2:=Lib.hid (B1.out.trans (b2.mono B1.out.size));have T2:=Lib.hid b2;have P2:Hid (∀ n,64≤n→n≤4096→SyP w2 g2 n ((Dev.fresh n (fun _=>0)).run 0 rtSetP) (progR 128 (rtW rtCs) [98] (ptV 2)) (fun _=>True) gRt):=Lib.hid (fun n h1 h2=>syRt k2 y2 (HN.out.below B2.out) (Nat.lt_of_lt_of_le HZ.out B2.out.size) h1 h2);clear b2 k2 y2;go_wp2_with fail
 (with_reducible refine(H2.out _).mono ?_)
 rintro e w3 ⟨g3,x3,rfl,k3,y3,_,_,b3⟩;have B3:=Lib.hid (B2.out.trans (b3.mono B2.out.size));have T3:=Lib.hid b3;have P3:Hid (∀ n,64≤n→n≤4096→SyP w3 g3 n ((Dev.fresh n (fun _=>0)).run 0 rdSetP) (rPlanP 640 (rdW 3 4)) (fun _=>True) (gRd n)):=Lib.hid (fun n h1 h2=>syRd k3 y3 (HN.out.below B3.out) (Nat.lt_of_lt_of_le HZ.out B3.out.size) h1 h2);clear b3 k3 y3;go_wp2_with fail
 (with_reducible refine(H3.out _).mono ?_)
 rintro e w4 ⟨g4,x4,z4,rfl,k4,y4,_,q4,_,_,b4⟩;have B4:=Lib.hid (B3.out.trans (b4.mono B3.out.size));have T4:=Lib.hid b4;have P4:Hid (∀ n,64≤n→n≤4096→SyP w4 g4 n ((Dev.fresh n (fun _=>0)).run 0 udSetP) (udQ 3 4 (udCC 1 2 (fun _=>0))) (fun _=>True) (gUd n)):=Lib.hid (fun n h1 h2=>syUd k4 q4 y4 h1 h2);clear b4 k4 y4 q4;go_wp2_with fail
 (with_reducible refine(H4.out _).mono ?_)
 rintro e w5 ⟨g5,rfl,k5,_,b5⟩;have B5:=Lib.hid (B4.out.trans (b5.mono B4.out.size));have T5:=Lib.hid b5;have P5:Hid (∀ n,64≤n→n≤4096→SyP w5 g5 n ((Dev.fresh n (fun _=>0)).run 0 bkSetP) bkQ okBk gBk):=Lib.hid (fun n h1 h2=>syBk k5 h1 h2);clear b5 k5;go_wp2_with fail
 (with_reducible refine(H5.out _).mono ?_)
 rintro e w6 ⟨g6,x6,rfl,k6,y6,_,_,b6⟩;have B6:=Lib.hid (B5.out.trans (b6.mono B5.out.size));have T6:=Lib.hid b6;have P6:Hid (∀ n,64≤n→n≤4096→SyP w6 g6 n ((Dev.fresh n (fun _=>0)).run 0 lfSetP) (putL1 lfC 6 2) OkLf gLf):=Lib.hid (fun n h1 h2=>syLf k6 y6 h1 h2);clear b6 k6 y6
 all_goals
  go_wp2_with fail
  go_ret
  refine⟨_,fun i=>if i=0 then g1 else if i=1 then g2 else if i=2 then g3 else if i=3 then g4 else if i=4 then g5 else g6,rfl,⟨_,Blk.new _ _ _,fun i hi => ?_⟩,fun n hn hn2 => ?_,B6.out.trans ((below_alloc _ _).mono B6.out.size)⟩
  ·obtain rfl | rfl | rfl | rfl | rfl | rfl:i=0∨i=1∨i=2∨i=3∨i=4∨i=5:=by omega
   all_goals rfl
  ·have L6:=below_alloc w6 (.cells #[syV g1,syV g2,syV g3,syV g4,syV g5,syV g6] 23)
   have L5:=T6.out.trans (L6.mono T6.out.size);have L4:=T5.out.trans (L5.mono T5.out.size);have L3:=T4.out.trans (L4.mono T4.out.size);have L2:=T3.out.trans (L3.mono T3.out.size);have L1:=T2.out.trans (L2.mono T2.out.size);exact⟨(sbR P1.out hn hn2).next L1,(rtR P2.out hn hn2).next L2,(rdR P3.out hn hn2).next L3,(udR P4.out hn hn2).next L4,(bkR P5.out hn hn2).next L5,(lfR P6.out hn hn2).next L6⟩
end
end

section
open Go.RowKit Go.Maps
attribute [local go_sem ↓] Go.wp_at_zero Go.wp_at_succ
abbrev q8:List (Nat×Nat×Int) := [(1,0,7),(1,128,7),(2,0,0),(2,128,0),(3,0,0),(1,64,1),(2,64,0),(3,0,0)]
theorem fnd8a:(fnd (Dev.fresh 4 (fun _=>0)) (qOf 0 q8) 100).1=5∧(fnd (Dev.fresh 4 (fun _=>0)) (qOf 0 q8) 100).2.2=0:=⟨by kernel_rfl,by kernel_rfl⟩
theorem fnd8b:(fnd (Dev.fresh 4 (fun _=>0)) q8 100).2.2=1:=by kernel_rfl
theorem is8:isOf 0 q8=true:=by kernel_rfl
theorem ok8:∀ e∈q8,OkQ 4 e:=by
 intro e he;simp only[q8,List.mem_cons,List.not_mem_nil,or_false]at he
 rcases he with rfl | rfl | rfl | rfl | rfl | rfl | rfl | rfl <;> exact⟨by decide,by decide,by decide,by decide,by decide,by decide⟩
theorem pl8:Plain54 q8:=by
 intro e he;simp only[q8,List.mem_cons,List.not_mem_nil,or_false]at he
 rcases he with rfl | rfl | rfl | rfl | rfl | rfl | rfl | rfl <;> exact⟨by decide,by decide⟩
section
variable{w:World}
theorem awake54:Calls Tryz.prog 9 #[] w fun r w'=>r = .returned (.bool true)∧Below w.heap.size w w':=by
 have R1:Hid (RdSl (w.alloc (.cells #[.int .i64 0,.int .u64 0,.int .u64 7,.int .i64 0,.int .u64 128,.int .u64 7,.int .i64 1,.int .u64 0,.int .u64 0,.int .i64 1,.int .u64 128,.int .u64 0,.int .i64 2,.int .u64 0,.int .u64 0,.int .i64 0,.int .u64 64,.int .u64 1,.int .i64 1,.int .u64 64,.int .u64 0,.int .i64 2,.int .u64 0,.int .u64 0] 80)) 3 (.slice (some ⟨w.heap.size,0,none⟩) 8 8) q8.length (refP q8)):=Lib.hid (by
  have:=RdSl.new w #[.int .i64 0,.int .u64 0,.int .u64 7,.int .i64 0,.int .u64 128,.int .u64 7,.int .i64 1,.int .u64 0,.int .u64 0,.int .i64 1,.int .u64 128,.int .u64 0,.int .i64 2,.int .u64 0,.int .u64 0,.int .i64 0,.int .u64 64,.int .u64 1,.int .i64 1,.int .u64 64,.int .u64 0,.int .i64 2,.int .u64 0,.int .u64 0] 80 3 8 rfl;exact this)
 have B1:=Lib.hid (below_alloc w (.cells #[.int .i64 0,.int .u64 0,.int .u64 7,.int .i64 0,.int .u64 128,.int .u64 7,.int .i64 1,.int .u64 0,.int .u64 0,.int .i64 1,.int .u64 128,.int .u64 0,.int .i64 2,.int .u64 0,.int .u64 0,.int .i64 0,.int .u64 64,.int .u64 1,.int .i64 1,.int .u64 64,.int .u64 0,.int .i64 2,.int .u64 0,.int .u64 0] 80));have HF:=Lib.hid (fun(wx:World) (hx:RdSl wx 3 (.slice (some ⟨w.heap.size,0,none⟩) 8 8) q8.length (refP q8))=>ncFind_any 4 _ q8 hx ok8 pl8 (by decide) (by omega) (by omega) 0 100 ⟨by omega,by omega⟩ (by omega));have HH:=Lib.hid (fun(wx:World) (hx:RdSl wx 3 (.slice (some ⟨w.heap.size,0,none⟩) 8 8) q8.length (refP q8))=>ncHolds_any 4 _ q8 hx ok8 pl8 (by decide) (by omega) (by omega) 100 (by omega) (by omega));unfold FiPost at HF;rw[fnd8b]at HH;simp only[is8]at HF;rw[show((100:Int)).toNat=100 from rfl,show((4:Nat):Int)=4 from rfl]at HF;rw[show((4:Nat):Int)=4 from rfl,show((100:Nat):Int)=100 from rfl]at HH;have H8:=Lib.hid fnd8a;obtain⟨Q,hQ⟩:∃ Q,qOf 0 q8=Q:=⟨_,rfl⟩;rw[hQ]at HF H8;obtain⟨q,hq⟩:∃ q,q8=q:=⟨_,rfl⟩;obtain⟨D0,hD0⟩:∃ D0,Dev.fresh 4 (fun _=>0)=D0:=⟨_,rfl⟩;rw[hD0]at HF H8
 have HR1:=Lib.hid (fun wx (hb:Below (w.alloc (.cells #[.int .i64 0,.int .u64 0,.int .u64 7,.int .i64 0,.int .u64 128,.int .u64 7,.int .i64 1,.int .u64 0,.int .u64 0,.int .i64 1,.int .u64 128,.int .u64 0,.int .i64 2,.int .u64 0,.int .u64 0,.int .i64 0,.int .u64 64,.int .u64 1,.int .i64 1,.int .u64 64,.int .u64 0,.int .i64 2,.int .u64 0,.int .u64 0] 80)).heap.size (w.alloc (.cells #[.int .i64 0,.int .u64 0,.int .u64 7,.int .i64 0,.int .u64 128,.int .u64 7,.int .i64 1,.int .u64 0,.int .u64 0,.int .i64 1,.int .u64 128,.int .u64 0,.int .i64 2,.int .u64 0,.int .u64 0,.int .i64 0,.int .u64 64,.int .u64 1,.int .i64 1,.int .u64 64,.int .u64 0,.int .i64 2,.int .u64 0,.int .u64 0] 80)) wx)=>R1.out.below hb);clear hQ hD0;rw[hq]at HF HH HR1 R1;clear hq
 go_enter Tryz.func9,Tryz.ntmps9
 have K2:Hid (Blk ((w.alloc (.cells #[.int .i64 0,.int .u64 0,.int .u64 7,.int .i64 0,.int .u64 128,.int .u64 7,.int .i64 1,.int .u64 0,.int .u64 0,.int .i64 1,.int .u64 128,.int .u64 0,.int .i64 2,.int .u64 0,.int .u64 0,.int .i64 0,.int .u64 64,.int .u64 1,.int .i64 1,.int .u64 64,.int .u64 0,.int .i64 2,.int .u64 0,.int .u64 0] 80)).alloc (.cells #[.slice (some ⟨w.heap.size,0,none⟩) 8 8] 83)) (w.heap.size+1) #[.slice (some ⟨w.heap.size,0,none⟩) 8 8] 83):=Lib.hid (by
  have:=Blk.new (w.alloc (.cells #[.int .i64 0,.int .u64 0,.int .u64 7,.int .i64 0,.int .u64 128,.int .u64 7,.int .i64 1,.int .u64 0,.int .u64 0,.int .i64 1,.int .u64 128,.int .u64 0,.int .i64 2,.int .u64 0,.int .u64 0,.int .i64 0,.int .u64 64,.int .u64 1,.int .i64 1,.int .u64 64,.int .u64 0,.int .i64 2,.int .u64 0,.int .u64 0] 80)) #[.slice (some ⟨w.heap.size,0,none⟩) 8 8] 83
  rwa [World.size_alloc]at this)
 have B2:Hid (Below (w.alloc (.cells #[.int .i64 0,.int .u64 0,.int .u64 7,.int .i64 0,.int .u64 128,.int .u64 7,.int .i64 1,.int .u64 0,.int .u64 0,.int .i64 1,.int .u64 128,.int .u64 0,.int .i64 2,.int .u64 0,.int .u64 0,.int .i64 0,.int .u64 64,.int .u64 1,.int .i64 1,.int .u64 64,.int .u64 0,.int .i64 2,.int .u64 0,.int .u64 0] 80)).heap.size (w.alloc (.cells #[.int .i64 0,.int .u64 0,.int .u64 7,.int .i64 0,.int .u64 128,.int .u64 7,.int .i64 1,.int .u64 0,.int .u64 0,.int .i64 1,.int .u64 128,.int .u64 0,.int .i64 2,.int .u64 0,.int .u64 0,.int .i64 0,.int .u64 64,.int .u64 1,.int .i64 1,.int .u64 64,.int .u64 0,.int .i64 2,.int .u64 0,.int .u64 0] 80)) ((w.alloc (.cells #[.int .i64 0,.int .u64 0,.int .u64 7,.int .i64 0,.int .u64 128,.int .u64 7,.int .i64 1,.int .u64 0,.int .u64 0,.int .i64 1,.int .u64 128,.int .u64 0,.int .i64 2,.int .u64 0,.int .u64 0,.int .i64 0,.int .u64 64,.int .u64 1,.int .i64 1,.int .u64 64,.int .u64 0,.int .i64 2,.int .u64 0,.int .u64 0] 80)).alloc (.cells #[.slice (some ⟨w.heap.size,0,none⟩) 8 8] 83))):=Lib.hid (below_alloc _ _);have HF2:=Lib.hid (HF.out _ (HR1.out _ B2.out));clear HF;go_wp2_with fail
 (with_reducible refine HF2.out.mono ?_)
 rintro r w1 ⟨⟨h1,_⟩ | ⟨_,hp⟩,b1⟩
 ·exact absurd h1 (by decide)
 have B3:=Lib.hid (B2.out.trans (b1.mono B2.out.size));have K3:=Lib.hid (K2.out.below b1);clear b1 HF2 B2 K2
 rcases hp with ⟨h1,_⟩ | ⟨_,h2,_⟩ | ⟨_,h2,_⟩ | ⟨_,k,i,g,h2,_,_,rfl,_⟩
 ·cases h1
 ·rw[h2]at H8;exact absurd H8.out.2 (by decide)
 ·rw[h2]at H8;exact absurd H8.out.2 (by decide)
 ·have hk:k=5:=by have:=H8.out.1;rw[h2]at this;exact this
  subst hk;obtain⟨dm,hdm⟩:∃ dm,(D0.run 0 (Q.take 5)).dirtyL.length=dm:=⟨_,rfl⟩;rw[hdm];clear h2 H8 hdm;have K4:=Lib.hid (K3.out.alloc (.cells #[.int .i64 0,.int .i64 5,.slice (some ⟨g,0,none⟩) dm dm] 64));have X4:=Lib.hid (Blk.new w1 #[.int .i64 0,.int .i64 5,.slice (some ⟨g,0,none⟩) dm dm] 64);have B4:=Lib.hid (B3.out.trans ((below_alloc w1 (.cells #[.int .i64 0,.int .i64 5,.slice (some ⟨g,0,none⟩) dm dm] 64)).mono B3.out.size));have HH2:=Lib.hid (HH.out _ (HR1.out _ B4.out));have k0:=K3.out.cell (i:=0) (v:=.slice (some ⟨w.heap.size,0,none⟩) 8 8) rfl;have k0l:=K3.out.lt;clear HH HR1 B3;go_wp2_with fail
  (with_reducible refine HH2.out.mono ?_)
  rintro r w2 ⟨⟨h1,_⟩ | ⟨_,rfl⟩,b2⟩
  ·exact absurd h1 (by decide)
  ·have X5:=Lib.hid (X4.out.below b2)
   have B5:=Lib.hid ((B1.out.trans ((B4.out).mono B1.out.size)).trans (b2.mono (Nat.le_trans B1.out.size B4.out.size)));have x0:=X5.out.cell (i:=0) rfl;have x1:=X5.out.cell (i:=1) rfl;clear b2 HH2 k0;go_wp2_with fail
   go_ret
   exact⟨rfl,B5.out⟩
end
end

section
open Go.RowKit Go.Maps
attribute [local go_sem ↓] Go.wp_at_zero Go.wp_at_succ
section
variable{w:World}
theorem rem6(a:Int):∃ t:Int,a.tmod 6=t∧IntKind.i64.wrap t=t∧IntKind.i64.wrap (t+6)=t+6∧∃ s:Nat,(t+6).tmod 6=s∧IntKind.i64.wrap (s:Int)=s∧s<6:=by
 have h1:=Int.tmod_lt_of_pos a (show(0:Int)<6 by omega);have h2 : -6<a.tmod 6:=Int.lt_tmod_of_pos a (by omega);have h3:=Int.tmod_nonneg 6 (show 0≤a.tmod 6+6 by omega);have h4:=Int.tmod_lt_of_pos (a.tmod 6+6) (show(0:Int)<6 by omega);exact⟨_,rfl,IntWalk.i64_in _ (by omega),IntWalk.i64_in _ (by omega),((a.tmod 6+6).tmod 6).toNat,by omega,IntWalk.i64_in _ (by omega),by omega⟩
theorem rem64(a:Int):∃ t:Int,a.tmod 64=t∧IntKind.i64.wrap t=t∧IntKind.i64.wrap (t+64)=t+64∧∃ s:Nat,(t+64).tmod 64=s∧IntKind.i64.wrap (s:Int)=s∧s<64∧IntKind.i64.wrap (64+(s:Int))=64+(s:Int):=by
 have h1:=Int.tmod_lt_of_pos a (show(0:Int)<64 by omega);have h2 : -64<a.tmod 64:=Int.lt_tmod_of_pos a (by omega);have h3:=Int.tmod_nonneg 64 (show 0≤a.tmod 64+64 by omega);have h4:=Int.tmod_lt_of_pos (a.tmod 64+64) (show(0:Int)<64 by omega);refine⟨_,rfl,IntWalk.i64_in _ (by omega),IntWalk.i64_in _ (by omega),((a.tmod 64+64).tmod 64).toNat,by omega,IntWalk.i64_in _ (by omega),by omega,?_⟩
 exact IntWalk.i64_in _ (by omega)
theorem sys_holds{ad:Nat→Nat}{n i:Nat}(R:SyL w ad n)(hi:i<6)(m:Int)(hm:m=n):Calls Tryz.prog 8 #[syV (ad i),.int .i64 m,.int .i64 1000] w fun r w'=>r = .returned (.tuple #[.bool true,.int .i64 0])∧Below w.heap.size w w':=by
 subst hm;obtain⟨sp,q,C,ok,g,g64,okB,E⟩:=R.at hi;have hok:=(E.use (-1) (by omega) (by omega)).1;rw[show qOf (-1) q=q by simp[qOf]]at hok;refine(holdsS_any E.P (Below.refl _ _) 1000 (by omega) (by omega) hok).mono fun r w' ⟨h1,b⟩=>⟨?_,b⟩
 rcases h1 with ⟨h2,_⟩ | ⟨_,h3⟩
 ·rw[E.holds]at h2;exact absurd h2 (by decide)
 ·rw[h3,E.holds];rfl
theorem necSystem_any(which more:Int)(hN:Nib w)(h0:0<w.heap.size):Calls Tryz.prog 3 #[.int .i64 which,.int .i64 more] w fun r w'=>r = .returned (.bool true)∧Below w.heap.size w w':=by
 obtain⟨t,ht1,ht2,ht3,s,hs1,hs2,hs3⟩:=rem6 which;obtain⟨u,hu1,hu2,hu3,z,hz1,hz2,hz3,hz4⟩:=rem64 more;have HA:=Lib.hid (l54allS_any hN h0);have HH:=Lib.hid (fun(wx:World) (ad:Nat→Nat) (n:Nat) (R:SyL wx ad n) (m:Int) (hm:m=n)=>sys_holds (i:=s) R hs3 m hm);have HW:=Lib.hid (fun(wx:World)=>awake54 (w:=wx));clear hN h0
 go_enter Tryz.func3,Tryz.ntmps3
 go_wp2_with fail
 (with_reducible refine HA.out.mono ?_)
 rintro r w1 ⟨b,ad,rfl,row,hl,b1⟩;have B1:=Lib.hid b1;have HH1:=Lib.hid (HH.out w1 ad (64+z) (hl _ (by omega) (by omega)) (64+(z:Int)) (by omega));have c1:=row.cell hs3;clear hl row b1 HA HH;have hlt:(s:Int)<6:=by omega
 have h0:(0:Int)≤s:=by omega
 go_wp2_with fail
 (with_reducible refine HH1.out.mono ?_)
 rintro r w2 ⟨rfl,b2⟩;have B2:=Lib.hid (B1.out.trans (b2.mono B1.out.size));clear b2;go_wp2_with fail
 (with_reducible refine(HW.out _).mono ?_)
 rintro r w3 ⟨rfl,b3⟩;have B3:=Lib.hid (B2.out.trans (b3.mono B2.out.size));clear b3;go_wp2_with fail
 go_ret
 exact⟨rfl,B3.out⟩
end
end

section
open Go.ChangeShapes Go.WideShapes Go.ChangeAt Go.RowKit
theorem own_knob:ownKnob Tryz.prog.godebug=none:=by kernel_rfl
theorem laid_outP:laidOutB Tryz.prog=true:=by kernel_rfl
section
variable{H:Type}{enc:TypeId×Value→H}
theorem trodAll_stays{W W':World}{sp':Nat→Bool}:∀ {ts:List TypeId} {vs:List Value} {ds:List (DataW H)} {ps:List MemPlace},(∀ t∈ts,Tryz.prog.readableRec t=true∧t<Tryz.prog.types.size) →
  DataW.TrodAll enc Tryz.prog W 0 (fun _=>true) true ts vs ds ps→(∀ p∈ps,W.sameAt W' p)→(∀ p∈ps,sp' p.block=true)→DataW.TrodAll enc Tryz.prog W' 0 sp' true ts vs ds ps
 | [],[],[],_,_,h,_,_=>h
 | t::_,_::_,_::_,_,hT,⟨p,q,h1,h2,e⟩,hw,hs=>
  ⟨p,q,WideElems.Trod_stays laid_outP (hT t (List.mem_cons.2 (.inl rfl))).1 (hT t (List.mem_cons.2 (.inl rfl))).2 h1 (fun x hx=>hw x (by rw[e];exact List.mem_append_left _ hx)) (fun x hx=>hs x (by rw[e];exact List.mem_append_left _ hx)),
   trodAll_stays (fun t ht=>hT t (List.mem_cons.2 (.inr ht))) h2 (fun x hx=>hw x (by rw[e];exact List.mem_append_right _ hx)) (fun x hx=>hs x (by rw[e];exact List.mem_append_right _ hx)),e⟩
theorem law_post{f:Func}{s:ChangeSpec}{W W':World}{args:Array Value}{ds gs:List (DataW H)}{before:List MemPlace}
  (hW:DataW.Whole enc Tryz.prog f.params.toList s.vars false W args.toList ds gs before) (hvars:s.vars = []) (hr:f.resultTypes = #[4])
  (hs:s.fn H ds={results := [.lit (.bool true)],args:=ds}) (hrd:∀ t∈f.params.toList,Tryz.prog.readableRec t=true∧t<Tryz.prog.types.size) (hb:Below W.heap.size W W') :
  s.post enc Tryz.prog f false true false false W args (.bool true) W':=by
 have hlt:∀ p∈before,p.block<W.heap.size:=fun p hp=>hW.lt p hp
 have hW':=hW;obtain⟨p,q,hA,hV,rfl,_,_⟩:=hW;rw[hvars]at hV;obtain⟨rfl,rfl⟩:=trodVars_none hV;simp only[List.append_nil]at hlt hW';refine⟨ds,[],p,[],p,[],hW',?_,?_,?_,World.keptBut_mono (fun x hx=>⟨hx,.inr (.inl hx)⟩) (hb.frame (· ∈ p)),fun h=>(Bool.false_ne_true h).elim⟩
 ·rw[hr,List.append_nil,hs];exact trodAll_mk1 (shut_bool Tryz.underlying4 _)
 ·rw[List.append_nil,hs]
  exact trodAll_stays hrd hA (fun x hx=>hb.same (hlt x hx)) (fun x hx=>by simpa using hlt x hx)
 ·rw[hvars,List.append_nil,hs];rfl
end
end
end Go.Proofs.YtlhchkajjpefmaaGreatDoor
