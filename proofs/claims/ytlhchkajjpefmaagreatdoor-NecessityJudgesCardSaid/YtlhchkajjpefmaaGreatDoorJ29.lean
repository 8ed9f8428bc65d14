/- Lemmas and walks, part 29: each theorem says what it proves; no condition beside its own. -/
import Derived.Test.YtlhchkajjpefmaaGreatDoorJ28
set_option maxHeartbeats 16000000
set_option maxRecDepth 100000
namespace Go.Proofs.YtlhchkajjpefmaaGreatDoor
open Lib(hid)
open Go.RowKit Go.Proofs.Tryz
section
open Go.Maps
attribute [local go_sem ↓] Go.wp_at_zero Go.wp_at_succ
section
variable{w wb:World}{v:DV}{own:Nat->Option Qp}{D D1:Dev}{a n:Nat}{q:List (Nat×Nat×Int)}{ok:(Nat->Int)->Prop}{g:(Nat->Int)->Bool->Bool}
def Q8g(g:(Nat->Int)->Bool->Bool)(D0:Dev)(Q:List (Nat×Nat×Int))(is:Bool)(f:Int)(L:Nat)(r:Ending)(w':World):Prop:=
 (is=false/\r = .returned (.tuple #[.agg #[.int .i64 0,.int .i64 0,.slice none 0 0],.bool false,.int .i64 2])) \/
 (is=true/\(Gd g D0 Q L).2.2=2/\r = .returned (.tuple #[.agg #[.int .i64 0,.int .i64 0,.slice none 0 0],.bool false,.int .i64 9])) \/
 (is=true/\(Gd g D0 Q L).2.2=1/\r = .returned (.tuple #[.agg #[.int .i64 0,.int .i64 0,.slice none 0 0],.bool false,.int .i64 0])) \/
 (is=true/\∃ (k i gb:Nat),Gd g D0 Q L=(k,i,0)/\k<=Q.length/\i<Qm (Qf (D0.run 0 (Q.take k))) /\
  r = .returned (.tuple #[.agg #[.int .i64 f,.int .i64 k,.slice (some ⟨gb,0,none⟩) (D0.run 0 (Q.take k)).dirtyL.length (D0.run 0 (Q.take k)).dirtyL.length],.bool true,.int .i64 0]) /\
  Row w' gb (D0.run 0 (Q.take k)).dirtyL.length 5 (fun j => .int .u8 (Lx (Qf (D0.run 0 (Q.take k))) i j)))
theorem Qcn(P:SyP wb a n D1 q ok g)(hb:Below wb.heap.size wb w)(f:Int)(L:Nat)(hL0:1<=L)(hL:L<=9223372036854775807)
  (hok:∀ k,k<=(qOf f q).length->∀ i,i<Qm (Qf (D1.run 0 ((qOf f q).take k)))->ok (Vy (D1.run 0 ((qOf f q).take k)) i)) :
  Calls prog 22 #[(.iface 160 (.pointer (some ⟨a,0,none⟩))),.int .i64 n,.int .i64 f,.int .i64 L] w fun r w'=>Q8g g D1 (qOf f q) (Rd f q) f L r w'/\Below w.heap.size w w':=by
  have K0:=hid (Blk.new w #[.int .i64 0,.int .i64 0,.slice none 0 0] 64);have B0:=hid (Qa w (.cells #[.int .i64 0,.int .i64 0,.slice none 0 0] 64));have hL1':¬ (L:Int)<1:=by omega
  have hLN1:1<=(L:Int):=by omega
  have PW:=P.next hb;have HTryz:=hid (Cc (PW.next B0.out) f);have HQ:Hid (∀ e∈qOf f q,OkQ n e):=hid (fun e he=>P.okq e (Nw e he));have hql:=Cf f q;have hl:=P.len;have hex:=P.ex;have hlo:=P.lo;have hhi:=P.hi
  have HPA:=hid (fun(wx:World) (hx:Below w.heap.size w wx)=>PW.next hx);have HOK:=hid hok;have HTO:=P.tot;have HVB:=P.vb;have HDN:=P.dn
  clear hok;unfold Q5y at HTryz;obtain⟨Q,hQ⟩:∃ Q,qOf f q=Q:=⟨_,rfl⟩;rw[hQ]at HTryz HQ HOK hql ⊢;obtain⟨is,his⟩:∃ is,Rd f q=is:=⟨_,rfl⟩;rw[his]at HTryz ⊢;clear hQ his;have HPR:Hid (∀ k,k<=Q.length->Qm (Qf (D1.run 0 (Q.take k)))<=1152921504606846976):=fun k hk=>Qhy D1 _ HTO (by rw[List.length_take];omega)
  obtain⟨D0,hD0⟩:∃ D0,D1=D0:=⟨_,rfl⟩;have HD0:Hid (D0.n=n/\D0.exec+q.length<200/\D0.VB):=hid (by rw[<- hD0];exact⟨HDN,hex,HVB⟩);rw[hD0]at HTryz HPR HOK ⊢;clear hD0 HTO HVB HDN P PW hex;have HF0:Hid (Gd g D0 Q L=Uw g D0 Q L (Q.length+1-0) 0):=rfl;have HFM:=hid (fun k mm=>Ay g (D0:=D0) (q:=Q) (limit:=L) (m:=mm) (k:=k));have HFB:=hid (fun k mm x=>Iz g (D0:=D0) (q:=Q) (limit:=L) (m:=mm) (k:=k) (n:=x));have HFN:=hid (fun k mm=>Az g (D0:=D0) (q:=Q) (limit:=L) (m:=mm) (k:=k));have HRV:Hid (∀ k,(D0.run 0 (Q.take k)).VB/\(D0.run 0 (Q.take k)).exec<200/\(D0.run 0 (Q.take k)).n=n):=fun k=>by
   have h1:=D0.run_exec 0 (Q.take k);have h2:=List.length_take_le' k Q;have h3:=HD0.out.2.1;refine⟨Dev.VB.run _ HD0.out.2.2 0 (fun e he h1 => ?_),by omega,by rw[Pj];exact HD0.out.1⟩
   have:=HQ.out e (List.mem_of_mem_take he);exact⟨this.v0,this.v1⟩
  obtain⟨res,hres⟩:∃ res,Gd g D0 Q L=res:=⟨_,rfl⟩;have HRS:=hid hres;rw[hres]at HF0;clear hres;obtain⟨M,hM⟩:∃ M,Q.length=M:=⟨_,rfl⟩;have HM:=hid hM;rw[hM]at HTryz hql HPR HF0 HFB HFN HOK;clear hM
  go_enter func22,ntmps22
  go_wp2_with fail
  (with_reducible refine HTryz.out.mono ?_)
  rintro r w1 ⟨⟨hi1,rfl⟩ | ⟨hi1,v,own,sv,rfl,d1,r1,o1,s1⟩,b1⟩
  ·subst hi1
   have K1:=hid (K0.out.below b1);have B1:=hid (B0.out.trans (b1.mono B0.out.size));have r0:=K1.out.cell (i:=0) rfl;have r1:=K1.out.cell (i:=1) rfl;have r2:=K1.out.cell (i:=2) rfl
   have f0:=K1.out.frozen 0;have f1:=K1.out.frozen 1;have f2:=K1.out.frozen 2
   clear b1;go_wp2_with fail
   refine bodyPost_ret (v:=.tuple #[.agg #[.int .i64 0,.int .i64 0,.slice none 0 0],.bool false,.int .i64 2]) (by simp[results,results22,go_sem,r0,r1,r2]) rfl ⟨.inl ⟨rfl,rfl⟩,?_⟩
   exact Yd B1.out (Nat.le_refl _) _ _ _
  ·subst hi1
   obtain⟨sa,sc,hsv⟩:∃ sa sc,sv = .slice sa M sc:=by obtain⟨_,a,c,e,_,_⟩:=r1;exact⟨a,c,e⟩
   subst hsv;have hMc:M<=sc:=by obtain⟨_,_,_,e,h1,_⟩:=r1;cases e;exact h1
   have BB:=hid (B0.out.trans (b1.mono B0.out.size));have S1:Hid (FiS w v own D0 Q w1 w.heap.size #[.int .i64 0,.int .i64 0,.slice none 0 0] 64 0 w1):=hid (FiS.start d1 (K0.out.below b1) BB.out (fun j hj=>by have:=o1 j hj;rw[World.size_alloc]at this;omega) (Nat.le_refl _));have R1:=hid r1;have S2:=hid s1
   clear d1 r1 o1 s1 b1 K0 B0 HTryz;go_wp2_with fail
   go_loopw [14] (fun y wr=>∃ k:Nat,k<=M/\y = .int .i64 k/\FiS w v own D0 Q w1 w.heap.size #[.int .i64 0,.int .i64 0,.slice none 0 0] 64 k wr/\res=Uw g D0 Q L (M+1-k) k) (fun y _=>M-(intOf y).toNat)
   case atStart=>exact⟨0,by omega,rfl,S1.out,HF0.out⟩
   case round=>
    clear S1 HF0;obtain⟨k,hk,rfl,hst,hr⟩:=hrel;rename World=>wr
    obtain⟨own1,d1,o1,u1⟩:=hst.post;have S:=hid hst;have D1:=hid d1;have O1:=hid o1;have U1:=hid u1;have HR:=hid hr
    clear hst d1 o1 u1 hr;obtain⟨hv1,hx1,hn1⟩:=HRV.out k;have hpr:=HPR.out k hk;obtain⟨eb,heb⟩:∃ eb,((k:Int)==(M:Int))=eb:=⟨_,rfl⟩;have hde:decide (k=M)=eb:=by
     rw[<- heb]
     by_cases hkm:k=M
     ·subst hkm;simp
     ·have:¬ (k:Int)=(M:Int):=by omega
      simp[hkm,this]
    have hmk:M+1-k=M-k+1:=by omega
    have HFM1:=hid (HFM.out k (M-k));have HFB1:=hid (HFB.out k (M-k));have HFN1:=hid (HFN.out k (M-k));rw[hmk]at HR;rw[<- HR.out]at HFM1 HFB1 HFN1;rw[hde]at HFB1 HFN1;have HIN:=hid (Qsp (HPA.out wr S.out.bel) D1.out hn1 hv1 (by omega) (fun i hi=>HOK.out k hk i hi) hpr eb L (by omega));have HCH:=hid (fun(wx:World) (hb:Below wr.heap.size wr wx) (i:Nat) (hi:i<Qm (Qf (D0.run 0 (Q.take k))))=>Lw (D1.out.kept hb.size (fun k hk=>hb.block k (D1.out.lt k hk))) hv1 (by omega) i hi (by omega));have HEB:=hid hde;clear HR hde hmk hv1 hx1 hn1 hpr;go_wp2_with fail
    (with_reducible refine HIN.out.mono ?_)
    rintro r w2 ⟨⟨hLP,rfl⟩ | ⟨hLP,i,hbi,hip,rfl⟩ | ⟨hLP,hbn,rfl⟩,b2⟩
    ·have K2:=hid (S.out.res.below b2)
     have B2:=hid (S.out.bel.trans (b2.mono S.out.bel.size));have e:=HFM1.out hLP;subst e;have HRS2:=HRS.out;have r0:=K2.out.cell (i:=0) rfl;have r1:=K2.out.cell (i:=1) rfl;have r2:=K2.out.cell (i:=2) rfl
     have f0:=K2.out.frozen 0;have f1:=K2.out.frozen 1;have f2:=K2.out.frozen 2
     clear b2;go_wp2_with fail
     refine bodyPost_ret (v:=.tuple #[.agg #[.int .i64 0,.int .i64 0,.slice none 0 0],.bool false,.int .i64 9]) (by simp[results,results22,go_sem,r0,r1,r2]) rfl ⟨.inr (.inl ⟨rfl,by rw[HRS2],rfl⟩),?_⟩
     exact Yd B2.out (Nat.le_refl _) _ _ _
    ·have e:=HFB1.out i hLP hbi
     subst e;have HRS2:=hid HRS.out;have B2:=hid b2;have HC1:=hid (HCH.out w2 b2 i hip);clear b2 HCH HFM1 HFB1 HFN1;obtain⟨DD,hDD⟩:∃ DD,D0.run 0 (Q.take k)=DD:=⟨_,rfl⟩;have HDD:=hid hDD;rw[hDD]at HC1 hip;obtain⟨dm,hdm⟩:∃ dm,DD.dirtyL.length=dm:=⟨_,rfl⟩;have HDM:=hid hdm;rw[hdm]at HC1;clear hDD hdm;go_wp2_with fail
     (with_reducible refine HC1.out.mono ?_)
     rintro r w3 ⟨g,rfl,rg,hg,b3⟩;have K3:=hid ((S.out.res.below B2.out).below b3);have B3:=hid ((S.out.bel.trans (B2.out.mono S.out.bel.size)).trans (b3.mono (Nat.le_trans S.out.bel.size B2.out.size)));have RG:=hid rg;have hgl:=rg;have r0:=K3.out.cell (i:=0) rfl;have r1:=K3.out.cell (i:=1) rfl;have r2:=K3.out.cell (i:=2) rfl
     have f0:=K3.out.frozen 0;have f1:=K3.out.frozen 1;have f2:=K3.out.frozen 2
     have HGG:Hid (w.heap.size<g):=hid (by have h1:=S.out.bel.size;have h2:=B2.out.size;have h3:=S.out.sz;have h4:=S.out.res.lt;omega);clear rg hg b3 hgl;go_wp2_with fail
     refine bodyPost_ret (v:=.tuple #[.agg #[.int .i64 f,.int .i64 k,.slice (some ⟨g,0,none⟩) dm dm],.bool true,.int .i64 0]) (by simp[results,results22,go_sem,r0,r1,r2]) rfl ⟨.inr (.inr (.inr ⟨rfl,k,i,g,HRS2.out,by rw[HM.out];exact hk,by rw[HDD.out];exact hip,by rw[HDD.out,HDM.out],?_⟩)),?_⟩
     ·rw[HDD.out,HDM.out]
      have hne:g≠w.heap.size:=by have:=HGG.out;omega
      exact((RG.out.other (a:=⟨w.heap.size,0,none⟩) hne _).other (a:=⟨w.heap.size,1,none⟩) hne _).other (a:=⟨w.heap.size,2,none⟩) hne _
     ·exact Yd B3.out (Nat.le_refl _) _ _ _
    ·have e:=HFN1.out hLP hbn
     have HE:=hid e;have S2':=hid (S.out.next b2);clear e HFM1 HFB1 HFN1 HCH
     by_cases hkM:k=M
     ·have hebt:eb=true:=by rw[<- HEB.out,decide_eq_true hkM]
      subst hebt;have K2:=hid S2'.out.res;have r0:=K2.out.cell (i:=0) rfl;have r1:=K2.out.cell (i:=1) rfl;have r2:=K2.out.cell (i:=2) rfl
      have f0:=K2.out.frozen 0;have f1:=K2.out.frozen 1;have f2:=K2.out.frozen 2
      have e:=HE.out;rw[show M-k=0 by omega]at e;subst e;have HRS2:=HRS.out;clear b2;go_wp2_with fail
      refine bodyPost_ret (v:=.tuple #[.agg #[.int .i64 0,.int .i64 0,.slice none 0 0],.bool false,.int .i64 0]) (by simp[results,results22,go_sem,r0,r1,r2]) rfl ⟨.inr (.inr (.inl ⟨rfl,by rw[HRS2];rfl,rfl⟩)),?_⟩
      exact Yd S2'.out.bel (Nat.le_refl _) _ _ _
     ·have hebf:eb=false:=by rw[<- HEB.out,decide_eq_false hkM]
      subst hebf;have D2:=hid (D1.out.kept b2.size (fun k hk=>b2.block k (D1.out.lt k hk)));have U2:=hid (U1.out.trans (Upd.of_below (S:=fun j=>own j≠none) b2) (fun _ _ h=>h));clear b2;obtain⟨e,hge⟩:∃ e,Q[k]? = some e:=⟨_,List.getElem?_eq_getElem (by rw[HM.out];omega)⟩;have hkM':k<M:=by omega
      obtain⟨_,a',c',e',_,hE⟩:=R1.out.upd U2.out (fun g hg=>by simpa using S2.out g hg)
      cases e'
      have hg:=Yf Q k e hge;obtain⟨fb,fo,rfl,hE2⟩:=Zr hE hg.1;have q1:=hE2 _ _ hg.1;have q2:=hE2 _ _ hg.2.1;have q3:=hE2 _ _ hg.2.2
      have hok:=HQ.out e (List.mem_of_getElem? hge);have hone:Ql w2 3 (.slice (some ⟨fb,fo+k*3,none⟩) 1 (sc-k)) 1 (Qd [e]):=by
       refine⟨rfl,_,_,rfl,by omega,.inr ⟨fb,fo+k*3,rfl,fun j u hu => ?_⟩⟩
       have hj:j<3:=by
        rcases Nat.lt_or_ge j 3 with h | h
        ·exact h
        ·rw[List.getElem?_eq_none (by simp[Qd];omega)]at hu;cases hu
       obtain rfl | rfl | rfl:j=0\/j=1\/j=2:=by omega
       ·cases hu;exact q1
       ·cases hu;rw[Nat.add_assoc];exact q2
       ·cases hu;rw[Nat.add_assoc];exact q3
      have hofb:own1 fb=none:=by
       have h1:=S2.out fb rfl;have h2:fb<w1.heap.size:=by
        have hrr:=R1.out;obtain⟨_,a2,c2,e2,_,hE3⟩:=hrr
        cases e2
        obtain⟨b3,o3,e3,hE4⟩:=Zr hE3 hg.1
        cases e3
        exact World.block_lt_of_cell? _ _ (hE4 _ _ hg.1)
       rw[O1.out fb h2];exact h1
      have HRUN:=hid (Km (w:=w2.drew) (v:=v) (own:=own1) (D:=D0.run 0 (Q.take k)) (j:=0) D2.out.drew (by omega) (.slice (some ⟨fb,fo+k*3,none⟩) 1 (sc-k)) [e] hone.drew (fun g hg=>by simp[Value.ownBlock]at hg;subst hg;exact hofb) (fun x hx=>by
       rw[List.mem_singleton]at hx;subst hx;exact⟨hok.lo,hok.hi,by have:=hok.lt;omega⟩) (by simp) (by have:=(HRV.out k).2.1;show _+1<_;omega))
      have HSR:=hid (fun(wz:World) (hp:Qr v own1 w2.drew ((D0.run 0 (Q.take k)).run 0 [e]) wz)=>FiS.run (w:=w) (wr:=w2) S2'.out O1.out U2.out hge (by obtain⟨o9,d9,e9,u9⟩:=hp;exact⟨o9,d9,e9,⟨u9.os,u9.tape,u9.output,u9.size,u9.block⟩⟩));have HTH:=hid (Xa D2.out.drew);have hkc:(k:Int)+1<=sc:=by omega
      have hek:¬ (k:Int)=(M:Int):=by omega
      obtain⟨ek,hek2⟩:∃ ek,((D0.run 0 (Q.take k)).run 0 [e]).err 0=ek:=⟨_,rfl⟩;rw[hek2]at HRUN;have hck:¬ sc=k:=by omega
      have gk1:IntKind.i64.wrap ((k:Int)+1)=(k:Int)+1:=IntWalk.i64_in _ (by omega);have hsl1:=fun wx=>Fh fb fo M sc k (by omega) wx
      have hsl2:=fun wx=>Gb fb fo M sc k (by omega) wx
      clear hE hE2 hge hg q1 q2 q3 hone hofb hek2 D1 D2 U1 U2;go_wp2_with fail
      go_region_with (first | (go_at_call 11;(with_reducible refine HTH.out.mono ?_);rintro e w' ⟨rfl,rfl⟩) | (go_at_call 12;(with_reducible refine HRUN.out.mono ?_);rintro e w3 ⟨rfl,hp⟩;have S3:=hid (HSR.out _ hp);clear hp))
      all_goals
       have hm2:M-k=M+1-(k+1):=by omega
       have HE2:=hid HE.out;rw[hm2]at HE2;go_wp2_with fail
       go_roundw
       case rel=>exact⟨k+1,by omega,by go_num,S3.out,HE2.out⟩
       case measure=>simp[intOf];omega
end
end

section
open Go.Maps
attribute [local go_sem ↓] Go.wp_at_zero Go.wp_at_succ
section
variable{w wb:World}{v:DV}{own:Nat->Option Qp}{D D1:Dev}{a n:Nat}{q:List (Nat×Nat×Int)}{ok:(Nat->Int)->Prop}{g:(Nat->Int)->Bool->Bool}
theorem Qje(P:SyP wb a n D1 q ok g)(hb:Below wb.heap.size wb w)(L:Nat)(hL0:1<=L)(hL:L<=9223372036854775807)
  (hok:∀ k,k<=q.length->∀ i,i<Qm (Qf (D1.run 0 (q.take k)))->ok (Vy (D1.run 0 (q.take k)) i)) :
  Calls prog 8 #[(.iface 160 (.pointer (some ⟨a,0,none⟩))),.int .i64 n,.int .i64 L] w fun r w'=>Qup (Gd g D1 q L).2.2 r/\Below w.heap.size w w':=by
 have e1:qOf (-1) q=q:=by simp[qOf]
 have e2:Rd (-1) q=true:=by simp[Rd]
 have HF:=hid (Qcn P hb (-1) L hL0 hL (by rw[e1];exact hok));unfold Q8g at HF;rw[e1,e2]at HF;clear hok P hL0 hL e1 e2
 go_enter func8,ntmps8
 go_wp2_with fail
 (with_reducible refine HF.out.mono ?_)
 rintro r w1 ⟨hp,b1⟩;have B1:=hid b1;clear b1 HF
 rcases hp with ⟨h1,_⟩ | ⟨_,h2,rfl⟩ | ⟨_,h2,rfl⟩ | ⟨_,k,i,gb,h2,_,_,rfl,_⟩
 ·cases h1
 ·have X:=hid h2
  clear h2;go_wp2_with fail
  go_ret2
  exact⟨.inl ⟨X.out,rfl⟩,B1.out.trans ((Qa _ _).mono B1.out.size)⟩
 ·have X:=hid h2
  clear h2;go_wp2_with fail
  go_ret2
  exact⟨.inr ⟨by rw[X.out];decide,by rw[X.out];rfl⟩,B1.out.trans ((Qa _ _).mono B1.out.size)⟩
 ·have X:Hid ((Gd g D1 q L).2.2=0):=by show(Gd g D1 q L).2.2=0;rw[h2]
  clear h2;go_wp2_with fail
  go_ret2
  exact⟨.inr ⟨by rw[X.out];decide,by rw[X.out];rfl⟩,B1.out.trans ((Qa _ _).mono B1.out.size)⟩
theorem Q1a{D:Dev}{cs:List Int}{ks:Nat->Nat}(h:∀ i l:Nat,D.dirtyL[i]? = some l->ks l=chD D cs i l)(i:Nat)(hi:i<8*D.n):D.img ks i=D.img (chK D cs) i:=by
 unfold Dev.img
 by_cases hh:D.hist (i/8) = []
 ·rw[hh,List.take_nil,List.take_nil]
 ·have hm:=(Gq D (i/8)).2 ⟨by omega,hh⟩
  have hlt:=List.idxOf_lt_length_iff.2 hm;have he:D.dirtyL[D.dirtyL.idxOf (i/8)]? = some (i/8):=by rw[List.getElem?_eq_getElem hlt,List.getElem_idxOf hlt]
  rw[h _ _ he]
  rfl
def Q9l(g:(Nat->Int)->Bool->Bool)(D0:Dev)(Q:List (Nat×Nat×Int))(is:Bool)(k:Int)(cs:List Int)(r:Ending):Prop:=
 ((is=false\/k<0\/(Q.length:Int)<k)/\r = .returned (.tuple #[.bool false,.int .i64 2])) \/
 (is=true/\∃ kn:Nat,k=kn/\kn<=Q.length/\r = .returned (.tuple #[.bool (!g ((D0.run 0 (Q.take kn)).img (chK (D0.run 0 (Q.take kn)) cs)) (decide (kn=Q.length))),.int .i64 0]))
theorem Qcc(P:SyP wb a n D1 q ok g)(hb:Below wb.heap.size wb w)(f k:Int)
  (cv:Value) (cs:List Int) (hc:Ql w 1 cv cs.length (cs.map fun x => .int .u8 x)) (hcb:∀ x∈cs,0<=x/\x<256) (hcl:cs.length<=1000000)
  (hok:∀ kn:Nat,kn<=(qOf f q).length->k=kn->ok (D1.run 0 ((qOf f q).take kn) |>.img (chK (D1.run 0 ((qOf f q).take kn)) cs))) :
  Calls prog 23 #[(.iface 160 (.pointer (some ⟨a,0,none⟩))),.int .i64 n,.agg #[.int .i64 f,.int .i64 k,cv]] w fun r w'=>Q9l g D1 (qOf f q) (Rd f q) k cs r/\Below w.heap.size w w':=by
 have PW:=P.next hb;obtain⟨ca,cc,hcv⟩:∃ ca cc,cv = .slice ca cs.length cc:=by obtain⟨_,a,c,e,_,_⟩:=hc;exact⟨a,c,e⟩
 subst hcv;have HC:=hid hc;have HCB:=hid hcb
 obtain⟨cm,hcm⟩:∃ cm,cs.length=cm:=⟨_,rfl⟩;have HCM:=hid hcm;rw[hcm]at HC hcl ⊢;have K0:=hid (Blk.new w #[.int .i64 f,.int .i64 k,.slice ca cm cc] 64);have B0:=hid (Qa w (.cells #[.int .i64 f,.int .i64 k,.slice ca cm cc] 64));have HTryz:=hid (Cc (PW.next B0.out) f);have HQ:Hid (∀ e∈qOf f q,OkQ n e):=hid (fun e he=>P.okq e (Nw e he));have hql:=Cf f q;have hl:=P.len;have hex:=P.ex;have hlo:=P.lo;have hn:=P.hi;have HPA:=hid PW;have HOK:=hid hok;have HVB:=P.vb;have HDN:=P.dn
 clear hok hc hcb hcm;unfold Q5y at HTryz;obtain⟨Q,hQ⟩:∃ Q,qOf f q=Q:=⟨_,rfl⟩;rw[hQ]at HTryz HQ HOK hql ⊢;obtain⟨is,his⟩:∃ is,Rd f q=is:=⟨_,rfl⟩;rw[his]at HTryz ⊢;clear hQ his;obtain⟨D0,hD0⟩:∃ D0,D1=D0:=⟨_,rfl⟩;have HD0:Hid (D0.n=n/\D0.exec+q.length<200/\D0.VB):=hid (by rw[<- hD0];exact⟨HDN,hex,HVB⟩);rw[hD0]at HTryz HOK ⊢;clear hD0 HVB HDN P PW hex;have HRV:Hid (∀ k,(D0.run 0 (Q.take k)).VB/\(D0.run 0 (Q.take k)).exec<200/\(D0.run 0 (Q.take k)).n=n):=fun k=>by
  have h1:=D0.run_exec 0 (Q.take k);have h2:=List.length_take_le' k Q;have h3:=HD0.out.2.1;refine⟨Dev.VB.run _ HD0.out.2.2 0 (fun e he h1 => ?_),by omega,by rw[Pj];exact HD0.out.1⟩
  have:=HQ.out e (List.mem_of_mem_take he);exact⟨this.v0,this.v1⟩
 have hmg:=Wr ⟨a,0,none⟩;obtain⟨M,hM⟩:∃ M,Q.length=M:=⟨_,rfl⟩;have HM:=hid hM;rw[hM]at HTryz hql HOK;clear hM
 go_enter func23,ntmps23
 go_wp2_with fail
 (with_reducible refine HTryz.out.mono ?_)
 rintro r w1 ⟨⟨hi1,rfl⟩ | ⟨hi1,v,own,sv,rfl,d1,r1,o1,s1⟩,b1⟩
 ·subst hi1
  have B1:=hid (B0.out.trans (b1.mono B0.out.size));clear b1;go_wp2_with fail
  go_ret2
  exact⟨.inl ⟨.inl rfl,rfl⟩,B1.out⟩
 ·subst hi1
  obtain⟨sa,sc,hsv⟩:∃ sa sc,sv = .slice sa M sc:=by obtain⟨_,a,c,e,_,_⟩:=r1;exact⟨a,c,e⟩
  subst hsv;have hMc:M<=sc:=by obtain⟨_,_,_,e,h1,_⟩:=r1;cases e;exact h1
  have BB:=hid (B0.out.trans (b1.mono B0.out.size));have K1:=hid (K0.out.below b1);have S1:Hid (FiS w v own D0 Q w1 w.heap.size #[.int .i64 f,.int .i64 k,.slice ca cm cc] 64 0 w1):=hid (FiS.start d1 K1.out BB.out (fun j hj=>by have:=o1 j hj;rw[World.size_alloc]at this;omega) (Nat.le_refl _));have R1:=hid r1;have S2:=hid s1
  have e0:=K1.out.cell (i:=0) rfl;have e1:=K1.out.cell (i:=1) rfl;have e2:=K1.out.cell (i:=2) rfl;clear d1 r1 o1 s1 b1 K0 B0 HTryz
  by_cases hk0:k<0
  ·go_wp2_with fail
   go_ret2
   exact⟨.inl ⟨.inr (.inl hk0),rfl⟩,BB.out⟩
  ·by_cases hkM:(M:Int)<k
   ·go_wp2_with fail
    go_ret2
    exact⟨.inl ⟨.inr (.inr (by rw[HM.out];exact hkM)),rfl⟩,BB.out⟩
   ·obtain⟨kn,rfl⟩:∃ kn:Nat,k=kn:=⟨k.toNat,by omega⟩
    have hknM:kn<=M:=by omega
    have hkM2:¬ M<kn:=by omega
    have hk02:¬ (kn:Int)<0:=by omega
    have hk03:decide ((kn:Int)<0)=false:=by simp
    have hk04:decide (M<kn)=false:=by simp;omega
    go_wp2_with fail
    go_loopw [11,37] (fun _ y wr=>∃ i:Nat,i<=kn/\y = .int .i64 i/\FiS w v own D0 Q w1 w.heap.size #[.int .i64 f,.int .i64 kn,.slice ca cm cc] 64 i wr) (fun _ y _=>kn-(intOf y).toNat)
    case atStart=>exact⟨0,by omega,rfl,S1.out⟩
    case round=>
     clear S1 e0 e1 e2;obtain⟨i,hi,rfl,hst⟩:=hrel;rename World=>wr
     obtain⟨own1,d1,o1,u1⟩:=hst.post;have S:=hid hst;have D1:=hid d1;have O1:=hid o1;have U1:=hid u1
     clear hst d1 o1 u1
     by_cases hik:i<kn
     ·have hik':(i:Int)<kn:=by omega
      have hiM:i<M:=by omega
      obtain⟨e,hge⟩:∃ e,Q[i]? = some e:=⟨_,List.getElem?_eq_getElem (by rw[HM.out];exact hiM)⟩;obtain⟨_,a',c',e',_,hE⟩:=R1.out.upd U1.out (fun g hg=>by simpa using S2.out g hg)
      cases e'
      have hg:=Yf Q i e hge;obtain⟨fb,fo,rfl,hE2⟩:=Zr hE hg.1;have q1:=hE2 _ _ hg.1;have q2:=hE2 _ _ hg.2.1;have q3:=hE2 _ _ hg.2.2
      have hok:=HQ.out e (List.mem_of_getElem? hge);have hone:Ql wr 3 (.slice (some ⟨fb,fo+i*3,none⟩) 1 (sc-i)) 1 (Qd [e]):=by
       refine⟨rfl,_,_,rfl,by omega,.inr ⟨fb,fo+i*3,rfl,fun j u hu => ?_⟩⟩
       have hj:j<3:=by
        rcases Nat.lt_or_ge j 3 with h | h
        ·exact h
        ·rw[List.getElem?_eq_none (by simp[Qd];omega)]at hu;cases hu
       obtain rfl | rfl | rfl:j=0\/j=1\/j=2:=by omega
       ·cases hu;exact q1
       ·cases hu;rw[Nat.add_assoc];exact q2
       ·cases hu;rw[Nat.add_assoc];exact q3
      have hofb:own1 fb=none:=by
       have h1:=S2.out fb rfl;have h2:fb<w1.heap.size:=by
        have hrr:=R1.out;obtain⟨_,a2,c2,e2,_,hE3⟩:=hrr
        cases e2
        obtain⟨b3,o3,e3,hE4⟩:=Zr hE3 hg.1
        cases e3
        exact World.block_lt_of_cell? _ _ (hE4 _ _ hg.1)
       rw[O1.out fb h2];exact h1
      have HRUN:=hid (Km (w:=wr.drew) (v:=v) (own:=own1) (D:=D0.run 0 (Q.take i)) (j:=0) D1.out.drew (by omega) (.slice (some ⟨fb,fo+i*3,none⟩) 1 (sc-i)) [e] hone.drew (fun g hg=>by simp[Value.ownBlock]at hg;subst hg;exact hofb) (fun x hx=>by
       rw[List.mem_singleton]at hx;subst hx;exact⟨hok.lo,hok.hi,by have:=hok.lt;omega⟩) (by simp) (by have:=(HRV.out i).2.1;show _+1<_;omega))
      have HSR:=hid (fun(wz:World) (hp:Qr v own1 wr.drew ((D0.run 0 (Q.take i)).run 0 [e]) wz)=>FiS.run (w:=w) (wr:=wr) S.out O1.out U1.out hge (by obtain⟨o9,d9,e9,u9⟩:=hp;exact⟨o9,d9,e9,⟨u9.os,u9.tape,u9.output,u9.size,u9.block⟩⟩));have HTH:=hid (Xa D1.out.drew);have hkc:(i:Int)+1<=sc:=by omega
      obtain⟨ek,hek2⟩:∃ ek,((D0.run 0 (Q.take i)).run 0 [e]).err 0=ek:=⟨_,rfl⟩;rw[hek2]at HRUN;have hck:¬ sc=i:=by omega
      have gk1:IntKind.i64.wrap ((i:Int)+1)=(i:Int)+1:=IntWalk.i64_in _ (by omega);have hsl1:=fun wx=>Fh fb fo M sc i (by omega) wx
      have hsl2:=fun wx=>Gb fb fo M sc i (by omega) wx
      clear hE hE2 hge hg q1 q2 q3 hone hofb hek2 D1 U1;go_wp2_with fail
      go_region_with (first | (go_at_call 11;(with_reducible refine HTH.out.mono ?_);rintro e w' ⟨rfl,rfl⟩) | (go_at_call 12;(with_reducible refine HRUN.out.mono ?_);rintro e w3 ⟨rfl,hp⟩;have S3:=hid (HSR.out _ hp);clear hp))
      all_goals
       go_wp2_with fail
       go_roundw
       case rel=>exact⟨i+1,by omega,by go_num,S3.out⟩
       case measure=>simp[intOf];omega
     ·obtain rfl:i=kn:=by omega
      obtain⟨hv1,hx1,hn1⟩:=HRV.out i;have KR:=hid S.out.res;have k1:=KR.out.cell (i:=1) (v:=.int .i64 i) rfl;have k2:=KR.out.cell (i:=2) (v:=.slice ca cm cc) rfl;have HIM:=hid (Nj D1.out hv1 (.slice ca cm cc) cs (by rw[HCM.out];exact HC.out.below S.out.bel) HCB.out (by rw[HCM.out];unfold maxLen;omega) (by omega));have HVI:=hid hv1;have HFR:=hid (fun(wx:World) (g:Nat) (ks:Nat->Nat) (hr:Row wx g (64*n) 5 (fun j => .int .u8 (Qq ((D0.run 0 (Q.take i)).img ks) j)))=>Wf (w:=wx) (.slice (some ⟨g,0,none⟩) (64*n) (64*n)) n (Qq ((D0.run 0 (Q.take i)).img ks)) (Qeu hr) (by omega) hn (fun j _=>by
       unfold Qq;exact⟨Int.emod_nonneg _ (by omega),Int.emod_lt_of_pos _ (by omega)⟩))
      obtain⟨eb,heb⟩:∃ eb,((i:Int)==(M:Int))=eb:=⟨_,rfl⟩;have HDE:Hid (decide (i=M)=eb):=by
       show decide (i=M)=eb
       rw[<- heb]
       by_cases hkm:i=M
       ·subst hkm;simp
       ·have:¬ (i:Int)=(M:Int):=by omega
        simp[hkm,this]
      have HGD:=hid (fun(wx:World) (hx:Below w.heap.size w wx) (v2:DV) (own2:Nat->Option Qp) (F:Nat->Int) (B:Nat)=>HPA.out.good wx v2 own2 (Dev.fresh n F) 0 F B eb hx);have HOK1:=hid (HOK.out i hknM rfl);have HIW:=hid (fun(ks:Nat->Nat) (hk:∀ j l:Nat,(D0.run 0 (Q.take i)).dirtyL[j]? = some l->ks l=chD (D0.run 0 (Q.take i)) cs j l)=>Q1a hk);unfold Ih at HIM;rw[hn1]at HIM;obtain⟨DD,hDD⟩:∃ DD,D0.run 0 (Q.take i)=DD:=⟨_,rfl⟩;have HDD:=hid hDD;rw[hDD]at HIM HVI HFR HIW HOK1;have HDN1:Hid (DD.n=n):=hid (by rw[<- HDD.out];exact hn1);clear hDD hv1 hx1 hn1 D1 U1;go_wp2_with fail
      (with_reducible refine HIM.out.mono ?_)
      rintro r w2 ⟨ks,gz,z1,z2,rfl,z3,b2⟩;have Z1:=hid z1.2;have B2:=hid (S.out.bel.trans (b2.mono S.out.bel.size));have K2:=hid (KR.out.below b2);have HFR1:=hid (HFR.out w2 gz ks z3);clear z1 z2 z3 b2 k1 k2 HIM HFR;go_wp2_with fail
      (with_reducible refine HFR1.out.mono ?_)
      rintro r w3 ⟨v2,own2,rfl,d2,o2,b3⟩;have D2:=hid ((d2.words (g:=DD.img ks) (fun j hj=>by
       have:=Vz (DD.img ks) (8*n) j hj (HVI.out.img ks j)
       rwa [show 8*(8*n)=64*n by omega]at this)).words (g:=DD.img (chK DD cs)) (fun j hj=>HIW.out ks Z1.out j (by rw[HDN1.out];exact hj)))
      have O2:=hid o2;have B3:=hid (B2.out.trans (b3.mono B2.out.size));have K3:=hid (K2.out.below b3);have k1:=K3.out.cell (i:=1) (v:=.int .i64 i) rfl;have HGD1:=hid (HGD.out w3 B3.out v2 own2 (DD.img (chK DD cs)) w.heap.size HOK1.out (Xz (fun j=>HVI.out.img _ j) 0 n) (by omega) D2.out (fun k hk=>Nat.le_trans B2.out.size (O2.out k hk)) (Nat.le_refl _) B3.out.size);obtain⟨gv,hgv⟩:∃ gv,g (DD.img (chK DD cs)) eb=gv:=⟨_,rfl⟩;have HGV:=hid hgv;rw[hgv]at HGD1;clear hgv d2 o2 b3 HFR1 HGD;go_wp2_with fail
      (with_reducible refine HGD1.out.mono ?_)
      rintro r w4 ⟨rfl,b4⟩;have B4:=hid (B3.out.trans b4);clear b4;go_wp2_with fail
      go_ret2
      refine⟨.inr ⟨rfl,i,rfl,by rw[HM.out];omega,?_⟩,B4.out⟩
      rw[HDD.out,HM.out,HDE.out,HGV.out]
      rfl
end
end

section
open Go.Maps
attribute [local go_sem ↓] Go.wp_at_zero Go.wp_at_succ
section
variable{w wb:World}{a n:Nat}{sp q:List (Nat×Nat×Int)}{C:Nat->Int}{ok:(Nat->Int)->Prop}{g g64:(Nat->Int)->Bool->Bool}{okB:(Nat->Int)->Bool}{fn:Nat}
structure SyR(w:World)(a n:Nat)(sp q:List (Nat×Nat×Int))(C:Nat->Int)(ok:(Nat->Int)->Prop)(g g64:(Nat->Int)->Bool->Bool)(okB:(Nat->Int)->Bool)(fn:Nat):Prop where
 P:SyP w a n ((Dev.fresh n (fun _=>0)).run 0 sp) q ok g
 ev:Ev q C g64 okB fn
 cl:∃ x,x<=100/\SCl ((Dev.fresh n (fun _=>0)).run 0 sp) 0 n C x
 okq:∀ e∈q,Qht e=true
 h:∀ F,Bd F->okB F=true->ok F/\∀ e,g F e=g64 F e
theorem SyR.next(R:SyR wb a n sp q C ok g g64 okB fn)(hb:Below wb.heap.size wb w):SyR w a n sp q C ok g g64 okB fn:=⟨R.P.next hb,R.ev,R.cl,R.okq,R.h⟩
theorem SyR.bd(R:SyR w a n sp q C ok g g64 okB fn):Bd C:=by
 obtain⟨x,_,S⟩:=R.cl;intro i;have:=S.vb.cur i;rw[S.cur]at this;exact this
theorem SyR.use(R:SyR w a n sp q C ok g g64 okB fn)(f:Int)(h1 : -1<=f)(h2:f<fn) :
  (∀ k,k<=(qOf f q).length->∀ i,i<Qm (Qf (((Dev.fresh n (fun _=>0)).run 0 sp).run 0 ((qOf f q).take k)))->ok (Vy (((Dev.fresh n (fun _=>0)).run 0 sp).run 0 ((qOf f q).take k)) i)) /\
  Gd g ((Dev.fresh n (fun _=>0)).run 0 sp) (qOf f q) 1000=Gd g64 (Dev.fresh 64 C) (qOf f q) 1000:=by
 obtain⟨x,_,S⟩:=R.cl;exact R.ev.use (S.sim R.P.lo) R.bd R.okq R.h f h1 h2
theorem SyR.holds(R:SyR w a n sp q C ok g g64 okB fn):(Gd g ((Dev.fresh n (fun _=>0)).run 0 sp) q 1000).2.2=1:=by
 have h:=(R.use (-1) (by omega) (by omega)).2;rw[show qOf (-1) q=q by simp[qOf]]at h;rw[h];exact R.ev.sys
theorem SyR.fence(R:SyR w a n sp q C ok g g64 okB fn)(f:Int)(h1:0<=f)(h2:f<fn):(Gd g ((Dev.fresh n (fun _=>0)).run 0 sp) (qOf f q) 1000).2.2=0:=by
 rw[(R.use f (by omega) h2).2];exact R.ev.bad f h1 h2
def fnL:Nat->Nat | 0=>1 | 1=>1 | 2=>4 | 3=>4 | 4=>2 | _=>2
structure SyL(w:World)(ad:Nat->Nat)(n:Nat):Prop where
 sb:SyR w (ad 0) n Ts sbQ sbC (fun _=>True) (gSb n) (gSb 64) Qx1 1
 rt:SyR w (ad 1) n Gg (Yt 128 (rtW Dq) [98] (ptV 2)) Dq (fun _=>True) gRt gRt (fun _=>true) 1
 rd:SyR w (ad 2) n Gf (Zb 640 (rdW 3 4)) rdC (fun _=>True) (gRd n) (gRd 64) Qtj 4
 ud:SyR w (ad 3) n Mj (udQ 3 4 (Ds 1 2 (fun _=>0))) udC (fun _=>True) (gUd n) (gUd 64) Qx2 4
 bk:SyR w (ad 4) n Tn bkQ bkC Qx0 gBk gBk Qdc 2
 lf:SyR w (ad 5) n Uk (Yu lfC 6 2) lfC Qv7 gLf gLf Qdd 2
theorem SyL.next{ad:Nat->Nat}(R:SyL wb ad n)(hb:Below wb.heap.size wb w):SyL w ad n:=⟨R.sb.next hb,R.rt.next hb,R.rd.next hb,R.ud.next hb,R.bk.next hb,R.lf.next hb⟩
theorem SyL.at{ad:Nat->Nat}(R:SyL w ad n){i:Nat}(hi:i<6):∃ sp q C ok g g64 okB,SyR w (ad i) n sp q C ok g g64 okB (fnL i):=by
 obtain rfl | rfl | rfl | rfl | rfl | rfl:i=0\/i=1\/i=2\/i=3\/i=4\/i=5:=by omega
 ·exact⟨_,_,_,_,_,_,_,R.sb⟩
 ·exact⟨_,_,_,_,_,_,_,R.rt⟩
 ·exact⟨_,_,_,_,_,_,_,R.rd⟩
 ·exact⟨_,_,_,_,_,_,_,R.ud⟩
 ·exact⟨_,_,_,_,_,_,_,R.bk⟩
 ·exact⟨_,_,_,_,_,_,_,R.lf⟩
theorem Ge(n:Nat):SCl (Dev.fresh n (fun _=>0)) 0 n (fun _=>0) 0:=Xz (f:=fun _=>0) (fun _=>by omega) 0 n
theorem sbR(P:∀ n,64<=n->n<=4096->SyP w a n ((Dev.fresh n (fun _=>0)).run 0 Ts) sbQ (fun _=>True) (gSb n))(hn:64<=n)(hn2:n<=4096):SyR w a n Ts sbQ sbC (fun _=>True) (gSb n) (gSb 64) Qx1 1:=
 ⟨P n hn hn2,Q9t,⟨_,by omega,Qbd (Ge n) hn⟩,Q2y,fun F _ h=>⟨trivial,fun e=>Q2a h hn e⟩⟩
theorem rtR(P:∀ n,64<=n->n<=4096->SyP w a n ((Dev.fresh n (fun _=>0)).run 0 Gg) (Yt 128 (rtW Dq) [98] (ptV 2)) (fun _=>True) gRt)(hn:64<=n)(hn2:n<=4096):SyR w a n Gg (Yt 128 (rtW Dq) [98] (ptV 2)) Dq (fun _=>True) gRt gRt (fun _=>true) 1:=
 ⟨P n hn hn2,Q9s,⟨_,by omega,Qa9 (Ge n) hn⟩,Q2u,fun F _ h=>⟨trivial,fun e=>rfl⟩⟩
theorem rdR(P:∀ n,64<=n->n<=4096->SyP w a n ((Dev.fresh n (fun _=>0)).run 0 Gf) (Zb 640 (rdW 3 4)) (fun _=>True) (gRd n))(hn:64<=n)(hn2:n<=4096):SyR w a n Gf (Zb 640 (rdW 3 4)) rdC (fun _=>True) (gRd n) (gRd 64) Qtj 4:=
 ⟨P n hn hn2,Q9r,⟨_,by omega,Qa4 (Ge n) hn⟩,Q2p,fun F _ h=>⟨trivial,fun e=>Q1z h hn e⟩⟩
theorem udR(P:∀ n,64<=n->n<=4096->SyP w a n ((Dev.fresh n (fun _=>0)).run 0 Mj) (udQ 3 4 (Ds 1 2 (fun _=>0))) (fun _=>True) (gUd n))(hn:64<=n)(hn2:n<=4096):SyR w a n Mj (udQ 3 4 (Ds 1 2 (fun _=>0))) udC (fun _=>True) (gUd n) (gUd 64) Qx2 4:=
 ⟨P n hn hn2,Q9u,⟨_,by omega,Cq (Ge n) hn 1 2 (by omega) (by omega)⟩,Q3l,fun F _ h=>⟨trivial,fun e=>Q2b h hn e⟩⟩
theorem bkR(P:∀ n,64<=n->n<=4096->SyP w a n ((Dev.fresh n (fun _=>0)).run 0 Tn) bkQ Qx0 gBk)(hn:64<=n)(hn2:n<=4096):SyR w a n Tn bkQ bkC Qx0 gBk gBk Qdc 2:=
 ⟨P n hn hn2,Q9p,⟨_,by omega,Io (Ge n) hn⟩,Q0k,fun F hF h=>⟨Qth hF h,fun e=>rfl⟩⟩
theorem lfR(P:∀ n,64<=n->n<=4096->SyP w a n ((Dev.fresh n (fun _=>0)).run 0 Uk) (Yu lfC 6 2) Qv7 gLf)(hn:64<=n)(hn2:n<=4096):SyR w a n Uk (Yu lfC 6 2) lfC Qv7 gLf gLf Qdd 2:=
 ⟨P n hn hn2,Q9q,⟨_,by rw[show Uk.length=33 by decide +kernel];omega,Qhk (Ge n) hn⟩,Qxm,fun F hF h=>⟨Qti h,fun e=>rfl⟩⟩
def syV(g:Nat):Value:=.iface 160 (.pointer (some ⟨g,0,none⟩))
theorem Wn(hN:Nib w)(h0:0<w.heap.size):Calls prog 7 #[] w fun r w'=>∃ (b:Nat) (ad:Nat->Nat),r = .returned (.slice (some ⟨b,0,none⟩) 6 6)/\Row w' b 6 23 (fun i=>syV (ad i))/\(∀ n,64<=n->n<=4096->SyL w' ad n)/\Below w.heap.size w w':=by
 have H0:=hid (fun(wx:World)=>Pq (w:=wx));have H1:=hid (fun(wx:World)=>Qjr (w:=wx));have H2:=hid (fun(wx:World)=>Qjq (w:=wx));have H3:=hid (fun(wx:World)=>Qjs (w:=wx));have H4:=hid (fun(wx:World)=>Qc8 (w:=wx));have H5:=hid (fun(wx:World)=>Qjp (w:=wx));have HN:=hid hN;have HZ:=hid h0
 clear hN h0;have B0:=hid (Below.refl w.heap.size w)
 go_enter func7,ntmps7
 go_wp2_with fail
 (with_reducible refine(H0.out _).mono ?_)
 rintro e w1 ⟨g1,x1,rfl,k1,y1,_,_,b1⟩;have B1:=hid (B0.out.trans (b1.mono B0.out.size));have P1:Hid (∀ n,64<=n->n<=4096->SyP w1 g1 n ((Dev.fresh n (fun _=>0)).run 0 Ts) sbQ (fun _=>True) (gSb n)):=hid (fun n h1 h2=>Zaj k1 y1 (HN.out.below B1.out) (Nat.lt_of_lt_of_le HZ.out B1.out.size) h1 h2);clear b1 k1 y1;go_wp2_with fail
 (with_reducible refine(H1.out _).mono ?_)
 rintro e w2 ⟨g2,x2,rfl,k2,y2,_,_,b2⟩;have B2:=hid (B1.out.trans (b2.mono B1.out.size));have T2:=hid b2;have P2:Hid (∀ n,64<=n->n<=4096->SyP w2 g2 n ((Dev.fresh n (fun _=>0)).run 0 Gg) (Yt 128 (rtW Dq) [98] (ptV 2)) (fun _=>True) gRt):=hid (fun n h1 h2=>Zai k2 y2 (HN.out.below B2.out) (Nat.lt_of_lt_of_le HZ.out B2.out.size) h1 h2);clear b2 k2 y2;go_wp2_with fail
 (with_reducible refine(H2.out _).mono ?_)
 rintro e w3 ⟨g3,x3,rfl,k3,y3,_,_,b3⟩;have B3:=hid (B2.out.trans (b3.mono B2.out.size));have T3:=hid b3;have P3:Hid (∀ n,64<=n->n<=4096->SyP w3 g3 n ((Dev.fresh n (fun _=>0)).run 0 Gf) (Zb 640 (rdW 3 4)) (fun _=>True) (gRd n)):=hid (fun n h1 h2=>Zah k3 y3 (HN.out.below B3.out) (Nat.lt_of_lt_of_le HZ.out B3.out.size) h1 h2);clear b3 k3 y3;go_wp2_with fail
 (with_reducible refine(H3.out _).mono ?_)
 rintro e w4 ⟨g4,x4,z4,rfl,k4,y4,_,q4,_,_,b4⟩;have B4:=hid (B3.out.trans (b4.mono B3.out.size));have T4:=hid b4;have P4:Hid (∀ n,64<=n->n<=4096->SyP w4 g4 n ((Dev.fresh n (fun _=>0)).run 0 Mj) (udQ 3 4 (Ds 1 2 (fun _=>0))) (fun _=>True) (gUd n)):=hid (fun n h1 h2=>Zak k4 q4 y4 h1 h2);clear b4 k4 y4 q4;go_wp2_with fail
 (with_reducible refine(H4.out _).mono ?_)
 rintro e w5 ⟨g5,rfl,k5,_,b5⟩;have B5:=hid (B4.out.trans (b5.mono B4.out.size));have T5:=hid b5;have P5:Hid (∀ n,64<=n->n<=4096->SyP w5 g5 n ((Dev.fresh n (fun _=>0)).run 0 Tn) bkQ Qx0 gBk):=hid (fun n h1 h2=>Zaf k5 h1 h2);clear b5 k5;go_wp2_with fail
 (with_reducible refine(H5.out _).mono ?_)
 rintro e w6 ⟨g6,x6,rfl,k6,y6,_,_,b6⟩;have B6:=hid (B5.out.trans (b6.mono B5.out.size));have T6:=hid b6;have P6:Hid (∀ n,64<=n->n<=4096->SyP w6 g6 n ((Dev.fresh n (fun _=>0)).run 0 Uk) (Yu lfC 6 2) Qv7 gLf):=hid (fun n h1 h2=>Zag k6 y6 h1 h2);clear b6 k6 y6
 all_goals
  go_wp2_with fail
  go_ret
  refine⟨_,fun i=>if i=0 then g1 else if i=1 then g2 else if i=2 then g3 else if i=3 then g4 else if i=4 then g5 else g6,rfl,⟨_,Blk.new _ _ _,fun i hi => ?_⟩,fun n hn hn2 => ?_,B6.out.trans ((Qa _ _).mono B6.out.size)⟩
  ·obtain rfl | rfl | rfl | rfl | rfl | rfl:i=0\/i=1\/i=2\/i=3\/i=4\/i=5:=by omega
   all_goals rfl
  ·have L6:=Qa w6 (.cells #[syV g1,syV g2,syV g3,syV g4,syV g5,syV g6] 23)
   have L5:=T6.out.trans (L6.mono T6.out.size);have L4:=T5.out.trans (L5.mono T5.out.size);have L3:=T4.out.trans (L4.mono T4.out.size);have L2:=T3.out.trans (L3.mono T3.out.size);have L1:=T2.out.trans (L2.mono T2.out.size);exact⟨(sbR P1.out hn hn2).next L1,(rtR P2.out hn hn2).next L2,(rdR P3.out hn hn2).next L3,(udR P4.out hn hn2).next L4,(bkR P5.out hn hn2).next L5,(lfR P6.out hn hn2).next L6⟩
end
end

section
open Go.Maps
attribute [local go_sem ↓] Go.wp_at_zero Go.wp_at_succ
abbrev q8:List (Nat×Nat×Int) := [(1,0,7),(1,128,7),(2,0,0),(2,128,0),(3,0,0),(1,64,1),(2,64,0),(3,0,0)]
theorem Q6p:(fnd (Dev.fresh 4 (fun _=>0)) (qOf 0 q8) 100).1=5/\(fnd (Dev.fresh 4 (fun _=>0)) (qOf 0 q8) 100).2.2=0:=⟨by kernel_rfl,by kernel_rfl⟩
theorem Q6q:(fnd (Dev.fresh 4 (fun _=>0)) q8 100).2.2=1:=by kernel_rfl
theorem is8:Rd 0 q8=true:=by kernel_rfl
theorem ok8:∀ e∈q8,OkQ 4 e:=by
 intro e he;simp only[q8,List.mem_cons,List.not_mem_nil,or_false]at he
 rcases he with rfl | rfl | rfl | rfl | rfl | rfl | rfl | rfl <;> exact⟨by decide,by decide,by decide,by decide,by decide,by decide⟩
theorem pl8:Mr q8:=by
 intro e he;simp only[q8,List.mem_cons,List.not_mem_nil,or_false]at he
 rcases he with rfl | rfl | rfl | rfl | rfl | rfl | rfl | rfl <;> exact⟨by decide,by decide⟩
section
variable{w:World}
theorem Im:Calls prog 9 #[] w fun r w'=>r = .returned (.bool true)/\Below w.heap.size w w':=by
 have R1:Hid (Ql (w.alloc (.cells #[.int .i64 0,.int .u64 0,.int .u64 7,.int .i64 0,.int .u64 128,.int .u64 7,.int .i64 1,.int .u64 0,.int .u64 0,.int .i64 1,.int .u64 128,.int .u64 0,.int .i64 2,.int .u64 0,.int .u64 0,.int .i64 0,.int .u64 64,.int .u64 1,.int .i64 1,.int .u64 64,.int .u64 0,.int .i64 2,.int .u64 0,.int .u64 0] 80)) 3 (.slice (some ⟨w.heap.size,0,none⟩) 8 8) q8.length (Cy q8)):=hid (by
  have:=Ql.new w #[.int .i64 0,.int .u64 0,.int .u64 7,.int .i64 0,.int .u64 128,.int .u64 7,.int .i64 1,.int .u64 0,.int .u64 0,.int .i64 1,.int .u64 128,.int .u64 0,.int .i64 2,.int .u64 0,.int .u64 0,.int .i64 0,.int .u64 64,.int .u64 1,.int .i64 1,.int .u64 64,.int .u64 0,.int .i64 2,.int .u64 0,.int .u64 0] 80 3 8 rfl;exact this)
 have B1:=hid (Qa w (.cells #[.int .i64 0,.int .u64 0,.int .u64 7,.int .i64 0,.int .u64 128,.int .u64 7,.int .i64 1,.int .u64 0,.int .u64 0,.int .i64 1,.int .u64 128,.int .u64 0,.int .i64 2,.int .u64 0,.int .u64 0,.int .i64 0,.int .u64 64,.int .u64 1,.int .i64 1,.int .u64 64,.int .u64 0,.int .i64 2,.int .u64 0,.int .u64 0] 80));have HF:=hid (fun(wx:World) (hx:Ql wx 3 (.slice (some ⟨w.heap.size,0,none⟩) 8 8) q8.length (Cy q8))=>Eu 4 _ q8 hx ok8 pl8 (by decide) (by omega) (by omega) 0 100 ⟨by omega,by omega⟩ (by omega));have HH:=hid (fun(wx:World) (hx:Ql wx 3 (.slice (some ⟨w.heap.size,0,none⟩) 8 8) q8.length (Cy q8))=>Qfw 4 _ q8 hx ok8 pl8 (by decide) (by omega) (by omega) 100 (by omega) (by omega));unfold Qlc at HF;rw[Q6q]at HH;simp only[is8]at HF;rw[show((100:Int)).toNat=100 from rfl,show((4:Nat):Int)=4 from rfl]at HF;rw[show((4:Nat):Int)=4 from rfl,show((100:Nat):Int)=100 from rfl]at HH;have H8:=hid Q6p;obtain⟨Q,hQ⟩:∃ Q,qOf 0 q8=Q:=⟨_,rfl⟩;rw[hQ]at HF H8;obtain⟨q,hq⟩:∃ q,q8=q:=⟨_,rfl⟩;obtain⟨D0,hD0⟩:∃ D0,Dev.fresh 4 (fun _=>0)=D0:=⟨_,rfl⟩;rw[hD0]at HF H8
 have HR1:=hid (fun wx (hb:Below (w.alloc (.cells #[.int .i64 0,.int .u64 0,.int .u64 7,.int .i64 0,.int .u64 128,.int .u64 7,.int .i64 1,.int .u64 0,.int .u64 0,.int .i64 1,.int .u64 128,.int .u64 0,.int .i64 2,.int .u64 0,.int .u64 0,.int .i64 0,.int .u64 64,.int .u64 1,.int .i64 1,.int .u64 64,.int .u64 0,.int .i64 2,.int .u64 0,.int .u64 0] 80)).heap.size (w.alloc (.cells #[.int .i64 0,.int .u64 0,.int .u64 7,.int .i64 0,.int .u64 128,.int .u64 7,.int .i64 1,.int .u64 0,.int .u64 0,.int .i64 1,.int .u64 128,.int .u64 0,.int .i64 2,.int .u64 0,.int .u64 0,.int .i64 0,.int .u64 64,.int .u64 1,.int .i64 1,.int .u64 64,.int .u64 0,.int .i64 2,.int .u64 0,.int .u64 0] 80)) wx)=>R1.out.below hb);clear hQ hD0;rw[hq]at HF HH HR1 R1;clear hq
 go_enter func9,ntmps9
 have K2:Hid (Blk ((w.alloc (.cells #[.int .i64 0,.int .u64 0,.int .u64 7,.int .i64 0,.int .u64 128,.int .u64 7,.int .i64 1,.int .u64 0,.int .u64 0,.int .i64 1,.int .u64 128,.int .u64 0,.int .i64 2,.int .u64 0,.int .u64 0,.int .i64 0,.int .u64 64,.int .u64 1,.int .i64 1,.int .u64 64,.int .u64 0,.int .i64 2,.int .u64 0,.int .u64 0] 80)).alloc (.cells #[.slice (some ⟨w.heap.size,0,none⟩) 8 8] 83)) (w.heap.size+1) #[.slice (some ⟨w.heap.size,0,none⟩) 8 8] 83):=hid (by
  have:=Blk.new (w.alloc (.cells #[.int .i64 0,.int .u64 0,.int .u64 7,.int .i64 0,.int .u64 128,.int .u64 7,.int .i64 1,.int .u64 0,.int .u64 0,.int .i64 1,.int .u64 128,.int .u64 0,.int .i64 2,.int .u64 0,.int .u64 0,.int .i64 0,.int .u64 64,.int .u64 1,.int .i64 1,.int .u64 64,.int .u64 0,.int .i64 2,.int .u64 0,.int .u64 0] 80)) #[.slice (some ⟨w.heap.size,0,none⟩) 8 8] 83
  rwa [World.size_alloc]at this)
 have B2:Hid (Below (w.alloc (.cells #[.int .i64 0,.int .u64 0,.int .u64 7,.int .i64 0,.int .u64 128,.int .u64 7,.int .i64 1,.int .u64 0,.int .u64 0,.int .i64 1,.int .u64 128,.int .u64 0,.int .i64 2,.int .u64 0,.int .u64 0,.int .i64 0,.int .u64 64,.int .u64 1,.int .i64 1,.int .u64 64,.int .u64 0,.int .i64 2,.int .u64 0,.int .u64 0] 80)).heap.size (w.alloc (.cells #[.int .i64 0,.int .u64 0,.int .u64 7,.int .i64 0,.int .u64 128,.int .u64 7,.int .i64 1,.int .u64 0,.int .u64 0,.int .i64 1,.int .u64 128,.int .u64 0,.int .i64 2,.int .u64 0,.int .u64 0,.int .i64 0,.int .u64 64,.int .u64 1,.int .i64 1,.int .u64 64,.int .u64 0,.int .i64 2,.int .u64 0,.int .u64 0] 80)) ((w.alloc (.cells #[.int .i64 0,.int .u64 0,.int .u64 7,.int .i64 0,.int .u64 128,.int .u64 7,.int .i64 1,.int .u64 0,.int .u64 0,.int .i64 1,.int .u64 128,.int .u64 0,.int .i64 2,.int .u64 0,.int .u64 0,.int .i64 0,.int .u64 64,.int .u64 1,.int .i64 1,.int .u64 64,.int .u64 0,.int .i64 2,.int .u64 0,.int .u64 0] 80)).alloc (.cells #[.slice (some ⟨w.heap.size,0,none⟩) 8 8] 83))):=hid (Qa _ _);have HF2:=hid (HF.out _ (HR1.out _ B2.out));clear HF;go_wp2_with fail
 (with_reducible refine HF2.out.mono ?_)
 rintro r w1 ⟨⟨h1,_⟩ | ⟨_,hp⟩,b1⟩
 ·exact absurd h1 (by decide)
 have B3:=hid (B2.out.trans (b1.mono B2.out.size));have K3:=hid (K2.out.below b1);clear b1 HF2 B2 K2
 rcases hp with ⟨h1,_⟩ | ⟨_,h2,_⟩ | ⟨_,h2,_⟩ | ⟨_,k,i,g,h2,_,_,rfl,_⟩
 ·cases h1
 ·rw[h2]at H8;exact absurd H8.out.2 (by decide)
 ·rw[h2]at H8;exact absurd H8.out.2 (by decide)
 ·have hk:k=5:=by have:=H8.out.1;rw[h2]at this;exact this
  subst hk;obtain⟨dm,hdm⟩:∃ dm,(D0.run 0 (Q.take 5)).dirtyL.length=dm:=⟨_,rfl⟩;rw[hdm];clear h2 H8 hdm;have K4:=hid (K3.out.alloc (.cells #[.int .i64 0,.int .i64 5,.slice (some ⟨g,0,none⟩) dm dm] 64));have X4:=hid (Blk.new w1 #[.int .i64 0,.int .i64 5,.slice (some ⟨g,0,none⟩) dm dm] 64);have B4:=hid (B3.out.trans ((Qa w1 (.cells #[.int .i64 0,.int .i64 5,.slice (some ⟨g,0,none⟩) dm dm] 64)).mono B3.out.size));have HH2:=hid (HH.out _ (HR1.out _ B4.out));have k0:=K3.out.cell (i:=0) (v:=.slice (some ⟨w.heap.size,0,none⟩) 8 8) rfl;have k0l:=K3.out.lt;clear HH HR1 B3;go_wp2_with fail
  (with_reducible refine HH2.out.mono ?_)
  rintro r w2 ⟨⟨h1,_⟩ | ⟨_,rfl⟩,b2⟩
  ·exact absurd h1 (by decide)
  ·have X5:=hid (X4.out.below b2)
   have B5:=hid ((B1.out.trans ((B4.out).mono B1.out.size)).trans (b2.mono (Nat.le_trans B1.out.size B4.out.size)));have x0:=X5.out.cell (i:=0) rfl;have x1:=X5.out.cell (i:=1) rfl;clear b2 HH2 k0;go_wp2_with fail
   go_ret
   exact⟨rfl,B5.out⟩
end
end

section
open Go.Maps
attribute [local go_sem ↓] Go.wp_at_zero Go.wp_at_succ
section
variable{w:World}
theorem Q5k(a:Int):∃ t:Int,a.tmod 6=t/\IntKind.i64.wrap t=t/\IntKind.i64.wrap (t+6)=t+6/\∃ s:Nat,(t+6).tmod 6=s/\IntKind.i64.wrap (s:Int)=s/\s<6:=by
 have h1:=Int.tmod_lt_of_pos a (show(0:Int)<6 by omega);have h2 : -6<a.tmod 6:=Int.lt_tmod_of_pos a (by omega);have h3:=Int.tmod_nonneg 6 (show 0<=a.tmod 6+6 by omega);have h4:=Int.tmod_lt_of_pos (a.tmod 6+6) (show(0:Int)<6 by omega);exact⟨_,rfl,IntWalk.i64_in _ (by omega),IntWalk.i64_in _ (by omega),((a.tmod 6+6).tmod 6).toNat,by omega,IntWalk.i64_in _ (by omega),by omega⟩
theorem Q2s(a:Int):∃ t:Int,a.tmod 64=t/\IntKind.i64.wrap t=t/\IntKind.i64.wrap (t+64)=t+64/\∃ s:Nat,(t+64).tmod 64=s/\IntKind.i64.wrap (s:Int)=s/\s<64/\IntKind.i64.wrap (64+(s:Int))=64+(s:Int):=by
 have h1:=Int.tmod_lt_of_pos a (show(0:Int)<64 by omega);have h2 : -64<a.tmod 64:=Int.lt_tmod_of_pos a (by omega);have h3:=Int.tmod_nonneg 64 (show 0<=a.tmod 64+64 by omega);have h4:=Int.tmod_lt_of_pos (a.tmod 64+64) (show(0:Int)<64 by omega);refine⟨_,rfl,IntWalk.i64_in _ (by omega),IntWalk.i64_in _ (by omega),((a.tmod 64+64).tmod 64).toNat,by omega,IntWalk.i64_in _ (by omega),by omega,?_⟩
 exact IntWalk.i64_in _ (by omega)
end
end

section
def jF(F:Nat->Int)(i:Nat):Nat->Int:=fun j=>if j=i then 99 else F j
def jo:Nat->Nat | 2=>320 | 3=>320 | 4=>167 | _=>208
def Qnq(s:Nat)(F:Nat->Int):Bool:=(decide (s=2)&&decide ((rdL 64 F).1≠1)) || (decide (s=3)&&decide (0<(Qk F 640 2).length))
def jB(s:Nat)(g:(Nat->Int)->Bool->Bool)(okB:(Nat->Int)->Bool):(Nat->Int)->Bool->Bool:=fun F e=>Qnq s F || (okB (jF F (jo s)) && !(g (jF F (jo s)) e))
theorem jRd:(Gd (jB 2 (gRd 64) Qtj) (Dev.fresh 64 rdC) (Zb 640 (rdW 3 4)) 1000).2.2=1:=by kernel_rfl
theorem jUd:(Gd (jB 3 (gUd 64) Qx2) (Dev.fresh 64 udC) (udQ 3 4 (Ds 1 2 (fun _=>0))) 1000).2.2=1:=by kernel_rfl
theorem jBk:(Gd (jB 4 gBk Qdc) (Dev.fresh 64 bkC) bkQ 1000).2.2=1:=by kernel_rfl
theorem jLf:(Gd (jB 5 gLf Qdd) (Dev.fresh 64 lfC) (Yu lfC 6 2) 1000).2.2=1:=by kernel_rfl
section
variable{w:World}{a n:Nat}{sp q:List (Nat×Nat×Int)}{C:Nat->Int}{ok:(Nat->Int)->Prop}{g g64:(Nat->Int)->Bool->Bool}{okB:(Nat->Int)->Bool}{fn:Nat}
theorem SyR.all(R:SyR w a n sp q C ok g g64 okB fn){J:(Nat->Int)->Bool->Bool}(h:(Gd J (Dev.fresh 64 C) q 1000).2.2=1){k:Nat}(hk:k<=q.length){i:Nat}(hi:i<Qm (Qf (((Dev.fresh n (fun _=>0)).run 0 sp).run 0 (q.take k)))) :
  Qm (Qf (((Dev.fresh n (fun _=>0)).run 0 sp).run 0 (q.take k)))<=1000/\J (Vy (((Dev.fresh n (fun _=>0)).run 0 sp).run 0 (q.take k)) i) (decide (k=q.length))=true:=by
 obtain⟨x,_,S⟩:=R.cl;have hs:=(S.sim R.P.lo).fnd J (q:=q) (fun e he=>Kl (R.okq e he) (Nat.le_refl _)) 1000;rw[<- hs]at h;have:=Iy _ _ h k (Nat.zero_le _) (by omega);exact⟨this.1,this.2 i hi⟩
theorem SyR.good(R:SyR w a n sp q C ok g g64 okB fn){k:Nat}(hk:k<=q.length){i:Nat}(hi:i<Qm (Qf (((Dev.fresh n (fun _=>0)).run 0 sp).run 0 (q.take k)))) :
  ok (Vy (((Dev.fresh n (fun _=>0)).run 0 sp).run 0 (q.take k)) i)/\g (Vy (((Dev.fresh n (fun _=>0)).run 0 sp).run 0 (q.take k)) i) (decide (k=q.length))=true:=by
 have h:=R.use (-1) (by omega) (by omega);rw[show qOf (-1) q=q by simp[qOf]]at h;have h3:=Iy _ _ R.holds k (Nat.zero_le _) (by omega);exact⟨h.1 k hk i hi,h3.2 i hi⟩
theorem Q6u{F:Nat->Int}(h:Bd F)(i:Nat):Bd (jF F i):=fun j=>by
 unfold jF
 split
 ·omega
 ·exact h j
theorem SyR.judge(R:SyR w a n sp q C ok g g64 okB fn){s:Nat}(h:(Gd (jB s g64 okB) (Dev.fresh 64 C) q 1000).2.2=1){k:Nat}(hk:k<=q.length){i:Nat}(hi:i<Qm (Qf (((Dev.fresh n (fun _=>0)).run 0 sp).run 0 (q.take k)))) :
  let F:=Vy (((Dev.fresh n (fun _=>0)).run 0 sp).run 0 (q.take k)) i
  Qnq s F=true\/ok (jF F (jo s))/\g (jF F (jo s)) (decide (k=q.length))=false:=by
 intro F;have h1:=(R.all h hk hi).2;obtain⟨x,_,S⟩:=R.cl;have hb:Bd F:=by
  have:=Dev.VB.run (q.take k) S.vb 0 (fun e he _=>by
   have:=Kl (R.okq e (List.mem_of_mem_take he)) (Nat.le_refl 64);exact⟨this.v0,this.v1⟩)
  exact this.img _
 unfold jB at h1;simp only[Bool.or_eq_true,Bool.and_eq_true,Bool.not_eq_true']at h1
 rcases h1 with h1 | ⟨h1,h2⟩
 ·exact .inl h1
 ·have h3:=R.h _ (Q6u hb _) h1
  exact .inr ⟨h3.1,by rw[h3.2];exact h2⟩
end
end

section
open Go.Maps
attribute [local go_sem ↓] Go.wp_at_zero Go.wp_at_succ
theorem Qfn(q:List (Nat×Nat×Int)):∀ k:Nat,(Qd q).take (k*3)=Qd (q.take k):=by
 induction q with
 | nil=>intro k;simp[Qd]
 | cons e q ih=>
  intro k
  cases k with
  | zero=>simp[Qd]
  | succ k=>
   have h:=ih k;unfold Qd at h ⊢;rw[List.take_succ_cons,List.flatMap_cons,List.flatMap_cons,<- h,show(k+1)*3=k*3+3 by omega]
   rfl
theorem Qp9{D:Dev}{e:Nat×Nat×Int}(he:OkQ 64 e)(hn:64<=D.n)(ho:D.off=false)(ha:D.armed=false)(h0:D.err 0=0) :
  64<=(D.step 0 e).n/\(D.step 0 e).off=false/\(D.step 0 e).armed=false/\(D.step 0 e).err 0=0:=by
 have hlt:=he.lt;have h3:e.1=1\/e.1=2\/e.1=3:=by have:=he.lo;have:=he.hi;omega
 rcases h3 with h3 | h3 | h3
 ·rw[Vd ho ha h3 he.al (by omega)];exact⟨hn,ho,ha,h0⟩
 ·rw[Vc ho ha h3 (by omega)];exact⟨hn,ho,ha,h0⟩
 ·rw[Jh ho ha h3];exact⟨hn,ho,ha,h0⟩
theorem Qyo{q:List (Nat×Nat×Int)}:∀ {D:Dev},(∀ e∈q,OkQ 64 e)->64<=D.n->D.off=false->D.armed=false->D.err 0=0->(D.run 0 q).err 0=0:=by
 induction q with
 | nil=>intro D _ _ _ _ h;exact h
 | cons e q ih=>
  intro D hq hn ho ha h0;obtain⟨a,b,c,d⟩:=Qp9 (hq e (List.mem_cons_self ..)) hn ho ha h0;exact ih (fun e he=>hq e (List.mem_cons_of_mem _ he)) a b c d
theorem Qyk(a:Int)(m:Nat)(hm:m<=1000):∃ t:Int,a.tmod ((m:Int)+1)=t/\IntKind.i64.wrap t=t/\IntKind.i64.wrap ((m:Int)+1)=m+1/\IntKind.i64.wrap (t+m)=t+m/\IntKind.i64.wrap (t+m+1)=t+m+1/\∃ c:Nat,(t+m+1).tmod ((m:Int)+1)=c/\IntKind.i64.wrap (c:Int)=c/\c<=m:=by
 have h3:=Int.tmod_lt_of_pos a (show(0:Int)<(m:Int)+1 by omega);have h4 : -((m:Int)+1)<a.tmod ((m:Int)+1):=Int.lt_tmod_of_pos a (by omega);have h5:=Int.tmod_nonneg ((m:Int)+1) (show 0<=a.tmod ((m:Int)+1)+m+1 by omega);have h6:=Int.tmod_lt_of_pos (a.tmod ((m:Int)+1)+m+1) (show(0:Int)<(m:Int)+1 by omega);exact⟨_,rfl,IntWalk.i64_in _ (by omega),IntWalk.i64_in _ (by omega),IntWalk.i64_in _ (by omega),IntWalk.i64_in _ (by omega),((a.tmod ((m:Int)+1)+m+1).tmod ((m:Int)+1)).toNat,by omega,IntWalk.i64_in _ (by omega),by omega⟩
section
variable{w wb:World}{v:DV}{own:Nat->Option Qp}{D:Dev}{a n:Nat}{sp q:List (Nat×Nat×Int)}{C F:Nat->Int}{ok:(Nat->Int)->Prop}{g g64:(Nat->Int)->Bool->Bool}{okB:(Nat->Int)->Bool}{fn x:Nat}
theorem SyL.atJ{ad:Nat->Nat}(R:SyL w ad 64){i:Nat}(hi:i<6):∃ sp q C ok g g64 okB,SyR w (ad i) 64 sp q C ok g g64 okB (fnL i)/\(2<=i->(Gd (jB i g64 okB) (Dev.fresh 64 C) q 1000).2.2=1):=by
 obtain rfl | rfl | rfl | rfl | rfl | rfl:i=0\/i=1\/i=2\/i=3\/i=4\/i=5:=by omega
 ·exact⟨_,_,_,_,_,_,_,R.sb,by omega⟩
 ·exact⟨_,_,_,_,_,_,_,R.rt,by omega⟩
 ·exact⟨_,_,_,_,_,_,_,R.rd,fun _=>jRd⟩
 ·exact⟨_,_,_,_,_,_,_,R.ud,fun _=>jUd⟩
 ·exact⟨_,_,_,_,_,_,_,R.bk,fun _=>jBk⟩
 ·exact⟨_,_,_,_,_,_,_,R.lf,fun _=>jLf⟩
theorem SyR.behind(R:SyR w a 64 sp q C ok g g64 okB fn)(c:Nat) :
  let D:=((Dev.fresh 64 (fun _=>0)).run 0 sp).run 0 (q.take c)
  D.n=64/\D.VB/\D.exec<1000/\D.err 0=0/\((Dev.fresh 64 (fun _=>0)).run 0 sp).exec<1000/\Qz (q.take c)/\Qm (Qf D)<=4611686018427387904/\(∀ l∈D.dirtyL,(D.hist l).length<=1000000000):=by
 intro D;obtain⟨x,hx,S⟩:=R.cl;have hq:∀ e∈q.take c,OkQ 64 e:=fun e he=>Kl (R.okq e (List.mem_of_mem_take he)) (Nat.le_refl _)
 have h1:D.exec<=((Dev.fresh 64 (fun _=>0)).run 0 sp).exec+(q.take c).length:=((Dev.fresh 64 (fun _=>0)).run 0 sp).run_exec 0 (q.take c);have h2:=R.P.len;have h3:=S.exec;have hl:(q.take c).length<=60:=by rw[List.length_take];omega
 have hp:Qm (Qf D)<=1152921504606846976:=Qhy ((Dev.fresh 64 (fun _=>0)).run 0 sp) (q.take c) R.P.tot hl;refine⟨by rw[Pj];exact R.P.dn,Dev.VB.run _ S.vb 0 (fun e he _=>⟨(hq e he).v0,(hq e he).v1⟩),by omega,Qyo hq (by rw[S.grp.on.n];omega) S.grp.on.off S.ar S.grp.on.err,by omega,fun e he=>⟨(hq e he).lo,(hq e he).hi,by have:=(hq e he).lt;omega⟩,by omega,fun l hl2 => ?_⟩
 have h4:(D.hist l).length<=Qd2 D:=by
  have:∀ m,l<m->(fun l=>(D.hist l).length) l<=Qbt (fun l=>(D.hist l).length) m:=by
   intro m
   induction m with
   | zero=>intro h;omega
   | succ m ih=>
    intro h;show(D.hist l).length<=Qbt (fun l=>(D.hist l).length) m+(D.hist m).length
    by_cases e:l=m
    ·subst e;omega
    ·have h:(D.hist l).length<=Qbt (fun l=>(D.hist l).length) m:=ih (by omega)
     omega
  exact this D.n ((Gq D l).1 hl2).1
 have h5:=Qbn (q.take c) ((Dev.fresh 64 (fun _=>0)).run 0 sp);rw[R.P.tot]at h5;have h6:Qd2 D<=0+(q.take c).length:=h5;omega
theorem Qxj(E:Dev)(hn:E.n=64){o:Nat}(ho:o<512):E.flush 0 (8*o)=E.flush 0 (64*(8*o/64)):=by
 have h1:E.inB (8*o)=true:=by unfold Dev.inB;exact decide_eq_true (by omega)
 have h2:E.inB (64*(8*o/64))=true:=by unfold Dev.inB;exact decide_eq_true (by omega)
 unfold Dev.flush;rw[h1,h2,show 64*(8*o/64)/64=8*o/64 by omega]
theorem Qyw(E:Dev)(o:Nat)(x:Int):(E.store 0 o x).n=E.n:=Pj E [(1,o,x)]
theorem Qsz(h:SCl D 0 64 F x){o:Nat}(ho:o<512):SCl (((D.store 0 (8*o) 99).flush 0 (8*o)).fence 0) 0 64 (jF F o) (x+3):=by
 have h1:=h.stores (ws := [(8*o,99)]) (by simp;omega) (by simp);have e1:D.run 0 (Qe [(8*o,99)])=(((D.store 0 (8*o) 99).flush 0 (64*(8*o/64))).fence 0):=rfl;rw[e1,<- Qxj _ (by rw[Qyw];exact h.grp.on.n) ho]at h1;have e2:(fun i=>Qu [(8*o,(99:Int))] (F i) i)=jF F o:=by
  funext i
  unfold jF;show(if 8*o/8=i then(99:Int)else F i)=_
  rw[show 8*o/8=o by omega]
  by_cases h:i=o
  ·rw[if_pos h,if_pos h.symm]
  ·rw[if_neg h,if_neg (fun e=>h e.symm)]
 rw[e2]at h1;exact h1
end
end
end Go.Proofs.YtlhchkajjpefmaaGreatDoor
