/- Lemmas and walks, part 10: each theorem says what it proves; no condition beside its own. -/
import Derived.Test.YtlhchkajjpefmaaGreatDoorK9
import Derived.Deep.CutBlock
set_option maxHeartbeats 16000000
set_option maxRecDepth 100000
namespace Go.Proofs.YtlhchkajjpefmaaGreatDoor
open Lib(hid)
open Go.RowKit Go.Proofs.Tryz
section
section
variable{w:World}{g o c a b:Nat}{xs ys zs:List Int}{wr:World}
theorem Bh(p:Nat)(h:p<=4611686018):IntKind.i64.wrap (p:Int)=p:=IntWalk.i64_in _ (by omega)
def Qln(w:World)(g o c:Nat)(xs:List Int)(f lo n r:Nat)(wr:World):Prop:=∃ ys,Zk w g o c xs (f+lo) (f+n) ys wr/\Xu ys f lo n r
theorem Rt{f lo n r k:Nat}(h:Zk w g o c xs (f+lo) (f+n) ys wr/\Xu ys f lo n r)(hlo:lo<=r)(hk:k=2*r+1\/k=2*r+2)(hkn:k<n)(hf:f+n<=xs.length)
  (hmax:∀ c,(c=2*r+1\/c=2*r+2)->c<n->at0 ys (f+c)<=at0 ys (f+k)) (hlt:at0 ys (f+r)<at0 ys (f+k)) {p q:Nat} (hp:f+r=p) (hq:f+k=q) :
  Qln w g o c xs f lo n k ((wr.setCell ⟨g,o+p,none⟩ (.int .u64 (at0 ys q))).setCell ⟨g,o+q,none⟩ (.int .u64 (at0 ys p))).drew:=by
 subst hp hq;exact⟨_,h.1.swap (f+r) (f+k) (by omega) (by omega) (by omega) (by omega) hf,h.2.step hlo hk hkn (by rw[h.1.len];exact hf) hmax hlt⟩
theorem Qt7{f ch pc pd r z:Nat}(hl:at0 ys pc<at0 ys pd)(h1:f+ch=pc)(h2:f+ch+1=pd)(h3:2*r+1=ch)(hz:z=2*r+1\/z=2*r+2):at0 ys (f+z)<=at0 ys (f+(ch+1)):=by
 rw[show f+(ch+1)=pd by omega]
 rcases hz with rfl | rfl
 ·rw[h3,h1];omega
 ·rw[show f+(2*r+2)=pd by omega];omega
theorem Qp4{f ch pc pd r z:Nat}(hl:¬ at0 ys pc<at0 ys pd)(h1:f+ch=pc)(h2:f+ch+1=pd)(h3:2*r+1=ch)(hz:z=2*r+1\/z=2*r+2):at0 ys (f+z)<=at0 ys (f+ch):=by
 rw[h1]
 rcases hz with rfl | rfl
 ·rw[h3,h1];omega
 ·rw[show f+(2*r+2)=pd by omega];omega
theorem Qp5{f ch r z n:Nat}(h2:¬ ch+1<n)(h3:2*r+1=ch)(hz:z=2*r+1\/z=2*r+2)(hn:z<n):at0 ys (f+z)<=at0 ys (f+ch):=by
 rcases hz with rfl | rfl
 ·rw[h3];exact Int.le_refl _
 ·omega
theorem Fg(h:WrU w g o c xs)(f lo n:Nat)(hf:f+n<=xs.length)(hs:xs.length<=100000)(hlo:lo<=100000)(hh:Xu xs f lo n lo) :
  Calls prog 253 #[.slice (some ⟨g,o,none⟩) xs.length c,.int .i64 lo,.int .i64 n,.int .i64 f] w fun r w'=>r = .returned (.tuple #[])/\∃ ys,Zk w g o c xs (f+lo) (f+n) ys w'/\Qgx ys f lo n:=by
 have hm:=h.le;unfold maxLen at hm;have H:Hid (Qln w g o c xs f lo n lo w):=hid ⟨xs,Zk.refl h _ _,hh⟩;clear h hh
 have HF:=hid hf
 generalize hn:xs.length=m at *
 have HN:=hid hn;clear hn
 go_enter func253,ntmps253
 go_wp2_with fail
 go_loopw [8,9] (fun x _ wr=>∃ r:Nat,lo<=r/\r<=100000/\x = .int .i64 r/\Qln w g o c xs f lo n r wr) (fun x _ _=>n-(intOf x).toNat)
 case atStart=>exact⟨lo,by omega,hlo,rfl,H.out⟩
 case round=>
  obtain⟨r,hr1,hr2,rfl,ys,hM,hB⟩:=hrel;have hyl:ys.length=m:=by rw[hM.len,HN.out]
  have M:=hid (And.intro hM hB);clear H hB;obtain⟨ch,hch⟩:∃ ch,2*r+1=ch:=⟨_,rfl⟩;have q1:(2:Int)*r+1=ch:=by omega
  by_cases h1:n<=ch
  ·have h1':(n:Int)<=ch:=by omega
   clear hM;go_wp2_with fail
   go_end0
   exact⟨rfl,ys,M.out.1,M.out.2.stop (fun c h2 h3=>by omega)⟩
  ·have h1':¬ (n:Int)<=ch:=by omega
   have hg:=hM.own.lt;obtain⟨pr,hpr⟩:∃ p,f+r=p:=⟨_,rfl⟩;obtain⟨pc,hpc⟩:∃ p,f+ch=p:=⟨_,rfl⟩;have q2:(f:Int)+r=pr:=by omega
   have q3:(f:Int)+ch=pc:=by omega
   have c1:=hM.own.cell pr (by omega);have c2:=hM.own.cell pc (by omega)
   have w1:=Bh pr (by omega);have w2:=Bh pc (by omega)
   have b1:(pr:Int)<m:=by omega
   have b2:(pc:Int)<m:=by omega
   by_cases h2:ch+1<n
   ·obtain⟨pd,hpd⟩:∃ p,f+ch+1=p:=⟨_,rfl⟩
    have q4:(pc:Int)+1=pd:=by omega
    have q5:(f:Int)+(ch+1)=pd:=by omega
    have c3:=hM.own.cell pd (by omega);have w3:=Bh pd (by omega);have b3:(pd:Int)<m:=by omega
    have h2':(ch:Int)+1<n:=by omega
    have w4:IntKind.i64.wrap ((ch:Int)+1)=(ch:Int)+1:=IntWalk.i64_in _ (by omega);have E:=hid (And.intro hpr (And.intro hpc (And.intro hpd hch)));clear hM hpr hpc hpd hch
    by_cases hl:at0 ys pc<at0 ys pd
    ·have hd:decide (at0 ys pc<at0 ys pd)=true:=by simpa using hl
     have LQ:=hid (Zl _ _ _ hd);have HMX:Hid (∀ z,(z=2*r+1\/z=2*r+2)->z<n->at0 ys (f+z)<=at0 ys (f+(ch+1))):=hid (fun z hz1 hz2=>Qt7 hl E.out.2.1 E.out.2.2.1 E.out.2.2.2 hz1);clear hd hl;go_wp2_with fail
     go_quiet ((go_at_call 241;exact Calls.quiet_of_same (LQ.out _)))
     clear c3;go_wp2_with fail
     obtain⟨wq,hwq⟩:∃ wq,wr.drewN nq=wq:=⟨_,rfl⟩;rw[hwq];have M2:Hid (Zk w g o c xs (f+lo) (f+n) ys wq/\Xu ys f lo n r):=hid ⟨by rw[<- hwq];exact M.out.1.drewN _,M.out.2⟩;clear hwq c1 c2;have d1:=M2.out.1.own.cell pr (by omega);have d2:=M2.out.1.own.cell pd (by omega)
     have hgq:=M2.out.1.own.lt
     by_cases hl2:at0 ys pr<at0 ys pd
     ·have hd:decide (at0 ys pr<at0 ys pd)=true:=by simpa using hl2
      have LQ:=hid (Zl _ _ _ hd);have HL2:=hid hl2;clear hd hl2
      go_quiet ((go_at_call 241;exact Calls.quiet_of_same (LQ.out _)))
      go_wp2_with fail
      obtain⟨wz,hwz⟩:∃ wz,wq.drewN nq=wz:=⟨_,rfl⟩;rw[hwz];have M3:Hid (Zk w g o c xs (f+lo) (f+n) ys wz/\Xu ys f lo n r):=hid ⟨by rw[<- hwz];exact M2.out.1.drewN _,M2.out.2⟩;clear hwz d1 d2;have x1:=M3.out.1.own.cell pr (by omega);have x2:=M3.out.1.own.cell pd (by omega)
      have f1:=M3.out.1.own.frozen (o+pr);have f2:=M3.out.1.own.frozen (o+pd)
      have hgz:=M3.out.1.own.lt;have hne:¬ o+pd=o+pr:=by have:=E.out;omega
      go_region
      all_goals go_wp2_with fail
      all_goals
       go_roundw
       case rel=>exact⟨ch+1,by have:=E.out;omega,by omega,by go_num,Rt M3.out hr1 (by have:=E.out;omega) (by omega) (by rw[HN.out];exact HF.out) (fun z hz1 hz2=>HMX.out z hz1 hz2) (by rw[E.out.1,(show f+(ch+1)=pd by have:=E.out;omega)];exact HL2.out) E.out.1 (show f+(ch+1)=pd by have:=E.out;omega)⟩
       case measure=>simp[intOf];have:=E.out;omega
     ·have hd:decide (at0 ys pr<at0 ys pd)=false:=by simpa using hl2
      have LQ:=hid (Zl _ _ _ hd);have HL2:=hid hl2;clear hd hl2
      go_quiet ((go_at_call 241;exact Calls.quiet_of_same (LQ.out _)))
      go_wp2_with fail
      (try simp only[Exit.inBlock,Exit.then]);refine bodyPost_ret (results_none rfl _ _ _) rfl ?_
      refine⟨rfl,ys,M2.out.1.drewN _,M2.out.2.stop (fun z hz1 hz2 => ?_)⟩
      have hz:at0 ys (f+z)<=at0 ys pd:=by
       rw[<- (show f+(ch+1)=pd by have:=E.out;omega)];exact HMX.out z hz1 hz2
      have:=HL2.out;rw[E.out.1];omega
    ·have hd:decide (at0 ys pc<at0 ys pd)=false:=by simpa using hl
     have LQ:=hid (Zl _ _ _ hd);have HMX:Hid (∀ z,(z=2*r+1\/z=2*r+2)->z<n->at0 ys (f+z)<=at0 ys (f+ch)):=hid (fun z hz1 hz2=>Qp4 hl E.out.2.1 E.out.2.2.1 E.out.2.2.2 hz1);clear hd hl;go_wp2_with fail
     go_quiet ((go_at_call 241;exact Calls.quiet_of_same (LQ.out _)))
     clear c3;go_wp2_with fail
     obtain⟨wq,hwq⟩:∃ wq,wr.drewN nq=wq:=⟨_,rfl⟩;rw[hwq];have M2:Hid (Zk w g o c xs (f+lo) (f+n) ys wq/\Xu ys f lo n r):=hid ⟨by rw[<- hwq];exact M.out.1.drewN _,M.out.2⟩;clear hwq c1 c2;have d1:=M2.out.1.own.cell pr (by omega);have d2:=M2.out.1.own.cell pc (by omega)
     have hgq:=M2.out.1.own.lt
     by_cases hl2:at0 ys pr<at0 ys pc
     ·have hd:decide (at0 ys pr<at0 ys pc)=true:=by simpa using hl2
      have LQ:=hid (Zl _ _ _ hd);have HL2:=hid hl2;clear hd hl2
      go_quiet ((go_at_call 241;exact Calls.quiet_of_same (LQ.out _)))
      go_wp2_with fail
      obtain⟨wz,hwz⟩:∃ wz,wq.drewN nq=wz:=⟨_,rfl⟩;rw[hwz];have M3:Hid (Zk w g o c xs (f+lo) (f+n) ys wz/\Xu ys f lo n r):=hid ⟨by rw[<- hwz];exact M2.out.1.drewN _,M2.out.2⟩;clear hwz d1 d2;have x1:=M3.out.1.own.cell pr (by omega);have x2:=M3.out.1.own.cell pc (by omega)
      have f1:=M3.out.1.own.frozen (o+pr);have f2:=M3.out.1.own.frozen (o+pc)
      have hgz:=M3.out.1.own.lt;have hne:¬ o+pc=o+pr:=by have:=E.out;omega
      go_region
      all_goals go_wp2_with fail
      all_goals
       go_roundw
       case rel=>exact⟨ch,by have:=E.out;omega,by omega,by go_num,Rt M3.out hr1 (by have:=E.out;omega) (by omega) (by rw[HN.out];exact HF.out) (fun z hz1 hz2=>HMX.out z hz1 hz2) (by rw[E.out.1,(show f+ch=pc from E.out.2.1)];exact HL2.out) E.out.1 ((show f+ch=pc from E.out.2.1))⟩
       case measure=>simp[intOf];have:=E.out;omega
     ·have hd:decide (at0 ys pr<at0 ys pc)=false:=by simpa using hl2
      have LQ:=hid (Zl _ _ _ hd);have HL2:=hid hl2;clear hd hl2
      go_quiet ((go_at_call 241;exact Calls.quiet_of_same (LQ.out _)))
      go_wp2_with fail
      (try simp only[Exit.inBlock,Exit.then]);refine bodyPost_ret (results_none rfl _ _ _) rfl ?_
      refine⟨rfl,ys,M2.out.1.drewN _,M2.out.2.stop (fun z hz1 hz2 => ?_)⟩
      have hz:at0 ys (f+z)<=at0 ys pc:=by
       rw[<- (show f+ch=pc from E.out.2.1)];exact HMX.out z hz1 hz2
      have:=HL2.out;rw[E.out.1];omega
   ·have h2':decide ((ch:Int)+1<n)=false:=by simp;omega
    have w4:IntKind.i64.wrap ((ch:Int)+1)=(ch:Int)+1:=IntWalk.i64_in _ (by omega);have E:=hid (And.intro hpr (And.intro hpc hch));have HMX:Hid (∀ z,(z=2*r+1\/z=2*r+2)->z<n->at0 ys (f+z)<=at0 ys (f+ch)):=hid (fun z hz1 hz2=>Qp5 h2 hch hz1 hz2);clear hM hpr hpc hch;go_wp2_with fail
    go_quiet (fail)
    go_wp2_with fail
    obtain⟨wq,hwq⟩:∃ wq,wr.drewN nq=wq:=⟨_,rfl⟩;rw[hwq];have M2:Hid (Zk w g o c xs (f+lo) (f+n) ys wq/\Xu ys f lo n r):=hid ⟨by rw[<- hwq];exact M.out.1.drewN _,M.out.2⟩;clear hwq c1 c2;have d1:=M2.out.1.own.cell pr (by omega);have d2:=M2.out.1.own.cell pc (by omega)
    have hgq:=M2.out.1.own.lt
    by_cases hl2:at0 ys pr<at0 ys pc
    ·have hd:decide (at0 ys pr<at0 ys pc)=true:=by simpa using hl2
     have LQ:=hid (Zl _ _ _ hd);have HL2:=hid hl2;clear hd hl2
     go_quiet ((go_at_call 241;exact Calls.quiet_of_same (LQ.out _)))
     go_wp2_with fail
     obtain⟨wz,hwz⟩:∃ wz,wq.drewN nq=wz:=⟨_,rfl⟩;rw[hwz];have M3:Hid (Zk w g o c xs (f+lo) (f+n) ys wz/\Xu ys f lo n r):=hid ⟨by rw[<- hwz];exact M2.out.1.drewN _,M2.out.2⟩;clear hwz d1 d2;have x1:=M3.out.1.own.cell pr (by omega);have x2:=M3.out.1.own.cell pc (by omega)
     have f1:=M3.out.1.own.frozen (o+pr);have f2:=M3.out.1.own.frozen (o+pc)
     have hgz:=M3.out.1.own.lt;have hne:¬ o+pc=o+pr:=by have:=E.out;omega
     go_region
     all_goals go_wp2_with fail
     all_goals
      go_roundw
      case rel=>exact⟨ch,by have:=E.out;omega,by omega,by go_num,Rt M3.out hr1 (by have:=E.out;omega) (by omega) (by rw[HN.out];exact HF.out) (fun z hz1 hz2=>HMX.out z hz1 hz2) (by rw[E.out.1,(show f+ch=pc from E.out.2.1)];exact HL2.out) E.out.1 ((show f+ch=pc from E.out.2.1))⟩
      case measure=>simp[intOf];have:=E.out;omega
    ·have hd:decide (at0 ys pr<at0 ys pc)=false:=by simpa using hl2
     have LQ:=hid (Zl _ _ _ hd);have HL2:=hid hl2;clear hd hl2
     go_quiet ((go_at_call 241;exact Calls.quiet_of_same (LQ.out _)))
     go_wp2_with fail
     (try simp only[Exit.inBlock,Exit.then]);refine bodyPost_ret (results_none rfl _ _ _) rfl ?_
     refine⟨rfl,ys,M2.out.1.drewN _,M2.out.2.stop (fun z hz1 hz2 => ?_)⟩
     have hz:at0 ys (f+z)<=at0 ys pc:=by
      rw[<- (show f+ch=pc from E.out.2.1)];exact HMX.out z hz1 hz2
     have:=HL2.out;rw[E.out.1];omega
theorem Qcx{f k:Nat}(h:Qgx ys f 0 (k+1))(hf:f+k<ys.length):Xu (swp ys f (f+k)) f 0 k 0:=by
 have e:=fun q=>Ub ys f (f+k) q (by omega) hf
 refine⟨fun i z h1 h2 h3 h4 => ?_,fun i z h1 h2 h3 h4=>by omega⟩
 rw[e,e,if_neg (by omega),if_neg (by omega),if_neg (by omega),if_neg (by omega)];exact h i z h1 h3 (by omega)
def Quo(w:World)(g o c:Nat)(xs:List Int)(a b k:Nat)(wr:World):Prop:=∃ ys,Zk w g o c xs a b ys wr/\Qgx ys a k (b-a)
def Qv8(w:World)(g o c:Nat)(xs:List Int)(a b k:Nat)(wr:World):Prop:=∃ ys,Zk w g o c xs a b ys wr/\Rz ys a k (b-a)
theorem Qcw(h:WrU w g o c xs)(hab:a<b)(hb:b<=xs.length)(hs:xs.length<=100000) :
  Calls prog 236 #[.slice (some ⟨g,o,none⟩) xs.length c,.int .i64 a,.int .i64 b] w fun r w'=>r = .returned (.tuple #[])/\Vf w g o c xs a b w':=by
 have hm:=h.le;unfold maxLen at hm;have H:Hid (Zk w g o c xs a b xs w):=hid (Zk.refl h a b);clear h
 have HB:=hid hb;have HS:=hid (fun wx (zs:List Int) (hz:WrU wx g o c zs) (hl:zs.length=xs.length) (k i:Nat) (hki:k<=100000/\a+i<=b) (hh:Xu zs a k i k)=>by
  have:=Fg hz a k i (by omega) (by omega) (by omega) hh;rw[hl]at this;exact this)
 have HS0:=hid (fun wx (zs:List Int) (hz:WrU wx g o c zs) (hl:zs.length=xs.length) (i:Nat) (hki:a+i<=b) (hh:Xu zs a 0 i 0)=>by
  have:=Fg hz a 0 i (by omega) (by omega) (by omega) hh;rw[hl,show((0:Nat):Int)=0 from rfl]at this;exact this)
 have HS00:=hid (fun wx (zs:List Int) (hz:WrU wx g o c zs) (hl:zs.length=xs.length) (hki:a<=b) (hh:Xu zs a 0 0 0)=>by
  have:=Fg hz a 0 0 (by omega) (by omega) (by omega) hh;rw[hl,show((0:Nat):Int)=0 from rfl]at this;exact this)
 generalize hn:xs.length=m at *
 have HN:=hid hn;clear hn
 obtain⟨n,hbn⟩:∃ n,b=a+n:=⟨b-a,by omega⟩;have q1:(b:Int)-a=n:=by omega
 have q2:b-a=n:=by omega
 have HQ:=hid q2;have HBN:=hid hbn
 obtain⟨hf,hhf⟩:∃ h,(n-1)/2=h:=⟨_,rfl⟩;have q3:((n:Int)-1)/2=hf:=by omega
 have q4:(0:Int)<=(n:Int)-1:=by omega
 have q5:(1:Int)<=(n:Int):=by omega
 have HH:=hid hhf;clear hhf q2 hbn
 go_enter func236,ntmps236
 go_wp2_with fail
 rw[q3]
 go_loopw [9] (fun x wr=>∃ k:Nat,k<=hf+1/\x = .int .i64 ((k:Int)-1)/\Quo w g o c xs a b k wr) (fun x _=>(intOf x+1).toNat)
 case atStart=>exact⟨hf+1,by omega,by rw[show(((hf+1:Nat):Int)-1)=hf by omega],xs,H.out,by rw[HQ.out,<- HH.out];exact Qgx.leaves _ _ _⟩
 case round=>
  obtain⟨k,hk,hx,ys,hM,hP⟩:=hrel;have M:=hid (And.intro hM hP);clear hM hP H
  by_cases h0:k=0
  ·subst h0
   rw[show((0:Nat):Int)-1 = -1 from rfl]at hx;subst hx;go_wp2_with fail
   go_loopw [10] (fun x wr=>∃ k:Nat,k<=n/\x = .int .i64 ((k:Int)-1)/\Qv8 w g o c xs a b k wr) (fun x _=>(intOf x+1).toNat)
   case atStart=>exact⟨n,Nat.le_refl _,rfl,ys,M.out.1,by rw[HQ.out];exact Rz.start (by have:=M.out.2;rwa [HQ.out]at this)⟩
   case round=>
    clear M;obtain⟨k,hk,hx,ys,hM,hP⟩:=hrel;rw[HQ.out]at hP;have hyl:ys.length=m:=by rw[hM.len,HN.out]
    have M:=hid (And.intro hM hP)
    by_cases h0:k=0
    ·subst h0
     rw[show((0:Nat):Int)-1 = -1 from rfl]at hx;subst hx;clear hM hP hyl;go_wp2_with fail
     go_end0
     exact⟨rfl,ys,M.out.1.mix,by have:=M.out.2.done;rwa [<- HBN.out]at this,M.out.1.own,M.out.1.upd⟩
    ·obtain⟨j,rfl⟩:∃ j,k=j+1:=⟨k-1,by omega⟩
     rw[show((j+1:Nat):Int)-1=j by omega]at hx;subst hx;clear h0 hP;have hg:=hM.own.lt;have c1:=hM.own.cell a (by omega);have f1:=hM.own.frozen (o+a)
     by_cases hj:j=0
     ·subst hj
      have b1:(a:Int)<m:=by omega
      have w1:=Bh a (by omega);clear hM hyl;go_wp2_with fail
      go_region
      all_goals go_wp2_with fail
      all_goals
       have M2:=hid (M.out.1.swap a a (Nat.le_refl _) (by have:=HBN.out;omega) (by omega) (by have:=HBN.out;omega) (by rw[HN.out];exact HB.out))
       generalize ((wr.setCell ⟨g,o+a,none⟩ (.int .u64 (at0 ys a))).setCell ⟨g,o+a,none⟩ (.int .u64 (at0 ys a))).drew=wz at *
       (with_reducible refine(HS00.out _ (swp ys a a) M2.out.own (by rw[M2.out.len,HN.out]) (by have:=HBN.out;omega) (by have:=Qcx M.out.2.heap (by rw[M.out.1.len,HN.out];have:=HBN.out;have:=HB.out;omega);rwa [Nat.add_zero]at this)).mono ?_)
       rintro e w1 ⟨rfl,zs,m1,hp1⟩;have M3:Hid (Qv8 w g o c xs a b 0 w1):=hid ⟨zs,M2.out.trans (m1.mono (by omega) (by have:=HBN.out;omega)),by rw[HQ.out];exact M.out.2.step (by omega) (by rw[M.out.1.len,HN.out,<- HBN.out];exact HB.out) (by skip;have:=m1.mix;exact this) hp1⟩;clear m1 hp1;go_wp2_with fail
       go_roundw
       case rel=>exact⟨0,by omega,rfl,M3.out⟩
       case measure=>first | (simp[intOf];done) | (simp[intOf];omega)
     ·obtain⟨p,hp⟩:∃ p,a+j=p:=⟨_,rfl⟩
      have q6:(a:Int)+j=p:=by omega
      have c2:=hM.own.cell p (by omega);have f2:=hM.own.frozen (o+p);have hne:¬ o+p=o+a:=by omega
      have b1:(p:Int)<m:=by omega
      have w1:=Bh p (by omega);have HP:=hid hp;clear hM hyl hp;go_wp2_with fail
      go_region
      all_goals go_wp2_with fail
      all_goals
       have M2:=hid (M.out.1.swap a p (Nat.le_refl _) (by have:=HBN.out;omega) (by omega) (by have:=HBN.out;omega) (by rw[HN.out];exact HB.out))
       generalize ((wr.setCell ⟨g,o+a,none⟩ (.int .u64 (at0 ys p))).setCell ⟨g,o+p,none⟩ (.int .u64 (at0 ys a))).drew=wz at *
       (with_reducible refine(HS0.out _ (swp ys a p) M2.out.own (by rw[M2.out.len,HN.out]) j (by have:=HBN.out;omega) (by have:=Qcx M.out.2.heap (by rw[M.out.1.len,HN.out];have:=HBN.out;have:=HB.out;omega);rwa [HP.out]at this)).mono ?_)
       rintro e w1 ⟨rfl,zs,m1,hp1⟩;have M3:Hid (Qv8 w g o c xs a b j w1):=hid ⟨zs,M2.out.trans (m1.mono (by omega) (by have:=HBN.out;omega)),by rw[HQ.out];exact M.out.2.step (by omega) (by rw[M.out.1.len,HN.out,<- HBN.out];exact HB.out) (by rw[HP.out];have:=m1.mix;rwa [HP.out]at this) hp1⟩;clear m1 hp1;go_wp2_with fail
       go_roundw
       case rel=>exact⟨j,by omega,rfl,M3.out⟩
       case measure=>first | (simp[intOf];done) | (simp[intOf];omega)
  ·obtain⟨j,rfl⟩:∃ j,k=j+1:=⟨k-1,by omega⟩
   rw[show((j+1:Nat):Int)-1=j by omega]at hx;subst hx;clear h0;go_wp2_with fail
   (with_reducible refine(HS.out _ ys M.out.1.own (by rw[M.out.1.len,HN.out]) j n (by have:=HH.out;omega) (by have:=M.out.2;rw[HQ.out]at this;exact this.but)).mono ?_)
   rintro e w1 ⟨rfl,zs,m1,hp1⟩;have M1:Hid (Quo w g o c xs a b j w1):=hid ⟨zs,M.out.1.trans (m1.mono (by omega) (by rw[HBN.out];exact Nat.le_refl _)),by rw[HQ.out];exact hp1⟩;clear m1 hp1;go_wp2_with fail
   go_roundw
   case rel=>exact⟨j,by omega,rfl,M1.out⟩
   case measure=>first | (simp[intOf];done) | (simp[intOf];omega)
end
end

section
section
variable{w:World}{g o c a b:Nat}{xs ys zs:List Int}{wr:World}
structure Fo(w:World)(g o c:Nat)(xs:List Int)(a b:Nat)(L:Int->Int->Prop)(x:Int)(i j:Nat)(ys:List Int)(wr:World):Prop where
 mix:Zk w g o c xs a b ys wr
 left:∀ q,a<q->q<i->L (at0 ys q) x
 right:∀ q,j<q->q<b->¬ L (at0 ys q) x
 piv:at0 ys a=x
variable{L:Int->Int->Prop}{x:Int}{i j:Nat}
theorem Fo.drewN(h:Fo w g o c xs a b L x i j ys wr)(n:Nat):Fo w g o c xs a b L x i j ys (wr.drewN n):=⟨h.mix.drewN n,h.left,h.right,h.piv⟩
theorem Fo.up(h:Fo w g o c xs a b L x i j ys wr)(hl:L (at0 ys i) x):Fo w g o c xs a b L x (i+1) j ys wr:=
 ⟨h.mix,fun q h1 h2=>by by_cases e:q=i;exact e ▸ hl;exact h.left q h1 (by omega),h.right,h.piv⟩
theorem Fo.down(h:Fo w g o c xs a b L x i j ys wr)(hj:0<j)(hl:¬ L (at0 ys j) x):Fo w g o c xs a b L x i (j-1) ys wr:=
 ⟨h.mix,h.left,fun q h1 h2=>by by_cases e:q=j;exact e ▸ hl;exact h.right q (by omega) h2,h.piv⟩
theorem Fo.swap(h:Fo w g o c xs a b L x i j ys wr)(hai:a<i)(hij:i<j)(hjb:j<b)(hb:b<=xs.length)(h1:¬ L (at0 ys i) x)(h2:L (at0 ys j) x) :
  Fo w g o c xs a b L x (i+1) (j-1) (swp ys i j) ((wr.setCell ⟨g,o+i,none⟩ (.int .u64 (at0 ys j))).setCell ⟨g,o+j,none⟩ (.int .u64 (at0 ys i))).drew:=by
 have hl:=h.mix.len;have e:=fun q=>Ub ys i j q (by omega) (by omega)
 refine⟨h.mix.swap i j (by omega) (by omega) (by omega) hjb hb,fun q h3 h4 => ?_,fun q h3 h4 => ?_,?_⟩
 ·rw[e]
  by_cases e1:q=i
  ·rw[if_neg (by omega),if_pos e1];exact h2
  ·rw[if_neg (by omega),if_neg e1];exact h.left q h3 (by omega)
 ·rw[e]
  by_cases e1:q=j
  ·rw[if_pos e1];exact h1
  ·rw[if_neg e1,if_neg (by omega)];exact h.right q (by omega) h4
 ·rw[e,if_neg (by omega),if_neg (by omega)];exact h.piv
theorem Fo.stop(h:Fo w g o c xs a b (· < ·) x i j ys wr)(hij:i=j+1)(haj:a<=j)(hjb:j<b)(_hai:a<i)(hb:b<=xs.length) :
  Zk w g o c xs a b (swp ys j a) ((wr.setCell ⟨g,o+j,none⟩ (.int .u64 (at0 ys a))).setCell ⟨g,o+a,none⟩ (.int .u64 (at0 ys j))).drew/\Ls (swp ys j a) a j b:=by
 have hl:=h.mix.len;have e:=fun q=>Ub ys j a q (by omega) (by omega)
 refine⟨h.mix.swap j a haj hjb (Nat.le_refl _) (by omega) hb,haj,hjb,fun q h1 h2 => ?_,fun q h1 h2 => ?_⟩
 ·rw[e,e,if_neg (show ¬ j=a by omega),if_pos rfl,h.piv]
  by_cases eq:q=a
  ·rw[if_pos eq];exact Int.le_of_lt (h.left j (by omega) (by omega))
  ·rw[if_neg eq,if_neg (by omega)];exact Int.le_of_lt (h.left q (by omega) (by omega))
 ·rw[e q,if_neg (by omega),if_neg (by omega),e j]
  have h3:x<=at0 ys q:=by have:=h.right q h1 h2;omega
  by_cases ea:j=a
  ·rw[if_pos ea,ea,h.piv];exact h3
  ·rw[if_neg ea,if_pos rfl,h.piv];exact h3
theorem Fo.start{p:Nat}(h:Zk w g o c xs a b (swp xs a p) wr)(hp:p<xs.length)(ha:a<xs.length):Fo w g o c xs a b L (at0 xs p) (a+1) (b-1) (swp xs a p) wr:=
 ⟨h,fun q h1 h2=>by omega,fun q h1 h2=>by omega,by
  rw[Ub xs a p a ha hp]
  by_cases e:a=p
  ·rw[if_pos e,e]
  ·rw[if_neg e,if_pos rfl]⟩
theorem Sr(h:WrU w g o c xs)(p:Nat)(hp:a<=p/\p<b)(hb:b<=xs.length)(hs:xs.length<=100000) :
  Calls prog 242 #[.slice (some ⟨g,o,none⟩) xs.length c,.int .i64 a,.int .i64 b,.int .i64 p] w fun r w'=>∃ k:Nat,r = .returned (.int .i64 k)/\∃ ys,Zk w g o c xs a b ys w'/\Ii ys a k b (at0 xs p):=by
 have hm:=h.le;unfold maxLen at hm;have c1:=h.cell a (by omega);have c2:=h.cell p (by omega)
 have f1:=h.frozen (o+a);have f2:=h.frozen (o+p)
 have hg:=h.lt;have H:=hid (Zk.refl h a b);have HP:=hid hp;have HB:=hid hb;clear h
 generalize hn:xs.length=m at *
 have HN:=hid hn;clear hn
 have b1:(a:Int)<m:=by omega
 have b2:(p:Int)<m:=by omega
 go_enter func242,ntmps242
 go_upto_region 1 with fail
 go_cut [] (fun wx=>Zk w g o c xs a b (swp xs a p) wx)
 case first=>
  by_cases hap:p=a
  ·subst hap
   go_region
   all_goals go_wp2_with fail
   all_goals go_meet
   all_goals exact H.out.swap p p (by omega) (by omega) (by omega) (by omega) (by rw[HN.out];omega)
  ·have hne:¬ o+p=o+a:=by omega
   go_region
   all_goals go_wp2_with fail
   all_goals go_meet
   all_goals exact H.out.swap a p (by omega) (by omega) (by omega) (by omega) (by rw[HN.out];omega)
 case rest=>
  generalize hx:at0 xs p=x at *
  have HX:=hid hx;clear hx
  have M1:Hid (Fo w g o c xs a b (· <= ·) x (a+1) (b-1) (swp xs a p) wc):=hid (by rw[<- HX.out];exact Fo.start hcut (by rw[HN.out];omega) (by rw[HN.out];omega));clear hcut c1 c2 f1 f2;go_wp2_with fail
  go_loopw [9,10] (fun u v wr=>∃ i j:Nat,a<i/\i<=j+1/\j<b/\u = .int .i64 i/\v = .int .i64 j/\∃ ys,Fo w g o c xs a b (· <= ·) x i j ys wr) (fun u _ _=>b+1-(intOf u).toNat)
  case atStart=>exact⟨a+1,b-1,by omega,by omega,by omega,by go_num,by rw[show((b-1:Nat):Int)=(b:Int)-1 by omega],_,M1.out⟩
  case round=>
   obtain⟨i,j,h1,h2,h3,rfl,rfl,ys,hP⟩:=hrel;have P:=hid hP;clear hP M1
   go_upto_block 2 with fail
   go_cut [9]from 29 to 45 (fun u wx=>∃ k:Nat,i<=k/\k<=j+1/\u = .int .i64 k/\Fo w g o c xs a b (· <= ·) x k j ys wx/\(k<=j->¬ at0 ys k<=x))
   case first=>
    go_wp2_with fail
    go_loopw [9] (fun u wx=>∃ k:Nat,i<=k/\k<=j+1/\u = .int .i64 k/\Fo w g o c xs a b (· <= ·) x k j ys wx) (fun u _=>b+1-(intOf u).toNat)
    case atStart=>exact⟨i,by omega,by omega,rfl,P.out⟩
    case round=>
     clear P;obtain⟨k,k1,k2,rfl,hP⟩:=hrel;have hyl:ys.length=m:=by rw[hP.mix.len,HN.out]
     have P:=hid hP
     by_cases hkj:k<=j
     ·have hkj':(k:Int)<=j:=by omega
      have d1:=hP.mix.own.cell a (by omega);have d2:=hP.mix.own.cell k (by omega)
      rw[hP.piv]at d1;have g1:(k:Int)<m:=by omega
      clear hP hyl
      by_cases hl:x<at0 ys k
      ·have hd:decide (x<at0 ys k)=true:=by simpa using hl
       have LQ:=hid (Zl _ _ _ hd);have HL:=hid hl;clear hd hl
       go_wp2_with fail
       go_quiet ((go_at_call 241;exact Calls.quiet_of_same (LQ.out _)))
       go_wp2_with fail
       go_meet
       exact⟨k,k1,k2,rfl,P.out.drewN _,fun _=>by have:=HL.out;omega⟩
      ·have hd:decide (x<at0 ys k)=false:=by simpa using hl
       have LQ:=hid (Zl _ _ _ hd);have HL:=hid hl;clear hd hl
       go_wp2_with fail
       go_quiet ((go_at_call 241;exact Calls.quiet_of_same (LQ.out _)))
       go_wp2_with fail
       go_roundw
       case rel=>exact⟨k+1,by omega,by omega,by go_num,(P.out.drewN _).up (by have:=HL.out;omega)⟩
       case measure=>simp[intOf];omega
     ·have hkj':decide ((k:Int)<=j)=false:=by simp;omega
      clear hP hyl;go_wp2_with fail
      go_quiet (fail)
      go_wp2_with fail
      go_meet
      exact⟨k,k1,k2,rfl,P.out.drewN _,fun h=>absurd h hkj⟩
   case rest=>
    clear P;obtain⟨k,k1,k2,rfl,p1,p2⟩:=hcut;have P:=hid p1;have PI:=hid p2;clear p1 p2
    go_upto_block 4 with fail
    go_cut [10]from 46 to 61 (fun u wx=>∃ l:Nat,k<=l+1/\l<=j/\u = .int .i64 l/\Fo w g o c xs a b (· <= ·) x k l ys wx/\(k<=l->at0 ys l<=x))
    case first=>
     go_wp2_with fail
     go_loopw [10] (fun u wx=>∃ l:Nat,k<=l+1/\l<=j/\u = .int .i64 l/\Fo w g o c xs a b (· <= ·) x k l ys wx) (fun u _=>(intOf u).toNat)
     case atStart=>exact⟨j,by omega,by omega,rfl,P.out⟩
     case round=>
      clear P;obtain⟨l,l1,l2,rfl,hP⟩:=hrel;have hyl:ys.length=m:=by rw[hP.mix.len,HN.out]
      have P:=hid hP
      by_cases hkj:k<=l
      ·have hkj':(k:Int)<=l:=by omega
       have d1:=hP.mix.own.cell a (by omega);have d2:=hP.mix.own.cell l (by omega)
       rw[hP.piv]at d1;have g1:(l:Int)<m:=by omega
       clear hP hyl
       by_cases hl:x<at0 ys l
       ·have hd:decide (x<at0 ys l)=true:=by simpa using hl
        have LQ:=hid (Zl _ _ _ hd);have HL:=hid hl;clear hd hl
        go_wp2_with fail
        go_quiet ((go_at_call 241;exact Calls.quiet_of_same (LQ.out _)))
        go_wp2_with fail
        go_roundw
        case rel=>exact⟨l-1,by omega,by omega,by rw[show((l-1:Nat):Int)=(l:Int)-1 by omega],(P.out.drewN _).down (by omega) (by have:=HL.out;omega)⟩
        case measure=>simp[intOf];omega
       ·have hd:decide (x<at0 ys l)=false:=by simpa using hl
        have LQ:=hid (Zl _ _ _ hd);have HL:=hid hl;clear hd hl
        go_wp2_with fail
        go_quiet ((go_at_call 241;exact Calls.quiet_of_same (LQ.out _)))
        go_wp2_with fail
        go_meet
        exact⟨l,l1,l2,rfl,P.out.drewN _,fun _=>by have:=HL.out;omega⟩
      ·have hkj':decide ((k:Int)<=l)=false:=by simp;omega
       clear hP hyl;go_wp2_with fail
       go_quiet (fail)
       go_wp2_with fail
       go_meet
       exact⟨l,l1,l2,rfl,P.out.drewN _,fun h=>absurd h hkj⟩
    case rest=>
     clear P;obtain⟨l,l1,l2,rfl,p1,p2⟩:=hcut;have P:=hid p1;have PD:=hid p2;clear p1 p2
     have P0:=P.out;have hyl:ys.length=m:=by rw[P0.mix.len,HN.out]
     by_cases hkl:l<k
     ·have hkl':(l:Int)<k:=by omega
      clear P0 hyl;go_wp2_with fail
      go_ret
      exact⟨k,rfl,ys,P.out.mix,by omega,by omega,fun q q1 q2=>by
       rw[HX.out]
       by_cases e:q=a
       ·rw[e,P.out.piv];exact Int.le_refl _
       ·exact P.out.left q (by omega) q2⟩
     ·have hkl':¬ (l:Int)<k:=by omega
      have hlt:k<l:=by
       have e1:=PI.out (by omega);have e2:=PD.out (by omega)
       by_cases e:k=l
       ·subst e;exact absurd e2 e1
       ·omega
      have d1:=P0.mix.own.cell k (by omega);have d2:=P0.mix.own.cell l (by omega)
      have f1:=P0.mix.own.frozen (o+k);have f2:=P0.mix.own.frozen (o+l)
      have hgz:=P0.mix.own.lt;have hne:¬ o+l=o+k:=by omega
      have g1:(k:Int)<m:=by omega
      have g2:(l:Int)<m:=by omega
      clear P0 hyl;go_wp2_with fail
      go_region
      all_goals go_wp2_with fail
      all_goals
       go_roundw
       case rel=>exact⟨k+1,l-1,by omega,by omega,by omega,by go_num,by rw[show((l-1:Nat):Int)=(l:Int)-1 by omega],_,P.out.swap (by omega) hlt (by omega) (by rw[HN.out];exact hb) (by have:=PI.out (by omega);omega) (by have:=PD.out (by omega);omega)⟩
       case measure=>simp[intOf];omega
theorem Qax(h:WrU w g o c xs)(p:Nat)(hp:a<=p/\p<b)(hb:b<=xs.length)(hs:xs.length<=100000) :
  Calls prog 243 #[.slice (some ⟨g,o,none⟩) xs.length c,.int .i64 a,.int .i64 b,.int .i64 p] w fun r w'=>∃ (k:Nat) (t:Bool),r = .returned (.tuple #[.int .i64 k,.bool t])/\∃ ys,Zk w g o c xs a b ys w'/\Ls ys a k b:=by
 have hm:=h.le;unfold maxLen at hm;have c1:=h.cell a (by omega);have c2:=h.cell p (by omega)
 have f1:=h.frozen (o+a);have f2:=h.frozen (o+p)
 have hg:=h.lt;have H:=hid (Zk.refl h a b);have HP:=hid hp;have HB:=hid hb;clear h
 generalize hn:xs.length=m at *
 have HN:=hid hn;clear hn
 have b1:(a:Int)<m:=by omega
 have b2:(p:Int)<m:=by omega
 go_enter func243,ntmps243
 go_upto_region 1 with fail
 go_cut [] (fun wx=>Zk w g o c xs a b (swp xs a p) wx)
 case first=>
  by_cases hap:p=a
  ·subst hap
   go_region
   all_goals go_wp2_with fail
   all_goals go_meet
   all_goals exact H.out.swap p p (by omega) (by omega) (by omega) (by omega) (by rw[HN.out];omega)
  ·have hne:¬ o+p=o+a:=by omega
   go_region
   all_goals go_wp2_with fail
   all_goals go_meet
   all_goals exact H.out.swap a p (by omega) (by omega) (by omega) (by omega) (by rw[HN.out];omega)
 case rest=>
  generalize hx:at0 xs p=x at *
  have HX:=hid hx;clear hx
  have P:Hid (Fo w g o c xs a b (· < ·) x (a+1) (b-1) (swp xs a p) wc):=hid (by rw[<- HX.out];exact Fo.start hcut (by rw[HN.out];omega) (by rw[HN.out];omega));clear hcut c1 c2 f1 f2
  generalize swp xs a p=ys at *
  obtain⟨i,hi⟩:∃ i,a+1=i:=⟨_,rfl⟩;obtain⟨j,hj⟩:∃ j,b-1=j:=⟨_,rfl⟩;rw[hi,hj]at P;have q6:(a:Int)+1=i:=by omega
  have q7:(b:Int)-1=j:=by omega
  have h1:a<i:=by omega
  have h2:i<=j+1:=by omega
  have h3:j<b:=by omega
  clear hi hj
  go_upto_block 0 with fail
  go_cut [10]from 30 to 45 (fun u wx=>∃ k:Nat,i<=k/\k<=j+1/\u = .int .i64 k/\Fo w g o c xs a b (· < ·) x k j ys wx/\(k<=j->¬ at0 ys k<x))
  case first=>
   go_wp2_with fail
   go_loopw [10] (fun u wx=>∃ k:Nat,i<=k/\k<=j+1/\u = .int .i64 k/\Fo w g o c xs a b (· < ·) x k j ys wx) (fun u _=>b+1-(intOf u).toNat)
   case atStart=>exact⟨i,by omega,by omega,rfl,P.out⟩
   case round=>
    clear P;obtain⟨k,k1,k2,rfl,hP⟩:=hrel;have hyl:ys.length=m:=by rw[hP.mix.len,HN.out]
    have P:=hid hP
    by_cases hkj:k<=j
    ·have hkj':(k:Int)<=j:=by omega
     have d1:=hP.mix.own.cell a (by omega);have d2:=hP.mix.own.cell k (by omega)
     rw[hP.piv]at d1;have g1:(k:Int)<m:=by omega
     clear hP hyl
     by_cases hl:at0 ys k<x
     ·have hd:decide (at0 ys k<x)=true:=by simpa using hl
      have LQ:=hid (Zl _ _ _ hd);have HL:=hid hl;clear hd hl
      go_wp2_with fail
      go_quiet ((go_at_call 241;exact Calls.quiet_of_same (LQ.out _)))
      go_wp2_with fail
      go_roundw
      case rel=>exact⟨k+1,by omega,by omega,by go_num,(P.out.drewN _).up HL.out⟩
      case measure=>simp[intOf];omega
     ·have hd:decide (at0 ys k<x)=false:=by simpa using hl
      have LQ:=hid (Zl _ _ _ hd);have HL:=hid hl;clear hd hl
      go_wp2_with fail
      go_quiet ((go_at_call 241;exact Calls.quiet_of_same (LQ.out _)))
      go_wp2_with fail
      go_meet
      exact⟨k,k1,k2,rfl,P.out.drewN _,fun _=>by have:=HL.out;omega⟩
    ·have hkj':decide ((k:Int)<=j)=false:=by simp;omega
     clear hP hyl;go_wp2_with fail
     go_quiet (fail)
     go_wp2_with fail
     go_meet
     exact⟨k,k1,k2,rfl,P.out.drewN _,fun h=>absurd h hkj⟩
  case rest=>
   clear P;obtain⟨k,k1,k2,rfl,p1,p2⟩:=hcut;have P:=hid p1;have PI:=hid p2;clear p1 p2
   go_upto_block 2 with fail
   go_cut [11]from 46 to 62 (fun u wx=>∃ l:Nat,k<=l+1/\l<=j/\u = .int .i64 l/\Fo w g o c xs a b (· < ·) x k l ys wx/\(k<=l->at0 ys l<x))
   case first=>
    go_wp2_with fail
    go_loopw [11] (fun u wx=>∃ l:Nat,k<=l+1/\l<=j/\u = .int .i64 l/\Fo w g o c xs a b (· < ·) x k l ys wx) (fun u _=>(intOf u).toNat)
    case atStart=>exact⟨j,by omega,by omega,rfl,P.out⟩
    case round=>
     clear P;obtain⟨l,l1,l2,rfl,hP⟩:=hrel;have hyl:ys.length=m:=by rw[hP.mix.len,HN.out]
     have P:=hid hP
     by_cases hkj:k<=l
     ·have hkj':(k:Int)<=l:=by omega
      have d1:=hP.mix.own.cell a (by omega);have d2:=hP.mix.own.cell l (by omega)
      rw[hP.piv]at d1;have g1:(l:Int)<m:=by omega
      clear hP hyl
      by_cases hl:at0 ys l<x
      ·have hd:decide (at0 ys l<x)=true:=by simpa using hl
       have LQ:=hid (Zl _ _ _ hd);have HL:=hid hl;clear hd hl
       go_wp2_with fail
       go_quiet ((go_at_call 241;exact Calls.quiet_of_same (LQ.out _)))
       go_wp2_with fail
       go_meet
       exact⟨l,l1,l2,rfl,P.out.drewN _,fun _=>by have:=HL.out;omega⟩
      ·have hd:decide (at0 ys l<x)=false:=by simpa using hl
       have LQ:=hid (Zl _ _ _ hd);have HL:=hid hl;clear hd hl
       go_wp2_with fail
       go_quiet ((go_at_call 241;exact Calls.quiet_of_same (LQ.out _)))
       go_wp2_with fail
       go_roundw
       case rel=>exact⟨l-1,by omega,by omega,by rw[show((l-1:Nat):Int)=(l:Int)-1 by omega],(P.out.drewN _).down (by omega) (by have:=HL.out;omega)⟩
       case measure=>simp[intOf];omega
     ·have hkj':decide ((k:Int)<=l)=false:=by simp;omega
      clear hP hyl;go_wp2_with fail
      go_quiet (fail)
      go_wp2_with fail
      go_meet
      exact⟨l,l1,l2,rfl,P.out.drewN _,fun h=>absurd h hkj⟩
   case rest=>
    clear P;obtain⟨l,l1,l2,rfl,p1,p2⟩:=hcut;have P:=hid p1;have PD:=hid p2;clear p1 p2
    have P0:=P.out;have hyl:ys.length=m:=by rw[P0.mix.len,HN.out]
    by_cases hkl:l<k
    ·have hkl':(l:Int)<k:=by omega
     have d1:=P0.mix.own.cell l (by omega);have d2:=P0.mix.own.cell a (by omega)
     have f1:=P0.mix.own.frozen (o+l);have f2:=P0.mix.own.frozen (o+a)
     have hgz:=P0.mix.own.lt;have g1:(l:Int)<m:=by omega
     have PE:=hid (P0.stop (show k=l+1 by omega) (by omega) (by omega) (by omega) (by rw[HN.out];exact hb));clear P0 hyl
     by_cases hla:l=a
     ·subst hla
      go_wp2_with fail
      go_region
      all_goals go_wp2_with fail
      all_goals go_ret2
      all_goals exact⟨l,true,rfl,_,PE.out.1,PE.out.2⟩
     ·have hne:¬ o+a=o+l:=by omega
      go_wp2_with fail
      go_region
      all_goals go_wp2_with fail
      all_goals go_ret2
      all_goals exact⟨l,true,rfl,_,PE.out.1,PE.out.2⟩
    ·have hkl':¬ (l:Int)<k:=by omega
     have hlt:k<l:=by
      have e1:=PI.out (by omega);have e2:=PD.out (by omega)
      by_cases e:k=l
      ·subst e;exact absurd e2 e1
      ·omega
     have d1:=P0.mix.own.cell k (by omega);have d2:=P0.mix.own.cell l (by omega)
     have f1:=P0.mix.own.frozen (o+k);have f2:=P0.mix.own.frozen (o+l)
     have hgz:=P0.mix.own.lt;have hne:¬ o+l=o+k:=by omega
     have g1:(k:Int)<m:=by omega
     have g2:(l:Int)<m:=by omega
     have PS:=hid (P0.swap (by omega) hlt (by omega) (by rw[HN.out];exact hb) (by have:=PI.out (by omega);omega) (by have:=PD.out (by omega);omega));clear P0 hyl;go_wp2_with fail
     go_region
     all_goals go_wp2_with fail
     go_loopw [10,11] (fun u v wr=>∃ i j:Nat,a<i/\i<=j+1/\j<b/\u = .int .i64 i/\v = .int .i64 j/\∃ ys,Fo w g o c xs a b (· < ·) x i j ys wr) (fun u _ _=>b+1-(intOf u).toNat)
     case atStart=>exact⟨k+1,l-1,by omega,by omega,by omega,by go_num,by rw[show((l-1:Nat):Int)=(l:Int)-1 by omega],_,PS.out⟩
     case round=>
      clear P PI PD PS h1 h2 h3 k1 k2 l1 l2 hkl hkl' hlt d1 d2 f1 f2 hgz hne g1 g2 q6 q7;obtain⟨i,j,h1,h2,h3,rfl,rfl,ys,hP⟩:=hrel;have P:=hid hP;clear hP
      go_upto_block 6 with fail
      go_cut [10]from 99 to 114 (fun u wx=>∃ k:Nat,i<=k/\k<=j+1/\u = .int .i64 k/\Fo w g o c xs a b (· < ·) x k j ys wx/\(k<=j->¬ at0 ys k<x))
      case first=>
       go_wp2_with fail
       go_loopw [10] (fun u wx=>∃ k:Nat,i<=k/\k<=j+1/\u = .int .i64 k/\Fo w g o c xs a b (· < ·) x k j ys wx) (fun u _=>b+1-(intOf u).toNat)
       case atStart=>exact⟨i,by omega,by omega,rfl,P.out⟩
       case round=>
        clear P;obtain⟨k,k1,k2,rfl,hP⟩:=hrel;have hyl:ys.length=m:=by rw[hP.mix.len,HN.out]
        have P:=hid hP
        by_cases hkj:k<=j
        ·have hkj':(k:Int)<=j:=by omega
         have d1:=hP.mix.own.cell a (by omega);have d2:=hP.mix.own.cell k (by omega)
         rw[hP.piv]at d1;have g1:(k:Int)<m:=by omega
         clear hP hyl
         by_cases hl:at0 ys k<x
         ·have hd:decide (at0 ys k<x)=true:=by simpa using hl
          have LQ:=hid (Zl _ _ _ hd);have HL:=hid hl;clear hd hl
          go_wp2_with fail
          go_quiet ((go_at_call 241;exact Calls.quiet_of_same (LQ.out _)))
          go_wp2_with fail
          go_roundw
          case rel=>exact⟨k+1,by omega,by omega,by go_num,(P.out.drewN _).up HL.out⟩
          case measure=>simp[intOf];omega
         ·have hd:decide (at0 ys k<x)=false:=by simpa using hl
          have LQ:=hid (Zl _ _ _ hd);have HL:=hid hl;clear hd hl
          go_wp2_with fail
          go_quiet ((go_at_call 241;exact Calls.quiet_of_same (LQ.out _)))
          go_wp2_with fail
          go_meet
          exact⟨k,k1,k2,rfl,P.out.drewN _,fun _=>by have:=HL.out;omega⟩
        ·have hkj':decide ((k:Int)<=j)=false:=by simp;omega
         clear hP hyl;go_wp2_with fail
         go_quiet (fail)
         go_wp2_with fail
         go_meet
         exact⟨k,k1,k2,rfl,P.out.drewN _,fun h=>absurd h hkj⟩
      case rest=>
       clear P;obtain⟨k,k1,k2,rfl,p1,p2⟩:=hcut;have P:=hid p1;have PI:=hid p2;clear p1 p2
       go_upto_block 8 with fail
       go_cut [11]from 115 to 131 (fun u wx=>∃ l:Nat,k<=l+1/\l<=j/\u = .int .i64 l/\Fo w g o c xs a b (· < ·) x k l ys wx/\(k<=l->at0 ys l<x))
       case first=>
        go_wp2_with fail
        go_loopw [11] (fun u wx=>∃ l:Nat,k<=l+1/\l<=j/\u = .int .i64 l/\Fo w g o c xs a b (· < ·) x k l ys wx) (fun u _=>(intOf u).toNat)
        case atStart=>exact⟨j,by omega,by omega,rfl,P.out⟩
        case round=>
         clear P;obtain⟨l,l1,l2,rfl,hP⟩:=hrel;have hyl:ys.length=m:=by rw[hP.mix.len,HN.out]
         have P:=hid hP
         by_cases hkj:k<=l
         ·have hkj':(k:Int)<=l:=by omega
          have d1:=hP.mix.own.cell a (by omega);have d2:=hP.mix.own.cell l (by omega)
          rw[hP.piv]at d1;have g1:(l:Int)<m:=by omega
          clear hP hyl
          by_cases hl:at0 ys l<x
          ·have hd:decide (at0 ys l<x)=true:=by simpa using hl
           have LQ:=hid (Zl _ _ _ hd);have HL:=hid hl;clear hd hl
           go_wp2_with fail
           go_quiet ((go_at_call 241;exact Calls.quiet_of_same (LQ.out _)))
           go_wp2_with fail
           go_meet
           exact⟨l,l1,l2,rfl,P.out.drewN _,fun _=>by have:=HL.out;omega⟩
          ·have hd:decide (at0 ys l<x)=false:=by simpa using hl
           have LQ:=hid (Zl _ _ _ hd);have HL:=hid hl;clear hd hl
           go_wp2_with fail
           go_quiet ((go_at_call 241;exact Calls.quiet_of_same (LQ.out _)))
           go_wp2_with fail
           go_roundw
           case rel=>exact⟨l-1,by omega,by omega,by rw[show((l-1:Nat):Int)=(l:Int)-1 by omega],(P.out.drewN _).down (by omega) (by have:=HL.out;omega)⟩
           case measure=>simp[intOf];omega
         ·have hkj':decide ((k:Int)<=l)=false:=by simp;omega
          clear hP hyl;go_wp2_with fail
          go_quiet (fail)
          go_wp2_with fail
          go_meet
          exact⟨l,l1,l2,rfl,P.out.drewN _,fun h=>absurd h hkj⟩
       case rest=>
        clear P;obtain⟨l,l1,l2,rfl,p1,p2⟩:=hcut;have P:=hid p1;have PD:=hid p2;clear p1 p2
        have P0:=P.out;have hyl:ys.length=m:=by rw[P0.mix.len,HN.out]
        by_cases hkl:l<k
        ·have hkl':(l:Int)<k:=by omega
         have d1:=P0.mix.own.cell l (by omega);have d2:=P0.mix.own.cell a (by omega)
         have f1:=P0.mix.own.frozen (o+l);have f2:=P0.mix.own.frozen (o+a)
         have hgz:=P0.mix.own.lt;have g1:(l:Int)<m:=by omega
         have PE:=hid (P0.stop (show k=l+1 by omega) (by omega) (by omega) (by omega) (by rw[HN.out];exact hb));clear P0 hyl
         by_cases hla:l=a
         ·subst hla
          go_wp2_with fail
          go_region
          all_goals go_wp2_with fail
          all_goals go_ret2
          all_goals exact⟨l,false,rfl,_,PE.out.1,PE.out.2⟩
         ·have hne:¬ o+a=o+l:=by omega
          go_wp2_with fail
          go_region
          all_goals go_wp2_with fail
          all_goals go_ret2
          all_goals exact⟨l,false,rfl,_,PE.out.1,PE.out.2⟩
        ·have hkl':¬ (l:Int)<k:=by omega
         have hlt:k<l:=by
          have e1:=PI.out (by omega);have e2:=PD.out (by omega)
          by_cases e:k=l
          ·subst e;exact absurd e2 e1
          ·omega
         have d1:=P0.mix.own.cell k (by omega);have d2:=P0.mix.own.cell l (by omega)
         have f1:=P0.mix.own.frozen (o+k);have f2:=P0.mix.own.frozen (o+l)
         have hgz:=P0.mix.own.lt;have hne:¬ o+l=o+k:=by omega
         have g1:(k:Int)<m:=by omega
         have g2:(l:Int)<m:=by omega
         have PS:=hid (P0.swap (by omega) hlt (by omega) (by rw[HN.out];exact hb) (by have:=PI.out (by omega);omega) (by have:=PD.out (by omega);omega));clear P0 hyl;go_wp2_with fail
         go_region
         all_goals go_wp2_with fail
         all_goals
          go_roundw
          case rel=>exact⟨k+1,l-1,by omega,by omega,by omega,by go_num,by rw[show((l-1:Nat):Int)=(l:Int)-1 by omega],_,PS.out⟩
          case measure=>simp[intOf];omega
end
end

section
section
variable{w:World}{g o c a b:Nat}{xs ys zs:List Int}{wr:World}
theorem Qqy.mix(h:Qqy xs a b)(hm:Yi xs ys a b)(hb:b<=xs.length):Qqy ys a b:=fun q h1 h2 h3=>by
 rw[hm.out (a-1) (.inl (by omega))];exact hm.all hb (P:=fun y=>at0 xs (a-1)<=y) (fun r h4 h5=>h r h4 h5 h3) q h1 h2
theorem Qlu(l:List Int)(a:Nat):Uv l a (a+1):=fun p q h1 h2 h3=>by omega
theorem Qri{l:List Int}{a i:Nat}(h:Uv l a i)(hi:a<i)(hl:at0 l (i-1)<=at0 l i):Uv l a (i+1):=fun p q h1 h2 h3=>by
 by_cases e:q=i
 ·subst e
  by_cases e2:p=q-1
  ·rw[e2];exact hl
  ·exact Int.le_trans (h p (q-1) h1 (by omega) (by omega)) hl
 ·exact h p q h1 h2 (by omega)
theorem Qg2{l m:List Int}{a i:Nat}(h:Uv l a i)(he:∀ p,p<i->at0 m p=at0 l p):Uv m a i:=fun p q h1 h2 h3=>by
 rw[he p (by omega),he q h3];exact h p q h1 h2 h3
structure Qby(w:World)(g o c:Nat)(xs:List Int)(a b i:Nat)(ys:List Int)(wr:World):Prop where
 mix:Zk w g o c xs a b ys wr
 asc:Uv ys a i
theorem Qby.drewN{i:Nat}(h:Qby w g o c xs a b i ys wr)(n:Nat):Qby w g o c xs a b i ys (wr.drewN n):=⟨h.mix.drewN n,h.asc⟩
def Quu(w:World)(g o c:Nat)(xs:List Int)(a b:Nat)(r:Ending)(w':World):Prop:=∃ t:Bool,r = .returned (.bool t)/\∃ ys,Zk w g o c xs a b ys w'/\(t=true->Uv ys a b)
structure Qih(w:World)(g o c:Nat)(xs:List Int)(a b k j:Nat)(ys:List Int)(wr:World):Prop where
 mix:Zk w g o c xs a b ys wr
 ins:Tq ys a (k-1) j
theorem Qih.drewN{k j:Nat}(h:Qih w g o c xs a b k j ys wr)(n:Nat):Qih w g o c xs a b k j ys (wr.drewN n):=⟨h.mix.drewN n,h.ins⟩
theorem Qih.start{k:Nat}(h:Qby w g o c xs a b k ys wr)(hk:a+1<k)(hkb:k<b)(hb:b<=xs.length) :
  Qih w g o c xs a b k (k-1) (swp ys k (k-1)) ((wr.setCell ⟨g,o+k,none⟩ (.int .u64 (at0 ys (k-1)))).setCell ⟨g,o+(k-1),none⟩ (.int .u64 (at0 ys k))).drew:=by
 have hl:=h.mix.len;refine⟨h.mix.swap k (k-1) (by omega) hkb (by omega) (by omega) hb,Pb _ _ _ ?_⟩
 exact Qg2 (fun p q h1 h2 h3=>h.asc p q h1 h2 (by omega)) (fun p hp=>by rw[Ub ys k (k-1) p (by omega) (by omega),if_neg (by omega),if_neg (by omega)])
theorem Qby.swap0{k:Nat}(h:Qby w g o c xs a b k ys wr)(hk:a+1=k)(hkb:k<b)(hb:b<=xs.length) :
  Qby w g o c xs a b k (swp ys k (k-1)) ((wr.setCell ⟨g,o+k,none⟩ (.int .u64 (at0 ys (k-1)))).setCell ⟨g,o+(k-1),none⟩ (.int .u64 (at0 ys k))).drew:=
 ⟨h.mix.swap k (k-1) (by omega) hkb (by omega) (by omega) hb,by rw[<- hk];exact Qlu _ _⟩
theorem Qby.swapR{k j:Nat}(h:Qby w g o c xs a b k ys wr)(hk:a<k)(hj:k<j)(hjb:j<b)(hb:b<=xs.length) :
  Qby w g o c xs a b k (swp ys j (j-1)) ((wr.setCell ⟨g,o+j,none⟩ (.int .u64 (at0 ys (j-1)))).setCell ⟨g,o+(j-1),none⟩ (.int .u64 (at0 ys j))).drew:=by
 have hl:=h.mix.len;exact⟨h.mix.swap j (j-1) (by omega) hjb (by omega) (by omega) hb,Qg2 h.asc (fun p hp=>by rw[Ub ys j (j-1) p (by omega) (by omega),if_neg (by omega),if_neg (by omega)])⟩
theorem Qih.swap{k j:Nat}(h:Qih w g o c xs a b k j ys wr)(haj:a<j)(hjk:j+1<=k)(hkb:k<b)(hb:b<=xs.length)(hl:at0 ys j<at0 ys (j-1)) :
  Qih w g o c xs a b k (j-1) (swp ys j (j-1)) ((wr.setCell ⟨g,o+j,none⟩ (.int .u64 (at0 ys (j-1)))).setCell ⟨g,o+(j-1),none⟩ (.int .u64 (at0 ys j))).drew:=by
 have hlen:=h.mix.len;exact⟨h.mix.swap j (j-1) (by omega) (by omega) (by omega) (by omega) hb,Bj ys a (k-1) j h.ins haj (by omega) (by omega) hl⟩
theorem Qih.stop{k j:Nat}(h:Qih w g o c xs a b k j ys wr)(haj:a<=j)(hjk:j+1<=k)(hj:j=a\/at0 ys (j-1)<=at0 ys j):Qby w g o c xs a b k ys wr:=
 ⟨h.mix,by have:=El ys a (k-1) j h.ins haj (by omega) hj;rwa [show k-1+1=k by omega]at this⟩
theorem Tl(h:WrU w g o c xs)(hab:a<b)(hb:b<=xs.length)(hs:xs.length<=100000)(hlow:Qqy xs a b) :
  Calls prog 240 #[.slice (some ⟨g,o,none⟩) xs.length c,.int .i64 a,.int .i64 b] w (Quu w g o c xs a b):=by
 have hm:=h.le;unfold maxLen at hm;have H:=hid (Zk.refl h a b);have HB:=hid hb;have HLO:=hid hlow;clear h hlow
 generalize hn:xs.length=m at *
 have HN:=hid hn;clear hn
 go_enter func240,ntmps240
 go_wp2_with fail
 go_loopw [7,8] (fun u v wr=>∃ i n:Nat,a<i/\i<=b/\n<=5/\u = .int .i64 i/\v = .int .i64 n/\∃ ys,Qby w g o c xs a b i ys wr) (fun _ v _=>5-(intOf v).toNat)
 case atStart=>exact⟨a+1,0,by omega,by omega,by omega,by go_num,rfl,xs,H.out,Qlu _ _⟩
 case round=>
  obtain⟨i,n,h1,h2,h3,rfl,rfl,ys,hP⟩:=hrel;have P:=hid hP;clear hP H
  by_cases hn5:n<5
  ·have hn5':(n:Int)<5:=by omega
   go_upto_block 2 with fail
   go_cut [7]from 17 to 34 (fun u wx=>∃ k:Nat,i<=k/\k<=b/\u = .int .i64 k/\Qby w g o c xs a b k ys wx/\(k<b->at0 ys k<at0 ys (k-1)))
   case first=>
    go_wp2_with fail
    go_loopw [7] (fun u wx=>∃ k:Nat,i<=k/\k<=b/\u = .int .i64 k/\Qby w g o c xs a b k ys wx) (fun u _=>b+1-(intOf u).toNat)
    case atStart=>exact⟨i,by omega,by omega,rfl,P.out⟩
    case round=>
     clear P;obtain⟨k,k1,k2,rfl,hP⟩:=hrel;have hyl:ys.length=m:=by rw[hP.mix.len,HN.out]
     have P:=hid hP
     by_cases hkb:k<b
     ·have hkb':(k:Int)<b:=by omega
      have d1:=hP.mix.own.cell k (by omega);have d2:=hP.mix.own.cell (k-1) (by omega)
      have g1:(k:Int)<m:=by omega
      have g2:(k:Int)-1<m:=by omega
      have g3:IntKind.i64.wrap ((k:Int)-1)=(k:Int)-1:=IntWalk.i64_in _ (by omega);have g4:((k:Int)-1).toNat=k-1:=by omega
      have g5:(0:Int)<=(k:Int)-1:=by omega
      have g6:(1:Int)<=(k:Int):=by omega
      clear hP hyl
      by_cases hl:at0 ys k<at0 ys (k-1)
      ·have hd:decide (at0 ys k<at0 ys (k-1))=true:=by simpa using hl
       have LQ:=hid (Zl _ _ _ hd);have HL:=hid hl;clear hd hl
       go_wp2_with fail
       go_quiet ((go_at_call 241;exact Calls.quiet_of_same (LQ.out _)))
       go_wp2_with fail
       go_meet
       exact⟨k,k1,k2,rfl,P.out.drewN _,fun _=>HL.out⟩
      ·have hd:decide (at0 ys k<at0 ys (k-1))=false:=by simpa using hl
       have LQ:=hid (Zl _ _ _ hd);have HL:=hid hl;clear hd hl
       go_wp2_with fail
       go_quiet ((go_at_call 241;exact Calls.quiet_of_same (LQ.out _)))
       go_wp2_with fail
       go_roundw
       case rel=>exact⟨k+1,by omega,by omega,by go_num,(P.out.drewN _).mix,Qri P.out.asc (by omega) (by have:=HL.out;omega)⟩
       case measure=>simp[intOf];omega
     ·have hkb':decide ((k:Int)<b)=false:=by simp;omega
      clear hP hyl;go_wp2_with fail
      go_quiet (fail)
      go_wp2_with fail
      go_meet
      exact⟨k,k1,k2,rfl,P.out.drewN _,fun h=>absurd h hkb⟩
   case rest=>
    clear P;obtain⟨k,k1,k2,rfl,p1,p2⟩:=hcut;have P:=hid p1;have PI:=hid p2;clear p2
    have hyl:ys.length=m:=by rw[p1.mix.len,HN.out]
    by_cases hkb:k=b
    ·subst hkb
     clear p1 hyl;go_wp2_with fail
     go_ret
     exact⟨true,rfl,ys,P.out.mix,fun _=>P.out.asc⟩
    ·have hkb':((k:Int)==b)=false:=by simp;omega
     by_cases h50:b<a+50
     ·have h50':(b:Int)-a<50:=by omega
      clear p1 hyl;go_wp2_with fail
      go_ret
      exact⟨false,rfl,ys,P.out.mix,fun h=>by cases h⟩
     ·have h50':¬ (b:Int)-a<50:=by omega
      have d1:=p1.mix.own.cell k (by omega);have d2:=p1.mix.own.cell (k-1) (by omega)
      have f1:=p1.mix.own.frozen (o+k);have f2:=p1.mix.own.frozen (o+(k-1))
      have hgz:=p1.mix.own.lt;have hne:¬ o+(k-1)=o+k:=by omega
      have g1:(k:Int)<m:=by omega
      have g2:(k:Int)-1<m:=by omega
      have g3:IntKind.i64.wrap ((k:Int)-1)=(k:Int)-1:=IntWalk.i64_in _ (by omega);have g4:((k:Int)-1).toNat=k-1:=by omega
      have g5:(0:Int)<=(k:Int)-1:=by omega
      have g6:(1:Int)<=(k:Int):=by omega
      clear p1 hyl;have PS0:=hid (fun hk1=>P.out.swap0 hk1 (by omega) (by rw[HN.out];exact hb));have PS1:=hid (fun hk1=>Qih.start P.out hk1 (by omega) (by rw[HN.out];exact hb));go_wp2_with fail
      go_region
      go_upto_if 61 with fail
      clear d1 d2 f1 f2 hgz hne g1 g2 g3 g4 g5 g6
      go_cut [9]from 61 to 94 (fun _ wx=>∃ zs,Qby w g o c xs a b k zs wx)
      case first=>
       by_cases hk1:a+1=k
       ·have hk1':¬ (2:Int)<=(k:Int)-a:=by omega
        go_wp2_with fail
        go_meet
        exact⟨_,PS0.out hk1⟩
       ·have hk1':(2:Int)<=(k:Int)-a:=by omega
        have PS:=hid (PS1.out (by omega));go_wp2_with fail
        go_loopw [9] (fun u wx=>∃ j:Nat,a<=j/\j+1<=k/\u = .int .i64 j/\∃ zs,Qih w g o c xs a b k j zs wx) (fun u _=>(intOf u).toNat)
        case atStart=>exact⟨k-1,by omega,by omega,by rw[show((k-1:Nat):Int)=(k:Int)-1 by omega],_,PS.out⟩
        case round=>
         clear PS PS0 PS1;obtain⟨j,j1,j2,rfl,zs,hS⟩:=hrel;have hzl:zs.length=m:=by rw[hS.mix.len,HN.out]
         have S:=hid hS;have LB:=hid (HLO.out.mix hS.mix.mix (by rw[HN.out];exact hb))
         by_cases hj0:j=0
         ·subst hj0
          clear hS hzl;go_wp2_with fail
          go_meet
          exact⟨_,S.out.stop j1 j2 (.inl (by omega))⟩
         ·have hj0':(1:Int)<=j:=by omega
          have d1:=hS.mix.own.cell j (by omega);have d2:=hS.mix.own.cell (j-1) (by omega)
          have f1:=hS.mix.own.frozen (o+j);have f2:=hS.mix.own.frozen (o+(j-1))
          have hgz:=hS.mix.own.lt;have hne:¬ o+(j-1)=o+j:=by omega
          have g1:(j:Int)<m:=by omega
          have g2:(j:Int)-1<m:=by omega
          have g3:IntKind.i64.wrap ((j:Int)-1)=(j:Int)-1:=IntWalk.i64_in _ (by omega);have g4:((j:Int)-1).toNat=j-1:=by omega
          have g5:(0:Int)<=(j:Int)-1:=by omega
          clear hS hzl
          by_cases hl:at0 zs j<at0 zs (j-1)
          ·have hja:a<j:=by
            rcases Nat.lt_or_ge a j with h | h
            ·exact h
            ·have hja:j=a:=by omega
             subst hja;have:=LB.out j (Nat.le_refl _) (by omega) (by omega);omega
           have hd:decide (at0 zs j<at0 zs (j-1))=true:=by simpa using hl
           have LQ:=hid (Zl _ _ _ hd);have HL:=hid hl;clear hd hl
           go_wp2_with fail
           go_quiet ((go_at_call 241;exact Calls.quiet_of_same (LQ.out _)))
           go_wp2_with fail
           obtain⟨wq,hwq⟩:∃ wq,wr.drewN nq=wq:=⟨_,rfl⟩;rw[hwq];have S2:Hid (Qih w g o c xs a b k j zs wq):=hid (by rw[<- hwq];exact S.out.drewN _);clear hwq d1 d2 f1 f2 hgz;have d1:=S2.out.mix.own.cell j (by rw[S2.out.mix.len,HN.out];omega);have d2:=S2.out.mix.own.cell (j-1) (by rw[S2.out.mix.len,HN.out];omega)
           have f1:=S2.out.mix.own.frozen (o+j);have f2:=S2.out.mix.own.frozen (o+(j-1))
           have hgz:=S2.out.mix.own.lt
           go_region
           all_goals go_wp2_with fail
           all_goals
            go_roundw
            case rel=>exact⟨j-1,by omega,by omega,by rw[show((j-1:Nat):Int)=(j:Int)-1 by omega],_,S2.out.swap hja j2 (by omega) (by rw[HN.out];exact hb) HL.out⟩
            case measure=>simp[intOf];omega
          ·have hd:decide (at0 zs j<at0 zs (j-1))=false:=by simpa using hl
           have LQ:=hid (Zl _ _ _ hd);have HL:=hid hl;clear hd hl
           go_wp2_with fail
           go_quiet ((go_at_call 241;exact Calls.quiet_of_same (LQ.out _)))
           go_wp2_with fail
           go_meet
           exact⟨_,(S.out.drewN _).stop j1 j2 (.inr (by have:=HL.out;omega))⟩
      case rest=>
       clear P PS0 PS1;obtain⟨zs,p1⟩:=hcut;have P:=hid p1;clear p1
       by_cases hk2:b<k+2
       ·have hk2':¬ (2:Int)<=(b:Int)-k:=by omega
        go_wp2_with fail
        go_roundw
        case rel=>exact⟨k,n+1,by omega,k2,by omega,rfl,by go_num,_,P.out⟩
        case measure=>simp[intOf];omega
       ·have hk2':(2:Int)<=(b:Int)-k:=by omega
        go_wp2_with fail
        go_loopw [10] (fun u wx=>∃ j:Nat,k<j/\j<=b/\u = .int .i64 j/\∃ zs,Qby w g o c xs a b k zs wx) (fun u _=>b-(intOf u).toNat)
        case atStart=>exact⟨k+1,by omega,by omega,by go_num,_,P.out⟩
        case round=>
         clear P;obtain⟨j,j1,j2,rfl,zs,hS⟩:=hrel;have hzl:zs.length=m:=by rw[hS.mix.len,HN.out]
         have S:=hid hS
         by_cases hjb:j<b
         ·have hjb':(j:Int)<b:=by omega
          have d1:=hS.mix.own.cell j (by omega);have d2:=hS.mix.own.cell (j-1) (by omega)
          have f1:=hS.mix.own.frozen (o+j);have f2:=hS.mix.own.frozen (o+(j-1))
          have hgz:=hS.mix.own.lt;have hne:¬ o+(j-1)=o+j:=by omega
          have g1:(j:Int)<m:=by omega
          have g2:(j:Int)-1<m:=by omega
          have g3:IntKind.i64.wrap ((j:Int)-1)=(j:Int)-1:=IntWalk.i64_in _ (by omega);have g4:((j:Int)-1).toNat=j-1:=by omega
          have g5:(0:Int)<=(j:Int)-1:=by omega
          have g6:(1:Int)<=(j:Int):=by omega
          clear hS hzl
          by_cases hl:at0 zs j<at0 zs (j-1)
          ·have hd:decide (at0 zs j<at0 zs (j-1))=true:=by simpa using hl
           have LQ:=hid (Zl _ _ _ hd);have HL:=hid hl;clear hd hl
           go_wp2_with fail
           go_quiet ((go_at_call 241;exact Calls.quiet_of_same (LQ.out _)))
           go_wp2_with fail
           obtain⟨wq,hwq⟩:∃ wq,wr.drewN nq=wq:=⟨_,rfl⟩;rw[hwq];have S2:Hid (Qby w g o c xs a b k zs wq):=hid (by rw[<- hwq];exact S.out.drewN _);clear hwq d1 d2 f1 f2 hgz;have d1:=S2.out.mix.own.cell j (by rw[S2.out.mix.len,HN.out];omega);have d2:=S2.out.mix.own.cell (j-1) (by rw[S2.out.mix.len,HN.out];omega)
           have f1:=S2.out.mix.own.frozen (o+j);have f2:=S2.out.mix.own.frozen (o+(j-1))
           have hgz:=S2.out.mix.own.lt
           go_region
           all_goals go_wp2_with fail
           all_goals
            go_roundw
            case rel=>exact⟨j+1,by omega,by omega,by go_num,_,S2.out.swapR (by omega) j1 hjb (by rw[HN.out];exact hb)⟩
            case measure=>simp[intOf];omega
          ·have hd:decide (at0 zs j<at0 zs (j-1))=false:=by simpa using hl
           have LQ:=hid (Zl _ _ _ hd);have HL:=hid hl;clear hd hl
           go_wp2_with fail
           go_quiet ((go_at_call 241;exact Calls.quiet_of_same (LQ.out _)))
           go_wp2_with fail
           go_roundw
           case rel=>exact⟨k,n+1,by omega,k2,by omega,rfl,by go_num,_,S.out.drewN _⟩
           case measure=>simp[intOf];omega
         ·have hjb':¬ (j:Int)<b:=by omega
          clear hS hzl;go_wp2_with fail
          go_roundw
          case rel=>exact⟨k,n+1,by omega,k2,by omega,rfl,by go_num,_,S.out⟩
          case measure=>simp[intOf];omega
  ·have hn5':¬ (n:Int)<5:=by omega
   go_wp2_with fail
   go_ret
   exact⟨false,rfl,ys,P.out.mix,fun h=>by cases h⟩
end
end
end Go.Proofs.YtlhchkajjpefmaaGreatDoor
