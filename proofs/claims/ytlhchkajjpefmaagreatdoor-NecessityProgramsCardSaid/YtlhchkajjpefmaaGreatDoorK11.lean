/- Lemmas and walks, part 11: each theorem says what it proves; no condition beside its own. -/
import Derived.Test.YtlhchkajjpefmaaGreatDoorK10
import Derived.Lib.AppendZerosOnto
set_option maxHeartbeats 16000000
set_option maxRecDepth 100000
namespace Go.Proofs.YtlhchkajjpefmaaGreatDoor
open Lib(hid)
open Go.RowKit Go.Proofs.Tryz
section
section
variable{w:World}{g o c a b:Nat}{xs ys zs:List Int}{wr:World}
structure Dc(w:World)(g o c:Nat)(xs:List Int)(a b a' b':Nat)(ys:List Int)(wr:World):Prop where
 mix:Zk w g o c xs a b ys wr
 sand:Cv ys a a' b' b
variable{a' b':Nat}
theorem Dc.sub{w2:World}(h:Dc w g o c xs a b a' b' ys wr)(k:Zk wr g o c ys a' b' zs w2)(ha:a<=a')(hb':b'<=b)(hb:b<=xs.length):Dc w g o c xs a b a' b' zs w2:=
 ⟨h.mix.trans (k.mono ha hb'),h.sand.mix ha hb' k.mix (by rw[h.mix.len];omega)⟩
theorem Dc.later{w2:World}(h:Dc w g o c xs a b a' b' ys wr)(k:Upd (fun _=>False) wr w2):Dc w g o c xs a b a' b' ys w2:=⟨h.mix.later k,h.sand⟩
theorem Dc.drewN(h:Dc w g o c xs a b a' b' ys wr)(n:Nat):Dc w g o c xs a b a' b' ys (wr.drewN n):=⟨h.mix.drewN n,h.sand⟩
theorem Dc.done{w2:World}(h:Dc w g o c xs a b a' b' ys wr)(k:Vf wr g o c ys a' b' w2)(ha:a<=a')(hb':b'<=b)(hb:b<=xs.length):Vf w g o c xs a b w2:=by
 obtain⟨zs,m1,s1,o1,u1⟩:=k;have h2:=h.sub (zs:=zs) (w2:=w2) ⟨m1,o1,u1⟩ ha hb' hb;exact⟨zs,h2.mix.mix,h2.sand.done s1,h2.mix.own,h2.mix.upd⟩
theorem Qc0{m:Nat}(h:WrU w g o c xs)(hl:xs.length=m)(hab:a<=b)(hb:b<=m)(hs:m<=100000) :
  Calls prog 235 #[.slice (some ⟨g,o,none⟩) m c,.int .i64 a,.int .i64 b] w fun r w'=>r = .returned (.tuple #[])/\Vf w g o c xs a b w':=by
 subst hl;exact Si g o c a b xs h hab hb (by omega)
theorem Qfh{m:Nat}(h:WrU w g o c xs)(hl:xs.length=m)(hab:a<b)(hb:b<=m)(hs:m<=100000) :
  Calls prog 236 #[.slice (some ⟨g,o,none⟩) m c,.int .i64 a,.int .i64 b] w fun r w'=>r = .returned (.tuple #[])/\Vf w g o c xs a b w':=by
 subst hl;exact Qcw h hab hb hs
theorem Qrn{m:Nat}(h:WrU w g o c xs)(hl:xs.length=m)(hab:a+8<=b)(hb:b<=m)(hs:m<=100000) :
  Calls prog 237 #[.slice (some ⟨g,o,none⟩) m c,.int .i64 a,.int .i64 b] w fun r w'=>r = .returned (.tuple #[])/\∃ ys,Zk w g o c xs a b ys w':=by
 subst hl;exact Mw h hab hb hs
theorem Qki{m:Nat}(h:WrU w g o c xs)(hl:xs.length=m)(hab:a<b)(hb:b<=m)(hs:m<=100000) :
  Calls prog 239 #[.slice (some ⟨g,o,none⟩) m c,.int .i64 a,.int .i64 b] w fun r w'=>r = .returned (.tuple #[])/\∃ ys,Zk w g o c xs a b ys w':=by
 subst hl;exact Qgc h hab hb (by omega)
theorem Ql6{m:Nat}(h:WrU w g o c xs)(hl:xs.length=m)(hab:a+8<=b)(hb:b<=m)(hs:m<=100000) :
  Calls prog 238 #[.slice (some ⟨g,o,none⟩) m c,.int .i64 a,.int .i64 b] w fun r w'=>∃ (x:Nat) (y:Int),r = .returned (.tuple #[.int .i64 x,.int .i64 y])/\(a<=x/\x<b)/\(y=0\/y=1\/y=2)/\Upd (fun _=>False) w w':=by
 subst hl;exact Aq h hab hb hs
theorem Qj5{m:Nat}(h:WrU w g o c xs)(hl:xs.length=m)(hab:a<b)(hb:b<=m)(hs:m<=100000)(hlow:Qqy xs a b) :
  Calls prog 240 #[.slice (some ⟨g,o,none⟩) m c,.int .i64 a,.int .i64 b] w (Quu w g o c xs a b):=by
 subst hl;exact Tl h hab hb hs hlow
theorem Qo7{m:Nat}(h:WrU w g o c xs)(hl:xs.length=m)(p:Nat)(hp:a<=p/\p<b)(hb:b<=m)(hs:m<=100000) :
  Calls prog 242 #[.slice (some ⟨g,o,none⟩) m c,.int .i64 a,.int .i64 b,.int .i64 p] w fun r w'=>∃ k:Nat,r = .returned (.int .i64 k)/\∃ ys,Zk w g o c xs a b ys w'/\Ii ys a k b (at0 xs p):=by
 subst hl;exact Sr h p hp hb hs
theorem Qo8{m:Nat}(h:WrU w g o c xs)(hl:xs.length=m)(p:Nat)(hp:a<=p/\p<b)(hb:b<=m)(hs:m<=100000) :
  Calls prog 243 #[.slice (some ⟨g,o,none⟩) m c,.int .i64 a,.int .i64 b,.int .i64 p] w fun r w'=>∃ (k:Nat) (t:Bool),r = .returned (.tuple #[.int .i64 k,.bool t])/\∃ ys,Zk w g o c xs a b ys w'/\Ls ys a k b:=by
 subst hl;exact Qax h p hp hb hs
theorem Qx5(n:Nat):∀ {w:World} {xs:List Int} {a b:Nat} (lim:Nat),b-a=n->WrU w g o c xs->a<=b->b<=xs.length->xs.length<=100000->lim<=64->Qqy xs a b ->
  Calls prog 220 #[.slice (some ⟨g,o,none⟩) xs.length c,.int .i64 a,.int .i64 b,.int .i64 lim] w fun r w'=>r = .returned (.tuple #[])/\Vf w g o c xs a b w':=by
 induction n using Nat.strongRecOn with
 | ind n ih=>
 intro w xs a b lim hn0 h hab hb hs hlim hlow;have HIH:=hid ih;clear ih
 have hm:=h.le;unfold maxLen at hm;have H:Hid (Dc w g o c xs a b a b xs w):=hid ⟨Zk.refl h a b,Cv.start hlow⟩;have HB:=hid hb;have HN0:=hid hn0;clear h hlow hn0
 generalize hn:xs.length=m at *
 have HN:=hid hn;clear hn
 go_enter func220,ntmps220
 go_wp2_with fail
 go_loopw [1,2,3,8,9] (fun u v z s t wr=>∃ (a' b' l:Nat) (t1 t2:Bool),a<=a'/\a'<=b'/\b'<=b/\l<=64/\u = .int .i64 a'/\v = .int .i64 b'/\z = .int .i64 l/\s = .bool t1/\t = .bool t2/\∃ ys,Dc w g o c xs a b a' b' ys wr) (fun u v _ _ _ _=>(intOf v-intOf u).toNat)
 case atStart=>exact⟨a,b,lim,true,true,Nat.le_refl _,hab,Nat.le_refl _,hlim,rfl,rfl,rfl,rfl,rfl,xs,H.out⟩
 case round=>
  obtain⟨a',b',l,t1,t2,ha,hab',hb',hl,rfl,rfl,rfl,rfl,rfl,ys,hP⟩:=hrel;have P:=hid hP;clear hP H
  have HBX:Hid (b<=xs.length):=hid (by rw[HN.out];exact hb);have YL:Hid (ys.length=m):=hid (by rw[P.out.mix.len,HN.out])
  by_cases h12:b'<=a'+12
  ·have h12':(b':Int)-a'<=12:=by omega
   go_wp2_with fail
   (with_reducible refine(Qc0 P.out.mix.own YL.out hab' (by omega) hs).mono ?_)
   rintro e w1 ⟨rfl,hp⟩;have HQ:=hid (P.out.done hp ha hb' HBX.out);clear hp
   go_wp2_with fail
   (try simp only[Exit.inBlock,Exit.then]);refine bodyPost_ret (results_none rfl _ _ _) rfl ?_
   exact⟨rfl,HQ.out⟩
  ·have h12':¬ (b':Int)-a'<=12:=by omega
   by_cases hl0:l=0
   ·subst hl0
    go_wp2_with fail
    (with_reducible refine(Qfh P.out.mix.own YL.out (by omega) (by omega) hs).mono ?_)
    rintro e w1 ⟨rfl,hp⟩;have HQ:=hid (P.out.done hp ha hb' HBX.out);clear hp
    go_wp2_with fail
    (try simp only[Exit.inBlock,Exit.then]);refine bodyPost_ret (results_none rfl _ _ _) rfl ?_
    exact⟨rfl,HQ.out⟩
   ·have hl0':((l:Int)==0)=false:=by simp;omega
    go_upto_if 35 with fail
    go_cut [3]from 35 to 41 (fun u wx=>∃ l':Nat,l'<=64/\u = .int .i64 l'/\∃ ys,Dc w g o c xs a b a' b' ys wx)
    case first=>
     cases t1
     ·go_wp2_with fail
      (with_reducible refine(Qrn P.out.mix.own YL.out (by omega) (by omega) hs).mono ?_)
      rintro e w1 ⟨rfl,zs,hp⟩;have HQ:=hid (P.out.sub hp ha hb' HBX.out);clear hp
      go_wp2_with fail
      go_meet
      exact⟨l-1,by omega,by rw[show((l-1:Nat):Int)=(l:Int)-1 by omega],_,HQ.out⟩
     ·go_wp2_with fail
      go_meet
      exact⟨l,hl,rfl,_,P.out⟩
    case rest=>
     clear P YL hl0 hl0';obtain⟨l',hl',rfl,ys,hP⟩:=hcut;have P:=hid hP;clear hP
     have YL:Hid (ys.length=m):=hid (by rw[P.out.mix.len,HN.out]);go_wp2_with fail
     (with_reducible refine(Ql6 P.out.mix.own YL.out (by omega) (by omega) hs).mono ?_)
     rintro e w2 ⟨p,y,rfl,hp,hy,hU⟩;have P2:=hid (P.out.later hU);clear hU P
     go_upto_if 50 with fail
     go_cut [11,12]from 50 to 60 (fun u v wx=>∃ (p':Nat) (y':Int),u = .int .i64 p'/\v = .int .i64 y'/\(a'<=p'/\p'<b')/\(y'=0\/y'=1)/\∃ ys,Dc w g o c xs a b a' b' ys wx)
     case first=>
      rcases hy with rfl | rfl | rfl
      ·go_wp2_with fail
       go_meet
       exact⟨p,0,rfl,rfl,hp,.inl rfl,_,P2.out⟩
      ·go_wp2_with fail
       go_meet
       exact⟨p,1,rfl,rfl,hp,.inr rfl,_,P2.out⟩
      ·go_wp2_with fail
       (with_reducible refine(Qki P2.out.mix.own YL.out (by omega) (by omega) hs).mono ?_)
       rintro e w3 ⟨rfl,zs,hq⟩;have P3:=hid (P2.out.sub hq ha hb' HBX.out);clear hq
       go_wp2_with fail
       go_meet
       exact⟨b'-1-(p-a'),1,by rw[show((b'-1-(p-a'):Nat):Int)=(b':Int)-1-((p:Int)-a')by omega],rfl,by omega,.inr rfl,_,P3.out⟩
     case rest=>
      clear P2 YL hy hp;obtain⟨p,y,rfl,rfl,hp,hy,ys,hP⟩:=hcut;have P:=hid hP;clear hP
      have YL:Hid (ys.length=m):=hid (by rw[P.out.mix.len,HN.out]);obtain⟨wd,hwd⟩:∃ x:World,x=wc:=⟨_,rfl⟩;subst hwd
      go_upto_region 15 with fail
      go_cut [68]from 61 to 67 (fun t wx=>t = .bool (t1&&t2&&(y==1))/\wd=wx)
      case first=>
       rcases hy with rfl | rfl <;> cases t1 <;> cases t2
       all_goals go_wp2_with fail
       all_goals go_meet
       all_goals exact⟨rfl,rfl⟩
      obtain⟨hc1,rfl⟩:=hcut;subst hc1
      generalize (t1&&t2&&(y==1))=tt
      go_upto_if 68 with fail
      go_cut []from 68 to 72 (fun wx=>∃ ys,Dc w g o c xs a b a' b' ys wx)
      case first=>
       cases tt
       ·go_wp2_with fail
        go_meet
        exact⟨_,P.out⟩
       ·go_wp2_with fail
        (with_reducible refine(Qj5 P.out.mix.own YL.out (by omega) (by omega) hs (P.out.sand.low ha hb')).mono ?_)
        rintro e w3 ⟨t,rfl,zs,hq,hqs⟩;have P3:=hid (P.out.sub hq ha hb' HBX.out);have HQ:=hid (And.intro hq hqs);clear hq hqs
        cases t
        ·go_wp2_with fail
         go_meet
         exact⟨_,P3.out⟩
        ·go_wp2_with fail
         (try simp only[Exit.inBlock,Exit.then]);refine bodyPost_ret (results_none rfl _ _ _) rfl ?_
         exact⟨rfl,zs,P3.out.mix.mix,P3.out.sand.done (by first | exact HQ.out.2 rfl | exact HQ.out.2 trivial),P3.out.mix.own,P3.out.mix.upd⟩
      case rest=>
       clear P YL hy;obtain⟨ys,hP⟩:=hcut;have P:=hid hP;have YL:Hid (ys.length=m):=hid (by rw[P.out.mix.len,HN.out]);have hyl:=YL.out;have c2:=hP.mix.own.cell p (by omega);have b2:(p:Int)<m:=by omega
       have hgz:=hP.mix.own.lt
       by_cases ha0:a'=0
       ·have ha0':decide ((0:Int)<a')=false:=by simp;omega
        have ha0n:¬ 0<a':=by omega
        clear ha0;clear hP hyl;go_wp2_with fail
        go_quiet (fail)
        go_wp2_with fail
        (with_reducible refine(Qo8 (P.out.drewN _).mix.own YL.out p hp (by omega) hs).mono ?_)
        rintro e w3 ⟨k,t,rfl,zs,hq,hqe⟩;have P3:=hid ((P.out.drewN _).sub hq ha hb' HBX.out);have QE:=hid hqe;have hk1:=hqe.1;have hk2:=hqe.2.1;clear hq hqe
        have YL3:Hid (zs.length=m):=hid (by rw[P3.out.mix.len,HN.out])
        by_cases hlr:k-a'<b'-k
        ·have hlr':(k:Int)-a'<(b':Int)-k:=by omega
         have hpq:=HIH.out (k-a') (by have:=HN0.out;omega) l' rfl P3.out.mix.own hk1 (by rw[YL3.out];omega) (by rw[YL3.out];exact hs) hl' (P3.out.sand.lowL QE.out ha hb');rw[YL3.out]at hpq;have HPQ:=hid hpq;clear hpq
         go_wp2_with fail
         (with_reducible refine HPQ.out.mono ?_)
         rintro e w4 ⟨rfl,us,m4,s4,o4,u4⟩;have P4:Hid (Dc w g o c xs a b (k+1) b' us w4):=hid ⟨P3.out.mix.trans (Zk.mono ⟨m4,o4,u4⟩ ha (by omega)),P3.out.sand.left ha hb' QE.out m4 s4 (by rw[YL3.out];omega)⟩;clear m4 s4 o4 u4;go_wp2_with fail
         go_roundw
         case rel=>exact⟨k+1,b',l',_,t,by omega,by omega,hb',hl',by go_num,rfl,rfl,rfl,rfl,us,P4.out⟩
         case measure=>simp[intOf];omega
        ·have hlr':¬ (k:Int)-a'<(b':Int)-k:=by omega
         have hpq:=HIH.out (b'-(k+1)) (by have:=HN0.out;omega) l' rfl P3.out.mix.own (by omega) (by rw[YL3.out];omega) (by rw[YL3.out];exact hs) hl' QE.out.lowR;rw[YL3.out,show((k+1:Nat):Int)=(k:Int)+1 by omega]at hpq;have HPQ:=hid hpq;clear hpq
         go_wp2_with fail
         (with_reducible refine HPQ.out.mono ?_)
         rintro e w4 ⟨rfl,us,m4,s4,o4,u4⟩;have P4:Hid (Dc w g o c xs a b a' k us w4):=hid ⟨P3.out.mix.trans (Zk.mono ⟨m4,o4,u4⟩ (by omega) hb'),P3.out.sand.right ha hb' QE.out m4 s4 (by rw[YL3.out];omega)⟩;clear m4 s4 o4 u4;go_wp2_with fail
         go_roundw
         case rel=>exact⟨a',k,l',_,t,ha,hk1,by omega,hl',rfl,rfl,rfl,rfl,rfl,us,P4.out⟩
         case measure=>simp[intOf];omega
       ·have ha0':0<a':=by omega
        have c1:=hP.mix.own.cell (a'-1) (by omega);have g2:(a':Int)-1<m:=by omega
        have g3:IntKind.i64.wrap ((a':Int)-1)=(a':Int)-1:=IntWalk.i64_in _ (by omega);have g4:((a':Int)-1).toNat=a'-1:=by omega
        have g5:(0:Int)<=(a':Int)-1:=by omega
        have g6:(1:Int)<=(a':Int):=by omega
        clear hP hyl
        by_cases hl:at0 ys (a'-1)<at0 ys p
        ·have hd:decide (at0 ys (a'-1)<at0 ys p)=true:=by simpa using hl
         have LQ:=hid (Zl _ _ _ hd);clear hd hl
         go_wp2_with fail
         go_quiet ((go_at_call 241;exact Calls.quiet_of_same (LQ.out _)))
         go_wp2_with fail
         (with_reducible refine(Qo8 (P.out.drewN _).mix.own YL.out p hp (by omega) hs).mono ?_)
         rintro e w3 ⟨k,t,rfl,zs,hq,hqe⟩;have P3:=hid ((P.out.drewN _).sub hq ha hb' HBX.out);have QE:=hid hqe;have hk1:=hqe.1;have hk2:=hqe.2.1;clear hq hqe
         have YL3:Hid (zs.length=m):=hid (by rw[P3.out.mix.len,HN.out])
         by_cases hlr:k-a'<b'-k
         ·have hlr':(k:Int)-a'<(b':Int)-k:=by omega
          have hpq:=HIH.out (k-a') (by have:=HN0.out;omega) l' rfl P3.out.mix.own hk1 (by rw[YL3.out];omega) (by rw[YL3.out];exact hs) hl' (P3.out.sand.lowL QE.out ha hb');rw[YL3.out]at hpq;have HPQ:=hid hpq;clear hpq
          go_wp2_with fail
          (with_reducible refine HPQ.out.mono ?_)
          rintro e w4 ⟨rfl,us,m4,s4,o4,u4⟩;have P4:Hid (Dc w g o c xs a b (k+1) b' us w4):=hid ⟨P3.out.mix.trans (Zk.mono ⟨m4,o4,u4⟩ ha (by omega)),P3.out.sand.left ha hb' QE.out m4 s4 (by rw[YL3.out];omega)⟩;clear m4 s4 o4 u4;go_wp2_with fail
          go_roundw
          case rel=>exact⟨k+1,b',l',_,t,by omega,by omega,hb',hl',by go_num,rfl,rfl,rfl,rfl,us,P4.out⟩
          case measure=>simp[intOf];omega
         ·have hlr':¬ (k:Int)-a'<(b':Int)-k:=by omega
          have hpq:=HIH.out (b'-(k+1)) (by have:=HN0.out;omega) l' rfl P3.out.mix.own (by omega) (by rw[YL3.out];omega) (by rw[YL3.out];exact hs) hl' QE.out.lowR;rw[YL3.out,show((k+1:Nat):Int)=(k:Int)+1 by omega]at hpq;have HPQ:=hid hpq;clear hpq
          go_wp2_with fail
          (with_reducible refine HPQ.out.mono ?_)
          rintro e w4 ⟨rfl,us,m4,s4,o4,u4⟩;have P4:Hid (Dc w g o c xs a b a' k us w4):=hid ⟨P3.out.mix.trans (Zk.mono ⟨m4,o4,u4⟩ (by omega) hb'),P3.out.sand.right ha hb' QE.out m4 s4 (by rw[YL3.out];omega)⟩;clear m4 s4 o4 u4;go_wp2_with fail
          go_roundw
          case rel=>exact⟨a',k,l',_,t,ha,hk1,by omega,hl',rfl,rfl,rfl,rfl,rfl,us,P4.out⟩
          case measure=>simp[intOf];omega
        ·have hd:decide (at0 ys (a'-1)<at0 ys p)=false:=by simpa using hl
         have LQ:=hid (Zl _ _ _ hd);have HL:=hid hl;clear hd hl
         go_wp2_with fail
         go_quiet ((go_at_call 241;exact Calls.quiet_of_same (LQ.out _)))
         go_wp2_with fail
         (with_reducible refine(Qo7 (P.out.drewN _).mix.own YL.out p hp (by omega) hs).mono ?_)
         rintro e w3 ⟨k,rfl,zs,hq,hqe⟩;have P3:Hid (Dc w g o c xs a b k b' zs w3):=hid ⟨((P.out.drewN _).sub hq ha hb' HBX.out).mix,P.out.sand.eq ha hb' hq.mix hqe (by have:=HL.out;omega) (by omega) (by rw[YL.out];omega)⟩;have hk:=And.intro hqe.1 hqe.2.1;clear hq hqe;go_wp2_with fail
         go_roundw
         case rel=>exact⟨k,b',l',t1,t2,by omega,by omega,hb',hl',rfl,rfl,rfl,rfl,rfl,zs,P3.out⟩
         case measure=>simp[intOf];omega
theorem Qeq(n:Nat)(hn:n<=100000):Calls prog 221 #[.int .u64 n] w fun r w'=>∃ k:Nat,r = .returned (.int .i64 k)/\k<=64/\w=w':=
 (Tryz.bits_Len n w (by omega) (by omega)).mono fun _ _ h=>⟨_,h.1,by have:=Lib.bitLen_le n 64 (by omega) (by omega);simpa using this,h.2.symm⟩
theorem Qua(h:WrU w g o c xs)(hs:xs.length<=100000) :
  Calls prog 192 #[.slice (some ⟨g,o,none⟩) xs.length c] w fun r w'=>r = .returned (.tuple #[])/\Vf w g o c xs 0 xs.length w':=by
 have hp:=fun lim hl=>Qx5 (g:=g) (o:=o) (c:=c) (w:=w) (xs:=xs) (a:=0) (b:=xs.length) xs.length lim (by omega) h (by omega) (Nat.le_refl _) hs hl (fun q h1 h2 h3=>by omega)
 rw[show((0:Nat):Int)=0 from rfl]at hp;have HP:=hid hp;clear hp
 have HL:=hid (Qeq (w:=w) xs.length hs);clear h
 generalize hn:xs.length=n at *
 clear hn
 go_enter func192,ntmps192
 go_wp2_with fail
 (with_reducible refine HL.out.mono ?_)
 rintro e w' ⟨k,rfl,hk,rfl⟩;go_wp2_with fail
 (with_reducible refine(HP.out k hk).mono ?_)
 rintro e w1 ⟨rfl,hp⟩;have HQ:=hid hp;clear hp
 go_wp2_with fail
 go_end0
 exact⟨rfl,HQ.out⟩
theorem Qp6(sv:Value)(xs:List Int)(h:Qj w 31 1 sv xs.length (Xb xs))(hs:xs.length<=100000) :
  Calls prog 192 #[sv] w fun r w'=>r = .returned (.tuple #[])/\∃ ys,Yi xs ys 0 xs.length/\Uv ys 0 xs.length/\Qj w' 31 1 sv xs.length (Xb ys)/\Upd (fun k=>sv.ownBlock=some k) w w':=by
 rcases h.2 with ⟨rfl,hn⟩ | ⟨g,o,cap,cur,rfl,_⟩
 ·have hx:xs = []:=List.eq_nil_of_length_eq_zero hn
  subst hx;exact Qh5.mono fun r w' ⟨h1,h2⟩=>⟨h1,[],Yi.refl _ _ _,fun p q _ _ h3=>by simp at h3,by subst h2;exact h,by subst h2;exact Upd.refl _ _⟩
 ·refine(Qua (g:=g) (o:=o) (c:=cap) (xs:=xs) h hs).mono fun r w' ⟨h1,ys,h2,h3,h4,h5⟩=>⟨h1,ys,h2,h3,?_,h5.mono (fun i _ hi=>by rw[hi];rfl)⟩
  have:WrU w' g o cap ys:=h4;unfold WrU at this;rw[h2.len]at this;exact this
end
end

section
attribute [local go_sem ↓] Go.wp_at_zero Go.wp_at_succ
section
variable{w:World}
end
end
section
section
variable{w:World}
def flC(l:List Nat):List (Nat×Nat×Int):=l.map fun x=>(2,64*x,0)
theorem Qsd(l:List Nat)(x:Nat):flC (l ++ [x])=flC l ++ [(2,64*x,0)]:=by simp[flC]
def stC(ws:List (Nat×Int)):List (Nat×Nat×Int):=ws.map fun e=>(1,e.1,e.2)
theorem Qub(l:List (Nat×Int))(e:Nat×Int):stC (l ++ [e])=stC l ++ [(1,e.1,e.2)]:=by simp[stC]
theorem Ye(offs:List Nat):(Zs offs).length<=offs.length+1:=by
 have:=Eo offs;unfold Zs;split <;> simp;omega
end
end

section
attribute [local go_sem ↓] Go.wp_at_zero Go.wp_at_succ
theorem Qb8(xs:List Int):∀ k,k<xs.length->(∀ j,j<k->¬ xs[j+1]! = xs[j]!)->Gm (xs.take (k+1))=xs.take (k+1):=by
 intro k
 induction k with
 | zero=>intro h _;exact Qrt xs h
 | succ k ih=>
  intro h hn;have e1:xs.take (k+1+1)=xs.take (k+1) ++ [xs[k+1]!]:=by
   rw[List.take_add_one (i:=k+1),List.getElem?_eq_getElem h,getElem!_pos xs (k+1) h];rfl
  rw[Sd xs k h,if_neg (hn k (by omega)),ih (by omega) (fun j hj=>hn j (by omega)),e1]
theorem Yv.start{xs:List Int}{k:Nat}(hk:k+1<xs.length)(hn:∀ j,j<k->¬ xs[j+1]! = xs[j]!)(he:xs[k+1]! = xs[k]!):Yv xs xs (k+1+1) (k+1):=
 ⟨rfl,by rw[Sd xs k hk,if_pos he,Qb8 xs k (by omega) hn],fun _ _=>rfl,by omega,by omega⟩
theorem Qwh(l:List Int)(i:Nat)(h:i<l.length):at0 l i=l[i]!:=by simp[at0,List.getD,h]
section
variable{w:World}
theorem Qks(ty:TypeId){g o c i m:Nat}{ys:List Int}(h:WrU w g o c ys)(hi:i+m=ys.length)(h0:0<m) :
  ∃ w',(Builtin.clear_ #[56] ty #[.slice (some ⟨g,o+i,none⟩) m (c-i)]).run prog w = .ok (.tuple #[]) w'/\Qj w' 31 1 (.slice (some ⟨g,o,none⟩) i c) i (Xb (ys.take i))/\Upd (fun k=>k=g) w w':=by
 rcases h.2 with ⟨e,_⟩ | ⟨g',o',cap,cur,e,hb,h1,h2,h3,h4⟩
 ·cases e
 ·cases e
  have hzl:(Builtin.zeroCells (Value.cells (.int .u64 0)) m).toList.length=m:=by simp[Builtin.zeroCells,Value.cells]
  have hz1:∀ u∈(Builtin.zeroCells (Value.cells (.int .u64 0)) m).toList,u.oneCell'=true:=by
   intro u hu;simp[Builtin.zeroCells,Value.cells,Nat.mod_one]at hu;rw[<- hu.2];rfl
  have hst:=run_storeCells_at prog g (o+i) 31 (Builtin.zeroCells (Value.cells (.int .u64 0)) m).toList 0 cur w hb (by rw[hzl];omega) hz1;obtain⟨m',rfl⟩:∃ m',m=m'+1:=⟨m-1,by omega⟩;refine⟨w.setRow g (cur.toList.take (o+i+0)++(Builtin.zeroCells (Value.cells (.int .u64 0)) (m'+1)).toList++cur.toList.drop (o+i+0+(Builtin.zeroCells (Value.cells (.int .u64 0)) (m'+1)).toList.length)).toArray,?_,?_,?_⟩
  ·simp[Builtin.clear_,run_underlying underlying56,hst,Result.andThen]
  ·refine⟨by simp[Xb];omega,.inr ⟨g,o,c,_,rfl,setRow_heap w g cur _ 31 (0,0) hb,by omega,h2,?_,?_⟩⟩
   ·simp only[List.size_toArray,List.length_append,List.length_take,List.length_drop,Array.length_toList,hzl]
    omega
   ·simp only[Nat.add_zero,Nat.mul_one]
    have lo:(cur.toList.take (o+i)).length=o+i:=by rw[List.length_take,Array.length_toList];omega
    rw[List.append_assoc,List.drop_append_of_le_length (by omega),List.take_append_of_le_length (by rw[List.length_drop];omega)];rw[List.drop_take,List.take_take,show min i (o+i-o)=i by omega];have h5:=congrArg (List.take i) h4;rw[List.take_take,show min i (ys.length*1)=i by omega]at h5;rw[h5,Xb,Xb,List.map_take]
  ·exact⟨rfl,rfl,rfl,by simp[World.setRow],fun k _ hk=>setRow_other w g k _ hk⟩
theorem Upd.drewN{S:Nat->Prop}{a b:World}(h:Upd S a b)(n:Nat):Upd S a (b.drewN n):=⟨h.os,h.tape,h.output,h.size,h.block⟩
theorem WrU.rd2{g o c:Nat}{xs:List Int}(h:WrU w g o c xs)(j:Nat)(hj:j<xs.length):w.cell? ⟨g,o+j,none⟩=some (.int .u64 xs[j]!):=by
 rw[<- Qwh xs j hj];exact h.cell j hj
def Qvz(w:World)(g o c:Nat)(xs:List Int)(r:Ending)(w':World):Prop:=
 r = .returned (.slice (some ⟨g,o,none⟩) (Gm xs).length c)/\Qj w' 31 1 (.slice (some ⟨g,o,none⟩) (Gm xs).length c) (Gm xs).length (Xb (Gm xs))/\Upd (fun k=>k=g) w w'
structure Qz5(w:World)(g o c:Nat)(xs:List Int)(q i:Nat)(wr:World):Prop where
 st:∃ ys,Yv xs ys q i/\WrU wr g o c ys/\Upd (fun k=>k=g) w wr
theorem Yv.fin{xs ys:List Int}{i:Nat}(h:Yv xs ys xs.length i):i=(Gm xs).length/\ys.take i=Gm xs:=by
 have h1:=h.pre;rw[List.take_length]at h1;have h2:=congrArg List.length h1;rw[List.length_take,h.len]at h2;have:=h.lt;exact⟨by omega,h1⟩
theorem Yv.keep'{xs ys:List Int}{q i:Nat}(h:Yv xs ys q i)(hq0:0<q)(hq:q<xs.length)(e:¬ xs[q]! = xs[q-1]!):Yv xs (ys.set i xs[q]!) (q+1) (i+1):=by
 obtain⟨p,rfl⟩:∃ p,q=p+1:=⟨q-1,by omega⟩;exact h.keep hq e
theorem Yv.skip'{xs ys:List Int}{q i:Nat}(h:Yv xs ys q i)(hq0:0<q)(hq:q<xs.length)(e:xs[q]! = xs[q-1]!):Yv xs ys (q+1) i:=by
 obtain⟨p,rfl⟩:∃ p,q=p+1:=⟨q-1,by omega⟩;exact h.skip hq e
theorem Yv.at{xs ys:List Int}{q i j:Nat}(h:Yv xs ys q i)(hj:q<=j+1)(hx:j<xs.length):ys[j]! = xs[j]!:=by
 have h1:=h.rest j hj;have h2:=h.len;rw[List.getElem?_eq_getElem hx,List.getElem?_eq_getElem (by omega)]at h1;rw[getElem!_pos ys j (by omega),getElem!_pos xs j hx];exact Option.some.inj h1
theorem Qit{g o c:Nat}{xs:List Int}(h:WrU w g o c xs)(hs:xs.length<=100000) :
  Calls prog 193 #[.slice (some ⟨g,o,none⟩) xs.length c] w (Qvz w g o c xs):=by
 have hc:=h.le.1;have hc2:c<=maxLen:=by
  rcases h.2 with ⟨e,_⟩ | ⟨g',o',cap,cur,e,hb,h1,h2,_⟩
  ·cases e
  ·cases e;exact h2
 unfold maxLen at hc2;have hg:=h.lt;have H:=hid h;clear h
 generalize hn:xs.length=n at *
 have HN:=hid hn;clear hn
 by_cases h2:n<2
 ·have h2':(n:Int)<2:=by omega
  have hcm:Hid (Gm xs=xs):=by
   show Gm xs=xs
   match xs,HN.out with
   | [],_=>rfl
   | [x],_=>rfl
   | x::y::l,e=>simp at e;omega
  go_enter func193,ntmps193
  go_wp2_with fail
  go_ret
  refine⟨?_,?_,Upd.refl _ _⟩
  ·rw[hcm.out,HN.out];rfl
  ·rw[hcm.out,HN.out];have:=H.out;unfold WrU at this;rw[HN.out]at this;exact this
 ·have h2':¬ (n:Int)<2:=by omega
  go_enter func193,ntmps193
  go_wp2_with fail
  go_loopw [3] (fun y wr=>∃ k:Nat,0<k/\k<=n/\y = .int .i64 k/\(∀ j,j+1<k->¬ xs[j+1]! = xs[j]!)/\Qt w wr) (fun y _=>n-(intOf y).toNat)
  case atStart=>exact⟨1,by omega,by omega,rfl,fun j hj=>by omega,Qt.refl w⟩
  case round=>
   obtain⟨k,hk0,hk,rfl,hne,q⟩:=hrel;obtain⟨na,rfl⟩:=q;have HNE:=hid hne;clear hne
   by_cases hlt:k<n
   ·have hk':(k:Int)<n:=by omega
    have d1:=H.out.rd2 k (by rw[HN.out];exact hlt);have d2:=H.out.rd2 (k-1) (by rw[HN.out];omega)
    have hi2:((k:Int)-1).toNat=k-1:=by omega
    have hi3:(0:Int)<=(k:Int)-1:=by omega
    have hi4:(1:Int)<=(k:Int):=by omega
    have hi6:(k:Int)-1<n:=by omega
    by_cases he:xs[k]! = xs[k-1]!
    ·have hb:(xs[k]! == xs[k-1]!)=true:=by simpa using he
     have M0:Hid (Yv xs xs (k+1) k):=by
      obtain⟨p,rfl⟩:∃ p,k=p+1:=⟨k-1,by omega⟩;exact Yv.start (by rw[HN.out];exact hlt) (fun j hj=>HNE.out j (by omega)) he
     generalize xs[k]! = xk at *
     generalize xs[k-1]! = xk1 at *
     clear he;have hck:¬ c=k:=by omega
     have hck':¬ (c:Int)=(k:Int):=by omega
     have hkc:(k:Int)<=c:=by omega
     have hkn:(k:Int)<=n:=by omega
     go_wp2_with fail
     go_quiet (fail)
     go_wp2_with fail
     obtain⟨wq,hwq⟩:∃ wq,wq=w.drewN (na+nq):=⟨_,rfl⟩;rw[<- hwq];have S0:Hid (Qz5 w g o c xs (k+1) k wq):=by
      refine⟨⟨xs,M0.out,?_,?_⟩⟩
      ·rw[hwq];exact H.out.drewN _
      ·rw[hwq];exact(Upd.refl _ w).drewN _
     clear hwq d1 d2 hi2 hi3 hi4 hi6 hb M0
     go_loopw [3,5] (fun y z wr=>∃ i k2:Nat,y = .int .i64 i/\z = .int .i64 k2/\0<k2/\k+k2<=n/\Qz5 w g o c xs (k+k2) i wr) (fun _ z _=>n-(intOf z).toNat)
     case atStart=>exact⟨k,1,rfl,rfl,by omega,by omega,S0.out⟩
     case round=>
      obtain⟨i,k2,rfl,rfl,hk2,hkk,hst⟩:=hrel;obtain⟨ys,m1,w1,u1⟩:=hst.st;have M:=hid m1;have W:=hid w1;have U:=hid u1;clear m1 w1 u1 hst S0
      have hsub:((n-k:Nat):Int)=(n:Int)-k:=by omega
      have hwb:=W.out.lt;have hwf:=W.out.frozen
      by_cases hlt2:k2<n-k
      ·have hlt2':(k2:Int)<((n-k:Nat):Int):=by omega
       have e1:=W.out.rd2 (k+k2) (by rw[M.out.len,HN.out];omega);have e2:=W.out.rd2 (k+k2-1) (by rw[M.out.len,HN.out];omega)
       rw[M.out.at (by omega) (by rw[HN.out];omega)]at e1 e2;rw[show o+(k+k2)=o+k+k2 by omega]at e1;rw[show o+(k+k2-1)=o+k+(k2-1)by omega]at e2;have hj2:((k2:Int)-1).toNat=k2-1:=by omega
       have hj3:(0:Int)<=(k2:Int)-1:=by omega
       have hj4:(1:Int)<=(k2:Int):=by omega
       have hj6:(k2:Int)-1<((n-k:Nat):Int):=by omega
       have hin:(i:Int)<n:=by have:=M.out.lt;omega
       have hf1:=hwf (o+i)
       by_cases hx:xs[k+k2]! = xs[k+k2-1]!
       ·have hbx:(xs[k+k2]! != xs[k+k2-1]!)=false:=by simpa using hx
        have M2:=hid (M.out.skip' (by omega) (by rw[HN.out];omega) hx)
        generalize xs[k+k2]! = xa at *
        generalize xs[k+k2-1]! = xb at *
        clear hx;go_wp2_with fail
        go_quiet (fail)
        go_wp2_with fail
        go_roundw
        case rel=>exact⟨i,k2+1,rfl,by go_num,by omega,by omega,⟨ys,by rw[<- Nat.add_assoc];exact M2.out,W.out.drewN _,U.out.drewN _⟩⟩
        case measure=>simp[intOf];omega
       ·have hbx:(xs[k+k2]! != xs[k+k2-1]!)=true:=by simpa using hx
        have M2:=hid (M.out.keep' (by omega) (by rw[HN.out];omega) hx);have W2:=hid (fun m=>(W.out.drewN m).set i (by rw[M.out.len,HN.out];omega) xs[k+k2]!)
        generalize xs[k+k2]! = xa at *
        generalize xs[k+k2-1]! = xb at *
        clear hx;have hgi:=W.out.cell i (by rw[M.out.len,HN.out];omega);go_wp2_with fail
        go_quiet (fail)
        go_wp2_with fail
        go_roundw
        case rel=>exact⟨i+1,k2+1,by go_num,by go_num,by omega,by omega,⟨_,by rw[<- Nat.add_assoc];exact M2.out,W2.out _,(U.out.drewN _).setCell (fun _=>rfl) _⟩⟩
        case measure=>simp[intOf];omega
      ·obtain rfl:k2=n-k:=by omega
       have hsum:k+(n-k)=xs.length:=by rw[HN.out];omega
       rw[hsum]at M;have F:=hid M.out.fin;have hil:i<n:=by have:=M.out.lt;rw[HN.out]at this;exact this
       have hyl:Hid (i+(n-i)=ys.length):=by show i+(n-i)=ys.length;rw[M.out.len,HN.out];omega
       have hci:¬ c=i:=by omega
       have hci':¬ (c:Int)=(i:Int):=by omega
       have hic:(i:Int)<=c:=by omega
       have hin:(i:Int)<=n:=by omega
       clear hsum;obtain⟨w5,hr5,o5,u5⟩:=Qks 0 W.out hyl.out (by omega);have O5:=hid o5;have U5:=hid u5;clear o5 u5
       go_wp2_with fail
       go_ret
       refine⟨?_,?_,U.out.trans U5.out (fun _ _ h=>h)⟩
       ·rw[<- F.out.1];rfl
       ·rw[<- F.out.1,<- F.out.2];exact O5.out
    ·have hb:(xs[k]! == xs[k-1]!)=false:=by simpa using he
     have HNX:Hid (∀ j,j+1<k+1->¬ xs[j+1]! = xs[j]!):=fun j hj=>by
      by_cases e:j+1=k
      ·subst e;exact he
      ·exact HNE.out j (by omega)
     clear he
     generalize xs[k]! = xk at *
     generalize xs[k-1]! = xk1 at *
     go_wp2_with fail
     go_quiet (fail)
     go_wp2_with fail
     go_roundw
     case rel=>exact⟨k+1,by omega,by omega,by go_num,HNX.out,⟨_,rfl⟩⟩
     case measure=>simp[intOf];omega
   ·obtain rfl:k=n:=by omega
    have hcm:Hid (Gm xs=xs):=by
     show Gm xs=xs
     have:=Qb8 xs (k-1) (by rw[HN.out];omega) (fun j hj=>HNE.out j (by omega));rw[show k-1+1=k by omega,List.take_of_length_le (by rw[HN.out];omega)]at this;exact this
    go_wp2_with fail
    go_ret
    refine⟨?_,?_,(Upd.of_below (Qt.drewN w na).below)⟩
    ·rw[hcm.out,HN.out];rfl
    ·rw[hcm.out,HN.out];have:=H.out;unfold WrU at this;rw[HN.out]at this;exact this.kept (fun _ _=>rfl)
end
end
section
section
variable{w:World}
theorem Acc.side{w wr w1:World}{B:Nat}{e:TypeId}{s n:Nat}{v lv:Value}{xs:List Value}(h:Acc w B wr e s v n xs)(hu:Upd (fun k=>lv.ownBlock=some k) wr w1)(hn:∀ g,lv.ownBlock=some g->B<=g)(hne:∀ g,v.ownBlock=some g->lv.ownBlock≠some g):Acc w B w1 e s v n xs:=
 ⟨h.own.upd hu hne,h.new,⟨hu.os.trans h.bel.os,hu.tape.trans h.bel.tape,hu.output.trans h.bel.output,Nat.le_trans h.bel.size hu.size,fun k hk=>by
  rw[hu.block k (Nat.lt_of_lt_of_le hk h.lt) (fun e=>by have:=hn k e;omega)];exact h.bel.block k hk⟩,Nat.le_trans h.lt hu.size⟩
theorem Qcb(sv:Value)(xs:List Int)(h:Qj w 31 1 sv xs.length (Xb xs))(h0:0<xs.length)(hs:xs.length<=100000) :
  Calls prog 193 #[sv] w fun r w'=>∃ a c,r = .returned (.slice a (Gm xs).length c)/\Qj w' 31 1 (.slice a (Gm xs).length c) (Gm xs).length (Xb (Gm xs))/\(∀ k,(Value.slice a (Gm xs).length c).ownBlock=some k->sv.ownBlock=some k)/\Upd (fun k=>sv.ownBlock=some k) w w':=by
 rcases h.2 with ⟨rfl,hn⟩ | ⟨g,o,cap,cur,rfl,_⟩
 ·omega
 ·exact(Qit (g:=g) (o:=o) (c:=cap) (xs:=xs) h hs).mono fun r w' ⟨h1,h2,h3⟩=>⟨_,_,h1,h2,fun k hk=>hk,h3.mono (fun i _ hi=>by rw[hi];rfl)⟩
theorem Qjt(o:Nat)(ho:o<18446744073709551616):Calls prog 191 #[.int .u64 o] w fun r w'=>r = .returned (.int .u64 ((o-o%64:Nat):Int))/\w=w':=by
 have e:(o:Int)-(o:Int)%64=((o-o%64:Nat):Int):=by omega
 have E:=hid e;clear e
 go_enter func191,ntmps191
 go_wp2
 go_ret
 exact⟨Xm (by first | exact E.out | (rw[<- E.out])),rfl⟩
def Kn(offs:List Nat):List Int:=offs.map fun o=>((o-o%64:Nat):Int)
theorem Qdx(l:List Nat)(o:Nat):Kn (l ++ [o])=Kn l ++ [((o-o%64:Nat):Int)]:=by simp[Kn]
theorem Qnm(l:List Int):∀ u∈Xb l,u.oneCell'=true:=by intro u hu;simp[Xb]at hu;obtain⟨s,_,rfl⟩:=hu;rfl
theorem Qc1(a b:List Int):Xb (a++b)=Xb a++Xb b:=by simp[Xb]
theorem Qxv(wx:World)(n:Nat)(hn:n<=1000000):(Instr.makeSlice 56 (.int .i64 0) (.int .i64 n)).run prog wx = .ok (.slice (some ⟨wx.heap.size,0,none⟩) 0 n) (wx.alloc (.cells (madeCells #[.int .u64 0] n) 31)):=by
 obtain⟨i0,hi,hz0,hz1,hz2⟩:=info_parts Gv;have:=run_make (P:=prog) wx 56 31 i0 _ underlying56 hi hz0 .i64 .i64 0 n (by omega) (by omega) (by rw[hz2];omega) (by omega);rw[hz1]at this;simpa [Value.cells]using this
theorem Ip{n:Nat}(sv:Value)(offs:List Nat)(ys:List Int)(h:Qj w 31 1 sv n (Xb ys))(hn:ys.length=n)(hp:ys.Perm (Kn offs))(ha:Uv ys 0 n)(h0:0<n)(hs:n<=100000) :
  Calls prog 193 #[sv] w fun r w'=>∃ a c,r = .returned (.slice a (Zh offs).length c)/\Qj w' 31 1 (.slice a (Zh offs).length c) (Zh offs).length (Zw ((Zh offs).map (64 * ·))) /\
   (∀ k,(Value.slice a (Zh offs).length c).ownBlock=some k->sv.ownBlock=some k)/\Upd (fun k=>sv.ownBlock=some k) w w':=by
 subst hn;have hc:=Qaj offs ys hp ha;have hlen:(Gm ys).length=(Zh offs).length:=by rw[hc,List.length_map]
 have hcell:Xb (Gm ys)=Zw ((Zh offs).map (64 * ·)):=by rw[hc];simp[Xb,Zw]
 have:=Qcb sv ys h h0 hs;rw[hlen,hcell]at this;exact this
theorem Qm3(offs:List Nat)(h:0<offs.length):Zh offs ≠ []:=fun e=>by
 obtain⟨o,ho⟩:∃ o,o∈offs:=by
  match offs,h with
  | o::l,_=>exact⟨o,by simp⟩
 have:=(Je offs (o/64)).2 ⟨o,ho,rfl⟩;rw[e]at this;simp at this
theorem Xd(sv:Value)(ws:List (Nat×Int))(h:Ql w 2 sv ws.length (Qv ws))(hl:ws.length<=10000)(hb:∀ e∈ws,e.1<18446744073709551616) :
  Calls prog 124 #[sv] w fun r w'=>∃ ov,r = .returned ov/\Acc w w.heap.size w' 73 3 ov (Qe ws).length (Qd (Qe ws)):=by
 have H:=hid h;have HB:=hid hb;clear hb;obtain⟨_,sa,sc,rfl,hsc,_⟩:=h;obtain⟨k0,hi0,hz0,hz1,hz2⟩:=info_parts Xs;have I2:=hid (And.intro hi0 (And.intro hz0 (And.intro hz1 hz2)));clear hi0 hz0 hz1 hz2
 obtain⟨i0,hi0,hz0,hz1,hz2⟩:=info_parts Gv;have I:=hid (And.intro hi0 (And.intro hz0 (And.intro hz1 hz2)));clear hi0 hz0 hz1 hz2
 generalize hn:ws.length=n at *
 have HN:=hid hn;clear hn
 by_cases h0:n=0
 ·have hw:ws = []:=List.eq_nil_of_length_eq_zero (by rw[HN.out];exact h0)
  have hb0:((n:Int)==0)=true:=by simp;omega
  have HW:=hid hw;clear hw h0
  go_enter func124,ntmps124
  go_wp2_with fail
  go_ret
  exact⟨_,rfl,by rw[HW.out];exact Acc.nil w _ _ _ _ (Below.refl _ _) (Nat.le_refl _)⟩
 ·have hb0:((n:Int)==0)=false:=by simp;omega
  have hpos:0<n:=by omega
  clear h0;have hmk:=fun wx=>Qxv wx n (by omega)
  go_enter func124,ntmps124
  go_wp2_with fail
  have P0:Hid (Qbr w w.heap.size (w.alloc (.cells (madeCells #[.int .u64 0] n) 31)) 73 3 (.slice none 0 0) 0 (Qd []) 31 1 (.slice (some ⟨w.heap.size,0,none⟩) 0 n) 0 (Xb [])):=by
   refine⟨Acc.nil w _ _ _ _ (Qa _ _) (by simp),⟨?_,fun g hg=>by simp[Value.ownBlock]at hg;omega,Qa _ _,by simp⟩,fun g hg=>by simp[Value.ownBlock]at hg⟩
   have:=Qj.new w (madeCells #[.int .u64 0] n) 31 1 0 n (by simp[madeCells]) (Nat.zero_le _) (by unfold maxLen;omega);simpa [Xb]using this
  go_loopw [3,4,17] (fun ov fv y wr=>∃ k:Nat,k<=n/\y = .int .i64 k/\Qbr w w.heap.size wr 73 3 ov k (Qd (stC (ws.take k))) 31 1 fv k (Xb (Kn ((ws.take k).map (·.1))))) (fun _ _ y _=>n-(intOf y).toNat)
  case atStart=>exact⟨0,by omega,rfl,P0.out⟩
  case round=>
   obtain⟨k,hk,rfl,ha⟩:=hrel;obtain⟨oa,oc,hov⟩:=ha.a.slice;subst hov;obtain⟨fa,fc,hfv⟩:=ha.b.slice;subst hfv;have A:=hid ha;clear ha P0
   by_cases hlt2:k<n
   ·have hk':(k:Int)<n:=by omega
    obtain⟨e,he⟩:∃ e,ws[k]? = some e:=⟨_,List.getElem?_eq_getElem (by rw[HN.out];exact hlt2)⟩;obtain⟨_,a',c',e',_,hE⟩:=H.out.below A.out.a.bel
    cases e'
    have hg:=Xr ws k e he;obtain⟨eb,eo,rfl,hE2⟩:=Zr hE hg.1;have c1:=hE2 _ _ hg.1;have c2:=hE2 _ _ hg.2
    rw[<- Nat.add_assoc]at c2;have HT:=hid (Qy ws k e he);have hlt64:=HB.out e (List.mem_of_getElem? he);clear hE hE2 he hg;obtain⟨e1,e2⟩:=e;simp only at c1 c2 hlt64;have HM:=hid (fun wx=>Qjt (w:=wx) e1 hlt64);have hne:(Value.slice oa k oc).ownBlock≠some wr.heap.size:=fun hh=>by have:=A.out.a.own.lt _ hh;omega
    have HNE:=hid hne;clear hne
    go_wp2_with (at_builtin;refine Qc _ rfl _ _ 37 rfl 73 k0 _ 3 24 underlying37 I2.out.1 I2.out.2.1 I2.out.2.2.1 I2.out.2.2.2 rfl (by decide) _ k (Qd (stC (ws.take k))) rfl (by exact(A.out.a.own.alloc _).alloc _) _ 1 (Qd [(1,e1,e2)]) rfl (by exact Ql.newAt _ _ _ 3 1 _ (by simp) rfl) (Zn _) (by unfold maxLen;omega) (by omega) ?_)
    intro v1 w1 o1 g1 b1 n1;have d1:w1.cell? ⟨wr.heap.size,0,none⟩=some (.int .u64 (e1:Int)):=(Uj (Qa _ _) g1 (by simp) HNE.out 0).trans ((Blk.new wr _ _).cell rfl);have P1:=hid (A.out.left (Ze wr _ _) o1 g1 b1 (by omega));clear o1 g1 b1 n1
    obtain⟨va,vc,hv1⟩:=P1.out.a.slice;subst hv1;go_wp2_with fail
    (with_reducible refine(HM.out _).mono ?_)
    rintro e w' ⟨rfl,rfl⟩;go_wp2_with (at_builtin;refine Qc _ rfl _ _ 56 rfl 31 i0 _ 1 8 underlying56 I.out.1 I.out.2.1 I.out.2.2.1 I.out.2.2.2 rfl (by decide) _ k (Xb (Kn ((ws.take k).map (·.1)))) rfl (by exact P1.out.b.own.alloc _) _ 1 (Xb [((e1-e1%64:Nat):Int)]) rfl (by exact Ql.newAt _ _ _ 1 1 _ (by simp) rfl) (Qnm _) (by unfold maxLen;omega) (by omega) ?_)
    intro v2 w2 o2 g2 b2 n2;have o2':Qj w2 31 1 v2 (k+1) (Xb (Kn ((ws.take k).map (·.1)))++Xb [((e1-e1%64:Nat):Int)]):=by rw[List.map_take];exact o2
    have P2:=hid ((P1.out.swap.left (Qa w1 _) o2' g2 b2 (by omega)).swap);clear o2 o2' g2 b2 n2
    go_wp2_with fail
    go_roundw
    case rel=>exact⟨k+1,by omega,by go_num,by rw[HT.out,Qub,Zv,List.map_append,List.map_cons,List.map_nil,Qdx,Qc1];exact P2.out⟩
    case measure=>simp[intOf];omega
   ·obtain rfl:k=n:=by omega
    have hF:ws.take k=ws:=List.take_of_length_le (by rw[HN.out];omega);rw[hF]at A;clear hF hmk;have hml:(Kn (ws.map (·.1))).length=k:=by unfold Kn;rw[List.length_map,List.length_map,HN.out]
    have hS:=Qp6 (w:=wr) (.slice fa k fc) (Kn (ws.map (·.1))) (by rw[hml];exact A.out.b.own) (by rw[hml];omega);rw[hml]at hS;have HS:=hid hS;clear hS
    have HL:=hid (Eo (ws.map (·.1)));have hlen:(Zh (ws.map (·.1))).length<=k:=by have:=HL.out;rw[List.length_map,HN.out]at this;exact this
    have HP:=hid (Qm3 (ws.map (·.1)) (by rw[List.length_map,HN.out];exact hpos));have hbd:=Gy (ws.map (·.1)) 288230376151711744 (fun o ho=>by
     obtain⟨e,he,rfl⟩:=List.mem_map.1 ho;have:=HB.out e he;omega)
    have HBD:=hid hbd;have HST:Hid (Qe ws=stC ws++(flC (Zh (ws.map (·.1))) ++ [(3,0,0)])):=by
     show Qe ws=_
     unfold Qe Zs;rw[if_neg HP.out];rfl
    have HC:=hid (fun ys (wx:World) h1 h2 h3 h4=>Ip (w:=wx) (n:=k) (.slice fa k fc) (ws.map (·.1)) ys h1 h2 h3 h4 hpos (by omega));clear hbd HL
    generalize Zh (ws.map (·.1))=L at *
    generalize hm:L.length=m at *
    have HM:=hid hm;clear hm
    go_wp2_with fail
    (with_reducible refine HS.out.mono ?_)
    rintro e w1 ⟨rfl,ys,m1,a1,o1,u1⟩;have hyl:ys.length=k:=by rw[m1.len,hml]
    have HC1:=hid (HC.out ys w1 o1 hyl m1.perm a1);have P1:=hid (A.out.a.side u1 A.out.b.new (fun g h1 h2=>A.out.ne g h1 h2));have hnew:=A.out.b.new;have hne:=A.out.ne
    clear o1 u1 m1 a1 hyl HS HC hml A;have NW:=hid (And.intro hnew hne);clear hnew hne
    go_wp2_with fail
    (with_reducible refine HC1.out.mono ?_)
    rintro e w2 ⟨ca,cc,rfl,o2,b2,u2⟩;have P2:=hid (P1.out.side u2 NW.out.1 (fun g h1 h2=>NW.out.2 g h1 h2));have O2:Hid (Qbr w w.heap.size w2 73 3 (.slice oa k oc) k (Qd (stC ws)) 31 1 (.slice ca m cc) m (Zw (L.map (64 * ·)))):=
     ⟨P2.out,⟨o2,fun g hg=>NW.out.1 g (b2 g hg),P2.out.bel,P2.out.lt⟩,fun g h1 h2=>NW.out.2 g h1 (b2 g h2)⟩
    clear o2 b2 u2 P1 P2 NW HC1;go_wp2_with fail
    go_loopw [3,41] (fun ov y wr=>∃ j:Nat,j<=m/\y = .int .i64 j/\Qbr w w.heap.size wr 73 3 ov (k+j) (Qd (stC ws++flC (L.take j))) 31 1 (.slice ca m cc) m (Zw (L.map (64 * ·)))) (fun _ y _=>m-(intOf y).toNat)
    case atStart=>exact⟨0,by omega,rfl,by simpa [flC]using O2.out⟩
    case round=>
     obtain⟨j,hj,rfl,ha⟩:=hrel;obtain⟨ra,rc,hrv⟩:=ha.a.slice;subst hrv;have A:=hid ha;clear ha O2
     by_cases hlt3:j<m
     ·have hj':(j:Int)<m:=by omega
      obtain⟨x,hx⟩:∃ x,L[j]? = some x:=⟨_,List.getElem?_eq_getElem (by rw[HM.out];exact hlt3)⟩;have hxb:=HBD.out x (List.mem_of_getElem? hx);have hx2:(Zw (L.map (64 * ·)))[j]? = some (.int .u64 ((64*x:Nat):Int)):=by simp[Zw,hx]
      obtain⟨_,a',c',e',_,hE⟩:=A.out.b.rd
      cases e'
      obtain⟨eb,eo,rfl,hE2⟩:=Zr hE hx2;have c1:=hE2 _ _ hx2;have HT:=hid (Qy L j x hx);clear hE hE2 hx hx2;obtain⟨y,hy⟩:∃ y:Nat,64*x=y:=⟨_,rfl⟩;rw[hy]at c1;have HY:=hid hy;clear hy
      go_wp2_with (at_builtin;refine Qc _ rfl _ _ 37 rfl 73 k0 _ 3 24 underlying37 I2.out.1 I2.out.2.1 I2.out.2.2.1 I2.out.2.2.2 rfl (by decide) _ (k+j) (Qd (stC ws++flC (L.take j))) rfl (by exact A.out.a.own.alloc _) _ 1 (Qd [(2,y,0)]) rfl (by exact Ql.newAt _ _ _ 3 1 _ (by simp) rfl) (Zn _) (by unfold maxLen;omega) (by omega) ?_)
      intro v1 w3 o1 g1 b1 n1;have P3:=hid (A.out.left (Qa wr _) o1 g1 b1 (by omega));clear o1 g1 b1 n1
      go_wp2_with fail
      go_roundw
      case rel=>exact⟨j+1,by omega,by go_num,by rw[HT.out,Qsd,HY.out,<- List.append_assoc,Zv (stC ws++flC (L.take j))];exact P3.out⟩
      case measure=>simp[intOf];omega
     ·obtain rfl:j=m:=by omega
      have hF:L.take j=L:=List.take_of_length_le (by rw[HM.out];omega);rw[hF]at A;clear hF;go_wp2_with (at_builtin;refine Qc _ rfl _ _ 37 rfl 73 k0 _ 3 24 underlying37 I2.out.1 I2.out.2.1 I2.out.2.2.1 I2.out.2.2.2 rfl (by decide) _ (k+j) (Qd (stC ws++flC L)) rfl (by exact A.out.a.own.alloc _) _ 1 (Qd [(3,0,0)]) rfl (by exact Ql.newAt _ _ _ 3 1 _ (by simp) rfl) (Zn _) (by unfold maxLen;omega) (by omega) ?_)
      intro v1 w3 o1 g1 b1 n1;have A1:=hid (A.out.a.next (Qa wr _) o1 g1 b1 (by omega));clear o1 g1 b1 n1
      go_wp2_with fail
      go_ret
      exact⟨_,rfl,by rw[HST.out,<- List.append_assoc];exact A1.out.congr (by simp[stC,flC,HN.out,HM.out];omega) (by rw[Zv (stC ws++flC L)])⟩
end
end

section
section
variable{w:World}
theorem Qsl(n:Nat)(hn:n<=1000000):Calls prog 208 #[.slice none 0 0,.int .i64 n] w fun r w'=>∃ v,r = .returned v/\Acc w w.heap.size w' 73 3 v 0 []:=by
 by_cases h0:n=0
 ·subst h0
  rw[show((0:Nat):Int)=0 from rfl]
  go_enter func208,ntmps208
  go_wp2_with fail
  go_ret
  exact⟨_,rfl,Acc.nil w _ _ _ _ (Below.refl _ _) (Nat.le_refl _)⟩
 ·obtain⟨i0,hi,hz0,hz1,hz2⟩:=info_parts Xs
  have hf:(Builtin.firstCells i0.size 0 (.slice none 0 0)).run prog w.drew = .ok ([]:List Value).toArray w.drew:=run_firstCells_none w.drew i0.size 0 0 0;have hr:=fun ty=>Lib.run_append_grow_zeros (P:=prog) w 37 3 ty 73 i0 _ .i64 .i64 underlying37 underlying3 hi hz0 none 0 0 [] hf n (by omega) (by rw[hz1];decide) (by omega) (by omega) (by rw[hz2];omega) (growslice_fits (by omega) (by rw[hz2];omega))
  have hge:=grownCap_ge w (0+n) 0 73;have hle:=grownCap_le_maxLen w (0+n) 0 73 (by unfold maxLen;omega)
  generalize grownCap w (0+n) 0 73=G at *
  have h1:¬ ((n:Int)<0):=by omega
  have h2:(0:Int)<n:=by omega
  have hle2:(0:Int)<=(n:Int):=by omega
  rw[Nat.zero_add]at hr hge;clear hf;have hle':=hle;unfold maxLen at hle'
  go_enter func208,ntmps208
  go_wp2_with (at_builtin;refine Lib.wpList_append_run _ rfl _ _ _ _ rfl _ _ rfl rfl _ _ (hr _) ?_)
  go_ret
  refine⟨_,rfl,?_⟩
  have hz:(Builtin.zeroCells #[.int .u8 0,.int .u64 0,.int .u64 0] n).size=n*3:=by simp[Builtin.zeroCells]
  have hz2:(Builtin.zeroCells #[.int .u8 0,.int .u64 0,.int .u64 0] (G-n)).size=(G-n)*3:=by simp[Builtin.zeroCells]
  refine⟨?_,fun g hg => ?_,?_,?_⟩
  ·have:=(Qj.new w (Builtin.zeroCells #[.int .u8 0,.int .u64 0,.int .u64 0] n++Builtin.zeroCells #[.int .u8 0,.int .u64 0,.int .u64 0] (G-n)) 73 3 0 G (by rw[Array.size_append,hz,hz2];omega) (Nat.zero_le _) hle).drew
   simpa using this
  ·simp[Value.ownBlock]at hg;omega
  ·exact Xn w _
  ·simp[World.drew]
structure Q0g(w:World)(b:Nat)(pv qv:Value)(p q:List (Nat×Nat×Int)):Prop where
 c0:w.cell? ⟨b,0,none⟩=some pv
 c1:w.cell? ⟨b,1,none⟩=some qv
 p:Ql w 3 pv p.length (Qd p)
 q:Ql w 3 qv q.length (Qd q)
theorem Q0g.below{b:Nat}{pv qv:Value}{p q:List (Nat×Nat×Int)}{w':World}(h:Q0g w b pv qv p q)(hb:Below w.heap.size w w'):Q0g w' b pv qv p q:=
 ⟨Zj hb h.c0,Zj hb h.c1,h.p.below hb,h.q.below hb⟩
theorem Qiu(b:Nat)(pv qv:Value)(p q:List (Nat×Nat×Int))(h:Q0g w b pv qv p q)(hl:p.length+q.length<=100000) :
  Calls prog 160 #[.slice (some ⟨b,0,none⟩) 2 2] w fun r w'=>∃ ov,r = .returned ov/\Acc w w.heap.size w' 73 3 ov (p++q).length (Qd (p++q)):=by
 have H:=hid h;obtain⟨c0,c1,⟨_,pa,pc,rfl,hpc,_⟩,⟨_,qa,qc,rfl,hqc,_⟩⟩:=h;obtain⟨k0,hi0,hz0,hz1,hz2⟩:=info_parts Xs;have I2:=hid (And.intro hi0 (And.intro hz0 (And.intro hz1 hz2)));clear hi0 hz0 hz1 hz2
 have HE:Hid ((p++q).length=p.length+q.length):=List.length_append
 generalize hn:p.length=n at *
 generalize hm:q.length=m at *
 have HN:=hid (And.intro hn hm);clear hn hm
 have HG:=hid (Qsl (w:=w) (n+m) (by omega));have hs1:¬ (n:Int)<0:=by omega
 have hs2:¬ (n:Int)+m<0:=by omega
 have e01:((n+m:Nat):Int)=(n:Int)+m:=by omega
 rw[e01]at HG;clear e01
 go_enter func160,ntmps160
 go_wp2_with fail
 go_loop [3,11] (fun y z=>(z = .int .i64 0/\y = .int .i64 0)\/(z = .int .i64 1/\y = .int .i64 n)\/(z = .int .i64 2/\y = .int .i64 ((n:Int)+m))) (fun _ z=>2-(intOf z).toNat)
 case atStart=>exact .inl ⟨rfl,rfl⟩
 case round=>
  rcases hrel with ⟨rfl,rfl⟩ | ⟨rfl,rfl⟩ | ⟨rfl,rfl⟩
  ·go_wp2_with fail
   go_round
   case rel=>exact .inr (.inl ⟨rfl,by simp⟩)
   case measure=>simp[intOf]
  ·go_wp2_with fail
   go_round
   case rel=>exact .inr (.inr ⟨rfl,rfl⟩)
   case measure=>simp[intOf]
  ·go_wp2_with fail
   (with_reducible refine HG.out.mono ?_)
   rintro e w1 ⟨gv,rfl,a1⟩;have A1:=hid a1;have c0':=Zj a1.bel c0;have c1':=Zj a1.bel c1
   clear a1 HG c0 c1;go_wp2_with fail
   go_loopw [6,27] (fun v z wr=>(z = .int .i64 0/\Acc w w.heap.size wr 73 3 v 0 [])\/(z = .int .i64 1/\Acc w w.heap.size wr 73 3 v n (Qd p))\/(z = .int .i64 2/\Acc w w.heap.size wr 73 3 v (n+m) (Qd p++Qd q))) (fun _ z _=>2-(intOf z).toNat)
   case atStart=>exact .inl ⟨rfl,A1.out⟩
   case round=>
    clear A1
    rcases hrel with ⟨rfl,ha⟩ | ⟨rfl,ha⟩ | ⟨rfl,ha⟩
    ·have T:=hid (H.out.below ha.bel)
     obtain⟨va,vc,rfl⟩:=ha.slice;have A:=hid ha;clear ha
     have d0:=T.out.c0;have d1:=T.out.c1
     go_wp2_with (at_builtin;refine Qc _ rfl _ _ 37 rfl 73 k0 _ 3 24 underlying37 I2.out.1 I2.out.2.1 I2.out.2.2.1 I2.out.2.2.2 rfl (by decide) _ 0 [] rfl (by exact A.out.own) _ n (Qd p) rfl (by have:=T.out.p;rw[HN.out.1]at this;exact this) (Zn _) (by unfold maxLen;omega) (by omega) ?_)
     intro v1 w3 o1 g1 b1 n1;have o1':Qj w3 73 3 v1 (0+n) ([]++Qd p):=by rw[Nat.zero_add];exact o1
     have A2:=hid (A.out.next (Below.refl _ _) o1' g1 b1 (Nat.le_refl _));clear o1 o1' g1 b1 n1
     go_wp2_with fail
     go_roundw
     case rel=>exact .inr (.inl ⟨rfl,A2.out.congr (by omega) (by simp)⟩)
     case measure=>simp[intOf]
    ·have T:=hid (H.out.below ha.bel)
     obtain⟨va,vc,rfl⟩:=ha.slice;have A:=hid ha;clear ha
     have d0:=T.out.c0;have d1:=T.out.c1
     go_wp2_with (at_builtin;refine Qc _ rfl _ _ 37 rfl 73 k0 _ 3 24 underlying37 I2.out.1 I2.out.2.1 I2.out.2.2.1 I2.out.2.2.2 rfl (by decide) _ n (Qd p) rfl (by exact A.out.own) _ m (Qd q) rfl (by have:=T.out.q;rw[HN.out.2]at this;exact this) (Zn _) (by unfold maxLen;omega) (by omega) ?_)
     intro v1 w3 o1 g1 b1 n1;have A2:=hid (A.out.next (Below.refl _ _) o1 g1 b1 (Nat.le_refl _));clear o1 g1 b1 n1
     go_wp2_with fail
     go_roundw
     case rel=>exact .inr (.inr ⟨rfl,A2.out⟩)
     case measure=>simp[intOf]
    ·have A:=hid ha
     obtain⟨va,vc,rfl⟩:=ha.slice;clear ha;go_wp2_with fail
     go_ret
     exact⟨_,rfl,A.out.congr (by rw[List.length_append,HN.out.1,HN.out.2]) (by rw[Zv])⟩
theorem Xx(pv qv:Value)(p q:List (Nat×Nat×Int))(hp:Ql w 3 pv p.length (Qd p))(hq:Ql w 3 qv q.length (Qd q))(hl:p.length+q.length<=100000) :
  Calls prog 69 #[pv,qv] w fun r w'=>∃ ov,r = .returned ov/\Acc w w.heap.size w' 73 3 ov (p++q).length (Qd (p++q)):=by
 have hT:Q0g (w.alloc (.cells #[pv,qv] 37)) w.heap.size pv qv p q:=⟨(Blk.new w _ _).cell rfl,(Blk.new w _ _).cell rfl,hp.alloc _,hq.alloc _⟩;have HC:=hid (Qiu _ _ _ _ _ hT hl);obtain⟨_,pa,pc,rfl,_,_⟩:=hp;obtain⟨_,qa,qc,rfl,_,_⟩:=hq;clear hT
 generalize p.length=n at *
 generalize q.length=m at *
 go_enter func69,ntmps69
 go_wp2_with fail
 (with_reducible refine HC.out.mono ?_)
 rintro e w1 ⟨ov,rfl,a1⟩;have A1:=hid (a1.deeper (Qa _ _));clear a1 HC
 go_wp2_with fail
 go_ret
 exact⟨_,rfl,A1.out⟩
end
end

section
open Go.Maps
theorem Qm4(offs:List Nat)(h:∀ o∈offs,o<18446744073709551616):Qz (Zs offs):=by
 intro e he;unfold Zs at he
 split at he
 ·simp at he
 ·rcases List.mem_append.1 he with h1 | h1
  ·obtain⟨l,hl,rfl⟩:=List.mem_map.1 h1
   have:=Gy offs 288230376151711744 (fun o ho=>by have:=h o ho;omega) l hl;exact⟨by simp,by simp,by simp only;omega⟩
  ·simp at h1;subst h1;exact⟨by simp,by simp,by simp⟩
theorem Tc(ws:List (Nat×Int))(h:∀ e∈ws,e.1<18446744073709551616):Qz (Qe ws):=by
 intro e he;unfold Qe at he
 rcases List.mem_append.1 he with h1 | h1
 ·obtain⟨x,hx,rfl⟩:=List.mem_map.1 h1
  exact⟨by simp,by simp,h x hx⟩
 ·exact Qm4 _ (fun o ho=>by obtain⟨x,hx,rfl⟩:=List.mem_map.1 ho;exact h x hx) e h1
theorem Df{a b:List (Nat×Nat×Int)}(ha:Qz a)(hb:Qz b):Qz (a++b):=fun e he=>by
 rcases List.mem_append.1 he with h | h
 ·exact ha e h
 ·exact hb e h
theorem Zx(ws:List (Nat×Int)):(Qe ws).length<=2*ws.length+1:=by
 have:=Ye (ws.map (·.1));unfold Qe;rw[List.length_append,List.length_map];rw[List.length_map]at this;omega
section
variable{w:World}{v:DV}{own:Nat->Option Qp}{D:Dev}{j:Nat}
theorem Qr.past{w1 w2:World}{D':Dev}(hb:Below w.heap.size w w1)(h:Qr v own w1 D' w2):Qr v own w D' w2:=Qr.next (fun _ _=>rfl) (Upd.of_below hb) h
theorem Le(h:IsDev w v own D)(hj:j<8){w1:World}{pv:Value}{P:List (Nat×Nat×Int)}(ha:Acc w w.heap.size w1 73 3 pv P.length (Qd P))(hi:Qz P)(hl:P.length<=100000)(hx:D.exec+100000<4294967296) :
  Calls prog 12 #[pv,.iface 40 (.pointer (some ⟨v.tb j,0,none⟩))] w1 fun r w'=>r = .returned (.int .i64 ((D.run j P).err j))/\Qr v own w (D.run j P) w':=
 (Km (h.below ha.bel) hj pv P ha.rd (fun k hk=>by
  have:=ha.new k hk
  cases ho:own k with
  | none=>rfl
  | some r=>have:=h.lt k (by rw[ho];simp);omega) hi hl (by omega)).mono fun r w' hp=>⟨hp.1,hp.2.past ha.bel⟩
end
end
end Go.Proofs.YtlhchkajjpefmaaGreatDoor
