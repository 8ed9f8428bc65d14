/- Lemmas and walks, part 6: each theorem says what it proves; no condition beside its own. -/
import Derived.Test.YtlhchkajjpefmaaGreatDoorK5
import Derived.Lib.ConvBytes
set_option maxHeartbeats 16000000
set_option maxRecDepth 100000
namespace Go.Proofs.YtlhchkajjpefmaaGreatDoor
open Lib(hid)
open Go.RowKit Go.Proofs.Tryz
section
attribute [local go_sem ↓] Go.wp_at_zero Go.wp_at_succ
section
variable{w:World}{v:DV}{own:Nat->Option Qp}{D:Dev}{pg N:Nat}{lv hv:Value}{hs:List Value}
theorem Fq(D:Dev)(k l:Nat)(h:D.dirtyL[k]? = some l):(Qf D).take (k+1)=(Qf D).take k ++ [(D.hist l).length+1]/\(Qf D)[k]? = some ((D.hist l).length+1):=by
 have h1:(Qf D)[k]? = some ((D.hist l).length+1):=by unfold Qf;rw[List.getElem?_map,h];rfl
 exact⟨by rw[List.take_add_one,h1];rfl,h1⟩
theorem Mu(D:Dev):(Qf D).length=D.dirtyL.length:=by unfold Qf;rw[List.length_map]
theorem Qqf(h:Qk8 D pg lv hv hs w)(hp:Qm (Qf D)<18446744073709551616)(hm:D.dirtyL.length<=1000000)(hq:∀ l∈D.dirtyL,(D.hist l).length<=1000000000) :
  Calls prog 41 #[.agg #[.slice (some ⟨pg,0,none⟩) N N,lv,hv]] w fun r w'=>r = .returned (.tuple #[.int .u64 (Qm (Qf D):Nat),.bool true])/\Below w.heap.size w w':=by
 have K0:=hid (Blk.new w #[.slice (some ⟨pg,0,none⟩) N N,lv,hv] 95);have B0:=hid (Qa w (.cells #[.slice (some ⟨pg,0,none⟩) N N,lv,hv] 95));have H:=hid (h.next B0.out);have HQ:=hid hq;have HP:=hid hp;have HLE:=hid (fun k=>Qhx (Qf D) (Mv D) k);have HBA:=hid (Fq D);have HALL:Hid ((Qf D).take D.dirtyL.length=Qf D):=List.take_of_length_le (by rw[Mu];exact Nat.le_refl _);obtain⟨m,hmm⟩:∃ m,D.dirtyL.length=m:=⟨_,rfl⟩;have HM:=hid hmm;have hh:=h.hist;rw[hmm]at hm HALL hh;obtain⟨_,ha,hc,rfl,hmc,_⟩:=hh;clear h hp hq hmm
 go_enter func41,ntmps41
 go_wp2_with fail
 go_loop [4,6,7,8,12] (fun z _ _ _ y=>∃ k:Nat,k<=m/\y = .int .i64 k/\z = .int .u64 (Qm ((Qf D).take k):Nat)) (fun _ _ _ _ y=>m-(intOf y).toNat)
 case atStart=>exact⟨0,by omega,rfl,rfl⟩
 case round=>
  obtain⟨k,hk,rfl,rfl⟩:=hrel
  by_cases hlt:k<m
  ·have hlt':(k:Int)<m:=by omega
   obtain⟨l,hl⟩:∃ l,D.dirtyL[k]? = some l:=⟨_,List.getElem?_eq_getElem (by rw[HM.out];exact hlt)⟩;obtain⟨u,r1,r2⟩:=H.out.row k l hl;have hq1:=HQ.out l (List.mem_of_getElem? hl);obtain⟨hb1,_⟩:=HBA.out k l hl;have hle:=HLE.out (k+1);have hle0:=HLE.out k;have hp:=HP.out;obtain⟨_,_,_,e',_,hE⟩:=H.out.hist
   cases e'
   obtain⟨hb,ho,rfl,hE2⟩:=Zr hE r1;have c1:=hE2 k _ r1;obtain⟨_,ua,uc,rfl,_,_⟩:=r2;obtain⟨q,hqd⟩:∃ q,(D.hist l).length=q:=⟨_,rfl⟩;rw[hqd]at c1 hq1 hb1;rw[hb1,Fx]at hle;have HNX:Hid (Qm ((Qf D).take (k+1))=Qm ((Qf D).take k)*(q+1)):=by show _=_;rw[hb1,Fx]
   obtain⟨P,hP⟩:∃ P,Qm ((Qf D).take k)=P:=⟨_,rfl⟩;rw[hP]at hle hle0 HNX ⊢;have hP64:P<18446744073709551616:=by omega
   have hPq:P*(q+1)<18446744073709551616:=by omega
   have ga1:IntKind.u64.wrap (q:Int)=(q:Int):=IntWalk.u64_in _ (by omega);have ga2:IntKind.u64.wrap ((q:Int)+1)=(q:Int)+1:=IntWalk.u64_in _ (by omega);have HMU:Hid (∀ wx,Calls prog 131 #[.int .u64 (P:Int),.int .u64 ((q:Int)+1)] wx fun e w'=>e = .returned (.tuple #[.int .u64 0,.int .u64 ((P*(q+1):Nat):Int)])/\wx=w'):=fun wx=>by
    have:=Tryz.bits_Mul64 P (q+1) hP64 (by omega) wx;rw[Nat.div_eq_of_lt hPq,Nat.mod_eq_of_lt hPq,show(((q+1:Nat)):Int)=(q:Int)+1 by omega]at this;exact this.mono fun _ _ ⟨h1,h2⟩=>⟨h1,h2.symm⟩
   clear hE hE2 r1 hl hqd hb1 hP hp hle hle0;go_wp2_with fail
   (with_reducible refine(HMU.out _).mono ?_)
   rintro r w' ⟨rfl,rfl⟩;go_wp2_with fail
   go_round
   case rel=>exact⟨k+1,by omega,by go_num,by rw[HNX.out];simp⟩
   case measure=>simp[intOf];omega
  ·obtain rfl:k=m:=by omega
   rw[HALL.out];go_wp2_with fail
   go_ret2
   exact⟨rfl,B0.out⟩
theorem As(h:IsDev w v own D)(hvb:D.VB)(hx:D.exec<1000000000)(hp:Qm (Qf D)<=4611686018427387904)(hq:∀ l∈D.dirtyL,(D.hist l).length<=1000000000) :
  Calls prog 13 #[.pointer (some ⟨v.db,0,none⟩)] w fun r w'=>r = .returned (.tuple #[.int .u64 (Qm (Qf D):Nat),.bool true])/\Below w.heap.size w w':=by
 have hdl:D.dirtyL.length<=1000000:=by
  have h1:D.dirtyL.length<=D.n:=by unfold Dev.dirtyL;exact Ka D D.n
  have:=h.wf.le;omega
 have HE:=hid (Tz h hvb (by omega));have HT:=hid (fun(wx:World) (pg:Nat) (lv hv:Value) (hs:List Value) (hE:Qk8 D pg lv hv hs wx)=>Qqf (N:=64*D.n) hE (by omega) hdl hq);obtain⟨P,hP⟩:∃ P,Qm (Qf D)=P:=⟨_,rfl⟩;rw[hP]at hp HT ⊢;have hp2:¬ (4611686018427387904:Int)<(P:Int):=by omega
 clear h hvb hx hq hdl hP hp
 go_enter func13,ntmps13
 go_wp2_with fail
 (with_reducible refine HE.out.mono ?_)
 rintro r w1 ⟨pg,lv,hv,hs,rfl,hE,b1⟩;have HT1:=hid (HT.out _ _ _ _ _ hE);have B1:=hid b1;clear hE b1 HE HT;go_wp2_with fail
 (with_reducible refine HT1.out.mono ?_)
 rintro r w2 ⟨rfl,b2⟩;have B2:=hid (B1.out.trans (b2.mono B1.out.size));clear b2 HT1;go_wp2_with fail
 go_ret2
 exact⟨rfl,B2.out⟩
theorem Q1q(wx:World)(n:Nat)(hn:n<=1000000):(Instr.makeSlice 60 (.int .i64 n) (.int .i64 n)).run prog wx = .ok (.slice (some ⟨wx.heap.size,0,none⟩) n n) (wx.alloc (.cells (madeCells #[.int .i64 0] n) 3)):=by
 obtain⟨i0,hi,hz0,hz1,hz2⟩:=info_parts Bi;have:=run_make (P:=prog) wx 60 3 i0 _ underlying60 hi hz0 .i64 .i64 n n (by omega) (by omega) (by rw[hz2];omega) (by omega);rw[hz1]at this;simpa [Value.cells]using this
structure Q0e(w wb:World)(D:Dev)(m g N0 k n':Nat)(wr:World):Prop where
 row:∃ f:Nat->Nat,Row wr g m 3 (fun i => .int .i64 (f i))/\∀ (i b:Nat),k<=i->(Qf D)[i]? = some b->f i<b/\f i=Lx (Qf D) N0 i
 n:n'<Qm ((Qf D).take k)
 dig:n'=N0/Qm ((Qf D).drop k)
 bel:Below w.heap.size w wr
 up:Upd (· = g) wb wr
theorem Q0e.step{m g N0 i n' q:Nat}{wb wr:World}(h:Q0e w wb D m g N0 (i+1) n' wr)(hg:w.heap.size<=g)(hb:(Qf D).take (i+1)=(Qf D).take i ++ [q+1])(hq:(Qf D)[i]? = some (q+1)):Q0e w wb D m g N0 i (n'/(q+1)) (wr.setCell ⟨g,i,none⟩ (.int .i64 ((n'%(q+1):Nat):Int))):=by
 obtain⟨f,h1,h2⟩:=h.row;have hn:=h.n;have hd:=h.dig;rw[hb,Fx]at hn;refine⟨⟨fun j=>if j=i then n'%(q+1)else f j,(h1.set i (.int .i64 ((n'%(q+1):Nat):Int))).congr (fun j _ => ?_),fun j b hj hjb => ?_⟩,Nat.div_lt_of_lt_mul (by rw[Nat.mul_comm];exact hn),?_,h.bel.setCell hg _,h.up.setCell (fun _=>rfl) _⟩
 ·by_cases e:j=i
  ·simp only[if_pos e]
  ·simp only[if_neg e]
 ·by_cases e:j=i
  ·simp only[if_pos e]
   subst e;rw[hq]at hjb
   cases hjb
   refine⟨Nat.mod_lt _ (by omega),?_⟩
   unfold Lx;rw[hd,List.getD_eq_getElem?_getD,hq]
   rfl
  ·simp only[if_neg e]
   exact h2 j b (by omega) hjb
 ·rw[Qka hq,hd,Nat.div_div_eq_div_mul]
theorem Lh(h:Qk8 D pg lv hv hs w)(n:Nat)(hn:n<Qm (Qf D))(hp:Qm (Qf D)<18446744073709551616)(hm:D.dirtyL.length<=1000000)(hq:∀ l∈D.dirtyL,(D.hist l).length<=1000000000) :
  Calls prog 42 #[.agg #[.slice (some ⟨pg,0,none⟩) N N,lv,hv],.int .u64 n] w fun r w'=>∃ (g:Nat) (f:Nat->Nat),r = .returned (.tuple #[.slice (some ⟨g,0,none⟩) D.dirtyL.length D.dirtyL.length,.bool true])/\Row w' g D.dirtyL.length 3 (fun i => .int .i64 (f i))/\(∀ (i b:Nat),(Qf D)[i]? = some b->f i<b/\f i=Lx (Qf D) n i)/\w.heap.size<=g/\Below w.heap.size w w':=by
 have K0:=hid (Blk.new w #[.slice (some ⟨pg,0,none⟩) N N,lv,hv] 95);have B0:=hid (Qa w (.cells #[.slice (some ⟨pg,0,none⟩) N N,lv,hv] 95));have H:=hid h;have HQ:=hid hq;have HP:=hid hp;have HLE:=hid (fun k=>Qhx (Qf D) (Mv D) k);have HBA:=hid (Fq D);have HALL:Hid ((Qf D).take D.dirtyL.length=Qf D):=List.take_of_length_le (by rw[Mu];exact Nat.le_refl _);have HBL:=hid (Mu D);obtain⟨m,hmm⟩:∃ m,D.dirtyL.length=m:=⟨_,rfl⟩;have HM:=hid hmm;have hh:=h.hist;have hl:=h.lines;rw[hmm]at hm HALL hh hl HBL ⊢;obtain⟨_,ha,hc,rfl,hmc,_⟩:=hh;obtain⟨_,la,lc,rfl,_,_⟩:=hl;have K2:Hid (Blk ((w.alloc (.cells #[.slice (some ⟨pg,0,none⟩) N N,.slice la m lc,.slice ha m hc] 95)).alloc (.cells (madeCells #[.int .i64 0] m) 3)) w.heap.size #[.slice (some ⟨pg,0,none⟩) N N,.slice la m lc,.slice ha m hc] 95):=K0.out.alloc _;have S0:Hid (Q0e w ((w.alloc (.cells #[.slice (some ⟨pg,0,none⟩) N N,.slice la m lc,.slice ha m hc] 95)).alloc (.cells (madeCells #[.int .i64 0] m) 3)) D m (w.heap.size+1) n m n ((w.alloc (.cells #[.slice (some ⟨pg,0,none⟩) N N,.slice la m lc,.slice ha m hc] 95)).alloc (.cells (madeCells #[.int .i64 0] m) 3))):=by
  have hr:=Mb (w.alloc (.cells #[.slice (some ⟨pg,0,none⟩) N N,.slice la m lc,.slice ha m hc] 95)) 3 .i64 m;rw[World.size_alloc]at hr;exact⟨⟨fun _=>0,hr,fun i b hi hb=>by have:=(List.getElem?_eq_some_iff.1 hb).1;rw[HBL.out]at this;omega⟩,by rw[HALL.out];exact hn,by rw[List.drop_of_length_le (by rw[HBL.out];exact Nat.le_refl _)];exact(Nat.div_one n).symm,(Ze w _ _),Upd.refl _ _⟩
 have hmk:=fun(wx:World)=>Q1q wx m hm
 have gm1:IntKind.i64.wrap ((m:Int)-1)=(m:Int)-1:=IntWalk.i64_in _ (by omega);obtain⟨wb,hwb⟩:∃ wb,((w.alloc (.cells #[.slice (some ⟨pg,0,none⟩) N N,.slice la m lc,.slice ha m hc] 95)).alloc (.cells (madeCells #[.int .i64 0] m) 3))=wb:=⟨_,rfl⟩;rw[hwb]at K2 S0;clear h hp hq hmm hn K0 B0
 go_enter func42,ntmps42
 go_wp2_with fail
 clear hwb
 go_loopw [1,7,8] (fun z y _ wr=>∃ k n':Nat,k<=m/\y = .int .i64 ((k:Int)-1)/\z = .int .u64 n'/\Q0e w wb D m (w.heap.size+1) n k n' wr) (fun _ y _ _=>(intOf y+1).toNat)
 case atStart=>exact⟨m,n,by omega,rfl,rfl,S0.out⟩
 case round=>
  clear S0;obtain⟨k,n',hk,rfl,rfl,hst⟩:=hrel;rename World=>wr
  have S:=hid hst;clear hst
  by_cases hk0:k=0
  ·subst hk0
   have hn0:n'=0:=by
    have:=S.out.n;rw[List.take_zero]at this;have e:Qm ([]:List Nat)=1:=rfl;omega
   subst hn0;obtain⟨f,f1,f2⟩:=S.out.row;have F:=hid (And.intro f1 f2);clear f1 f2;rw[show((0:Nat):Int)-1 = -1 from rfl,show((0:Nat):Int)=0 from rfl];go_wp2_with fail
   go_ret2
   exact⟨w.heap.size+1,f,rfl,F.out.1,fun i b hb=>F.out.2 i b (by omega) hb,by omega,S.out.bel⟩
  ·obtain⟨i,rfl⟩:∃ i,k=i+1:=⟨k-1,by omega⟩
   rw[show(((i+1:Nat):Int)-1)=(i:Int)by omega];have hi0:(0:Int)<=(i:Int):=by omega
   have him:(i:Int)<m:=by omega
   obtain⟨l,hl⟩:∃ l,D.dirtyL[i]? = some l:=⟨_,List.getElem?_eq_getElem (by rw[HM.out];omega)⟩;obtain⟨u,r1,r2⟩:=H.out.row i l hl;have hq1:=HQ.out l (List.mem_of_getElem? hl);obtain⟨hb1,hb2⟩:=HBA.out i l hl;have hhb:=H.out.hist.below S.out.bel;rw[HM.out]at hhb;obtain⟨_,_,_,e',_,hE⟩:=hhb
   cases e'
   obtain⟨hb,ho,rfl,hE2⟩:=Zr hE r1;have c1:=hE2 i _ r1;obtain⟨_,ua,uc,rfl,_,_⟩:=r2;have KW:=hid (K2.out.upd S.out.up (fun e=>by have e':w.heap.size=w.heap.size+1:=e;omega));have k2:=KW.out.cell (i:=2) (v:=.slice (some ⟨hb,ho,none⟩) m hc) rfl;obtain⟨f,f1,f2⟩:=S.out.row;have d1:=f1.cell (i:=i) (by omega);have d2:=f1.frozen i;have hgl:=f1.lt;obtain⟨q,hqd⟩:∃ q,(D.hist l).length=q:=⟨_,rfl⟩;rw[hqd]at c1 hq1 hb1 hb2;have S2:=hid (S.out.step (by omega) hb1 hb2);have ga1:IntKind.u64.wrap (q:Int)=(q:Int):=IntWalk.u64_in _ (by omega);have ga2:IntKind.u64.wrap ((q:Int)+1)=(q:Int)+1:=IntWalk.u64_in _ (by omega);obtain⟨z,hz⟩:∃ z,n'%(q+1)=z:=⟨_,rfl⟩;obtain⟨z2,hz2⟩:∃ z,n'/(q+1)=z:=⟨_,rfl⟩;have hzq:z<q+1:=by rw[<- hz];exact Nat.mod_lt _ (by omega)
   have ge1:(n':Int)%((q:Int)+1)=(z:Int):=by rw[<- hz];simp
   have ge2:(n':Int)/((q:Int)+1)=(z2:Int):=by rw[<- hz2];simp
   have ge3:(n':Int).tmod ((q:Int)+1)=(z:Int):=by rw[Int.tmod_eq_emod_of_nonneg (by omega)];exact ge1
   have ge4:(n':Int).tdiv ((q:Int)+1)=(z2:Int):=by rw[Int.tdiv_eq_ediv_of_nonneg (by omega)];exact ge2
   have ge5:¬ (q:Int)+1=0:=by omega
   have ga3:IntKind.i64.wrap (z:Int)=(z:Int):=IntWalk.i64_in _ (by omega);have ga4:IntKind.i64.wrap ((i:Int)-1)=(i:Int)-1:=IntWalk.i64_in _ (by omega);rw[hz,hz2]at S2;have hz2b:z2<18446744073709551616:=Nat.lt_trans S2.out.n (Nat.lt_of_le_of_lt (HLE.out i) HP.out);have ga5:IntKind.u64.wrap (z2:Int)=(z2:Int):=IntWalk.u64_in _ (by omega);clear hE hE2 r1 hl hqd hb1 hb2 f1 f2 hz hz2;go_wp2_with fail
   go_roundw
   case rel=>
    refine⟨i,z2,by omega,?_,?_,S2.out⟩
    ·rfl
    ·rfl
   case measure=>simp[intOf]
end
end

section
attribute [local go_sem ↓] Go.wp_at_zero Go.wp_at_succ
section
variable{w:World}{D:Dev}{rb lb:Nat}{hv:Nat->Value}{nv:Value}{ns:List (Nat×Nat)}
end
end

section
attribute [local go_sem ↓] Go.wp_at_zero Go.wp_at_succ
section
variable{w:World}{D:Dev}{rb lb:Nat}{hv:Nat->Value}{nv:Value}{ns:List (Nat×Nat)}
end
end

section
attribute [local go_sem ↓] Go.wp_at_zero Go.wp_at_succ
theorem Dy(F:Nat->Int){N i:Nat}(hi:i<N):(To F N)[i]? = some (.int .u8 (Qq F i)):=by
 unfold To;rw[List.getElem?_map,List.getElem?_range hi]
 rfl
theorem Quk(x:Int)(k:Nat):x/256 ^ (k+1)*256+x/256 ^ k%256=x/256 ^ k:=by
 rw[Int.pow_succ,<- Int.ediv_ediv_of_nonneg (Int.pow_nonneg (by omega))];omega
section
variable{w:World}
theorem Rn(pv:Value)(N:Nat)(F:Nat->Int)(h:Ql w 1 pv N (To F N))(d:Nat)(hd:8*d+8<=N)(hN:N<=1000000)(hF:0<=F d/\F d<18446744073709551616) :
  Calls prog 296 #[pv,.int .i64 (8*d:Nat)] w fun r w'=>r = .returned (.int .u64 (F d))/\w=w':=by
 have H:=hid h;obtain⟨_,a,c,rfl,hc,_⟩:=h;obtain⟨x,hx⟩:∃ x,F d=x:=⟨_,rfl⟩;have HX:=hid hx;rw[hx]at hF ⊢;have h8:x/256 ^ 8=0:=Int.ediv_eq_zero_of_lt hF.1 (by have:=hF.2;omega);obtain⟨o,ho⟩:∃ o,8*d=o:=⟨_,rfl⟩;have HO:=hid ho;rw[ho]at hd ⊢;clear hx ho
 go_enter func296,ntmps296
 go_wp2_with fail
 go_loop [5,6] (fun z y=>∃ k:Nat,k<=8/\y = .int .i64 ((k:Int)-1)/\z = .int .u64 (x/256 ^ k)) (fun _ y=>(intOf y+1).toNat)
 case atStart=>exact⟨8,by omega,rfl,by rw[h8]⟩
 case round=>
  obtain⟨k,hk,rfl,rfl⟩:=hrel
  by_cases hk0:k=0
  ·subst hk0
   rw[show((0:Nat):Int)-1 = -1 from rfl,Int.pow_zero,Int.ediv_one];go_wp2_with fail
   go_ret
   exact⟨rfl,rfl⟩
  ·obtain⟨i,rfl⟩:∃ i,k=i+1:=⟨k-1,by omega⟩
   rw[show(((i+1:Nat):Int)-1)=(i:Int)by omega];have hi0:(0:Int)<=(i:Int):=by omega
   have hi8:i<8:=by omega
   have hby:Qq F (o+i)=x/256 ^ i%256:=by
    unfold Qq;rw[<- HO.out,show(8*d+i)/8=d by omega,show(8*d+i)%8=i by omega,HX.out,Nat.mul_comm i 8,Int.pow_mul]
    rfl
   have hst:=Quk x i;have hxl:=Dy F (N:=N) (i:=o+i) (by omega);obtain⟨_,a',c',e',_,hE⟩:=H.out
   cases e'
   obtain⟨fb,fo,rfl,hE2⟩:=Zr hE hxl;have q1:=hE2 _ _ hxl;rw[hby]at q1;have hy0:0<=x/256 ^ i:=Int.ediv_nonneg hF.1 (Int.pow_nonneg (by omega));have hy1:x/256 ^ i<=x:=Int.ediv_le_self _ hF.1;have hv0:0<=x/256 ^ (i+1):=Int.ediv_nonneg hF.1 (Int.pow_nonneg (by omega));have hxb:=hF.2;obtain⟨y,hy⟩:∃ y,x/256 ^ i=y:=⟨_,rfl⟩;obtain⟨v,hv⟩:∃ v,x/256 ^ (i+1)=v:=⟨_,rfl⟩;have HY:=hid hy;rw[hy]at hst hy0 hy1 q1;rw[hv]at hst hv0 ⊢;obtain⟨b,hb⟩:∃ b,y%256=b:=⟨_,rfl⟩;rw[hb]at hst q1;have hb0:0<=b/\b<256:=by omega
   have ga1:IntKind.u64.wrap (v*256)=v*256:=IntWalk.u64_in _ (by omega);have ga2:IntKind.u64.wrap b=b:=IntWalk.u64_in _ (by omega);have ga3:IntKind.u64.wrap y=y:=IntWalk.u64_in _ (by omega);have ga4:IntKind.i64.wrap ((i:Int)-1)=(i:Int)-1:=IntWalk.i64_in _ (by omega);have ga6:IntKind.i64.wrap ((o:Int)+(i:Int))=(o:Int)+(i:Int):=IntWalk.i64_in _ (by omega);have hoi:(o:Int)+(i:Int)<(N:Int):=by omega
   have ho0:0<=(o:Int)+(i:Int):=by omega
   have HB0:=hid hb0;clear hby hxl hE hE2 hy hv hb hxb hy1;go_wp2_with fail
   exact⟨⟨i,by omega,rfl,by rw[HY.out]⟩,by simp[intOf]⟩
theorem Qf6(pv:Value)(N:Nat)(F:Nat->Int)(h:Ql w 1 pv N (To F N))(hd:136<=N)(hN:N<=1000000)(hF:∀ d,0<=F d/\F d<18446744073709551616)(e:Bool) :
  Calls prog 295 #[pv,.bool e] w fun r w'=>r = .returned (.bool (Vk F e))/\w=w':=by
 have h8:=hid (Rn pv N F h 8 (by omega) hN (hF 8));have h0:=hid (Rn pv N F h 0 (by omega) hN (hF 0));have h16:=hid (Rn pv N F h 16 (by omega) hN (hF 16));rw[show((8*8:Nat):Int)=64 from rfl]at h8;rw[show((8*0:Nat):Int)=0 from rfl]at h0;rw[show((8*16:Nat):Int)=128 from rfl]at h16;have HG:Hid (Vk F e=if F 8=0 then !e else decide (F 0=7)&&decide (F 16=7)):=rfl;obtain⟨_,a,c,rfl,_,_⟩:=h;obtain⟨x8,hx8⟩:∃ x,F 8=x:=⟨_,rfl⟩;obtain⟨x0,hx0⟩:∃ x,F 0=x:=⟨_,rfl⟩;obtain⟨x16,hx16⟩:∃ x,F 16=x:=⟨_,rfl⟩;rw[hx8]at h8;rw[hx0]at h0;rw[hx16]at h16
 rw[hx8,hx0,hx16]at HG;rw[HG.out];clear hF hx8 hx0 hx16 HG
 by_cases e8:x8=0
 ·rw[if_pos e8]
  subst e8
  go_enter func295,ntmps295
  go_wp2_with fail
  (with_reducible refine h8.out.mono ?_)
  rintro r w1 ⟨rfl,rfl⟩;go_wp2_with fail
  go_ret
  exact⟨rfl,rfl⟩
 ·rw[if_neg e8]
  have b8:(x8==0)=false:=by simpa using e8
  by_cases e0:x0=7
  ·subst e0
   go_enter func295,ntmps295
   go_wp2_with fail
   (with_reducible refine h8.out.mono ?_)
   rintro r w1 ⟨rfl,rfl⟩;go_wp2_with fail
   (with_reducible refine h0.out.mono ?_)
   rintro r w1 ⟨rfl,rfl⟩;go_wp2_with fail
   (with_reducible refine h16.out.mono ?_)
   rintro r w1 ⟨rfl,rfl⟩;go_wp2_with fail
   go_ret
   refine⟨Qx ?_,rfl⟩
   by_cases e16:x16=7 <;> simp[e16]
  ·have b0:(x0==7)=false:=by simpa using e0
   go_enter func295,ntmps295
   go_wp2_with fail
   (with_reducible refine h8.out.mono ?_)
   rintro r w1 ⟨rfl,rfl⟩;go_wp2_with fail
   (with_reducible refine h0.out.mono ?_)
   rintro r w1 ⟨rfl,rfl⟩;go_wp2_with fail
   go_ret
   refine⟨Qx ?_,rfl⟩
   simp[e0]
end
def Cy(q:List (Nat×Nat×Int)):List Value:=q.flatMap fun e => [.int .i64 ((e.1:Int)-1),.int .u64 e.2.1,.int .u64 e.2.2]
theorem Qt1(l:List (Nat×Nat×Int)):∀ (k:Nat) (e:Nat×Nat×Int),l[k]? = some e->(Cy l)[k*3]? = some (.int .i64 ((e.1:Int)-1))/\(Cy l)[k*3+1]? = some (.int .u64 e.2.1)/\(Cy l)[k*3+2]? = some (.int .u64 e.2.2):=by
 induction l with
 | nil=>intro k e h;simp at h
 | cons x l ih=>
  intro k e he;have hf:Cy (x::l) = .int .i64 ((x.1:Int)-1) :: .int .u64 x.2.1 :: .int .u64 x.2.2::Cy l:=rfl
  cases k with
  | zero=>simp at he;subst he;simp[hf]
  | succ k=>
   have:=ih k e (by simpa using he);rw[hf,show(k+1)*3=k*3+1+1+1 from by omega];simpa using this
structure OkQ(n:Nat)(e:Nat×Nat×Int):Prop where
 lo:1<=e.1
 hi:e.1<=3
 al:e.2.1%8=0
 lt:e.2.1<64*n
 v0:0<=e.2.2
 v1:e.2.2<18446744073709551616
theorem Pj(D:Dev)(q:List (Nat×Nat×Int)):(D.run 0 q).n=D.n:=by
 induction q generalizing D with
 | nil=>rfl
 | cons e q ih=>
  show((D.step 0 e).run 0 q).n=D.n
  rw[ih];unfold Dev.step Dev.store Dev.flush Dev.fence Dev.countedD Dev.onD Dev.fail
  repeat' split
  all_goals rfl
section
variable{w:World}
end
end

section
def Qbt(f:Nat->Nat):Nat->Nat
 | 0=>0
 | n+1=>Qbt f n+f n
theorem Qyz{f g:Nat->Nat}{a:Nat}(h:∀ l,f l<=g l+(if l=a then 1 else 0)):∀ n,Qbt f n<=Qbt g n+(if a<n then 1 else 0):=by
 intro n
 induction n with
 | zero=>simp[Qbt]
 | succ n ih=>
  have h1:=h n;simp only[Qbt]
  by_cases e:n=a
  ·subst e
   rw[if_pos rfl]at h1;rw[if_neg (Nat.lt_irrefl n)]at ih;rw[if_pos (by omega)];omega
  ·rw[if_neg e]at h1
   by_cases e2:a<n
   ·rw[if_pos e2]at ih;rw[if_pos (by omega)];omega
   ·rw[if_neg e2]at ih;rw[if_neg (by omega)];omega
def Qd2(D:Dev):Nat:=Qbt (fun l=>(D.hist l).length) D.n
theorem Qp8(D:Dev)(e:Nat×Nat×Int)(l:Nat):((D.step 0 e).hist l).length<=(D.hist l).length+(if l=e.2.1/64 then 1 else 0):=by
 have hs:=fun b=>(Dev.countedD_same D 0 b).2
 unfold Dev.step
 split
 ·unfold Dev.store
  split
  ·simp only[Dev.put,hs]
   split
   ·rw[List.length_append,List.length_singleton];omega
   ·omega
  ·rw[hs];omega
 ·split
  ·unfold Dev.flush
   split
   ·simp only[Dev.jot,hs];omega
   ·rw[hs];omega
  ·unfold Dev.fence
   split
   ·simp only[Dev.sync,hs,List.length_drop];omega
   ·rw[hs];omega
theorem Qqa(D:Dev)(e:Nat×Nat×Int):(D.step 0 e).n=D.n:=Pj D [e]
theorem Qbn(q:List (Nat×Nat×Int)):∀ D:Dev,Qd2 (D.run 0 q)<=Qd2 D+q.length:=by
 induction q with
 | nil=>intro D;simp[Dev.run]
 | cons e q ih=>
  intro D;have h1:=ih (D.step 0 e);have h2:=Qyz (Qp8 D e) D.n;have h3:Qd2 (D.step 0 e)<=Qd2 D+1:=by
   unfold Qd2;rw[Qqa]
   split at h2 <;> omega
  show Qd2 ((D.step 0 e).run 0 q)<=Qd2 D+(q.length+1)
  omega
theorem Quf(k:Nat):k+1<=2 ^ k:=by
 induction k with
 | zero=>simp
 | succ k ih=>rw[Nat.pow_succ];omega
theorem Qts(D:Dev):∀ n,Qm (((List.range n).filter fun l=>decide (0<(D.hist l).length)).map fun l=>(D.hist l).length+1)<=2 ^ Qbt (fun l=>(D.hist l).length) n:=by
 intro n
 induction n with
 | zero=>simp[Qbt,Qm]
 | succ n ih=>
  rw[List.range_succ,List.filter_append,List.map_append];simp only[Qbt]
  by_cases h:0<(D.hist n).length
  ·rw[List.filter_cons_of_pos (by simpa using h),List.filter_nil,List.map_cons,List.map_nil,Fx,Nat.pow_add]
   exact Nat.mul_le_mul ih (Quf _)
  ·rw[List.filter_cons_of_neg (by simpa using h),List.filter_nil,List.map_nil,List.append_nil,show(D.hist n).length=0 by omega,Nat.add_zero]
   exact ih
theorem Qb2(D:Dev):Qm (Qf D)<=2 ^ Qd2 D:=Qts D D.n
theorem Qqe(n:Nat)(f:Nat->Int):Qd2 (Dev.fresh n f)=0:=by
 unfold Qd2;have:∀ m,Qbt (fun l=>((Dev.fresh n f).hist l).length) m=0:=by
  intro m
  induction m with
  | zero=>rfl
  | succ m ih=>simp only[Qbt,ih];rfl
 exact this _
theorem Qi9(n:Nat)(q:List (Nat×Nat×Int))(h:q.length<=60):Qm (Qf ((Dev.fresh n (fun _=>0)).run 0 q))<=1152921504606846976:=by
 have h1:=Qb2 ((Dev.fresh n (fun _=>0)).run 0 q);have h2:=Qbn q (Dev.fresh n (fun _=>0));rw[Qqe]at h2;exact Nat.le_trans h1 (Nat.pow_le_pow_right (by omega) (by omega):2 ^ _<=2 ^ 60)
def woI(f:Int):List (Nat×Nat×Int)->Nat->List (Nat×Nat×Int)
 | [],_ => []
 | e::l,n=>if e.1=3 then(if(n:Int)=f then woI f l (n+1)else e::woI f l (n+1))else e::woI f l n
theorem Qib(f:Int)(l:List (Nat×Nat×Int))(e:Nat×Nat×Int):∀ n,woI f (l ++ [e]) n=woI f l n++(if e.1=3/\((n+Kp l:Nat):Int)=f then []else [e]):=by
 induction l with
 | nil=>
  intro n;simp only[List.nil_append,woI,Kp,List.filter_nil,List.length_nil,Nat.add_zero]
  by_cases h:e.1=3 <;> by_cases h2:(n:Int)=f <;> simp[h,h2]
 | cons x l ih=>
  intro n;have hf:Kp (x::l)=Kp l+(if x.1=3 then 1 else 0):=by
   unfold Kp
   by_cases h:x.1=3 <;> simp[h]
  simp only[List.cons_append,woI]
  by_cases h:x.1=3
  ·rw[if_pos h,if_pos h,hf,if_pos h,ih,show n+1+Kp l=n+(Kp l+1)by omega]
   split <;> rfl
  ·rw[if_neg h,if_neg h,hf,if_neg h,ih,Nat.add_zero]
   rfl
theorem Qy5(f:Int)(l:List (Nat×Nat×Int)):∀ n,∀ e∈woI f l n,e∈l:=by
 induction l with
 | nil=>intro n e he;simp[woI]at he
 | cons x l ih=>
  intro n e he;simp only[woI]at he
  split at he
  ·split at he
   ·exact List.mem_cons_of_mem _ (ih _ e he)
   ·rcases List.mem_cons.1 he with rfl | h
    ·exact List.mem_cons_self
    ·exact List.mem_cons_of_mem _ (ih _ e h)
  ·rcases List.mem_cons.1 he with rfl | h
   ·exact List.mem_cons_self
   ·exact List.mem_cons_of_mem _ (ih _ e h)
theorem Qqq(f:Int)(l:List (Nat×Nat×Int)):∀ n,(woI f l n).length<=l.length:=by
 induction l with
 | nil=>intro n;simp[woI]
 | cons x l ih=>
  intro n;have h1:=ih n;have h2:=ih (n+1)
  simp only[woI]
  split
  ·split <;> simp only[List.length_cons] <;> omega
  ·simp only[List.length_cons];omega
theorem Qmx(l:List (Nat×Nat×Int)):Kp l<=l.length:=List.length_filter_le _ _
def qOf(f:Int)(q:List (Nat×Nat×Int)):List (Nat×Nat×Int):=if f = -1 then q else woI f q 0
def Rd(f:Int)(q:List (Nat×Nat×Int)):Bool:=decide (f = -1) || decide (0<=f/\f<Kp q)
theorem Nw{f:Int}{q:List (Nat×Nat×Int)}:∀ e∈qOf f q,e∈q:=by
 unfold qOf
 split
 ·exact fun e h=>h
 ·exact Qy5 f q 0
theorem Cf(f:Int)(q:List (Nat×Nat×Int)):(qOf f q).length<=q.length:=by
 unfold qOf
 split
 ·exact Nat.le_refl _
 ·exact Qqq f q 0
end

section
section
variable(g:(Nat->Int)->Bool->Bool)
def Cw(D:Dev)(ended:Bool):Option Nat:=(List.range (Qm (Qf D))).find? fun n => !(g (Vy D n) ended)
def Uw(D0:Dev)(q:List (Nat×Nat×Int))(limit:Nat):Nat->Nat->Nat×Nat×Nat
 | 0,_=>(0,0,1)
 | m+1,k=>
  if limit<Qm (Qf (D0.run 0 (q.take k)))then(0,0,2)
  else match Cw g (D0.run 0 (q.take k)) (decide (k=q.length))with
   | some n=>(k,n,0)
   | none=>Uw D0 q limit m (k+1)
def Gd(D0:Dev)(q:List (Nat×Nat×Int))(limit:Nat):Nat×Nat×Nat:=Uw g D0 q limit (q.length+1) 0
end
theorem Qhy(D:Dev)(q:List (Nat×Nat×Int))(h0:Qd2 D=0)(h:q.length<=60):Qm (Qf (D.run 0 q))<=1152921504606846976:=by
 have h1:=Qb2 (D.run 0 q);have h2:=Qbn q D;exact Nat.le_trans h1 (Nat.pow_le_pow_right (by omega) (by omega):2 ^ _<=2 ^ 60)
end

section
attribute [local go_sem ↓] Go.wp_at_zero Go.wp_at_succ
theorem Fk(a b c:Value)(ha:a.oneCell'=true)(hb:b.oneCell'=true)(hc:c.oneCell'=true):∀ u ∈ [a,b,c],u.oneCell'=true:=by
 intro u hu;simp only[List.mem_cons,List.not_mem_nil,or_false]at hu
 rcases hu with rfl | rfl | rfl
 ·exact ha
 ·exact hb
 ·exact hc
section
variable{w:World}
structure Qux(w:World)(f:Int)(q:List (Nat×Nat×Int))(t:TypeId)(C:List (Nat×Nat×Int)->List Value)(k:Nat)(v:Value)(wr:World):Prop where
 acc:Acc w w.heap.size wr t 3 v (woI f (q.take k) 0).length (C (woI f (q.take k) 0))
theorem Qux.skip{f:Int}{q:List (Nat×Nat×Int)}{t:TypeId}{C:List (Nat×Nat×Int)->List Value}{k:Nat}{v:Value}{wr wz:World}{e:Nat×Nat×Int}(h:Qux w f q t C k v wr)(he:q[k]? = some e)(h3:e.1=3/\(Kp (q.take k):Int)=f)(hb:Below wr.heap.size wr wz):Qux w f q t C (k+1) v wz:=by
 have e1:woI f (q.take (k+1)) 0=woI f (q.take k) 0:=by
  rw[List.take_add_one,he];show woI f (q.take k ++ [e]) 0=_
  rw[Qib,Nat.zero_add,if_pos h3,List.append_nil]
 exact⟨by rw[e1];exact h.acc.keep hb⟩
theorem Qux.add{f:Int}{q:List (Nat×Nat×Int)}{t:TypeId}{C:List (Nat×Nat×Int)->List Value}{k:Nat}{v:Value}{wz:World}{e:Nat×Nat×Int}{x:List Value}(he:q[k]? = some e)(h3:¬ (e.1=3/\(Kp (q.take k):Int)=f))(hC:C (woI f (q.take k) 0 ++ [e])=C (woI f (q.take k) 0)++x)
  (h:Acc w w.heap.size wz t 3 v ((woI f (q.take k) 0).length+1) (C (woI f (q.take k) 0)++x)):Qux w f q t C (k+1) v wz:=by
 have e1:woI f (q.take (k+1)) 0=woI f (q.take k) 0 ++ [e]:=by
  rw[List.take_add_one,he];show woI f (q.take k ++ [e]) 0=_
  rw[Qib,Nat.zero_add,if_neg h3]
 exact⟨by rw[e1,hC];exact h.congr (by simp) rfl⟩
end
end

section
section
variable{w:World}
theorem Qat(n:Nat)(h0:0<n)(hn:n<=4096) :
  Calls prog 10 #[.int .i64 n] w fun r w'=>∃ v own,r = .returned (.tuple #[.pointer (some ⟨v.db,0,none⟩),.int .i64 0])/\IsDev w' v own (Dev.fresh n (fun _=>0))/\(∀ k,own k≠none->w.heap.size<=k)/\Below w.heap.size w w':=by
 obtain⟨i0,hi,hz0,hz1,hz2⟩:=info_parts Gv;have hmk:=fun(wx:World)=>run_make (P:=prog) wx 56 31 i0 _ underlying56 hi hz0 .i64 .i64 ((n:Int)*8) ((n:Int)*8) (by omega) (by omega) (by rw[hz2];omega) (by omega)
 simp only[hz1]at hmk;rw[show((n:Int)*8).toNat=8*n from by omega]at hmk;clear hi hz0 hz1 hz2;have h1:¬ (n:Int)<1:=by omega
 have h2:¬ (4096:Int)<n:=by omega
 have hrow:Row (w.alloc (.cells (madeCells #[.int .u64 0] (8*n)) 31)) w.heap.size (8*n) 31 (fun i => .int .u64 0):=by
  refine Row.new w _ _ _ _ (fun i hi => ?_)
  simp[madeCells,hi,Nat.mod_one]
 have HR:=hid (Qo0 w.heap.size (8*n) n (fun _=>0) hrow h0 hn (Nat.le_refl _));clear hrow
 go_enter func10,ntmps10
 go_wp2_with fail
 (with_reducible refine HR.out.mono ?_)
 rintro e w1 ⟨v,own,rfl,e1,e2,d,o,b⟩;have X:=hid (And.intro e1 (And.intro d (And.intro o b)));clear e1 e2 d o b;go_wp2_with fail
 go_ret2
 refine⟨v,own,rfl,X.out.2.1,fun k hk => ?_,?_⟩
 ·rcases X.out.2.2.1 k hk with h | h
  ·omega
  ·simp at h;omega
 ·refine Below.trans ((Below.refl _ _).alloc (Nat.le_refl _) _) (X.out.2.2.2.mono (by simp))
end
end

section
open Go.Maps
attribute [local go_sem ↓] Go.wp_at_zero Go.wp_at_succ
def Mr(q:List (Nat×Nat×Int)):Prop:=∀ e∈q,(e.1=2->e.2.2=0)/\(e.1=3->e.2.1=0/\e.2.2=0)
section
variable{w:World}{v:DV}{own:Nat->Option Qp}{D:Dev}
theorem Qc7(pv:Value)(w:World):(method 461 83 (.agg #[pv]) "Setup").run prog w = .ok (294,.agg #[pv]) w:=by kernel_rfl
theorem Dh(pv:Value)(w:World):(method 461 83 (.agg #[pv]) "Program").run prog w = .ok (293,.agg #[pv]) w:=by kernel_rfl
theorem Bt(pv:Value)(w:World):(method 461 83 (.agg #[pv]) "Good").run prog w = .ok (292,.agg #[pv]) w:=by kernel_rfl
theorem Qgg(a:Option Addr)(m c db:Nat):Calls prog 294 #[.agg #[.slice a m c],.pointer (some ⟨db,0,none⟩)] w fun r w'=>r = .returned (.int .i64 0)/\Below w.heap.size w w':=by
 go_enter func294,ntmps294
 go_wp2_with fail
 go_ret
 exact⟨rfl,Qa _ _⟩
theorem Qeu{g n:Nat}{F:Nat->Int}(h:Row w g (64*n) 5 (fun i => .int .u8 (Qq F i))):Ql w 1 (.slice (some ⟨g,0,none⟩) (64*n) (64*n)) (64*n) (To F (64*n)):=by
 refine⟨by simp[To],_,_,rfl,Nat.le_refl _,.inr ⟨g,0,rfl,fun j u hu => ?_⟩⟩
 have hj:j<64*n:=by
  rcases Nat.lt_or_ge j (64*n)with h | h
  ·exact h
  ·rw[List.getElem?_eq_none (by simpa [To]using h)]at hu;cases hu
 rw[Dy F hj]at hu
 cases hu
 rw[Nat.zero_add,h.cell hj]
theorem Hx(h:IsDev w v own D)(hvb:D.VB)(h3:3<=D.n)(a:Option Addr)(m c:Nat)(e:Bool) :
  Calls prog 292 #[.agg #[.slice a m c],.pointer (some ⟨v.db,0,none⟩),.bool e] w fun r w'=>r = .returned (.bool (Vk D.pers e))/\Below w.heap.size w w':=by
 have hn:=h.wf.le;have HP:=hid (fun o=>Ss (h.alloc o) hvb);have HG:=hid (fun(wx:World) (g:Nat) (hr:Row wx g (64*D.n) 5 (fun i => .int .u8 (Qq D.pers i)))=>Qf6 _ _ _ (Qeu hr) (by omega) (by omega) hvb.pers e);clear h hvb
 go_enter func292,ntmps292
 go_wp2_with fail
 (with_reducible refine(HP.out _).mono ?_)
 rintro r w1 ⟨rfl,r1,b1⟩;rw[World.size_alloc]at r1;have HG1:=hid (HG.out _ _ r1);have B1:=hid ((Qa w _).trans (b1.mono (by simp)));clear r1 b1 HP HG;go_wp2_with fail
 (with_reducible refine HG1.out.mono ?_)
 rintro r w2 ⟨rfl,rfl⟩;go_wp2_with fail
 go_ret
 exact⟨rfl,B1.out⟩
structure Q0c(w:World)(q:List (Nat×Nat×Int))(k:Nat)(sv:Value)(wr:World):Prop where
 acc:Acc w w.heap.size wr 73 3 sv k (Qd (q.take k))
theorem Q0c.add{q:List (Nat×Nat×Int)}{k:Nat}{sv:Value}{wz:World}{e:Nat×Nat×Int}{x:List Value}(he:q[k]? = some e)(hx:Qd [e]=x)(h:Acc w w.heap.size wz 73 3 sv (k+1) (Qd (q.take k)++x)):Q0c w q (k+1) sv wz:=by
 refine⟨?_⟩
 rw[List.take_add_one,he];show Acc _ _ _ _ _ _ _ (Qd (q.take k ++ [e]))
 rw[Zv,hx];exact h
theorem Qbf(pv:Value)(q:List (Nat×Nat×Int))(h:Ql w 3 pv q.length (Cy q))(hq:∀ e∈q,1<=e.1/\e.1<=3)(hpl:Mr q)(hl:q.length<=100000)(tv:Value) :
  Calls prog 293 #[.agg #[pv],tv] w fun r w'=>∃ sv,r = .returned (.tuple #[sv,.int .i64 0])/\Acc w w.heap.size w' 73 3 sv q.length (Qd q):=by
 obtain⟨i0,hi0,hz0,hz1,hz2⟩:=info_parts Xs;have I:=hid (And.intro hi0 (And.intro hz0 (And.intro hz1 hz2)));clear hi0 hz0 hz1 hz2
 have H:=hid h;have HQ:=hid hq;have HPL:=hid hpl
 obtain⟨_,a,c,rfl,hc,_⟩:=h;obtain⟨m,hm⟩:∃ m,q.length=m:=⟨_,rfl⟩;have HM:=hid hm;rw[hm]at H hl hc ⊢;have HALL:Hid (q.take m=q):=by show q.take m=q;rw[<- hm,List.take_length]
 have hwl:=fun k=>List.length_take_le k q
 have HB:=hid (Blk.new w #[.slice a m c] 83);have P0:Hid (Q0c w q 0 (.slice none 0 0) (w.alloc (.cells #[.slice a m c] 83))):=⟨Acc.nil w _ _ _ _ (Qa w _) (by simp)⟩;clear hq hm hpl
 go_enter func293,ntmps293
 go_wp2_with fail
 go_loopw [6,12] (fun sv y wr=>∃ k:Nat,k<=m/\y = .int .i64 k/\Q0c w q k sv wr) (fun _ y _=>m-(intOf y).toNat)
 case atStart=>exact⟨0,by omega,rfl,P0.out⟩
 case round=>
  clear P0;obtain⟨k,hk,rfl,hst⟩:=hrel;rename World=>wr
  obtain⟨la,lc,hsv⟩:=hst.acc.slice;subst hsv;have A2:=hid hst.acc;clear hst
  by_cases hlt:k<m
  ·have hlt':(k:Int)<m:=by omega
   obtain⟨e,hge⟩:∃ e,q[k]? = some e:=⟨_,List.getElem?_eq_getElem (by rw[HM.out];omega)⟩;obtain⟨_,a',c',e',_,hE⟩:=H.out.below A2.out.bel
   cases e'
   have hg:=Qt1 q k e hge;obtain⟨fb,fo,rfl,hE2⟩:=Zr hE hg.1;have c1:=hE2 _ _ hg.1;have c2:=hE2 _ _ hg.2.1;have c3:=hE2 _ _ hg.2.2
   rw[<- Nat.add_assoc]at c2 c3;obtain⟨o1,o2⟩:=HQ.out e (List.mem_of_getElem? hge);have hpl:=HPL.out e (List.mem_of_getElem? hge);have SA:=hid (fun(v:Value) (wz:World) (x:List Value)=>Q0c.add (w:=w) (sv:=v) (wz:=wz) (x:=x) hge);obtain⟨e1,e2,e3⟩:=e;simp only at o1 o2 c1 c2 c3 hpl SA;clear hE hE2 hge hg;obtain⟨ws,hws⟩:∃ ws,Qd (q.take k)=ws:=⟨_,rfl⟩;rw[hws]at SA A2;clear hws;obtain rfl | rfl | rfl:e1=1\/e1=2\/e1=3:=by omega
   ·rw[show(((1:Nat):Int)-1)=0 from rfl]at c1
    go_wp2_with (at_builtin;refine Qc _ rfl _ _ 37 rfl 73 i0 _ 3 24 underlying37 I.out.1 I.out.2.1 I.out.2.2.1 I.out.2.2.2 rfl (by decide) _ k ws rfl (by exact(A2.out.own.alloc _).alloc _) _ 1 [.int .u8 1,.int .u64 e2,.int .u64 e3] rfl (by exact Ql.newAt _ _ _ 3 1 _ (by simp) rfl) (Fk _ _ _ rfl rfl rfl) (by unfold maxLen;omega) (by omega) ?_)
    intro v1 w3 o1 g1 b1 n1;have A3:=hid (A2.out.next (Ze _ _ _) o1 g1 b1 (by first | simp | omega));clear o1 g1 b1 n1
    go_wp2_with fail
    go_roundw
    case rel=>exact⟨k+1,by omega,by go_num,SA.out _ _ _ rfl A3.out⟩
    case measure=>simp[intOf];omega
   ·rw[show(((2:Nat):Int)-1)=1 from rfl]at c1
    have h0:=hpl.1 rfl;subst h0;go_wp2_with (at_builtin;refine Qc _ rfl _ _ 37 rfl 73 i0 _ 3 24 underlying37 I.out.1 I.out.2.1 I.out.2.2.1 I.out.2.2.2 rfl (by decide) _ k ws rfl (by exact(A2.out.own.alloc _).alloc _) _ 1 [.int .u8 2,.int .u64 e2,.int .u64 0] rfl (by exact Ql.newAt _ _ _ 3 1 _ (by simp) rfl) (Fk _ _ _ rfl rfl rfl) (by unfold maxLen;omega) (by omega) ?_)
    intro v1 w3 o1 g1 b1 n1;have A3:=hid (A2.out.next (Ze _ _ _) o1 g1 b1 (by first | simp | omega));clear o1 g1 b1 n1
    go_wp2_with fail
    go_roundw
    case rel=>exact⟨k+1,by omega,by go_num,SA.out _ _ _ rfl A3.out⟩
    case measure=>simp[intOf];omega
   ·rw[show(((3:Nat):Int)-1)=2 from rfl]at c1
    obtain⟨h1,h2⟩:=hpl.2 rfl;subst h1;subst h2
    go_wp2_with (at_builtin;refine Qc _ rfl _ _ 37 rfl 73 i0 _ 3 24 underlying37 I.out.1 I.out.2.1 I.out.2.2.1 I.out.2.2.2 rfl (by decide) _ k ws rfl (by exact(A2.out.own.alloc _).alloc _) _ 1 [.int .u8 3,.int .u64 0,.int .u64 0] rfl (by exact Ql.newAt _ _ _ 3 1 _ (by simp) rfl) (Fk _ _ _ rfl rfl rfl) (by unfold maxLen;omega) (by omega) ?_)
    intro v1 w3 o1 g1 b1 n1;have A3:=hid (A2.out.next (Ze _ _ _) o1 g1 b1 (by first | simp | omega));clear o1 g1 b1 n1
    go_wp2_with fail
    go_roundw
    case rel=>exact⟨k+1,by omega,by go_num,SA.out _ _ _ rfl A3.out⟩
    case measure=>simp[intOf];omega
  ·obtain rfl:k=m:=by omega
   go_wp2_with fail
   go_ret2
   exact⟨_,rfl,A2.out.congr rfl (by rw[HALL.out])⟩
end
end

section
open Go.Maps
attribute [local go_sem ↓] Go.wp_at_zero Go.wp_at_succ
section
variable{w:World}{v:DV}{own:Nat->Option Qp}{D:Dev}
theorem Qau(pv:Value)(w:World):(nilAhead 461 83 (.agg #[pv]) "Program").run prog w = .ok (some false) w:=by kernel_rfl
theorem Xa(h:IsDev w v own D):Calls prog 11 #[.pointer (some ⟨v.db,0,none⟩),.int .i64 0] w fun r w'=>r = .returned (.pointer (some ⟨v.tb 0,0,none⟩))/\w=w':=Td h (j:=0) (by omega)
theorem Pc(qv:Value)(q:List (Nat×Nat×Int))(h:Ql w 3 qv q.length (Qd q))(hl:q.length<=100000)(f:Int) :
  Calls prog 142 #[qv,.int .i64 f] w fun r w'=>∃ sv,r = .returned sv/\Acc w w.heap.size w' 73 3 sv (woI f q 0).length (Qd (woI f q 0)):=by
 obtain⟨i0,hi0,hz0,hz1,hz2⟩:=info_parts Xs;have I:=hid (And.intro hi0 (And.intro hz0 (And.intro hz1 hz2)));clear hi0 hz0 hz1 hz2
 have H:=hid h;obtain⟨_,a,c,rfl,hc,_⟩:=h;obtain⟨m,hm⟩:∃ m,q.length=m:=⟨_,rfl⟩;have HM:=hid hm;rw[hm]at H hl hc ⊢;have HALL:Hid (q.take m=q):=by show q.take m=q;rw[<- hm,List.take_length]
 have HWL:=hid (fun k=>Qqq f (q.take k) 0);have W0:Hid (Qux w f q 73 Qd 0 (.slice none 0 0) w):=⟨Acc.nil w _ _ _ _ (Below.refl _ _) (Nat.le_refl _)⟩;clear hm
 go_enter func142,ntmps142
 go_wp2_with fail
 go_loopw [5,6,11] (fun sv z y wr=>∃ k:Nat,k<=m/\y = .int .i64 k/\z = .int .i64 (Kp (q.take k):Nat)/\Kp (q.take k)<=k/\Qux w f q 73 Qd k sv wr) (fun _ _ y _=>m-(intOf y).toNat)
 case atStart=>exact⟨0,by omega,rfl,rfl,by simp[Kp],W0.out⟩
 case round=>
  clear W0;obtain⟨k,hk,rfl,rfl,hfk,hst⟩:=hrel;rename World=>wr
  obtain⟨la,lc,hsv⟩:=hst.acc.slice;subst hsv;have S:=hid hst;clear hst;have hwl:=HWL.out k;have htk:=List.length_take_le k q
  by_cases hlt:k<m
  ·have hlt':(k:Int)<m:=by omega
   obtain⟨e,hge⟩:∃ e,q[k]? = some e:=⟨_,List.getElem?_eq_getElem (by rw[HM.out];omega)⟩;obtain⟨_,a',c',e',_,hE⟩:=H.out.below S.out.acc.bel
   cases e'
   have hg:=Yf q k e hge;obtain⟨fb,fo,rfl,hE2⟩:=Zr hE hg.1;have c1:=hE2 _ _ hg.1;have c2:=hE2 _ _ hg.2.1;have c3:=hE2 _ _ hg.2.2
   rw[<- Nat.add_assoc]at c2 c3;have HT:Hid (Kp (q.take (k+1))=Kp (q.take k)+(if e.1=3 then 1 else 0)):=by show Kp (q.take (k+1))=_;rw[List.take_add_one,hge];exact Qcj _ _
   have SK:=hid (fun(h3:e.1=3/\(Kp (q.take k):Int)=f) (wz:World) (hb:Below _ _ wz)=>S.out.skip hge h3 hb);have SA:=hid (fun(v:Value) (wz:World) (h3:¬ (e.1=3/\(Kp (q.take k):Int)=f))=>Qux.add (w:=w) (f:=f) (t:=73) (C:=Qd) (v:=v) (wz:=wz) (x := [.int .u8 e.1,.int .u64 e.2.1,.int .u64 e.2.2]) hge h3 (by rw[Zv];rfl));have A2:=hid S.out.acc;obtain⟨e1,e2,e3⟩:=e;simp only at c1 c2 c3 HT SK SA;clear hE hE2 hge hg S;obtain⟨fn,hfn⟩:∃ fn,Kp (q.take k)=fn:=⟨_,rfl⟩;rw[hfn]at HT SK SA hfk ⊢;clear hfn;obtain⟨ws,hws⟩:∃ ws,woI f (q.take k) 0=ws:=⟨_,rfl⟩;rw[hws]at SA SK A2 hwl ⊢;clear hws
   by_cases h3:e1=3
   ·have hb3:((e1:Int)==3)=true:=by simp;omega
    rw[if_pos h3]at HT
    by_cases hff:(fn:Int)=f
    ·have hbf:((fn:Int)==f)=true:=by simpa using hff
     have SK1:=hid (SK.out ⟨h3,hff⟩);clear SK SA h3 hff;go_wp2_with fail
     go_roundw
     case rel=>exact⟨k+1,by omega,by go_num,by rw[HT.out];go_num,by rw[HT.out];omega,SK1.out _ (Qa _ _)⟩
     case measure=>simp[intOf];omega
    ·have hbf:((fn:Int)==f)=false:=by simpa using hff
     have SA1:=hid (fun v wz=>SA.out v wz (fun hh=>hff hh.2));clear SK SA h3 hff;go_wp2_with (at_builtin;refine Qc _ rfl _ _ 37 rfl 73 i0 _ 3 24 underlying37 I.out.1 I.out.2.1 I.out.2.2.1 I.out.2.2.2 rfl (by decide) _ ws.length (Qd ws) rfl (by exact(A2.out.own.alloc _).alloc _) _ 1 [.int .u8 e1,.int .u64 e2,.int .u64 e3] rfl (by exact Ql.newAt _ _ _ 3 1 _ (by simp) rfl) (Fk _ _ _ rfl rfl rfl) (by unfold maxLen;omega) (by omega) ?_)
     intro v1 w3 o1 g1 b1 n1;have A3:=hid (A2.out.next (Ze _ _ _) o1 g1 b1 (by first | simp | omega));clear o1 g1 b1 n1
     go_wp2_with fail
     go_roundw
     case rel=>exact⟨k+1,by omega,by go_num,by rw[HT.out];go_num,by rw[HT.out];omega,SA1.out _ _ A3.out⟩
     case measure=>simp[intOf];omega
   ·have hb3:((e1:Int)==3)=false:=by simp;omega
    rw[if_neg h3]at HT;have SA1:=hid (fun v wz=>SA.out v wz (fun hh=>h3 hh.1));clear SK SA h3;go_wp2_with (at_builtin;refine Qc _ rfl _ _ 37 rfl 73 i0 _ 3 24 underlying37 I.out.1 I.out.2.1 I.out.2.2.1 I.out.2.2.2 rfl (by decide) _ ws.length (Qd ws) rfl (by exact(A2.out.own.alloc _).alloc _) _ 1 [.int .u8 e1,.int .u64 e2,.int .u64 e3] rfl (by exact Ql.newAt _ _ _ 3 1 _ (by simp) rfl) (Fk _ _ _ rfl rfl rfl) (by unfold maxLen;omega) (by omega) ?_)
    intro v1 w3 o1 g1 b1 n1;have A3:=hid (A2.out.next (Ze _ _ _) o1 g1 b1 (by first | simp | omega));clear o1 g1 b1 n1
    go_wp2_with fail
    go_roundw
    case rel=>exact⟨k+1,by omega,by go_num,by rw[HT.out];go_num,by rw[HT.out];omega,SA1.out _ _ A3.out⟩
    case measure=>simp[intOf];omega
  ·obtain rfl:k=m:=by omega
   go_wp2_with fail
   go_ret
   exact⟨_,rfl,S.out.acc.congr (by rw[HALL.out]) (by rw[HALL.out])⟩
def Qll(w:World)(n:Nat)(q:List (Nat×Nat×Int))(f:Int)(r:Ending)(w':World):Prop:=
 (Rd f q=false/\r = .returned (.tuple #[.pointer none,.slice none 0 0,.int .i64 2])) \/
 (Rd f q=true/\∃ (v:DV) (own:Nat->Option Qp) (sv:Value),r = .returned (.tuple #[.pointer (some ⟨v.db,0,none⟩),sv,.int .i64 0])/\IsDev w' v own (Dev.fresh n (fun _=>0))/\Ql w' 3 sv (qOf f q).length (Qd (qOf f q)) /\
  (∀ k,own k≠none->w.heap.size<=k)/\∀ g,sv.ownBlock=some g->own g=none)
theorem So(pv:Value)(q:List (Nat×Nat×Int))(h:Ql w 3 pv q.length (Cy q))(hq:∀ e∈q,1<=e.1/\e.1<=3)(hpl:Mr q)(hl:q.length<=100000)(n:Nat)(h0:0<n)(hn:n<=4096)(f:Int) :
  Calls prog 56 #[.iface 83 (.agg #[pv]),.int .i64 n,.int .i64 f] w fun r w'=>Qll w n q f r w'/\Below w.heap.size w w':=by
 have HN:=hid (Qat (w:=w) n h0 hn);have HPG:=hid (fun(wx:World) (tv:Value) (hx:Ql wx 3 pv q.length (Cy q))=>Qbf pv q hx hq hpl hl tv);have hms:=Qc7 pv;have hmp:=Dh pv;have hnl:=Qau pv
 have H:=hid h;obtain⟨_,a,c,rfl,hc,_⟩:=h;have HFE:=hid (fun(wx:World) (sv:Value) (hx:Ql wx 3 sv q.length (Qd q))=>Ng sv q hx hl);have HWO:=hid (fun(wx:World) (sv:Value) (hx:Ql wx 3 sv q.length (Qd q))=>Pc sv q hx hl f);have HIS:Hid (Rd f q=(decide (f = -1) || decide (0<=f/\f<Kp q))):=rfl;have HQ1:Hid (f = -1->qOf f q=q):=fun e=>by unfold qOf;rw[if_pos e]
 have HQ2:Hid (f ≠ -1->qOf f q=woI f q 0):=fun e=>by unfold qOf;rw[if_neg e]
 have hfl:=Qmx q;obtain⟨fn,hfn⟩:∃ fn,Kp q=fn:=⟨_,rfl⟩;rw[hfn]at HFE HIS hfl;obtain⟨m,hm⟩:∃ m,q.length=m:=⟨_,rfl⟩;have HMQ:Hid (q.length=m):=hm;rw[hm]at HPG H HFE HWO hl hc hfl hms hmp hnl ⊢;clear hq hpl hfn hm
 go_enter func56,ntmps56
 go_wp2_with fail
 (with_reducible refine HN.out.mono ?_)
 rintro r w1 ⟨v,own,rfl,d1,o1,b1⟩;have D1:=hid d1;have O1:=hid o1;have B1:=hid b1
 clear d1 o1 b1 HN;have HSU:=hid (Qgg (w:=w1) a m c v.db);go_wp2_with fail
 (with_reducible refine HSU.out.mono ?_)
 rintro r w2 ⟨rfl,b2⟩;have D2:=hid (D1.out.kept b2.size (fun k hk=>b2.block k (D1.out.lt k hk)));have B2:=hid (B1.out.trans (b2.mono B1.out.size));clear b2 D1 B1 HSU;have HTH:=hid (fun(wx:World) (hx:IsDev wx v own (Dev.fresh n (fun _=>0)))=>Xa hx);have D2d:Hid (IsDev w2.drew v own (Dev.fresh n (fun _=>0))):=D2.out.drew;have HP2:Hid (∀ tv,Calls prog 293 #[.agg #[.slice a m c],tv] w2.drew fun r w'=>∃ sv,r = .returned (.tuple #[sv,.int .i64 0])/\Acc w2.drew w2.drew.heap.size w' 73 3 sv m (Qd q)):=hid (fun tv=>HPG.out w2.drew tv ((H.out.below B2.out).drew));go_wp2_with fail
 go_region_with (first | (go_at_call 11;(with_reducible refine(HTH.out _ D2d.out).mono ?_);rintro e w' ⟨rfl,rfl⟩) | (go_at_call 293;(with_reducible refine(HP2.out _).mono ?_);rintro e w3 ⟨sv,rfl,a3⟩;have A3:=hid a3;clear a3))
 all_goals
  obtain⟨sa,sc,hsv⟩:=A3.out.slice;subst hsv;have B3:Hid (Below w.heap.size w w3):=hid ((B2.out.drew).trans (A3.out.bel.mono (by exact B2.out.size)));have D3:Hid (IsDev w3 v own (Dev.fresh n (fun _=>0))):=hid (D2d.out.kept A3.out.bel.size (fun k hk=>A3.out.bel.block k (D2d.out.lt k hk)));have HFE1:=hid (HFE.out w3 _ A3.out.rd);have HON:Hid (∀ g,(Value.slice sa m sc).ownBlock=some g->own g=none):=fun g hg=>by
   have h1:=A3.out.new g hg
   cases hh:own g with
   | none=>rfl
   | some x=>have:=D2d.out.lt g (by rw[hh];simp);omega
  by_cases hf1:f < -1
  ·have e:Rd f q=false:=by rw[HIS.out,decide_eq_false (by omega),decide_eq_false (by omega)];rfl
   go_wp2_with fail
   go_ret3
   exact⟨.inl ⟨e,rfl⟩,B3.out⟩
  ·go_wp2_with fail
   (with_reducible refine HFE1.out.mono ?_)
   rintro r w4 ⟨rfl,b4⟩;have B4:=hid (B3.out.trans (b4.mono B3.out.size));have D4:=hid (D3.out.kept b4.size (fun k hk=>b4.block k (D3.out.lt k hk)));have R4:=hid (A3.out.rd.below b4);clear b4
   by_cases hf2:(fn:Int)<=f
   ·have e:Rd f q=false:=by rw[HIS.out,decide_eq_false (by omega),decide_eq_false (by omega)];rfl
    go_wp2_with fail
    go_ret3
    exact⟨.inl ⟨e,rfl⟩,B4.out⟩
   ·by_cases hf3:0<=f
    ·have e:Rd f q=true:=by rw[HIS.out,decide_eq_true (show 0<=f/\f<(fn:Int)by omega),Bool.or_true]
     have eq:=HQ2.out (by omega);have HW1:=hid (HWO.out w4 _ R4.out);go_wp2_with fail
     (with_reducible refine HW1.out.mono ?_)
     rintro r w5 ⟨sv5,rfl,a5⟩;have A5:=hid a5;clear a5;have E:=hid (And.intro e eq);clear e eq;go_wp2_with fail
     go_ret3
     refine⟨.inr ⟨E.out.1,v,own,sv5,rfl,D4.out.kept A5.out.bel.size (fun k hk=>A5.out.bel.block k (D4.out.lt k hk)),by rw[E.out.2];exact A5.out.rd,fun k hk=>O1.out k hk,fun g hg => ?_⟩,B4.out.trans (A5.out.bel.mono B4.out.size)⟩
     have h1:=A5.out.new g hg
     cases hh:own g with
     | none=>rfl
     | some x=>have:=D4.out.lt g (by rw[hh];simp);omega
    ·have e:Rd f q=true:=by rw[HIS.out,decide_eq_true (show f = -1 by omega),Bool.true_or]
     have eq:=HQ1.out (by omega);have E:=hid (And.intro e eq);clear e eq;go_wp2_with fail
     go_ret3
     exact⟨.inr ⟨E.out.1,v,own,_,rfl,D4.out,by rw[E.out.2,HMQ.out];exact R4.out,fun k hk=>O1.out k hk,HON.out⟩,B4.out⟩
end
end

section
attribute [local go_sem ↓] Go.wp_at_zero Go.wp_at_succ
theorem Qb3(w:World)(e:TypeId)(s:ByteArray):Below w.heap.size w (Lib.bytesWorld w e s):=
 ⟨rfl,rfl,rfl,by rw[Lib.bytesWorld_size];omega,fun k hk=>Lib.bytesWorld_at_old w e s k hk⟩
def Qle(s:ByteArray)(n:Nat)(F:Nat->Int):Prop:=s.size=64*n/\∀ j,j<64*n->(((s.toList.getD j 0).toNat:Nat):Int)=Qq F j
theorem Dx(F:Nat->Int)(i:Nat):0<=Qq F i/\Qq F i<256:=by
 unfold Qq;exact⟨Int.emod_nonneg _ (by omega),Int.emod_lt_of_pos _ (by omega)⟩
theorem Qnj(n:Nat)(F:Nat->Int):Qle (strOfNums ((List.range (64*n)).map fun i=>Qq F i)) n F:=by
 refine⟨by rw[strOfNums_size];simp,fun j hj => ?_⟩
 have h:((strOfNums ((List.range (64*n)).map fun i=>Qq F i)).toList)[j]? = some (UInt8.ofNat (Qq F j).toNat):=by
  rw[ByteArray.toList_eq,strOfNums_data,List.getElem?_map,List.getElem?_map,List.getElem?_range hj]
  rfl
 obtain⟨b0,b1⟩:=Dx F j;rw[List.getD_eq_getElem?_getD,h,Option.getD_some,UInt8.toNat_ofNat'];omega
theorem Qxd{s:ByteArray}{n:Nat}{F:Nat->Int}(h:Qle s n F)(w:World):Ql (Lib.bytesWorld w 5 s) 1 (.slice (some ⟨w.heap.size,0,none⟩) s.size (grownCap w s.size 0 5)) (64*n) ((List.range (64*n)).map fun i => .int .u8 (Qq F i)):=by
 refine⟨by simp,_,_,by rw[h.1],by rw[<- h.1];exact grownCap_ge _ _ _ _,.inr ⟨_,_,rfl,fun j u hu => ?_⟩⟩
 rw[List.getElem?_map]at hu;have hj:j<64*n:=by
  rcases Nat.lt_or_ge j (64*n)with h | h
  ·exact h
  ·rw[List.getElem?_eq_none (by simpa using h)]at hu;cases hu
 rw[List.getElem?_range hj]at hu
 cases hu
 show _=some (Value.int .u8 (Qq F j))
 rw[<- h.2 j hj,Nat.zero_add,Lib.bytesWorld_cell w 5 s j (by rw[h.1];exact hj),<- ByteArray.toList_eq]
section
variable{w:World}
theorem Qnh{g n:Nat}{F:Nat->Int}(h:Row w g (64*n) 5 (fun i => .int .u8 (Qq F i)))(hn:n<=4096) :
  Calls prog 132 #[.slice (some ⟨g,0,none⟩) (64*n) (64*n)] w fun r w'=>∃ s,r = .returned (.tuple #[.agg #[.string s],.int .i64 0])/\Qle s n F/\Below w.heap.size w w':=by
 have B0:=hid (Qa w (.cells #[.string ⟨#[]⟩] 46));have h1:=h.below B0.out;have hcv:=run_convert_bytes_arg (P:=prog) (w.alloc (.cells #[.string ⟨#[]⟩] 46)) 62 5 underlying62 underlying5 g 0 (64*n) (64*n) ((List.range (64*n)).map fun i=>Qq F i) (by simp) (fun i hi=>by
  rw[h1.cell (i:=0+i) (by omega)];simp[List.getD,List.getElem?_map,List.getElem?_range hi]) 9 underlying9
 have hs:=Qnj n F
 generalize strOfNums ((List.range (64*n)).map fun i=>Qq F i)=s at hcv hs
 have HS:=hid hs;have K0:=hid (Blk.new w #[.string ⟨#[]⟩] 46);have q1:((64*n:Nat):Int)%64=0:=by omega
 have q2:((64*n:Nat):Int)/64=n:=by omega
 have q3:((64*n:Nat):Int).tmod 64=0:=by rw[Int.tmod_eq_emod_of_nonneg (by omega)];exact q1
 have q4:((64*n:Nat):Int).tdiv 64=n:=by rw[Int.tdiv_eq_ediv_of_nonneg (by omega)];exact q2
 have q5:¬ (4096:Int)<n:=by omega
 obtain⟨N,hN⟩:∃ N,64*n=N:=⟨_,rfl⟩;have hN2:N<=262144:=by omega
 rw[hN]at hcv q1 q2 q3 q4 ⊢;clear h h1 hs hN
 go_enter func132,ntmps132
 go_wp2_with fail
 refine bodyPost_ret (v:=.tuple #[.agg #[.string s],.int .i64 0]) (by simp[results,results132,go_sem]) rfl ⟨s,rfl,HS.out,?_⟩
 exact Qa _ _
theorem Qfj{s:ByteArray}{n:Nat}{F:Nat->Int}(h:Qle s n F)(hn:n<=4096) :
  Calls prog 44 #[.agg #[.string s]] w fun r w'=>r = .returned (.int .i64 n)/\Below w.heap.size w w':=by
 have B0:=hid (Qa w (.cells #[.string s] 46));have K0:=hid (Blk.new w #[.string s] 46);have hsz:=h.1;have q2:((64*n:Nat):Int)/64=n:=by omega
 have q4:((64*n:Nat):Int).tdiv 64=n:=by rw[Int.tdiv_eq_ediv_of_nonneg (by omega)];exact q2
 rw[<- hsz]at q2 q4;clear h hsz
 go_enter func44,ntmps44
 go_wp2_with fail
 go_ret
 exact⟨rfl,B0.out⟩
theorem Qfi{s:ByteArray}{n:Nat}{F:Nat->Int}(h:Qle s n F)(_:n<=4096) :
  Calls prog 46 #[.agg #[.string s]] w fun r w'=>∃ sv,r = .returned sv/\Ql w' 1 sv (64*n) ((List.range (64*n)).map fun i => .int .u8 (Qq F i))/\Below w.heap.size w w':=by
 have B0:=hid (Qa w (.cells #[.string s] 46));have K0:=hid (Blk.new w #[.string s] 46);have hcv:=fun(wx:World)=>Lib.run_convert_string_bytes (P:=prog) wx 9 62 5 s underlying9 underlying62 underlying5
 have HRD:=hid (fun wx=>Qxd h wx);have HB:=hid (fun wx=>Qb3 wx 5 s);clear h
 go_enter func46,ntmps46
 go_wp2_with fail
 go_ret
 have R:=HRD.out (w.alloc (.cells #[.string s] 46));rw[World.size_alloc]at R;exact⟨_,rfl,R,B0.out.trans ((HB.out _).mono B0.out.size)⟩
theorem Gu{s:ByteArray}{n:Nat}{F:Nat->Int}(h:Qle s n F)(hn0:0<n)(hn:n<=4096)(hF:∀ i,0<=F i/\F i<18446744073709551616) :
  Calls prog 15 #[.agg #[.string s]] w fun r w'=>∃ (v':DV) (own':Nat->Option Qp),r = .returned (.tuple #[.pointer (some ⟨v'.db,0,none⟩),.int .i64 0]) /\
   (∃ f,(∀ i,i<8*n->f i=F i)/\IsDev w' v' own' (Dev.fresh n f))/\(∀ k,own' k≠none->w.heap.size<=k)/\Below w.heap.size w w':=by
 have B0:=hid (Qa w (.cells #[.string s] 46));have K0:=hid (Blk.new w #[.string s] 46);have HL:=hid (fun wx=>Qfj (w:=wx) h hn);have HB:=hid (fun wx=>Qfi (w:=wx) h hn);have HF:=hid (fun wx sv hr=>Wf (w:=wx) sv n (Qq F) hr hn0 hn (fun i _=>Dx F i));have HFF:=hid hF;have hn1:¬ (n:Int)=0:=by omega
 clear h hF
 go_enter func15,ntmps15
 go_wp2_with fail
 (with_reducible refine(HL.out _).mono ?_)
 rintro r w1 ⟨rfl,b1⟩;have B1:=hid (B0.out.trans (b1.mono B0.out.size));have c1:=(K0.out.below b1).cell (i:=0) rfl;clear b1 K0;go_wp2_with fail
 (with_reducible refine(HB.out _).mono ?_)
 rintro r w2 ⟨sv,rfl,r2,b2⟩;have B2:=hid (B1.out.trans (b2.mono B1.out.size));have R2:=hid r2;clear b2 r2;go_wp2_with fail
 (with_reducible refine(HF.out _ _ R2.out).mono ?_)
 rintro r w3 ⟨v',own',rfl,h1,h2,h3⟩;have R:=hid (And.intro h1 (And.intro h2 h3));clear h1 h2 h3
 go_wp2_with fail
 go_ret2
 exact⟨v',own',rfl,⟨_,fun i hi=>by
  have:=Vz F (8*n) i hi (HFF.out i)
  rwa [show 8*(8*n)=64*n by omega]at this,R.out.1⟩,fun k hk=>Nat.le_trans B2.out.size (R.out.2.1 k hk),B2.out.trans (R.out.2.2.mono B2.out.size)⟩
end
end
end Go.Proofs.YtlhchkajjpefmaaGreatDoor
