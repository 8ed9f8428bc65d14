/- Lemmas and walks, part 5: each theorem says what it proves; no condition beside its own. -/
import Derived.Test.YtlhchkajjpefmaaGreatDoorK4
import Derived.Shelf.Strings.Trim
import Derived.Shelf.Small.Utf8
import Derived.Shelf.Small.Bits
import Derived.Shelf.Strings.Runes
import Derived.Shelf.Strings.AsciiSet
import Derived.Shelf.Bits.Mul64
import Derived.Shelf.Unicode.DecodeSlow
set_option maxHeartbeats 16000000
set_option maxRecDepth 100000
namespace Go.Proofs.YtlhchkajjpefmaaGreatDoor
open Lib(hid)
open Go.RowKit Go.Proofs.Tryz
section
section
variable{w:World}{v:DV}{own:Nat->Option Qp}{D:Dev}
structure Qq8(w:World)(D:Dev)(g:Nat)(L:List Nat)(cz:Nat->Nat->Nat)(k:Nat)(wr:World):Prop where
 ks:∃ ks:Nat->Nat,((∀ l,ks l<=(D.hist l).length)/\∀ i l:Nat,i<k->L[i]? = some l->ks l=cz i l)/\(∀ l,l∉L.take k->ks l=0)/\Row wr g (8*D.n) 31 (fun i => .int .u64 (D.img ks i))
 upd:Upd (fun j=>j=g) w wr
theorem Qq8.start{g:Nat}{L:List Nat}{cz:Nat->Nat->Nat}(hr:Row w g (8*D.n) 31 (fun i => .int .u64 (D.pers i))):Qq8 w D g L cz 0 w:=
 ⟨⟨fun _=>0,⟨fun _=>Nat.zero_le _,fun _ _ h=>absurd h (by omega)⟩,fun _ _=>rfl,hr.congr (fun i _=>by simp[Dev.img,Qu])⟩,Upd.refl _ _⟩
theorem Qq8.step{g l k q:Nat}{L:List Nat}{cz:Nat->Nat->Nat}{wr w1:World}(hw:D.WF)(hnd:L.Nodup)(hl:L[k]? = some l)(hln:l<D.n)(hq:q<=(D.hist l).length/\q=cz k l)
  (ks:Nat->Nat) (h1:(∀ l,ks l<=(D.hist l).length)/\∀ i l:Nat,i<k->L[i]? = some l->ks l=cz i l) (h2:∀ l,l∉L.take k->ks l=0) (hbw:Upd (fun j=>j=g) w wr)
  (hr:Row w1 g (8*D.n) 31 (fun i => .int .u64 (Yh ((D.hist l).take q) (D.img ks) i))) (hu:Upd (fun j=>j=g) wr w1):Qq8 w D g L cz (k+1) w1:=by
 have hlt:l∉L.take k:=fun hm=>by
  obtain⟨i,hi,e⟩:=List.mem_iff_getElem.1 hm;have hik:i<k:=by simp at hi;omega
  obtain⟨hkl,e2⟩:=List.getElem?_eq_some_iff.1 hl;have e3:L[i]'(by omega)=L[k]:=by rw[e2,<- e];simp
  exact List.pairwise_iff_getElem.1 hnd i k (by omega) hkl hik e3
 have ht:L.take (k+1)=L.take k ++ [l]:=by rw[List.take_add_one,hl];rfl
 refine⟨⟨fun m=>if m=l then q else ks m,⟨fun m => ?_,fun i m hi hm => ?_⟩,fun m hm => ?_,hr.congr (fun i _=>by rw[Qhg D hw ks l q hln (h2 l hlt)])⟩,hbw.trans hu (fun _ _ h=>h)⟩
 ·by_cases e:m=l
  ·subst e;simpa using hq.1
  ·simpa [e]using h1.1 m
 ·by_cases e:i=k
  ·subst e
   rw[hl]at hm
   cases hm
   simpa using hq.2
  ·have hik:i<k:=by omega
   have hne:m≠l:=fun e2=>by
    subst e2;exact hlt (List.mem_iff_getElem?.2 ⟨i,by rw[List.getElem?_take,if_pos hik];exact hm⟩)
   simpa [hne]using h1.2 i m hik hm
 ·rw[ht]at hm
  have e:m≠l:=fun e=>hm (by simp[e])
  simp only[if_neg e];exact h2 m (fun h=>hm (by simp[h]))
theorem Ql1{wr:World}{B g:Nat}{w0:World}(h:Below B w0 w)(hu:Upd (fun j=>j=g) w wr)(hB:B<=w.heap.size)(hg:B<=g):Below B w0 wr:=
 ⟨hu.os.trans h.os,hu.tape.trans h.tape,hu.output.trans h.output,Nat.le_trans h.size hu.size,fun j hj=>(hu.block j (by omega) (by omega)).trans (h.block j hj)⟩
def chD(D:Dev)(cs:List Int)(i l:Nat):Nat:=(cs.getD (i%cs.length) 0%(((D.hist l).length:Int)+1)).toNat
def Ih(w:World)(D:Dev)(cs:List Int)(r:Ending)(w':World):Prop:=∃ (ks:Nat->Nat) (g:Nat),((∀ l,ks l<=(D.hist l).length)/\∀ i l:Nat,D.dirtyL[i]? = some l->ks l=chD D cs i l)/\w.heap.size<=g/\r = .returned (.slice (some ⟨g,0,none⟩) (64*D.n) (64*D.n))/\Row w' g (64*D.n) 5 (fun i => .int .u8 (Qq (D.img ks) i))/\Below w.heap.size w w'
def Q0a(w:World)(D:Dev)(r:Ending)(w':World):Prop:=∃ (ks:Nat->Nat) (g:Nat),(∀ l,ks l<=(D.hist l).length)/\w.heap.size<=g/\r = .returned (.slice (some ⟨g,0,none⟩) (64*D.n) (64*D.n))/\Row w' g (64*D.n) 5 (fun i => .int .u8 (Qq (D.img ks) i))/\Below w.heap.size w w'
theorem Nj(h:IsDev w v own D)(hvb:D.VB)(cv:Value)(cs:List Int)(hc:Ql w 1 cv cs.length (cs.map fun x => .int .u8 x))(hcb:∀ x∈cs,0<=x/\x<256)(hcl:cs.length<=maxLen)(hex:D.exec<4611686018427387904) :
  Calls prog 59 #[.pointer (some ⟨v.db,0,none⟩),cv] w (Ih w D cs):=by
 have hn:=h.wf.le;have hn0:=h.wf.pos
 have HZ0:Hid (cs = []->∀ i l:Nat,chD D cs i l=0):=fun e i l=>by subst e;simp[chD]
 have HZ:Hid (∀ (i l:Nat) (x:Int),cs[i%cs.length]? = some x->chD D cs i l=(x%(((D.hist l).length:Int)+1)).toNat):=fun i l x e=>by unfold chD;rw[List.getD_eq_getElem?_getD,e];rfl
 generalize hcz:chD D cs=cz at *
 unfold Ih;rw[hcz];clear hcz;unfold maxLen at hcl;have d0:w.cell? ⟨v.db,0,none⟩=some (.slice (some ⟨v.pb,0,none⟩) (8*D.n) v.pc):=h.dev.cell rfl;have d2:w.cell? ⟨v.db,2,none⟩=some (.slice (some ⟨v.lb,0,none⟩) D.n D.n):=h.dev.cell rfl;have HCL:=hid (Mz (w:=w) ⟨v.pb,0,none⟩ (8*D.n) v.pc ((List.range (8*D.n)).map fun i => .int .u64 (D.pers i)) ⟨by simp,_,_,rfl,h.pcs.1,.inr ⟨_,_,rfl,fun j u hu=>by
  obtain⟨hj,e⟩:=List.getElem?_eq_some_iff.1 hu;have hj':j<8*D.n:=by simpa using hj
  rw[Nat.zero_add,h.pers.cell hj',<- e];simp⟩⟩ (fun u hu=>by simp at hu;obtain⟨i,_,rfl⟩:=hu;rfl) (by omega))
 have H:=hid h;have HV:=hid hvb;have HC:=hid hc;have HCB:=hid hcb
 clear h hvb hcb;obtain⟨_,ca,cc,rfl,hcc,_⟩:=hc
 generalize hm:cs.length=m at *
 have HM:=hid hm;clear hm
 obtain⟨n8,h8⟩:∃ k,8*D.n=k:=⟨_,rfl⟩;rw[h8]at d0 HCL;have H8:=hid h8;clear h8
 go_enter func59,ntmps59
 go_wp2_with fail
 (with_reducible refine HCL.out.mono ?_)
 rintro e w1 ⟨g,cap,rfl,co,hg,b1⟩;have CO:Hid (Row w1 g (8*D.n) 31 (fun i => .int .u64 (D.pers i))/\8*D.n<=cap):=hid (by have:=Qj.row (F:=fun i => .int .u64 (D.pers i)) co;rwa [H8.out]);have B1:=hid b1;clear co b1 HCL d0;have HBY:=hid (fun wx (f:Nat->Int) (hr:Row wx g (8*D.n) 31 (fun i => .int .u64 (f i))) (hf:∀ i,0<=f i/\f i<18446744073709551616)=>by
  have:=Dz hr CO.out.2 hn0 hn hf
  rwa [H8.out]at this)
 by_cases hm0:0<m
 ·have hm0':(0:Int)<m:=by omega
  have HD:=hid (At (H.out.kept B1.out.size (fun k hk=>B1.out.block k (H.out.lt k hk))));go_wp2_with fail
  (with_reducible refine HD.out.mono ?_)
  rintro e w2 ⟨lv,rfl,ha⟩;obtain⟨la,lc,hlv⟩:=ha.slice;subst hlv;have A:=hid ha;clear ha HD
  have HND:Hid (D.dirtyL.Nodup/\∀ l∈D.dirtyL,l<D.n):=hid ⟨List.Nodup.sublist List.filter_sublist List.nodup_range,fun l hl=>by
   have:=(List.mem_filter.1 hl).1;simpa using this⟩
  have hdl:D.dirtyL.length<=D.n:=by unfold Dev.dirtyL;exact Ka D D.n
  have B2:Hid (Below w.heap.size w w2):=hid (B1.out.trans (A.out.bel.mono B1.out.size));have I0:Hid (Qq8 w2 D g D.dirtyL cz 0 w2):=hid (Qq8.start (CO.out.1.below A.out.bel));have HG1:Hid (g<w1.heap.size/\w.heap.size<=w2.heap.size):=hid ⟨CO.out.1.lt,B2.out.size⟩
  generalize hL:D.dirtyL=L at *
  have HLD:Hid (D.dirtyL=L):=hid hL;clear hL;go_wp2_with fail
  go_loopw [6,7,8,9,23] (fun _ _ _ _ y wr=>∃ k:Nat,k<=L.length/\y = .int .i64 k/\Qq8 w2 D g L cz k wr) (fun _ _ _ _ y _=>L.length-(intOf y).toNat)
  case atStart=>exact⟨0,by omega,rfl,I0.out⟩
  case round=>
   obtain⟨k,hk,rfl,hI⟩:=hrel;have IS:=hid hI;clear hI I0
   obtain⟨ks,k1,k2,k3⟩:=IS.out.ks;have KS:=hid (And.intro k1 (And.intro k2 k3));clear k1 k2 k3
   have BR:Hid (Below w.heap.size w wr):=hid (Ql1 B2.out IS.out.upd HG1.out.2 hg)
   by_cases hlt:k<L.length
   ·have hlt':(k:Int)<L.length:=by omega
    obtain⟨l,hl⟩:∃ l,L[k]? = some l:=⟨_,List.getElem?_eq_getElem hlt⟩;have hln:=HND.out.2 l (List.mem_of_getElem? hl);have hln':(l:Int)<D.n:=by omega
    have hrd:=A.out.rd.upd IS.out.upd (fun j hj e=>by have:=A.out.new j hj;have:=HG1.out.1;omega);obtain⟨_,a',c',e',_,hE⟩:=hrd
    cases e'
    have hxl:(Zi L)[k]? = some (.int .i64 l):=by simp[Zi,hl]
    obtain⟨lb,lo,rfl,hE2⟩:=Zr hE hxl;have c1:=hE2 k _ hxl;have hcr:=HC.out.below BR.out;obtain⟨_,a',c',e',_,hE3⟩:=hcr
    cases e'
    obtain⟨r,hr⟩:∃ r,k%m=r:=⟨_,rfl⟩;have hrm:r<m:=by rw[<- hr];exact Nat.mod_lt _ hm0
    have q1:(k:Int)%m=r:=by rw[<- hr];rfl
    obtain⟨x,hx⟩:∃ x,cs[r]? = some x:=⟨_,List.getElem?_eq_getElem (by rw[HM.out];exact hrm)⟩;have hxc:(cs.map fun x=>Value.int .u8 x)[r]? = some (.int .u8 x):=by simp[hx]
    obtain⟨cb,co,rfl,hE4⟩:=Zr hE3 hxc;have c2:=hE4 r _ hxc;obtain⟨hx0,hx1⟩:=HCB.out x (List.mem_of_getElem? hx);have d3:wr.cell? ⟨v.db,2,none⟩=some (.slice (some ⟨v.lb,0,none⟩) D.n D.n):=(BR.out.cell (p:=⟨v.db,2,none⟩) H.out.dev.lt).trans d2;obtain⟨hv,l1,l2⟩:=Wo H.out;have hlb:v.lb<w.heap.size:=by obtain⟨_,h1,_⟩:=H.out.lines;exact h1.lt
    obtain⟨ha,hcap,hve⟩:=(l2 l hln).1.slice;have hh:=(l2 l hln).1;have c3:=(BR.out.cell (p:=⟨v.lb,l*2+1,none⟩) hlb).trans (l1 l hln).2;rw[hve]at c3 hh;have HH:=hid hh;have hcapl:(D.hist l).length<=hcap:=by obtain⟨_,_,_,e,hc,_⟩:=hh.rd;cases e;exact hc
    have hb:(D.hist l).length<4611686018427387904:=by have:=H.out.wf.cnt l hln;omega
    have HX:=hid (And.intro hl hln);have HR:=hid hr
    have hrm':(r:Int)<m:=by omega
    obtain⟨z,hz⟩:∃ z:Nat,x%(((D.hist l).length:Int)+1)=z:=⟨_,(Int.toNat_of_nonneg (Int.emod_nonneg _ (by omega))).symm⟩;have HZK:Hid (cz k l=z):=by
     show _=_
     rw[HZ.out k l x (by rw[hr];exact hx),hz]
     rfl
    have hzq:z<=(D.hist l).length:=by have:=Int.emod_lt_of_pos x (show(0:Int)<((D.hist l).length:Int)+1 by omega);omega
    have hzc:(z:Int)<=hcap:=by omega
    have HAP:=hid (fun(wx:World) (hx:wx=wr)=>by
     have hrw:Ql wr 2 (.slice ha z hcap) ((D.hist l).take z).length (Qv ((D.hist l).take z)):=by
      rw[List.length_take,Nat.min_eq_left hzq];exact(HH.out.rd.below BR.out).take z hzq
     have:=Qb1 g (8*D.n) cap (D.img ks) (.slice ha z hcap) ((D.hist l).take z) KS.out.2.2 hrw (fun j hj=>by
      have h3:=HH.out.lt j (by rw[Pe (n':=z) (c':=hcap)];exact hj);omega) (fun e he=>by have:=(H.out.wf.line l hln e (List.mem_of_mem_take he)).1;omega) (by omega) (by rw[List.length_take];omega)
     rw[H8.out]at this;exact this)
    clear hE hE2 hE3 hE4 hx hxc hxl l1 l2 hve hv hlb hh hl hr hrm
    generalize hq:(D.hist l).length=q at *
    have HQ:=hid hq;clear hq
    go_wp2_with fail
    (with_reducible refine(HAP.out _ rfl).mono ?_)
    rintro e w3 ⟨rfl,r3,u3⟩;have I3:Hid (Qq8 w2 D g L cz (k+1) w3):=hid (IS.out.upd |> fun hu=>Qq8.step H.out.wf HND.out.1 HX.out.1 HX.out.2 ⟨by rw[HQ.out];exact hzq,HZK.out.symm⟩ ks KS.out.1 KS.out.2.1 hu (by rw[H8.out];exact r3) u3);clear r3 u3;go_wp2_with fail
    go_roundw
    case rel=>exact⟨k+1,by omega,by go_num,I3.out⟩
    case measure=>simp[intOf];omega
   ·obtain rfl:k=L.length:=by omega
    have HB2:=hid (HBY.out wr (D.img ks) KS.out.2.2 (fun i=>HV.out.img ks i));go_wp2_with fail
    (with_reducible refine HB2.out.mono ?_)
    rintro e w3 ⟨rfl,r2,b2⟩;have R2:=hid (And.intro r2 b2);clear r2 b2
    go_wp2_with fail
    go_ret
    exact⟨ks,wr.heap.size,⟨KS.out.1.1,fun i l hl=>by
     rw[HLD.out]at hl;exact KS.out.1.2 i l (List.getElem?_eq_some_iff.1 hl).1 hl⟩,BR.out.size,rfl,R2.out.1,BR.out.trans (R2.out.2.mono BR.out.size)⟩
 ·have hm0':¬ (0:Int)<m:=by omega
  have HB2:=hid (HBY.out w1 D.pers CO.out.1 HV.out.pers);go_wp2_with fail
  (with_reducible refine HB2.out.mono ?_)
  rintro e w2 ⟨rfl,r2,b2⟩;have R2:=hid (And.intro r2 b2);clear r2 b2
  go_wp2_with fail
  go_ret
  exact⟨fun _=>0,w1.heap.size,⟨fun _=>Nat.zero_le _,fun i l _=>(HZ0.out (List.eq_nil_of_length_eq_zero (by have:=HM.out;omega)) i l).symm⟩,B1.out.size,rfl,R2.out.1.congr (fun i _=>by
   have:D.img (fun _=>0)=D.pers:=by funext i;simp[Dev.img,Qu]
   rw[this]),B1.out.trans (R2.out.2.mono B1.out.size)⟩
theorem Qni(h:IsDev w v own D)(hvb:D.VB)(cv:Value)(cs:List Int)(hc:Ql w 1 cv cs.length (cs.map fun x => .int .u8 x))(hcb:∀ x∈cs,0<=x/\x<256)(hcl:cs.length<=maxLen)(hex:D.exec<4611686018427387904) :
  Calls prog 59 #[.pointer (some ⟨v.db,0,none⟩),cv] w (Q0a w D):=by
 refine(Nj h hvb cv cs hc hcb hcl hex).mono ?_
 rintro r w' ⟨ks,g,h1,h2⟩;exact⟨ks,g,h1.1,h2⟩
def Qz6(w:World)(D:Dev)(r:Ending)(w':World):Prop:=∃ (ks:Nat->Nat) (v':DV) (own':Nat->Option Qp),(∀ l,ks l<=(D.hist l).length)/\r = .returned (.pointer (some ⟨v'.db,0,none⟩)) /\
 (∃ f,(∀ i,i<8*D.n->f i=D.img ks i)/\IsDev w' v' own' (Dev.fresh D.n f))/\(∀ k,own' k≠none->w.heap.size<=k)/\Below w.heap.size w w'
theorem Qmc(h:IsDev w v own D)(hvb:D.VB)(cv:Value)(cs:List Int)(hc:Ql w 1 cv cs.length (cs.map fun x => .int .u8 x))(hcb:∀ x∈cs,0<=x/\x<256)(hcl:cs.length<=maxLen)(hex:D.exec<4611686018427387904) :
  Calls prog 30 #[.pointer (some ⟨v.db,0,none⟩),cv] w (Qz6 w D):=by
 have hn:=h.wf.le;have hn0:=h.wf.pos
 have HI:=hid (Qni h hvb cv cs hc hcb hcl hex);have HV:=hid hvb;obtain⟨_,ca,cc,rfl,hcc,_⟩:=hc;clear h hvb hcb
 go_enter func30,ntmps30
 go_wp2_with fail
 (with_reducible refine HI.out.mono ?_)
 rintro e w1 ⟨ks,g,k1,k2,rfl,k3,k4⟩;have K:=hid (And.intro k1 (And.intro k2 (And.intro k3 k4)));clear k1 k2 k3 k4
 have HF:=hid (Wf (w:=w1) (.slice (some ⟨g,0,none⟩) (64*D.n) (64*D.n)) D.n (Qq (D.img ks)) ⟨by simp,_,_,rfl,Nat.le_refl _,.inr ⟨g,0,rfl,fun j u hu=>by
  obtain⟨hj,e⟩:=List.getElem?_eq_some_iff.1 hu;have hj':j<64*D.n:=by simpa using hj
  rw[Nat.zero_add,K.out.2.2.1.cell hj',<- e];simp⟩⟩ hn0 hn (fun i _=>by
   unfold Qq;exact⟨Int.emod_nonneg _ (by omega),Int.emod_lt_of_pos _ (by omega)⟩))
 go_wp2_with fail
 (with_reducible refine HF.out.mono ?_)
 rintro e w2 ⟨v',own',rfl,h1,h2,h3⟩;have R:=hid (And.intro h1 (And.intro h2 h3));clear h1 h2 h3
 go_wp2_with fail
 go_ret
 exact⟨ks,v',own',K.out.1,rfl,⟨_,fun i hi=>by
  have:=Vz (D.img ks) (8*D.n) i hi (HV.out.img ks i)
  rwa [show 8*(8*D.n)=64*D.n by omega]at this,R.out.1⟩,fun k hk=>Nat.le_trans K.out.2.2.2.size (R.out.2.1 k hk),K.out.2.2.2.trans (R.out.2.2.mono K.out.2.2.2.size)⟩
end
end

section
attribute [local go_sem ↓] Go.wp_at_zero Go.wp_at_succ
section
variable{w:World}{v:DV}{own:Nat->Option Qp}{D:Dev}
theorem Qrp(a:Addr)(n c:Nat)(xs:List (Nat×Int))(h:Ql w 2 (.slice (some a) n c) n (Qv xs))(hn:n<=4294967296) :
  Calls prog 78 #[.slice (some a) n c] w fun r w'=>∃ g cap,r = .returned (.slice (some ⟨g,0,none⟩) n cap)/\Qj w' 140 2 (.slice (some ⟨g,0,none⟩) n cap) n (Qv xs)/\w.heap.size<=g/\Below w.heap.size w w':=by
 obtain⟨i0,hi,hz0,hz1,hz2⟩:=info_parts Xe;have I:=hid (And.intro hi (And.intro hz0 (And.intro hz1 hz2)));clear hi hz0 hz1 hz2
 have H:=hid h;have H1:=hid (Xp xs);clear h
 generalize Qv xs=fx at *
 have hq:=fun wx=>Lib.run_eql_slice_nil (P:=prog) wx 52 140 (some a) n c 0 0 underlying52
 go_enter func78,ntmps78
 go_wp2_with (at_builtin;refine Qc _ rfl _ _ 52 rfl 140 i0 _ 2 16 underlying52 I.out.1 I.out.2.1 I.out.2.2.1 I.out.2.2.2 rfl (by decide) _ 0 [] rfl ?h0 _ n fx rfl ?h1 ?h2 ?h3 ?h4 ?_)
 case h0=>exact Qj.new _ _ _ 2 0 0 rfl (Nat.le_refl _) (Nat.zero_le _)
 case h1=>exact H.out.alloc _
 case h2=>exact H1.out
 case h3=>unfold maxLen;omega
 case h4=>omega
 intro v' w1 o1 g1 b1 n1;have O1:=hid o1;have G1:=hid g1;have B1:=hid b1;clear o1 g1 b1 n1
 go_wp2
 go_ret
 have hb:Below w.heap.size w w1:=((Below.refl _ _).alloc (Nat.le_refl _) _).grown G1.out (by simp) (fun k hk=>by cases hk;exact Nat.le_refl _);obtain⟨a',c',hv⟩:=O1.out.slice;have O2:=O1.out;have B2:=B1.out;rw[hv]at O2 B2
 rcases B2 with h | h
 ·simp only[Zc]at h
  subst h;exact⟨w.heap.size,c',by rw[<- hv];rfl,O2,Nat.le_refl _,hb⟩
 ·simp only[Zc]at h
  subst h;exact⟨w.heap.size+1,c',by rw[<- hv];rfl,O2,Nat.le_succ _,hb⟩
end
end
section
open Go.Maps
section
variable{w0 w w1:World}{v v':DV}{own own':Nat->Option Qp}{D:Dev}{kl kt kn:Nat}
theorem Qrq:Calls prog 78 #[.slice none 0 0] w fun r w'=>r = .returned (.slice none 0 0)/\w=w':=by
 have hq:=fun wx=>Lib.run_eql_slice_nil (P:=prog) wx 52 140 none 0 0 0 0 underlying52
 go_enter func78,ntmps78
 go_wp2
 go_ret
 exact⟨rfl,rfl⟩
theorem Qwu(hv:Value)(xs:List (Nat×Int))(h:Qj w 140 2 hv xs.length (Qv xs))(hn:xs.length<=4294967296) :
  Calls prog 78 #[hv] w fun r w'=>∃ sv,r = .returned sv/\Qj w' 140 2 sv xs.length (Qv xs)/\(∀ g,sv.ownBlock=some g->w.heap.size<=g)/\Below w.heap.size w w':=by
 rcases h.2 with ⟨rfl,e⟩ | ⟨g,o,cap,cur,rfl,_⟩
 ·refine Qrq.mono ?_
  rintro r w' ⟨rfl,rfl⟩;exact⟨_,rfl,h,fun g hg=>by simp[Value.ownBlock]at hg,Below.refl _ _⟩
 ·refine(Qrp ⟨g,o,none⟩ xs.length cap xs h.rd hn).mono ?_
  rintro r w' ⟨g2,cap2,rfl,h1,h2,h3⟩;exact⟨_,rfl,h1,fun g hg=>by simp[Value.ownBlock]at hg;omega,h3⟩
theorem Qsn(h:IsDev w v own D)(l:Nat)(hl:l<D.n)(hx:D.exec<4294967296):Calls prog 130 #[.pointer (some ⟨v.db,0,none⟩),.int .i64 l] w fun r w'=>∃ sv,r = .returned sv/\Qj w' 140 2 sv (D.hist l).length (Qv (D.hist l))/\(∀ g,sv.ownBlock=some g->w.heap.size<=g)/\Below w.heap.size w w':=by
 have hd2:w.cell? ⟨v.db,2,none⟩=some (.slice (some ⟨v.lb,0,none⟩) D.n D.n):=h.dev.cell rfl;obtain⟨hv,l1,l2⟩:=Wo h;have hh:=(l2 l hl).1;have hn:(D.hist l).length<=4294967296:=by have:=h.wf.cnt l hl;omega
 have HC:=hid (Qwu (hv l) (D.hist l) hh hn);obtain⟨ha,hc,hve⟩:=hh.slice;have c1:=(l1 l hl).2;rw[hve]at c1 HC;have hl1:(l:Int)<D.n:=by omega
 have hl2:¬ (l:Int)<0:=by omega
 have hl3:¬ (D.n:Int)<=(l:Int):=by omega
 clear l1 l2 hh h
 go_enter func130,ntmps130
 go_wp2_with fail
 (with_reducible refine HC.out.mono ?_)
 rintro r w1 ⟨sv,rfl,h1,h2,h3⟩;have HH:=hid (And.intro h1 (And.intro h2 h3));clear h1 h2 h3;go_wp2_with fail
 go_ret
 exact⟨_,rfl,HH.out⟩
end
end

section
attribute [local go_sem ↓] Go.wp_at_zero Go.wp_at_succ
theorem Qxe:(Tryz.prog.info? 52).map (fun i=>(i.zero,i.size,i.bytes))=some (some (.slice none 0 0),1,24):=by kernel_rfl
structure Qk8(D:Dev)(pg:Nat)(lv hv:Value)(hs:List Value)(w:World):Prop where
 pers:Row w pg (64*D.n) 5 (fun i => .int .u8 (Qq D.pers i))
 lines:Ql w 1 lv D.dirtyL.length (Zi D.dirtyL)
 hist:Ql w 1 hv D.dirtyL.length hs
 row:∀ (i l:Nat),D.dirtyL[i]? = some l->∃ u,hs[i]? = some u/\Ql w 2 u (D.hist l).length (Qv (D.hist l))
theorem Qk8.next{D:Dev}{pg:Nat}{lv hv:Value}{hs:List Value}{w w':World}(h:Qk8 D pg lv hv hs w)(hb:Below w.heap.size w w'):Qk8 D pg lv hv hs w':=
 ⟨h.pers.below hb,h.lines.below hb,h.hist.below hb,fun i l hl=>let ⟨u,h1,h2⟩:=h.row i l hl;⟨u,h1,h2.below hb⟩⟩
structure Qv2(w3:World)(D:Dev)(sb:Nat)(pv lv hv:Value)(k:Nat)(hs:List Value)(wr:World):Prop where
 box:Blk wr sb #[pv,lv,hv] 95
 own:Qj wr 52 1 hv k hs
 new:∀ g,hv.ownBlock=some g->w3.heap.size<=g
 row:∀ (i l:Nat),i<k->D.dirtyL[i]? = some l->∃ u,hs[i]? = some u/\Ql wr 2 u (D.hist l).length (Qv (D.hist l))/\∀ g,u.ownBlock=some g->w3.heap.size<=g/\g<wr.heap.size/\hv.ownBlock≠some g
 upd:Upd (· = sb) w3 wr
 sz:sb<w3.heap.size
section
variable{w w3 wr w5 w6:World}{v:DV}{own:Nat->Option Qp}{D:Dev}{sb k l:Nat}{pv lv hv hv' u:Value}{hs:List Value}
theorem Qv2.step(h:Qv2 w3 D sb pv lv hv k hs wr)(hl:D.dirtyL[k]? = some l)(hu:Ql w5 2 u (D.hist l).length (Qv (D.hist l)))(hn:∀ g,u.ownBlock=some g->wr.heap.size<=g/\g<w5.heap.size)(hb:Below wr.heap.size wr w5){wz:World}(hz:Below w5.heap.size w5 wz)
  (o1:Qj w6 52 1 hv' (k+1) (hs ++ [u])) (g1:wz.grownBy w6 hv.ownBlock) (b1:Zc hv'=Zc hv\/Zc hv'=some ⟨wz.heap.size,0,none⟩):Qv2 w3 D sb pv lv hv' (k+1) (hs ++ [u]) (w6.setCell ⟨sb,2,none⟩ hv'):=by
 have hbz:Below wr.heap.size wr wz:=hb.trans (hz.mono hb.size);have hsw:w3.heap.size<=wr.heap.size:=h.upd.size;have hvl:∀ g,hv.ownBlock=some g->g<wr.heap.size:=h.own.lt;have hne:hv.ownBlock≠some sb:=fun e=>by have:=h.new sb e;have:=h.sz;omega
 have hnew':∀ g,hv'.ownBlock=some g->w3.heap.size<=g/\(hv.ownBlock=some g\/g=wz.heap.size):=fun g hg=>by
  rcases b1 with b1 | b1
  ·rw[Qh,b1,<- Qh]at hg
   exact⟨h.new g hg,.inl hg⟩
  ·rw[Qh,b1]at hg
   cases hg
   exact⟨Nat.le_trans hsw hbz.size,.inr rfl⟩
 have hu6:Upd (fun g=>hv.ownBlock=some g) wz w6:=⟨g1.os,g1.tape,g1.output,g1.size,fun g hg hS=>g1.block g hg (fun e=>hS e.symm)⟩;have hk:k=hs.length:=by have:=h.own.1;omega
 have hne2:∀ g,hv'.ownBlock=some g->g≠sb:=fun g hg e=>by have:=(hnew' g hg).1;have:=h.sz;omega
 refine⟨?_,?_,fun g hg=>(hnew' g hg).1,fun i m hi hm => ?_,?_,h.sz⟩
 ·have h1:Blk wz sb #[pv,lv,hv] 95:=h.box.below hbz
  have h2:Blk w6 sb #[pv,lv,hv] 95:=h1.upd hu6 hne;have:=h2.set 2 hv';exact this
 ·exact o1.other (fun g hg e=>hne2 g hg e) hv'
 ·by_cases hik:i<k
  ·obtain⟨u',r1,r2,r3⟩:=h.row i m hik hm
   refine⟨u',by rw[List.getElem?_append_left (by omega)];exact r1,?_,fun g hg => ?_⟩
   ·have a1:Ql wz 2 u' (D.hist m).length (Qv (D.hist m)):=r2.below hbz
    have a2:=a1.upd hu6 (fun g hg e=>(r3 g hg).2.2 e);exact a2.upd ((Upd.refl (· = sb) w6).setCell (fun _=>rfl) hv') (fun g hg e=>by have:=(r3 g hg).1;have:=h.sz;omega)
   ·obtain⟨c1,c2,c3⟩:=r3 g hg
    have hsz:wr.heap.size<=wz.heap.size:=hbz.size;refine⟨c1,by have:=hu6.size;simp;omega,fun e => ?_⟩
    rcases(hnew' g e).2 with h5 | h5
    ·exact c3 h5
    ·omega
  ·obtain rfl:i=k:=by omega
   rw[hl]at hm
   cases hm
   refine⟨u,by rw[List.getElem?_append_right (by omega),hk,Nat.sub_self];rfl,?_,fun g hg => ?_⟩
   ·have a1:Ql wz 2 u (D.hist l).length (Qv (D.hist l)):=hu.below hz
    have a2:=a1.upd hu6 (fun g hg e=>by have:=(hn g hg).1;have:=hvl g e;omega);exact a2.upd ((Upd.refl (· = sb) w6).setCell (fun _=>rfl) hv') (fun g hg e=>by have:=(hn g hg).1;have:=h.sz;omega)
   ·obtain⟨c1,c2⟩:=hn g hg
    have hsz5:=hz.size;refine⟨by omega,by have:=hu6.size;simp;omega,fun e => ?_⟩
    rcases(hnew' g e).2 with h5 | h5
    ·have:=hvl g h5;omega
    ·omega
 ·have u1:Upd (· = sb) w3 wz:=h.upd.trans (Upd.of_below (S:=fun _=>False) hbz) (fun _ _ h=>h.elim)
  have u2:Upd (· = sb) w3 w6:=u1.trans hu6 (fun g hg hS=>by have:=h.new g hS;omega);exact u2.setCell (fun _=>rfl) hv'
theorem Qv2.mid(h:Qv2 w3 D sb pv lv hv k hs wr){wz:World}(hz:Below wr.heap.size wr wz)(g1:wz.grownBy w6 hv.ownBlock):Blk w6 sb #[pv,lv,hv] 95:=by
 have hne:hv.ownBlock≠some sb:=fun e=>by have:=h.new sb e;have:=h.sz;omega
 have hu6:Upd (fun g=>hv.ownBlock=some g) wz w6:=⟨g1.os,g1.tape,g1.output,g1.size,fun g hg hS=>g1.block g hg (fun e=>hS e.symm)⟩;exact(h.box.below hz).upd hu6 hne
theorem Tz(h:IsDev w v own D)(hvb:D.VB)(hx:D.exec<4294967296) :
  Calls prog 40 #[.pointer (some ⟨v.db,0,none⟩)] w fun r w'=>∃ (pg:Nat) (lv hv:Value) (hs:List Value),r = .returned (.agg #[.slice (some ⟨pg,0,none⟩) (64*D.n) (64*D.n),lv,hv])/\Qk8 D pg lv hv hs w'/\Below w.heap.size w w':=by
 obtain⟨i0,hi0,hz0,hz1,hz2⟩:=info_parts Qxe;have I:=hid (And.intro hi0 (And.intro hz0 (And.intro hz1 hz2)));clear hi0 hz0 hz1 hz2
 have hn:=h.wf.le;have B0:=hid (Qa w (.cells #[.slice none 0 0,.slice none 0 0,.slice none 0 0] 95));have X0:=hid (Blk.new w #[.slice none 0 0,.slice none 0 0,.slice none 0 0] 95);have H0:=hid (h.below B0.out);have HOW:Hid (∀ g,w.heap.size<=g->own g=none):=fun g hg=>by
  cases e:own g with
  | none=>rfl
  | some r=>have:=h.lt g (by rw[e];simp);omega
 have HPS:=hid (Ss H0.out hvb);unfold Qbw at HPS;have HDR:=hid (fun(wx:World) (hd:IsDev wx v own D)=>At hd);have HH:=hid (fun(wx:World) (hd:IsDev wx v own D) (l:Nat) (hl:l<D.n)=>Qsn hd l hl hx);have HDL:Hid (∀ l∈D.dirtyL,l<D.n):=fun l hl=>by
  have:=(List.mem_filter.1 hl).1;simpa using this
 have hdl:D.dirtyL.length<=D.n:=by unfold Dev.dirtyL;exact Ka D D.n
 clear h hvb hx
 go_enter func40,ntmps40
 go_wp2_with fail
 (with_reducible refine HPS.out.mono ?_)
 rintro r w1 ⟨rfl,row,b1⟩;have H1:=hid (H0.out.below b1);have B1:=hid (B0.out.trans (b1.mono B0.out.size));have X1:=hid (X0.out.below b1);have RW1:=hid row;clear row b1 HPS H0 B0 X0;go_wp2_with fail
 (with_reducible refine(HDR.out _ H1.out).mono ?_)
 rintro r w2 ⟨lv,rfl,ha⟩;obtain⟨la,lc,rfl⟩:=ha.slice;obtain⟨pg,hpg⟩:∃ pg,(w.alloc (.cells #[.slice none 0 0,.slice none 0 0,.slice none 0 0] 95)).heap.size=pg:=⟨_,rfl⟩;rw[hpg]at RW1;have hpg2:w.heap.size+1=pg:=by rw[<- hpg];simp
 try rw[World.size_alloc]
 rw[hpg2];have H2:=hid (H1.out.below ha.bel);have B2:=hid (B1.out.trans (ha.bel.mono B1.out.size));have X2:=hid (X1.out.below ha.bel);have RW2:=hid (RW1.out.below ha.bel);have LV2:=hid ha.rd;have LVN:=hid (ha.own.lt);have hpl:pg<w2.heap.size:=RW2.out.lt;have hxl:w.heap.size<w2.heap.size:=X2.out.lt;obtain⟨m,hm⟩:∃ m,D.dirtyL.length=m:=⟨_,rfl⟩;rw[hm]at LV2 LVN hdl ⊢;have HM:=hid hm;obtain⟨N,hN⟩:∃ N,64*D.n=N:=⟨_,rfl⟩;rw[hN]at RW2 ⊢;have HN:=hid hN;have HLG:Hid (∀ g,(Value.slice la m lc).ownBlock=some g->w.heap.size<g):=fun g hg=>Nat.lt_of_lt_of_le X1.out.lt (ha.new g (by rw[hm];exact hg))
 clear ha hpg H1 B1 X1 RW1 HDR hm hN;go_wp2_with fail
 have S0:Hid (Qv2 (w2.alloc (.cells #[.slice (some ⟨pg,0,none⟩) N N,.slice la m lc,.slice none 0 0] 95)) D w2.heap.size (.slice (some ⟨pg,0,none⟩) N N) (.slice la m lc) (.slice none 0 0) 0 [] (w2.alloc (.cells #[.slice (some ⟨pg,0,none⟩) N N,.slice la m lc,.slice none 0 0] 95))):=
  ⟨Blk.new w2 _ _,Qj.nil _ _ _,fun g hg=>by simp[Value.ownBlock]at hg,fun i l hi=>by omega,Upd.refl _ _,by simp⟩
 have B3:=hid (B2.out.trans ((Qa w2 (.cells #[.slice (some ⟨pg,0,none⟩) N N,.slice la m lc,.slice none 0 0] 95)).mono B2.out.size));have H3:=hid (H2.out.below (Qa w2 (.cells #[.slice (some ⟨pg,0,none⟩) N N,.slice la m lc,.slice none 0 0] 95)));have X3:=hid (X2.out.below (Qa w2 (.cells #[.slice (some ⟨pg,0,none⟩) N N,.slice la m lc,.slice none 0 0] 95)));have RW3:=hid (RW2.out.below (Qa w2 (.cells #[.slice (some ⟨pg,0,none⟩) N N,.slice la m lc,.slice none 0 0] 95)));have LV3:=hid (LV2.out.below (Qa w2 (.cells #[.slice (some ⟨pg,0,none⟩) N N,.slice la m lc,.slice none 0 0] 95)));obtain⟨w3,hw3⟩:∃ w3,w2.alloc (.cells #[.slice (some ⟨pg,0,none⟩) N N,.slice la m lc,.slice none 0 0] 95)=w3:=⟨_,rfl⟩;have c1:w3.cell? ⟨w2.heap.size,1,none⟩=some (.slice la m lc):=by rw[<- hw3];exact(Blk.new w2 _ _).cell rfl
 rw[hw3]at S0 B3 H3 X3 RW3 LV3 ⊢;have hsb:w2.heap.size<w3.heap.size:=by rw[<- hw3];simp
 obtain⟨sb,hsbd⟩:∃ sb,w2.heap.size=sb:=⟨_,rfl⟩;have HSN:Hid (own sb=none):=by show _=_;rw[<- hsbd];exact HOW.out _ (Nat.le_of_lt hxl)
 rw[hsbd]at S0 hpl hxl hsb c1 ⊢;have HLN:Hid (∀ g,(Value.slice la m lc).ownBlock=some g->g<sb):=fun g hg=>by rw[<- hsbd];exact LVN.out g hg
 clear hw3 hsbd B2 H2 X2 RW2 LV2 LVN HOW c1
 go_loopw [5,14] (fun _ y wr=>∃ k:Nat,k<=m/\y = .int .i64 k/\∃ hv hs,Qv2 w3 D sb (.slice (some ⟨pg,0,none⟩) N N) (.slice la m lc) hv k hs wr) (fun _ y _=>m-(intOf y).toNat)
 case atStart=>exact⟨0,by omega,rfl,_,_,S0.out⟩
 case round=>
  clear S0;obtain⟨k,hk,rfl,hv,hs,hst⟩:=hrel;rename World=>wr
  obtain⟨qa,qc,rfl⟩:=hst.own.slice;have S:=hid hst;clear hst;have hwr:w3.heap.size<=wr.heap.size:=S.out.upd.size
  by_cases hlt:k<m
  ·have hlt':(k:Int)<m:=by omega
   obtain⟨l,hl⟩:∃ l,D.dirtyL[k]? = some l:=⟨_,List.getElem?_eq_getElem (by rw[HM.out];exact hlt)⟩;have hln:=HDL.out l (List.mem_of_getElem? hl);have DV:=hid (H3.out.upd S.out.upd (fun g hg e=>hg (by rw[e];exact HSN.out)));obtain⟨_,_,_,e',_,hE⟩:=(show Ql wr 1 (.slice la m lc) m (Zi D.dirtyL)from LV3.out.upd S.out.upd (fun g hg e=>by have:=HLN.out g hg;omega))
   cases e'
   have hxl2:(Zi D.dirtyL)[k]? = some (.int .i64 l):=by simp[Zi,hl]
   obtain⟨lb,lo,rfl,hE2⟩:=Zr hE hxl2;have c1:=hE2 k _ hxl2;have c2:=S.out.box.cell (i:=2) (v:=.slice qa k qc) rfl;have HL:=hid hl;have hsbw:sb<wr.heap.size:=by omega
   clear hE hE2 hxl2 hl;go_wp2_with fail
   go_region_law (first | (go_simp;go_at_call 130;(with_reducible refine(HH.out _ (DV.out.below ((Below.refl _ _).drew)) l hln).mono ?_);rintro r w5 ⟨u,rfl,u1,u2,u3⟩;obtain⟨ua,uc,rfl⟩:=u1.slice;have U:=hid (And.intro u1 (And.intro u2 u3));have B5:Hid (Below wr.heap.size wr w5):=((Below.refl _ _).drew).trans u3;have c2:=(S.out.box.below B5.out).cell (i:=2) (v:=.slice qa k qc) rfl;have hs5:=Nat.lt_of_lt_of_le hsbw B5.out.size;clear u1 u2 u3) | (refine Yz (w:=w5.alloc (.cells #[.slice ua (D.hist l).length uc] 52)) rfl (.tmp 19) (.tmp 23) 93 rfl 52 i0 _ 1 24 underlying93 I.out.1 I.out.2.1 I.out.2.2.1 I.out.2.2.2 rfl (by decide) (.slice qa k qc) k hs rfl (by exact(S.out.own.kept (fun g hg=>B5.out.block g (S.out.own.lt g hg))).alloc _) _ 1 [.slice ua (D.hist l).length uc] rfl (by exact Ql.newAt w5 _ 52 1 1 _ rfl rfl) (fun x hx=>by rw[List.mem_singleton]at hx;subst hx;rfl) (by unfold maxLen;omega) (by omega) ?_;intro v1 w6 o1 g1 b1;obtain⟨va,vc,rfl⟩:=o1.slice;have S6:=hid (S.out.step HL.out U.out.1.rd (fun g hg=>⟨U.out.2.1 g hg,U.out.1.lt g hg⟩) B5.out (Qa w5 _) o1 g1 b1);have K6:=hid (S.out.mid (B5.out.trans ((Qa w5 _).mono B5.out.size)) g1);have c6:=K6.out.cell (i:=2) (v:=.slice qa k qc) rfl;have f6:=K6.out.frozen 2;clear o1 g1 b1))
   all_goals
    go_wp2_with fail
    go_roundw
    case rel=>exact⟨k+1,by omega,by go_num,_,_,S6.out⟩
    case measure=>simp[intOf];omega
  ·obtain rfl:k=m:=by omega
   have XR:=hid (X3.out.upd S.out.upd (fun e=>by have e':w.heap.size=sb:=e;omega));have RWR:=hid (RW3.out.upd S.out.upd (fun e=>by have e':pg=sb:=e;omega));have LVR:=hid (LV3.out.upd S.out.upd (fun g hg e=>by have:=HLN.out g hg;omega));have c0:=S.out.box.cell (i:=0) (v:=.slice (some ⟨pg,0,none⟩) N N) rfl;have c1:=S.out.box.cell (i:=1) (v:=.slice la k lc) rfl;have c2:=S.out.box.cell (i:=2) (v:=.slice qa k qc) rfl;have d0:=XR.out.cell (i:=0) (v:=.slice none 0 0) rfl;have d1:=XR.out.cell (i:=1) (v:=.slice none 0 0) rfl;have d2:=XR.out.cell (i:=2) (v:=.slice none 0 0) rfl;have f0:=XR.out.frozen 0;have f1:=XR.out.frozen 1;have f2:=XR.out.frozen 2;have BR:=hid (B3.out.trans (show Below w.heap.size w3 wr from⟨S.out.upd.os,S.out.upd.tape,S.out.upd.output,S.out.upd.size,fun g hg=>S.out.upd.block g (by omega) (fun e=>by have e':g=sb:=e;omega)⟩));have HU:Hid (Upd (· = w.heap.size) wr (((wr.setCell ⟨w.heap.size,0,none⟩ (.slice (some ⟨pg,0,none⟩) N N)).setCell ⟨w.heap.size,1,none⟩ (.slice la k lc)).setCell ⟨w.heap.size,2,none⟩ (.slice qa k qc))):=(((Upd.refl (· = w.heap.size) wr).setCell (fun _=>rfl) _).setCell (fun _=>rfl) _).setCell (fun _=>rfl) _;go_wp2_with fail
   refine bodyPost_ret (v:=.agg #[.slice (some ⟨pg,0,none⟩) N N,.slice la k lc,.slice qa k qc]) (by simp[results,results40,go_sem,d0,d1,d2]) rfl ⟨pg,.slice la k lc,.slice qa k qc,hs,by rw[HN.out],?_,?_⟩
   ·refine⟨by rw[HN.out];exact RWR.out.upd HU.out (fun e=>by have e':pg=w.heap.size:=e;omega),?_,?_,fun i l hl => ?_⟩
    ·rw[HM.out]
     exact LVR.out.upd HU.out (fun g hg e=>by have:=HLG.out g hg;have e':g=w.heap.size:=e;omega)
    ·rw[HM.out]
     exact S.out.own.rd.upd HU.out (fun g hg e=>by have:=S.out.new g hg;have e':g=w.heap.size:=e;omega)
    ·obtain⟨u,r1,r2,r3⟩:=S.out.row i l (by have:=(List.getElem?_eq_some_iff.1 hl).1;rw[HM.out]at this;exact this) hl
     exact⟨u,r1,r2.upd HU.out (fun g hg e=>by have:=(r3 g hg).1;have e':g=w.heap.size:=e;omega)⟩
   ·exact((BR.out.setCell (Nat.le_refl _) _).setCell (Nat.le_refl _) _).setCell (Nat.le_refl _) _
end
end

end Go.Proofs.YtlhchkajjpefmaaGreatDoor
namespace Go.Proofs
open Go.Shelf
def Tryz.lays232_ren:Go.Shelf.Ren:=⟨fun | 232=>224 | n=>n,fun | 9=>9 | 5=>5 | 3=>3 | 4=>4 | n=>n,fun | n=>n⟩
theorem Tryz.lays232:Go.Proofs.Lays.n232 Tryz.prog Tryz.lays232_ren:={
 mixed:=by kernel_rfl
 f232:=Tryz.func224.trans (congrArg some (by kernel_rfl))
 t3:=Tryz.underlying3
 a3:=Tryz.isAgg3
 z3:=Tryz.sizeOf3
 v3:=Tryz.zeroValue3
 t4:=Tryz.underlying4
 a4:=Tryz.isAgg4
 z4:=Tryz.sizeOf4
 v4:=Tryz.zeroValue4
 t5:=Tryz.underlying5
 a5:=Tryz.isAgg5
 z5:=Tryz.sizeOf5
 v5:=Tryz.zeroValue5
 t9:=Tryz.underlying9
 a9:=Tryz.isAgg9
 z9:=Tryz.sizeOf9
 v9:=Tryz.zeroValue9}
open Go.RowKit in
theorem Tryz.strings_trimRightByte(s:ByteArray)(c:UInt8)(w:World)(hs:s.size<=9223372036854775807) :
  Calls Tryz.prog 224 #[.string s,.int .u8 c.toNat] w fun e w'=>e = .returned (.string ⟨(Lib.trimRightB s.data.toList c).toArray⟩)/\w'=w:=Any.strings_trimRightByte Tryz.lays232 s c w hs
def Tryz.lays162_ren:Go.Shelf.Ren:=⟨fun | 162=>203 | 232=>224 | 227=>225 | 234=>226 | 236=>227 | 228=>246 | 271=>247 | 151=>248 | 120=>259 | 197=>260 | 152=>261 | 260=>264 | 137=>265 | 119=>266 | 224=>267 | 225=>268 | 217=>269 | 266=>270 | n=>n,fun | 9=>9 | 4=>4 | 3=>3 | 5=>5 | 117=>302 | 116=>301 | 0=>0 | 124=>305 | 21=>21 | 105=>319 | 46=>203 | 119=>336 | 139=>339 | 138=>338 | n=>n,fun | 3=>1 | 4=>2 | n=>n⟩
theorem Tryz.lays162:Go.Proofs.Lays.n162 Tryz.prog Tryz.lays162_ren:={
 mixed:=by kernel_rfl
 f119:=Tryz.func266.trans (congrArg some (by kernel_rfl))
 f120:=Tryz.func259.trans (congrArg some (by kernel_rfl))
 f137:=Tryz.func265.trans (congrArg some (by kernel_rfl))
 f151:=Tryz.func248.trans (congrArg some (by kernel_rfl))
 f152:=Tryz.func261.trans (congrArg some (by kernel_rfl))
 f162:=Tryz.func203.trans (congrArg some (by kernel_rfl))
 f197:=Tryz.func260.trans (congrArg some (by kernel_rfl))
 f217:=Tryz.func269.trans (congrArg some (by kernel_rfl))
 f224:=Tryz.func267.trans (congrArg some (by kernel_rfl))
 f225:=Tryz.func268.trans (congrArg some (by kernel_rfl))
 f227:=Tryz.func225.trans (congrArg some (by kernel_rfl))
 f228:=Tryz.func246.trans (congrArg some (by kernel_rfl))
 f232:=Tryz.func224.trans (congrArg some (by kernel_rfl))
 f234:=Tryz.func226.trans (congrArg some (by kernel_rfl))
 f236:=Tryz.func227.trans (congrArg some (by kernel_rfl))
 f260:=Tryz.func264.trans (congrArg some (by kernel_rfl))
 f266:=Tryz.func270.trans (congrArg some (by kernel_rfl))
 f271:=Tryz.func247.trans (congrArg some (by kernel_rfl))
 t0:=Tryz.underlying0
 a0:=Tryz.isAgg0
 z0:=Tryz.sizeOf0
 v0:=Tryz.zeroValue0
 t3:=Tryz.underlying3
 a3:=Tryz.isAgg3
 z3:=Tryz.sizeOf3
 v3:=Tryz.zeroValue3
 t4:=Tryz.underlying4
 a4:=Tryz.isAgg4
 z4:=Tryz.sizeOf4
 v4:=Tryz.zeroValue4
 t5:=Tryz.underlying5
 a5:=Tryz.isAgg5
 z5:=Tryz.sizeOf5
 v5:=Tryz.zeroValue5
 t9:=Tryz.underlying9
 a9:=Tryz.isAgg9
 z9:=Tryz.sizeOf9
 v9:=Tryz.zeroValue9
 t21:=Tryz.underlying21
 a21:=Tryz.isAgg21
 z21:=Tryz.sizeOf21
 v21:=Tryz.zeroValue21
 t46:=Tryz.underlying203
 a46:=Tryz.isAgg203
 z46:=Tryz.sizeOf203
 v46:=Tryz.zeroValue203
 t105:=Tryz.underlying319
 a105:=Tryz.isAgg319
 z105:=Tryz.sizeOf319
 v105:=Tryz.zeroValue319
 t116:=Tryz.underlying301
 a116:=Tryz.isAgg301
 z116:=Tryz.sizeOf301
 t117:=Tryz.underlying302
 a117:=Tryz.isAgg302
 z117:=Tryz.sizeOf302
 v117:=Tryz.zeroValue302
 t119:=Tryz.underlying336
 a119:=Tryz.isAgg336
 z119:=Tryz.sizeOf336
 t124:=Tryz.underlying305
 a124:=Tryz.isAgg305
 z124:=Tryz.sizeOf305
 v124:=Tryz.zeroValue305
 t138:=Tryz.underlying338
 a138:=Tryz.isAgg338
 z138:=Tryz.sizeOf338
 v138:=Tryz.zeroValue338
 t139:=Tryz.underlying339
 a139:=Tryz.isAgg339
 z139:=Tryz.sizeOf339
 v139:=Tryz.zeroValue339
 g3:=by kernel_rfl
 g4:=by kernel_rfl}
open Go.RowKit in
theorem Tryz.strings_TrimRight_one(s:ByteArray)(c:UInt8)(hc:c.toNat<128)(w:World)(hs:s.size<=9223372036854775807) :
  Calls Tryz.prog 203 #[.string s,.string ⟨#[c]⟩] w fun e w'=>e = .returned (.string ⟨(Lib.trimRightB s.data.toList c).toArray⟩)/\w'=w:=Any.strings_TrimRight_one Tryz.lays162 s c hc w hs
def Tryz.lays119_ren:Go.Shelf.Ren:=⟨fun | 119=>266 | n=>n,fun | 21=>21 | 4=>4 | n=>n,fun | n=>n⟩
theorem Tryz.lays119:Go.Proofs.Lays.n119 Tryz.prog Tryz.lays119_ren:={
 mixed:=by kernel_rfl
 f119:=Tryz.func266.trans (congrArg some (by kernel_rfl))
 t4:=Tryz.underlying4
 a4:=Tryz.isAgg4
 z4:=Tryz.sizeOf4
 v4:=Tryz.zeroValue4
 t21:=Tryz.underlying21
 a21:=Tryz.isAgg21
 z21:=Tryz.sizeOf21
 v21:=Tryz.zeroValue21}
theorem Tryz.utf8_ValidRune(r:Int)(w:World) :
  Calls Tryz.prog 266 #[.int .i32 r] w fun e w'=>e = .returned (.bool (Lib.validRune r))/\w'=w:=Any.utf8_ValidRune Tryz.lays119 r w
def Tryz.lays120_ren:Go.Shelf.Ren:=⟨fun | 120=>259 | n=>n,fun | 5=>5 | 4=>4 | n=>n,fun | n=>n⟩
theorem Tryz.lays120:Go.Proofs.Lays.n120 Tryz.prog Tryz.lays120_ren:={
 mixed:=by kernel_rfl
 f120:=Tryz.func259.trans (congrArg some (by kernel_rfl))
 t4:=Tryz.underlying4
 a4:=Tryz.isAgg4
 z4:=Tryz.sizeOf4
 v4:=Tryz.zeroValue4
 t5:=Tryz.underlying5
 a5:=Tryz.isAgg5
 z5:=Tryz.sizeOf5
 v5:=Tryz.zeroValue5}
theorem Tryz.utf8_RuneStart(b:Int)(w:World)(h0:0<=b)(h1:b<256) :
  Calls Tryz.prog 259 #[.int .u8 b] w fun e w'=>e = .returned (.bool (Lib.runeStart b))/\w'=w:=Any.utf8_RuneStart Tryz.lays120 b w h0 h1
def Tryz.lays128_ren:Go.Shelf.Ren:=⟨fun | 128=>244 | n=>n,fun | 51=>208 | 3=>3 | 4=>4 | 46=>203 | 5=>5 | 9=>9 | n=>n,fun | n=>n⟩
theorem Tryz.lays128:Go.Proofs.Lays.n128 Tryz.prog Tryz.lays128_ren:={
 mixed:=by kernel_rfl
 f128:=Tryz.func244.trans (congrArg some (by kernel_rfl))
 t3:=Tryz.underlying3
 a3:=Tryz.isAgg3
 z3:=Tryz.sizeOf3
 v3:=Tryz.zeroValue3
 t4:=Tryz.underlying4
 a4:=Tryz.isAgg4
 z4:=Tryz.sizeOf4
 v4:=Tryz.zeroValue4
 t5:=Tryz.underlying5
 a5:=Tryz.isAgg5
 z5:=Tryz.sizeOf5
 v5:=Tryz.zeroValue5
 t9:=Tryz.underlying9
 a9:=Tryz.isAgg9
 z9:=Tryz.sizeOf9
 v9:=Tryz.zeroValue9
 t46:=Tryz.underlying203
 a46:=Tryz.isAgg203
 z46:=Tryz.sizeOf203
 v46:=Tryz.zeroValue203
 t51:=Tryz.underlying208
 a51:=Tryz.isAgg208
 z51:=Tryz.sizeOf208
 v51:=Tryz.zeroValue208}
theorem Tryz.bits_Len32(x:Int)(w:World)(h0:0<=x)(h1:x<=4294967295) :
  Calls Tryz.prog 244 #[.int .u32 x] w fun e w'=>e = .returned (.int .i64 (Lib.bitLen x.toNat))/\w'=w:=Any.bits_Len32 Tryz.lays128 x w h0 h1
def Tryz.lays125_ren:Go.Shelf.Ren:=⟨fun | 125=>221 | 128=>244 | 129=>245 | n=>n,fun | 46=>203 | 3=>3 | 51=>208 | 53=>31 | 4=>4 | 5=>5 | 9=>9 | n=>n,fun | n=>n⟩
theorem Tryz.lays125:Go.Proofs.Lays.n125 Tryz.prog Tryz.lays125_ren:={
 mixed:=by kernel_rfl
 f125:=Tryz.func221.trans (congrArg some (by kernel_rfl))
 f128:=Tryz.func244.trans (congrArg some (by kernel_rfl))
 f129:=Tryz.func245.trans (congrArg some (by kernel_rfl))
 t3:=Tryz.underlying3
 a3:=Tryz.isAgg3
 z3:=Tryz.sizeOf3
 v3:=Tryz.zeroValue3
 t4:=Tryz.underlying4
 a4:=Tryz.isAgg4
 z4:=Tryz.sizeOf4
 v4:=Tryz.zeroValue4
 t5:=Tryz.underlying5
 a5:=Tryz.isAgg5
 z5:=Tryz.sizeOf5
 v5:=Tryz.zeroValue5
 t9:=Tryz.underlying9
 a9:=Tryz.isAgg9
 z9:=Tryz.sizeOf9
 v9:=Tryz.zeroValue9
 t46:=Tryz.underlying203
 a46:=Tryz.isAgg203
 z46:=Tryz.sizeOf203
 v46:=Tryz.zeroValue203
 t51:=Tryz.underlying208
 a51:=Tryz.isAgg208
 z51:=Tryz.sizeOf208
 v51:=Tryz.zeroValue208
 t53:=Tryz.underlying31
 a53:=Tryz.isAgg31
 z53:=Tryz.sizeOf31
 v53:=Tryz.zeroValue31}
theorem Tryz.bits_Len(x:Int)(w:World)(h0:0<=x)(h1:x<=18446744073709551615) :
  Calls Tryz.prog 221 #[.int .u64 x] w fun e w'=>e = .returned (.int .i64 (Lib.bitLen x.toNat))/\w'=w:=Any.bits_Len Tryz.lays125 x w h0 h1
def Tryz.lays137_ren:Go.Shelf.Ren:=⟨fun | 137=>265 | 217=>269 | 266=>270 | n=>n,fun | 9=>9 | 5=>5 | 3=>3 | n=>n,fun | n=>n⟩
theorem Tryz.lays137:Go.Proofs.Lays.n137 Tryz.prog Tryz.lays137_ren:={
 mixed:=by kernel_rfl
 f137:=Tryz.func265.trans (congrArg some (by kernel_rfl))
 f217:=Tryz.func269.trans (congrArg some (by kernel_rfl))
 f266:=Tryz.func270.trans (congrArg some (by kernel_rfl))
 t3:=Tryz.underlying3
 a3:=Tryz.isAgg3
 z3:=Tryz.sizeOf3
 v3:=Tryz.zeroValue3
 t5:=Tryz.underlying5
 a5:=Tryz.isAgg5
 z5:=Tryz.sizeOf5
 v5:=Tryz.zeroValue5
 t9:=Tryz.underlying9
 a9:=Tryz.isAgg9
 z9:=Tryz.sizeOf9
 v9:=Tryz.zeroValue9}
open Go.RowKit in
theorem Tryz.strings_IndexByte(s:ByteArray)(c:Int)(w:World) :
  Calls Tryz.prog 265 #[.string s,.int .u8 c] w fun e w'=>e = .returned (.int .i64 (Lib.indexByte s.data.toList c.toNat.toUInt8))/\w'=w:=Any.strings_IndexByte Tryz.lays137 s c w
def Tryz.lays129_ren:Go.Shelf.Ren:=⟨fun | 129=>245 | n=>n,fun | 53=>31 | 3=>3 | 4=>4 | 46=>203 | 5=>5 | 9=>9 | n=>n,fun | n=>n⟩
theorem Tryz.lays129:Go.Proofs.Lays.n129 Tryz.prog Tryz.lays129_ren:={
 mixed:=by kernel_rfl
 f129:=Tryz.func245.trans (congrArg some (by kernel_rfl))
 t3:=Tryz.underlying3
 a3:=Tryz.isAgg3
 z3:=Tryz.sizeOf3
 v3:=Tryz.zeroValue3
 t4:=Tryz.underlying4
 a4:=Tryz.isAgg4
 z4:=Tryz.sizeOf4
 v4:=Tryz.zeroValue4
 t5:=Tryz.underlying5
 a5:=Tryz.isAgg5
 z5:=Tryz.sizeOf5
 v5:=Tryz.zeroValue5
 t9:=Tryz.underlying9
 a9:=Tryz.isAgg9
 z9:=Tryz.sizeOf9
 v9:=Tryz.zeroValue9
 t46:=Tryz.underlying203
 a46:=Tryz.isAgg203
 z46:=Tryz.sizeOf203
 v46:=Tryz.zeroValue203
 t53:=Tryz.underlying31
 a53:=Tryz.isAgg31
 z53:=Tryz.sizeOf31
 v53:=Tryz.zeroValue31}
theorem Tryz.bits_Len64(x:Int)(w:World)(h0:0<=x)(h1:x<=18446744073709551615) :
  Calls Tryz.prog 245 #[.int .u64 x] w fun e w'=>e = .returned (.int .i64 (Lib.bitLen x.toNat))/\w'=w:=Any.bits_Len64 Tryz.lays129 x w h0 h1
def Tryz.lays217_ren:Go.Shelf.Ren:=⟨fun | 217=>269 | 266=>270 | n=>n,fun | 9=>9 | 5=>5 | 3=>3 | n=>n,fun | n=>n⟩
theorem Tryz.lays217:Go.Proofs.Lays.n217 Tryz.prog Tryz.lays217_ren:={
 mixed:=by kernel_rfl
 f217:=Tryz.func269.trans (congrArg some (by kernel_rfl))
 f266:=Tryz.func270.trans (congrArg some (by kernel_rfl))
 t3:=Tryz.underlying3
 a3:=Tryz.isAgg3
 z3:=Tryz.sizeOf3
 v3:=Tryz.zeroValue3
 t5:=Tryz.underlying5
 a5:=Tryz.isAgg5
 z5:=Tryz.sizeOf5
 v5:=Tryz.zeroValue5
 t9:=Tryz.underlying9
 a9:=Tryz.isAgg9
 z9:=Tryz.sizeOf9
 v9:=Tryz.zeroValue9}
open Go.RowKit Go.Lib in
theorem Tryz.stringslite_IndexByte(s:ByteArray)(c:Int)(w:World) :
  Calls Tryz.prog 269 #[.string s,.int .u8 c] w fun e w'=>e = .returned (.int .i64 (Lib.indexByte s.data.toList c.toNat.toUInt8))/\w'=w:=Any.stringslite_IndexByte Tryz.lays217 s c w
def Tryz.lays224_ren:Go.Shelf.Ren:=⟨fun | 224=>267 | n=>n,fun | 3=>3 | n=>n,fun | n=>n⟩
theorem Tryz.lays224:Go.Proofs.Lays.n224 Tryz.prog Tryz.lays224_ren:={
 mixed:=by kernel_rfl
 f224:=Tryz.func267.trans (congrArg some (by kernel_rfl))
 t3:=Tryz.underlying3
 a3:=Tryz.isAgg3
 z3:=Tryz.sizeOf3
 v3:=Tryz.zeroValue3}
open Go.RowKit Go.Lib in
theorem Tryz.bytealg_Cutover(n:Int)(h0:0<=n)(h1:n<4611686018427387904)(w:World) :
  Calls Tryz.prog 267 #[.int .i64 n] w fun e w'=>e = .returned (.int .i64 ((n+16)/8))/\w'=w:=Any.bytealg_Cutover Tryz.lays224 n h0 h1 w
def Tryz.lays152_ren:Go.Shelf.Ren:=⟨fun | 152=>261 | 137=>265 | 119=>266 | 224=>267 | 225=>268 | 217=>269 | 266=>270 | n=>n,fun | 9=>9 | 21=>21 | 3=>3 | 4=>4 | 5=>5 | 0=>0 | 46=>203 | n=>n,fun | n=>n⟩
theorem Tryz.lays152:Go.Proofs.Lays.n152 Tryz.prog Tryz.lays152_ren:={
 mixed:=by kernel_rfl
 f119:=Tryz.func266.trans (congrArg some (by kernel_rfl))
 f137:=Tryz.func265.trans (congrArg some (by kernel_rfl))
 f152:=Tryz.func261.trans (congrArg some (by kernel_rfl))
 f217:=Tryz.func269.trans (congrArg some (by kernel_rfl))
 f224:=Tryz.func267.trans (congrArg some (by kernel_rfl))
 f225:=Tryz.func268.trans (congrArg some (by kernel_rfl))
 f266:=Tryz.func270.trans (congrArg some (by kernel_rfl))
 t0:=Tryz.underlying0
 a0:=Tryz.isAgg0
 z0:=Tryz.sizeOf0
 v0:=Tryz.zeroValue0
 t3:=Tryz.underlying3
 a3:=Tryz.isAgg3
 z3:=Tryz.sizeOf3
 v3:=Tryz.zeroValue3
 t4:=Tryz.underlying4
 a4:=Tryz.isAgg4
 z4:=Tryz.sizeOf4
 v4:=Tryz.zeroValue4
 t5:=Tryz.underlying5
 a5:=Tryz.isAgg5
 z5:=Tryz.sizeOf5
 v5:=Tryz.zeroValue5
 t9:=Tryz.underlying9
 a9:=Tryz.isAgg9
 z9:=Tryz.sizeOf9
 v9:=Tryz.zeroValue9
 t21:=Tryz.underlying21
 a21:=Tryz.isAgg21
 z21:=Tryz.sizeOf21
 v21:=Tryz.zeroValue21
 t46:=Tryz.underlying203
 a46:=Tryz.isAgg203
 z46:=Tryz.sizeOf203
 v46:=Tryz.zeroValue203}
open Go.RowKit Go.Lib in
theorem Tryz.strings_IndexRune_ascii(s:ByteArray)(r:Int)(w:World)(h0:0<=r)(h1:r<128) :
  Calls Tryz.prog 261 #[.string s,.int .i32 r] w fun e w'=>e = .returned (.int .i64 (Lib.indexByte s.data.toList r.toNat.toUInt8))/\w'=w:=Any.strings_IndexRune_ascii Tryz.lays152 s r w h0 h1
def Tryz.lays151_ren:Go.Shelf.Ren:=⟨fun | 151=>248 | 152=>261 | 137=>265 | 119=>266 | 224=>267 | 225=>268 | 217=>269 | 266=>270 | n=>n,fun | 9=>9 | 21=>21 | 4=>4 | 3=>3 | 5=>5 | 0=>0 | 46=>203 | n=>n,fun | n=>n⟩
theorem Tryz.lays151:Go.Proofs.Lays.n151 Tryz.prog Tryz.lays151_ren:={
 mixed:=by kernel_rfl
 f119:=Tryz.func266.trans (congrArg some (by kernel_rfl))
 f137:=Tryz.func265.trans (congrArg some (by kernel_rfl))
 f151:=Tryz.func248.trans (congrArg some (by kernel_rfl))
 f152:=Tryz.func261.trans (congrArg some (by kernel_rfl))
 f217:=Tryz.func269.trans (congrArg some (by kernel_rfl))
 f224:=Tryz.func267.trans (congrArg some (by kernel_rfl))
 f225:=Tryz.func268.trans (congrArg some (by kernel_rfl))
 f266:=Tryz.func270.trans (congrArg some (by kernel_rfl))
 t0:=Tryz.underlying0
 a0:=Tryz.isAgg0
 z0:=Tryz.sizeOf0
 v0:=Tryz.zeroValue0
 t3:=Tryz.underlying3
 a3:=Tryz.isAgg3
 z3:=Tryz.sizeOf3
 v3:=Tryz.zeroValue3
 t4:=Tryz.underlying4
 a4:=Tryz.isAgg4
 z4:=Tryz.sizeOf4
 v4:=Tryz.zeroValue4
 t5:=Tryz.underlying5
 a5:=Tryz.isAgg5
 z5:=Tryz.sizeOf5
 v5:=Tryz.zeroValue5
 t9:=Tryz.underlying9
 a9:=Tryz.isAgg9
 z9:=Tryz.sizeOf9
 v9:=Tryz.zeroValue9
 t21:=Tryz.underlying21
 a21:=Tryz.isAgg21
 z21:=Tryz.sizeOf21
 v21:=Tryz.zeroValue21
 t46:=Tryz.underlying203
 a46:=Tryz.isAgg203
 z46:=Tryz.sizeOf203
 v46:=Tryz.zeroValue203}
open Go.RowKit Go.Lib in
theorem Tryz.strings_ContainsRune_ascii(s:ByteArray)(r:Int)(w:World)(h0:0<=r)(h1:r<128) :
  Calls Tryz.prog 248 #[.string s,.int .i32 r] w fun e w'=>e = .returned (.bool (decide (0<=Lib.indexByte s.data.toList r.toNat.toUInt8)))/\w'=w:=Any.strings_ContainsRune_ascii Tryz.lays151 s r w h0 h1
def Tryz.lays227_ren:Go.Shelf.Ren:=⟨fun | 227=>225 | n=>n,fun | 9=>9 | 116=>301 | 4=>4 | 0=>0 | 3=>3 | 5=>5 | n=>n,fun | n=>n⟩
theorem Tryz.lays227:Go.Proofs.Lays.n227 Tryz.prog Tryz.lays227_ren:={
 mixed:=by kernel_rfl
 f227:=Tryz.func225.trans (congrArg some (by kernel_rfl))
 t0:=Tryz.underlying0
 a0:=Tryz.isAgg0
 z0:=Tryz.sizeOf0
 v0:=Tryz.zeroValue0
 t3:=Tryz.underlying3
 a3:=Tryz.isAgg3
 z3:=Tryz.sizeOf3
 v3:=Tryz.zeroValue3
 t4:=Tryz.underlying4
 a4:=Tryz.isAgg4
 z4:=Tryz.sizeOf4
 v4:=Tryz.zeroValue4
 t5:=Tryz.underlying5
 a5:=Tryz.isAgg5
 z5:=Tryz.sizeOf5
 v5:=Tryz.zeroValue5
 t9:=Tryz.underlying9
 a9:=Tryz.isAgg9
 z9:=Tryz.sizeOf9
 v9:=Tryz.zeroValue9
 t116:=Tryz.underlying301
 a116:=Tryz.isAgg301
 z116:=Tryz.sizeOf301}
open Go.RowKit Go.Lib in
theorem Tryz.strings_makeASCIISet(hv116:∀ w,(zeroValue 301).run Tryz.prog w = .ok (.agg (Array.replicate 256 (.bool false))) w)(chars:ByteArray)(w:World)(hs:chars.size<4294967281)(hascii:∀ (j:Nat) b,chars.data.toList[j]? = some b->b.toNat<128) :
  Calls Tryz.prog 225 #[.string chars] w fun e w'=>e = .returned (.tuple #[.agg (Lib.setCells chars.data.toList),.bool true])/\w'=w.alloc (.cells (Lib.setCells chars.data.toList) 301):=Any.strings_makeASCIISet Tryz.lays227 hv116 (by kernel_rfl) chars w hs hascii
def Tryz.lays228_ren:Go.Shelf.Ren:=⟨fun | 228=>246 | n=>n,fun | 124=>305 | 5=>5 | 4=>4 | 0=>0 | 116=>301 | n=>n,fun | n=>n⟩
theorem Tryz.lays228:Go.Proofs.Lays.n228 Tryz.prog Tryz.lays228_ren:={
 mixed:=by kernel_rfl
 f228:=Tryz.func246.trans (congrArg some (by kernel_rfl))
 t0:=Tryz.underlying0
 a0:=Tryz.isAgg0
 z0:=Tryz.sizeOf0
 v0:=Tryz.zeroValue0
 t4:=Tryz.underlying4
 a4:=Tryz.isAgg4
 z4:=Tryz.sizeOf4
 v4:=Tryz.zeroValue4
 t5:=Tryz.underlying5
 a5:=Tryz.isAgg5
 z5:=Tryz.sizeOf5
 v5:=Tryz.zeroValue5
 t116:=Tryz.underlying301
 a116:=Tryz.isAgg301
 z116:=Tryz.sizeOf301
 t124:=Tryz.underlying305
 a124:=Tryz.isAgg305
 z124:=Tryz.sizeOf305
 v124:=Tryz.zeroValue305}
open Go.RowKit Go.Lib in
theorem Tryz.asciiSet_contains(b:Nat)(x:UInt8)(v:Bool)(w:World)(hc:w.cell? ⟨b,x.toNat,none⟩=some (.bool v)) :
  Calls Tryz.prog 246 #[.pointer (some ⟨b,0,none⟩),.int .u8 x.toNat] w fun e w'=>e = .returned (.bool v)/\w'=w:=Any.asciiSet_contains Tryz.lays228 b x v w hc
def Tryz.lays264_ren:Go.Shelf.Ren:=⟨fun | 264=>131 | n=>n,fun | 53=>31 | 46=>203 | n=>n,fun | n=>n⟩
theorem Tryz.lays264:Go.Proofs.Lays.n264 Tryz.prog Tryz.lays264_ren:={
 mixed:=by kernel_rfl
 f264:=Tryz.func131.trans (congrArg some (by kernel_rfl))
 t46:=Tryz.underlying203
 a46:=Tryz.isAgg203
 z46:=Tryz.sizeOf203
 v46:=Tryz.zeroValue203
 t53:=Tryz.underlying31
 a53:=Tryz.isAgg31
 z53:=Tryz.sizeOf31
 v53:=Tryz.zeroValue31}
open Go.RowKit Go.Lib in
theorem Tryz.bits_Mul64(x y:Nat)(hx:x<18446744073709551616)(hy:y<18446744073709551616)(w:World) :
  Calls Tryz.prog 131 #[.int .u64 x,.int .u64 y] w fun e w'=>e = .returned (.tuple #[.int .u64 ((x*y/18446744073709551616:Nat):Int),.int .u64 ((x*y%18446744073709551616:Nat):Int)])/\w'=w:=Any.bits_Mul64 Tryz.lays264 x y hx hy w
def Tryz.lays260_ren:Go.Shelf.Ren:=⟨fun | 260=>264 | n=>n,fun | 9=>9 | 21=>21 | 3=>3 | 4=>4 | 5=>5 | 119=>336 | 0=>0 | 46=>203 | 139=>339 | 138=>338 | n=>n,fun | 3=>1 | 4=>2 | n=>n⟩
theorem Tryz.lays260:Go.Proofs.Lays.n260 Tryz.prog Tryz.lays260_ren:={
 mixed:=by kernel_rfl
 f260:=Tryz.func264.trans (congrArg some (by kernel_rfl))
 t0:=Tryz.underlying0
 a0:=Tryz.isAgg0
 z0:=Tryz.sizeOf0
 v0:=Tryz.zeroValue0
 t3:=Tryz.underlying3
 a3:=Tryz.isAgg3
 z3:=Tryz.sizeOf3
 v3:=Tryz.zeroValue3
 t4:=Tryz.underlying4
 a4:=Tryz.isAgg4
 z4:=Tryz.sizeOf4
 v4:=Tryz.zeroValue4
 t5:=Tryz.underlying5
 a5:=Tryz.isAgg5
 z5:=Tryz.sizeOf5
 v5:=Tryz.zeroValue5
 t9:=Tryz.underlying9
 a9:=Tryz.isAgg9
 z9:=Tryz.sizeOf9
 v9:=Tryz.zeroValue9
 t21:=Tryz.underlying21
 a21:=Tryz.isAgg21
 z21:=Tryz.sizeOf21
 v21:=Tryz.zeroValue21
 t46:=Tryz.underlying203
 a46:=Tryz.isAgg203
 z46:=Tryz.sizeOf203
 v46:=Tryz.zeroValue203
 t119:=Tryz.underlying336
 a119:=Tryz.isAgg336
 z119:=Tryz.sizeOf336
 t138:=Tryz.underlying338
 a138:=Tryz.isAgg338
 z138:=Tryz.sizeOf338
 v138:=Tryz.zeroValue338
 t139:=Tryz.underlying339
 a139:=Tryz.isAgg339
 z139:=Tryz.sizeOf339
 v139:=Tryz.zeroValue339
 g3:=by kernel_rfl
 g4:=by kernel_rfl}
open Go.RowKit Go.Lib in
theorem Tryz.utf8_decodeRuneInStringSlow(s:ByteArray)(w:World)(hT:Lib.Utf8Tabs 1 2 w) :
  Calls Tryz.prog 264 #[.string s] w fun e w'=>e = .returned (.tuple #[.int .i32 (Lib.decodeGo s).1,.int .i64 (Lib.decodeGo s).2])/\Below w.heap.size w w':=Any.utf8_decodeRuneInStringSlow Tryz.lays260 s w hT
end Go.Proofs
namespace Go.Proofs.YtlhchkajjpefmaaGreatDoor
open Lib(hid)
open Go.RowKit Go.Proofs.Tryz
end Go.Proofs.YtlhchkajjpefmaaGreatDoor
