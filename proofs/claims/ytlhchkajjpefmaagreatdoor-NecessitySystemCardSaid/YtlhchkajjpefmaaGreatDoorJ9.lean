import Derived.Test.YtlhchkajjpefmaaGreatDoorJ7
import Derived.Test.YtlhchkajjpefmaaGreatDoorJ8
import Derived.Laws.Closers25b
import Derived.Laws.Bits64b
import Derived.Lib.ItoaNum
set_option maxHeartbeats 16000000
set_option maxRecDepth 100000
namespace Go.Proofs.YtlhchkajjpefmaaGreatDoor
section
open Go.RowKit
theorem list_eq_at0{l m:List Int}(hl:l.length=m.length)(h:∀ i,i<l.length→at0 l i=at0 m i):l=m:=by
 refine List.ext_getElem hl fun i h1 h2 => ?_
 have:=h i h1;simpa [at0,List.getD,h1,h2]using this
theorem at0_mem{l:List Int}{i:Nat}(h:i<l.length):at0 l i∈l:=by
 have:at0 l i=l[i]:=by simp[at0,List.getD,h]
 rw[this];exact List.getElem_mem h
theorem at0_take(l:List Int)(n i:Nat)(h:i<n):at0 (l.take n) i=at0 l i:=by simp[at0,h]
theorem at0_drop(l:List Int)(n i:Nat):at0 (l.drop n) i=at0 l (n+i):=by simp[at0,List.getD,List.getElem?_drop]
theorem Mixed.mid{xs ys:List Int}{a b:Nat}(h:Mixed xs ys a b)(hab:a≤b)(hb:b≤xs.length):((ys.drop a).take (b-a)).Perm ((xs.drop a).take (b-a)):=by
 have hl:=h.len;have e1:ys.take a=xs.take a:=by
  refine list_eq_at0 (by simp[hl]) fun i hi => ?_
  have:i<a:=by simp at hi;omega
  rw[at0_take _ _ _ this,at0_take _ _ _ this];exact h.out i (.inl this)
 have e2:ys.drop b=xs.drop b:=by
  refine list_eq_at0 (by simp[hl]) fun i _ => ?_
  rw[at0_drop,at0_drop];exact h.out _ (.inr (by omega))
 have s:∀ l:List Int,l=l.take a++((l.drop a).take (b-a)++l.drop b):=fun l=>by
  have h1:(l.drop a).take (b-a)++l.drop b=l.drop a:=by
   have:=List.take_append_drop (b-a) (l.drop a);rw[List.drop_drop,show a+(b-a)=b by omega]at this;exact this
  rw[h1,List.take_append_drop]
 have hp:=h.perm;rw[s ys,s xs,e1,e2]at hp;exact(List.perm_append_right_iff _).1 ((List.perm_append_left_iff _).1 hp)
theorem Mixed.all{xs ys:List Int}{a b:Nat}(h:Mixed xs ys a b)(hb:b≤xs.length){P:Int→Prop}(hx:∀ q,a≤q→q<b→P (at0 xs q)):∀ q,a≤q→q<b→P (at0 ys q):=by
 intro q h1 h2;have hm:at0 ys q∈(ys.drop a).take (b-a):=by
  have e:at0 ((ys.drop a).take (b-a)) (q-a)=at0 ys q:=by rw[at0_take _ _ _ (by omega),at0_drop,show a+(q-a)=q by omega]
  rw[← e];exact at0_mem (by have:=h.len;simp;omega)
 have hm2:=(h.mid (by omega) hb).mem_iff.1 hm;obtain⟨i,hi,e⟩:=List.mem_iff_getElem.1 hm2;have hi2:i<b-a∧a+i<xs.length:=by simp at hi;omega
 have e3:at0 xs (a+i)=at0 ys q:=by
  rw[← e];simp[at0,List.getD,hi2.2]
 rw[← e3];exact hx _ (by omega) (by omega)
def Sand(l:List Int)(a0 a b b0:Nat):Prop:=∀ p q,a0≤p+1→p<q→q<b0→(p<a∨b≤q)→at0 l p≤at0 l q
def LowB(l:List Int)(a b:Nat):Prop:=∀ q,a≤q→q<b→0<a→at0 l (a-1)≤at0 l q
theorem Sand.start{l:List Int}{a b:Nat}(h:LowB l a b):Sand l a a b b:=fun p q h1 h2 h3 h4=>by
 have e:p=a-1:=by omega
 subst e;exact h q (by omega) h3 (by omega)
theorem Sand.low{l:List Int}{a0 a b b0:Nat}(h:Sand l a0 a b b0)(h1:a0≤a)(h2:b≤b0):LowB l a b:=fun q h3 h4 h5=>h (a-1) q (by omega) (by omega) (by omega) (.inl (by omega))
theorem Sand.mix{l m:List Int}{a0 a b b0:Nat}(h:Sand l a0 a b b0)(g1:a0≤a)(g2:b≤b0)(hm:Mixed l m a b)(hb:b≤l.length):Sand m a0 a b b0:=by
 intro p q h1 h2 h3 h4
 rcases Nat.lt_or_ge p a with hp | hp
 ·rw[hm.out p (.inl hp)]
  by_cases hq:a≤q∧q<b
  ·exact hm.all hb (P:=fun x=>at0 l p≤x) (fun r h5 h6=>h p r h1 (by omega) (by omega) (.inl hp)) q hq.1 hq.2
  ·rw[hm.out q (by omega)];exact h p q h1 h2 h3 (.inl hp)
 ·have hq:b≤q:=by omega
  rw[hm.out q (.inr hq)]
  by_cases hpb:p<b
  ·exact hm.all hb (P:=fun x=>x≤at0 l q) (fun r h5 h6=>h r q (by omega) (by omega) h3 (.inr hq)) p hp hpb
  ·rw[hm.out p (.inr (by omega))];exact h p q h1 h2 h3 (.inr hq)
theorem Sand.done{l:List Int}{a0 a b b0:Nat}(h:Sand l a0 a b b0)(ha:ascOn l a b):ascOn l a0 b0:=fun p q h1 h2 h3=>by
 by_cases hh:p<a∨b≤q
 ·exact h p q (by omega) h2 h3 hh
 ·exact ha p q (by omega) h2 (by omega)
def Parted(l:List Int)(a m b:Nat):Prop:=a≤m∧m<b∧(∀ q,a≤q→q<m→at0 l q≤at0 l m)∧∀ q,m<q→q<b→at0 l m≤at0 l q
theorem Parted.lowR{l:List Int}{a m b:Nat}(h:Parted l a m b):LowB l (m+1) b:=fun q h1 h2 _=>h.2.2.2 q (by omega) h2
theorem Sand.lowL{l:List Int}{a0 a m b b0:Nat}(h:Sand l a0 a b b0)(hp:Parted l a m b)(h1:a0≤a)(h2:b≤b0):LowB l a m:=fun q h3 h4 h5=>h.low h1 h2 q h3 (by have:=hp.2.1;omega) h5
theorem Sand.left{l m:List Int}{a0 a k b b0:Nat}(h:Sand l a0 a b b0)(g1:a0≤a)(g2:b≤b0)(hp:Parted l a k b)(hm:Mixed l m a k)(ha:ascOn m a k)(hb:b≤l.length):Sand m a0 (k+1) b b0:=by
 obtain⟨p1,p2,p3,p4⟩:=hp;have hs:=h.mix g1 g2 (hm.mono (Nat.le_refl _) (Nat.le_of_lt p2)) hb;have hk:at0 m k=at0 l k:=hm.out k (.inr (Nat.le_refl _));have hlo:∀ q,a≤q→q<k→at0 m q≤at0 m k:=by rw[hk];exact hm.all (by omega) (P:=fun x=>x≤at0 l k) p3
 intro p q h1 h2 h3 h4
 by_cases hh:p<a∨b≤q
 ·exact hs p q h1 h2 h3 hh
 ·have hp2:p≤k:=by omega
  by_cases hqk:q<k
  ·exact ha p q (by omega) h2 hqk
  ·by_cases hpk:p=k
   ·subst hpk;rw[hk,hm.out q (.inr (by omega))];exact p4 q h2 (by omega)
   ·have e1:=hlo p (by omega) (by omega)
    by_cases hqe:q=k
    ·rw[hqe];exact e1
    ·have e2:=p4 q (by omega) (by omega)
     rw[← hk,← hm.out q (.inr (by omega))]at e2;exact Int.le_trans e1 e2
theorem Sand.right{l m:List Int}{a0 a k b b0:Nat}(h:Sand l a0 a b b0)(g1:a0≤a)(g2:b≤b0)(hp:Parted l a k b)(hm:Mixed l m (k+1) b)(ha:ascOn m (k+1) b)(hb:b≤l.length):Sand m a0 a k b0:=by
 obtain⟨p1,p2,p3,p4⟩:=hp;have hs:=h.mix g1 g2 (hm.mono (by omega) (Nat.le_refl _)) hb;have hk:at0 m k=at0 l k:=hm.out k (.inl (by omega));have hhi:∀ q,k+1≤q→q<b→at0 m k≤at0 m q:=by rw[hk];exact hm.all hb (P:=fun x=>at0 l k≤x) (fun q h1 h2=>p4 q (by omega) h2)
 intro p q h1 h2 h3 h4
 by_cases hh:p<a∨b≤q
 ·exact hs p q h1 h2 h3 hh
 ·have hq2:k≤q:=by omega
  by_cases hpk:k<p
  ·exact ha p q (by omega) h2 (by omega)
  ·by_cases hqk:q=k
   ·subst hqk;rw[hk,hm.out p (.inl (by omega))];exact p3 p (by omega) h2
   ·have e2:=hhi q (by omega) (by omega)
    by_cases hpe:p=k
    ·rw[hpe];exact e2
    ·have e1:=p3 p (by omega) (by omega)
     rw[← hk,← hm.out p (.inl (by omega))]at e1;exact Int.le_trans e1 e2
def PartedEq(l:List Int)(a m b:Nat)(x:Int):Prop:=a<m∧m≤b∧∀ q,a≤q→q<m→at0 l q≤x
theorem Sand.eq{l m:List Int}{a0 a k b b0:Nat}{x:Int}(h:Sand l a0 a b b0)(h1:a0≤a)(h2:b≤b0)(hm:Mixed l m a b)(hp:PartedEq m a k b x)(hx:x≤at0 l (a-1))(ha:0<a)(hb:b≤l.length):Sand m a0 k b b0:=by
 obtain⟨p1,p2,p3⟩:=hp;have hs:=h.mix h1 h2 hm hb;have hlo:=hm.all hb (P:=fun y=>at0 l (a-1)≤y) (fun q h3 h4=>h.low h1 h2 q h3 h4 ha);intro p q h3 h4 h5 h6
 by_cases hh:p<a∨b≤q
 ·exact hs p q h3 h4 h5 hh
 ·exact Int.le_trans (p3 p (by omega) (by omega)) (Int.le_trans hx (hlo q (by omega) (by omega)))
def HeapBut(l:List Int)(f lo n r:Nat):Prop:=(∀ i c,lo≤i→i≠r→(c=2*i+1∨c=2*i+2)→c<n→at0 l (f+c)≤at0 l (f+i)) ∧
 ∀ i c,lo≤i→(r=2*i+1∨r=2*i+2)→(c=2*r+1∨c=2*r+2)→c<n→at0 l (f+c)≤at0 l (f+i)
def Heap(l:List Int)(f lo n:Nat):Prop:=∀ i c,lo≤i→(c=2*i+1∨c=2*i+2)→c<n→at0 l (f+c)≤at0 l (f+i)
theorem Heap.but{l:List Int}{f lo n:Nat}(h:Heap l f (lo+1) n):HeapBut l f lo n lo:=⟨fun i c h1 h2 h3 h4=>h i c (by omega) h3 h4,fun i c h1 h2 h3 h4=>by omega⟩
theorem HeapBut.stop{l:List Int}{f lo n r:Nat}(h:HeapBut l f lo n r)(hr:∀ c,(c=2*r+1∨c=2*r+2)→c<n→at0 l (f+c)≤at0 l (f+r)):Heap l f lo n:=fun i c h1 h2 h3=>by
 by_cases e:i=r
 ·subst e;exact hr c h2 h3
 ·exact h.1 i c h1 e h2 h3
theorem HeapBut.step{l:List Int}{f lo n r k:Nat}(h:HeapBut l f lo n r)(hlo:lo≤r)(hk:k=2*r+1∨k=2*r+2)(hkn:k<n)(hfn:f+n≤l.length)
  (hmax:∀ c,(c=2*r+1∨c=2*r+2)→c<n→at0 l (f+c)≤at0 l (f+k)) (hlt:at0 l (f+r)<at0 l (f+k)):HeapBut (swp l (f+r) (f+k)) f lo n k:=by
 have e:=fun q=>at0_swp l (f+r) (f+k) q (by omega) (by omega)
 refine⟨fun i c h1 h2 h3 h4 => ?_,fun i c h1 h2 h3 h4 => ?_⟩
 ·rw[e,e]
  by_cases hir:i=r
  ·subst hir
   rw[if_neg (show ¬ f+i=f+k by omega),if_pos (show f+i=f+i from rfl)]
   by_cases hck:c=k
   ·rw[if_pos (by omega)];omega
   ·rw[if_neg (by omega),if_neg (by omega)];exact hmax c h3 h4
  ·rw[if_neg (show ¬ f+i=f+k by omega),if_neg (show ¬ f+i=f+r by omega)]
   by_cases hcr:c=r
   ·subst hcr
    rw[if_neg (by omega),if_pos rfl];exact h.2 i k h1 h3 hk hkn
   ·rw[if_neg (show ¬ f+c=f+k by omega),if_neg (by omega)];exact h.1 i c h1 hir h3 h4
 ·have hi:i=r:=by omega
  subst hi;rw[e,e,if_neg (show ¬ f+i=f+k by omega),if_pos rfl,if_neg (by omega),if_neg (by omega)];exact h.1 k c (by omega) (by omega) h3 h4
theorem Heap.root{l:List Int}{f n:Nat}(h:Heap l f 0 n):∀ k,k<n→at0 l (f+k)≤at0 l f:=by
 intro k
 induction k using Nat.strongRecOn with
 | ind k ih=>
  intro hk
  by_cases h0:k=0
  ·subst h0;simp
  ·have h1:=h ((k-1)/2) k (Nat.zero_le _) (by omega) hk
   exact Int.le_trans h1 (ih ((k-1)/2) (by omega) (by omega))
theorem Heap.leaves(l:List Int)(f n:Nat):Heap l f ((n-1)/2+1) n:=fun i c h1 h2 h3=>by omega
structure Popped(l:List Int)(f k n:Nat):Prop where
 heap:Heap l f 0 k
 asc:ascOn l (f+k) (f+n)
 big:∀ p q,f≤p→p<f+k→f+k≤q→q<f+n→at0 l p≤at0 l q
theorem Popped.start{l:List Int}{f n:Nat}(h:Heap l f 0 n):Popped l f n n:=⟨h,fun p q h1 h2 h3=>by omega,fun p q _ _ h1 h2=>by omega⟩
theorem Popped.step{l m:List Int}{f k n:Nat}(h:Popped l f (k+1) n)(hk:k+1≤n)(hn:f+n≤l.length)(hm:Mixed (swp l f (f+k)) m f (f+k))(hh:Heap m f 0 k):Popped m f k n:=by
 have e:=fun q=>at0_swp l f (f+k) q (by omega) (by omega)
 have hroot:=h.heap.root;have hm':∀ p,p<f∨f+k≤p→at0 m p=at0 (swp l f (f+k)) p:=hm.out;have hK:at0 m (f+k)=at0 l f:=by rw[hm' _ (.inr (Nat.le_refl _)),e,if_pos rfl]
 have hQ:∀ q,f+k<q→at0 m q=at0 l q:=fun q hq=>by rw[hm' _ (.inr (by omega)),e,if_neg (by omega),if_neg (by omega)]
 have hsw:∀ p,f≤p→p<f+k→∃ r,f≤r∧r<f+(k+1)∧at0 (swp l f (f+k)) p=at0 l r:=fun p h1 h2=>by
  rw[e,if_neg (by omega)]
  by_cases ef:p=f
  ·rw[if_pos ef];exact⟨f+k,by omega,by omega,rfl⟩
  ·rw[if_neg ef];exact⟨p,by omega,by omega,rfl⟩
 refine⟨hh,fun p q h1 h2 h3 => ?_,fun p q h1 h2 h3 h4 => ?_⟩
 ·rw[hQ q (by omega)]
  by_cases ep:p=f+k
  ·subst ep;rw[hK];exact h.big f q (Nat.le_refl _) (by omega) (by omega) h3
  ·rw[hQ p (by omega)];exact h.asc p q (by omega) h2 h3
 ·have hlen:f+k≤(swp l f (f+k)).length:=by rw[swp_length];omega
  refine hm.all hlen (P:=fun x=>x≤at0 m q) (fun r h5 h6 => ?_) p h1 h2
  obtain⟨r',h7,h8,h9⟩:=hsw r h5 h6;rw[h9]
  by_cases eq:q=f+k
  ·subst eq;rw[hK]
   have:=hroot (r'-f) (by omega);rw[show f+(r'-f)=r' by omega]at this;exact this
  ·rw[hQ q (by omega)];exact h.big r' q h7 h8 (by omega) h4
theorem Popped.done{l:List Int}{f n:Nat}(h:Popped l f 0 n):ascOn l f (f+n):=fun p q h1 h2 h3=>h.asc p q (by omega) h2 h3
end

section
open Go.RowKit
section
variable{w:World}
structure MixSt(w:World)(g o c:Nat)(xs:List Int)(a b:Nat)(ys:List Int)(wr:World):Prop where
 mix:Mixed xs ys a b
 own:WrU wr g o c ys
 upd:Upd (fun k=>k=g) w wr
variable{g o c a b:Nat}{xs ys zs:List Int}{wr:World}
theorem MixSt.refl(h:WrU w g o c xs)(a b:Nat):MixSt w g o c xs a b xs w:=⟨Mixed.refl _ _ _,h,Upd.refl _ _⟩
theorem MixSt.len(h:MixSt w g o c xs a b ys wr):ys.length=xs.length:=h.mix.len
theorem MixSt.drewN(h:MixSt w g o c xs a b ys wr)(n:Nat):MixSt w g o c xs a b ys (wr.drewN n):=⟨h.mix,h.own.drewN n,⟨h.upd.os,h.upd.tape,h.upd.output,h.upd.size,h.upd.block⟩⟩
theorem MixSt.swap(h:MixSt w g o c xs a b ys wr)(i j:Nat)(h1:a≤i)(h2:i<b)(h3:a≤j)(h4:j<b)(hb:b≤xs.length) :
  MixSt w g o c xs a b (swp ys i j) ((wr.setCell ⟨g,o+i,none⟩ (.int .u64 (at0 ys j))).setCell ⟨g,o+j,none⟩ (.int .u64 (at0 ys i))).drew:=by
 have hl:=h.len;refine⟨h.mix.trans (swp_mixed ys i j a b (by omega) (by omega) h1 h2 h3 h4),?_,((h.upd.setCell (p:=⟨g,o+i,none⟩) (fun _=>rfl) _).setCell (p:=⟨g,o+j,none⟩) (fun _=>rfl) _).drew⟩
 exact((h.own.set i (by omega) _).set j (by rw[List.length_set];omega) _).drew
theorem MixSt.trans{w1 w2:World}(h:MixSt w g o c xs a b ys w1)(k:MixSt w1 g o c ys a b zs w2):MixSt w g o c xs a b zs w2:=⟨h.mix.trans k.mix,k.own,h.upd.trans k.upd (fun _ _ h=>h)⟩
theorem MixSt.mono{a' b':Nat}(h:MixSt w g o c xs a b ys wr)(h1:a'≤a)(h2:b≤b'):MixSt w g o c xs a' b' ys wr:=⟨h.mix.mono h1 h2,h.own,h.upd⟩
theorem MixSt.later{w1:World}(h:MixSt w g o c xs a b ys wr)(hb:Upd (fun _=>False) wr w1):MixSt w g o c xs a b ys w1:=⟨h.mix,h.own.upd hb (fun f=>f),h.upd.trans hb (fun _ _ f=>f.elim)⟩
theorem reverse_any(h:WrU w g o c xs)(hab:a<b)(hb:b≤xs.length)(hs:xs.length≤4611686018) :
  Calls Tryz.prog 239 #[.slice (some ⟨g,o,none⟩) xs.length c,.int .i64 a,.int .i64 b] w fun r w'=>r = .returned (.tuple #[])∧∃ ys,MixSt w g o c xs a b ys w':=by
 have hm:=h.le;unfold maxLen at hm;have H:=Lib.hid (MixSt.refl h a b);clear h
 generalize hn:xs.length=n at *
 have HN:=Lib.hid hn;clear hn
 go_enter Tryz.func239,Tryz.ntmps239
 go_wp2_with fail
 go_loopw [6,7] (fun x y wr=>∃ i j:Nat,a≤i∧i≤b∧j<b∧a≤j+1∧x = .int .i64 i∧y = .int .i64 j∧∃ ys,MixSt w g o c xs a b ys wr) (fun x _ _=>b-(intOf x).toNat)
 case atStart=>exact⟨a,b-1,by omega,by omega,by omega,by omega,rfl,by rw[show((b-1:Nat):Int)=(b:Int)-1 by omega],xs,H.out⟩
 case round=>
  obtain⟨i,j,hi1,hi2,hj1,hj2,rfl,rfl,ys,hM⟩:=hrel;have hyl:ys.length=n:=by rw[hM.len,HN.out]
  have M:=Lib.hid hM
  by_cases hlt:i<j
  ·have hlt':(i:Int)<j:=by omega
   have c1:=hM.own.cell i (by omega);have c2:=hM.own.cell j (by omega)
   have f1:=hM.own.frozen (o+i);have f2:=hM.own.frozen (o+j)
   have hg:=hM.own.lt;have hne:¬ o+j=o+i:=by omega
   clear hM hyl H;go_wp2_with fail
   go_region
   all_goals go_wp2_with fail
   all_goals
    go_roundw
    case rel=>exact⟨i+1,j-1,by omega,by omega,by omega,by omega,by go_num,by rw[show((j-1:Nat):Int)=(j:Int)-1 by omega],_,M.out.swap i j (by omega) (by omega) (by omega) hj1 (by rw[HN.out];exact hb)⟩
    case measure=>simp[intOf];omega
  ·clear hM hyl H
   go_wp2_with fail
   go_end0
   exact⟨rfl,ys,M.out⟩
theorem xorNext_any(q t:Nat)(x:Int)(h:Blk w q #[.int .u64 x] t) :
  Calls Tryz.prog 255 #[.pointer (some ⟨q,0,none⟩)] w fun r w'=>∃ y z:Int,r = .returned (.int .u64 y)∧0≤y∧y≤18446744073709551615∧Blk w' q #[.int .u64 z] t∧Upd (fun k=>k=q) w w':=by
 have c0:w.cell? ⟨q,0,none⟩=some (.int .u64 x):=h.cell rfl;have f0:=h.frozen 0;have B0:=Lib.hid h;have U0:=Lib.hid (Upd.refl (fun k=>k=q) w);clear h
 go_enter Tryz.func255,Tryz.ntmps255
 go_wp2_with fail
 all_goals go_region
 all_goals go_wp2_with fail
 all_goals
  have X:=Lib.hid (And.intro (Go.bits_lo_u64 .xor x (IntKind.u64.wrap (x*8192))) (Go.bits_hi_u64 .xor x (IntKind.u64.wrap (x*8192))))
  generalize bits BinOp.xor IntKind.u64 x (IntKind.u64.wrap (x*8192))=x1 at *
  have B1:=Lib.hid ((B0.out.set 0 (.int .u64 x1)).drew);have U1:=Lib.hid ((U0.out.setCell (p:=⟨q,0,none⟩) (fun _=>rfl) (.int .u64 x1)).drew)
  generalize ((w.setCell ⟨q,0,none⟩ (.int .u64 x1)).drew)=w1 at *
  clear c0 f0;have c1:w1.cell? ⟨q,0,none⟩=some (.int .u64 x1):=B1.out.cell rfl;have f1:=B1.out.frozen 0
 all_goals go_region
 all_goals go_wp2_with fail
 all_goals
  have X:=Lib.hid (And.intro (Go.bits_lo_u64 .xor x1 (x1/128)) (Go.bits_hi_u64 .xor x1 (x1/128)))
  generalize bits BinOp.xor IntKind.u64 x1 (x1/128)=x2 at *
  have B2:=Lib.hid ((B1.out.set 0 (.int .u64 x2)).drew);have U2:=Lib.hid ((U1.out.setCell (p:=⟨q,0,none⟩) (fun _=>rfl) (.int .u64 x2)).drew)
  generalize ((w1.setCell ⟨q,0,none⟩ (.int .u64 x2)).drew)=w2 at *
  clear c1 f1;have c2:w2.cell? ⟨q,0,none⟩=some (.int .u64 x2):=B2.out.cell rfl;have f2:=B2.out.frozen 0
 all_goals go_region
 all_goals go_wp2_with fail
 all_goals
  have X:=Lib.hid (And.intro (Go.bits_lo_u64 .xor x2 (IntKind.u64.wrap (x2*131072))) (Go.bits_hi_u64 .xor x2 (IntKind.u64.wrap (x2*131072))))
  generalize bits BinOp.xor IntKind.u64 x2 (IntKind.u64.wrap (x2*131072))=x3 at *
  have B3:=Lib.hid ((B2.out.set 0 (.int .u64 x3)).drew);have U3:=Lib.hid ((U2.out.setCell (p:=⟨q,0,none⟩) (fun _=>rfl) (.int .u64 x3)).drew)
  generalize ((w2.setCell ⟨q,0,none⟩ (.int .u64 x3)).drew)=w3 at *
  clear c2 f2;have c3:w3.cell? ⟨q,0,none⟩=some (.int .u64 x3):=B3.out.cell rfl;have f3:=B3.out.frozen 0
 all_goals go_ret
 all_goals exact⟨_,_,rfl,X.out.1,X.out.2,B3.out,U3.out⟩
theorem pow_len(n:Nat)(h0:0<n)(hn:n≤100000):∃ m:Nat,IntKind.u64.wrap (2 ^ min (Lib.bitLen n) 64)=m∧n<m∧m≤2*n:=by
 have hb:=Lib.bitLenAux_bounds 64 n (by omega) (by omega);have e:Lib.bitLen n=Lib.bitLenAux 64 n:=rfl;rw[e]
 generalize Lib.bitLenAux 64 n=L at *
 obtain⟨h1,h2,h3⟩:=hb;have h4:2 ^ L=2*2 ^ (L-1):=by
  obtain⟨k,rfl⟩:∃ k,L=k+1:=⟨L-1,by omega⟩;rw[Nat.pow_succ];simp;omega
 have hL:L≤64:=by
  rcases Nat.lt_or_ge 64 L with h | h
  ·have:2 ^ 64≤2 ^ (L-1):=Nat.pow_le_pow_right (by omega) (by omega)
   omega
  ·exact h
 refine⟨2 ^ L,?_,h3,by omega⟩
 rw[Nat.min_eq_left hL];have h5:((2:Int) ^ L)=((2 ^ L:Nat):Int):=by simp
 rw[h5];exact IntWalk.u64_in _ (by omega)
theorem nextPow_any(n:Nat)(h0:0<n)(hn:n≤100000):Calls Tryz.prog 254 #[.int .i64 n] w fun r w'=>∃ m:Nat,r = .returned (.int .u64 m)∧n<m∧m≤2*n∧w=w':=by
 have hb:=Lib.hid (pow_len n h0 hn);have HL:=Lib.hid (Tryz.bits_Len n w (by omega) (by omega))
 go_enter Tryz.func254,Tryz.ntmps254
 go_wp2_with fail
 (with_reducible refine HL.out.mono ?_)
 rintro e w' ⟨rfl,rfl⟩;go_wp2_with fail
 go_ret
 obtain⟨m,h1,h2,h3⟩:=hb.out;exact⟨m,by rw[← h1];rfl,h2,h3,rfl⟩
theorem breakPatterns_any(h:WrU w g o c xs)(hab:a+8≤b)(hb:b≤xs.length)(hs:xs.length≤100000) :
  Calls Tryz.prog 237 #[.slice (some ⟨g,o,none⟩) xs.length c,.int .i64 a,.int .i64 b] w fun r w'=>r = .returned (.tuple #[])∧∃ ys,MixSt w g o c xs a b ys w':=by
 have hm:=h.le;unfold maxLen at hm;have hgs:=h.lt;have H:=Lib.hid (MixSt.refl h a b);clear h
 generalize hn:xs.length=n at *
 have HN:=Lib.hid hn;clear hn
 obtain⟨l,hl⟩:∃ l:Nat,b=a+l:=⟨b-a,by omega⟩;subst hl;have hl8:(8:Int)≤l:=by omega
 have hq:(a:Int)+l-a=l:=by omega
 have HP:=Lib.hid (fun wx=>nextPow_any (w:=wx) l (by omega) (by omega));have HX:=Lib.hid (fun wx q t x (hx:Blk wx q #[.int .u64 x] t)=>xorNext_any q t x hx);have hq4:((l:Int)/4*2)=((l/4*2:Nat):Int):=by omega
 generalize hd:l/4*2=d at *
 have hd1:4≤d∧2*d≤l∧l≤2*d+6:=by omega
 clear hd
 go_enter Tryz.func237,Tryz.ntmps237
 go_wp2_with fail
 (with_reducible refine(HP.out _).mono ?_)
 rintro e w1 ⟨m,rfl,hm1,hm2,rfl⟩;go_wp2_with fail
 go_loopw [9] (fun x wr=>∃ k:Nat,a+d≤k+1∧k≤a+d+2∧x = .int .i64 k∧(∃ y,Blk wr w.heap.size #[.int .u64 y] 325)∧∃ ys,MixSt w g o c xs a (a+l) ys wr) (fun x _=>a+d+3-(intOf x).toNat)
 case atStart=>exact⟨a+d-1,by omega,by omega,by rw[show((a+d-1:Nat):Int)=(a:Int)+d-1 by omega],⟨_,Blk.new w _ _⟩,xs,H.out.later ((Upd.refl _ _).alloc _)⟩
 case round=>
  obtain⟨k,hk1,hk2,rfl,⟨y,hy⟩,ys,hM⟩:=hrel;have hyl:ys.length=n:=by rw[hM.len,HN.out]
  have M:=Lib.hid hM;have Y:=Lib.hid hy
  clear hM hy
  by_cases hlt:k≤a+d+1
  ·have hlt':(k:Int)≤a+d+1:=by omega
   go_wp2_with fail
   (with_reducible refine(HX.out _ _ _ _ Y.out).mono ?_)
   rintro e w1 ⟨y1,z1,rfl,hy1,hy2,hB,hU⟩;obtain⟨yn,rfl⟩:∃ yn:Nat,y1=yn:=⟨y1.toNat,by omega⟩;obtain⟨r,hr,hr2⟩:∃ r:Nat,bits .and .u64 (yn:Int) ((m:Int)-1)=r∧r<m:=⟨yn &&& (m-1),by
    have:=bits_and_u64_nat yn (m-1) (by omega) (by omega)
    rwa [show((m-1:Nat):Int)=(m:Int)-1 by omega]at this,by have:=@Nat.and_le_right yn (m-1);omega⟩
   have M1:Hid (MixSt w g o c xs a (a+l) ys w1):=⟨M.out.mix,M.out.own.upd hU (fun e=>by omega),M.out.upd.trans hU (fun i h1 h2=>by omega)⟩;have Y1:=Lib.hid hB;clear hB hU hy1 hy2 M Y H
   by_cases hrl:r<l
   ·have hrl':¬ (l:Int)≤r:=by omega
    have c1:=M1.out.own.cell k (by omega);have c2:=M1.out.own.cell (a+r) (by omega)
    have hg:=M1.out.own.lt
    by_cases he:k=a+r
    ·subst he
     have f1:=M1.out.own.frozen (o+(a+r));go_wp2_with fail
     go_region
     all_goals go_wp2_with fail
     all_goals
      go_roundw
      case rel=>exact⟨a+r+1,by omega,by omega,by go_num,⟨_,((Y1.out.other (by simp;omega) _).other (by simp;omega) _).drew⟩,_,M1.out.swap (a+r) (a+r) (by omega) (by omega) (by omega) (by omega) (by rw[HN.out];exact hb)⟩
      case measure=>simp[intOf];omega
    ·have f1:=M1.out.own.frozen (o+k);have f2:=M1.out.own.frozen (o+(a+r))
     have hne:¬ o+(a+r)=o+k:=by omega
     go_wp2_with fail
     go_region
     all_goals go_wp2_with fail
     all_goals
      go_roundw
      case rel=>exact⟨k+1,by omega,by omega,by go_num,⟨_,((Y1.out.other (by simp;omega) _).other (by simp;omega) _).drew⟩,_,M1.out.swap k (a+r) (by omega) (by omega) (by omega) (by omega) (by rw[HN.out];exact hb)⟩
      case measure=>simp[intOf];omega
   ·obtain⟨q,hs0⟩:∃ q,q=r:=⟨r,rfl⟩;rw[← hs0]at hr hr2 hrl;clear hs0 r;obtain⟨r,hs0⟩:∃ r,q=l+r:=⟨q-l,by omega⟩;subst hs0;have hrl':(l:Int)≤(l:Int)+r:=(by omega);have hsl:r<l:=(by omega);have hq2:(l:Int)+r-l=r:=(by omega);clear hrl
    have c1:=M1.out.own.cell k (by omega);have c2:=M1.out.own.cell (a+r) (by omega)
    have hg:=M1.out.own.lt
    by_cases he:k=a+r
    ·subst he
     have f1:=M1.out.own.frozen (o+(a+r));go_wp2_with fail
     go_region
     all_goals go_wp2_with fail
     all_goals
      go_roundw
      case rel=>exact⟨a+r+1,by omega,by omega,by go_num,⟨_,((Y1.out.other (by simp;omega) _).other (by simp;omega) _).drew⟩,_,M1.out.swap (a+r) (a+r) (by omega) (by omega) (by omega) (by omega) (by rw[HN.out];exact hb)⟩
      case measure=>simp[intOf];omega
    ·have f1:=M1.out.own.frozen (o+k);have f2:=M1.out.own.frozen (o+(a+r))
     have hne:¬ o+(a+r)=o+k:=by omega
     go_wp2_with fail
     go_region
     all_goals go_wp2_with fail
     all_goals
      go_roundw
      case rel=>exact⟨k+1,by omega,by omega,by go_num,⟨_,((Y1.out.other (by simp;omega) _).other (by simp;omega) _).drew⟩,_,M1.out.swap k (a+r) (by omega) (by omega) (by omega) (by omega) (by rw[HN.out];exact hb)⟩
      case measure=>simp[intOf];omega
  ·have hlt':¬ (k:Int)≤a+d+1:=by omega
   go_wp2_with fail
   go_end0
   exact⟨rfl,ys,M.out⟩
structure PivSt(w:World)(g o c:Nat)(xs:List Int)(q:Nat)(m:Int)(wr:World):Prop where
 own:WrU wr g o c xs
 ne:q≠g
 cnt:∃ s:Int,0≤s∧s≤m∧Blk wr q #[.int .i64 s] 3
 upd:Upd (fun k=>k=q) w wr
theorem PivSt.mono{q:Nat}{m m':Int}(h:PivSt w g o c xs q m wr)(hm:m≤m'):PivSt w g o c xs q m' wr:=by
 obtain⟨h1,h2,⟨s,h3,h4,h5⟩,h6⟩:=h;exact⟨h1,h2,⟨s,h3,by omega,h5⟩,h6⟩
theorem PivSt.drewN{q:Nat}{m:Int}(h:PivSt w g o c xs q m wr)(n:Nat):PivSt w g o c xs q m (wr.drewN n):=
 ⟨h.own.drewN n,h.ne,let ⟨s,h1,h2,h3⟩:=h.cnt;⟨s,h1,h2,h3⟩,⟨h.upd.os,h.upd.tape,h.upd.output,h.upd.size,h.upd.block⟩⟩
theorem PivSt.inc{q:Nat}{m s:Int}(h:PivSt w g o c xs q m wr)(h1:0≤s)(h2:s≤m):PivSt w g o c xs q (m+1) (wr.setCell ⟨q,0,none⟩ (.int .i64 (s+1))):=by
 obtain⟨s',h3,h4,h5⟩:=h.cnt;refine⟨OwnSl.other h.own (fun k hk=>by simp[Value.ownBlock]at hk;subst hk;exact fun e=>h.ne e.symm) _,h.ne,⟨s+1,by omega,by omega,h5.set 0 _⟩,h.upd.setCell (fun _=>rfl) _⟩
theorem order2_any{q:Nat}{m:Int}(h:PivSt w g o c xs q m wr)(hm:m≤100)(lo hi i j:Nat)(hi1:lo≤i∧i<hi)(hj1:lo≤j∧j<hi)(hh:hi≤xs.length)(_hs:xs.length≤100000) :
  Calls Tryz.prog 263 #[.slice (some ⟨g,o,none⟩) xs.length c,.int .i64 i,.int .i64 j,.pointer (some ⟨q,0,none⟩)] wr fun r w'=>∃ x y:Nat,r = .returned (.tuple #[.int .i64 x,.int .i64 y])∧(lo≤x∧x<hi)∧(lo≤y∧y<hi)∧PivSt w g o c xs q (m+1) w':=by
 have hle:=h.own.le;unfold maxLen at hle;have c1:=h.own.cell i (by omega);have c2:=h.own.cell j (by omega)
 obtain⟨s,s1,s2,s3⟩:=h.cnt;have c3:wr.cell? ⟨q,0,none⟩=some (.int .i64 s):=s3.cell rfl;have f3:=s3.frozen 0;have H:=Lib.hid h;clear h s3
 generalize hn:xs.length=n at *
 clear hn;have g1:(i:Int)<n:=by omega
 have g2:(j:Int)<n:=by omega
 by_cases hl:at0 xs j<at0 xs i
 ·have hd:decide (at0 xs j<at0 xs i)=true:=by simpa using hl
  have LQ:=Lib.hid (less_is _ _ _ hd);clear hd hl
  go_enter Tryz.func263,Tryz.ntmps263
  go_wp2_with fail
  go_quiet ((go_at_call 241;exact Calls.quiet_of_same (LQ.out _)))
  go_wp2_with fail
  go_ret2
  exact⟨j,i,rfl,hj1,hi1,(H.out.drewN _).inc s1 s2⟩
 ·have hd:decide (at0 xs j<at0 xs i)=false:=by simpa using hl
  have LQ:=Lib.hid (less_is _ _ _ hd);clear hd hl
  go_enter Tryz.func263,Tryz.ntmps263
  go_wp2_with fail
  go_quiet ((go_at_call 241;exact Calls.quiet_of_same (LQ.out _)))
  go_wp2_with fail
  go_ret2
  exact⟨i,j,rfl,hi1,hj1,(H.out.drewN _).mono (by omega)⟩
theorem median_any{q:Nat}{m:Int}(h:PivSt w g o c xs q m wr)(hm:m≤90)(lo hi i j k:Nat)(hi1:lo≤i∧i<hi)(hj1:lo≤j∧j<hi)(hk1:lo≤k∧k<hi)(hh:hi≤xs.length)(hs:xs.length≤100000) :
  Calls Tryz.prog 257 #[.slice (some ⟨g,o,none⟩) xs.length c,.int .i64 i,.int .i64 j,.int .i64 k,.pointer (some ⟨q,0,none⟩)] wr fun r w'=>∃ x:Nat,r = .returned (.int .i64 x)∧(lo≤x∧x<hi)∧PivSt w g o c xs q (m+3) w':=by
 have HO:=Lib.hid (fun wx (m':Int) (i' j':Nat) (hx:PivSt w g o c xs q m' wx) (hm':m'≤100) h1 h2=>order2_any hx hm' lo hi i' j' h1 h2 hh hs);have H:=Lib.hid h;clear h
 generalize xs.length=n at *
 go_enter Tryz.func257,Tryz.ntmps257
 go_wp2_with fail
 (with_reducible refine(HO.out _ _ i j H.out (by omega) hi1 hj1).mono ?_)
 rintro e w1 ⟨x1,y1,rfl,hx1,hy1,p1⟩;have P1:=Lib.hid p1;clear p1
 go_wp2_with fail
 (with_reducible refine(HO.out _ _ y1 k P1.out (by omega) hy1 hk1).mono ?_)
 rintro e w2 ⟨x2,y2,rfl,hx2,hy2,p2⟩;have P2:=Lib.hid p2;clear p2
 go_wp2_with fail
 (with_reducible refine(HO.out _ _ x1 x2 P2.out (by omega) hx1 hx2).mono ?_)
 rintro e w3 ⟨x3,y3,rfl,hx3,hy3,p3⟩;have P3:=Lib.hid p3;clear p3
 go_wp2_with fail
 go_ret
 exact⟨y3,rfl,hy3,P3.out.mono (by omega)⟩
theorem medianAdjacent_any{q:Nat}{m:Int}(h:PivSt w g o c xs q m wr)(hm:m≤90)(lo hi i:Nat)(hi1:lo<i∧i+1<hi)(hh:hi≤xs.length)(hs:xs.length≤100000) :
  Calls Tryz.prog 256 #[.slice (some ⟨g,o,none⟩) xs.length c,.int .i64 i,.pointer (some ⟨q,0,none⟩)] wr fun r w'=>∃ x:Nat,r = .returned (.int .i64 x)∧(lo≤x∧x<hi)∧PivSt w g o c xs q (m+3) w':=by
 have hM:=median_any h hm lo hi (i-1) i (i+1) (by omega) (by omega) (by omega) hh hs;rw[show((i-1:Nat):Int)=(i:Int)-1 by omega,show((i+1:Nat):Int)=(i:Int)+1 by omega]at hM;have HM:=Lib.hid hM;clear h hM
 generalize xs.length=n at *
 go_enter Tryz.func256,Tryz.ntmps256
 go_wp2_with fail
 (with_reducible refine HM.out.mono ?_)
 rintro e w1 ⟨x1,rfl,hx1,p1⟩;have P1:=Lib.hid p1;clear p1
 go_wp2_with fail
 go_ret
 exact⟨x1,rfl,hx1,P1.out⟩
theorem PivSt.start(h:WrU w g o c xs):PivSt w g o c xs w.heap.size 0 (w.alloc (.cells #[.int .i64 0] 3)):=
 ⟨h.upd (S:=fun _=>False) ((Upd.refl _ _).alloc _) (fun f=>f),by have:=h.lt;omega,⟨0,by omega,by omega,Blk.new _ _ _⟩,(Upd.refl _ _).alloc _⟩
theorem choosePivot_any(h:WrU w g o c xs)(hab:a+8≤b)(hb:b≤xs.length)(hs:xs.length≤100000) :
  Calls Tryz.prog 238 #[.slice (some ⟨g,o,none⟩) xs.length c,.int .i64 a,.int .i64 b] w fun r w'=>∃ (x:Nat) (y:Int),r = .returned (.tuple #[.int .i64 x,.int .i64 y])∧(a≤x∧x<b)∧(y=0∨y=1∨y=2)∧Upd (fun _=>False) w w':=by
 have HA:=Lib.hid (fun wx (m':Int) (i':Nat) (hx:PivSt w g o c xs w.heap.size m' wx) (hm':m'≤90) h1=>medianAdjacent_any hx hm' a b i' h1 hb hs);have HM:=Lib.hid (fun wx (m':Int) (i' j' k':Nat) (hx:PivSt w g o c xs w.heap.size m' wx) (hm':m'≤90) h1 h2 h3=>median_any hx hm' a b i' j' k' h1 h2 h3 hb hs);have H:=Lib.hid (PivSt.start h);have hgs:=h.lt;clear h
 generalize xs.length=n at *
 obtain⟨l,hl⟩:∃ l:Nat,b=a+l:=⟨b-a,by omega⟩;subst hl;have hl8:(8:Int)≤l:=by omega
 have hq:(a:Int)+l-a=l:=by omega
 have hq4:((l:Int)/4)=((l/4:Nat):Int):=by omega
 generalize hd:l/4=d at *
 have hd1:2≤d∧4*d≤l∧l≤4*d+3:=by omega
 clear hd;have e1:(a:Int)+d=((a+d:Nat):Int):=by omega
 have e2:(a:Int)+(d:Int)*2=((a+d*2:Nat):Int):=by omega
 have e3:(a:Int)+(d:Int)*3=((a+d*3:Nat):Int):=by omega
 generalize ha1:a+d=a1 at *
 generalize ha2:a+d*2=a2 at *
 generalize ha3:a+d*3=a3 at *
 have hr1:a<a1∧a1+1<a+l:=by omega
 have hr2:a<a2∧a2+1<a+l:=by omega
 have hr3:a<a3∧a3+1<a+l:=by omega
 clear ha1 ha2 ha3
 by_cases h50:50≤l
 ·have h50':(50:Int)≤l:=by omega
  go_enter Tryz.func238,Tryz.ntmps238
  go_wp2_with fail
  (with_reducible refine(HA.out _ _ a1 H.out (by omega) hr1).mono ?_)
  rintro e w1 ⟨x1,rfl,hx1,p1⟩;have P1:=Lib.hid p1;clear p1
  go_wp2_with fail
  (with_reducible refine(HA.out _ _ a2 P1.out (by omega) hr2).mono ?_)
  rintro e w2 ⟨x2,rfl,hx2,p2⟩;have P2:=Lib.hid p2;clear p2
  go_wp2_with fail
  (with_reducible refine(HA.out _ _ a3 P2.out (by omega) hr3).mono ?_)
  rintro e w3 ⟨x3,rfl,hx3,p3⟩;have P3:=Lib.hid p3;clear p3
  go_wp2_with fail
  (with_reducible refine(HM.out _ _ x1 x2 x3 P3.out (by omega) hx1 hx2 hx3).mono ?_)
  rintro e w4 ⟨x4,rfl,hx4,p4⟩;have P4:=Lib.hid p4;clear p4
  obtain⟨s,s1,s2,s3⟩:=P4.out.cnt;have c4:w4.cell? ⟨w.heap.size,0,none⟩=some (.int .i64 s):=s3.cell rfl;clear s3;have hU:Hid (Upd (fun _=>False) w w4):=P4.out.upd.mono (fun i h1 h2=>by omega)
  by_cases hs0:s=0
  ·subst hs0
   go_wp2_with fail
   go_ret2
   exact⟨x4,1,rfl,hx4,by omega,hU.out⟩
  ·by_cases hs12:s=12
   ·subst hs12
    go_wp2_with fail
    go_ret2
    exact⟨x4,2,rfl,hx4,by omega,hU.out⟩
   ·have n0:(s==0)=false:=by simpa using hs0
    have n12:(s==12)=false:=by simpa using hs12
    clear hs0 hs12;go_wp2_with fail
    go_ret2
    exact⟨x4,0,rfl,hx4,by omega,hU.out⟩
 ·have h50':¬ (50:Int)≤l:=by omega
  go_enter Tryz.func238,Tryz.ntmps238
  go_wp2_with fail
  (with_reducible refine(HM.out _ _ a1 a2 a3 H.out (by omega) (by omega) (by omega) (by omega)).mono ?_)
  rintro e w4 ⟨x4,rfl,hx4,p4⟩;have P4:=Lib.hid p4;clear p4
  obtain⟨s,s1,s2,s3⟩:=P4.out.cnt;have c4:w4.cell? ⟨w.heap.size,0,none⟩=some (.int .i64 s):=s3.cell rfl;clear s3;have hU:Hid (Upd (fun _=>False) w w4):=P4.out.upd.mono (fun i h1 h2=>by omega)
  by_cases hs0:s=0
  ·subst hs0
   go_wp2_with fail
   go_ret2
   exact⟨x4,1,rfl,hx4,by omega,hU.out⟩
  ·by_cases hs12:s=12
   ·subst hs12
    go_wp2_with fail
    go_ret2
    exact⟨x4,2,rfl,hx4,by omega,hU.out⟩
   ·have n0:(s==0)=false:=by simpa using hs0
    have n12:(s==12)=false:=by simpa using hs12
    clear hs0 hs12;go_wp2_with fail
    go_ret2
    exact⟨x4,0,rfl,hx4,by omega,hU.out⟩
end
end

section
open Go.RowKit
section
variable{w:World}{g o c a b:Nat}{xs ys zs:List Int}{wr:World}
theorem i64_nat(p:Nat)(h:p≤4611686018):IntKind.i64.wrap (p:Int)=p:=IntWalk.i64_in _ (by omega)
def SiftSt(w:World)(g o c:Nat)(xs:List Int)(f lo n r:Nat)(wr:World):Prop:=∃ ys,MixSt w g o c xs (f+lo) (f+n) ys wr∧HeapBut ys f lo n r
theorem siftSt_swap{f lo n r k:Nat}(h:MixSt w g o c xs (f+lo) (f+n) ys wr∧HeapBut ys f lo n r)(hlo:lo≤r)(hk:k=2*r+1∨k=2*r+2)(hkn:k<n)(hf:f+n≤xs.length)
  (hmax:∀ c,(c=2*r+1∨c=2*r+2)→c<n→at0 ys (f+c)≤at0 ys (f+k)) (hlt:at0 ys (f+r)<at0 ys (f+k)) {p q:Nat} (hp:f+r=p) (hq:f+k=q) :
  SiftSt w g o c xs f lo n k ((wr.setCell ⟨g,o+p,none⟩ (.int .u64 (at0 ys q))).setCell ⟨g,o+q,none⟩ (.int .u64 (at0 ys p))).drew:=by
 subst hp hq;exact⟨_,h.1.swap (f+r) (f+k) (by omega) (by omega) (by omega) (by omega) hf,h.2.step hlo hk hkn (by rw[h.1.len];exact hf) hmax hlt⟩
theorem sift_max{f ch pc pd r z:Nat}(hl:at0 ys pc<at0 ys pd)(h1:f+ch=pc)(h2:f+ch+1=pd)(h3:2*r+1=ch)(hz:z=2*r+1∨z=2*r+2):at0 ys (f+z)≤at0 ys (f+(ch+1)):=by
 rw[show f+(ch+1)=pd by omega]
 rcases hz with rfl | rfl
 ·rw[h3,h1];omega
 ·rw[show f+(2*r+2)=pd by omega];omega
theorem sift_max'{f ch pc pd r z:Nat}(hl:¬ at0 ys pc<at0 ys pd)(h1:f+ch=pc)(h2:f+ch+1=pd)(h3:2*r+1=ch)(hz:z=2*r+1∨z=2*r+2):at0 ys (f+z)≤at0 ys (f+ch):=by
 rw[h1]
 rcases hz with rfl | rfl
 ·rw[h3,h1];omega
 ·rw[show f+(2*r+2)=pd by omega];omega
theorem sift_only{f ch r z n:Nat}(h2:¬ ch+1<n)(h3:2*r+1=ch)(hz:z=2*r+1∨z=2*r+2)(hn:z<n):at0 ys (f+z)≤at0 ys (f+ch):=by
 rcases hz with rfl | rfl
 ·rw[h3];exact Int.le_refl _
 ·omega
theorem siftDown_any(h:WrU w g o c xs)(f lo n:Nat)(hf:f+n≤xs.length)(hs:xs.length≤100000)(hlo:lo≤100000)(hh:HeapBut xs f lo n lo) :
  Calls Tryz.prog 253 #[.slice (some ⟨g,o,none⟩) xs.length c,.int .i64 lo,.int .i64 n,.int .i64 f] w fun r w'=>r = .returned (.tuple #[])∧∃ ys,MixSt w g o c xs (f+lo) (f+n) ys w'∧Heap ys f lo n:=by
 have hm:=h.le;unfold maxLen at hm;have H:Hid (SiftSt w g o c xs f lo n lo w):=Lib.hid ⟨xs,MixSt.refl h _ _,hh⟩;clear h hh
 have HF:=Lib.hid hf
 generalize hn:xs.length=m at *
 have HN:=Lib.hid hn;clear hn
 go_enter Tryz.func253,Tryz.ntmps253
 go_wp2_with fail
 go_loopw [8,9] (fun x _ wr=>∃ r:Nat,lo≤r∧r≤100000∧x = .int .i64 r∧SiftSt w g o c xs f lo n r wr) (fun x _ _=>n-(intOf x).toNat)
 case atStart=>exact⟨lo,by omega,hlo,rfl,H.out⟩
 case round=>
  obtain⟨r,hr1,hr2,rfl,ys,hM,hB⟩:=hrel;have hyl:ys.length=m:=by rw[hM.len,HN.out]
  have M:=Lib.hid (And.intro hM hB);clear H hB;obtain⟨ch,hch⟩:∃ ch,2*r+1=ch:=⟨_,rfl⟩;have q1:(2:Int)*r+1=ch:=by omega
  by_cases h1:n≤ch
  ·have h1':(n:Int)≤ch:=by omega
   clear hM;go_wp2_with fail
   go_end0
   exact⟨rfl,ys,M.out.1,M.out.2.stop (fun c h2 h3=>by omega)⟩
  ·have h1':¬ (n:Int)≤ch:=by omega
   have hg:=hM.own.lt;obtain⟨pr,hpr⟩:∃ p,f+r=p:=⟨_,rfl⟩;obtain⟨pc,hpc⟩:∃ p,f+ch=p:=⟨_,rfl⟩;have q2:(f:Int)+r=pr:=by omega
   have q3:(f:Int)+ch=pc:=by omega
   have c1:=hM.own.cell pr (by omega);have c2:=hM.own.cell pc (by omega)
   have w1:=i64_nat pr (by omega);have w2:=i64_nat pc (by omega)
   have b1:(pr:Int)<m:=by omega
   have b2:(pc:Int)<m:=by omega
   by_cases h2:ch+1<n
   ·obtain⟨pd,hpd⟩:∃ p,f+ch+1=p:=⟨_,rfl⟩
    have q4:(pc:Int)+1=pd:=by omega
    have q5:(f:Int)+(ch+1)=pd:=by omega
    have c3:=hM.own.cell pd (by omega);have w3:=i64_nat pd (by omega);have b3:(pd:Int)<m:=by omega
    have h2':(ch:Int)+1<n:=by omega
    have w4:IntKind.i64.wrap ((ch:Int)+1)=(ch:Int)+1:=IntWalk.i64_in _ (by omega);have E:=Lib.hid (And.intro hpr (And.intro hpc (And.intro hpd hch)));clear hM hpr hpc hpd hch
    by_cases hl:at0 ys pc<at0 ys pd
    ·have hd:decide (at0 ys pc<at0 ys pd)=true:=by simpa using hl
     have LQ:=Lib.hid (less_is _ _ _ hd);have HMX:Hid (∀ z,(z=2*r+1∨z=2*r+2)→z<n→at0 ys (f+z)≤at0 ys (f+(ch+1))):=Lib.hid (fun z hz1 hz2=>sift_max hl E.out.2.1 E.out.2.2.1 E.out.2.2.2 hz1);clear hd hl;go_wp2_with fail
     go_quiet ((go_at_call 241;exact Calls.quiet_of_same (LQ.out _)))
     clear c3;go_wp2_with fail
     obtain⟨wq,hwq⟩:∃ wq,wr.drewN nq=wq:=⟨_,rfl⟩;rw[hwq];have M2:Hid (MixSt w g o c xs (f+lo) (f+n) ys wq∧HeapBut ys f lo n r):=Lib.hid ⟨by rw[← hwq];exact M.out.1.drewN _,M.out.2⟩;clear hwq c1 c2;have d1:=M2.out.1.own.cell pr (by omega);have d2:=M2.out.1.own.cell pd (by omega)
     have hgq:=M2.out.1.own.lt
     by_cases hl2:at0 ys pr<at0 ys pd
     ·have hd:decide (at0 ys pr<at0 ys pd)=true:=by simpa using hl2
      have LQ:=Lib.hid (less_is _ _ _ hd);have HL2:=Lib.hid hl2;clear hd hl2
      go_quiet ((go_at_call 241;exact Calls.quiet_of_same (LQ.out _)))
      go_wp2_with fail
      obtain⟨wz,hwz⟩:∃ wz,wq.drewN nq=wz:=⟨_,rfl⟩;rw[hwz];have M3:Hid (MixSt w g o c xs (f+lo) (f+n) ys wz∧HeapBut ys f lo n r):=Lib.hid ⟨by rw[← hwz];exact M2.out.1.drewN _,M2.out.2⟩;clear hwz d1 d2;have x1:=M3.out.1.own.cell pr (by omega);have x2:=M3.out.1.own.cell pd (by omega)
      have f1:=M3.out.1.own.frozen (o+pr);have f2:=M3.out.1.own.frozen (o+pd)
      have hgz:=M3.out.1.own.lt;have hne:¬ o+pd=o+pr:=by have:=E.out;omega
      go_region
      all_goals go_wp2_with fail
      all_goals
       go_roundw
       case rel=>exact⟨ch+1,by have:=E.out;omega,by omega,by go_num,siftSt_swap M3.out hr1 (by have:=E.out;omega) (by omega) (by rw[HN.out];exact HF.out) (fun z hz1 hz2=>HMX.out z hz1 hz2) (by rw[E.out.1,(show f+(ch+1)=pd by have:=E.out;omega)];exact HL2.out) E.out.1 (show f+(ch+1)=pd by have:=E.out;omega)⟩
       case measure=>simp[intOf];have:=E.out;omega
     ·have hd:decide (at0 ys pr<at0 ys pd)=false:=by simpa using hl2
      have LQ:=Lib.hid (less_is _ _ _ hd);have HL2:=Lib.hid hl2;clear hd hl2
      go_quiet ((go_at_call 241;exact Calls.quiet_of_same (LQ.out _)))
      go_wp2_with fail
      (try simp only[Exit.inBlock,Exit.then]);refine bodyPost_ret (results_none rfl _ _ _) rfl ?_
      refine⟨rfl,ys,M2.out.1.drewN _,M2.out.2.stop (fun z hz1 hz2 => ?_)⟩
      have hz:at0 ys (f+z)≤at0 ys pd:=by
       rw[← (show f+(ch+1)=pd by have:=E.out;omega)];exact HMX.out z hz1 hz2
      have:=HL2.out;rw[E.out.1];omega
    ·have hd:decide (at0 ys pc<at0 ys pd)=false:=by simpa using hl
     have LQ:=Lib.hid (less_is _ _ _ hd);have HMX:Hid (∀ z,(z=2*r+1∨z=2*r+2)→z<n→at0 ys (f+z)≤at0 ys (f+ch)):=Lib.hid (fun z hz1 hz2=>sift_max' hl E.out.2.1 E.out.2.2.1 E.out.2.2.2 hz1);clear hd hl;go_wp2_with fail
     go_quiet ((go_at_call 241;exact Calls.quiet_of_same (LQ.out _)))
     clear c3;go_wp2_with fail
     obtain⟨wq,hwq⟩:∃ wq,wr.drewN nq=wq:=⟨_,rfl⟩;rw[hwq];have M2:Hid (MixSt w g o c xs (f+lo) (f+n) ys wq∧HeapBut ys f lo n r):=Lib.hid ⟨by rw[← hwq];exact M.out.1.drewN _,M.out.2⟩;clear hwq c1 c2;have d1:=M2.out.1.own.cell pr (by omega);have d2:=M2.out.1.own.cell pc (by omega)
     have hgq:=M2.out.1.own.lt
     by_cases hl2:at0 ys pr<at0 ys pc
     ·have hd:decide (at0 ys pr<at0 ys pc)=true:=by simpa using hl2
      have LQ:=Lib.hid (less_is _ _ _ hd);have HL2:=Lib.hid hl2;clear hd hl2
      go_quiet ((go_at_call 241;exact Calls.quiet_of_same (LQ.out _)))
      go_wp2_with fail
      obtain⟨wz,hwz⟩:∃ wz,wq.drewN nq=wz:=⟨_,rfl⟩;rw[hwz];have M3:Hid (MixSt w g o c xs (f+lo) (f+n) ys wz∧HeapBut ys f lo n r):=Lib.hid ⟨by rw[← hwz];exact M2.out.1.drewN _,M2.out.2⟩;clear hwz d1 d2;have x1:=M3.out.1.own.cell pr (by omega);have x2:=M3.out.1.own.cell pc (by omega)
      have f1:=M3.out.1.own.frozen (o+pr);have f2:=M3.out.1.own.frozen (o+pc)
      have hgz:=M3.out.1.own.lt;have hne:¬ o+pc=o+pr:=by have:=E.out;omega
      go_region
      all_goals go_wp2_with fail
      all_goals
       go_roundw
       case rel=>exact⟨ch,by have:=E.out;omega,by omega,by go_num,siftSt_swap M3.out hr1 (by have:=E.out;omega) (by omega) (by rw[HN.out];exact HF.out) (fun z hz1 hz2=>HMX.out z hz1 hz2) (by rw[E.out.1,(show f+ch=pc from E.out.2.1)];exact HL2.out) E.out.1 ((show f+ch=pc from E.out.2.1))⟩
       case measure=>simp[intOf];have:=E.out;omega
     ·have hd:decide (at0 ys pr<at0 ys pc)=false:=by simpa using hl2
      have LQ:=Lib.hid (less_is _ _ _ hd);have HL2:=Lib.hid hl2;clear hd hl2
      go_quiet ((go_at_call 241;exact Calls.quiet_of_same (LQ.out _)))
      go_wp2_with fail
      (try simp only[Exit.inBlock,Exit.then]);refine bodyPost_ret (results_none rfl _ _ _) rfl ?_
      refine⟨rfl,ys,M2.out.1.drewN _,M2.out.2.stop (fun z hz1 hz2 => ?_)⟩
      have hz:at0 ys (f+z)≤at0 ys pc:=by
       rw[← (show f+ch=pc from E.out.2.1)];exact HMX.out z hz1 hz2
      have:=HL2.out;rw[E.out.1];omega
   ·have h2':decide ((ch:Int)+1<n)=false:=by simp;omega
    have w4:IntKind.i64.wrap ((ch:Int)+1)=(ch:Int)+1:=IntWalk.i64_in _ (by omega);have E:=Lib.hid (And.intro hpr (And.intro hpc hch));have HMX:Hid (∀ z,(z=2*r+1∨z=2*r+2)→z<n→at0 ys (f+z)≤at0 ys (f+ch)):=Lib.hid (fun z hz1 hz2=>sift_only h2 hch hz1 hz2);clear hM hpr hpc hch;go_wp2_with fail
    go_quiet (fail)
    go_wp2_with fail
    obtain⟨wq,hwq⟩:∃ wq,wr.drewN nq=wq:=⟨_,rfl⟩;rw[hwq];have M2:Hid (MixSt w g o c xs (f+lo) (f+n) ys wq∧HeapBut ys f lo n r):=Lib.hid ⟨by rw[← hwq];exact M.out.1.drewN _,M.out.2⟩;clear hwq c1 c2;have d1:=M2.out.1.own.cell pr (by omega);have d2:=M2.out.1.own.cell pc (by omega)
    have hgq:=M2.out.1.own.lt
    by_cases hl2:at0 ys pr<at0 ys pc
    ·have hd:decide (at0 ys pr<at0 ys pc)=true:=by simpa using hl2
     have LQ:=Lib.hid (less_is _ _ _ hd);have HL2:=Lib.hid hl2;clear hd hl2
     go_quiet ((go_at_call 241;exact Calls.quiet_of_same (LQ.out _)))
     go_wp2_with fail
     obtain⟨wz,hwz⟩:∃ wz,wq.drewN nq=wz:=⟨_,rfl⟩;rw[hwz];have M3:Hid (MixSt w g o c xs (f+lo) (f+n) ys wz∧HeapBut ys f lo n r):=Lib.hid ⟨by rw[← hwz];exact M2.out.1.drewN _,M2.out.2⟩;clear hwz d1 d2;have x1:=M3.out.1.own.cell pr (by omega);have x2:=M3.out.1.own.cell pc (by omega)
     have f1:=M3.out.1.own.frozen (o+pr);have f2:=M3.out.1.own.frozen (o+pc)
     have hgz:=M3.out.1.own.lt;have hne:¬ o+pc=o+pr:=by have:=E.out;omega
     go_region
     all_goals go_wp2_with fail
     all_goals
      go_roundw
      case rel=>exact⟨ch,by have:=E.out;omega,by omega,by go_num,siftSt_swap M3.out hr1 (by have:=E.out;omega) (by omega) (by rw[HN.out];exact HF.out) (fun z hz1 hz2=>HMX.out z hz1 hz2) (by rw[E.out.1,(show f+ch=pc from E.out.2.1)];exact HL2.out) E.out.1 ((show f+ch=pc from E.out.2.1))⟩
      case measure=>simp[intOf];have:=E.out;omega
    ·have hd:decide (at0 ys pr<at0 ys pc)=false:=by simpa using hl2
     have LQ:=Lib.hid (less_is _ _ _ hd);have HL2:=Lib.hid hl2;clear hd hl2
     go_quiet ((go_at_call 241;exact Calls.quiet_of_same (LQ.out _)))
     go_wp2_with fail
     (try simp only[Exit.inBlock,Exit.then]);refine bodyPost_ret (results_none rfl _ _ _) rfl ?_
     refine⟨rfl,ys,M2.out.1.drewN _,M2.out.2.stop (fun z hz1 hz2 => ?_)⟩
     have hz:at0 ys (f+z)≤at0 ys pc:=by
      rw[← (show f+ch=pc from E.out.2.1)];exact HMX.out z hz1 hz2
     have:=HL2.out;rw[E.out.1];omega
theorem heap_swap{f k:Nat}(h:Heap ys f 0 (k+1))(hf:f+k<ys.length):HeapBut (swp ys f (f+k)) f 0 k 0:=by
 have e:=fun q=>at0_swp ys f (f+k) q (by omega) hf
 refine⟨fun i z h1 h2 h3 h4 => ?_,fun i z h1 h2 h3 h4=>by omega⟩
 rw[e,e,if_neg (by omega),if_neg (by omega),if_neg (by omega),if_neg (by omega)];exact h i z h1 h3 (by omega)
def HeapSt(w:World)(g o c:Nat)(xs:List Int)(a b k:Nat)(wr:World):Prop:=∃ ys,MixSt w g o c xs a b ys wr∧Heap ys a k (b-a)
def PopSt(w:World)(g o c:Nat)(xs:List Int)(a b k:Nat)(wr:World):Prop:=∃ ys,MixSt w g o c xs a b ys wr∧Popped ys a k (b-a)
theorem heapSort_any(h:WrU w g o c xs)(hab:a<b)(hb:b≤xs.length)(hs:xs.length≤100000) :
  Calls Tryz.prog 236 #[.slice (some ⟨g,o,none⟩) xs.length c,.int .i64 a,.int .i64 b] w fun r w'=>r = .returned (.tuple #[])∧SortPost w g o c xs a b w':=by
 have hm:=h.le;unfold maxLen at hm;have H:Hid (MixSt w g o c xs a b xs w):=Lib.hid (MixSt.refl h a b);clear h
 have HB:=Lib.hid hb;have HS:=Lib.hid (fun wx (zs:List Int) (hz:WrU wx g o c zs) (hl:zs.length=xs.length) (k i:Nat) (hki:k≤100000∧a+i≤b) (hh:HeapBut zs a k i k)=>by
  have:=siftDown_any hz a k i (by omega) (by omega) (by omega) hh;rw[hl]at this;exact this)
 have HS0:=Lib.hid (fun wx (zs:List Int) (hz:WrU wx g o c zs) (hl:zs.length=xs.length) (i:Nat) (hki:a+i≤b) (hh:HeapBut zs a 0 i 0)=>by
  have:=siftDown_any hz a 0 i (by omega) (by omega) (by omega) hh;rw[hl,show((0:Nat):Int)=0 from rfl]at this;exact this)
 have HS00:=Lib.hid (fun wx (zs:List Int) (hz:WrU wx g o c zs) (hl:zs.length=xs.length) (hki:a≤b) (hh:HeapBut zs a 0 0 0)=>by
  have:=siftDown_any hz a 0 0 (by omega) (by omega) (by omega) hh;rw[hl,show((0:Nat):Int)=0 from rfl]at this;exact this)
 generalize hn:xs.length=m at *
 have HN:=Lib.hid hn;clear hn
 obtain⟨n,hbn⟩:∃ n,b=a+n:=⟨b-a,by omega⟩;have q1:(b:Int)-a=n:=by omega
 have q2:b-a=n:=by omega
 have HQ:=Lib.hid q2;have HBN:=Lib.hid hbn
 obtain⟨hf,hhf⟩:∃ h,(n-1)/2=h:=⟨_,rfl⟩;have q3:((n:Int)-1)/2=hf:=by omega
 have q4:(0:Int)≤(n:Int)-1:=by omega
 have q5:(1:Int)≤(n:Int):=by omega
 have HH:=Lib.hid hhf;clear hhf q2 hbn
 go_enter Tryz.func236,Tryz.ntmps236
 go_wp2_with fail
 rw[q3]
 go_loopw [9] (fun x wr=>∃ k:Nat,k≤hf+1∧x = .int .i64 ((k:Int)-1)∧HeapSt w g o c xs a b k wr) (fun x _=>(intOf x+1).toNat)
 case atStart=>exact⟨hf+1,by omega,by rw[show(((hf+1:Nat):Int)-1)=hf by omega],xs,H.out,by rw[HQ.out,← HH.out];exact Heap.leaves _ _ _⟩
 case round=>
  obtain⟨k,hk,hx,ys,hM,hP⟩:=hrel;have M:=Lib.hid (And.intro hM hP);clear hM hP H
  by_cases h0:k=0
  ·subst h0
   rw[show((0:Nat):Int)-1 = -1 from rfl]at hx;subst hx;go_wp2_with fail
   go_loopw [10] (fun x wr=>∃ k:Nat,k≤n∧x = .int .i64 ((k:Int)-1)∧PopSt w g o c xs a b k wr) (fun x _=>(intOf x+1).toNat)
   case atStart=>exact⟨n,Nat.le_refl _,rfl,ys,M.out.1,by rw[HQ.out];exact Popped.start (by have:=M.out.2;rwa [HQ.out]at this)⟩
   case round=>
    clear M;obtain⟨k,hk,hx,ys,hM,hP⟩:=hrel;rw[HQ.out]at hP;have hyl:ys.length=m:=by rw[hM.len,HN.out]
    have M:=Lib.hid (And.intro hM hP)
    by_cases h0:k=0
    ·subst h0
     rw[show((0:Nat):Int)-1 = -1 from rfl]at hx;subst hx;clear hM hP hyl;go_wp2_with fail
     go_end0
     exact⟨rfl,ys,M.out.1.mix,by have:=M.out.2.done;rwa [← HBN.out]at this,M.out.1.own,M.out.1.upd⟩
    ·obtain⟨j,rfl⟩:∃ j,k=j+1:=⟨k-1,by omega⟩
     rw[show((j+1:Nat):Int)-1=j by omega]at hx;subst hx;clear h0 hP;have hg:=hM.own.lt;have c1:=hM.own.cell a (by omega);have f1:=hM.own.frozen (o+a)
     by_cases hj:j=0
     ·subst hj
      have b1:(a:Int)<m:=by omega
      have w1:=i64_nat a (by omega);clear hM hyl;go_wp2_with fail
      go_region
      all_goals go_wp2_with fail
      all_goals
       have M2:=Lib.hid (M.out.1.swap a a (Nat.le_refl _) (by have:=HBN.out;omega) (by omega) (by have:=HBN.out;omega) (by rw[HN.out];exact HB.out))
       generalize ((wr.setCell ⟨g,o+a,none⟩ (.int .u64 (at0 ys a))).setCell ⟨g,o+a,none⟩ (.int .u64 (at0 ys a))).drew=wz at *
       (with_reducible refine(HS00.out _ (swp ys a a) M2.out.own (by rw[M2.out.len,HN.out]) (by have:=HBN.out;omega) (by have:=heap_swap M.out.2.heap (by rw[M.out.1.len,HN.out];have:=HBN.out;have:=HB.out;omega);rwa [Nat.add_zero]at this)).mono ?_)
       rintro e w1 ⟨rfl,zs,m1,hp1⟩;have M3:Hid (PopSt w g o c xs a b 0 w1):=Lib.hid ⟨zs,M2.out.trans (m1.mono (by omega) (by have:=HBN.out;omega)),by rw[HQ.out];exact M.out.2.step (by omega) (by rw[M.out.1.len,HN.out,← HBN.out];exact HB.out) (by skip;have:=m1.mix;exact this) hp1⟩;clear m1 hp1;go_wp2_with fail
       go_roundw
       case rel=>exact⟨0,by omega,rfl,M3.out⟩
       case measure=>first | (simp[intOf];done) | (simp[intOf];omega)
     ·obtain⟨p,hp⟩:∃ p,a+j=p:=⟨_,rfl⟩
      have q6:(a:Int)+j=p:=by omega
      have c2:=hM.own.cell p (by omega);have f2:=hM.own.frozen (o+p);have hne:¬ o+p=o+a:=by omega
      have b1:(p:Int)<m:=by omega
      have w1:=i64_nat p (by omega);have HP:=Lib.hid hp;clear hM hyl hp;go_wp2_with fail
      go_region
      all_goals go_wp2_with fail
      all_goals
       have M2:=Lib.hid (M.out.1.swap a p (Nat.le_refl _) (by have:=HBN.out;omega) (by omega) (by have:=HBN.out;omega) (by rw[HN.out];exact HB.out))
       generalize ((wr.setCell ⟨g,o+a,none⟩ (.int .u64 (at0 ys p))).setCell ⟨g,o+p,none⟩ (.int .u64 (at0 ys a))).drew=wz at *
       (with_reducible refine(HS0.out _ (swp ys a p) M2.out.own (by rw[M2.out.len,HN.out]) j (by have:=HBN.out;omega) (by have:=heap_swap M.out.2.heap (by rw[M.out.1.len,HN.out];have:=HBN.out;have:=HB.out;omega);rwa [HP.out]at this)).mono ?_)
       rintro e w1 ⟨rfl,zs,m1,hp1⟩;have M3:Hid (PopSt w g o c xs a b j w1):=Lib.hid ⟨zs,M2.out.trans (m1.mono (by omega) (by have:=HBN.out;omega)),by rw[HQ.out];exact M.out.2.step (by omega) (by rw[M.out.1.len,HN.out,← HBN.out];exact HB.out) (by rw[HP.out];have:=m1.mix;rwa [HP.out]at this) hp1⟩;clear m1 hp1;go_wp2_with fail
       go_roundw
       case rel=>exact⟨j,by omega,rfl,M3.out⟩
       case measure=>first | (simp[intOf];done) | (simp[intOf];omega)
  ·obtain⟨j,rfl⟩:∃ j,k=j+1:=⟨k-1,by omega⟩
   rw[show((j+1:Nat):Int)-1=j by omega]at hx;subst hx;clear h0;go_wp2_with fail
   (with_reducible refine(HS.out _ ys M.out.1.own (by rw[M.out.1.len,HN.out]) j n (by have:=HH.out;omega) (by have:=M.out.2;rw[HQ.out]at this;exact this.but)).mono ?_)
   rintro e w1 ⟨rfl,zs,m1,hp1⟩;have M1:Hid (HeapSt w g o c xs a b j w1):=Lib.hid ⟨zs,M.out.1.trans (m1.mono (by omega) (by rw[HBN.out];exact Nat.le_refl _)),by rw[HQ.out];exact hp1⟩;clear m1 hp1;go_wp2_with fail
   go_roundw
   case rel=>exact⟨j,by omega,rfl,M1.out⟩
   case measure=>first | (simp[intOf];done) | (simp[intOf];omega)
end
end
end Go.Proofs.YtlhchkajjpefmaaGreatDoor
