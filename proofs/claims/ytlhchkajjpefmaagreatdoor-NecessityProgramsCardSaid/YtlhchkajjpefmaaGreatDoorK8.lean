/- Lemmas and walks, part 8: each theorem says what it proves; no condition beside its own. -/
import Derived.Test.YtlhchkajjpefmaaGreatDoorK7
set_option maxHeartbeats 16000000
set_option maxRecDepth 100000
namespace Go.Proofs.YtlhchkajjpefmaaGreatDoor
open Lib(hid)
open Go.RowKit Go.Proofs.Tryz
section
section
variable{w:World}
theorem Qsm(s:Sup)(l1:0<=s.lin)(l2:s.lin<=4096)(r1:0<=s.redo)(r2:s.redo<=4096)(u1:0<=s.und)(u2:s.und<=4096)(d1:0<=s.desc)(d2:s.desc<=4096)(q1:0<=s.que)(q2:s.que<=4096)(t1:0<=s.tab)(t2:s.tab<=4096) :
  Calls prog 222 #[.agg s.cells] w fun r w'=>r = .returned (.int .i64 s.heap)/\Below w.heap.size w w':=by
 obtain⟨ver,lin,redo,und,desc,que,tab,gen⟩:=s;simp only at l1 l2 r1 r2 u1 u2 d1 d2 q1 q2 t1 t2;unfold Sup.cells
 by_cases h:lin-2-8-redo-und-desc-1-que-tab<32
 ·go_enter func222,ntmps222
  go_wp2_with fail
  go_ret
  exact⟨Xm (by simp[Sup.heap,Sup.rest,h]),Qa _ _⟩
 ·go_enter func222,ntmps222
  go_wp2_with fail
  go_ret
  exact⟨Xm (by unfold Sup.heap;rw[if_neg (by unfold Sup.rest;simp only;omega)];rfl),Qa _ _⟩
def mnI(x y:Int):Int:=if y<x then y else x
def mxI(x y:Int):Int:=if y>x then y else x
theorem Pd(x y:Int):mnI x y=min x y:=by unfold mnI;split <;> omega
theorem Et(x y:Int):mxI x y=max x y:=by unfold mxI;split <;> omega
theorem Ke{P:Program}(w:World)(ts:Array TypeId)(t:TypeId)(k:IntKind)(a b c d e:Int):(Builtin.max_ ts t #[.int k a,.int k b,.int k c,.int k d,.int k e]).run P w = .ok (.int k (mxI (mxI (mxI (mxI a b) c) d) e)) w:=by
 simp[Builtin.max_,Builtin.max2,mxI]
theorem Sup.okB_false{s:Sup}(h:¬ s.Ok):s.okB=false:=by unfold Sup.okB;simpa using h
theorem Sup.okB_true{s:Sup}(h:s.Ok):s.okB=true:=by unfold Sup.okB;simpa using h
theorem Qd5(s:Sup):Calls prog 199 #[.agg s.cells] w fun r w'=>r = .returned (.bool s.okB)/\Below w.heap.size w w':=by
 by_cases h1:s.ver<1
 ·have E:=hid (Sup.okB_false (s:=s) (fun h=>by(try simp only[Pd,Et]at *);have:=h.v1;omega))
  obtain⟨ver,lin,redo,und,desc,que,tab,gen⟩:=s;unfold Sup.cells;simp only at h1;have e1:decide (ver<1)=true:=by simpa using h1
  have hm1:(if und<redo then und else redo)=mnI redo und:=rfl;have hm2:(if desc<mnI redo und then desc else mnI redo und)=mnI (mnI redo und) desc:=rfl;have hm3:(if tab<que then tab else que)=mnI que tab:=rfl;have hmx:=fun(w:World) (ts:Array TypeId) (t:TypeId)=>Ke (P:=prog) w ts t .i64 redo und desc que tab
  go_enter func199,ntmps199
  go_wp2_with fail
  go_ret
  exact⟨Qx E.out.symm,Qa _ _⟩
 by_cases h2:65535<s.ver
 ·have E:=hid (Sup.okB_false (s:=s) (fun h=>by(try simp only[Pd,Et]at *);have:=h.v2;omega))
  obtain⟨ver,lin,redo,und,desc,que,tab,gen⟩:=s;unfold Sup.cells;simp only at h1 h2;have e1:decide (ver<1)=false:=by simpa using h1
  have e2:decide (65535<ver)=true:=by simpa using h2
  have hm1:(if und<redo then und else redo)=mnI redo und:=rfl;have hm2:(if desc<mnI redo und then desc else mnI redo und)=mnI (mnI redo und) desc:=rfl;have hm3:(if tab<que then tab else que)=mnI que tab:=rfl;have hmx:=fun(w:World) (ts:Array TypeId) (t:TypeId)=>Ke (P:=prog) w ts t .i64 redo und desc que tab
  go_enter func199,ntmps199
  go_wp2_with fail
  go_ret
  exact⟨Qx E.out.symm,Qa _ _⟩
 by_cases h3:s.lin<1
 ·have E:=hid (Sup.okB_false (s:=s) (fun h=>by(try simp only[Pd,Et]at *);have:=h.l1;omega))
  obtain⟨ver,lin,redo,und,desc,que,tab,gen⟩:=s;unfold Sup.cells;simp only at h1 h2 h3;have e1:decide (ver<1)=false:=by simpa using h1
  have e2:decide (65535<ver)=false:=by simpa using h2
  have e3:decide (lin<1)=true:=by simpa using h3
  have hm1:(if und<redo then und else redo)=mnI redo und:=rfl;have hm2:(if desc<mnI redo und then desc else mnI redo und)=mnI (mnI redo und) desc:=rfl;have hm3:(if tab<que then tab else que)=mnI que tab:=rfl;have hmx:=fun(w:World) (ts:Array TypeId) (t:TypeId)=>Ke (P:=prog) w ts t .i64 redo und desc que tab
  go_enter func199,ntmps199
  go_wp2_with fail
  go_ret
  exact⟨Qx E.out.symm,Qa _ _⟩
 by_cases h4:4096<s.lin
 ·have E:=hid (Sup.okB_false (s:=s) (fun h=>by(try simp only[Pd,Et]at *);have:=h.l2;omega))
  obtain⟨ver,lin,redo,und,desc,que,tab,gen⟩:=s;unfold Sup.cells;simp only at h1 h2 h3 h4;have e1:decide (ver<1)=false:=by simpa using h1
  have e2:decide (65535<ver)=false:=by simpa using h2
  have e3:decide (lin<1)=false:=by simpa using h3
  have e4:decide (4096<lin)=true:=by simpa using h4
  have hm1:(if und<redo then und else redo)=mnI redo und:=rfl;have hm2:(if desc<mnI redo und then desc else mnI redo und)=mnI (mnI redo und) desc:=rfl;have hm3:(if tab<que then tab else que)=mnI que tab:=rfl;have hmx:=fun(w:World) (ts:Array TypeId) (t:TypeId)=>Ke (P:=prog) w ts t .i64 redo und desc que tab
  go_enter func199,ntmps199
  go_wp2_with fail
  go_ret
  exact⟨Qx E.out.symm,Qa _ _⟩
 by_cases h5:mnI (mnI s.redo s.und) s.desc<1
 ·have E:=hid (Sup.okB_false (s:=s) (fun h=>by(try simp only[Pd]at *);have:=h.r1;have:=h.u1;have:=h.d1;omega))
  obtain⟨ver,lin,redo,und,desc,que,tab,gen⟩:=s;unfold Sup.cells;simp only at h1 h2 h3 h4 h5;have e1:decide (ver<1)=false:=by simpa using h1
  have e2:decide (65535<ver)=false:=by simpa using h2
  have e3:decide (lin<1)=false:=by simpa using h3
  have e4:decide (4096<lin)=false:=by simpa using h4
  have e5:decide (mnI (mnI redo und) desc<1)=true:=by simpa using h5
  have hm1:(if und<redo then und else redo)=mnI redo und:=rfl;have hm2:(if desc<mnI redo und then desc else mnI redo und)=mnI (mnI redo und) desc:=rfl;have hm3:(if tab<que then tab else que)=mnI que tab:=rfl;have hmx:=fun(w:World) (ts:Array TypeId) (t:TypeId)=>Ke (P:=prog) w ts t .i64 redo und desc que tab
  go_enter func199,ntmps199
  go_wp2_with fail
  go_ret
  exact⟨Qx E.out.symm,Qa _ _⟩
 by_cases h6:mnI s.que s.tab<0
 ·have E:=hid (Sup.okB_false (s:=s) (fun h=>by(try simp only[Pd]at *);have:=h.q1;have:=h.t1;omega))
  obtain⟨ver,lin,redo,und,desc,que,tab,gen⟩:=s;unfold Sup.cells;simp only at h1 h2 h3 h4 h5 h6;have e1:decide (ver<1)=false:=by simpa using h1
  have e2:decide (65535<ver)=false:=by simpa using h2
  have e3:decide (lin<1)=false:=by simpa using h3
  have e4:decide (4096<lin)=false:=by simpa using h4
  have e5:decide (mnI (mnI redo und) desc<1)=false:=by simpa using h5
  have e6:decide (mnI que tab<0)=true:=by simpa using h6
  have hm1:(if und<redo then und else redo)=mnI redo und:=rfl;have hm2:(if desc<mnI redo und then desc else mnI redo und)=mnI (mnI redo und) desc:=rfl;have hm3:(if tab<que then tab else que)=mnI que tab:=rfl;have hmx:=fun(w:World) (ts:Array TypeId) (t:TypeId)=>Ke (P:=prog) w ts t .i64 redo und desc que tab
  go_enter func199,ntmps199
  go_wp2_with fail
  go_ret
  exact⟨Qx E.out.symm,Qa _ _⟩
 by_cases h7:s.lin<mxI (mxI (mxI (mxI s.redo s.und) s.desc) s.que) s.tab
 ·have E:=hid (Sup.okB_false (s:=s) (fun h=>by(try simp only[Pd,Et]at *);have:=h.r2;have:=h.u2;have:=h.d2;have:=h.q2;have:=h.t2;omega))
  obtain⟨ver,lin,redo,und,desc,que,tab,gen⟩:=s;unfold Sup.cells;simp only at h1 h2 h3 h4 h5 h6 h7;have e1:decide (ver<1)=false:=by simpa using h1
  have e2:decide (65535<ver)=false:=by simpa using h2
  have e3:decide (lin<1)=false:=by simpa using h3
  have e4:decide (4096<lin)=false:=by simpa using h4
  have e5:decide (mnI (mnI redo und) desc<1)=false:=by simpa using h5
  have e6:decide (mnI que tab<0)=false:=by simpa using h6
  have e7:decide (lin<mxI (mxI (mxI (mxI redo und) desc) que) tab)=true:=by simpa using h7
  have hm1:(if und<redo then und else redo)=mnI redo und:=rfl;have hm2:(if desc<mnI redo und then desc else mnI redo und)=mnI (mnI redo und) desc:=rfl;have hm3:(if tab<que then tab else que)=mnI que tab:=rfl;have hmx:=fun(w:World) (ts:Array TypeId) (t:TypeId)=>Ke (P:=prog) w ts t .i64 redo und desc que tab
  go_enter func199,ntmps199
  go_wp2_with fail
  go_ret
  exact⟨Qx E.out.symm,Qa _ _⟩
 have k5:=h5;have k6:=h6;have k7:=h7
 simp only[Pd,Et]at k5 k6 k7;have HH:=hid (fun wx=>Qsm (w:=wx) s (by omega) (by omega) (by omega) (by omega) (by omega) (by omega) (by omega) (by omega) (by omega) (by omega) (by omega) (by omega));have E:Hid (s.okB=decide (32<=s.heap)):=by
  show s.okB=decide (32<=s.heap)
  unfold Sup.okB;rw[decide_eq_decide]
  constructor
  ·intro h;have:=h.h;unfold Sup.heap;rw[if_neg (by omega)];omega
  ·intro h
   refine⟨by omega,by omega,by omega,by omega,by omega,by omega,by omega,by omega,by omega,by omega,by omega,by omega,by omega,by omega,?_⟩
   unfold Sup.heap at h
   split at h <;> omega
 generalize hhp:s.heap=hp at *
 generalize s.okB=ob at *
 clear hhp k5 k6 k7;obtain⟨ver,lin,redo,und,desc,que,tab,gen⟩:=s;unfold Sup.cells at *;simp only at h1 h2 h3 h4 h5 h6 h7;have e1:decide (ver<1)=false:=by simpa using h1
 have e2:decide (65535<ver)=false:=by simpa using h2
 have e3:decide (lin<1)=false:=by simpa using h3
 have e4:decide (4096<lin)=false:=by simpa using h4
 have e5:decide (mnI (mnI redo und) desc<1)=false:=by simpa using h5
 have e6:decide (mnI que tab<0)=false:=by simpa using h6
 have e7:decide (lin<mxI (mxI (mxI (mxI redo und) desc) que) tab)=false:=by simpa using h7
 have hm1:(if und<redo then und else redo)=mnI redo und:=rfl;have hm2:(if desc<mnI redo und then desc else mnI redo und)=mnI (mnI redo und) desc:=rfl;have hm3:(if tab<que then tab else que)=mnI que tab:=rfl;have hmx:=fun(w:World) (ts:Array TypeId) (t:TypeId)=>Ke (P:=prog) w ts t .i64 redo und desc que tab
 go_enter func199,ntmps199
 go_wp2_with fail
 (with_reducible refine(HH.out _).mono ?_)
 rintro e w1 ⟨rfl,b1⟩;have B1:=hid ((Qa w _).trans (b1.mono (by simp)));clear b1;go_wp2_with fail
 go_ret
 exact⟨Qx E.out.symm,B1.out⟩
end
end

section
def Jl(acc:List Int)(x:Int):List Int:=if acc.getLast? = some x then acc else acc ++ [x]
def Gm(xs:List Int):List Int:=xs.foldl Jl []
theorem Qb9(xs:List Int)(x:Int):Gm (xs ++ [x])=Jl (Gm xs) x:=by unfold Gm;rw[List.foldl_append];rfl
theorem Qca(acc:List Int)(x:Int):(Jl acc x).getLast? = some x:=by
 unfold Jl
 split
 ·assumption
 ·simp
theorem Ql8(xs:List Int):(Gm xs).getLast? = xs.getLast?:=by
 rcases List.eq_nil_or_concat xs with rfl | ⟨l,x,rfl⟩
 ·rfl
 ·rw[List.concat_eq_append,Qb9,Qca];simp
theorem Sd(xs:List Int)(k:Nat)(hk:k+1<xs.length) :
  Gm (xs.take (k+2))=if xs[k+1]! = xs[k]! then Gm (xs.take (k+1))else Gm (xs.take (k+1)) ++ [xs[k+1]!]:=by
 have e1:xs.take (k+2)=xs.take (k+1) ++ [xs[k+1]!]:=by
  rw[List.take_add_one,List.getElem?_eq_getElem hk,getElem!_pos xs (k+1) hk];rfl
 have e2:(Gm (xs.take (k+1))).getLast? = some xs[k]!:=by
  have e3:xs.take (k+1)=xs.take k ++ [xs[k]!]:=by
   rw[List.take_add_one,List.getElem?_eq_getElem (by omega:k<xs.length),getElem!_pos xs k (by omega)];rfl
  rw[Ql8,e3];simp
 rw[e1,Qb9];unfold Jl;rw[e2]
 by_cases h:xs[k+1]! = xs[k]!
 ·rw[if_pos h,if_pos (by rw[h])]
 ·rw[if_neg h,if_neg (fun e=>h (Option.some.inj e).symm)]
theorem Qrt(xs:List Int)(h:0<xs.length):Gm (xs.take 1)=xs.take 1:=by
 match xs,h with
 | x::l,_=>simp[Gm,Jl]
theorem Qtc(xs:List Int)(x:Int):x∈Gm xs↔x∈xs:=by
 have key:∀ (l acc:List Int),x∈l.foldl Jl acc↔x∈acc\/x∈l:=by
  intro l
  induction l with
  | nil=>intro acc;simp
  | cons y l ih=>
   intro acc;rw[List.foldl_cons,ih];unfold Jl
   split
   ·rename_i h
    have hy:y∈acc:=List.mem_of_getLast? h
    constructor
    ·rintro(h | h)
     ·exact .inl h
     ·exact .inr (by simp[h])
    ·rintro(h | h)
     ·exact .inl h
     ·rcases List.mem_cons.1 h with rfl | h
      ·exact .inl hy
      ·exact .inr h
   ·simp only[List.mem_append,List.mem_cons,List.not_mem_nil,or_false]
    constructor
    ·rintro((h | h) | h)
     ·exact .inl h
     ·exact .inr (.inl h)
     ·exact .inr (.inr h)
    ·rintro(h | h | h)
     ·exact .inl (.inl h)
     ·exact .inl (.inr h)
     ·exact .inr h
 unfold Gm;rw[key];simp
structure Yv(xs ys:List Int)(q i:Nat):Prop where
 len:ys.length=xs.length
 pre:ys.take i=Gm (xs.take q)
 rest:∀ j,q<=j+1->ys[j]? = xs[j]?
 lt:i<q
 le:q<=xs.length
theorem Yv.skip{xs ys:List Int}{q i:Nat}(h:Yv xs ys (q+1) i)(hq:q+1<xs.length)(e:xs[q+1]! = xs[q]!):Yv xs ys (q+2) i:=
 ⟨h.len,by rw[Sd xs q hq,if_pos e];exact h.pre,fun j hj=>h.rest j (by omega),by have:=h.lt;omega,by omega⟩
theorem Yv.keep{xs ys:List Int}{q i:Nat}(h:Yv xs ys (q+1) i)(hq:q+1<xs.length)(e:¬ xs[q+1]! = xs[q]!):Yv xs (ys.set i xs[q+1]!) (q+2) (i+1):=by
 have hi:=h.lt;have hl:=h.len
 refine⟨by simp[hl],?_,fun j hj => ?_,by omega,by omega⟩
 ·rw[Sd xs q hq,if_neg e,<- h.pre,List.take_add_one,List.take_set_of_le (Nat.le_refl _),List.getElem?_set]
  simp;omega
 ·rw[List.getElem?_set,if_neg (by omega)];exact h.rest j (by omega)
end
section
def at0(l:List Int)(i:Nat):Int:=l.getD i 0
def Uv(l:List Int)(a b:Nat):Prop:=∀ p q,a<=p->p<q->q<b->at0 l p<=at0 l q
structure Yi(xs ys:List Int)(a b:Nat):Prop where
 perm:ys.Perm xs
 out:∀ p,p<a\/b<=p->at0 ys p=at0 xs p
theorem Yi.refl(xs:List Int)(a b:Nat):Yi xs xs a b:=⟨.refl _,fun _ _=>rfl⟩
theorem Yi.trans{xs ys zs:List Int}{a b:Nat}(h:Yi xs ys a b)(k:Yi ys zs a b):Yi xs zs a b:=⟨k.perm.trans h.perm,fun p hp=>(k.out p hp).trans (h.out p hp)⟩
theorem Yi.len{xs ys:List Int}{a b:Nat}(h:Yi xs ys a b):ys.length=xs.length:=h.perm.length_eq
theorem Yi.mono{xs ys:List Int}{a b a' b':Nat}(h:Yi xs ys a b)(h1:a'<=a)(h2:b<=b'):Yi xs ys a' b':=⟨h.perm,fun p hp=>h.out p (by omega)⟩
def swp(l:List Int)(i j:Nat):List Int:=(l.set i (at0 l j)).set j (at0 l i)
theorem Hz(l:List Int)(i j:Nat):(swp l i j).length=l.length:=by simp[swp]
theorem Qlv(l:List Int)(i:Nat)(x:Int)(k:Nat)(hi:i<l.length):at0 (l.set i x) k=if k=i then x else at0 l k:=by
 unfold at0;simp only[List.getD,List.getElem?_set]
 by_cases e:i=k
 ·subst e;simp[hi]
 ·rw[if_neg e,if_neg (fun h=>e h.symm)]
theorem Ub(l:List Int)(i j k:Nat)(hi:i<l.length)(hj:j<l.length):at0 (swp l i j) k=if k=j then at0 l i else if k=i then at0 l j else at0 l k:=by
 unfold swp;rw[Qlv _ _ _ _ (by simpa using hj),Qlv _ _ _ _ hi]
theorem Qug(l:List Int)(i j:Nat)(hi:i<l.length)(hj:j<l.length):(swp l i j).Perm l:=by
 have e1:at0 l j=l[j]:=by simp[at0,List.getD,hj]
 have e2:at0 l i=l[i]:=by simp[at0,List.getD,hi]
 unfold swp;rw[e1,e2]
 exact List.set_set_perm hi hj
theorem Qd1(l:List Int)(i j a b:Nat)(hi:i<l.length)(hj:j<l.length)(h1:a<=i)(h2:i<b)(h3:a<=j)(h4:j<b):Yi l (swp l i j) a b:=
 ⟨Qug l i j hi hj,fun p hp=>by rw[Ub l i j p hi hj,if_neg (by omega),if_neg (by omega)]⟩
def Tq(l:List Int)(a i j:Nat):Prop:=(∀ p q,a<=p->p<q->q<=i->p≠j->q≠j->at0 l p<=at0 l q)/\∀ q,j<q->q<=i->at0 l j<=at0 l q
theorem Pb(l:List Int)(a i:Nat)(h:Uv l a i):Tq l a i i:=⟨fun p q h1 h2 h3 _ h5=>h p q h1 h2 (by omega),fun q h1 h2=>by omega⟩
theorem Bj(l:List Int)(a i j:Nat)(h:Tq l a i j)(haj:a<j)(hji:j<=i)(hil:i<l.length)(hlt:at0 l j<at0 l (j-1)):Tq (swp l j (j-1)) a i (j-1):=by
 have e:=fun k=>Ub l j (j-1) k (by omega) (by omega)
 refine⟨fun p q h1 h2 h3 h4 h5 => ?_,fun q h1 h2 => ?_⟩
 ·rw[e,e,if_neg h4,if_neg h5]
  by_cases ep:p=j
  ·rw[if_pos ep,if_neg (by omega)];exact h.1 (j-1) q (by omega) (by omega) h3 (by omega) (by omega)
  ·rw[if_neg ep]
   by_cases eq:q=j
   ·rw[if_pos eq];exact h.1 p (j-1) h1 (by omega) (by omega) ep (by omega)
   ·rw[if_neg eq];exact h.1 p q h1 h2 h3 ep eq
 ·rw[e,e,if_pos rfl,if_neg (by omega)]
  by_cases eq:q=j
  ·rw[if_pos eq];omega
  ·rw[if_neg eq];exact h.2 q (by omega) h2
theorem El(l:List Int)(a i j:Nat)(h:Tq l a i j)(haj:a<=j)(hji:j<=i)(hj:j=a\/at0 l (j-1)<=at0 l j):Uv l a (i+1):=by
 intro p q h1 h2 h3
 by_cases ep:p=j
 ·subst ep;exact h.2 q h2 (by omega)
 ·by_cases eq:q=j
  ·subst eq
   rcases hj with hj | hj
   ·omega
   ·by_cases e:p=q-1
    ·rw[e];exact hj
    ·exact Int.le_trans (h.1 p (q-1) h1 (by omega) (by omega) ep (by omega)) hj
  ·exact h.1 p q h1 h2 (by omega) ep eq
end
section
def Zw(l:List Nat):List Value:=l.map fun(n:Nat)=>Value.int .u64 n
theorem Ya{l:List Nat}{i n:Nat}(h:l[i]? = some n):(Zw l)[i]? = some (.int .u64 n):=by simp[Zw,h]
def Ac(out:List Nat)(l:Nat):Nat:=(out.takeWhile fun x=>decide (x<l)).length
theorem Qxr(out:List Nat)(l:Nat):Ac out l<=out.length:=(List.takeWhile_sublist _).length_le
theorem Qxs(out:List Nat)(l i x:Nat)(hi:i<Ac out l)(h:out[i]? = some x):x<l:=by
 induction out generalizing i with
 | nil=>simp at h
 | cons y out ih=>
  unfold Ac at hi
  by_cases hy:y<l
  ·rw[List.takeWhile_cons_of_pos (by simpa using hy),List.length_cons]at hi
   cases i with
   | zero=>simp at h;omega
   | succ i=>exact ih i (by unfold Ac;omega) (by simpa using h)
  ·rw[List.takeWhile_cons_of_neg (by simpa using hy)]at hi;simp at hi
theorem Qxq(out:List Nat)(l x:Nat)(h:out[Ac out l]? = some x):¬ x<l:=by
 induction out with
 | nil=>simp at h
 | cons y out ih=>
  unfold Ac at h
  by_cases hy:y<l
  ·rw[List.takeWhile_cons_of_pos (by simpa using hy),List.length_cons,List.getElem?_cons_succ]at h
   exact ih h
  ·rw[List.takeWhile_cons_of_neg (by simpa using hy)]at h;simp at h;omega
def Qag(out:List Nat)(l:Nat):List Nat:=if out[Ac out l]? = some l then out else out.take (Ac out l)++l::out.drop (Ac out l)
def Zh(offs:List Nat):List Nat:=offs.foldl (fun out o=>Qag out (o/64)) []
theorem Qsv(out:List Nat)(l:Nat):(Qag out l).length<=out.length+1:=by
 have:=Qxr out l;unfold Qag;split
 ·omega
 ·simp;omega
theorem Qjl(offs:List Nat):∀ out:List Nat,(offs.foldl (fun out o=>Qag out (o/64)) out).length<=out.length+offs.length:=by
 induction offs with
 | nil=>intro out;simp
 | cons o offs ih=>intro out;have h1:=ih (Qag out (o/64));have h2:=Qsv out (o/64);simp only[List.foldl_cons,List.length_cons];omega
theorem Eo(offs:List Nat):(Zh offs).length<=offs.length:=by have:=Qjl offs [];simpa [Zh]using this
theorem Qn4(offs:List Nat)(B:Nat)(h:∀ o∈offs,o/64<B):∀ out:List Nat,(∀ l∈out,l<B)->∀ l∈offs.foldl (fun out o=>Qag out (o/64)) out,l<B:=by
 induction offs with
 | nil=>intro out ho;exact ho
 | cons o offs ih=>
  intro out ho;refine ih (fun x hx=>h x (by simp[hx])) (Qag out (o/64)) (fun l hl => ?_)
  unfold Qag at hl
  split at hl
  ·exact ho l hl
  ·rcases List.mem_append.1 hl with h1 | h1
   ·exact ho l (List.mem_of_mem_take h1)
   ·rcases List.mem_cons.1 h1 with rfl | h1
    ·exact h o (by simp)
    ·exact ho l (List.mem_of_mem_drop h1)
theorem Gy(offs:List Nat)(B:Nat)(h:∀ o∈offs,o/64<B):∀ l∈Zh offs,l<B:=Qn4 offs B h [] (by simp)
def Zs(offs:List Nat):List (Nat×Nat×Int):=if Zh offs = []then []else((Zh offs).map fun l=>(2,64*l,0)) ++ [(3,0,0)]
def Qe(ws:List (Nat×Int)):List (Nat×Nat×Int):=(ws.map fun e=>(1,e.1,e.2))++Zs (ws.map (·.1))
end
section
theorem Qlt:∀ (l m:List Int),l.Pairwise (· < ·)->m.Pairwise (· < ·)->(∀ x,x∈l↔x∈m)->l=m
 | [],[],_,_,_=>rfl
 | [],y::m,_,_,h=>by have:=(h y).2 (by simp);simp at this
 | x::l,[],_,_,h=>by have:=(h x).1 (by simp);simp at this
 | x::l,y::m,hl,hm,h=>by
  rw[List.pairwise_cons]at hl hm;have hxy:x=y:=by
   rcases List.mem_cons.1 ((h x).1 (by simp))with h1 | h1
   ·exact h1
   ·rcases List.mem_cons.1 ((h y).2 (by simp))with h2 | h2
    ·exact h2.symm
    ·have h3:=hm.1 x h1;have h4:=hl.1 y h2;omega
  subst hxy;rw[Qlt l m hl.2 hm.2 (fun z=>by
   have hz:=h z;simp only[List.mem_cons]at hz
   constructor
   ·intro k
    rcases hz.1 (.inr k)with e | e
    ·have:=hl.1 z k;omega
    ·exact e
   ·intro k
    rcases hz.2 (.inr k)with e | e
    ·have:=hm.1 z k;omega
    ·exact e)]
theorem Qrr:∀ (l acc:List Int),acc.Pairwise (· < ·)->l.Pairwise (· <= ·)->(∀ a∈acc,∀ x∈l,a<=x)->(l.foldl Jl acc).Pairwise (· < ·):=by
 intro l
 induction l with
 | nil=>intro acc h _ _;exact h
 | cons x l ih=>
  intro acc ha hl hal;rw[List.pairwise_cons]at hl;have hle:∀ a∈acc,∀ y∈l,a<=y:=fun a h y hy=>hal a h y (by simp[hy])
  rw[List.foldl_cons];unfold Jl
  split
  ·exact ih acc ha hl.2 hle
  ·rename_i hne
   refine ih _ ?_ hl.2 ?_
   ·rw[List.pairwise_append]
    refine⟨ha,by simp,fun a h y hy => ?_⟩
    simp at hy;subst hy
    have hay:=hal a h y (by simp)
    rcases List.eq_nil_or_concat acc with e | ⟨i,z,e⟩
    ·subst e;simp at h
    ·rw[List.concat_eq_append]at e;subst e
     have hz:z≠y:=fun e=>hne (by simp[e])
     have hzy:=hal z (by simp) y (by simp);rw[List.pairwise_append]at ha
     rcases List.mem_append.1 h with h1 | h1
     ·have:=ha.2.2 a h1 z (by simp);omega
     ·simp at h1;omega
   ·intro a h y hy
    rcases List.mem_append.1 h with h1 | h1
    ·exact hle a h1 y hy
    ·simp at h1;subst h1;exact hl.1 y hy
theorem Qrs(l:List Int)(h:l.Pairwise (· <= ·)):(Gm l).Pairwise (· < ·):=Qrr l [] (by simp) h (by simp)
theorem Qrh(l:List Int)(h:Uv l 0 l.length):l.Pairwise (· <= ·):=by
 rw[List.pairwise_iff_getElem];intro i j hi hj hij;have:=h i j (by omega) hij hj;simpa [at0,List.getD,hi,hj]using this
theorem Qsw(out:List Nat)(l x:Nat):x∈Qag out l↔x=l\/x∈out:=by
 unfold Qag
 split
 ·rename_i h
  have:=List.mem_of_getElem? h
  constructor
  ·exact .inr
  ·rintro(e | e)
   ·subst e;exact this
   ·exact e
 ·have e:out=out.take (Ac out l)++out.drop (Ac out l):=(List.take_append_drop _ _).symm
  constructor
  ·intro h
   rcases List.mem_append.1 h with h | h
   ·exact .inr (List.mem_of_mem_take h)
   ·rcases List.mem_cons.1 h with h | h
    ·exact .inl h
    ·exact .inr (List.mem_of_mem_drop h)
  ·rintro(h | h)
   ·subst h;simp
   ·rw[e]at h
    rcases List.mem_append.1 h with h | h
    ·exact List.mem_append.2 (.inl h)
    ·exact List.mem_append.2 (.inr (by simp[h]))
theorem Qsu(out:List Nat)(l:Nat)(h:out.Pairwise (· < ·)):(Qag out l).Pairwise (· < ·):=by
 unfold Qag
 split
 ·exact h
 ·rename_i hne
  have e:out=out.take (Ac out l)++out.drop (Ac out l):=(List.take_append_drop _ _).symm;have h':=h;rw[e,List.pairwise_append]at h';obtain⟨h1,h2,h3⟩:=h';have lo:∀ a∈out.take (Ac out l),a<l:=fun a ha=>by
   obtain⟨i,hi,hx⟩:=List.getElem_of_mem ha;rw[List.length_take]at hi;exact Qxs out l i a (by omega) (by rw[<- hx,List.getElem_take];exact List.getElem?_eq_getElem (by omega))
  have hi:∀ a∈out.drop (Ac out l),l<a:=fun a ha=>by
   obtain⟨i,hi,hx⟩:=List.getElem_of_mem ha;rw[List.length_drop]at hi;have h0:out[Ac out l]? = some out[Ac out l]:=List.getElem?_eq_getElem (by omega);have h4:=Qxq out l _ h0;have h5:out[Ac out l]≠l:=fun e=>hne (by rw[h0,e])
   rw[List.getElem_drop]at hx
   rcases Nat.eq_zero_or_pos i with e0 | e0
   ·subst e0;simp only[Nat.add_zero]at hx;omega
   ·have:=List.pairwise_iff_getElem.1 h (Ac out l) (Ac out l+i) (by omega) (by omega) (by omega)
    omega
  rw[List.pairwise_append,List.pairwise_cons];refine⟨h1,⟨hi,h2⟩,fun a ha b hb => ?_⟩
  have hal:=lo a ha
  rcases List.mem_cons.1 hb with e | hb
  ·omega
  ·have:=hi b hb;omega
theorem Qjk(offs:List Nat):∀ out:List Nat,out.Pairwise (· < ·)->(offs.foldl (fun out o=>Qag out (o/64)) out).Pairwise (· < ·):=by
 induction offs with
 | nil=>intro out h;exact h
 | cons o offs ih=>intro out h;exact ih _ (Qsu out _ h)
theorem Qjm(offs:List Nat)(x:Nat):∀ out:List Nat,x∈offs.foldl (fun out o=>Qag out (o/64)) out↔x∈out\/∃ o∈offs,o/64=x:=by
 induction offs with
 | nil=>intro out;simp
 | cons o offs ih=>
  intro out;rw[List.foldl_cons,ih,Qsw];simp only[List.mem_cons]
  constructor
  ·rintro((h | h) | ⟨p,hp,h⟩)
   ·exact .inr ⟨o,.inl rfl,h.symm⟩
   ·exact .inl h
   ·exact .inr ⟨p,.inr hp,h⟩
  ·rintro(h | ⟨p,hp | hp,h⟩)
   ·exact .inl (.inr h)
   ·subst hp;exact .inl (.inl h.symm)
   ·exact .inr ⟨p,hp,h⟩
theorem Qjn(offs:List Nat):(Zh offs).Pairwise (· < ·):=Qjk offs [] (by simp)
theorem Je(offs:List Nat)(x:Nat):x∈Zh offs↔∃ o∈offs,o/64=x:=by
 unfold Zh;rw[Qjm];simp
theorem Qaj(offs:List Nat)(ys:List Int)(hp:ys.Perm (offs.map fun o=>(((o-o%64:Nat)):Int)))(ha:Uv ys 0 ys.length):Gm ys=(Zh offs).map fun l=>((64*l:Nat):Int):=by
 refine Qlt _ _ (Qrs ys (Qrh ys ha)) ?_ (fun x => ?_)
 ·rw[List.pairwise_map]
  exact(Qjn offs).imp (fun h=>by omega)
 ·rw[Qtc,hp.mem_iff,List.mem_map,List.mem_map]
  constructor
  ·rintro⟨o,ho,rfl⟩
   exact⟨o/64,(Je _ _).2 ⟨o,ho,rfl⟩,by omega⟩
  ·rintro⟨l,hl,rfl⟩
   obtain⟨o,ho,rfl⟩:=(Je _ _).1 hl;exact⟨o,ho,by omega⟩
end

section
def Nib(w:World):Prop:=∀ i,i<16->w.cell? ⟨0,i,none⟩=some (.int .u32 (Qhs i:Nat))
theorem Nib.below{w w':World}(h:Nib w)(hb:Below w.heap.size w w'):Nib w':=fun i hi=>Zj hb (h i hi)
theorem Nib.lt{w:World}(h:Nib w):0<w.heap.size:=World.block_lt_of_cell? w _ (h 0 (by omega))
theorem Qb5(x n:Nat)(hx:x<4294967296)(hn:n<4294967296):bits .xor .u32 ((x:Int)/16) (n:Int)=((x/16 ^^^ n:Nat):Int):=by
 rw[show((x:Int)/16)=((x/16:Nat):Int)by omega];exact u32_xor_nat _ _ (by omega) hn
theorem Dw(x:Nat)(hx:x<4294967296):bits .and .u32 (x:Int) 15=((x%16:Nat):Int):=by
 have:=u32_and_nat x 15 hx (by omega);rw[nat_mask4]at this;exact this
theorem Qum(x:Nat)(h:x<4294967296):4294967295 ^^^ x=4294967295-x:=by
 have h1:(BitVec.allOnes 32 ^^^ BitVec.ofNat 32 x) = ~~~ (BitVec.ofNat 32 x):=BitVec.allOnes_xor;have h2:=congrArg BitVec.toNat h1;rw[BitVec.toNat_xor,BitVec.toNat_not,BitVec.toNat_allOnes,BitVec.toNat_ofNat,Nat.mod_eq_of_lt (by omega)]at h2;exact h2
theorem Qrm(x:Nat)(h:x<4294967296):bits .xor .u32 IntKind.u32.max (x:Int)=((4294967295-x:Nat):Int):=by
 have:=u32_xor_nat 4294967295 x (by omega) h;rw[Qum x h]at this;exact this
section
variable{w:World}
theorem Qe3(h:Nib w)(r b:Nat)(hr:r<4294967296)(hb:b<256):Calls prog 197 #[.int .u32 r,.int .u8 b] w fun e w'=>e = .returned (.int .u32 (Gp r b:Nat))/\w=w':=by
 have y1:=u32_xor_nat r b hr (by omega);have l1:=Qqv hr (show b<4294967296 by omega);have E:Gp r b=Ki (Ki (r ^^^ b)):=rfl
 generalize r ^^^ b=r1 at *
 have y2:=Dw r1 l1;have c1:=h (r1%16) (by omega);have y3:=Qb5 r1 (Qhs (r1%16)) l1 (Qfz _);have l2:=Nc r1 l1;have e2:r1/16 ^^^ Qhs (r1%16)=Ki r1:=rfl;rw[e2]at y3
 generalize Ki r1=r2 at *
 have y4:=Dw r2 l2;have c2:=h (r2%16) (by omega);have y5:=Qb5 r2 (Qhs (r2%16)) l2 (Qfz _);have e3:r2/16 ^^^ Qhs (r2%16)=Ki r2:=rfl;rw[e3]at y5
 generalize Qhs (r1%16)=n1 at *
 generalize Qhs (r2%16)=n2 at *
 have hm1:r1%16<16:=by omega
 have hm2:r2%16<16:=by omega
 generalize r1%16=m1 at *
 generalize r2%16=m2 at *
 have HE:=hid E;clear h E e2 e3
 go_enter func197,ntmps197
 go_wp2_with fail
 go_ret
 exact⟨Xm (by rw[HE.out]),rfl⟩
theorem Uy(h:Nib w)(sv:Value)(l:List Nat)(hs:Ql w 1 sv l.length (Zw l))(hl:l.length<=1000)(h64:∀ x∈l,x<18446744073709551616) :
  Calls prog 133 #[sv] w fun e w'=>e = .returned (.int .u32 (Nd l:Nat))/\w=w':=by
 obtain⟨_,a,c,rfl,hc,ha⟩:=hs;have HS:=hid (fun r b hr hb=>Qe3 h r b hr hb);have HA:=hid ha;have H64:=hid h64;clear ha h64 h
 have HE:Hid (Nd l=4294967295-Ux (l.take l.length)):=by show Nd l=_;rw[List.take_length];rfl
 generalize Nd l=res at *
 generalize hn:l.length=n at *
 have HN:=hid hn;clear hn
 go_enter func133,ntmps133
 go_wp2_with fail
 go_loop [3,8] (fun r y=>∃ k:Nat,k<=n/\y = .int .i64 k/\r = .int .u32 (Ux (l.take k):Nat)) (fun _ y=>n-(intOf y).toNat)
 case atStart=>exact⟨0,by omega,rfl,rfl⟩
 case round=>
  obtain⟨k,hk,rfl,rfl⟩:=hrel;have hrl:=Qmd (l.take k)
  by_cases hlt:k<n
  ·have hk':(k:Int)<n:=by omega
   obtain⟨x,hx⟩:∃ x,l[k]? = some x:=⟨_,List.getElem?_eq_getElem (by rw[HN.out];exact hlt)⟩;obtain⟨eb,eo,rfl,hE⟩:=Zr HA.out (show(Zw l)[k]? = some (.int .u64 x)by simp[Zw,hx]);have c1:=hE k _ (show(Zw l)[k]? = some (.int .u64 x)by simp[Zw,hx]);have hx64:=H64.out x (List.mem_of_getElem? hx);have HT:Hid (Ux (l.take (k+1))=Jw (Ux (l.take k)) x 8):=by show Ux (l.take (k+1))=_;rw[List.take_add_one,hx];exact Qe1 _ _
   clear hE hx
   generalize Ux (l.take k)=r0 at *
   go_wp2_with fail
   go_loop [3,5,12] (fun r v y=>∃ i:Nat,i<=8/\y = .int .i64 i/\r = .int .u32 (Jw r0 x i:Nat)/\v = .int .u64 (x/256 ^ i:Nat)) (fun _ _ y=>8-(intOf y).toNat)
   case atStart=>exact⟨0,by omega,rfl,rfl,by simp⟩
   case round=>
    obtain⟨i,hi,rfl,rfl,rfl⟩:=hrel;have hrw:=Ed r0 x i hrl
    by_cases hi8:i<8
    ·have hi':(i:Int)<8:=by omega
     have hv:x/256 ^ i<=x:=Nat.div_le_self _ _;have HS1:Hid (Jw r0 x (i+1)=Gp (Jw r0 x i) (x/256 ^ i%256)):=rfl;have HV:Hid (x/256 ^ (i+1)=x/256 ^ i/256):=by show x/256 ^ (i+1)=_;rw[Nat.pow_succ,Nat.div_div_eq_div_mul]
     generalize Jw r0 x i=r1 at *
     generalize x/256 ^ i=v1 at *
     have hS:=HS.out r1 (v1%256) hrw (by omega);rw[show((v1%256:Nat):Int)=(v1:Int)%256 by omega]at hS;have HQ:=hid hS;clear hS
     go_wp2_with fail
     (with_reducible refine HQ.out.mono ?_)
     rintro e w' ⟨rfl,rfl⟩;go_wp2_with fail
     go_round
     case rel=>exact⟨i+1,by omega,by go_num,by rw[HS1.out],by rw[HV.out];congr 1⟩
     case measure=>simp[intOf];omega
    ·obtain rfl:i=8:=by omega
     generalize hr2:Jw r0 x 8=r1 at *
     have HR:=hid hr2;clear hr2
     go_wp2_with fail
     go_round
     case rel=>exact⟨k+1,by omega,by go_num,by rw[HT.out]⟩
     case measure=>simp[intOf];omega
  ·obtain rfl:k=n:=by omega
   generalize Ux (l.take k)=r0 at *
   go_wp2_with fail
   go_ret
   exact⟨Xm (by rw[HE.out];exact Qrm r0 hrl),rfl⟩
end
end

section
theorem Qf2(i:Nat)(a b:Int)(ha:0<=a)(ha2:a<2 ^ i)(hb:0<=b)(hs:b*2 ^ i<18446744073709551616)(ha3:a<18446744073709551616):bits .or .u64 a (b*2 ^ i)=a+b*2 ^ i:=by
 obtain⟨x,rfl⟩:=Int.eq_ofNat_of_zero_le ha;obtain⟨y,rfl⟩:=Int.eq_ofNat_of_zero_le hb;have e:((y:Int)*2 ^ i)=((y*2 ^ i:Nat):Int):=by rw[Int.natCast_mul,Int.natCast_pow];rfl
 rw[e]at hs ⊢
 have hx:x<2 ^ i:=by have:((2 ^ i:Nat):Int)=(2:Int) ^ i:=by rw[Int.natCast_pow];rfl
                     rw[<- this]at ha2;omega
 rw[u64_or_nat x _ (by omega) (by omega),Nat.or_comm,nat_join i (y*2 ^ i) x (Nat.mul_mod_left _ _) hx];omega
theorem Q8u(a b:Int)(ha:0<=a)(ha2:a<65536)(hb:0<=b)(hs:b<281474976710656):bits .or .u64 a (b*65536)=a+b*65536:=Qf2 16 a b ha ha2 hb (by omega) (by omega)
theorem Q8v(a b:Int)(ha:0<=a)(ha2:a<4294967296)(hb:0<=b)(hs:b<4294967296):bits .or .u64 a (b*4294967296)=a+b*4294967296:=Qf2 32 a b ha ha2 hb (by omega) (by omega)
theorem Q9y(a b:Int)(ha:0<=a)(ha2:a<281474976710656)(hb:0<=b)(hs:b<65536):bits .or .u64 a (b*281474976710656)=a+b*281474976710656:=Qf2 48 a b ha ha2 hb (by omega) (by omega)
def Qic(l:List Nat):Array Value:=(Zw l).toArray
theorem Qyh(w:World)(c:Array Value)(t:TypeId)(b n cap:Nat)(hb:b=w.heap.size)(hn:n<=cap)(hc:n<=c.size)(xs:List Value)(hx:c.toList.take n=xs):Ql (w.alloc (.cells c t)) 1 (.slice (some ⟨b,0,none⟩) n cap) n xs:=by
 subst hb hx;refine⟨by simp;omega,_,_,rfl,hn,.inr ⟨_,0,rfl,fun j u hu=>(Blk.new w c t).cell ?_⟩⟩
 rw[List.getElem?_take]at hu
 split at hu
 ·simpa using hu
 ·cases hu
theorem Ql0(w:World)(o1 o2 o3:Obj):Below w.heap.size w (((w.alloc o1).alloc o2).alloc o3):=(Ze w o1 o2).trans ((Qa _ o3).mono (by simp;omega))
structure Sup.Fits(s:Sup):Prop where
 g1:0<=s.gen
 g2:s.gen<18446744073709551616
 v1:0<=s.ver
 v2:s.ver<=65535
 l1:0<=s.lin
 l2:s.lin<=65535
 r1:0<=s.redo
 r2:s.redo<=65535
 u1:0<=s.und
 u2:s.und<=65535
 d1:0<=s.desc
 d2:s.desc<=65535
 q1:0<=s.que
 q2:s.que<=65535
 t1:0<=s.tab
 t2:s.tab<=65535
section
variable{w:World}
theorem Ee(h:Nib w)(s:Sup)(hf:s.Fits):Calls prog 201 #[.agg s.cells] w fun r w'=>r = .returned (.agg (Qic s.words))/\Below w.heap.size w w':=by
 have H:=hid h;clear h
 have HF:=hid hf;obtain⟨g1,g2,v1,v2,l1,l2,r1,r2,u1,u2,d1,d2,q1,q2,t1,t2⟩:=hf;have e2:s.ver+s.lin*65536+s.redo*4294967296+s.und*281474976710656=(s.w2:Int):=by unfold Sup.w2;omega
 have e3:s.desc+s.que*65536+s.tab*4294967296=(s.w3:Int):=by unfold Sup.w3;omega
 have l64:s.w2<18446744073709551616:=by omega
 have l64':s.w3<18446744073709551616:=by omega
 obtain⟨gn,hgn⟩:=Int.eq_ofNat_of_zero_le g1;have E:s.words = [7738151121853964849,gn,s.w2,s.w3,0,0,0,4294967296+Nd [7738151121853964849,gn,s.w2,s.w3,0,0,0]]:=by
  have:s.gen.toNat=gn:=by omega
  unfold Sup.words Sup.first;rw[this];rfl
 have z1:=Q8u s.ver s.lin v1 (by omega) l1 (by omega);have z2:=Q8v (s.ver+s.lin*65536) s.redo (by omega) (by omega) r1 (by omega);have z3:=Q9y (s.ver+s.lin*65536+s.redo*4294967296) s.und (by omega) (by omega) u1 (by omega);have z4:=Q8u s.desc s.que d1 (by omega) q1 (by omega);have z5:=Q8v (s.desc+s.que*65536) s.tab (by omega) (by omega) t1 (by omega);rw[e2]at z3;rw[e3]at z5
 have hgl:gn<18446744073709551616:=by omega
 have HE:=hid E;clear E
 generalize s.words=res at *
 generalize s.w2=n2 at *
 generalize s.w3=n3 at *
 have hcl:=Gn [7738151121853964849,gn,n2,n3,0,0,0];have HC:=hid (fun wx (hx:Nib wx) sv (hr:Ql wx 1 sv 7 (Zw [7738151121853964849,gn,n2,n3,0,0,0]))=>Uy hx sv [7738151121853964849,gn,n2,n3,0,0,0] hr (by simp) (by simp;omega))
 generalize Nd [7738151121853964849,gn,n2,n3,0,0,0]=cr at *
 obtain⟨ver,lin,redo,und,desc,que,tab,gen⟩:=s;simp only at *;subst hgn;clear e2 e3 HF;unfold Sup.cells
 go_enter func201,ntmps201
 go_wp2_with fail
 (with_reducible refine(HC.out _ (H.out.below (Ql0 _ _ _ _)) _ (Qyh _ _ _ _ 7 8 (by simp) (by omega) (by simp) _ rfl)).mono ?_)
 rintro e w' ⟨rfl,rfl⟩;go_wp2_with fail
 refine bodyPost_ret (v:=.agg #[.int .u64 7738151121853964849,.int .u64 gn,.int .u64 n2,.int .u64 n3,.int .u64 0,.int .u64 0,.int .u64 0,.int .u64 (4294967296+(cr:Int))]) (by simp[results,results201,go_sem]) rfl ⟨?_,Ql0 _ _ _ _⟩
 rw[HE.out]
 rfl
end
end
section
attribute [local go_sem ↓] Go.wp_at_zero Go.wp_at_succ
def Sup.dec(a1 a2 a3:Nat):Sup:=⟨(a2%65536:Nat),(a2/65536%65536:Nat),(a2/4294967296%65536:Nat),(a2/281474976710656:Nat),(a3%65536:Nat),(a3/65536%65536:Nat),(a3/4294967296%65536:Nat),(a1:Nat)⟩
def Sup.of(W:List Nat):Sup:=Sup.dec (W.getD 1 0) (W.getD 2 0) (W.getD 3 0)
def Sup.zero:Sup:=⟨0,0,0,0,0,0,0,0⟩
def Wk(W:List Nat)(n:Nat):Bool:=(Sup.of W).okB&&decide ((Sup.of W).lin<=n)&&decide ((Sup.of W).words=W)
def Jy(W:List Nat)(n:Nat):Sup:=if Wk W n then Sup.of W else Sup.zero
theorem Sup.dec_fits(a1 a2 a3:Nat)(h1:a1<18446744073709551616)(h2:a2<18446744073709551616):(Sup.dec a1 a2 a3).Fits:=by
 constructor <;> simp only[Sup.dec] <;> omega
theorem Qrf(x:Nat)(h:x<18446744073709551616):bits .and .u64 (x:Int) 65535=((x%65536:Nat):Int):=by
 have:=u64_and_nat x 65535 h (by omega);rw[show 65535=2 ^ 16-1 from rfl,Nat.and_two_pow_sub_one_eq_mod]at this;exact this
theorem Quy(x:Nat)(h:x<18446744073709551616):bits .and .u64 ((x:Int)/65536) 65535=((x/65536%65536:Nat):Int):=by
 rw[show((x:Int)/65536)=((x/65536:Nat):Int)by omega];exact Qrf _ (by omega)
theorem Quz(x:Nat)(h:x<18446744073709551616):bits .and .u64 ((x:Int)/4294967296) 65535=((x/4294967296%65536:Nat):Int):=by
 rw[show((x:Int)/4294967296)=((x/4294967296:Nat):Int)by omega];exact Qrf _ (by omega)
theorem Fe(d:Nat)(fa fb:Nat->Int)(xs ys:Array Value)(w:World):∀ is:List Nat,(∀ i∈is,xs[i]? = some (.int .u64 (fa i))/\ys[i]? = some (.int .u64 (fb i)))->(Op.eqItems (d+1) 31 1 xs ys is).run prog w = .ok (is.all fun i=>fa i==fb i) w
 | [],_=>by simp[Op.eqItems]
 | i::is,h=>by
  have h0:=h i (by simp);have ih:=Fe d fa fb xs ys w is (fun j hj=>h j (by simp[hj]));have hp:Tryz.prog.plainKey 31=true:=by kernel_rfl
  simp only[Op.eqItems,Sem.run_bind,Nat.mul_one,run_part_plain w hp h0.1,run_part_plain w hp h0.2,run_equalIn_int w d 31 .u64 .u64 (fa i) (fb i) underlying31,Result.andThen_ok]
  cases hb:fa i==fb i
  ·simp[hb]
  ·simp[hb,ih]
theorem Qt4(w:World)(a0 a1 a2 a3 a4 a5 a6 a7 b0 b1 b2 b3 b4 b5 b6 b7:Int) :
  (binOp .neq 277 (.agg #[.int .u64 b0,.int .u64 b1,.int .u64 b2,.int .u64 b3,.int .u64 b4,.int .u64 b5,.int .u64 b6,.int .u64 b7]) (.agg #[.int .u64 a0,.int .u64 a1,.int .u64 a2,.int .u64 a3,.int .u64 a4,.int .u64 a5,.int .u64 a6,.int .u64 a7])).run prog w =
   .ok (.bool (!(decide (b0=a0/\b1=a1/\b2=a2/\b3=a3/\b4=a4/\b5=a5/\b6=a6/\b7=a7)))) w:=by
 obtain⟨i0,hi0,_⟩:=info_parts Gv;have hc:Tryz.prog.cellsOf 31=1:=by kernel_rfl
 have e:(Op.eqItems 9999 31 1 #[.int .u64 b0,.int .u64 b1,.int .u64 b2,.int .u64 b3,.int .u64 b4,.int .u64 b5,.int .u64 b6,.int .u64 b7] #[.int .u64 a0,.int .u64 a1,.int .u64 a2,.int .u64 a3,.int .u64 a4,.int .u64 a5,.int .u64 a6,.int .u64 a7] (List.range 8)).run prog w =
   .ok ((List.range 8).all fun i => [b0,b1,b2,b3,b4,b5,b6,b7].getD i 0 == [a0,a1,a2,a3,a4,a5,a6,a7].getD i 0) w:=
  Fe 9998 (fun i => [b0,b1,b2,b3,b4,b5,b6,b7].getD i 0) (fun i => [a0,a1,a2,a3,a4,a5,a6,a7].getD i 0) _ _ w (List.range 8) (fun i hi=>by
   have:=List.mem_range.1 hi;obtain rfl | rfl | rfl | rfl | rfl | rfl | rfl | rfl:i=0\/i=1\/i=2\/i=3\/i=4\/i=5\/i=6\/i=7:=by omega
   all_goals exact⟨rfl,rfl⟩)
 rw[run_neq_struct,run_equalIn_array w 9999 _ _ underlying277 hi0,hc,e,Result.andThen_ok]
 congr 3
 rw[Bool.eq_iff_iff];simp[List.range,List.range.loop]
structure Pm(w:World)(c0 c1 c2:Array Value)(wx:World):Prop where
 wds:Blk wx w.heap.size c0 277
 res:Blk wx (w.heap.size+1) c1 130
 sup:Blk wx (w.heap.size+1+1) c2 130
 bel:Below w.heap.size w wx
theorem Pm.next{w wx w1:World}{c0 c1 c2:Array Value}(h:Pm w c0 c1 c2 wx)(hb:Below wx.heap.size wx w1):Pm w c0 c1 c2 w1:=⟨h.wds.below hb,h.res.below hb,h.sup.below hb,h.bel.trans (hb.mono h.bel.size)⟩
theorem Pm.start(w:World)(c0 c1 c2:Array Value):Pm w c0 c1 c2 (((w.alloc (.cells c0 277)).alloc (.cells c1 130)).alloc (.cells c2 130)):=by
 have h1:=Blk.new (w.alloc (.cells c0 277)) c1 130;have h2:=Blk.new ((w.alloc (.cells c0 277)).alloc (.cells c1 130)) c2 130;simp only[World.size_alloc]at h1 h2;exact⟨((Blk.new w _ _).alloc _).alloc _,h1.alloc _,h2,Ql0 w _ _ _⟩
section
variable{w:World}
theorem Pm.cells{w wx:World}{x1 x2 x3 x4 x5 x6 x7 a0 a1 a2 a3 a4 a5 a6 a7:Int}{c1:Array Value}(h:Pm w #[.int .u64 a0,.int .u64 a1,.int .u64 a2,.int .u64 a3,.int .u64 a4,.int .u64 a5,.int .u64 a6,.int .u64 a7] c1 #[.int .i64 x1,.int .i64 x2,.int .i64 x3,.int .i64 x7,.int .i64 x4,.int .i64 x5,.int .i64 x6,.int .u64 a1] wx) :
  wx.cell? ⟨w.heap.size+1+1,0,none⟩=some (.int .i64 (x1))/\wx.cell? ⟨w.heap.size+1+1,1,none⟩=some (.int .i64 (x2))/\wx.cell? ⟨w.heap.size+1+1,2,none⟩=some (.int .i64 (x3))/\wx.cell? ⟨w.heap.size+1+1,3,none⟩=some (.int .i64 (x7))/\wx.cell? ⟨w.heap.size+1+1,4,none⟩=some (.int .i64 (x4))/\wx.cell? ⟨w.heap.size+1+1,5,none⟩=some (.int .i64 (x5))/\wx.cell? ⟨w.heap.size+1+1,6,none⟩=some (.int .i64 (x6))/\wx.cell? ⟨w.heap.size+1+1,7,none⟩=some (.int .u64 (a1))/\wx.cell? ⟨w.heap.size,0,none⟩=some (.int .u64 (a0))/\wx.cell? ⟨w.heap.size,1,none⟩=some (.int .u64 (a1))/\wx.cell? ⟨w.heap.size,2,none⟩=some (.int .u64 (a2))/\wx.cell? ⟨w.heap.size,3,none⟩=some (.int .u64 (a3))/\wx.cell? ⟨w.heap.size,4,none⟩=some (.int .u64 (a4))/\wx.cell? ⟨w.heap.size,5,none⟩=some (.int .u64 (a5))/\wx.cell? ⟨w.heap.size,6,none⟩=some (.int .u64 (a6))/\wx.cell? ⟨w.heap.size,7,none⟩=some (.int .u64 (a7)):=
 ⟨h.sup.cell rfl,h.sup.cell rfl,h.sup.cell rfl,h.sup.cell rfl,h.sup.cell rfl,h.sup.cell rfl,h.sup.cell rfl,h.sup.cell rfl,h.wds.cell rfl,h.wds.cell rfl,h.wds.cell rfl,h.wds.cell rfl,h.wds.cell rfl,h.wds.cell rfl,h.wds.cell rfl,h.wds.cell rfl⟩
theorem Pm.drew{w wx:World}{c0 c1 c2:Array Value}(h:Pm w c0 c1 c2 wx):Pm w c0 c1 c2 wx.drew:=h.next ((Below.refl _ _).drew)
theorem Ks{wx:World}{b B:Nat}(h:Below B w wx)(hb:B<=b)(o:Nat)(v0 v1 v2 v3 v4 v5 v6 v7:Value) :
  Below B w ((((((((wx.setCell ⟨b,o,none⟩ v0).setCell ⟨b,o+1,none⟩ v1).setCell ⟨b,o+2,none⟩ v2).setCell ⟨b,o+3,none⟩ v3).setCell ⟨b,o+4,none⟩ v4).setCell ⟨b,o+5,none⟩ v5).setCell ⟨b,o+6,none⟩ v6).setCell ⟨b,o+7,none⟩ v7):=
 (((((((h.setCell hb _).setCell hb _).setCell hb _).setCell hb _).setCell hb _).setCell hb _).setCell hb _).setCell hb _
def Qv0(w:World)(cs:Array Value)(g:Bool)(r:Ending)(w':World):Prop:=r = .returned (.tuple #[.agg (if g then cs else #[.int .i64 0,.int .i64 0,.int .i64 0,.int .i64 0,.int .i64 0,.int .i64 0,.int .i64 0,.int .u64 0]),.bool g])/\Below w.heap.size w w'
theorem Qe5(h:Nib w)(a0 a1 a2 a3 a4 a5 a6 a7 n x1 x2 x3 x4 x5 x6 x7 b0 b1 b2 b3 b4 b5 b6 b7:Nat)(ob g:Bool)(_:a1<18446744073709551616)(_:a2<18446744073709551616)(_:a3<18446744073709551616)(_:n<18446744073709551616)
  (z1:bits .and .u64 (a2:Int) 65535=(x1:Nat)) (z2:bits .and .u64 ((a2:Int)/65536) 65535=(x2:Nat)) (z3:bits .and .u64 ((a2:Int)/4294967296) 65535=(x3:Nat)) (e7:(a2:Int)/281474976710656=(x7:Nat))
  (z4:bits .and .u64 (a3:Int) 65535=(x4:Nat)) (z5:bits .and .u64 ((a3:Int)/65536) 65535=(x5:Nat)) (z6:bits .and .u64 ((a3:Int)/4294967296) 65535=(x6:Nat))
  (m1:x1<65536) (m2:x2<65536) (m3:x3<65536) (m4:x4<65536) (m5:x5<65536) (m6:x6<65536) (m7:x7<65536)
  (hV:∀ wx,Calls prog 199 #[.agg #[.int .i64 (x1:Int),.int .i64 (x2:Int),.int .i64 (x3:Int),.int .i64 (x7:Int),.int .i64 (x4:Int),.int .i64 (x5:Int),.int .i64 (x6:Int),.int .u64 (a1:Int)]] wx fun r w'=>r = .returned (.bool ob)/\Below wx.heap.size wx w')
  (hE:∀ wx,Nib wx->Calls prog 201 #[.agg #[.int .i64 (x1:Int),.int .i64 (x2:Int),.int .i64 (x3:Int),.int .i64 (x7:Int),.int .i64 (x4:Int),.int .i64 (x5:Int),.int .i64 (x6:Int),.int .u64 (a1:Int)]] wx fun r w'=>r = .returned (.agg #[.int .u64 (b0:Int),.int .u64 (b1:Int),.int .u64 (b2:Int),.int .u64 (b3:Int),.int .u64 (b4:Int),.int .u64 (b5:Int),.int .u64 (b6:Int),.int .u64 (b7:Int)])/\Below wx.heap.size wx w')
  (hg:g=(ob&&decide (x2<=n)&&decide (b0=a0/\b1=a1/\b2=a2/\b3=a3/\b4=a4/\b5=a5/\b6=a6/\b7=a7))) :
  Calls prog 200 #[.agg #[.int .u64 (a0:Int),.int .u64 (a1:Int),.int .u64 (a2:Int),.int .u64 (a3:Int),.int .u64 (a4:Int),.int .u64 (a5:Int),.int .u64 (a6:Int),.int .u64 (a7:Int)],.int .u64 n] w (Qv0 w #[.int .i64 (x1:Int),.int .i64 (x2:Int),.int .i64 (x3:Int),.int .i64 (x7:Int),.int .i64 (x4:Int),.int .i64 (x5:Int),.int .i64 (x6:Int),.int .u64 (a1:Int)] g):=by
 have H:=hid h;have HV:=hid hV;have HEN:=hid hE;have HG:=hid hg;clear h hV hE hg
 go_enter func200,ntmps200
 go_upto_region 2 with fail
 have Dw3:=hid (Pm.start w #[.int .u64 (a0:Int),.int .u64 (a1:Int),.int .u64 (a2:Int),.int .u64 (a3:Int),.int .u64 (a4:Int),.int .u64 (a5:Int),.int .u64 (a6:Int),.int .u64 (a7:Int)] #[.int .i64 0,.int .i64 0,.int .i64 0,.int .i64 0,.int .i64 0,.int .i64 0,.int .i64 0,.int .u64 0] #[.int .i64 (x1:Int),.int .i64 (x2:Int),.int .i64 (x3:Int),.int .i64 (x7:Int),.int .i64 (x4:Int),.int .i64 (x5:Int),.int .i64 (x6:Int),.int .u64 (a1:Int)])
 generalize (((w.alloc (.cells #[.int .u64 (a0:Int),.int .u64 (a1:Int),.int .u64 (a2:Int),.int .u64 (a3:Int),.int .u64 (a4:Int),.int .u64 (a5:Int),.int .u64 (a6:Int),.int .u64 (a7:Int)] 277)).alloc (.cells #[.int .i64 0,.int .i64 0,.int .i64 0,.int .i64 0,.int .i64 0,.int .i64 0,.int .i64 0,.int .u64 0] 130)).alloc (.cells #[.int .i64 (x1:Int),.int .i64 (x2:Int),.int .i64 (x3:Int),.int .i64 (x7:Int),.int .i64 (x4:Int),.int .i64 (x5:Int),.int .i64 (x6:Int),.int .u64 (a1:Int)] 130))=w3 at *
 have N3:=hid (H.out.below Dw3.out.bel);clear z1 z2 z3 z4 z5 z6 e7
 go_cut [57] (fun u wx=>u = .bool (!g)/\Pm w #[.int .u64 (a0:Int),.int .u64 (a1:Int),.int .u64 (a2:Int),.int .u64 (a3:Int),.int .u64 (a4:Int),.int .u64 (a5:Int),.int .u64 (a6:Int),.int .u64 (a7:Int)] #[.int .i64 0,.int .i64 0,.int .i64 0,.int .i64 0,.int .i64 0,.int .i64 0,.int .i64 0,.int .u64 0] #[.int .i64 (x1:Int),.int .i64 (x2:Int),.int .i64 (x3:Int),.int .i64 (x7:Int),.int .i64 (x4:Int),.int .i64 (x5:Int),.int .i64 (x6:Int),.int .u64 (a1:Int)] wx)
 case first=>
  have s0w3:w3.cell? ⟨w.heap.size+1+1,0,none⟩=some (.int .i64 (x1:Int)):=Dw3.out.sup.cell rfl;have s1w3:w3.cell? ⟨w.heap.size+1+1,1,none⟩=some (.int .i64 (x2:Int)):=Dw3.out.sup.cell rfl;have s2w3:w3.cell? ⟨w.heap.size+1+1,2,none⟩=some (.int .i64 (x3:Int)):=Dw3.out.sup.cell rfl;have s3w3:w3.cell? ⟨w.heap.size+1+1,3,none⟩=some (.int .i64 (x7:Int)):=Dw3.out.sup.cell rfl;have s4w3:w3.cell? ⟨w.heap.size+1+1,4,none⟩=some (.int .i64 (x4:Int)):=Dw3.out.sup.cell rfl;have s5w3:w3.cell? ⟨w.heap.size+1+1,5,none⟩=some (.int .i64 (x5:Int)):=Dw3.out.sup.cell rfl;have s6w3:w3.cell? ⟨w.heap.size+1+1,6,none⟩=some (.int .i64 (x6:Int)):=Dw3.out.sup.cell rfl;have s7w3:w3.cell? ⟨w.heap.size+1+1,7,none⟩=some (.int .u64 (a1:Int)):=Dw3.out.sup.cell rfl;have a0w3:w3.cell? ⟨w.heap.size,0,none⟩=some (.int .u64 (a0:Int)):=Dw3.out.wds.cell rfl;have a1w3:w3.cell? ⟨w.heap.size,1,none⟩=some (.int .u64 (a1:Int)):=Dw3.out.wds.cell rfl;have a2w3:w3.cell? ⟨w.heap.size,2,none⟩=some (.int .u64 (a2:Int)):=Dw3.out.wds.cell rfl;have a3w3:w3.cell? ⟨w.heap.size,3,none⟩=some (.int .u64 (a3:Int)):=Dw3.out.wds.cell rfl;have a4w3:w3.cell? ⟨w.heap.size,4,none⟩=some (.int .u64 (a4:Int)):=Dw3.out.wds.cell rfl;have a5w3:w3.cell? ⟨w.heap.size,5,none⟩=some (.int .u64 (a5:Int)):=Dw3.out.wds.cell rfl;have a6w3:w3.cell? ⟨w.heap.size,6,none⟩=some (.int .u64 (a6:Int)):=Dw3.out.wds.cell rfl;have a7w3:w3.cell? ⟨w.heap.size,7,none⟩=some (.int .u64 (a7:Int)):=Dw3.out.wds.cell rfl
  have yw:IntKind.u64.wrap (x2:Int)=(x2:Int):=IntWalk.u64_in _ (by omega)
  by_cases hok:ob=true
  ·subst hok
   by_cases hlin:x2<=n
   ·have d1:decide ((n:Int)<(x2:Int))=false:=by simp;omega
    have d1':decide (n<x2)=false:=by simp;omega
    have d1'':¬ n<x2:=by omega
    obtain⟨nb,hnb⟩:∃ nb,(!(decide ((b0:Int)=a0/\(b1:Int)=a1/\(b2:Int)=a2/\(b3:Int)=a3/\(b4:Int)=a4/\(b5:Int)=a5/\(b6:Int)=a6/\(b7:Int)=a7)))=nb:=⟨_,rfl⟩;have hneq:=fun wx=>Qt4 wx (a0:Int) a1 a2 a3 a4 a5 a6 a7 (b0:Int) b1 b2 b3 b4 b5 b6 b7
    rw[hnb]at hneq;have HNB8:Hid (nb = !g):=by
     show nb = !g
     rw[<- hnb,HG.out];simp only[hlin,decide_true,Bool.true_and]
     congr 1
     rw[decide_eq_decide];omega
    have hgu:Tryz.prog.eqGuardType Tryz.prog.depth 277=false:=by kernel_rfl
    clear hnb
    go_region_held3 (fun wx=>wx.cell? ⟨w.heap.size+1+1,0,none⟩=some (.int .i64 (x1:Int))/\wx.cell? ⟨w.heap.size+1+1,1,none⟩=some (.int .i64 (x2:Int))/\wx.cell? ⟨w.heap.size+1+1,2,none⟩=some (.int .i64 (x3:Int))/\wx.cell? ⟨w.heap.size+1+1,3,none⟩=some (.int .i64 (x7:Int))/\wx.cell? ⟨w.heap.size+1+1,4,none⟩=some (.int .i64 (x4:Int))/\wx.cell? ⟨w.heap.size+1+1,5,none⟩=some (.int .i64 (x5:Int))/\wx.cell? ⟨w.heap.size+1+1,6,none⟩=some (.int .i64 (x6:Int))/\wx.cell? ⟨w.heap.size+1+1,7,none⟩=some (.int .u64 (a1:Int))/\wx.cell? ⟨w.heap.size,0,none⟩=some (.int .u64 (a0:Int))/\wx.cell? ⟨w.heap.size,1,none⟩=some (.int .u64 (a1:Int))/\wx.cell? ⟨w.heap.size,2,none⟩=some (.int .u64 (a2:Int))/\wx.cell? ⟨w.heap.size,3,none⟩=some (.int .u64 (a3:Int))/\wx.cell? ⟨w.heap.size,4,none⟩=some (.int .u64 (a4:Int))/\wx.cell? ⟨w.heap.size,5,none⟩=some (.int .u64 (a5:Int))/\wx.cell? ⟨w.heap.size,6,none⟩=some (.int .u64 (a6:Int))/\wx.cell? ⟨w.heap.size,7,none⟩=some (.int .u64 (a7:Int))) (first | (with_reducible exact D5.out.cells) | (with_reducible exact D4.out.cells) | (with_reducible exact Dw3.out.drew.cells) | (with_reducible exact Dw3.out.cells)) (first | (go_at_call 199;(with_reducible refine(HV.out _).mono ?_);rintro e w4 ⟨rfl,bb4⟩;have D4:=hid (Dw3.out.next (Qlz bb4));have N4:=hid (N3.out.below (Qlz bb4));clear bb4) | (go_at_call 201;(with_reducible refine(HEN.out _ N4.out).mono ?_);rintro e w5 ⟨rfl,bb5⟩;have D5:=hid (D4.out.next bb5);clear bb5))
    all_goals go_wp2_with fail
    all_goals go_meet
    all_goals exact⟨by rw[HNB8.out],D5.out⟩
   ·have d1:decide ((n:Int)<(x2:Int))=true:=by simp;omega
    have d1':decide (n<x2)=true:=by simp;omega
    have d1'':n<x2:=by omega
    refine wp_region_any (by kernel_rfl) ?_
    change wpAny _ _ _ _ _ _ _ (World.drew _)
    refine wpAny_ready (rs := [0]) (by kernel_rfl) (by simp) ?_
    refine AllReady.cons rfl (fun K hK => ?_) AllReady.nil
    go_simp
    refine hK _ _ ?_
    clear hK K;refine wpAny_ready (rs := [1]) (by kernel_rfl) (by simp) ?_
    refine AllReady.cons rfl (fun K hK => ?_) AllReady.nil
    go_simp
    (with_reducible refine(HV.out _).mono ?_)
    rintro e w4 ⟨rfl,bb4⟩;have Dw4:=hid (Dw3.out.next (Qlz bb4));clear bb4
    have s1w4:w4.cell? ⟨w.heap.size+1+1,1,none⟩=some (.int .i64 (x2:Int)):=Dw4.out.sup.cell rfl
    go_simp
    refine hK _ _ ?_
    clear hK K;refine wpAny_ready (rs := [2]) (by kernel_rfl) (by simp) ?_
    refine AllReady.cons rfl (fun K hK => ?_) AllReady.nil
    go_simp
    refine hK _ _ ?_
    clear hK K;refine wpAny_ready (rs := [3]) (by kernel_rfl) (by simp) ?_
    refine AllReady.cons rfl (fun K hK => ?_) AllReady.nil
    go_simp
    refine hK _ _ ?_
    clear hK K;refine wpAny_take (i:=4) (v:=.pointer (some ⟨w.heap.size+1+1,1,none⟩)) rfl (by kernel_rfl) (by kernel_rfl) (by kernel_rfl) (fun _ _ _ h=>h) (Or.inl ⟨?_,?_⟩) ?_
    ·rfl
    ·intro w;go_simp
    refine wpAny_take (i:=7) (v:=.int .u64 (n:Int)) rfl (by kernel_rfl) (by kernel_rfl) (by kernel_rfl) (fun _ _ _ h=>h) (Or.inl ⟨?_,?_⟩) ?_
    ·rfl
    ·intro w;go_simp
    refine wpAny_ready (rs := [5]) (by kernel_rfl) (by simp) ?_
    refine AllReady.cons rfl (fun K hK => ?_) AllReady.nil
    go_simp
    refine hK _ _ ?_
    clear hK K;refine wpAny_ready (rs := [6]) (by kernel_rfl) (by simp) ?_
    refine AllReady.cons rfl (fun K hK => ?_) AllReady.nil
    go_simp
    refine hK _ _ ?_
    clear hK K;refine wpAny_ready (rs := [8]) (by kernel_rfl) (by simp) ?_
    refine AllReady.cons rfl (fun K hK => ?_) AllReady.nil
    go_simp
    refine hK _ _ ?_
    clear hK K;refine wpAny_ready (rs := [9]) (by kernel_rfl) (by simp) ?_
    refine AllReady.cons rfl (fun K hK => ?_) AllReady.nil
    go_simp
    refine hK _ _ ?_
    clear hK K;refine wpAny_ready (rs := [10]) (by kernel_rfl) (by simp) ?_
    refine AllReady.cons rfl (fun K hK => ?_) AllReady.nil
    go_simp
    refine hK _ _ ?_
    clear hK K;refine wpAny_take (i:=11) (v:=undef) rfl (by kernel_rfl) (by kernel_rfl) (by kernel_rfl) (fun _ _ _ h=>h) (Or.inr ⟨?_,rfl⟩) ?_
    ·rfl
    refine wpAny_take (i:=12) (v:=undef) rfl (by kernel_rfl) (by kernel_rfl) (by kernel_rfl) (fun _ _ _ h=>h) (Or.inr ⟨?_,rfl⟩) ?_
    ·rfl
    refine wpAny_take (i:=13) (v:=undef) rfl (by kernel_rfl) (by kernel_rfl) (by kernel_rfl) (fun _ _ _ h=>h) (Or.inr ⟨?_,rfl⟩) ?_
    ·rfl
    refine wpAny_take (i:=14) (v:=undef) rfl (by kernel_rfl) (by kernel_rfl) (by kernel_rfl) (fun _ _ _ h=>h) (Or.inr ⟨?_,rfl⟩) ?_
    ·rfl
    refine wpAny_ready (rs := [15]) (by kernel_rfl) (by simp) ?_
    refine AllReady.cons rfl (fun K hK => ?_) AllReady.nil
    go_simp
    refine hK _ _ ?_
    clear hK K;refine wpAny_done (by kernel_rfl) ?_ _
    go_wp2_with fail
    go_meet
    exact⟨by rw[HG.out];simp[hlin],Dw4.out⟩
  ·obtain rfl:ob=false:=by simpa using hok
   refine wp_region_any (by kernel_rfl) ?_
   change wpAny _ _ _ _ _ _ _ (World.drew _)
   refine wpAny_ready (rs := [0]) (by kernel_rfl) (by simp) ?_
   refine AllReady.cons rfl (fun K hK => ?_) AllReady.nil
   go_simp
   refine hK _ _ ?_
   clear hK K;refine wpAny_ready (rs := [1]) (by kernel_rfl) (by simp) ?_
   refine AllReady.cons rfl (fun K hK => ?_) AllReady.nil
   go_simp
   (with_reducible refine(HV.out _).mono ?_)
   rintro e w4 ⟨rfl,bb4⟩;have Dw4:=hid (Dw3.out.next (Qlz bb4));clear bb4
   go_simp
   refine hK _ _ ?_
   clear hK K;refine wpAny_ready (rs := [2]) (by kernel_rfl) (by simp) ?_
   refine AllReady.cons rfl (fun K hK => ?_) AllReady.nil
   go_simp
   refine hK _ _ ?_
   clear hK K;refine wpAny_ready (rs := [3]) (by kernel_rfl) (by simp) ?_
   refine AllReady.cons rfl (fun K hK => ?_) AllReady.nil
   go_simp
   refine hK _ _ ?_
   clear hK K;refine wpAny_take (i:=4) (v:=undef) rfl (by kernel_rfl) (by kernel_rfl) (by kernel_rfl) (fun _ _ _ h=>h) (Or.inr ⟨?_,rfl⟩) ?_
   ·rfl
   refine wpAny_take (i:=5) (v:=undef) rfl (by kernel_rfl) (by kernel_rfl) (by kernel_rfl) (fun _ _ _ h=>h) (Or.inr ⟨?_,rfl⟩) ?_
   ·rfl
   refine wpAny_take (i:=6) (v:=undef) rfl (by kernel_rfl) (by kernel_rfl) (by kernel_rfl) (fun _ _ _ h=>h) (Or.inr ⟨?_,rfl⟩) ?_
   ·rfl
   refine wpAny_take (i:=7) (v:=undef) rfl (by kernel_rfl) (by kernel_rfl) (by kernel_rfl) (fun _ _ _ h=>h) (Or.inr ⟨?_,rfl⟩) ?_
   ·rfl
   refine wpAny_take (i:=8) (v:=undef) rfl (by kernel_rfl) (by kernel_rfl) (by kernel_rfl) (fun _ _ _ h=>h) (Or.inr ⟨?_,rfl⟩) ?_
   ·rfl
   refine wpAny_ready (rs := [9]) (by kernel_rfl) (by simp) ?_
   refine AllReady.cons rfl (fun K hK => ?_) AllReady.nil
   go_simp
   refine hK _ _ ?_
   clear hK K;refine wpAny_ready (rs := [10]) (by kernel_rfl) (by simp) ?_
   refine AllReady.cons rfl (fun K hK => ?_) AllReady.nil
   go_simp
   refine hK _ _ ?_
   clear hK K;refine wpAny_take (i:=11) (v:=undef) rfl (by kernel_rfl) (by kernel_rfl) (by kernel_rfl) (fun _ _ _ h=>h) (Or.inr ⟨?_,rfl⟩) ?_
   ·rfl
   refine wpAny_take (i:=12) (v:=undef) rfl (by kernel_rfl) (by kernel_rfl) (by kernel_rfl) (fun _ _ _ h=>h) (Or.inr ⟨?_,rfl⟩) ?_
   ·rfl
   refine wpAny_take (i:=13) (v:=undef) rfl (by kernel_rfl) (by kernel_rfl) (by kernel_rfl) (fun _ _ _ h=>h) (Or.inr ⟨?_,rfl⟩) ?_
   ·rfl
   refine wpAny_take (i:=14) (v:=undef) rfl (by kernel_rfl) (by kernel_rfl) (by kernel_rfl) (fun _ _ _ h=>h) (Or.inr ⟨?_,rfl⟩) ?_
   ·rfl
   refine wpAny_ready (rs := [15]) (by kernel_rfl) (by simp) ?_
   refine AllReady.cons rfl (fun K hK => ?_) AllReady.nil
   go_simp
   refine hK _ _ ?_
   clear hK K;refine wpAny_done (by kernel_rfl) ?_ _
   go_wp2_with fail
   go_meet
   exact⟨by rw[HG.out];simp,Dw4.out⟩
 case rest=>
  obtain⟨rfl,hst⟩:=hcut;rename World=>wx
  have ST:=hid hst;have q0:=hst.cells.1;have q1:=hst.cells.2.1;have q2:=hst.cells.2.2.1;have q3:=hst.cells.2.2.2.1
  have q4:=hst.cells.2.2.2.2.1;have q5:=hst.cells.2.2.2.2.2.1;have q6:=hst.cells.2.2.2.2.2.2.1;have q7:=hst.cells.2.2.2.2.2.2.2.1
  have f0:=hst.res.frozen 0;have f1:=hst.res.frozen 1;have f2:=hst.res.frozen 2;have f3:=hst.res.frozen 3
  have f4:=hst.res.frozen 4;have f5:=hst.res.frozen 5;have f6:=hst.res.frozen 6;have f7:=hst.res.frozen 7
  have r0:=hst.res.cell (i:=0) rfl;have r1:=hst.res.cell (i:=1) rfl;have r2:=hst.res.cell (i:=2) rfl;have r3:=hst.res.cell (i:=3) rfl
  have r4:=hst.res.cell (i:=4) rfl;have r5:=hst.res.cell (i:=5) rfl;have r6:=hst.res.cell (i:=6) rfl;have r7:=hst.res.cell (i:=7) rfl
  clear hst N3 HV HEN H Dw3 HG
  cases g
  ·go_wp2_with fail
   refine bodyPost_ret (v:=.tuple #[.agg #[.int .i64 0,.int .i64 0,.int .i64 0,.int .i64 0,.int .i64 0,.int .i64 0,.int .i64 0,.int .u64 0],.bool false]) (by simp[results,results200,go_sem,r0,r1,r2,r3,r4,r5,r6,r7]) rfl ⟨rfl,?_⟩
   exact Ks ST.out.bel (by omega) 0 _ _ _ _ _ _ _ _
  ·go_wp2_with fail
   refine bodyPost_ret (v:=.tuple #[.agg #[.int .i64 (x1:Int),.int .i64 (x2:Int),.int .i64 (x3:Int),.int .i64 (x7:Int),.int .i64 (x4:Int),.int .i64 (x5:Int),.int .i64 (x6:Int),.int .u64 (a1:Int)],.bool true]) (by simp[results,results200,go_sem,r0,r1,r2,r3,r4,r5,r6,r7]) rfl ⟨rfl,?_⟩
   exact Ks ST.out.bel (by omega) 0 _ _ _ _ _ _ _ _
theorem Qiw(h:Nib w)(a0 a1 a2 a3 a4 a5 a6 a7 n:Nat)(h1:a1<18446744073709551616)(h2:a2<18446744073709551616)(h3:a3<18446744073709551616)(hn:n<18446744073709551616) :
  Calls prog 200 #[.agg (Qic [a0,a1,a2,a3,a4,a5,a6,a7]),.int .u64 n] w fun r w'=>r = .returned (.tuple #[.agg (Jy [a0,a1,a2,a3,a4,a5,a6,a7] n).cells,.bool (Wk [a0,a1,a2,a3,a4,a5,a6,a7] n)])/\Below w.heap.size w w':=by
 have hf:=Sup.dec_fits a1 a2 a3 h1 h2;have hE:=fun wx (hx:Nib wx)=>Ee hx (Sup.dec a1 a2 a3) hf
 have hV:=fun wx=>Qd5 (w:=wx) (Sup.dec a1 a2 a3)
 have hw:(Sup.dec a1 a2 a3).words = [7738151121853964849,a1,(Sup.dec a1 a2 a3).w2,(Sup.dec a1 a2 a3).w3,0,0,0,4294967296+Nd (Sup.dec a1 a2 a3).first]:=by
  unfold Sup.words Sup.first;rw[show(Sup.dec a1 a2 a3).gen.toNat=a1 from Int.toNat_natCast _];rfl
 rw[hw]at hE;have hg:Wk [a0,a1,a2,a3,a4,a5,a6,a7] n=((Sup.dec a1 a2 a3).okB&&decide (a2/65536%65536<=n)&&decide (7738151121853964849=a0/\a1=a1/\(Sup.dec a1 a2 a3).w2=a2/\(Sup.dec a1 a2 a3).w3=a3/\0=a4/\0=a5/\0=a6/\4294967296+Nd (Sup.dec a1 a2 a3).first=a7)):=by
  unfold Wk;rw[show Sup.of [a0,a1,a2,a3,a4,a5,a6,a7]=Sup.dec a1 a2 a3 from rfl,hw]
  congr 1
  ·congr 1
   rw[decide_eq_decide];show((a2/65536%65536:Nat):Int)<=(n:Int)↔_
   omega
  ·rw[decide_eq_decide];simp
 have hc:=Qe5 h a0 a1 a2 a3 a4 a5 a6 a7 n (a2%65536) (a2/65536%65536) (a2/4294967296%65536) (a3%65536) (a3/65536%65536) (a3/4294967296%65536) (a2/281474976710656) _ _ _ _ _ _ _ _ _ _ h1 h2 h3 hn
  (Qrf a2 h2) (Quy a2 h2) (Quz a2 h2) (by omega) (Qrf a3 h3) (Quy a3 h3) (Quz a3 h3) (by omega) (by omega) (by omega) (by omega) (by omega) (by omega) (by omega) hV hE hg
 refine hc.mono fun r w' hp => ?_
 obtain⟨hr,hb⟩:=hp;refine⟨?_,hb⟩
 rw[hr];unfold Jy
 cases Wk [a0,a1,a2,a3,a4,a5,a6,a7] n
 ·rfl
 ·rfl
end
end
end Go.Proofs.YtlhchkajjpefmaaGreatDoor
