/- Lemmas and walks, part 9: each theorem says what it proves; no condition beside its own. -/
import Derived.Test.YtlhchkajjpefmaaGreatDoorK8
import Derived.Lib.ItoaNum
set_option maxHeartbeats 16000000
set_option maxRecDepth 100000
namespace Go.Proofs.YtlhchkajjpefmaaGreatDoor
open Lib(hid)
open Go.RowKit Go.Proofs.Tryz
section
def Js:List (Nat×Int)->List (Nat×Int)
 | [] => []
 | e::l=>if l.any (fun x=>x.1==e.1)then Js l else e::Js l
theorem Qnw(l:List (Nat×Int)):∀ e∈Js l,e∈l:=by
 induction l with
 | nil=>intro e h;simp[Js]at h
 | cons x l ih=>
  intro e h;unfold Js at h
  split at h
  ·exact List.mem_cons_of_mem _ (ih e h)
  ·rcases List.mem_cons.1 h with rfl | h
   ·exact List.mem_cons_self ..
   ·exact List.mem_cons_of_mem _ (ih e h)
theorem Qnv(l:List (Nat×Int)):(Js l).length<=l.length:=by
 induction l with
 | nil=>exact Nat.le_refl _
 | cons x l ih=>
  unfold Js
  split
  ·simp;omega
  ·simp;omega
def Qfb(l:List (Nat×Int)):Nat->Nat->Int
 | 0,_=>0
 | k+1,x=>if(l.getD k (0,0)).1=x then k else Qfb l k x
theorem Q6o{l:List (Nat×Int)}{i:Nat}{e:Nat×Int}(he:l[i]? = some e)(k:Nat)(hk:i<k):(i:Int)<=Qfb l k e.1:=by
 induction k with
 | zero=>omega
 | succ k ih=>
  unfold Qfb
  by_cases h:i=k
  ·subst h
   rw[if_pos (by simp[List.getD,he])];omega
  ·split
   ·omega
   ·exact ih (by omega)
theorem Qw6{l:List (Nat×Int)}{i:Nat}{e:Nat×Int}(he:l[i]? = some e)(k:Nat)(hi:i<k)(hk:k<=l.length):Qfb l k e.1=i↔∀ j x,i<j->j<k->l[j]? = some x->x.1≠e.1:=by
 induction k with
 | zero=>omega
 | succ k ih=>
  by_cases h:i=k
  ·subst h
   constructor
   ·intro _ j x h1 h2;omega
   ·intro _;unfold Qfb;rw[if_pos (by simp[List.getD,he])]
  ·obtain⟨y,hy⟩:∃ y,l[k]? = some y:=⟨_,List.getElem?_eq_getElem (by omega)⟩
   have hyd:l.getD k (0,0)=y:=by simp[List.getD,hy]
   unfold Qfb;rw[hyd]
   constructor
   ·intro h1 j x h2 h3 hx
    split at h1
    ·omega
    ·rename_i hn
     by_cases hj:j=k
     ·subst hj
      rw[hy]at hx;cases hx;exact hn
     ·exact(ih (by omega) (by omega)).1 h1 j x h2 (by omega) hx
   ·intro h1
    rw[if_neg (h1 k y (by omega) (by omega) hy)];exact(ih (by omega) (by omega)).2 (fun j x h2 h3 hx=>h1 j x h2 (by omega) hx)
theorem Qsc{l:List (Nat×Int)}{i:Nat}{e:Nat×Int}(he:l[i]? = some e):(Qfb l l.length e.1=i)↔(l.drop (i+1)).any (fun x=>x.1==e.1)=false:=by
 have hi:i<l.length:=(List.getElem?_eq_some_iff.1 he).1;rw[Qw6 he l.length hi (Nat.le_refl _)]
 constructor
 ·intro h
  rw[List.any_eq_false];intro x hx hc;obtain⟨j,hj,rfl⟩:=List.getElem_of_mem hx;rw[List.getElem_drop]at hc;rw[List.length_drop]at hj;exact h (i+1+j) _ (by omega) (by omega) (List.getElem?_eq_getElem _) (by simpa using hc)
 ·intro h j x h1 h2 hx hc
  rw[List.any_eq_false]at h;refine h x ?_ (by simpa using hc)
  rw[List.mem_iff_getElem?];exact⟨j-(i+1),by rw[List.getElem?_drop,show i+1+(j-(i+1))=j by omega];exact hx⟩
theorem Qjj{l:List (Nat×Int)}{i:Nat}{e:Nat×Int}(he:l[i]? = some e):Js (l.drop i)=(if(l.drop (i+1)).any (fun x=>x.1==e.1)=true then []else [e])++Js (l.drop (i+1)):=by
 have hi:i<l.length:=(List.getElem?_eq_some_iff.1 he).1;have:l.drop i=e::l.drop (i+1):=by
  rw[List.drop_eq_getElem_cons hi];rw[List.getElem?_eq_getElem hi]at he;rw[Option.some.inj he]
 rw[this];show(if(l.drop (i+1)).any (fun x=>x.1==e.1)then Js (l.drop (i+1))else e::Js (l.drop (i+1)))=_
 split <;> rfl
def Ty(W:List (Nat×Int)):List Nat:=W.flatMap fun e => [e.1,e.2.toNat]
theorem Qg7(W:List (Nat×Int)):(Ty W).length=2*W.length:=by
 induction W with
 | nil=>rfl
 | cons x l ih=>simp[Ty]at *;omega
theorem Qcg(W:List (Nat×Int))(e:Nat×Int):Ty (W ++ [e])=Ty W ++ [e.1,e.2.toNat]:=by simp[Ty]
theorem Qmr{W:List (Nat×Int)}(h:∀ e∈W,e.1<18446744073709551616/\0<=e.2/\e.2<18446744073709551616):∀ x∈Ty W,x<18446744073709551616:=by
 intro x hx;obtain⟨e,he,h2⟩:=List.mem_flatMap.1 hx;have:=h e he;simp at h2
 rcases h2 with rfl | rfl <;> omega
def Uu(W:List (Nat×Int)):Nat:=W.length+Nd (Ty W)*4294967296
theorem Qex{W:List (Nat×Int)}(h:W.length<=96):Uu W<18446744073709551616:=by
 have:=Gn (Ty W);unfold Uu;omega
def Qn(base:Nat):List (Nat×Int)->List (Nat×Int)
 | [] => []
 | e::l=>(base,(e.1:Int))::(base+8,e.2)::Qn (base+16) l
theorem Qf4(l:List (Nat×Int))(e:Nat×Int):∀ b,Qn b (l ++ [e])=Qn b l ++ [(b+16*l.length,(e.1:Int)),(b+16*l.length+8,e.2)]:=by
 induction l with
 | nil=>intro b;simp[Qn]
 | cons x l ih=>intro b;simp only[List.cons_append,Qn,ih,List.length_cons];rw[show b+16+16*l.length=b+16*(l.length+1)by omega]
theorem Nu(l:List (Nat×Int)):∀ b,(Qn b l).length=2*l.length:=by
 induction l with
 | nil=>intro b;rfl
 | cons x l ih=>intro b;simp only[Qn,List.length_cons,ih];omega
theorem Sw(l:List (Nat×Int)):∀ b,∀ e∈Qn b l,b<=e.1/\e.1<b+16*l.length:=by
 induction l with
 | nil=>intro b e he;simp[Qn]at he
 | cons x l ih=>
  intro b e he;simp only[Qn,List.mem_cons]at he;simp only[List.length_cons]
  rcases he with rfl | rfl | h
  ·simp only;omega
  ·simp only;omega
  ·have:=ih _ e h;omega
def Jn(off:Nat)(W:List (Nat×Int)):List (Nat×Nat×Int):=Qe W++Qe [(off,0)]
def Zb(off:Nat)(W:List (Nat×Int)):List (Nat×Nat×Int):=if W = []then []else(Qe (Qn (off+64) W)++Qe [(off,(Uu W:Int))])++Jn off W
def Zg(size off len o:Nat):Bool:=decide (o%8=0/\o<size/\(o<off\/off+len<=o))
def Jj(size off len:Nat)(C:Nat->Int):Nat×List (Nat×Int):=
 let c:=(C (off/8)).toNat
 let n:=c%65536
 let W:=(List.range n).map fun i=>((C (off/8+8+2*i)).toNat,C (off/8+9+2*i))
 if c=0 then(1,[])
 else if n=0\/96<n\/c/65536%65536≠0 then(3,[])
 else if Nd (Ty W)≠c/4294967296 then(3,[])
 else if W.all (fun e=>Zg size off len e.1)then(2,W)else(3,[])
end
section
abbrev Gr:=List (Nat×Int)×List Nat
def Zz(offs:List Nat):List Nat:=(Zh offs).map (64 * ·)
def Xl(ws:List (Nat×Int)):List Gr:=if ws = []then []else [(ws,Zz (ws.map (·.1)))]
theorem Ep{offs:List Nat}:Zh offs = []↔offs = []:=by
 constructor
 ·intro h
  match offs with
  | []=>rfl
  | o::l=>
   have:=(Je (o::l) (o/64)).2 ⟨o,by simp,rfl⟩;rw[h]at this;simp at this
 ·intro h;subst h;rfl
theorem Yo(ws:List (Nat×Int)):Qe ws=Qi (Xl ws):=by
 unfold Qe Xl
 by_cases h:ws = []
 ·rw[if_pos h];subst h;rfl
 ·rw[if_neg h]
  unfold Zs;rw[if_neg (fun e=>h (by have:=Ep.1 e;simpa using this))];simp[Qi,Zu,Zz]
theorem Bn{offs:List Nat}{n:Nat}(h:∀ o∈offs,o<64*n):∀ o∈Zz offs,o<64*n:=fun o ho=>by
 obtain⟨m,hm,rfl⟩:=List.mem_map.1 ho;obtain⟨p,hp,rfl⟩:=(Je _ _).1 hm;have:=h p hp;omega
theorem Uq{ws:List (Nat×Int)}{n:Nat}(h:∀ e∈ws,e.1%8=0/\e.1<64*n):∀ g∈Xl ws,Jz n g:=fun g hg=>by
 unfold Xl at hg
 split at hg
 ·simp at hg
 ·simp at hg;subst hg
  refine⟨fun e he=>⟨(h e he).1,(h e he).2,64*(e.1/64),?_,by omega⟩,Bn (fun o ho=>by obtain⟨e,he,rfl⟩:=List.mem_map.1 ho;exact(h e he).2)⟩
  exact List.mem_map.2 ⟨e.1/64,(Je _ _).2 ⟨e.1,List.mem_map.2 ⟨e,he,rfl⟩,rfl⟩,rfl⟩
theorem Jo(ws:List (Nat×Int)):(Xl ws).flatMap (·.1)=ws:=by
 unfold Xl
 split
 ·rename_i h;subst h;rfl
 ·simp
theorem Kw(gs:List Gr):∀ (C:Nat->Int) (i:Nat),Rf C gs i=Qu (gs.flatMap (·.1)) (C i) i:=by
 induction gs with
 | nil=>intro C i;rfl
 | cons g gs ih=>
  intro C i;rw[Nk,ih,List.flatMap_cons,Jc]
theorem Qak(l:List (Nat×Int)):∀ (d d':Int) (i:Nat),(∃ e∈l,e.1/8=i)->Qu l d i=Qu l d' i:=by
 induction l with
 | nil=>intro d d' i h;obtain⟨e,he,_⟩:=h;simp at he
 | cons x l ih=>
  intro d d' i h
  by_cases hx:x.1/8=i
  ·have e1:∀ d,Qu (x::l) d i=Qu l x.2 i:=fun d=>by show Qu l (if x.1/8=i then x.2 else d) i=_;rw[if_pos hx]
   rw[e1,e1]
  ·have e1:∀ d,Qu (x::l) d i=Qu l d i:=fun d=>by show Qu l (if x.1/8=i then x.2 else d) i=_;rw[if_neg hx]
   rw[e1,e1];obtain⟨e,he,h2⟩:=h
   rcases List.mem_cons.1 he with rfl | he
   ·exact absurd h2 hx
   ·exact ih d d' i ⟨e,he,h2⟩
abbrev lk(C:Nat->Int):Nat×List (Nat×Int):=Jj 2560 320 1664 C
def Qve(C:Nat->Int)(i:Nat):Int:=if(lk C).1=2 then Qu ((lk C).2 ++ [(320,0)]) (C i) i else C i
def Q8d(f g:Nat->Int):Prop:=f 40=0/\∀ i,(i<40\/248<=i)->f i=g i
def Qld(X f:Nat->Int):Prop:=((lk f).1=1\/(lk f).1=2)/\Q8d (Qve f) X
end
section
theorem Rw{gs:List Gr}(h:∀ e∈gs.flatMap (·.1),0<=e.2/\e.2<18446744073709551616):Q3p (Qi gs):=by
 intro e he h1;obtain⟨g,hg,he⟩:=List.mem_flatMap.1 he;unfold Zu at he
 rcases List.mem_append.1 he with h2 | h2
 ·rcases List.mem_append.1 h2 with h3 | h3
  ·obtain⟨x,hx,rfl⟩:=List.mem_map.1 h3
   exact h x (List.mem_flatMap.2 ⟨g,hg,hx⟩)
  ·obtain⟨x,hx,rfl⟩:=List.mem_map.1 h3;simp at h1
 ·simp at h2;subst h2;simp at h1
theorem Q3c(D:Dev)(j:Nat)(e:Nat×Nat×Int):(D.step j e).n=D.n:=by
 unfold Dev.step Dev.store Dev.flush Dev.fence Dev.countedD Dev.onD Dev.fail
 repeat' split
 all_goals rfl
theorem Qyp(j:Nat)(l:List (Nat×Nat×Int)):∀ D:Dev,(D.run j l).n=D.n:=by
 induction l with
 | nil=>intro D;rfl
 | cons e l ih=>intro D;exact(ih (D.step j e)).trans (Q3c D j e)
section
variable{D:Dev}{C:Nat->Int}{x:Nat}
end
end

section
def cpW(C:Nat->Int)(i:Nat):List Nat := [(C (8*i)).toNat,(C (8*i+1)).toNat,(C (8*i+2)).toNat,(C (8*i+3)).toNat,(C (8*i+4)).toNat,(C (8*i+5)).toNat,(C (8*i+6)).toNat,(C (8*i+7)).toNat]
def cpG(C:Nat->Int)(n i:Nat):Bool:=Wk (cpW C i) n
def cpS(C:Nat->Int)(n i:Nat):Sup:=Jy (cpW C i) n
def Qhq(C:Nat->Int)(n:Nat):Bool:=cpG C n 1&&(!cpG C n 0 || decide ((cpS C n 0).gen<(cpS C n 1).gen))
def Kz(C:Nat->Int)(n:Nat):Nat:=if Qhq C n then 1 else 0
def Np(C:Nat->Int)(n:Nat):Bool:=if Qhq C n then true else cpG C n 0
def Vn(C:Nat->Int)(n:Nat):Sup:=cpS C n (Kz C n)
def Dr(s:Sup)(i:Nat):List (Nat×Int):=(64*i+56,0)::(List.range 8).map fun k=>(64*i+8*k,((s.words.getD k 0:Nat):Int))
def sbP(s:Sup)(i:Nat):List (Nat×Nat×Int):=Qe (Dr s i)
def Sup.withGen(s:Sup)(g:Int):Sup:={s with gen:=g}
theorem Sup.of_words(s:Sup)(h:s.Ok)(g1:0<=s.gen):Sup.of s.words=s:=by
 obtain⟨ver,lin,redo,und,desc,que,tab,gen⟩:=s;obtain⟨v1,v2,l1,l2,r1,u1,d1,q1,t1,r2,u2,d2,q2,t2,_⟩:=h;simp only at *;show Sup.dec gen.toNat (ver+lin*65536+redo*4294967296+und*281474976710656).toNat (desc+que*65536+tab*4294967296).toNat=_
 unfold Sup.dec
 congr 1 <;> omega
theorem Be(s:Sup)(h:s.Ok)(g1:0<=s.gen){n:Nat}(hn:s.lin<=n):Wk s.words n=true/\Jy s.words n=s:=by
 have hg:Wk s.words n=true:=by
  unfold Wk;rw[Sup.of_words s h g1,Sup.okB_true h];simp[hn]
 exact⟨hg,by unfold Jy;rw[if_pos hg,Sup.of_words s h g1]⟩
theorem Qfg{W:List Nat}{n:Nat}(h:W.getD 7 0=0):Wk W n=false:=by
 unfold Wk
 by_cases hw:(Sup.of W).words=W
 ·have h7:(Sup.of W).words.getD 7 0=4294967296+Nd (Sup.of W).first:=rfl
  rw[hw,h]at h7;omega
 ·simp[hw]
theorem Q1y(W:List Nat):(Sup.of W).gen=(W.getD 1 0:Nat):=rfl
theorem Qce{C C':Nat->Int}{i:Nat}(h:∀ x,8*i<=x->x<8*i+8->C x=C' x):cpW C i=cpW C' i:=by
 unfold cpW;rw[h (8*i) (by omega) (by omega),h (8*i+1) (by omega) (by omega),h (8*i+2) (by omega) (by omega),h (8*i+3) (by omega) (by omega),h (8*i+4) (by omega) (by omega),h (8*i+5) (by omega) (by omega),h (8*i+6) (by omega) (by omega),h (8*i+7) (by omega) (by omega)]
theorem Ff(s:Sup)(i n:Nat)(hi:i<n):∀ e∈Dr s i,e.1%8=0/\e.1<64*n/\e.1/64=i:=by
 intro e he;unfold Dr at he
 rcases List.mem_cons.1 he with rfl | he
 ·exact⟨by simp only;omega,by simp only;omega,by simp only;omega⟩
 ·obtain⟨k,hk,rfl⟩:=List.mem_map.1 he
  have:=List.mem_range.1 hk;exact⟨by simp only;omega,by simp only;omega,by simp only;omega⟩
theorem Rs(s:Sup)(i:Nat):Dr s i = [(64*i+56,0),(64*i,((s.words.getD 0 0:Nat):Int)),(64*i+8,((s.words.getD 1 0:Nat):Int)),(64*i+16,((s.words.getD 2 0:Nat):Int)),(64*i+24,((s.words.getD 3 0:Nat):Int)),(64*i+32,((s.words.getD 4 0:Nat):Int)),(64*i+40,((s.words.getD 5 0:Nat):Int)),(64*i+48,((s.words.getD 6 0:Nat):Int)),(64*i+56,((s.words.getD 7 0:Nat):Int))]:=rfl
theorem Qn6(s:Sup)(i:Nat)(C:Nat->Int):(∀ q,q<8->Qu (Dr s i) (C (8*i+q)) (8*i+q)=((s.words.getD q 0:Nat):Int))/\∀ k,1<=k->k<=8->Qu ((Dr s i).take k) (C (8*i+7)) (8*i+7)=0:=by
 have hd:∀ k,(64*i+8*k)/8=8*i+k:=fun k=>by omega
 constructor
 ·intro q hq
  rw[Rs];simp only[Qu,List.foldl_cons,List.foldl_nil];obtain rfl | rfl | rfl | rfl | rfl | rfl | rfl | rfl:q=0\/q=1\/q=2\/q=3\/q=4\/q=5\/q=6\/q=7:=by omega
  all_goals
   repeat rw[if_neg (by omega)]
   try rw[if_pos (by omega)]
   try (repeat rw[if_neg (by omega)])
 ·intro k h1 h8
  rw[Rs];obtain rfl | rfl | rfl | rfl | rfl | rfl | rfl | rfl:k=1\/k=2\/k=3\/k=4\/k=5\/k=6\/k=7\/k=8:=by omega
  all_goals
   simp only[List.take_succ_cons,List.take_zero,Qu,List.foldl_cons,List.foldl_nil]
   repeat rw[if_neg (by omega)]
   rw[if_pos (by omega)]
theorem Qal(s:Sup)(i k:Nat)(C:Nat->Int)(x:Nat)(hx:x/8≠i):Qu ((Dr s i).take k) (C x) x=C x:=
 Zp _ _ _ (fun e he h=>by have:=(Ff s i (i+1) (by omega) e (List.mem_of_mem_take he)).2.2;omega)
theorem Qwy(s:Sup)(i k:Nat)(C F:Nat->Int)(hk:k<=9)(hF:∀ x,F x=Qu ((Dr s i).take k) (C x) x) :
  (∀ j,j≠i->cpW F j=cpW C j)/\(cpW F i=cpW C i\/(cpW F i).getD 7 0=0\/cpW F i=s.words)/\(k=9->cpW F i=s.words):=by
 have hfull:k=9->cpW F i=s.words:=by
  rintro rfl;have hq:∀ q,q<8->F (8*i+q)=((s.words.getD q 0:Nat):Int):=fun q hq=>by
   rw[hF];rw[List.take_of_length_le (by rw[Rs];simp)];exact(Qn6 s i C).1 q hq
  have h0:=hq 0 (by omega);rw[Nat.add_zero]at h0;unfold cpW;rw[h0,hq 1 (by omega),hq 2 (by omega),hq 3 (by omega),hq 4 (by omega),hq 5 (by omega),hq 6 (by omega),hq 7 (by omega)];simp only[Int.toNat_natCast]
  rfl
 refine⟨fun j hj=>Qce (fun x h1 h2 => ?_),?_,hfull⟩
 ·rw[hF];exact Qal s i k C x (by omega)
 ·by_cases h0:k=0
  ·left;subst h0;exact Qce (fun x _ _=>by rw[hF];rfl)
  ·by_cases h9:k=9
   ·exact .inr (.inr (hfull h9))
   ·right;left
    have h7:=(Qn6 s i C).2 k (by omega) (by omega);show(F (8*i+7)).toNat=0
    rw[hF,h7];rfl
end

section
section
variable{w:World}
def WrU(w:World)(g o c:Nat)(xs:List Int):Prop:=Qj w 31 1 (.slice (some ⟨g,o,none⟩) xs.length c) xs.length (Xb xs)
theorem WrU.cell{g o c:Nat}{xs:List Int}(h:WrU w g o c xs)(i:Nat)(hi:i<xs.length):w.cell? ⟨g,o+i,none⟩=some (.int .u64 (at0 xs i)):=by
 obtain⟨_,a,c',e,_,h2⟩:=Qj.rd h
 cases e
 have hx:(Xb xs)[i]? = some (.int .u64 (at0 xs i)):=by simp[Xb,at0,List.getD,hi]
 rcases h2 with h2 | ⟨b,o',e,h3⟩
 ·rw[h2]at hx;simp at hx
 ·cases e;exact h3 i _ hx
theorem WrU.blk{g o c:Nat}{xs:List Int}(h:WrU w g o c xs):∃ cur,Blk w g cur 31:=by
 rcases h.2 with ⟨e,_⟩ | ⟨g',o',cap,cur,e,hb,_⟩
 ·cases e
 ·cases e;exact⟨cur,hb⟩
theorem WrU.frozen{g o c:Nat}{xs:List Int}(h:WrU w g o c xs)(i:Nat):w.frozen? ⟨g,i,none⟩=false:=by obtain⟨cur,hb⟩:=h.blk;exact hb.frozen i
theorem WrU.lt{g o c:Nat}{xs:List Int}(h:WrU w g o c xs):g<w.heap.size:=by obtain⟨cur,hb⟩:=h.blk;exact hb.lt
theorem WrU.le{g o c:Nat}{xs:List Int}(h:WrU w g o c xs):xs.length<=c/\xs.length<=maxLen:=by
 rcases h.2 with ⟨e,_⟩ | ⟨g',o',cap,cur,e,hb,h1,h2,_⟩
 ·cases e
 ·cases e;exact⟨h1,Nat.le_trans h1 h2⟩
theorem WrU.set{g o c:Nat}{xs:List Int}(h:WrU w g o c xs)(i:Nat)(_hi:i<xs.length)(x:Int):WrU (w.setCell ⟨g,o+i,none⟩ (.int .u64 x)) g o c (xs.set i x):=by
 rcases h.2 with ⟨e,_⟩ | ⟨g',o',cap,cur,e,hb,h1,h2,h3,h4⟩
 ·cases e
 ·cases e
  refine⟨by simp[Xb],.inr ⟨g,o,c,cur.setIfInBounds (o+i) (.int .u64 x),by rw[List.length_set],hb.set (o+i) _,by rw[List.length_set];exact h1,h2,by simpa using h3,?_⟩⟩
  rw[List.length_set,Array.toList_setIfInBounds,List.drop_set,if_neg (by omega),List.take_set,h4,show o+i-o=i by omega,Xb,Xb,List.map_set]
theorem WrU.drew{g o c:Nat}{xs:List Int}(h:WrU w g o c xs):WrU w.drew g o c xs:=Qj.drew h
theorem WrU.drewN{g o c:Nat}{xs:List Int}(h:WrU w g o c xs)(n:Nat):WrU (w.drewN n) g o c xs:=Qj.kept h (fun _ _=>rfl)
theorem Qs7(x y:Int):Calls prog 241 #[.int .u64 x,.int .u64 y] w fun r w'=>r = .returned (.bool (decide (x<y)))/\w=w':=by
 have h1:(x != x)=false:=by simp
 go_enter func241,ntmps241
 go_wp2
 go_ret
 exact⟨rfl,rfl⟩
theorem Zl(x y:Int)(b:Bool)(hb:decide (x<y)=b)(wx:World):Calls prog 241 #[.int .u64 x,.int .u64 y] wx fun r w'=>r = .returned (.bool b)/\w'=wx:=by
 have:=Qs7 (w:=wx) x y;rw[hb]at this;exact this.mono fun _ _ h=>⟨h.1,h.2.symm⟩
theorem WrU.upd{w':World}{g o c:Nat}{xs:List Int}(h:WrU w g o c xs){S:Nat->Prop}(hu:Upd S w w')(hS:¬ S g):WrU w' g o c xs:=Qj.upd h hu (fun k hk=>by simp[Value.ownBlock]at hk;subst hk;exact hS)
def Vf(w:World)(g o c:Nat)(xs:List Int)(a b:Nat)(w':World):Prop:=∃ ys,Yi xs ys a b/\Uv ys a b/\WrU w' g o c ys/\Upd (fun k=>k=g) w w'
def Qur(w:World)(g o c:Nat)(xs:List Int)(a b i:Nat)(wr:World):Prop:=∃ ys,Yi xs ys a b/\Uv ys a i/\WrU wr g o c ys/\Upd (fun k=>k=g) w wr
def Qlf(w:World)(g o c:Nat)(xs:List Int)(a b i j:Nat)(wr:World):Prop:=∃ ys,Yi xs ys a b/\Tq ys a i j/\WrU wr g o c ys/\Upd (fun k=>k=g) w wr
theorem Rc{g o c a b k j:Nat}{xs zs:List Int}{wr wq:World}{nq:Nat}(h:Yi xs zs a b/\Tq zs a k j/\WrU wr g o c zs/\Upd (fun k=>k=g) w wr)(hq:wr.drewN nq=wq) :
  Yi xs zs a b/\Tq zs a k j/\WrU wq g o c zs/\Upd (fun k=>k=g) w wq:=by
 subst hq;exact⟨h.1,h.2.1,h.2.2.1.drewN _,⟨h.2.2.2.os,h.2.2.2.tape,h.2.2.2.output,h.2.2.2.size,h.2.2.2.block⟩⟩
theorem Bk{g o c a b k j:Nat}{xs zs:List Int}{wq:World}(h:Yi xs zs a b/\Tq zs a k j/\WrU wq g o c zs/\Upd (fun k=>k=g) w wq)(hk:k<b)(h1:a<=j)(h2:j<=k)(h3:j=a\/at0 zs (j-1)<=at0 zs j) :
  Qur w g o c xs a b (min (k+1) b) wq:=⟨zs,h.1,by rw[show min (k+1) b=k+1 by omega];exact El zs a k j h.2.1 h1 h2 h3,h.2.2.1,h.2.2.2⟩
theorem Qfm{g o c a b k j:Nat}{xs zs:List Int}{wq wx:World}(h:Yi xs zs a b/\Tq zs a k j/\WrU wq g o c zs/\Upd (fun k=>k=g) w wq)(h1:a<j)(h2:j<=k)(h3:k<zs.length)(hkb:k<b)(hlt:at0 zs j<at0 zs (j-1))
  (hx:wx=((wq.setCell ⟨g,o+j,none⟩ (.int .u64 (at0 zs (j-1)))).setCell ⟨g,o+(j-1),none⟩ (.int .u64 (at0 zs j))).drew):Qlf w g o c xs a b k (j-1) wx:=by
 subst hx;refine⟨swp zs j (j-1),h.1.trans (Qd1 zs j (j-1) a b (by omega) (by omega) (by omega) (by omega) (by omega) (by omega)),Bj zs a k j h.2.1 h1 h2 h3 hlt,?_,
  (h.2.2.2.setCell (p:=⟨g,o+j,none⟩) (fun _=>rfl) _).setCell (p:=⟨g,o+(j-1),none⟩) (fun _=>rfl) _ |>.drew⟩
 exact((h.2.2.1.set j (by omega) _).set (j-1) (by rw[List.length_set];omega) _).drew
theorem Si(g o c a b:Nat)(xs:List Int)(h:WrU w g o c xs)(hab:a<=b)(hb:b<=xs.length)(hs:xs.length<=4611686018) :
  Calls prog 235 #[.slice (some ⟨g,o,none⟩) xs.length c,.int .i64 a,.int .i64 b] w fun r w'=>r = .returned (.tuple #[])/\Vf w g o c xs a b w':=by
 have hm:=h.le;unfold maxLen at hm;have H:=hid h;clear h
 generalize hn:xs.length=n at *
 have HN:=hid hn;clear hn
 go_enter func235,ntmps235
 go_wp2_with fail
 go_loopw [6,7] (fun i _ wr=>∃ k:Nat,a<k/\(k<=b\/k=a+1)/\i = .int .i64 k/\Qur w g o c xs a b (min k b) wr) (fun i _ _=>b+1-(intOf i).toNat)
 case atStart=>exact⟨a+1,by omega,.inr rfl,by go_num,xs,Yi.refl _ _ _,fun p q h1 h2 h3=>by omega,H.out,Upd.refl _ _⟩
 case round=>
  obtain⟨k,hk1,hk2,rfl,ys,m1,a1,w1,u1⟩:=hrel;have M:=hid (And.intro m1 (And.intro a1 (And.intro w1 u1)));clear m1 a1 w1 u1
  by_cases hlt:k<b
  ·obtain⟨wo,hwo⟩:∃ wo:World,wo=wr:=⟨_,rfl⟩
   subst hwo;go_wp2_with fail
   go_loopw [7] (fun x wr=>∃ j:Nat,a<=j/\j<=k/\x = .int .i64 j/\Qlf w g o c xs a b k j wr) (fun x _=>(intOf x).toNat)
   case atStart=>exact⟨k,by omega,Nat.le_refl _,rfl,ys,M.out.1,Pb ys a k (by have:=M.out.2.1;rw[show min k b=k by omega]at this;exact this),M.out.2.2.1,M.out.2.2.2⟩
   case round=>
    obtain⟨j,hj1,hj2,rfl,zs,m2,i2,w2,u2⟩:=hrel;have hzl:zs.length=n:=by rw[m2.len,HN.out]
    have Z:=hid (And.intro m2 (And.intro i2 (And.intro w2 u2)));have HZL:=hid hzl;clear M
    by_cases hja:a<j
    ·have g1:(a:Int)<j:=by omega
     have c1:=w2.cell j (by omega);have c2:=w2.cell (j-1) (by omega);have hgs:=w2.lt;have f1:=w2.frozen (o+j);have f2:=w2.frozen (o+(j-1))
     have hi1:IntKind.i64.wrap ((j:Int)-1)=(j:Int)-1:=IntWalk.i64_in _ (by omega);have hi2:((j:Int)-1).toNat=j-1:=by omega
     have hi3:(0:Int)<=(j:Int)-1:=by omega
     have hi4:(1:Int)<=(j:Int):=by omega
     have hi5:(j:Int)<n:=by omega
     have hi6:(j:Int)-1<n:=by omega
     clear m2 i2 w2 u2 hzl
     by_cases hl:at0 zs j<at0 zs (j-1)
     all_goals have HLT:=hid hl
     ·have hd:decide (at0 zs j<at0 zs (j-1))=true:=by simpa using hl
      have LQ:=hid (Zl _ _ _ hd);clear hd hl
      go_wp2_with fail
      go_quiet ((go_at_call 241;exact Calls.quiet_of_same (LQ.out _)))
      go_wp2_with fail
      obtain⟨wq,hwq⟩:∃ wq,wr.drewN nq=wq:=⟨_,rfl⟩;rw[hwq];have Zq:=hid (Rc Z.out hwq);have d1:=Zq.out.2.2.1.cell j (by rw[HZL.out];omega);have d2:=Zq.out.2.2.1.cell (j-1) (by rw[HZL.out];omega)
      have e1:=Zq.out.2.2.1.frozen (o+j);have e2:=Zq.out.2.2.1.frozen (o+(j-1))
      have hgq:=Zq.out.2.2.1.lt;have hne:¬ o+(j-1)=o+j:=by omega
      clear c1 c2 f1 f2 hgs Z LQ hwq
      go_region
      all_goals go_wp2_with fail
      all_goals
       go_roundw
       case rel=>exact⟨j-1,by omega,by omega,by go_num,Qfm Zq.out (by omega) (by omega) (by rw[HZL.out];omega) (by omega) HLT.out rfl⟩
       case measure=>simp[intOf];omega
     ·have hd:decide (at0 zs j<at0 zs (j-1))=false:=by simpa using hl
      have LQ:=hid (Zl _ _ _ hd);clear hd hl
      go_wp2_with fail
      go_quiet ((go_at_call 241;exact Calls.quiet_of_same (LQ.out _)))
      go_wp2_with fail
      go_roundw
      case rel=>exact⟨k+1,by omega,by omega,by go_num,Bk (Rc Z.out rfl) (by omega) hj1 hj2 (.inr (by have:=HLT.out;omega))⟩
      case measure=>simp[intOf];omega
    ·have g1:decide ((a:Int)<j)=false:=by simp;omega
     clear m2 i2 w2 u2 hzl;go_wp2_with fail
     go_quiet (fail)
     go_wp2_with fail
     go_roundw
     case rel=>exact⟨k+1,by omega,by omega,by go_num,Bk (Rc Z.out rfl) (by omega) hj1 hj2 (.inl (by omega))⟩
     case measure=>simp[intOf];omega
  ·go_wp2_with fail
   go_end0
   refine⟨rfl,ys,M.out.1,?_,M.out.2.2.1,M.out.2.2.2⟩
   have:=M.out.2.1;rw[show min k b=b by omega]at this;exact this
theorem Sb(n:Nat)(hn:n<256):Calls prog 221 #[.int .u64 n] w fun r w'=>∃ k:Int,r = .returned (.int .i64 k)/\w=w':=
 (Tryz.bits_Len n w (by omega) (by omega)).mono fun _ _ h=>⟨_,h.1,h.2.symm⟩
theorem Qah:Calls prog 235 #[.slice none 0 0,.int .i64 0,.int .i64 0] w fun r w'=>r = .returned (.tuple #[])/\w=w':=by
 go_enter func235,ntmps235
 go_wp2_with fail
 go_loop [6] (fun i=>i = .int .i64 1) (fun _=>0)
 case atStart=>rfl
 case round=>
  subst hrel;go_wp2_with fail
  go_end0
  exact⟨rfl,rfl⟩
theorem Qx6(lim:Int):Calls prog 220 #[.slice none 0 0,.int .i64 0,.int .i64 0,.int .i64 lim] w fun r w'=>r = .returned (.tuple #[])/\w=w':=by
 have HI:=hid (Qah (w:=w))
 go_enter func220,ntmps220
 go_wp2_with fail
 go_loopw [1,2] (fun x y wr=>x = .int .i64 0/\y = .int .i64 0/\w=wr) (fun _ _ _=>0)
 case atStart=>exact⟨rfl,rfl,rfl⟩
 case round=>
  obtain⟨rfl,rfl,rfl⟩:=hrel;go_wp2_with fail
  (with_reducible refine HI.out.mono ?_)
  rintro e w1 ⟨rfl,rfl⟩;go_wp2_with fail
  (try simp only[Exit.inBlock,Exit.then]);refine bodyPost_ret (results_none rfl _ _ _) rfl ?_
  exact⟨rfl,rfl⟩
theorem Qh5:Calls prog 192 #[.slice none 0 0] w fun r w'=>r = .returned (.tuple #[])/\w=w':=by
 have HP:=hid (fun lim=>Qx6 (w:=w) lim);have hL:=Sb (w:=w) 0 (by omega);rw[show((0:Nat):Int)=0 from rfl]at hL;have HL:=hid hL;clear hL
 go_enter func192,ntmps192
 go_wp2_with fail
 (with_reducible refine HL.out.mono ?_)
 rintro e w' ⟨k,rfl,rfl⟩;go_wp2_with fail
 (with_reducible refine(HP.out _).mono ?_)
 rintro e w1 ⟨rfl,rfl⟩;go_wp2_with fail
 go_end0
 exact⟨rfl,rfl⟩
end
end

section
theorem Rg{l m:List Int}(hl:l.length=m.length)(h:∀ i,i<l.length->at0 l i=at0 m i):l=m:=by
 refine List.ext_getElem hl fun i h1 h2 => ?_
 have:=h i h1;simpa [at0,List.getD,h1,h2]using this
theorem Qwi{l:List Int}{i:Nat}(h:i<l.length):at0 l i∈l:=by
 have:at0 l i=l[i]:=by simp[at0,List.getD,h]
 rw[this];exact List.getElem_mem h
theorem Il(l:List Int)(n i:Nat)(h:i<n):at0 (l.take n) i=at0 l i:=by simp[at0,h]
theorem Ik(l:List Int)(n i:Nat):at0 (l.drop n) i=at0 l (n+i):=by simp[at0,List.getD,List.getElem?_drop]
theorem Yi.mid{xs ys:List Int}{a b:Nat}(h:Yi xs ys a b)(hab:a<=b)(hb:b<=xs.length):((ys.drop a).take (b-a)).Perm ((xs.drop a).take (b-a)):=by
 have hl:=h.len;have e1:ys.take a=xs.take a:=by
  refine Rg (by simp[hl]) fun i hi => ?_
  have:i<a:=by simp at hi;omega
  rw[Il _ _ _ this,Il _ _ _ this];exact h.out i (.inl this)
 have e2:ys.drop b=xs.drop b:=by
  refine Rg (by simp[hl]) fun i _ => ?_
  rw[Ik,Ik];exact h.out _ (.inr (by omega))
 have s:∀ l:List Int,l=l.take a++((l.drop a).take (b-a)++l.drop b):=fun l=>by
  have h1:(l.drop a).take (b-a)++l.drop b=l.drop a:=by
   have:=List.take_append_drop (b-a) (l.drop a);rw[List.drop_drop,show a+(b-a)=b by omega]at this;exact this
  rw[h1,List.take_append_drop]
 have hp:=h.perm;rw[s ys,s xs,e1,e2]at hp;exact(List.perm_append_right_iff _).1 ((List.perm_append_left_iff _).1 hp)
theorem Yi.all{xs ys:List Int}{a b:Nat}(h:Yi xs ys a b)(hb:b<=xs.length){P:Int->Prop}(hx:∀ q,a<=q->q<b->P (at0 xs q)):∀ q,a<=q->q<b->P (at0 ys q):=by
 intro q h1 h2;have hm:at0 ys q∈(ys.drop a).take (b-a):=by
  have e:at0 ((ys.drop a).take (b-a)) (q-a)=at0 ys q:=by rw[Il _ _ _ (by omega),Ik,show a+(q-a)=q by omega]
  rw[<- e];exact Qwi (by have:=h.len;simp;omega)
 have hm2:=(h.mid (by omega) hb).mem_iff.1 hm;obtain⟨i,hi,e⟩:=List.mem_iff_getElem.1 hm2;have hi2:i<b-a/\a+i<xs.length:=by simp at hi;omega
 have e3:at0 xs (a+i)=at0 ys q:=by
  rw[<- e];simp[at0,List.getD,hi2.2]
 rw[<- e3];exact hx _ (by omega) (by omega)
def Cv(l:List Int)(a0 a b b0:Nat):Prop:=∀ p q,a0<=p+1->p<q->q<b0->(p<a\/b<=q)->at0 l p<=at0 l q
def Qqy(l:List Int)(a b:Nat):Prop:=∀ q,a<=q->q<b->0<a->at0 l (a-1)<=at0 l q
theorem Cv.start{l:List Int}{a b:Nat}(h:Qqy l a b):Cv l a a b b:=fun p q h1 h2 h3 h4=>by
 have e:p=a-1:=by omega
 subst e;exact h q (by omega) h3 (by omega)
theorem Cv.low{l:List Int}{a0 a b b0:Nat}(h:Cv l a0 a b b0)(h1:a0<=a)(h2:b<=b0):Qqy l a b:=fun q h3 h4 h5=>h (a-1) q (by omega) (by omega) (by omega) (.inl (by omega))
theorem Cv.mix{l m:List Int}{a0 a b b0:Nat}(h:Cv l a0 a b b0)(g1:a0<=a)(g2:b<=b0)(hm:Yi l m a b)(hb:b<=l.length):Cv m a0 a b b0:=by
 intro p q h1 h2 h3 h4
 rcases Nat.lt_or_ge p a with hp | hp
 ·rw[hm.out p (.inl hp)]
  by_cases hq:a<=q/\q<b
  ·exact hm.all hb (P:=fun x=>at0 l p<=x) (fun r h5 h6=>h p r h1 (by omega) (by omega) (.inl hp)) q hq.1 hq.2
  ·rw[hm.out q (by omega)];exact h p q h1 h2 h3 (.inl hp)
 ·have hq:b<=q:=by omega
  rw[hm.out q (.inr hq)]
  by_cases hpb:p<b
  ·exact hm.all hb (P:=fun x=>x<=at0 l q) (fun r h5 h6=>h r q (by omega) (by omega) h3 (.inr hq)) p hp hpb
  ·rw[hm.out p (.inr (by omega))];exact h p q h1 h2 h3 (.inr hq)
theorem Cv.done{l:List Int}{a0 a b b0:Nat}(h:Cv l a0 a b b0)(ha:Uv l a b):Uv l a0 b0:=fun p q h1 h2 h3=>by
 by_cases hh:p<a\/b<=q
 ·exact h p q (by omega) h2 h3 hh
 ·exact ha p q (by omega) h2 (by omega)
def Ls(l:List Int)(a m b:Nat):Prop:=a<=m/\m<b/\(∀ q,a<=q->q<m->at0 l q<=at0 l m)/\∀ q,m<q->q<b->at0 l m<=at0 l q
theorem Ls.lowR{l:List Int}{a m b:Nat}(h:Ls l a m b):Qqy l (m+1) b:=fun q h1 h2 _=>h.2.2.2 q (by omega) h2
theorem Cv.lowL{l:List Int}{a0 a m b b0:Nat}(h:Cv l a0 a b b0)(hp:Ls l a m b)(h1:a0<=a)(h2:b<=b0):Qqy l a m:=fun q h3 h4 h5=>h.low h1 h2 q h3 (by have:=hp.2.1;omega) h5
theorem Cv.left{l m:List Int}{a0 a k b b0:Nat}(h:Cv l a0 a b b0)(g1:a0<=a)(g2:b<=b0)(hp:Ls l a k b)(hm:Yi l m a k)(ha:Uv m a k)(hb:b<=l.length):Cv m a0 (k+1) b b0:=by
 obtain⟨p1,p2,p3,p4⟩:=hp;have hs:=h.mix g1 g2 (hm.mono (Nat.le_refl _) (Nat.le_of_lt p2)) hb;have hk:at0 m k=at0 l k:=hm.out k (.inr (Nat.le_refl _));have hlo:∀ q,a<=q->q<k->at0 m q<=at0 m k:=by rw[hk];exact hm.all (by omega) (P:=fun x=>x<=at0 l k) p3
 intro p q h1 h2 h3 h4
 by_cases hh:p<a\/b<=q
 ·exact hs p q h1 h2 h3 hh
 ·have hp2:p<=k:=by omega
  by_cases hqk:q<k
  ·exact ha p q (by omega) h2 hqk
  ·by_cases hpk:p=k
   ·subst hpk;rw[hk,hm.out q (.inr (by omega))];exact p4 q h2 (by omega)
   ·have e1:=hlo p (by omega) (by omega)
    by_cases hqe:q=k
    ·rw[hqe];exact e1
    ·have e2:=p4 q (by omega) (by omega)
     rw[<- hk,<- hm.out q (.inr (by omega))]at e2;exact Int.le_trans e1 e2
theorem Cv.right{l m:List Int}{a0 a k b b0:Nat}(h:Cv l a0 a b b0)(g1:a0<=a)(g2:b<=b0)(hp:Ls l a k b)(hm:Yi l m (k+1) b)(ha:Uv m (k+1) b)(hb:b<=l.length):Cv m a0 a k b0:=by
 obtain⟨p1,p2,p3,p4⟩:=hp;have hs:=h.mix g1 g2 (hm.mono (by omega) (Nat.le_refl _)) hb;have hk:at0 m k=at0 l k:=hm.out k (.inl (by omega));have hhi:∀ q,k+1<=q->q<b->at0 m k<=at0 m q:=by rw[hk];exact hm.all hb (P:=fun x=>at0 l k<=x) (fun q h1 h2=>p4 q (by omega) h2)
 intro p q h1 h2 h3 h4
 by_cases hh:p<a\/b<=q
 ·exact hs p q h1 h2 h3 hh
 ·have hq2:k<=q:=by omega
  by_cases hpk:k<p
  ·exact ha p q (by omega) h2 (by omega)
  ·by_cases hqk:q=k
   ·subst hqk;rw[hk,hm.out p (.inl (by omega))];exact p3 p (by omega) h2
   ·have e2:=hhi q (by omega) (by omega)
    by_cases hpe:p=k
    ·rw[hpe];exact e2
    ·have e1:=p3 p (by omega) (by omega)
     rw[<- hk,<- hm.out p (.inl (by omega))]at e1;exact Int.le_trans e1 e2
def Ii(l:List Int)(a m b:Nat)(x:Int):Prop:=a<m/\m<=b/\∀ q,a<=q->q<m->at0 l q<=x
theorem Cv.eq{l m:List Int}{a0 a k b b0:Nat}{x:Int}(h:Cv l a0 a b b0)(h1:a0<=a)(h2:b<=b0)(hm:Yi l m a b)(hp:Ii m a k b x)(hx:x<=at0 l (a-1))(ha:0<a)(hb:b<=l.length):Cv m a0 k b b0:=by
 obtain⟨p1,p2,p3⟩:=hp;have hs:=h.mix h1 h2 hm hb;have hlo:=hm.all hb (P:=fun y=>at0 l (a-1)<=y) (fun q h3 h4=>h.low h1 h2 q h3 h4 ha);intro p q h3 h4 h5 h6
 by_cases hh:p<a\/b<=q
 ·exact hs p q h3 h4 h5 hh
 ·exact Int.le_trans (p3 p (by omega) (by omega)) (Int.le_trans hx (hlo q (by omega) (by omega)))
def Xu(l:List Int)(f lo n r:Nat):Prop:=(∀ i c,lo<=i->i≠r->(c=2*i+1\/c=2*i+2)->c<n->at0 l (f+c)<=at0 l (f+i)) /\
 ∀ i c,lo<=i->(r=2*i+1\/r=2*i+2)->(c=2*r+1\/c=2*r+2)->c<n->at0 l (f+c)<=at0 l (f+i)
def Qgx(l:List Int)(f lo n:Nat):Prop:=∀ i c,lo<=i->(c=2*i+1\/c=2*i+2)->c<n->at0 l (f+c)<=at0 l (f+i)
theorem Qgx.but{l:List Int}{f lo n:Nat}(h:Qgx l f (lo+1) n):Xu l f lo n lo:=⟨fun i c h1 h2 h3 h4=>h i c (by omega) h3 h4,fun i c h1 h2 h3 h4=>by omega⟩
theorem Xu.stop{l:List Int}{f lo n r:Nat}(h:Xu l f lo n r)(hr:∀ c,(c=2*r+1\/c=2*r+2)->c<n->at0 l (f+c)<=at0 l (f+r)):Qgx l f lo n:=fun i c h1 h2 h3=>by
 by_cases e:i=r
 ·subst e;exact hr c h2 h3
 ·exact h.1 i c h1 e h2 h3
theorem Xu.step{l:List Int}{f lo n r k:Nat}(h:Xu l f lo n r)(hlo:lo<=r)(hk:k=2*r+1\/k=2*r+2)(hkn:k<n)(hfn:f+n<=l.length)
  (hmax:∀ c,(c=2*r+1\/c=2*r+2)->c<n->at0 l (f+c)<=at0 l (f+k)) (hlt:at0 l (f+r)<at0 l (f+k)):Xu (swp l (f+r) (f+k)) f lo n k:=by
 have e:=fun q=>Ub l (f+r) (f+k) q (by omega) (by omega)
 refine⟨fun i c h1 h2 h3 h4 => ?_,fun i c h1 h2 h3 h4 => ?_⟩
 ·rw[e,e]
  by_cases hir:i=r
  ·subst hir
   rw[if_neg (show ¬ f+i=f+k by omega),if_pos (show f+i=f+i from rfl)]
   by_cases hck:c=k
   ·rw[if_pos (by omega)];omega
   ·rw[if_neg (by omega),if_neg (by omega)];exact hmax c h3 h4
  ·rw[if_neg (show ¬ f+i=f+k by omega),if_neg (show ¬ f+i=f+r by omega)]
   by_cases hcr:c=r
   ·subst hcr
    rw[if_neg (by omega),if_pos rfl];exact h.2 i k h1 h3 hk hkn
   ·rw[if_neg (show ¬ f+c=f+k by omega),if_neg (by omega)];exact h.1 i c h1 hir h3 h4
 ·have hi:i=r:=by omega
  subst hi;rw[e,e,if_neg (show ¬ f+i=f+k by omega),if_pos rfl,if_neg (by omega),if_neg (by omega)];exact h.1 k c (by omega) (by omega) h3 h4
theorem Qgx.root{l:List Int}{f n:Nat}(h:Qgx l f 0 n):∀ k,k<n->at0 l (f+k)<=at0 l f:=by
 intro k
 induction k using Nat.strongRecOn with
 | ind k ih=>
  intro hk
  by_cases h0:k=0
  ·subst h0;simp
  ·have h1:=h ((k-1)/2) k (Nat.zero_le _) (by omega) hk
   exact Int.le_trans h1 (ih ((k-1)/2) (by omega) (by omega))
theorem Qgx.leaves(l:List Int)(f n:Nat):Qgx l f ((n-1)/2+1) n:=fun i c h1 h2 h3=>by omega
structure Rz(l:List Int)(f k n:Nat):Prop where
 heap:Qgx l f 0 k
 asc:Uv l (f+k) (f+n)
 big:∀ p q,f<=p->p<f+k->f+k<=q->q<f+n->at0 l p<=at0 l q
theorem Rz.start{l:List Int}{f n:Nat}(h:Qgx l f 0 n):Rz l f n n:=⟨h,fun p q h1 h2 h3=>by omega,fun p q _ _ h1 h2=>by omega⟩
theorem Rz.step{l m:List Int}{f k n:Nat}(h:Rz l f (k+1) n)(hk:k+1<=n)(hn:f+n<=l.length)(hm:Yi (swp l f (f+k)) m f (f+k))(hh:Qgx m f 0 k):Rz m f k n:=by
 have e:=fun q=>Ub l f (f+k) q (by omega) (by omega)
 have hroot:=h.heap.root;have hm':∀ p,p<f\/f+k<=p->at0 m p=at0 (swp l f (f+k)) p:=hm.out;have hK:at0 m (f+k)=at0 l f:=by rw[hm' _ (.inr (Nat.le_refl _)),e,if_pos rfl]
 have hQ:∀ q,f+k<q->at0 m q=at0 l q:=fun q hq=>by rw[hm' _ (.inr (by omega)),e,if_neg (by omega),if_neg (by omega)]
 have hsw:∀ p,f<=p->p<f+k->∃ r,f<=r/\r<f+(k+1)/\at0 (swp l f (f+k)) p=at0 l r:=fun p h1 h2=>by
  rw[e,if_neg (by omega)]
  by_cases ef:p=f
  ·rw[if_pos ef];exact⟨f+k,by omega,by omega,rfl⟩
  ·rw[if_neg ef];exact⟨p,by omega,by omega,rfl⟩
 refine⟨hh,fun p q h1 h2 h3 => ?_,fun p q h1 h2 h3 h4 => ?_⟩
 ·rw[hQ q (by omega)]
  by_cases ep:p=f+k
  ·subst ep;rw[hK];exact h.big f q (Nat.le_refl _) (by omega) (by omega) h3
  ·rw[hQ p (by omega)];exact h.asc p q (by omega) h2 h3
 ·have hlen:f+k<=(swp l f (f+k)).length:=by rw[Hz];omega
  refine hm.all hlen (P:=fun x=>x<=at0 m q) (fun r h5 h6 => ?_) p h1 h2
  obtain⟨r',h7,h8,h9⟩:=hsw r h5 h6;rw[h9]
  by_cases eq:q=f+k
  ·subst eq;rw[hK]
   have:=hroot (r'-f) (by omega);rw[show f+(r'-f)=r' by omega]at this;exact this
  ·rw[hQ q (by omega)];exact h.big r' q h7 h8 (by omega) h4
theorem Rz.done{l:List Int}{f n:Nat}(h:Rz l f 0 n):Uv l f (f+n):=fun p q h1 h2 h3=>h.asc p q (by omega) h2 h3
end

section
section
variable{w:World}
structure Zk(w:World)(g o c:Nat)(xs:List Int)(a b:Nat)(ys:List Int)(wr:World):Prop where
 mix:Yi xs ys a b
 own:WrU wr g o c ys
 upd:Upd (fun k=>k=g) w wr
variable{g o c a b:Nat}{xs ys zs:List Int}{wr:World}
theorem Zk.refl(h:WrU w g o c xs)(a b:Nat):Zk w g o c xs a b xs w:=⟨Yi.refl _ _ _,h,Upd.refl _ _⟩
theorem Zk.len(h:Zk w g o c xs a b ys wr):ys.length=xs.length:=h.mix.len
theorem Zk.drewN(h:Zk w g o c xs a b ys wr)(n:Nat):Zk w g o c xs a b ys (wr.drewN n):=⟨h.mix,h.own.drewN n,⟨h.upd.os,h.upd.tape,h.upd.output,h.upd.size,h.upd.block⟩⟩
theorem Zk.swap(h:Zk w g o c xs a b ys wr)(i j:Nat)(h1:a<=i)(h2:i<b)(h3:a<=j)(h4:j<b)(hb:b<=xs.length) :
  Zk w g o c xs a b (swp ys i j) ((wr.setCell ⟨g,o+i,none⟩ (.int .u64 (at0 ys j))).setCell ⟨g,o+j,none⟩ (.int .u64 (at0 ys i))).drew:=by
 have hl:=h.len;refine⟨h.mix.trans (Qd1 ys i j a b (by omega) (by omega) h1 h2 h3 h4),?_,((h.upd.setCell (p:=⟨g,o+i,none⟩) (fun _=>rfl) _).setCell (p:=⟨g,o+j,none⟩) (fun _=>rfl) _).drew⟩
 exact((h.own.set i (by omega) _).set j (by rw[List.length_set];omega) _).drew
theorem Zk.trans{w1 w2:World}(h:Zk w g o c xs a b ys w1)(k:Zk w1 g o c ys a b zs w2):Zk w g o c xs a b zs w2:=⟨h.mix.trans k.mix,k.own,h.upd.trans k.upd (fun _ _ h=>h)⟩
theorem Zk.mono{a' b':Nat}(h:Zk w g o c xs a b ys wr)(h1:a'<=a)(h2:b<=b'):Zk w g o c xs a' b' ys wr:=⟨h.mix.mono h1 h2,h.own,h.upd⟩
theorem Zk.later{w1:World}(h:Zk w g o c xs a b ys wr)(hb:Upd (fun _=>False) wr w1):Zk w g o c xs a b ys w1:=⟨h.mix,h.own.upd hb (fun f=>f),h.upd.trans hb (fun _ _ f=>f.elim)⟩
theorem Qgc(h:WrU w g o c xs)(hab:a<b)(hb:b<=xs.length)(hs:xs.length<=4611686018) :
  Calls prog 239 #[.slice (some ⟨g,o,none⟩) xs.length c,.int .i64 a,.int .i64 b] w fun r w'=>r = .returned (.tuple #[])/\∃ ys,Zk w g o c xs a b ys w':=by
 have hm:=h.le;unfold maxLen at hm;have H:=hid (Zk.refl h a b);clear h
 generalize hn:xs.length=n at *
 have HN:=hid hn;clear hn
 go_enter func239,ntmps239
 go_wp2_with fail
 go_loopw [6,7] (fun x y wr=>∃ i j:Nat,a<=i/\i<=b/\j<b/\a<=j+1/\x = .int .i64 i/\y = .int .i64 j/\∃ ys,Zk w g o c xs a b ys wr) (fun x _ _=>b-(intOf x).toNat)
 case atStart=>exact⟨a,b-1,by omega,by omega,by omega,by omega,rfl,by rw[show((b-1:Nat):Int)=(b:Int)-1 by omega],xs,H.out⟩
 case round=>
  obtain⟨i,j,hi1,hi2,hj1,hj2,rfl,rfl,ys,hM⟩:=hrel;have hyl:ys.length=n:=by rw[hM.len,HN.out]
  have M:=hid hM
  by_cases hlt:i<j
  ·have hlt':(i:Int)<j:=by omega
   have c1:=hM.own.cell i (by omega);have c2:=hM.own.cell j (by omega)
   have f1:=hM.own.frozen (o+i);have f2:=hM.own.frozen (o+j)
   have hg:=hM.own.lt;have hne:¬ o+j=o+i:=by omega
   clear hM hyl H;go_wp2_with fail
   go_region
   all_goals go_wp2_with fail
   all_goals
    go_roundw
    case rel=>exact⟨i+1,j-1,by omega,by omega,by omega,by omega,by go_num,by rw[show((j-1:Nat):Int)=(j:Int)-1 by omega],_,M.out.swap i j (by omega) (by omega) (by omega) hj1 (by rw[HN.out];exact hb)⟩
    case measure=>simp[intOf];omega
  ·clear hM hyl H
   go_wp2_with fail
   go_end0
   exact⟨rfl,ys,M.out⟩
theorem Qgv(q t:Nat)(x:Int)(h:Blk w q #[.int .u64 x] t) :
  Calls prog 255 #[.pointer (some ⟨q,0,none⟩)] w fun r w'=>∃ y z:Int,r = .returned (.int .u64 y)/\0<=y/\y<=18446744073709551615/\Blk w' q #[.int .u64 z] t/\Upd (fun k=>k=q) w w':=by
 have c0:w.cell? ⟨q,0,none⟩=some (.int .u64 x):=h.cell rfl;have f0:=h.frozen 0;have B0:=hid h;have U0:=hid (Upd.refl (fun k=>k=q) w);clear h
 go_enter func255,ntmps255
 go_wp2_with fail
 all_goals go_region
 all_goals go_wp2_with fail
 all_goals
  have X:=hid (And.intro (Go.bits_lo_u64 .xor x (IntKind.u64.wrap (x*8192))) (Go.bits_hi_u64 .xor x (IntKind.u64.wrap (x*8192))))
  generalize bits BinOp.xor IntKind.u64 x (IntKind.u64.wrap (x*8192))=x1 at *
  have B1:=hid ((B0.out.set 0 (.int .u64 x1)).drew);have U1:=hid ((U0.out.setCell (p:=⟨q,0,none⟩) (fun _=>rfl) (.int .u64 x1)).drew)
  generalize ((w.setCell ⟨q,0,none⟩ (.int .u64 x1)).drew)=w1 at *
  clear c0 f0;have c1:w1.cell? ⟨q,0,none⟩=some (.int .u64 x1):=B1.out.cell rfl;have f1:=B1.out.frozen 0
 all_goals go_region
 all_goals go_wp2_with fail
 all_goals
  have X:=hid (And.intro (Go.bits_lo_u64 .xor x1 (x1/128)) (Go.bits_hi_u64 .xor x1 (x1/128)))
  generalize bits BinOp.xor IntKind.u64 x1 (x1/128)=x2 at *
  have B2:=hid ((B1.out.set 0 (.int .u64 x2)).drew);have U2:=hid ((U1.out.setCell (p:=⟨q,0,none⟩) (fun _=>rfl) (.int .u64 x2)).drew)
  generalize ((w1.setCell ⟨q,0,none⟩ (.int .u64 x2)).drew)=w2 at *
  clear c1 f1;have c2:w2.cell? ⟨q,0,none⟩=some (.int .u64 x2):=B2.out.cell rfl;have f2:=B2.out.frozen 0
 all_goals go_region
 all_goals go_wp2_with fail
 all_goals
  have X:=hid (And.intro (Go.bits_lo_u64 .xor x2 (IntKind.u64.wrap (x2*131072))) (Go.bits_hi_u64 .xor x2 (IntKind.u64.wrap (x2*131072))))
  generalize bits BinOp.xor IntKind.u64 x2 (IntKind.u64.wrap (x2*131072))=x3 at *
  have B3:=hid ((B2.out.set 0 (.int .u64 x3)).drew);have U3:=hid ((U2.out.setCell (p:=⟨q,0,none⟩) (fun _=>rfl) (.int .u64 x3)).drew)
  generalize ((w2.setCell ⟨q,0,none⟩ (.int .u64 x3)).drew)=w3 at *
  clear c2 f2;have c3:w3.cell? ⟨q,0,none⟩=some (.int .u64 x3):=B3.out.cell rfl;have f3:=B3.out.frozen 0
 all_goals go_ret
 all_goals exact⟨_,_,rfl,X.out.1,X.out.2,B3.out,U3.out⟩
theorem Qya(n:Nat)(h0:0<n)(hn:n<=100000):∃ m:Nat,IntKind.u64.wrap (2 ^ min (Lib.bitLen n) 64)=m/\n<m/\m<=2*n:=by
 have hb:=Lib.bitLenAux_bounds 64 n (by omega) (by omega);have e:Lib.bitLen n=Lib.bitLenAux 64 n:=rfl;rw[e]
 generalize Lib.bitLenAux 64 n=L at *
 obtain⟨h1,h2,h3⟩:=hb;have h4:2 ^ L=2*2 ^ (L-1):=by
  obtain⟨k,rfl⟩:∃ k,L=k+1:=⟨L-1,by omega⟩;rw[Nat.pow_succ];simp;omega
 have hL:L<=64:=by
  rcases Nat.lt_or_ge 64 L with h | h
  ·have:2 ^ 64<=2 ^ (L-1):=Nat.pow_le_pow_right (by omega) (by omega)
   omega
  ·exact h
 refine⟨2 ^ L,?_,h3,by omega⟩
 rw[Nat.min_eq_left hL];have h5:((2:Int) ^ L)=((2 ^ L:Nat):Int):=by simp
 rw[h5];exact IntWalk.u64_in _ (by omega)
theorem Qfy(n:Nat)(h0:0<n)(hn:n<=100000):Calls prog 254 #[.int .i64 n] w fun r w'=>∃ m:Nat,r = .returned (.int .u64 m)/\n<m/\m<=2*n/\w=w':=by
 have hb:=hid (Qya n h0 hn);have HL:=hid (Tryz.bits_Len n w (by omega) (by omega))
 go_enter func254,ntmps254
 go_wp2_with fail
 (with_reducible refine HL.out.mono ?_)
 rintro e w' ⟨rfl,rfl⟩;go_wp2_with fail
 go_ret
 obtain⟨m,h1,h2,h3⟩:=hb.out;exact⟨m,by rw[<- h1];rfl,h2,h3,rfl⟩
theorem Mw(h:WrU w g o c xs)(hab:a+8<=b)(hb:b<=xs.length)(hs:xs.length<=100000) :
  Calls prog 237 #[.slice (some ⟨g,o,none⟩) xs.length c,.int .i64 a,.int .i64 b] w fun r w'=>r = .returned (.tuple #[])/\∃ ys,Zk w g o c xs a b ys w':=by
 have hm:=h.le;unfold maxLen at hm;have hgs:=h.lt;have H:=hid (Zk.refl h a b);clear h
 generalize hn:xs.length=n at *
 have HN:=hid hn;clear hn
 obtain⟨l,hl⟩:∃ l:Nat,b=a+l:=⟨b-a,by omega⟩;subst hl;have hl8:(8:Int)<=l:=by omega
 have hq:(a:Int)+l-a=l:=by omega
 have HP:=hid (fun wx=>Qfy (w:=wx) l (by omega) (by omega));have HX:=hid (fun wx q t x (hx:Blk wx q #[.int .u64 x] t)=>Qgv q t x hx);have hq4:((l:Int)/4*2)=((l/4*2:Nat):Int):=by omega
 generalize hd:l/4*2=d at *
 have hd1:4<=d/\2*d<=l/\l<=2*d+6:=by omega
 clear hd
 go_enter func237,ntmps237
 go_wp2_with fail
 (with_reducible refine(HP.out _).mono ?_)
 rintro e w1 ⟨m,rfl,hm1,hm2,rfl⟩;go_wp2_with fail
 go_loopw [9] (fun x wr=>∃ k:Nat,a+d<=k+1/\k<=a+d+2/\x = .int .i64 k/\(∃ y,Blk wr w.heap.size #[.int .u64 y] 325)/\∃ ys,Zk w g o c xs a (a+l) ys wr) (fun x _=>a+d+3-(intOf x).toNat)
 case atStart=>exact⟨a+d-1,by omega,by omega,by rw[show((a+d-1:Nat):Int)=(a:Int)+d-1 by omega],⟨_,Blk.new w _ _⟩,xs,H.out.later ((Upd.refl _ _).alloc _)⟩
 case round=>
  obtain⟨k,hk1,hk2,rfl,⟨y,hy⟩,ys,hM⟩:=hrel;have hyl:ys.length=n:=by rw[hM.len,HN.out]
  have M:=hid hM;have Y:=hid hy
  clear hM hy
  by_cases hlt:k<=a+d+1
  ·have hlt':(k:Int)<=a+d+1:=by omega
   go_wp2_with fail
   (with_reducible refine(HX.out _ _ _ _ Y.out).mono ?_)
   rintro e w1 ⟨y1,z1,rfl,hy1,hy2,hB,hU⟩;obtain⟨yn,rfl⟩:∃ yn:Nat,y1=yn:=⟨y1.toNat,by omega⟩;obtain⟨r,hr,hr2⟩:∃ r:Nat,bits .and .u64 (yn:Int) ((m:Int)-1)=r/\r<m:=⟨yn &&& (m-1),by
    have:=bits_and_u64_nat yn (m-1) (by omega) (by omega)
    rwa [show((m-1:Nat):Int)=(m:Int)-1 by omega]at this,by have:=@Nat.and_le_right yn (m-1);omega⟩
   have M1:Hid (Zk w g o c xs a (a+l) ys w1):=⟨M.out.mix,M.out.own.upd hU (fun e=>by omega),M.out.upd.trans hU (fun i h1 h2=>by omega)⟩;have Y1:=hid hB;clear hB hU hy1 hy2 M Y H
   by_cases hrl:r<l
   ·have hrl':¬ (l:Int)<=r:=by omega
    have c1:=M1.out.own.cell k (by omega);have c2:=M1.out.own.cell (a+r) (by omega)
    have hg:=M1.out.own.lt
    by_cases he:k=a+r
    ·subst he
     have f1:=M1.out.own.frozen (o+(a+r));go_wp2_with fail
     go_region
     all_goals go_wp2_with fail
     all_goals
      go_roundw
      case rel=>exact⟨a+r+1,by omega,by omega,by go_num,⟨_,((Y1.out.other (by simp;omega) _).other (by simp;omega) _).drew⟩,_,M1.out.swap (a+r) (a+r) (by omega) (by omega) (by omega) (by omega) (by rw[HN.out];exact hb)⟩
      case measure=>simp[intOf];omega
    ·have f1:=M1.out.own.frozen (o+k);have f2:=M1.out.own.frozen (o+(a+r))
     have hne:¬ o+(a+r)=o+k:=by omega
     go_wp2_with fail
     go_region
     all_goals go_wp2_with fail
     all_goals
      go_roundw
      case rel=>exact⟨k+1,by omega,by omega,by go_num,⟨_,((Y1.out.other (by simp;omega) _).other (by simp;omega) _).drew⟩,_,M1.out.swap k (a+r) (by omega) (by omega) (by omega) (by omega) (by rw[HN.out];exact hb)⟩
      case measure=>simp[intOf];omega
   ·obtain⟨q,hs0⟩:∃ q,q=r:=⟨r,rfl⟩;rw[<- hs0]at hr hr2 hrl;clear hs0 r;obtain⟨r,hs0⟩:∃ r,q=l+r:=⟨q-l,by omega⟩;subst hs0;have hrl':(l:Int)<=(l:Int)+r:=(by omega);have hsl:r<l:=(by omega);have hq2:(l:Int)+r-l=r:=(by omega);clear hrl
    have c1:=M1.out.own.cell k (by omega);have c2:=M1.out.own.cell (a+r) (by omega)
    have hg:=M1.out.own.lt
    by_cases he:k=a+r
    ·subst he
     have f1:=M1.out.own.frozen (o+(a+r));go_wp2_with fail
     go_region
     all_goals go_wp2_with fail
     all_goals
      go_roundw
      case rel=>exact⟨a+r+1,by omega,by omega,by go_num,⟨_,((Y1.out.other (by simp;omega) _).other (by simp;omega) _).drew⟩,_,M1.out.swap (a+r) (a+r) (by omega) (by omega) (by omega) (by omega) (by rw[HN.out];exact hb)⟩
      case measure=>simp[intOf];omega
    ·have f1:=M1.out.own.frozen (o+k);have f2:=M1.out.own.frozen (o+(a+r))
     have hne:¬ o+(a+r)=o+k:=by omega
     go_wp2_with fail
     go_region
     all_goals go_wp2_with fail
     all_goals
      go_roundw
      case rel=>exact⟨k+1,by omega,by omega,by go_num,⟨_,((Y1.out.other (by simp;omega) _).other (by simp;omega) _).drew⟩,_,M1.out.swap k (a+r) (by omega) (by omega) (by omega) (by omega) (by rw[HN.out];exact hb)⟩
      case measure=>simp[intOf];omega
  ·have hlt':¬ (k:Int)<=a+d+1:=by omega
   go_wp2_with fail
   go_end0
   exact⟨rfl,ys,M.out⟩
structure Kh(w:World)(g o c:Nat)(xs:List Int)(q:Nat)(m:Int)(wr:World):Prop where
 own:WrU wr g o c xs
 ne:q≠g
 cnt:∃ s:Int,0<=s/\s<=m/\Blk wr q #[.int .i64 s] 3
 upd:Upd (fun k=>k=q) w wr
theorem Kh.mono{q:Nat}{m m':Int}(h:Kh w g o c xs q m wr)(hm:m<=m'):Kh w g o c xs q m' wr:=by
 obtain⟨h1,h2,⟨s,h3,h4,h5⟩,h6⟩:=h;exact⟨h1,h2,⟨s,h3,by omega,h5⟩,h6⟩
theorem Kh.drewN{q:Nat}{m:Int}(h:Kh w g o c xs q m wr)(n:Nat):Kh w g o c xs q m (wr.drewN n):=
 ⟨h.own.drewN n,h.ne,let ⟨s,h1,h2,h3⟩:=h.cnt;⟨s,h1,h2,h3⟩,⟨h.upd.os,h.upd.tape,h.upd.output,h.upd.size,h.upd.block⟩⟩
theorem Kh.inc{q:Nat}{m s:Int}(h:Kh w g o c xs q m wr)(h1:0<=s)(h2:s<=m):Kh w g o c xs q (m+1) (wr.setCell ⟨q,0,none⟩ (.int .i64 (s+1))):=by
 obtain⟨s',h3,h4,h5⟩:=h.cnt;refine⟨Qj.other h.own (fun k hk=>by simp[Value.ownBlock]at hk;subst hk;exact fun e=>h.ne e.symm) _,h.ne,⟨s+1,by omega,by omega,h5.set 0 _⟩,h.upd.setCell (fun _=>rfl) _⟩
theorem Qj2{q:Nat}{m:Int}(h:Kh w g o c xs q m wr)(hm:m<=100)(lo hi i j:Nat)(hi1:lo<=i/\i<hi)(hj1:lo<=j/\j<hi)(hh:hi<=xs.length)(_hs:xs.length<=100000) :
  Calls prog 263 #[.slice (some ⟨g,o,none⟩) xs.length c,.int .i64 i,.int .i64 j,.pointer (some ⟨q,0,none⟩)] wr fun r w'=>∃ x y:Nat,r = .returned (.tuple #[.int .i64 x,.int .i64 y])/\(lo<=x/\x<hi)/\(lo<=y/\y<hi)/\Kh w g o c xs q (m+1) w':=by
 have hle:=h.own.le;unfold maxLen at hle;have c1:=h.own.cell i (by omega);have c2:=h.own.cell j (by omega)
 obtain⟨s,s1,s2,s3⟩:=h.cnt;have c3:wr.cell? ⟨q,0,none⟩=some (.int .i64 s):=s3.cell rfl;have f3:=s3.frozen 0;have H:=hid h;clear h s3
 generalize hn:xs.length=n at *
 clear hn;have g1:(i:Int)<n:=by omega
 have g2:(j:Int)<n:=by omega
 by_cases hl:at0 xs j<at0 xs i
 ·have hd:decide (at0 xs j<at0 xs i)=true:=by simpa using hl
  have LQ:=hid (Zl _ _ _ hd);clear hd hl
  go_enter func263,ntmps263
  go_wp2_with fail
  go_quiet ((go_at_call 241;exact Calls.quiet_of_same (LQ.out _)))
  go_wp2_with fail
  go_ret2
  exact⟨j,i,rfl,hj1,hi1,(H.out.drewN _).inc s1 s2⟩
 ·have hd:decide (at0 xs j<at0 xs i)=false:=by simpa using hl
  have LQ:=hid (Zl _ _ _ hd);clear hd hl
  go_enter func263,ntmps263
  go_wp2_with fail
  go_quiet ((go_at_call 241;exact Calls.quiet_of_same (LQ.out _)))
  go_wp2_with fail
  go_ret2
  exact⟨i,j,rfl,hi1,hj1,(H.out.drewN _).mono (by omega)⟩
theorem Er{q:Nat}{m:Int}(h:Kh w g o c xs q m wr)(hm:m<=90)(lo hi i j k:Nat)(hi1:lo<=i/\i<hi)(hj1:lo<=j/\j<hi)(hk1:lo<=k/\k<hi)(hh:hi<=xs.length)(hs:xs.length<=100000) :
  Calls prog 257 #[.slice (some ⟨g,o,none⟩) xs.length c,.int .i64 i,.int .i64 j,.int .i64 k,.pointer (some ⟨q,0,none⟩)] wr fun r w'=>∃ x:Nat,r = .returned (.int .i64 x)/\(lo<=x/\x<hi)/\Kh w g o c xs q (m+3) w':=by
 have HO:=hid (fun wx (m':Int) (i' j':Nat) (hx:Kh w g o c xs q m' wx) (hm':m'<=100) h1 h2=>Qj2 hx hm' lo hi i' j' h1 h2 hh hs);have H:=hid h;clear h
 generalize xs.length=n at *
 go_enter func257,ntmps257
 go_wp2_with fail
 (with_reducible refine(HO.out _ _ i j H.out (by omega) hi1 hj1).mono ?_)
 rintro e w1 ⟨x1,y1,rfl,hx1,hy1,p1⟩;have P1:=hid p1;clear p1
 go_wp2_with fail
 (with_reducible refine(HO.out _ _ y1 k P1.out (by omega) hy1 hk1).mono ?_)
 rintro e w2 ⟨x2,y2,rfl,hx2,hy2,p2⟩;have P2:=hid p2;clear p2
 go_wp2_with fail
 (with_reducible refine(HO.out _ _ x1 x2 P2.out (by omega) hx1 hx2).mono ?_)
 rintro e w3 ⟨x3,y3,rfl,hx3,hy3,p3⟩;have P3:=hid p3;clear p3
 go_wp2_with fail
 go_ret
 exact⟨y3,rfl,hy3,P3.out.mono (by omega)⟩
theorem Sm{q:Nat}{m:Int}(h:Kh w g o c xs q m wr)(hm:m<=90)(lo hi i:Nat)(hi1:lo<i/\i+1<hi)(hh:hi<=xs.length)(hs:xs.length<=100000) :
  Calls prog 256 #[.slice (some ⟨g,o,none⟩) xs.length c,.int .i64 i,.pointer (some ⟨q,0,none⟩)] wr fun r w'=>∃ x:Nat,r = .returned (.int .i64 x)/\(lo<=x/\x<hi)/\Kh w g o c xs q (m+3) w':=by
 have hM:=Er h hm lo hi (i-1) i (i+1) (by omega) (by omega) (by omega) hh hs;rw[show((i-1:Nat):Int)=(i:Int)-1 by omega,show((i+1:Nat):Int)=(i:Int)+1 by omega]at hM;have HM:=hid hM;clear h hM
 generalize xs.length=n at *
 go_enter func256,ntmps256
 go_wp2_with fail
 (with_reducible refine HM.out.mono ?_)
 rintro e w1 ⟨x1,rfl,hx1,p1⟩;have P1:=hid p1;clear p1
 go_wp2_with fail
 go_ret
 exact⟨x1,rfl,hx1,P1.out⟩
theorem Kh.start(h:WrU w g o c xs):Kh w g o c xs w.heap.size 0 (w.alloc (.cells #[.int .i64 0] 3)):=
 ⟨h.upd (S:=fun _=>False) ((Upd.refl _ _).alloc _) (fun f=>f),by have:=h.lt;omega,⟨0,by omega,by omega,Blk.new _ _ _⟩,(Upd.refl _ _).alloc _⟩
theorem Aq(h:WrU w g o c xs)(hab:a+8<=b)(hb:b<=xs.length)(hs:xs.length<=100000) :
  Calls prog 238 #[.slice (some ⟨g,o,none⟩) xs.length c,.int .i64 a,.int .i64 b] w fun r w'=>∃ (x:Nat) (y:Int),r = .returned (.tuple #[.int .i64 x,.int .i64 y])/\(a<=x/\x<b)/\(y=0\/y=1\/y=2)/\Upd (fun _=>False) w w':=by
 have HA:=hid (fun wx (m':Int) (i':Nat) (hx:Kh w g o c xs w.heap.size m' wx) (hm':m'<=90) h1=>Sm hx hm' a b i' h1 hb hs);have HM:=hid (fun wx (m':Int) (i' j' k':Nat) (hx:Kh w g o c xs w.heap.size m' wx) (hm':m'<=90) h1 h2 h3=>Er hx hm' a b i' j' k' h1 h2 h3 hb hs);have H:=hid (Kh.start h);have hgs:=h.lt;clear h
 generalize xs.length=n at *
 obtain⟨l,hl⟩:∃ l:Nat,b=a+l:=⟨b-a,by omega⟩;subst hl;have hl8:(8:Int)<=l:=by omega
 have hq:(a:Int)+l-a=l:=by omega
 have hq4:((l:Int)/4)=((l/4:Nat):Int):=by omega
 generalize hd:l/4=d at *
 have hd1:2<=d/\4*d<=l/\l<=4*d+3:=by omega
 clear hd;have e1:(a:Int)+d=((a+d:Nat):Int):=by omega
 have e2:(a:Int)+(d:Int)*2=((a+d*2:Nat):Int):=by omega
 have e3:(a:Int)+(d:Int)*3=((a+d*3:Nat):Int):=by omega
 generalize ha1:a+d=a1 at *
 generalize ha2:a+d*2=a2 at *
 generalize ha3:a+d*3=a3 at *
 have hr1:a<a1/\a1+1<a+l:=by omega
 have hr2:a<a2/\a2+1<a+l:=by omega
 have hr3:a<a3/\a3+1<a+l:=by omega
 clear ha1 ha2 ha3
 by_cases h50:50<=l
 ·have h50':(50:Int)<=l:=by omega
  go_enter func238,ntmps238
  go_wp2_with fail
  (with_reducible refine(HA.out _ _ a1 H.out (by omega) hr1).mono ?_)
  rintro e w1 ⟨x1,rfl,hx1,p1⟩;have P1:=hid p1;clear p1
  go_wp2_with fail
  (with_reducible refine(HA.out _ _ a2 P1.out (by omega) hr2).mono ?_)
  rintro e w2 ⟨x2,rfl,hx2,p2⟩;have P2:=hid p2;clear p2
  go_wp2_with fail
  (with_reducible refine(HA.out _ _ a3 P2.out (by omega) hr3).mono ?_)
  rintro e w3 ⟨x3,rfl,hx3,p3⟩;have P3:=hid p3;clear p3
  go_wp2_with fail
  (with_reducible refine(HM.out _ _ x1 x2 x3 P3.out (by omega) hx1 hx2 hx3).mono ?_)
  rintro e w4 ⟨x4,rfl,hx4,p4⟩;have P4:=hid p4;clear p4
  obtain⟨s,s1,s2,s3⟩:=P4.out.cnt;have c4:w4.cell? ⟨w.heap.size,0,none⟩=some (.int .i64 s):=s3.cell rfl;clear s3;have hU:Hid (Upd (fun _=>False) w w4):=P4.out.upd.mono (fun i h1 h2=>by omega)
  by_cases hs0:s=0
  ·subst hs0
   go_wp2_with fail
   go_ret2
   exact⟨x4,1,rfl,hx4,by omega,hU.out⟩
  ·by_cases hs12:s=12
   ·subst hs12
    go_wp2_with fail
    go_ret2
    exact⟨x4,2,rfl,hx4,by omega,hU.out⟩
   ·have n0:(s==0)=false:=by simpa using hs0
    have n12:(s==12)=false:=by simpa using hs12
    clear hs0 hs12;go_wp2_with fail
    go_ret2
    exact⟨x4,0,rfl,hx4,by omega,hU.out⟩
 ·have h50':¬ (50:Int)<=l:=by omega
  go_enter func238,ntmps238
  go_wp2_with fail
  (with_reducible refine(HM.out _ _ a1 a2 a3 H.out (by omega) (by omega) (by omega) (by omega)).mono ?_)
  rintro e w4 ⟨x4,rfl,hx4,p4⟩;have P4:=hid p4;clear p4
  obtain⟨s,s1,s2,s3⟩:=P4.out.cnt;have c4:w4.cell? ⟨w.heap.size,0,none⟩=some (.int .i64 s):=s3.cell rfl;clear s3;have hU:Hid (Upd (fun _=>False) w w4):=P4.out.upd.mono (fun i h1 h2=>by omega)
  by_cases hs0:s=0
  ·subst hs0
   go_wp2_with fail
   go_ret2
   exact⟨x4,1,rfl,hx4,by omega,hU.out⟩
  ·by_cases hs12:s=12
   ·subst hs12
    go_wp2_with fail
    go_ret2
    exact⟨x4,2,rfl,hx4,by omega,hU.out⟩
   ·have n0:(s==0)=false:=by simpa using hs0
    have n12:(s==12)=false:=by simpa using hs12
    clear hs0 hs12;go_wp2_with fail
    go_ret2
    exact⟨x4,0,rfl,hx4,by omega,hU.out⟩
end
end
end Go.Proofs.YtlhchkajjpefmaaGreatDoor
