/- Lemmas and walks, part 1: each theorem says what it proves; no condition beside its own. -/
import Derived.WalkSpells
import Derived.WalkLawsBesides
import Derived.Lib.Hide
set_option maxHeartbeats 16000000
set_option maxRecDepth 100000
namespace Go.Proofs.YtlhchkajjpefmaaGreatDoor
open Lib(hid)
open Go.RowKit
section
structure Upd(S:Nat->Prop)(w w':World):Prop where
 os:w'.os=w.os
 tape:w'.tape=w.tape
 output:w'.output=w.output
 size:w.heap.size<=w'.heap.size
 block:∀ k,k<w.heap.size->¬ S k->w'.heap[k]? = w.heap[k]?
theorem Upd.refl(S:Nat->Prop)(w:World):Upd S w w:=⟨rfl,rfl,rfl,Nat.le_refl _,fun _ _ _=>rfl⟩
theorem Upd.trans{S S':Nat->Prop}{a b c:World}(h:Upd S a b)(k:Upd S' b c)(hs:∀ i,i<a.heap.size->S' i->S i):Upd S a c:=
 ⟨k.os.trans h.os,k.tape.trans h.tape,k.output.trans h.output,Nat.le_trans h.size k.size,fun i hi hn=>
  (k.block i (Nat.lt_of_lt_of_le hi h.size) (fun hS=>hn (hs i hi hS))).trans (h.block i hi hn)⟩
theorem Upd.mono{S S':Nat->Prop}{a b:World}(h:Upd S a b)(hs:∀ i,i<a.heap.size->S i->S' i):Upd S' a b:=
 ⟨h.os,h.tape,h.output,h.size,fun i hi hn=>h.block i hi (fun hS=>hn (hs i hi hS))⟩
theorem Upd.drew{S:Nat->Prop}{a b:World}(h:Upd S a b):Upd S a b.drew:=⟨h.os,h.tape,h.output,h.size,h.block⟩
theorem Upd.alloc{S:Nat->Prop}{a b:World}(h:Upd S a b)(o:Obj):Upd S a (b.alloc o):=
 ⟨h.os,h.tape,h.output,Nat.le_trans h.size (by simp),fun k hk hn=>(Below.heap_alloc _ _ _ (Nat.lt_of_lt_of_le hk h.size)).trans (h.block k hk hn)⟩
theorem Upd.setCell{S:Nat->Prop}{a b:World}(h:Upd S a b){p:Addr}(hp:p.block<a.heap.size->S p.block)(u:Value):Upd S a (b.setCell p u):=
 ⟨h.os,h.tape,h.output,Nat.le_trans h.size (by simp[World.setCell]),fun k hk hn=>
  (Below.heap_setCell _ _ _ _ (fun e=>hn (by subst e;exact hp hk))).trans (h.block k hk hn)⟩
theorem Upd.grown{S:Nat->Prop}{a w w':World}{row:Option Nat}(h:Upd S a w)(hg:w.grownBy w' row)(hr:∀ k,row=some k->k<a.heap.size->S k):Upd S a w':=
 ⟨hg.os.trans h.os,hg.tape.trans h.tape,hg.output.trans h.output,Nat.le_trans h.size hg.size,fun k hk hn=>
  (hg.block k (Nat.lt_of_lt_of_le hk h.size) (fun e=>hn (hr k e.symm hk))).trans (h.block k hk hn)⟩
theorem Upd.of_below{w w':World}{S:Nat->Prop}(h:Below w.heap.size w w'):Upd S w w':=⟨h.os,h.tape,h.output,h.size,fun k hk _=>h.block k hk⟩
theorem Upd.get{S:Nat->Prop}{w w':World}(h:Upd S w w'){k:Nat}{o:Obj}(hb:w.heap[k]? = some o)(hn:¬ S k):w'.heap[k]? = some o:=
 (h.block k (lt_of_block hb) hn).trans hb
def Blk(w:World)(b:Nat)(c:Array Value)(t:TypeId):Prop:=w.heap[b]? = some (.cells c t (0,0))
theorem Blk.lt{w:World}{b:Nat}{c:Array Value}{t:TypeId}(h:Blk w b c t):b<w.heap.size:=lt_of_block h
theorem Blk.cell{w:World}{b:Nat}{c:Array Value}{t:TypeId}(h:Blk w b c t){i:Nat}{v:Value}(hv:c[i]? = some v):w.cell? ⟨b,i,none⟩=some v:=by
 unfold Blk at h;simp[World.cell?,h,hv]
theorem Blk.frozen{w:World}{b:Nat}{c:Array Value}{t:TypeId}(h:Blk w b c t)(i:Nat):w.frozen? ⟨b,i,none⟩=false:=by
 unfold Blk at h;simp[World.frozen?,h]
theorem Blk.upd{S:Nat->Prop}{w w':World}{b:Nat}{c:Array Value}{t:TypeId}(h:Blk w b c t)(u:Upd S w w')(hn:¬ S b):Blk w' b c t:=u.get h hn
theorem Blk.drew{w:World}{b:Nat}{c:Array Value}{t:TypeId}(h:Blk w b c t):Blk w.drew b c t:=h
theorem Blk.alloc{w:World}{b:Nat}{c:Array Value}{t:TypeId}(h:Blk w b c t)(o:Obj):Blk (w.alloc o) b c t:=(Below.heap_alloc w o b h.lt).trans h
theorem Blk.new(w:World)(c:Array Value)(t:TypeId):Blk (w.alloc (.cells c t)) w.heap.size c t:=heap_alloc_new w _
theorem Blk.other{w:World}{b:Nat}{c:Array Value}{t:TypeId}(h:Blk w b c t){a:Addr}(hne:b≠a.block)(u:Value):Blk (w.setCell a u) b c t:=
 (Below.heap_setCell w a u b hne).trans h
theorem Blk.set{w:World}{b:Nat}{c:Array Value}{t:TypeId}(h:Blk w b c t)(i:Nat)(u:Value):Blk (w.setCell ⟨b,i,none⟩ u) b (c.setIfInBounds i u) t:=by
 unfold Blk at *;simp[World.setCell,Array.getElem?_modify,h]
def Row(w:World)(b n:Nat)(t:TypeId)(f:Nat->Value):Prop:=∃ c,Blk w b c t/\∀ i,i<n->c[i]? = some (f i)
theorem Row.lt{w:World}{b n:Nat}{t:TypeId}{f:Nat->Value}(h:Row w b n t f):b<w.heap.size:=let ⟨_,h,_⟩:=h;h.lt
theorem Row.cell{w:World}{b n:Nat}{t:TypeId}{f:Nat->Value}(h:Row w b n t f){i:Nat}(hi:i<n):w.cell? ⟨b,i,none⟩=some (f i):=
 let ⟨_,h,hc⟩:=h;h.cell (hc i hi)
theorem Row.frozen{w:World}{b n:Nat}{t:TypeId}{f:Nat->Value}(h:Row w b n t f)(i:Nat):w.frozen? ⟨b,i,none⟩=false:=let ⟨_,h,_⟩:=h;h.frozen i
theorem Row.upd{S:Nat->Prop}{w w':World}{b n:Nat}{t:TypeId}{f:Nat->Value}(h:Row w b n t f)(u:Upd S w w')(hn:¬ S b):Row w' b n t f:=
 let ⟨c,h,hc⟩:=h;⟨c,h.upd u hn,hc⟩
theorem Row.below{w w':World}{b n:Nat}{t:TypeId}{f:Nat->Value}(h:Row w b n t f)(hb:Below w.heap.size w w'):Row w' b n t f:=
 let ⟨c,h,hc⟩:=h;⟨c,(hb.block b h.lt).trans h,hc⟩
theorem Blk.below{w w':World}{b:Nat}{c:Array Value}{t:TypeId}(h:Blk w b c t)(hb:Below w.heap.size w w'):Blk w' b c t:=(hb.block b h.lt).trans h
theorem Row.drew{w:World}{b n:Nat}{t:TypeId}{f:Nat->Value}(h:Row w b n t f):Row w.drew b n t f:=h
theorem Row.alloc{w:World}{b n:Nat}{t:TypeId}{f:Nat->Value}(h:Row w b n t f)(o:Obj):Row (w.alloc o) b n t f:=let ⟨c,h,hc⟩:=h;⟨c,h.alloc o,hc⟩
theorem Row.other{w:World}{b n:Nat}{t:TypeId}{f:Nat->Value}(h:Row w b n t f){a:Addr}(hne:b≠a.block)(u:Value):Row (w.setCell a u) b n t f:=
 let ⟨c,h,hc⟩:=h;⟨c,h.other hne u,hc⟩
theorem Row.set{w:World}{b n:Nat}{t:TypeId}{f:Nat->Value}(h:Row w b n t f)(k:Nat)(u:Value):Row (w.setCell ⟨b,k,none⟩ u) b n t (fun i=>if i=k then u else f i):=by
 obtain⟨c,h,hc⟩:=h;refine⟨_,h.set k u,fun i hi => ?_⟩
 have:=hc i hi;have hlt:i<c.size:=by rcases Nat.lt_or_ge i c.size with h | h;exact h;simp[Array.getElem?_eq_none h]at this
 by_cases e:i=k
 ·subst e;simp[hlt]
 ·simp[e,Ne.symm e,this]
theorem Row.congr{w:World}{b n:Nat}{t:TypeId}{f g:Nat->Value}(h:Row w b n t f)(hfg:∀ i,i<n->f i=g i):Row w b n t g:=
 let ⟨c,h,hc⟩:=h;⟨c,h,fun i hi=>(hc i hi).trans (by rw[hfg i hi])⟩
theorem Row.new(w:World)(c:Array Value)(t:TypeId)(n:Nat)(f:Nat->Value)(hc:∀ i,i<n->c[i]? = some (f i)):Row (w.alloc (.cells c t)) w.heap.size n t f:=⟨c,Blk.new w c t,hc⟩
end
section
def Ql(w:World)(size:Nat)(v:Value)(n:Nat)(xs:List Value):Prop:=
 xs.length=n*size/\∃ a c,v = .slice a n c/\n<=c/\(xs = []\/∃ b o,a=some ⟨b,o,none⟩/\∀ j u,xs[j]? = some u->w.cell? ⟨b,o+j,none⟩=some u)
def Zc:Value->Option Addr | .slice a _ _=>a | _=>none
theorem Qh(v:Value):v.ownBlock=(Zc v).map (·.block):=by
 cases v <;> simp[Value.ownBlock,Zc]
 rename_i a _ _;cases a <;> rfl
def Qj(w:World)(e:TypeId)(size:Nat)(v:Value)(n:Nat)(xs:List Value):Prop:=
 xs.length=n*size /\
 ((v = .slice none 0 0/\n=0) \/
  ∃ g o cap cur,v = .slice (some ⟨g,o,none⟩) n cap/\Blk w g cur e/\n<=cap/\cap<=maxLen/\o+cap*size<=cur.size/\(cur.toList.drop o).take (n*size)=xs)
section
variable{w:World}{e:TypeId}{size:Nat}{v:Value}{n:Nat}{xs:List Value}
theorem Qj.nil(w:World)(e:TypeId)(size:Nat):Qj w e size (.slice none 0 0) 0 []:=⟨by simp,.inl ⟨rfl,rfl⟩⟩
theorem Qj.rd(h:Qj w e size v n xs):Ql w size v n xs:=by
 refine⟨h.1,?_⟩
 rcases h.2 with ⟨rfl,rfl⟩ | ⟨g,o,cap,cur,rfl,hb,hc,_,_,ht⟩
 ·exact⟨none,0,rfl,Nat.le_refl _,.inl (List.eq_nil_of_length_eq_zero (by simpa using h.1))⟩
 ·refine⟨_,cap,rfl,hc,.inr ⟨g,o,rfl,fun j u hu=>hb.cell ?_⟩⟩
  rw[<- ht,List.getElem?_take]at hu
  split at hu
  ·simpa [List.getElem?_drop]using hu
  ·cases hu
theorem Qj.lt(h:Qj w e size v n xs):∀ k,v.ownBlock=some k->k<w.heap.size:=by
 intro k hk
 rcases h.2 with ⟨rfl,_⟩ | ⟨g,o,cap,cur,rfl,hb,_⟩
 ·simp[Value.ownBlock]at hk
 ·simp[Value.ownBlock]at hk;subst hk;exact hb.lt
theorem Qj.kept{w':World}(h:Qj w e size v n xs)(hb:∀ k,v.ownBlock=some k->w'.heap[k]? = w.heap[k]?):Qj w' e size v n xs:=by
 refine⟨h.1,?_⟩
 rcases h.2 with hn | ⟨g,o,cap,cur,rfl,hg,rest⟩
 ·exact .inl hn
 ·exact .inr ⟨g,o,cap,cur,rfl,(hb g rfl).trans hg,rest⟩
theorem Qj.upd{w':World}{S:Nat->Prop}(h:Qj w e size v n xs)(hu:Upd S w w')(hS:∀ k,v.ownBlock=some k->¬ S k):Qj w' e size v n xs:=
 h.kept (fun k hk=>hu.block k (h.lt k hk) (hS k hk))
theorem Qj.alloc(h:Qj w e size v n xs)(o:Obj):Qj (w.alloc o) e size v n xs:=h.kept (fun k hk=>Below.heap_alloc _ _ _ (h.lt k hk))
theorem Qj.drew(h:Qj w e size v n xs):Qj w.drew e size v n xs:=h.kept (fun _ _=>rfl)
theorem Qj.other(h:Qj w e size v n xs){a:Addr}(ha:∀ k,v.ownBlock=some k->k≠a.block)(u:Value):Qj (w.setCell a u) e size v n xs:=
 h.kept (fun k hk=>Below.heap_setCell _ _ _ _ (ha k hk))
theorem Qj.slice(h:Qj w e size v n xs):∃ a c,v = .slice a n c:=by
 rcases h.2 with ⟨rfl,rfl⟩ | ⟨g,o,cap,cur,rfl,_⟩
 ·exact⟨_,_,rfl⟩
 ·exact⟨_,_,rfl⟩
theorem Ql.kept{w':World}(h:Ql w size v n xs)(hb:∀ k,v.ownBlock=some k->k<w.heap.size->w'.heap[k]? = w.heap[k]?):Ql w' size v n xs:=by
 obtain⟨h1,a,c,rfl,hc,h2⟩:=h;refine⟨h1,a,c,rfl,hc,?_⟩
 rcases h2 with h2 | ⟨b,o,rfl,h3⟩
 ·exact .inl h2
 ·refine .inr ⟨b,o,rfl,fun j u hu => ?_⟩
  have hlt:=World.block_lt_of_cell? w _ (h3 j u hu);exact(World.cell?_of_block (w:=w) (a:=⟨b,o+j,none⟩) (hb b rfl hlt)).trans (h3 j u hu)
theorem Ql.upd{w':World}{S:Nat->Prop}(h:Ql w size v n xs)(hu:Upd S w w')(hS:∀ k,v.ownBlock=some k->¬ S k):Ql w' size v n xs:=
 h.kept (fun k hk hlt=>hu.block k hlt (hS k hk))
theorem Ql.below{w':World}(h:Ql w size v n xs)(hu:Below w.heap.size w w'):Ql w' size v n xs:=h.kept (fun k _ hlt=>hu.block k hlt)
theorem Ql.alloc(h:Ql w size v n xs)(o:Obj):Ql (w.alloc o) size v n xs:=h.kept (fun _ _ hlt=>Below.heap_alloc _ _ _ hlt)
theorem Ql.drew(h:Ql w size v n xs):Ql w.drew size v n xs:=h.kept (fun _ _ _=>rfl)
theorem Qga(h:Ql w size v n xs)(hx:xs ≠ []):∃ b o c,v = .slice (some ⟨b,o,none⟩) n c/\n<=c/\∀ j u,xs[j]? = some u->w.cell? ⟨b,o+j,none⟩=some u:=by
 obtain⟨_,a,c,rfl,hc,h2⟩:=h
 rcases h2 with h2 | ⟨b,o,rfl,h3⟩
 ·exact(hx h2).elim
 ·exact⟨b,o,c,rfl,hc,h3⟩
end
section
variable{P:Program}(w:World)
theorem Wz(t ty e:TypeId)(i:TypeInfo)(z:Value)(size bytes:Nat)(ht:P.underlying t=some (.slice e))(hi:P.info? e=some i)(hz:i.zero=some z)
  (hsize:i.size=size) (hby:i.bytes=bytes) (hzs:z.cells.size=size)
  (v:Value) (n:Nat) (xs:List Value) (hown:Qj w e size v n xs)
  (x:Value) (m:Nat) (news:List Value) (hx:Ql w size x m news) (h1:∀ u∈news,u.oneCell'=true)
  (h63:n+m<=maxLen) (hbytes:(n+m)*bytes<=140737488355328) (hsp:0<size) :
  ∃ v' w',(Builtin.append_ #[t,t] ty #[v,x]).run P w = .ok v' w'/\Qj w' e size v' (n+m) (xs++news)/\w.grownBy w' v.ownBlock /\
   (Zc v'=Zc v\/Zc v'=Option.some ⟨w.heap.size,0,none⟩)/\(v' = .slice none 0 0->v = .slice none 0 0):=by
 subst hsize;subst hby
 obtain⟨hl,xa,xc,rfl,hxc,hxa⟩:=hx;have hlen:(xs++news).length=(n+m)*i.size:=by rw[List.length_append,hown.1,hl,Nat.add_mul]
 by_cases hm:m=0
 ·subst hm
  have hn:news = []:=List.eq_nil_of_length_eq_zero (by simpa using hl);subst hn;have hf:(Builtin.firstCells i.size 0 (.slice xa 0 xc)).run P w = .ok #[] w:=by
   cases xa <;> simp[Builtin.firstCells,loadCells,loadCellsFrom]
  rcases hown.2 with ⟨rfl,rfl⟩ | ⟨g,o,cap,cur,rfl,hg,hnc,hcm,hcs,htake⟩
  ·have hx0:xs = []:=List.eq_nil_of_length_eq_zero (by simpa using hown.1)
   subst hx0;refine⟨.slice none 0 0,w,?_,by simpa using hown,⟨rfl,rfl,rfl,Nat.le_refl _,fun _ _ _=>rfl⟩,.inl rfl,id⟩
   simp[Builtin.append_,run_underlying ht,sizeOf,typeInfo,hi,Builtin.lenOf,hf]
  ·refine⟨.slice (some ⟨g,o,none⟩) n cap,w,?_,by simpa using hown,⟨rfl,rfl,rfl,Nat.le_refl _,fun _ _ _=>rfl⟩,.inl rfl,by simp⟩
   simp[Builtin.append_,run_underlying ht,sizeOf,typeInfo,hi,Builtin.lenOf,hf,hnc,storeCells]
 ·have hne:news ≠ []:=by
   intro h0;subst h0;rw[List.length_nil]at hl;rcases Nat.mul_eq_zero.1 hl.symm with h | h <;> omega
  obtain⟨b,bo,rfl,hnews0⟩:∃ b o,xa=Option.some ⟨b,o,none⟩/\∀ j u,news[j]? = Option.some u->w.cell? ⟨b,o+j,none⟩=Option.some u:=by
   rcases hxa with h0 | h0
   ·exact(hne h0).elim
   ·exact h0
  have hnews:∀ j u,news[j]? = Option.some u->w.cell? ((⟨b,bo,none⟩:Addr).add j)=Option.some u:=fun j u hu=>by rw[Addr.add_lit];exact hnews0 j u hu
  have hsmall:n+m<=9223372036854775807:=by simp only[maxLen]at h63;omega
  have grown:∀ (old:Nat),old<n+m->∀ (row:Option Nat),
    Qj (w.drew.alloc (.cells (xs.toArray++news.toArray++Builtin.zeroCells z.cells (grownCap w (n+m) old e-(n+m))) e)) e i.size
     (.slice (Option.some ⟨w.heap.size,0,none⟩) (n+m) (grownCap w (n+m) old e)) (n+m) (xs++news) /\
    w.grownBy (w.drew.alloc (.cells (xs.toArray++news.toArray++Builtin.zeroCells z.cells (grownCap w (n+m) old e-(n+m))) e)) row:=by
   intro old ho row;have hge:=grownCap_ge w (n+m) old e;have hcm:grownCap w (n+m) old e<=maxLen:=grownCap_le_maxLen w (n+m) old e h63;refine⟨⟨hlen,.inr ⟨w.heap.size,0,_,_,rfl,heap_alloc_new w.drew _,hge,hcm,?_,?_⟩⟩,⟨rfl,rfl,rfl,by simp,fun k hk _=>Below.heap_alloc w.drew _ k hk⟩⟩
   ·simp only[Array.size_append,List.size_toArray,size_zeroCells,hzs,hown.1,hl,<- Nat.add_mul,Nat.zero_add]
    exact Nat.mul_le_mul_right _ (by omega)
   ·simp only[Array.toList_append,List.append_assoc,List.drop_zero]
    rw[<- List.append_assoc,<- hlen];exact List.take_left
  rcases hown.2 with ⟨rfl,rfl⟩ | ⟨g,o,cap,cur,rfl,hg,hnc,hcm,hcs,htake⟩
  ·have hx:xs = []:=List.eq_nil_of_length_eq_zero (by simpa using hown.1)
   subst hx;have hr:=run_append_nil (P:=P) w t ty e i z ht hi hz ⟨b,bo,none⟩ m xc news hl hnews (by omega) (by omega) (by have hb:=hbytes;simp only[Nat.zero_add]at hb;omega);have hgr:=grown 0 (by omega) (Value.ownBlock (.slice none 0 0));simp only[Nat.zero_add,List.nil_append,Array.empty_append]at hgr ⊢;exact⟨_,_,hr,hgr.1,hgr.2,.inr rfl,by simp⟩
  ·by_cases hroom:n+m<=cap
   ·have hfit:o+n*i.size+news.length<=cur.size:=by
     have:(n+m)*i.size<=cap*i.size:=Nat.mul_le_mul_right _ hroom;rw[Nat.add_mul]at this;rw[hl];omega
    have hf:=run_firstCells_some (P:=P) w i.size m ⟨b,bo,none⟩ m xc news hl hnews;have hst:=run_storeCells_at P g (o+n*i.size) e news 0 cur w hg (by simpa using hfit) h1;simp only[Nat.add_zero]at hst;have hr:(Builtin.append_ #[t,t] ty #[.slice (Option.some ⟨g,o,none⟩) n cap,.slice (Option.some ⟨b,bo,none⟩) m xc]).run P w =
      .ok (.slice (Option.some ⟨g,o,none⟩) (n+m) cap) (w.setRow g (cur.toList.take (o+n*i.size)++news++cur.toList.drop (o+n*i.size+news.length)).toArray):=by
     simp[Builtin.append_,run_underlying ht,sizeOf,typeInfo,hi,Builtin.lenOf,hroom,hf,Addr.add_lit,hst]
    refine⟨_,_,hr,⟨hlen,.inr ⟨g,o,cap,_,rfl,setRow_heap w g cur _ e _ hg,hroom,hcm,?_,?_⟩⟩,⟨rfl,rfl,rfl,by simp,fun k _ hk=>setRow_other w g k _ (fun e=>hk (by simp[Value.ownBlock,e]))⟩,.inl rfl,by simp⟩
    ·simp only[List.size_toArray,List.length_append,List.length_take,List.length_drop,Array.length_toList]
     omega
    ·simp only
     have e1:cur.toList.take (o+n*i.size)=cur.toList.take o++xs:=by rw[List.take_add,htake]
     have lo:(cur.toList.take o).length=o:=by
      rw[List.length_take,Array.length_toList];omega
     rw[e1,List.append_assoc,List.append_assoc,List.drop_append_of_le_length (by omega),List.drop_of_length_le (by omega),List.nil_append,<- List.append_assoc,<- hlen];exact List.take_left
   ·have holds:∀ j u,xs[j]? = Option.some u->w.cell? ((⟨g,o,none⟩:Addr).add j)=Option.some u:=fun j u hu=>by
     rw[Addr.add_lit];obtain⟨_,a',c',e',_,h'⟩:=hown.rd
     cases e'
     rcases h' with h' | ⟨b',o',e'',h'⟩
     ·subst h';simp at hu
     ·cases e'';exact h' j u hu
    have hr:=run_append_grow (P:=P) w t ty e i z ht hi hz ⟨g,o,none⟩ n cap xs hown.1 holds ⟨b,bo,none⟩ m xc news hl hnews (by omega) (by omega) (growslice_fits (by omega) hbytes);have hgr:=grown cap (by omega) (Value.ownBlock (.slice (Option.some ⟨g,o,none⟩) n cap));exact⟨_,_,hr,hgr.1,hgr.2,.inr rfl,by simp⟩
theorem Qc{ops:Array Oper}{rest:List Oper}{o:Oper}{a:Act}{Q:Exit->Act->World->Prop}(hgd:o.guard=none)(s x:Operand)(t:TypeId)
  (ho:o.op = .call {callee:=.builtin .append,args:=#[s,x],argTypes:=#[t,t]})
  (e:TypeId) (i:TypeInfo) (z:Value) (size bytes:Nat) (ht:P.underlying t=some (.slice e)) (hi:P.info? e=some i) (hz:i.zero=some z)
  (hsize:i.size=size) (hby:i.bytes=bytes) (hzs:z.cells.size=size) (hsz:0<size)
  (v:Value) (n:Nat) (xs:List Value) (hs:a.eval s=v) (hown:Qj w e size v n xs)
  (xv:Value) (m:Nat) (news:List Value) (hx:a.eval x=xv) (hnews:Ql w size xv m news) (h1:∀ u∈news,u.oneCell'=true)
  (h63:n+m<=maxLen) (hbytes:(n+m)*bytes<=140737488355328)
  (h:∀ v' w',Qj w' e size v' (n+m) (xs++news)->w.grownBy w' v.ownBlock->(Zc v'=Zc v\/Zc v'=some ⟨w.heap.size,0,none⟩)->(v' = .slice none 0 0->v = .slice none 0 0)->wpList P ops Q rest (a.put o.dst v') w'):wpList P ops Q (o::rest) a w:=by
 refine wpList_plain hgd fun K hK => ?_
 obtain⟨v',w',hr,h2,h3,h4,h5⟩:=Wz (P:=P) w t o.type e i z size bytes ht hi hz hsize hby hzs v n xs hown xv m news hnews h1 h63 hbytes hsz;unfold Oper.wp execOp;simp only[ho,resolve,invoke,builtin,Sem.run_bind,Sem.run_pure,Result.andThen_ok,List.map_toArray,List.map_cons,List.map_nil,hs,hx,hr];exact hK _ _ (h v' w' h2 h3 h4 h5)
end
theorem Ql.new(w:World)(c:Array Value)(t:TypeId)(size n:Nat)(h:c.size=n*size):Ql (w.alloc (.cells c t)) size (.slice (Option.some ⟨w.heap.size,0,none⟩) n n) n c.toList:=by
 refine⟨by simpa using h,_,_,rfl,Nat.le_refl _,.inr ⟨_,0,rfl,fun j u hu=>(Blk.new w c t).cell ?_⟩⟩
 simpa using hu
theorem Ql.newAt(w:World)(c:Array Value)(t:TypeId)(size n b:Nat)(hb:b=w.heap.size)(h:c.size=n*size):Ql (w.alloc (.cells c t)) size (.slice (Option.some ⟨b,0,none⟩) n n) n c.toList:=by
 subst hb;exact Ql.new w c t size n h
theorem Zr{w:World}{a:Option Addr}{xs:List Value}(h:xs = []\/∃ b o,a=some ⟨b,o,none⟩/\∀ j u,xs[j]? = some u->w.cell? ⟨b,o+j,none⟩=some u)
  {k:Nat} {u:Value} (hk:xs[k]? = some u):∃ b o,a=some ⟨b,o,none⟩/\∀ j u,xs[j]? = some u->w.cell? ⟨b,o+j,none⟩=some u:=by
 rcases h with h0 | h0
 ·rw[h0]at hk;simp at hk
 ·exact h0
theorem Qj.new(w:World)(c:Array Value)(e:TypeId)(size n cap:Nat)(hs:c.size=cap*size)(hn:n<=cap)(hm:cap<=maxLen) :
  Qj (w.alloc (.cells c e)) e size (.slice (Option.some ⟨w.heap.size,0,none⟩) n cap) n (c.toList.take (n*size)):=by
 refine⟨?_,.inr ⟨_,0,cap,c,rfl,Blk.new w c e,hn,hm,by omega,by simp⟩⟩
 rw[List.length_take,Array.length_toList,hs];exact Nat.min_eq_left (Nat.mul_le_mul_right _ hn)
end
section
structure Acc(w:World)(B:Nat)(wr:World)(e:TypeId)(size:Nat)(v:Value)(n:Nat)(xs:List Value):Prop where
 own:Qj wr e size v n xs
 new:∀ g,v.ownBlock=some g->B<=g
 bel:Below B w wr
 lt:B<=wr.heap.size
section
variable{w wr wz w1:World}{B:Nat}{e:TypeId}{size n m q:Nat}{v v':Value}{xs news:List Value}
theorem Acc.nil(w:World)(B:Nat)(wr:World)(e:TypeId)(size:Nat)(hb:Below B w wr)(hB:B<=wr.heap.size):Acc w B wr e size (.slice none 0 0) 0 []:=⟨Qj.nil _ _ _,fun g hg=>by simp[Value.ownBlock]at hg,hb,hB⟩
theorem Acc.slice(h:Acc w B wr e size v n xs):∃ a c,v = .slice a n c:=h.own.slice
theorem Acc.next(h:Acc w B wr e size v n xs)(hz:Below wr.heap.size wr wz)(o1:Qj w1 e size v' (n+m) (xs++news))(g1:wz.grownBy w1 v.ownBlock)
  (b1:Zc v'=Zc v\/Zc v'=some ⟨q,0,none⟩) (hq:wr.heap.size<=q):Acc w B w1 e size v' (n+m) (xs++news):=by
 refine⟨o1,fun g hg => ?_,⟨g1.os.trans (hz.os.trans h.bel.os),g1.tape.trans (hz.tape.trans h.bel.tape),g1.output.trans (hz.output.trans h.bel.output),Nat.le_trans h.bel.size (Nat.le_trans hz.size g1.size),fun k hk => ?_⟩,Nat.le_trans h.lt (Nat.le_trans hz.size g1.size)⟩
 ·rcases b1 with b1 | b1
  ·rw[Qh,b1,<- Qh]at hg;exact h.new g hg
  ·rw[Qh,b1]at hg;cases hg;exact Nat.le_trans h.lt hq
 ·have hkr:k<wr.heap.size:=Nat.lt_of_lt_of_le hk h.lt
  rw[g1.block k (Nat.lt_of_lt_of_le hkr hz.size) (fun hk2=>by have:=h.new k hk2.symm;omega),hz.block k hkr];exact h.bel.block k hk
theorem Acc.keep(h:Acc w B wr e size v n xs)(hz:Below wr.heap.size wr wz):Acc w B wz e size v n xs:=
 ⟨h.own.kept (fun k hk=>hz.block k (h.own.lt k hk)),h.new,h.bel.trans (hz.mono h.lt),Nat.le_trans h.lt hz.size⟩
theorem Acc.drew(h:Acc w B wr e size v n xs):Acc w B wr.drew e size v n xs:=⟨h.own.drew,h.new,⟨h.bel.os,h.bel.tape,h.bel.output,h.bel.size,h.bel.block⟩,h.lt⟩
theorem Acc.rd(h:Acc w B wr e size v n xs):Ql wr size v n xs:=h.own.rd
theorem Acc.congr(h:Acc w B wr e size v n xs){n':Nat}{xs':List Value}(hn:n=n')(hx:xs=xs'):Acc w B wr e size v n' xs':=by subst hn hx;exact h
end
end
section
structure Qbr(w:World)(B:Nat)(wr:World)(e1:TypeId)(s1:Nat)(k:Value)(n1:Nat)(ks:List Value)(e2:TypeId)(s2:Nat)(v:Value)(n2:Nat)(vs:List Value):Prop where
 a:Acc w B wr e1 s1 k n1 ks
 b:Acc w B wr e2 s2 v n2 vs
 ne:∀ g,k.ownBlock=some g->v.ownBlock≠some g
section
variable{w:World}{B:Nat}{wr wz w1:World}{k v k':Value}{ks vs news:List Value}{q e1 e2 s1 s2 n1 n2 m:Nat}
theorem Qbr.swap(h:Qbr w B wr e1 s1 k n1 ks e2 s2 v n2 vs):Qbr w B wr e2 s2 v n2 vs e1 s1 k n1 ks:=⟨h.b,h.a,fun g h1 h2=>h.ne g h2 h1⟩
theorem Qbr.left(h:Qbr w B wr e1 s1 k n1 ks e2 s2 v n2 vs)(hz:Below wr.heap.size wr wz)(o1:Qj w1 e1 s1 k' (n1+m) (ks++news))(g1:wz.grownBy w1 k.ownBlock)
  (b1:Zc k'=Zc k\/Zc k'=some ⟨q,0,none⟩) (hq:wr.heap.size<=q):Qbr w B w1 e1 s1 k' (n1+m) (ks++news) e2 s2 v n2 vs:=by
 have hb:∀ g,v.ownBlock=some g->w1.heap[g]? = wr.heap[g]?:=fun g hg=>by
  have hlt:=h.b.own.lt g hg;rw[g1.block g (Nat.lt_of_lt_of_le hlt hz.size) (fun e=>h.ne g e.symm hg)];exact hz.block g hlt
 have A1:=h.a.next hz o1 g1 b1 hq;refine⟨A1,⟨h.b.own.kept hb,h.b.new,A1.bel,A1.lt⟩,fun g hg hg2 => ?_⟩
 rcases b1 with b1 | b1
 ·rw[Qh,b1,<- Qh]at hg;exact h.ne g hg hg2
 ·rw[Qh,b1]at hg;cases hg;have:=h.b.own.lt q hg2;omega
end
section
variable{w:World}{B:Nat}{wr wz w1:World}{a b c a':Value}{al bl cl news:List Value}{q e1 e2 e3 s1 s2 s3 n1 n2 n3 m:Nat}
end
theorem Uj{wr wz w1:World}{k:Value}{g:Nat}(hz:Below wr.heap.size wr wz)(g1:wz.grownBy w1 k.ownBlock)(hg:g<wr.heap.size)(hne:k.ownBlock≠some g)(o:Nat):w1.cell? ⟨g,o,none⟩=wr.cell? ⟨g,o,none⟩:=
 World.cell?_of_block (w:=wr) (a:=⟨g,o,none⟩) ((g1.block g (Nat.lt_of_lt_of_le hg hz.size) (fun e=>hne e.symm)).trans (hz.block g hg))
theorem Fy{P:Program}{f:FuncId}{args:Array Value}{w:World}{n:Nat}{v:Value}(h:Calls P f args (w.drewN n) fun e w'=>e = .returned v/\w.drewN n=w') :
  Calls P f args (w.drewN n) fun e w''=>e = .returned v/\∃ m,w''=w.drewN m:=h.mono fun _ _ ⟨he,hm⟩=>⟨he,n,hm.symm⟩
theorem Qaw(k:IntKind)(x:Int):∀ u∈(#[Value.int k x]:Array Value).toList,u.oneCell'=true:=by
 intro u hu;simp at hu;subst hu;rfl
end

section
structure Dev where
 n:Nat
 pers:Nat->Int
 hist:Nat->List (Nat×Int)
 done:Nat->Nat
 err:Nat->Int
 note:Nat->Nat->Option Nat
 off:Bool
 armed:Bool
 left:Nat
 exec:Nat
def Qu(l:List (Nat×Int))(d:Int)(i:Nat):Int:=l.foldl (fun d e=>if e.1/8=i then e.2 else d) d
theorem Sl(d:Int)(i:Nat):Qu [] d i=d:=rfl
theorem Xt(l:List (Nat×Int))(e:Nat×Int)(d:Int)(i:Nat):Qu (l ++ [e]) d i=if e.1/8=i then e.2 else Qu l d i:=by
 simp[Qu,List.foldl_append]
theorem Jc(l l':List (Nat×Int))(d:Int)(i:Nat):Qu (l++l') d i=Qu l' (Qu l d i) i:=by
 simp[Qu,List.foldl_append]
namespace Dev
def cur(D:Dev)(i:Nat):Int:=Qu (D.hist (i/8)) (D.pers i) i
def setErr(D:Dev)(j:Nat)(e:Int):Dev:={D with err:=fun k=>if k=j then e else D.err k}
def fail(D:Dev)(j:Nat)(e:Int):Dev:=if D.err j=0 then D.setErr j e else D
def wordB(D:Dev)(off:Nat):Bool:=decide (off%8=0/\off<64*D.n)
def onB(D:Dev)(valid:Bool):Bool := !D.off&&valid
def onD(D:Dev)(j:Nat)(valid:Bool):Dev:=if D.off then D.fail j 3 else if valid then D else D.fail j 2
def cut(D:Dev):Bool:=D.armed&&D.left==0
def countedB(D:Dev)(valid:Bool):Bool:=D.onB valid && !D.cut
def tick(D:Dev):Dev:={D with left:=if D.armed then D.left-1 else D.left,exec:=D.exec+1}
def countedD(D:Dev)(j:Nat)(valid:Bool):Dev:=
 if D.onB valid then(if D.cut then({D with off:=true}:Dev).fail j 3 else D.tick)else D.onD j valid
def put(D:Dev)(off:Nat)(x:Int):Dev:={D with hist:=fun i=>if i=off/64 then D.hist i ++ [(off,x)]else D.hist i}
def store(D:Dev)(j off:Nat)(x:Int):Dev:=if D.countedB (D.wordB off)then(D.countedD j (D.wordB off)).put off x else D.countedD j (D.wordB off)
def inB(D:Dev)(off:Nat):Bool:=decide (off<64*D.n)
def jot(D:Dev)(j l:Nat):Dev:={D with note:=fun k m=>if k=j/\m=l then some (D.done l+(D.hist l).length)else D.note k m}
def flush(D:Dev)(j off:Nat):Dev:=if D.countedB (D.inB off)then(D.countedD j (D.inB off)).jot j (off/64)else D.countedD j (D.inB off)
def persist(D:Dev)(l k:Nat):Dev:=
 {D with pers:=fun i=>if i/8=l then Qu ((D.hist l).take k) (D.pers i) i else D.pers i,hist:=fun i=>if i=l then(D.hist i).drop k else D.hist i,done:=fun i=>if i=l then D.done i+k else D.done i}
def owed(D:Dev)(j l:Nat):Nat:=match D.note j l with | some p=>p-D.done l | none=>0
def sync(D:Dev)(j:Nat):Dev:=
 {D with pers:=fun i=>Qu ((D.hist (i/8)).take (D.owed j (i/8))) (D.pers i) i,hist:=fun i=>(D.hist i).drop (D.owed j i),done:=fun i=>D.done i+D.owed j i,note:=fun k m=>if k=j then none else D.note k m}
def fence(D:Dev)(j:Nat):Dev:=if D.countedB true then(D.countedD j true).sync j else D.countedD j true
end Dev
structure Dev.WF(D:Dev):Prop where
 pos:0<D.n
 le:D.n<=4096
 line:∀ i,i<D.n->∀ e∈D.hist i,e.1/64=i/\e.1%8=0
 cnt:∀ i,i<D.n->D.done i+(D.hist i).length<=D.exec
 note:∀ j l p,D.note j l=some p->l<D.n/\p<=D.done l+(D.hist l).length
 left:D.left<=9223372036854775807
inductive Qp where
 | dev | pers | cur | lines | thr (j:Nat) | notes (j:Nat) | hist (i:Nat)
 deriving DecidableEq
structure DV where
 db:Nat
 pb:Nat
 pc:Nat
 cb:Nat
 cc:Nat
 lb:Nat
 tb:Nat->Nat
 nb:Nat->Nat
def Zm(v:DV)(D:Dev):Array Value:=
 #[.slice (some ⟨v.pb,0,none⟩) (8*D.n) v.pc,.slice (some ⟨v.cb,0,none⟩) (8*D.n) v.cc,.slice (some ⟨v.lb,0,none⟩) D.n D.n,
  .pointer (some ⟨v.tb 0,0,none⟩),.pointer (some ⟨v.tb 1,0,none⟩),.pointer (some ⟨v.tb 2,0,none⟩),.pointer (some ⟨v.tb 3,0,none⟩),
  .pointer (some ⟨v.tb 4,0,none⟩),.pointer (some ⟨v.tb 5,0,none⟩),.pointer (some ⟨v.tb 6,0,none⟩),.pointer (some ⟨v.tb 7,0,none⟩),
  .bool D.off,.bool D.armed,.int .i64 D.left,.int .u64 D.exec]
theorem Uz(v:DV)(D:Dev)(j:Nat)(h:j<8):(Zm v D)[3+j]? = some (.pointer (some ⟨v.tb j,0,none⟩)):=by
 obtain rfl | rfl | rfl | rfl | rfl | rfl | rfl | rfl:j=0\/j=1\/j=2\/j=3\/j=4\/j=5\/j=6\/j=7:=by omega
 all_goals rfl
def Ja(v:DV)(D:Dev)(j:Nat):Array Value:=#[.pointer (some ⟨v.db,0,none⟩),.int .i64 j,.int .i64 (D.err j),.map (some (v.nb j))]
def Qv(h:List (Nat×Int)):List Value:=h.flatMap fun e => [.int .u64 e.1,.int .u64 e.2]
theorem Za(a b:List (Nat×Int)):Qv (a++b)=Qv a++Qv b:=by simp[Qv]
theorem Rb(h:List (Nat×Int)):(Qv h).length=h.length*2:=by
 induction h with
 | nil=>rfl
 | cons e l ih=>simp[Qv]at *;omega
theorem Iv(h:List (Nat×Int)):∀ (k:Nat) (e:Nat×Int),h[k]? = some e->(Qv h)[2*k]? = some (.int .u64 e.1)/\(Qv h)[2*k+1]? = some (.int .u64 e.2):=by
 induction h with
 | nil=>intro k e h;simp at h
 | cons x l ih=>
  intro k e he;have hf:Qv (x::l) = .int .u64 x.1 :: .int .u64 x.2::Qv l:=rfl
  cases k with
  | zero=>simp at he;subst he;simp[hf]
  | succ k=>
   have:=ih k e (by simpa using he);rw[hf,show 2*(k+1)=2*k+1+1 from by omega];simpa using this
theorem Qco(h:List (Nat×Int)):∀ k,(Qv h).drop (k*2)=Qv (h.drop k):=by
 induction h with
 | nil=>intro k;simp[Qv]
 | cons x l ih=>
  intro k
  cases k with
  | zero=>simp
  | succ k=>
   have hf:Qv (x::l) = .int .u64 x.1 :: .int .u64 x.2::Qv l:=rfl;rw[hf,show(k+1)*2=k*2+1+1 from by omega];simpa using ih k
theorem Xp(h:List (Nat×Int)):∀ u∈Qv h,u.oneCell'=true:=by
 intro u hu;simp[Qv]at hu;obtain⟨a,b,_,rfl | rfl⟩:=hu <;> rfl
def Lr(w:World)(own:Nat->Option Qp)(wt:TypeId)(i:Nat)(v:Value)(h:List (Nat×Int)):Prop:=
 Qj w wt 2 v h.length (Qv h)/\∀ g,v.ownBlock=some g->own g=some (.hist i)
theorem Lr.mono{w w':World}{own own':Nat->Option Qp}{wt:TypeId}{i:Nat}{v:Value}{h:List (Nat×Int)}(H:Lr w own wt i v h)
  (ho:∀ g,own g=some (.hist i)->g<w.heap.size->own' g=some (.hist i)) (hb:∀ g,own g=some (.hist i)->g<w.heap.size->w'.heap[g]? = w.heap[g]?):Lr w' own' wt i v h:=
 ⟨H.1.kept (fun k hk=>hb k (H.2 k hk) (H.1.lt k hk)),fun g hg=>ho g (H.2 g hg) (H.1.lt g hg)⟩
def Vr(P:Program)(kt et:TypeId)(w:World)(b:Nat)(B:Nat)(f:Nat->Option Nat):Prop:=
 ∃ (m:Nat) (N:DataW Unit),m<=B/\w.ownsMap P kt (plainElem P et) b m N/\(∀ l p,f l=some p->p<18446744073709551616) /\
  (∀ x:Int,Maps.has N (.int .i64 x)=true->∃ l p:Nat,x=l/\f l=some p) /\
  ∀ l p,f l=some p->Maps.has N (.int .i64 l)=true/\∀ z,N.atKey (.int .i64 l) z = .lit (.int .u64 p)
end
end Go.Proofs.YtlhchkajjpefmaaGreatDoor
