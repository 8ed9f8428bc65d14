import Derived.Test.YtlhchkajjpefmaaGreatDoorJ5
import Derived.OwnWalk
import Derived.Test.YtlhchkajjpefmaaGreatDoorJ3
import Derived.Deep.RegionHeld3
import Derived.Laws.ByValue
import Derived.Test.YtlhchkajjpefmaaGreatDoorJ4
import Derived.Laws.BytesArg
import Derived.Lib.ConvBytes
import Derived.Laws.CopyRow
import Derived.Laws.CopyOwn
set_option maxHeartbeats 16000000
set_option maxRecDepth 100000
namespace Go.Proofs.YtlhchkajjpefmaaGreatDoor
section
open Go.RowKit
section
variable(g:(Nat→Int)→Bool→Bool)
def badG(D:Dev)(ended:Bool):Option Nat:=(List.range (prodN (basesL D))).find? fun n => !(g (imgN D n) ended)
theorem badG_at{D:Dev}{e:Bool}{i:Nat}(hi:i<prodN (basesL D))(hp:g (imgN D i) e=false)(hl:∀ j,j<i→g (imgN D j) e=true):badG g D e=some i:=
 find_at hi (by simp[hp]) (fun j hj=>by simp[hl j hj])
theorem badG_no{D:Dev}{e:Bool}(hl:∀ j,j<prodN (basesL D)→g (imgN D j) e=true):badG g D e=none:=find_no (fun j hj=>by simp[hl j hj])
def fndGL(D0:Dev)(q:List (Nat×Nat×Int))(limit:Nat):Nat→Nat→Nat×Nat×Nat
 | 0,_=>(0,0,1)
 | m+1,k=>
  if limit<prodN (basesL (D0.run 0 (q.take k)))then(0,0,2)
  else match badG g (D0.run 0 (q.take k)) (decide (k=q.length))with
   | some n=>(k,n,0)
   | none=>fndGL D0 q limit m (k+1)
def fndG(D0:Dev)(q:List (Nat×Nat×Int))(limit:Nat):Nat×Nat×Nat:=fndGL g D0 q limit (q.length+1) 0
theorem fndG_many{D0:Dev}{q:List (Nat×Nat×Int)}{limit m k:Nat}(h:limit<prodN (basesL (D0.run 0 (q.take k)))):fndGL g D0 q limit (m+1) k=(0,0,2):=by
 unfold fndGL;rw[if_pos h]
theorem fndG_bad{D0:Dev}{q:List (Nat×Nat×Int)}{limit m k n:Nat}(h:¬ limit<prodN (basesL (D0.run 0 (q.take k))))(hb:badG g (D0.run 0 (q.take k)) (decide (k=q.length))=some n):fndGL g D0 q limit (m+1) k=(k,n,0):=by
 unfold fndGL;rw[if_neg h,hb]
theorem fndG_next{D0:Dev}{q:List (Nat×Nat×Int)}{limit m k:Nat}(h:¬ limit<prodN (basesL (D0.run 0 (q.take k))))(hb:badG g (D0.run 0 (q.take k)) (decide (k=q.length))=none):fndGL g D0 q limit (m+1) k=fndGL g D0 q limit m (k+1):=by
 show(if limit<prodN (basesL (D0.run 0 (q.take k)))then(0,0,2)else match badG g (D0.run 0 (q.take k)) (decide (k=q.length))with | some n=>(k,n,0) | none=>fndGL g D0 q limit m (k+1))=_
 rw[if_neg h,hb]
end
theorem img_words{D:Dev}{i n:Nat}{ks:Nat→Nat}(hn:D.n=n)(h:∀ j l:Nat,D.dirtyL[j]? = some l→ks l=digN (basesL D) i j)(x:Nat)(hx:x<8*n):D.img ks x=imgN D i x:=img_of h x (by omega)
theorem prod_run(D:Dev)(q:List (Nat×Nat×Int))(h0:totH D=0)(h:q.length≤60):prodN (basesL (D.run 0 q))≤1152921504606846976:=by
 have h1:=bases_tot (D.run 0 q);have h2:=tot_run q D;exact Nat.le_trans h1 (Nat.pow_le_pow_right (by omega) (by omega):2 ^ _≤2 ^ 60)
end

section
open Go.RowKit
attribute [local go_sem ↓] Go.wp_at_zero Go.wp_at_succ
theorem three_one(a b c:Value)(ha:a.oneCell'=true)(hb:b.oneCell'=true)(hc:c.oneCell'=true):∀ u ∈ [a,b,c],u.oneCell'=true:=by
 intro u hu;simp only[List.mem_cons,List.not_mem_nil,or_false]at hu
 rcases hu with rfl | rfl | rfl
 ·exact ha
 ·exact hb
 ·exact hc
section
variable{w:World}
structure WoSt(w:World)(f:Int)(q:List (Nat×Nat×Int))(t:TypeId)(C:List (Nat×Nat×Int)→List Value)(k:Nat)(v:Value)(wr:World):Prop where
 acc:Acc w w.heap.size wr t 3 v (woI f (q.take k) 0).length (C (woI f (q.take k) 0))
theorem WoSt.skip{f:Int}{q:List (Nat×Nat×Int)}{t:TypeId}{C:List (Nat×Nat×Int)→List Value}{k:Nat}{v:Value}{wr wz:World}{e:Nat×Nat×Int}(h:WoSt w f q t C k v wr)(he:q[k]? = some e)(h3:e.1=3∧(fenN (q.take k):Int)=f)(hb:Below wr.heap.size wr wz):WoSt w f q t C (k+1) v wz:=by
 have e1:woI f (q.take (k+1)) 0=woI f (q.take k) 0:=by
  rw[List.take_add_one,he];show woI f (q.take k ++ [e]) 0=_
  rw[woI_snoc,Nat.zero_add,if_pos h3,List.append_nil]
 exact⟨by rw[e1];exact h.acc.keep hb⟩
theorem WoSt.add{f:Int}{q:List (Nat×Nat×Int)}{t:TypeId}{C:List (Nat×Nat×Int)→List Value}{k:Nat}{v:Value}{wz:World}{e:Nat×Nat×Int}{x:List Value}(he:q[k]? = some e)(h3:¬ (e.1=3∧(fenN (q.take k):Int)=f))(hC:C (woI f (q.take k) 0 ++ [e])=C (woI f (q.take k) 0)++x)
  (h:Acc w w.heap.size wz t 3 v ((woI f (q.take k) 0).length+1) (C (woI f (q.take k) 0)++x)):WoSt w f q t C (k+1) v wz:=by
 have e1:woI f (q.take (k+1)) 0=woI f (q.take k) 0 ++ [e]:=by
  rw[List.take_add_one,he];show woI f (q.take k ++ [e]) 0=_
  rw[woI_snoc,Nat.zero_add,if_neg h3]
 exact⟨by rw[e1,hC];exact h.congr (by simp) rfl⟩
end
end

section
open Go.RowKit
section
variable{w:World}
theorem new_any(n:Nat)(h0:0<n)(hn:n≤4096) :
  Calls Tryz.prog 10 #[.int .i64 n] w fun r w'=>∃ v own,r = .returned (.tuple #[.pointer (some ⟨v.db,0,none⟩),.int .i64 0])∧IsDev w' v own (Dev.fresh n (fun _=>0))∧(∀ k,own k≠none→w.heap.size≤k)∧Below w.heap.size w w':=by
 obtain⟨i0,hi,hz0,hz1,hz2⟩:=info_parts infoU64;have hmk:=fun(wx:World)=>run_make (P:=Tryz.prog) wx 56 31 i0 _ Tryz.underlying56 hi hz0 .i64 .i64 ((n:Int)*8) ((n:Int)*8) (by omega) (by omega) (by rw[hz2];omega) (by omega)
 simp only[hz1]at hmk;rw[show((n:Int)*8).toNat=8*n from by omega]at hmk;clear hi hz0 hz1 hz2;have h1:¬ (n:Int)<1:=by omega
 have h2:¬ (4096:Int)<n:=by omega
 have hrow:Row (w.alloc (.cells (madeCells #[.int .u64 0] (8*n)) 31)) w.heap.size (8*n) 31 (fun i => .int .u64 0):=by
  refine Row.new w _ _ _ _ (fun i hi => ?_)
  simp[madeCells,hi,Nat.mod_one]
 have HR:=Lib.hid (of_any w.heap.size (8*n) n (fun _=>0) hrow h0 hn (Nat.le_refl _));clear hrow
 go_enter Tryz.func10,Tryz.ntmps10
 go_wp2_with fail
 (with_reducible refine HR.out.mono ?_)
 rintro e w1 ⟨v,own,rfl,e1,e2,d,o,b⟩;have X:=Lib.hid (And.intro e1 (And.intro d (And.intro o b)));clear e1 e2 d o b;go_wp2_with fail
 go_ret2
 refine⟨v,own,rfl,X.out.2.1,fun k hk => ?_,?_⟩
 ·rcases X.out.2.2.1 k hk with h | h
  ·omega
  ·simp at h;omega
 ·refine Below.trans ((Below.refl _ _).alloc (Nat.le_refl _) _) (X.out.2.2.2.mono (by simp))
end
end

section
open Go.RowKit Go.Maps
attribute [local go_sem ↓] Go.wp_at_zero Go.wp_at_succ
def Plain54(q:List (Nat×Nat×Int)):Prop:=∀ e∈q,(e.1=2→e.2.2=0)∧(e.1=3→e.2.1=0∧e.2.2=0)
section
variable{w:World}{v:DV}{own:Nat→Option Role}{D:Dev}
theorem meth_smSetup(pv:Value)(w:World):(method 461 83 (.agg #[pv]) "Setup").run Tryz.prog w = .ok (294,.agg #[pv]) w:=by kernel_rfl
theorem meth_smProgram(pv:Value)(w:World):(method 461 83 (.agg #[pv]) "Program").run Tryz.prog w = .ok (293,.agg #[pv]) w:=by kernel_rfl
theorem meth_smGood(pv:Value)(w:World):(method 461 83 (.agg #[pv]) "Good").run Tryz.prog w = .ok (292,.agg #[pv]) w:=by kernel_rfl
theorem smSetup_any(a:Option Addr)(m c db:Nat):Calls Tryz.prog 294 #[.agg #[.slice a m c],.pointer (some ⟨db,0,none⟩)] w fun r w'=>r = .returned (.int .i64 0)∧Below w.heap.size w w':=by
 go_enter Tryz.func294,Tryz.ntmps294
 go_wp2_with fail
 go_ret
 exact⟨rfl,below_alloc _ _⟩
theorem bytesRd{g n:Nat}{F:Nat→Int}(h:Row w g (64*n) 5 (fun i => .int .u8 (byteAt F i))):RdSl w 1 (.slice (some ⟨g,0,none⟩) (64*n) (64*n)) (64*n) (bytesL F (64*n)):=by
 refine⟨by simp[bytesL],_,_,rfl,Nat.le_refl _,.inr ⟨g,0,rfl,fun j u hu => ?_⟩⟩
 have hj:j<64*n:=by
  rcases Nat.lt_or_ge j (64*n)with h | h
  ·exact h
  ·rw[List.getElem?_eq_none (by simpa [bytesL]using h)]at hu;cases hu
 rw[bytesL_get F hj]at hu
 cases hu
 rw[Nat.zero_add,h.cell hj]
theorem smGood_any(h:IsDev w v own D)(hvb:D.VB)(h3:3≤D.n)(a:Option Addr)(m c:Nat)(e:Bool) :
  Calls Tryz.prog 292 #[.agg #[.slice a m c],.pointer (some ⟨v.db,0,none⟩),.bool e] w fun r w'=>r = .returned (.bool (goodF D.pers e))∧Below w.heap.size w w':=by
 have hn:=h.wf.le;have HP:=Lib.hid (fun o=>persisted_any (h.alloc o) hvb);have HG:=Lib.hid (fun(wx:World) (g:Nat) (hr:Row wx g (64*D.n) 5 (fun i => .int .u8 (byteAt D.pers i)))=>r54Good_any _ _ _ (bytesRd hr) (by omega) (by omega) hvb.pers e);clear h hvb
 go_enter Tryz.func292,Tryz.ntmps292
 go_wp2_with fail
 (with_reducible refine(HP.out _).mono ?_)
 rintro r w1 ⟨rfl,r1,b1⟩;rw[World.size_alloc]at r1;have HG1:=Lib.hid (HG.out _ _ r1);have B1:=Lib.hid ((below_alloc w _).trans (b1.mono (by simp)));clear r1 b1 HP HG;go_wp2_with fail
 (with_reducible refine HG1.out.mono ?_)
 rintro r w2 ⟨rfl,rfl⟩;go_wp2_with fail
 go_ret
 exact⟨rfl,B1.out⟩
structure PgSt(w:World)(q:List (Nat×Nat×Int))(k:Nat)(sv:Value)(wr:World):Prop where
 acc:Acc w w.heap.size wr 73 3 sv k (instrC (q.take k))
theorem PgSt.add{q:List (Nat×Nat×Int)}{k:Nat}{sv:Value}{wz:World}{e:Nat×Nat×Int}{x:List Value}(he:q[k]? = some e)(hx:instrC [e]=x)(h:Acc w w.heap.size wz 73 3 sv (k+1) (instrC (q.take k)++x)):PgSt w q (k+1) sv wz:=by
 refine⟨?_⟩
 rw[List.take_add_one,he];show Acc _ _ _ _ _ _ _ (instrC (q.take k ++ [e]))
 rw[instrC_append,hx];exact h
theorem smProgram_any(pv:Value)(q:List (Nat×Nat×Int))(h:RdSl w 3 pv q.length (refP q))(hq:∀ e∈q,1≤e.1∧e.1≤3)(hpl:Plain54 q)(hl:q.length≤100000)(tv:Value) :
  Calls Tryz.prog 293 #[.agg #[pv],tv] w fun r w'=>∃ sv,r = .returned (.tuple #[sv,.int .i64 0])∧Acc w w.heap.size w' 73 3 sv q.length (instrC q):=by
 obtain⟨i0,hi0,hz0,hz1,hz2⟩:=info_parts infoInstr;have I:=Lib.hid (And.intro hi0 (And.intro hz0 (And.intro hz1 hz2)));clear hi0 hz0 hz1 hz2
 have H:=Lib.hid h;have HQ:=Lib.hid hq;have HPL:=Lib.hid hpl
 obtain⟨_,a,c,rfl,hc,_⟩:=h;obtain⟨m,hm⟩:∃ m,q.length=m:=⟨_,rfl⟩;have HM:=Lib.hid hm;rw[hm]at H hl hc ⊢;have HALL:Hid (q.take m=q):=by show q.take m=q;rw[← hm,List.take_length]
 have hwl:=fun k=>List.length_take_le k q
 have HB:=Lib.hid (Blk.new w #[.slice a m c] 83);have P0:Hid (PgSt w q 0 (.slice none 0 0) (w.alloc (.cells #[.slice a m c] 83))):=⟨Acc.nil w _ _ _ _ (below_alloc w _) (by simp)⟩;clear hq hm hpl
 go_enter Tryz.func293,Tryz.ntmps293
 go_wp2_with fail
 go_loopw [6,12] (fun sv y wr=>∃ k:Nat,k≤m∧y = .int .i64 k∧PgSt w q k sv wr) (fun _ y _=>m-(intOf y).toNat)
 case atStart=>exact⟨0,by omega,rfl,P0.out⟩
 case round=>
  clear P0;obtain⟨k,hk,rfl,hst⟩:=hrel;rename World=>wr
  obtain⟨la,lc,hsv⟩:=hst.acc.slice;subst hsv;have A2:=Lib.hid hst.acc;clear hst
  by_cases hlt:k<m
  ·have hlt':(k:Int)<m:=by omega
   obtain⟨e,hge⟩:∃ e,q[k]? = some e:=⟨_,List.getElem?_eq_getElem (by rw[HM.out];omega)⟩;obtain⟨_,a',c',e',_,hE⟩:=H.out.below A2.out.bel
   cases e'
   have hg:=refP_get q k e hge;obtain⟨fb,fo,rfl,hE2⟩:=rd_at hE hg.1;have c1:=hE2 _ _ hg.1;have c2:=hE2 _ _ hg.2.1;have c3:=hE2 _ _ hg.2.2
   rw[← Nat.add_assoc]at c2 c3;obtain⟨o1,o2⟩:=HQ.out e (List.mem_of_getElem? hge);have hpl:=HPL.out e (List.mem_of_getElem? hge);have SA:=Lib.hid (fun(v:Value) (wz:World) (x:List Value)=>PgSt.add (w:=w) (sv:=v) (wz:=wz) (x:=x) hge);obtain⟨e1,e2,e3⟩:=e;simp only at o1 o2 c1 c2 c3 hpl SA;clear hE hE2 hge hg;obtain⟨ws,hws⟩:∃ ws,instrC (q.take k)=ws:=⟨_,rfl⟩;rw[hws]at SA A2;clear hws;obtain rfl | rfl | rfl:e1=1∨e1=2∨e1=3:=by omega
   ·rw[show(((1:Nat):Int)-1)=0 from rfl]at c1
    go_wp2_with (at_builtin;refine wpList_append_sl _ rfl _ _ 37 rfl 73 i0 _ 3 24 Tryz.underlying37 I.out.1 I.out.2.1 I.out.2.2.1 I.out.2.2.2 rfl (by decide) _ k ws rfl (by exact(A2.out.own.alloc _).alloc _) _ 1 [.int .u8 1,.int .u64 e2,.int .u64 e3] rfl (by exact RdSl.newAt _ _ _ 3 1 _ (by simp) rfl) (three_one _ _ _ rfl rfl rfl) (by unfold maxLen;omega) (by omega) ?_)
    intro v1 w3 o1 g1 b1 n1;have A3:=Lib.hid (A2.out.next (below_twice _ _ _) o1 g1 b1 (by first | simp | omega));clear o1 g1 b1 n1
    go_wp2_with fail
    go_roundw
    case rel=>exact⟨k+1,by omega,by go_num,SA.out _ _ _ rfl A3.out⟩
    case measure=>simp[intOf];omega
   ·rw[show(((2:Nat):Int)-1)=1 from rfl]at c1
    have h0:=hpl.1 rfl;subst h0;go_wp2_with (at_builtin;refine wpList_append_sl _ rfl _ _ 37 rfl 73 i0 _ 3 24 Tryz.underlying37 I.out.1 I.out.2.1 I.out.2.2.1 I.out.2.2.2 rfl (by decide) _ k ws rfl (by exact(A2.out.own.alloc _).alloc _) _ 1 [.int .u8 2,.int .u64 e2,.int .u64 0] rfl (by exact RdSl.newAt _ _ _ 3 1 _ (by simp) rfl) (three_one _ _ _ rfl rfl rfl) (by unfold maxLen;omega) (by omega) ?_)
    intro v1 w3 o1 g1 b1 n1;have A3:=Lib.hid (A2.out.next (below_twice _ _ _) o1 g1 b1 (by first | simp | omega));clear o1 g1 b1 n1
    go_wp2_with fail
    go_roundw
    case rel=>exact⟨k+1,by omega,by go_num,SA.out _ _ _ rfl A3.out⟩
    case measure=>simp[intOf];omega
   ·rw[show(((3:Nat):Int)-1)=2 from rfl]at c1
    obtain⟨h1,h2⟩:=hpl.2 rfl;subst h1;subst h2
    go_wp2_with (at_builtin;refine wpList_append_sl _ rfl _ _ 37 rfl 73 i0 _ 3 24 Tryz.underlying37 I.out.1 I.out.2.1 I.out.2.2.1 I.out.2.2.2 rfl (by decide) _ k ws rfl (by exact(A2.out.own.alloc _).alloc _) _ 1 [.int .u8 3,.int .u64 0,.int .u64 0] rfl (by exact RdSl.newAt _ _ _ 3 1 _ (by simp) rfl) (three_one _ _ _ rfl rfl rfl) (by unfold maxLen;omega) (by omega) ?_)
    intro v1 w3 o1 g1 b1 n1;have A3:=Lib.hid (A2.out.next (below_twice _ _ _) o1 g1 b1 (by first | simp | omega));clear o1 g1 b1 n1
    go_wp2_with fail
    go_roundw
    case rel=>exact⟨k+1,by omega,by go_num,SA.out _ _ _ rfl A3.out⟩
    case measure=>simp[intOf];omega
  ·obtain rfl:k=m:=by omega
   go_wp2_with fail
   go_ret2
   exact⟨_,rfl,A2.out.congr rfl (by rw[HALL.out])⟩
end
end

section
open Go.RowKit Go.Maps
attribute [local go_sem ↓] Go.wp_at_zero Go.wp_at_succ
section
variable{w:World}{v:DV}{own:Nat→Option Role}{D:Dev}
theorem nil_smProgram(pv:Value)(w:World):(nilAhead 461 83 (.agg #[pv]) "Program").run Tryz.prog w = .ok (some false) w:=by kernel_rfl
theorem thrZ_any(h:IsDev w v own D):Calls Tryz.prog 11 #[.pointer (some ⟨v.db,0,none⟩),.int .i64 0] w fun r w'=>r = .returned (.pointer (some ⟨v.tb 0,0,none⟩))∧w=w':=thread_any h (j:=0) (by omega)
theorem mWithout_any(qv:Value)(q:List (Nat×Nat×Int))(h:RdSl w 3 qv q.length (instrC q))(hl:q.length≤100000)(f:Int) :
  Calls Tryz.prog 142 #[qv,.int .i64 f] w fun r w'=>∃ sv,r = .returned sv∧Acc w w.heap.size w' 73 3 sv (woI f q 0).length (instrC (woI f q 0)):=by
 obtain⟨i0,hi0,hz0,hz1,hz2⟩:=info_parts infoInstr;have I:=Lib.hid (And.intro hi0 (And.intro hz0 (And.intro hz1 hz2)));clear hi0 hz0 hz1 hz2
 have H:=Lib.hid h;obtain⟨_,a,c,rfl,hc,_⟩:=h;obtain⟨m,hm⟩:∃ m,q.length=m:=⟨_,rfl⟩;have HM:=Lib.hid hm;rw[hm]at H hl hc ⊢;have HALL:Hid (q.take m=q):=by show q.take m=q;rw[← hm,List.take_length]
 have HWL:=Lib.hid (fun k=>woI_len f (q.take k) 0);have W0:Hid (WoSt w f q 73 instrC 0 (.slice none 0 0) w):=⟨Acc.nil w _ _ _ _ (Below.refl _ _) (Nat.le_refl _)⟩;clear hm
 go_enter Tryz.func142,Tryz.ntmps142
 go_wp2_with fail
 go_loopw [5,6,11] (fun sv z y wr=>∃ k:Nat,k≤m∧y = .int .i64 k∧z = .int .i64 (fenN (q.take k):Nat)∧fenN (q.take k)≤k∧WoSt w f q 73 instrC k sv wr) (fun _ _ y _=>m-(intOf y).toNat)
 case atStart=>exact⟨0,by omega,rfl,rfl,by simp[fenN],W0.out⟩
 case round=>
  clear W0;obtain⟨k,hk,rfl,rfl,hfk,hst⟩:=hrel;rename World=>wr
  obtain⟨la,lc,hsv⟩:=hst.acc.slice;subst hsv;have S:=Lib.hid hst;clear hst;have hwl:=HWL.out k;have htk:=List.length_take_le k q
  by_cases hlt:k<m
  ·have hlt':(k:Int)<m:=by omega
   obtain⟨e,hge⟩:∃ e,q[k]? = some e:=⟨_,List.getElem?_eq_getElem (by rw[HM.out];omega)⟩;obtain⟨_,a',c',e',_,hE⟩:=H.out.below S.out.acc.bel
   cases e'
   have hg:=instrC_get q k e hge;obtain⟨fb,fo,rfl,hE2⟩:=rd_at hE hg.1;have c1:=hE2 _ _ hg.1;have c2:=hE2 _ _ hg.2.1;have c3:=hE2 _ _ hg.2.2
   rw[← Nat.add_assoc]at c2 c3;have HT:Hid (fenN (q.take (k+1))=fenN (q.take k)+(if e.1=3 then 1 else 0)):=by show fenN (q.take (k+1))=_;rw[List.take_add_one,hge];exact fenN_snoc _ _
   have SK:=Lib.hid (fun(h3:e.1=3∧(fenN (q.take k):Int)=f) (wz:World) (hb:Below _ _ wz)=>S.out.skip hge h3 hb);have SA:=Lib.hid (fun(v:Value) (wz:World) (h3:¬ (e.1=3∧(fenN (q.take k):Int)=f))=>WoSt.add (w:=w) (f:=f) (t:=73) (C:=instrC) (v:=v) (wz:=wz) (x := [.int .u8 e.1,.int .u64 e.2.1,.int .u64 e.2.2]) hge h3 (by rw[instrC_append];rfl));have A2:=Lib.hid S.out.acc;obtain⟨e1,e2,e3⟩:=e;simp only at c1 c2 c3 HT SK SA;clear hE hE2 hge hg S;obtain⟨fn,hfn⟩:∃ fn,fenN (q.take k)=fn:=⟨_,rfl⟩;rw[hfn]at HT SK SA hfk ⊢;clear hfn;obtain⟨ws,hws⟩:∃ ws,woI f (q.take k) 0=ws:=⟨_,rfl⟩;rw[hws]at SA SK A2 hwl ⊢;clear hws
   by_cases h3:e1=3
   ·have hb3:((e1:Int)==3)=true:=by simp;omega
    rw[if_pos h3]at HT
    by_cases hff:(fn:Int)=f
    ·have hbf:((fn:Int)==f)=true:=by simpa using hff
     have SK1:=Lib.hid (SK.out ⟨h3,hff⟩);clear SK SA h3 hff;go_wp2_with fail
     go_roundw
     case rel=>exact⟨k+1,by omega,by go_num,by rw[HT.out];go_num,by rw[HT.out];omega,SK1.out _ (below_alloc _ _)⟩
     case measure=>simp[intOf];omega
    ·have hbf:((fn:Int)==f)=false:=by simpa using hff
     have SA1:=Lib.hid (fun v wz=>SA.out v wz (fun hh=>hff hh.2));clear SK SA h3 hff;go_wp2_with (at_builtin;refine wpList_append_sl _ rfl _ _ 37 rfl 73 i0 _ 3 24 Tryz.underlying37 I.out.1 I.out.2.1 I.out.2.2.1 I.out.2.2.2 rfl (by decide) _ ws.length (instrC ws) rfl (by exact(A2.out.own.alloc _).alloc _) _ 1 [.int .u8 e1,.int .u64 e2,.int .u64 e3] rfl (by exact RdSl.newAt _ _ _ 3 1 _ (by simp) rfl) (three_one _ _ _ rfl rfl rfl) (by unfold maxLen;omega) (by omega) ?_)
     intro v1 w3 o1 g1 b1 n1;have A3:=Lib.hid (A2.out.next (below_twice _ _ _) o1 g1 b1 (by first | simp | omega));clear o1 g1 b1 n1
     go_wp2_with fail
     go_roundw
     case rel=>exact⟨k+1,by omega,by go_num,by rw[HT.out];go_num,by rw[HT.out];omega,SA1.out _ _ A3.out⟩
     case measure=>simp[intOf];omega
   ·have hb3:((e1:Int)==3)=false:=by simp;omega
    rw[if_neg h3]at HT;have SA1:=Lib.hid (fun v wz=>SA.out v wz (fun hh=>h3 hh.1));clear SK SA h3;go_wp2_with (at_builtin;refine wpList_append_sl _ rfl _ _ 37 rfl 73 i0 _ 3 24 Tryz.underlying37 I.out.1 I.out.2.1 I.out.2.2.1 I.out.2.2.2 rfl (by decide) _ ws.length (instrC ws) rfl (by exact(A2.out.own.alloc _).alloc _) _ 1 [.int .u8 e1,.int .u64 e2,.int .u64 e3] rfl (by exact RdSl.newAt _ _ _ 3 1 _ (by simp) rfl) (three_one _ _ _ rfl rfl rfl) (by unfold maxLen;omega) (by omega) ?_)
    intro v1 w3 o1 g1 b1 n1;have A3:=Lib.hid (A2.out.next (below_twice _ _ _) o1 g1 b1 (by first | simp | omega));clear o1 g1 b1 n1
    go_wp2_with fail
    go_roundw
    case rel=>exact⟨k+1,by omega,by go_num,by rw[HT.out];go_num,by rw[HT.out];omega,SA1.out _ _ A3.out⟩
    case measure=>simp[intOf];omega
  ·obtain rfl:k=m:=by omega
   go_wp2_with fail
   go_ret
   exact⟨_,rfl,S.out.acc.congr (by rw[HALL.out]) (by rw[HALL.out])⟩
def PpPost(w:World)(n:Nat)(q:List (Nat×Nat×Int))(f:Int)(r:Ending)(w':World):Prop:=
 (isOf f q=false∧r = .returned (.tuple #[.pointer none,.slice none 0 0,.int .i64 2])) ∨
 (isOf f q=true∧∃ (v:DV) (own:Nat→Option Role) (sv:Value),r = .returned (.tuple #[.pointer (some ⟨v.db,0,none⟩),sv,.int .i64 0])∧IsDev w' v own (Dev.fresh n (fun _=>0))∧RdSl w' 3 sv (qOf f q).length (instrC (qOf f q)) ∧
  (∀ k,own k≠none→w.heap.size≤k)∧∀ g,sv.ownBlock=some g→own g=none)
theorem ncPrepare_any(pv:Value)(q:List (Nat×Nat×Int))(h:RdSl w 3 pv q.length (refP q))(hq:∀ e∈q,1≤e.1∧e.1≤3)(hpl:Plain54 q)(hl:q.length≤100000)(n:Nat)(h0:0<n)(hn:n≤4096)(f:Int) :
  Calls Tryz.prog 56 #[.iface 83 (.agg #[pv]),.int .i64 n,.int .i64 f] w fun r w'=>PpPost w n q f r w'∧Below w.heap.size w w':=by
 have HN:=Lib.hid (new_any (w:=w) n h0 hn);have HPG:=Lib.hid (fun(wx:World) (tv:Value) (hx:RdSl wx 3 pv q.length (refP q))=>smProgram_any pv q hx hq hpl hl tv);have hms:=meth_smSetup pv;have hmp:=meth_smProgram pv;have hnl:=nil_smProgram pv
 have H:=Lib.hid h;obtain⟨_,a,c,rfl,hc,_⟩:=h;have HFE:=Lib.hid (fun(wx:World) (sv:Value) (hx:RdSl wx 3 sv q.length (instrC q))=>fences_any sv q hx hl);have HWO:=Lib.hid (fun(wx:World) (sv:Value) (hx:RdSl wx 3 sv q.length (instrC q))=>mWithout_any sv q hx hl f);have HIS:Hid (isOf f q=(decide (f = -1) || decide (0≤f∧f<fenN q))):=rfl;have HQ1:Hid (f = -1→qOf f q=q):=fun e=>by unfold qOf;rw[if_pos e]
 have HQ2:Hid (f ≠ -1→qOf f q=woI f q 0):=fun e=>by unfold qOf;rw[if_neg e]
 have hfl:=fenN_le q;obtain⟨fn,hfn⟩:∃ fn,fenN q=fn:=⟨_,rfl⟩;rw[hfn]at HFE HIS hfl;obtain⟨m,hm⟩:∃ m,q.length=m:=⟨_,rfl⟩;have HMQ:Hid (q.length=m):=hm;rw[hm]at HPG H HFE HWO hl hc hfl hms hmp hnl ⊢;clear hq hpl hfn hm
 go_enter Tryz.func56,Tryz.ntmps56
 go_wp2_with fail
 (with_reducible refine HN.out.mono ?_)
 rintro r w1 ⟨v,own,rfl,d1,o1,b1⟩;have D1:=Lib.hid d1;have O1:=Lib.hid o1;have B1:=Lib.hid b1
 clear d1 o1 b1 HN;have HSU:=Lib.hid (smSetup_any (w:=w1) a m c v.db);go_wp2_with fail
 (with_reducible refine HSU.out.mono ?_)
 rintro r w2 ⟨rfl,b2⟩;have D2:=Lib.hid (D1.out.kept b2.size (fun k hk=>b2.block k (D1.out.lt k hk)));have B2:=Lib.hid (B1.out.trans (b2.mono B1.out.size));clear b2 D1 B1 HSU;have HTH:=Lib.hid (fun(wx:World) (hx:IsDev wx v own (Dev.fresh n (fun _=>0)))=>thrZ_any hx);have D2d:Hid (IsDev w2.drew v own (Dev.fresh n (fun _=>0))):=D2.out.drew;have HP2:Hid (∀ tv,Calls Tryz.prog 293 #[.agg #[.slice a m c],tv] w2.drew fun r w'=>∃ sv,r = .returned (.tuple #[sv,.int .i64 0])∧Acc w2.drew w2.drew.heap.size w' 73 3 sv m (instrC q)):=Lib.hid (fun tv=>HPG.out w2.drew tv ((H.out.below B2.out).drew));go_wp2_with fail
 go_region_with (first | (go_at_call 11;(with_reducible refine(HTH.out _ D2d.out).mono ?_);rintro e w' ⟨rfl,rfl⟩) | (go_at_call 293;(with_reducible refine(HP2.out _).mono ?_);rintro e w3 ⟨sv,rfl,a3⟩;have A3:=Lib.hid a3;clear a3))
 all_goals
  obtain⟨sa,sc,hsv⟩:=A3.out.slice;subst hsv;have B3:Hid (Below w.heap.size w w3):=Lib.hid ((B2.out.drew).trans (A3.out.bel.mono (by exact B2.out.size)));have D3:Hid (IsDev w3 v own (Dev.fresh n (fun _=>0))):=Lib.hid (D2d.out.kept A3.out.bel.size (fun k hk=>A3.out.bel.block k (D2d.out.lt k hk)));have HFE1:=Lib.hid (HFE.out w3 _ A3.out.rd);have HON:Hid (∀ g,(Value.slice sa m sc).ownBlock=some g→own g=none):=fun g hg=>by
   have h1:=A3.out.new g hg
   cases hh:own g with
   | none=>rfl
   | some x=>have:=D2d.out.lt g (by rw[hh];simp);omega
  by_cases hf1:f < -1
  ·have e:isOf f q=false:=by rw[HIS.out,decide_eq_false (by omega),decide_eq_false (by omega)];rfl
   go_wp2_with fail
   go_ret3
   exact⟨.inl ⟨e,rfl⟩,B3.out⟩
  ·go_wp2_with fail
   (with_reducible refine HFE1.out.mono ?_)
   rintro r w4 ⟨rfl,b4⟩;have B4:=Lib.hid (B3.out.trans (b4.mono B3.out.size));have D4:=Lib.hid (D3.out.kept b4.size (fun k hk=>b4.block k (D3.out.lt k hk)));have R4:=Lib.hid (A3.out.rd.below b4);clear b4
   by_cases hf2:(fn:Int)≤f
   ·have e:isOf f q=false:=by rw[HIS.out,decide_eq_false (by omega),decide_eq_false (by omega)];rfl
    go_wp2_with fail
    go_ret3
    exact⟨.inl ⟨e,rfl⟩,B4.out⟩
   ·by_cases hf3:0≤f
    ·have e:isOf f q=true:=by rw[HIS.out,decide_eq_true (show 0≤f∧f<(fn:Int)by omega),Bool.or_true]
     have eq:=HQ2.out (by omega);have HW1:=Lib.hid (HWO.out w4 _ R4.out);go_wp2_with fail
     (with_reducible refine HW1.out.mono ?_)
     rintro r w5 ⟨sv5,rfl,a5⟩;have A5:=Lib.hid a5;clear a5;have E:=Lib.hid (And.intro e eq);clear e eq;go_wp2_with fail
     go_ret3
     refine⟨.inr ⟨E.out.1,v,own,sv5,rfl,D4.out.kept A5.out.bel.size (fun k hk=>A5.out.bel.block k (D4.out.lt k hk)),by rw[E.out.2];exact A5.out.rd,fun k hk=>O1.out k hk,fun g hg => ?_⟩,B4.out.trans (A5.out.bel.mono B4.out.size)⟩
     have h1:=A5.out.new g hg
     cases hh:own g with
     | none=>rfl
     | some x=>have:=D4.out.lt g (by rw[hh];simp);omega
    ·have e:isOf f q=true:=by rw[HIS.out,decide_eq_true (show f = -1 by omega),Bool.true_or]
     have eq:=HQ1.out (by omega);have E:=Lib.hid (And.intro e eq);clear e eq;go_wp2_with fail
     go_ret3
     exact⟨.inr ⟨E.out.1,v,own,_,rfl,D4.out,by rw[E.out.2,HMQ.out];exact R4.out,fun k hk=>O1.out k hk,HON.out⟩,B4.out⟩
end
end

section
open Go.RowKit
attribute [local go_sem ↓] Go.wp_at_zero Go.wp_at_succ
theorem below_bytes2(w:World)(e:TypeId)(s:ByteArray):Below w.heap.size w (Lib.bytesWorld w e s):=
 ⟨rfl,rfl,rfl,by rw[Lib.bytesWorld_size];omega,fun k hk=>Lib.bytesWorld_at_old w e s k hk⟩
def ImgS(s:ByteArray)(n:Nat)(F:Nat→Int):Prop:=s.size=64*n∧∀ j,j<64*n→(((s.toList.getD j 0).toNat:Nat):Int)=byteAt F j
theorem byteAt_bdC(F:Nat→Int)(i:Nat):0≤byteAt F i∧byteAt F i<256:=by
 unfold byteAt;exact⟨Int.emod_nonneg _ (by omega),Int.emod_lt_of_pos _ (by omega)⟩
theorem imgS_made(n:Nat)(F:Nat→Int):ImgS (strOfNums ((List.range (64*n)).map fun i=>byteAt F i)) n F:=by
 refine⟨by rw[strOfNums_size];simp,fun j hj => ?_⟩
 have h:((strOfNums ((List.range (64*n)).map fun i=>byteAt F i)).toList)[j]? = some (UInt8.ofNat (byteAt F j).toNat):=by
  rw[ByteArray.toList_eq,strOfNums_data,List.getElem?_map,List.getElem?_map,List.getElem?_range hj]
  rfl
 obtain⟨b0,b1⟩:=byteAt_bdC F j;rw[List.getD_eq_getElem?_getD,h,Option.getD_some,UInt8.toNat_ofNat'];omega
theorem imgS_rd{s:ByteArray}{n:Nat}{F:Nat→Int}(h:ImgS s n F)(w:World):RdSl (Lib.bytesWorld w 5 s) 1 (.slice (some ⟨w.heap.size,0,none⟩) s.size (grownCap w s.size 0 5)) (64*n) ((List.range (64*n)).map fun i => .int .u8 (byteAt F i)):=by
 refine⟨by simp,_,_,by rw[h.1],by rw[← h.1];exact grownCap_ge _ _ _ _,.inr ⟨_,_,rfl,fun j u hu => ?_⟩⟩
 rw[List.getElem?_map]at hu;have hj:j<64*n:=by
  rcases Nat.lt_or_ge j (64*n)with h | h
  ·exact h
  ·rw[List.getElem?_eq_none (by simpa using h)]at hu;cases hu
 rw[List.getElem?_range hj]at hu
 cases hu
 show _=some (Value.int .u8 (byteAt F j))
 rw[← h.2 j hj,Nat.zero_add,Lib.bytesWorld_cell w 5 s j (by rw[h.1];exact hj),← ByteArray.toList_eq]
section
variable{w:World}
theorem imNew_any{g n:Nat}{F:Nat→Int}(h:Row w g (64*n) 5 (fun i => .int .u8 (byteAt F i)))(hn:n≤4096) :
  Calls Tryz.prog 132 #[.slice (some ⟨g,0,none⟩) (64*n) (64*n)] w fun r w'=>∃ s,r = .returned (.tuple #[.agg #[.string s],.int .i64 0])∧ImgS s n F∧Below w.heap.size w w':=by
 have B0:=Lib.hid (below_alloc w (.cells #[.string ⟨#[]⟩] 46));have h1:=h.below B0.out;have hcv:=run_convert_bytes_arg (P:=Tryz.prog) (w.alloc (.cells #[.string ⟨#[]⟩] 46)) 62 5 Tryz.underlying62 Tryz.underlying5 g 0 (64*n) (64*n) ((List.range (64*n)).map fun i=>byteAt F i) (by simp) (fun i hi=>by
  rw[h1.cell (i:=0+i) (by omega)];simp[List.getD,List.getElem?_map,List.getElem?_range hi]) 9 Tryz.underlying9
 have hs:=imgS_made n F
 generalize strOfNums ((List.range (64*n)).map fun i=>byteAt F i)=s at hcv hs
 have HS:=Lib.hid hs;have K0:=Lib.hid (Blk.new w #[.string ⟨#[]⟩] 46);have q1:((64*n:Nat):Int)%64=0:=by omega
 have q2:((64*n:Nat):Int)/64=n:=by omega
 have q3:((64*n:Nat):Int).tmod 64=0:=by rw[Int.tmod_eq_emod_of_nonneg (by omega)];exact q1
 have q4:((64*n:Nat):Int).tdiv 64=n:=by rw[Int.tdiv_eq_ediv_of_nonneg (by omega)];exact q2
 have q5:¬ (4096:Int)<n:=by omega
 obtain⟨N,hN⟩:∃ N,64*n=N:=⟨_,rfl⟩;have hN2:N≤262144:=by omega
 rw[hN]at hcv q1 q2 q3 q4 ⊢;clear h h1 hs hN
 go_enter Tryz.func132,Tryz.ntmps132
 go_wp2_with fail
 refine bodyPost_ret (v:=.tuple #[.agg #[.string s],.int .i64 0]) (by simp[results,Tryz.results132,go_sem]) rfl ⟨s,rfl,HS.out,?_⟩
 exact below_alloc _ _
theorem imLines_any{s:ByteArray}{n:Nat}{F:Nat→Int}(h:ImgS s n F)(hn:n≤4096) :
  Calls Tryz.prog 44 #[.agg #[.string s]] w fun r w'=>r = .returned (.int .i64 n)∧Below w.heap.size w w':=by
 have B0:=Lib.hid (below_alloc w (.cells #[.string s] 46));have K0:=Lib.hid (Blk.new w #[.string s] 46);have hsz:=h.1;have q2:((64*n:Nat):Int)/64=n:=by omega
 have q4:((64*n:Nat):Int).tdiv 64=n:=by rw[Int.tdiv_eq_ediv_of_nonneg (by omega)];exact q2
 rw[← hsz]at q2 q4;clear h hsz
 go_enter Tryz.func44,Tryz.ntmps44
 go_wp2_with fail
 go_ret
 exact⟨rfl,B0.out⟩
theorem imBytes_any{s:ByteArray}{n:Nat}{F:Nat→Int}(h:ImgS s n F)(_:n≤4096) :
  Calls Tryz.prog 46 #[.agg #[.string s]] w fun r w'=>∃ sv,r = .returned sv∧RdSl w' 1 sv (64*n) ((List.range (64*n)).map fun i => .int .u8 (byteAt F i))∧Below w.heap.size w w':=by
 have B0:=Lib.hid (below_alloc w (.cells #[.string s] 46));have K0:=Lib.hid (Blk.new w #[.string s] 46);have hcv:=fun(wx:World)=>Lib.run_convert_string_bytes (P:=Tryz.prog) wx 9 62 5 s Tryz.underlying9 Tryz.underlying62 Tryz.underlying5
 have HRD:=Lib.hid (fun wx=>imgS_rd h wx);have HB:=Lib.hid (fun wx=>below_bytes2 wx 5 s);clear h
 go_enter Tryz.func46,Tryz.ntmps46
 go_wp2_with fail
 go_ret
 have R:=HRD.out (w.alloc (.cells #[.string s] 46));rw[World.size_alloc]at R;exact⟨_,rfl,R,B0.out.trans ((HB.out _).mono B0.out.size)⟩
theorem imDevice_any{s:ByteArray}{n:Nat}{F:Nat→Int}(h:ImgS s n F)(hn0:0<n)(hn:n≤4096)(hF:∀ i,0≤F i∧F i<18446744073709551616) :
  Calls Tryz.prog 15 #[.agg #[.string s]] w fun r w'=>∃ (v':DV) (own':Nat→Option Role),r = .returned (.tuple #[.pointer (some ⟨v'.db,0,none⟩),.int .i64 0]) ∧
   (∃ f,(∀ i,i<8*n→f i=F i)∧IsDev w' v' own' (Dev.fresh n f))∧(∀ k,own' k≠none→w.heap.size≤k)∧Below w.heap.size w w':=by
 have B0:=Lib.hid (below_alloc w (.cells #[.string s] 46));have K0:=Lib.hid (Blk.new w #[.string s] 46);have HL:=Lib.hid (fun wx=>imLines_any (w:=wx) h hn);have HB:=Lib.hid (fun wx=>imBytes_any (w:=wx) h hn);have HF:=Lib.hid (fun wx sv hr=>devFrom_any (w:=wx) sv n (byteAt F) hr hn0 hn (fun i _=>byteAt_bdC F i));have HFF:=Lib.hid hF;have hn1:¬ (n:Int)=0:=by omega
 clear h hF
 go_enter Tryz.func15,Tryz.ntmps15
 go_wp2_with fail
 (with_reducible refine(HL.out _).mono ?_)
 rintro r w1 ⟨rfl,b1⟩;have B1:=Lib.hid (B0.out.trans (b1.mono B0.out.size));have c1:=(K0.out.below b1).cell (i:=0) rfl;clear b1 K0;go_wp2_with fail
 (with_reducible refine(HB.out _).mono ?_)
 rintro r w2 ⟨sv,rfl,r2,b2⟩;have B2:=Lib.hid (B1.out.trans (b2.mono B1.out.size));have R2:=Lib.hid r2;clear b2 r2;go_wp2_with fail
 (with_reducible refine(HF.out _ _ R2.out).mono ?_)
 rintro r w3 ⟨v',own',rfl,h1,h2,h3⟩;have R:=Lib.hid (And.intro h1 (And.intro h2 h3));clear h1 h2 h3
 go_wp2_with fail
 go_ret2
 exact⟨v',own',rfl,⟨_,fun i hi=>by
  have:=wordsOf_bytes F (8*n) i hi (HFF.out i)
  rwa [show 8*(8*n)=64*n by omega]at this,R.out.1⟩,fun k hk=>Nat.le_trans B2.out.size (R.out.2.1 k hk),B2.out.trans (R.out.2.2.mono B2.out.size)⟩
end
end

section
open Go.RowKit
attribute [local go_sem ↓] Go.wp_at_zero Go.wp_at_succ
def mixB(F:Nat→Int)(off:Nat)(x:Int)(k i:Nat):Int:=if off≤i∧i<off+k then x/2 ^ ((i-off)*8)%256 else byteAt F i
theorem mixB_zero(F:Nat→Int)(off:Nat)(x:Int)(i:Nat):mixB F off x 0 i=byteAt F i:=by
 unfold mixB;rw[if_neg (by omega)]
theorem mixB_step(F:Nat→Int)(off:Nat)(x:Int)(k i:Nat):(if i=off+k then x/2 ^ (k*8)%256 else mixB F off x k i)=mixB F off x (k+1) i:=by
 unfold mixB
 by_cases e:i=off+k
 ·rw[if_pos e,if_pos (by omega),e,Nat.add_sub_cancel_left]
 ·rw[if_neg e]
  by_cases h:off≤i∧i<off+k
  ·rw[if_pos h,if_pos (by omega)]
  ·rw[if_neg h,if_neg (by omega)]
theorem mixB_full(l:List (Nat×Int))(e:Nat×Int)(F:Nat→Int)(h:e.1%8=0)(i:Nat):mixB (applied l F) e.1 e.2 8 i=byteAt (applied (l ++ [e]) F) i:=by
 unfold mixB byteAt applied;rw[look_snoc]
 by_cases h1:e.1≤i∧i<e.1+8
 ·rw[if_pos h1,if_pos (by omega),show i%8=i-e.1 by omega]
 ·rw[if_neg h1,if_neg (by omega)]
theorem sizeU8r:(Tryz.prog.info? 5).map (·.size)=some 1:=by kernel_rfl
theorem copy_row8{wx:World}{g pg N:Nat}{cur:Array Value}{B:Nat→Int}(hg:Blk wx g cur 5)(hz:cur.size=N)(hr:Row wx pg N 5 (fun i => .int .u8 (B i))) :
  ∃ wy,(∀ ty,(Builtin.copy_ #[62,62] ty #[.slice (some ⟨g,0,none⟩) N N,.slice (some ⟨pg,0,none⟩) N N]).run Tryz.prog wx = .ok (goInt (N:Nat)) wy) ∧
   Row wy g N 5 (fun i => .int .u8 (B i))∧Upd (· = g) wx wy:=by
 have hl:((List.range N).map fun i=>Value.int .u8 (B i)).length=N:=by simp
 have hr2:=fun ty=>run_copy_row (P:=Tryz.prog) wx 62 62 ty 5 g 0 N N ⟨pg,0,none⟩ N N cur 5 ((List.range N).map fun i=>Value.int .u8 (B i)) Tryz.underlying62 sizeU8r hg (by rw[hl];exact(Nat.min_self N).symm)
  (fun j u hj=>by
   have hj2:j<N:=by rw[← hl];exact(List.getElem?_eq_some_iff.1 hj).1
   rw[List.getElem?_map,List.getElem?_range hj2]at hj
   cases hj
   rw[Addr.add_lit,Nat.zero_add];exact hr.cell hj2) (by rw[hl];omega) (fun u hu=>by
   obtain⟨j,_,rfl⟩:=List.mem_map.1 hu
   rfl)
 refine⟨_,fun ty=>by rw[hr2 ty,hl],⟨_,setRow_heap wx g cur _ 5 (0,0) hg,fun i hi => ?_⟩,⟨rfl,rfl,rfl,by simp[World.setRow],fun k _ hk=>setRow_other _ _ _ _ hk⟩⟩
 rw[List.take_zero,List.nil_append,List.getElem?_toArray,List.getElem?_append_left (by rw[hl];exact hi),List.getElem?_map,List.getElem?_range hi]
 rfl
section
variable{w:World}{v:DV}{own:Nat→Option Role}{D:Dev}{pg:Nat}{lv hv:Value}{hs:List Value}
theorem csImage_any(h:ExAt D pg lv hv hs w)(hw:D.WF)(hvb:D.VB)(hq:∀ l∈D.dirtyL,(D.hist l).length≤1000000000)(kb:Nat)(f:Nat→Nat)(hf:Row w kb D.dirtyL.length 3 (fun i => .int .i64 (f i)))(hfb:∀ (i b:Nat),(basesL D)[i]? = some b→f i<b) :
  Calls Tryz.prog 43 #[.agg #[.slice (some ⟨pg,0,none⟩) (64*D.n) (64*D.n),lv,hv],.slice (some ⟨kb,0,none⟩) D.dirtyL.length D.dirtyL.length] w fun r w'=>∃ (ks:Nat→Nat) (s:ByteArray),((∀ l,ks l≤(D.hist l).length)∧∀ (i l:Nat),D.dirtyL[i]? = some l→ks l=f i)∧r = .returned (.agg #[.string s])∧ImgS s D.n (D.img ks)∧Below w.heap.size w w':=by
 have hn:=hw.le;have hn0:=hw.pos
 have HW:=Lib.hid hw;have HVB:=Lib.hid hvb;have HQ:=Lib.hid hq;have HFB:=Lib.hid hfb
 have HND:Hid (D.dirtyL.Nodup∧∀ l∈D.dirtyL,l<D.n):=Lib.hid ⟨List.Nodup.sublist List.filter_sublist List.nodup_range,fun l hl=>by
  have:=(List.mem_filter.1 hl).1;simpa using this⟩
 have HBA:=Lib.hid (bases_at D);have hdl:D.dirtyL.length≤D.n:=by unfold Dev.dirtyL;exact filt_len D D.n
 have H:=Lib.hid h;have HF:=Lib.hid hf
 have hh:=h.hist;have hl:=h.lines;obtain⟨m,hmm⟩:∃ m,D.dirtyL.length=m:=⟨_,rfl⟩;have HM:=Lib.hid hmm;rw[hmm]at hdl hh hl HF ⊢;obtain⟨_,ha,hc,rfl,hmc,_⟩:=hh;obtain⟨_,la,lc,rfl,_,_⟩:=hl;obtain⟨N,hN⟩:∃ N,64*D.n=N:=⟨_,rfl⟩;have HN:=Lib.hid hN;rw[hN];have hNb:N≤262144:=by omega
 have hmk:=fun(wx:World)=>mkBytes wx N (by omega)
 have HNEW:=Lib.hid (fun(wx:World) (g:Nat) (F:Nat→Int) (hr:Row wx g (64*D.n) 5 (fun i => .int .u8 (byteAt F i)))=>imNew_any (w:=wx) hr hn);rw[hN]at HNEW;have K2:Hid (Blk (((w.alloc (.cells #[.slice (some ⟨pg,0,none⟩) N N,.slice la m lc,.slice ha m hc] 95)).alloc (.cells #[.string ⟨#[]⟩] 46)).alloc (.cells (madeCells #[.int .u8 0] N) 5)) w.heap.size #[.slice (some ⟨pg,0,none⟩) N N,.slice la m lc,.slice ha m hc] 95):=((Blk.new w _ _).alloc _).alloc _;have K4:Hid (Blk (((w.alloc (.cells #[.slice (some ⟨pg,0,none⟩) N N,.slice la m lc,.slice ha m hc] 95)).alloc (.cells #[.string ⟨#[]⟩] 46)).alloc (.cells (madeCells #[.int .u8 0] N) 5)) (w.heap.size+1) #[.string ⟨#[]⟩] 46):=by
  have:=(Blk.new (w.alloc (.cells #[.slice (some ⟨pg,0,none⟩) N N,.slice la m lc,.slice ha m hc] 95)) #[.string ⟨#[]⟩] 46).alloc (.cells (madeCells #[.int .u8 0] N) 5);rw[World.size_alloc]at this;exact this
 have B3:Hid (Below w.heap.size w (((w.alloc (.cells #[.slice (some ⟨pg,0,none⟩) N N,.slice la m lc,.slice ha m hc] 95)).alloc (.cells #[.string ⟨#[]⟩] 46)).alloc (.cells (madeCells #[.int .u8 0] N) 5))):=(below_twice w _ _).trans ((below_alloc _ _).mono (by simp;omega));have hgz:Blk (((w.alloc (.cells #[.slice (some ⟨pg,0,none⟩) N N,.slice la m lc,.slice ha m hc] 95)).alloc (.cells #[.string ⟨#[]⟩] 46)).alloc (.cells (madeCells #[.int .u8 0] N) 5)) (w.heap.size+1+1) (madeCells #[.int .u8 0] N) 5:=by
  have:=Blk.new ((w.alloc (.cells #[.slice (some ⟨pg,0,none⟩) N N,.slice la m lc,.slice ha m hc] 95)).alloc (.cells #[.string ⟨#[]⟩] 46)) (madeCells #[.int .u8 0] N) 5;simp only[World.size_alloc]at this;exact this
 have hpr:Row (((w.alloc (.cells #[.slice (some ⟨pg,0,none⟩) N N,.slice la m lc,.slice ha m hc] 95)).alloc (.cells #[.string ⟨#[]⟩] 46)).alloc (.cells (madeCells #[.int .u8 0] N) 5)) pg N 5 (fun i => .int .u8 (byteAt D.pers i)):=by
  have:=h.pers.below B3.out
  rwa [hN]at this
 obtain⟨wb,hcp,hrow,hup⟩:=copy_row8 hgz (by simp[madeCells]) hpr;have KB:=Lib.hid (K2.out.upd hup (fun e=>by have e':w.heap.size=w.heap.size+1+1:=e;omega));have KI:=Lib.hid (K4.out.upd hup (fun e=>by have e':w.heap.size+1=w.heap.size+1+1:=e;omega));have BW:Hid (Below w.heap.size w wb):=B3.out.trans ⟨hup.os,hup.tape,hup.output,hup.size,fun k hk=>hup.block k (by have:=B3.out.size;omega) (fun e=>by have e':k=w.heap.size+1+1:=e;omega)⟩;have RW:=Lib.hid hrow;have cb2:=KB.out.cell (i:=2) (v:=.slice ha m hc) rfl;have hglt:w.heap.size+1+1<wb.heap.size:=hrow.lt;clear h hw hvb hq hfb hf hmm hN hgz hpr hrow hup K2 K4
 go_enter Tryz.func43,Tryz.ntmps43
 go_wp2_with fail
 clear hcp;obtain⟨g,hg⟩:∃ g,w.heap.size+1+1=g:=⟨_,rfl⟩;rw[hg]at RW hglt ⊢;have S0:Hid (∃ ks:Nat→Nat,(∀ l,ks l≤(D.hist l).length)∧(∀ l,l∉D.dirtyL.take 0→ks l=0)∧(∀ (i l:Nat),i<0→D.dirtyL[i]? = some l→ks l=f i)∧Row wb g N 5 (fun i => .int .u8 (byteAt (D.img ks) i))∧Upd (· = g) wb wb):=⟨fun _=>0,fun _=>Nat.zero_le _,fun _ _=>rfl,fun i l hi=>absurd hi (Nat.not_lt_zero i),RW.out.congr (fun i _=>by
  have e:D.img (fun _=>0)=D.pers:=by funext i;simp[Dev.img,look]
  rw[e]),Upd.refl _ _⟩
 clear hmk RW
 go_loopw [6,7,9,10,24] (fun _ _ _ _ y wr=>∃ k:Nat,k≤m∧y = .int .i64 k∧∃ ks:Nat→Nat,(∀ l,ks l≤(D.hist l).length)∧(∀ l,l∉D.dirtyL.take k→ks l=0)∧(∀ (i l:Nat),i<k→D.dirtyL[i]? = some l→ks l=f i)∧Row wr g N 5 (fun i => .int .u8 (byteAt (D.img ks) i))∧Upd (· = g) wb wr) (fun _ _ _ _ y _=>m-(intOf y).toNat)
 case atStart=>exact⟨0,by omega,rfl,S0.out⟩
 case round=>
  clear S0;obtain⟨k,hk,rfl,ks,k1,k2,k5,k3,k4⟩:=hrel;rename World=>wr
  have KS:=Lib.hid (And.intro k1 (And.intro k2 k5));have R:=Lib.hid k3;have U:=Lib.hid k4
  clear k1 k2 k3 k4 k5;have BR:Hid (Below w.heap.size w wr):=BW.out.trans ⟨U.out.os,U.out.tape,U.out.output,U.out.size,fun j hj=>U.out.block j (by have:=BW.out.size;omega) (fun e=>by have e':j=g:=e;omega)⟩
  by_cases hlt:k<m
  ·have hlt':(k:Int)<m:=by omega
   obtain⟨l,hl⟩:∃ l,D.dirtyL[k]? = some l:=⟨_,List.getElem?_eq_getElem (by rw[HM.out];exact hlt)⟩;have hln:=HND.out.2 l (List.mem_of_getElem? hl);have hq1:=HQ.out l (List.mem_of_getElem? hl);have hfk:=HFB.out k _ (HBA.out k l hl).2;obtain⟨u,r1,r2⟩:=H.out.row k l hl;have hhb:=H.out.hist.below BR.out;rw[HM.out]at hhb;obtain⟨_,_,_,e',_,hE⟩:=hhb
   cases e'
   obtain⟨hb,ho,rfl,hE2⟩:=rd_at hE r1;have c1:=hE2 k _ r1;obtain⟨ua,uc,rfl⟩:∃ ua uc,u = .slice ua (D.hist l).length uc:=by obtain⟨_,a,c,e,_,_⟩:=r2;exact⟨a,c,e⟩
   have R2:=Lib.hid r2;have hrcap:(D.hist l).length≤uc:=by obtain⟨_,_,_,e,hc,_⟩:=r2;cases e;exact hc
   have c2:=(HF.out.below BR.out).cell (i:=k) hlt;obtain⟨q,hqq⟩:∃ q,f k=q:=⟨_,rfl⟩;have HQQ:=Lib.hid hqq;rw[hqq]at c2 hfk;obtain⟨hL,hhL⟩:∃ hL,(D.hist l).length=hL:=⟨_,rfl⟩;have HHL:=Lib.hid hhL;have HLN:=Lib.hid (And.intro hl hln);rw[hhL]at hq1 hfk c1 hrcap;have hqc:(q:Int)≤uc:=by omega
   have hqc0:(0:Int)≤q:=by omega
   clear hE hE2 r1 r2 hl hqq hhL;have M0:Hid (Row wr g N 5 (fun i => .int .u8 (byteAt (applied ((D.hist l).take 0) (D.img ks)) i))∧Upd (· = g) wb wr):=⟨R.out,U.out⟩;go_wp2_with fail
   go_loopw [9,10,36] (fun _ _ y wq=>∃ j:Nat,j≤q∧y = .int .i64 j∧Row wq g N 5 (fun i => .int .u8 (byteAt (applied ((D.hist l).take j) (D.img ks)) i))∧Upd (· = g) wb wq) (fun _ _ y _=>q-(intOf y).toNat)
   case atStart=>exact⟨0,by omega,rfl,M0.out⟩
   case round=>
    clear M0 R U BR c1 c2;obtain⟨j,hj,rfl,m1,m2⟩:=hrel;rename World=>wq
    have R:=Lib.hid m1;have U:=Lib.hid m2
    clear m1 m2;have BQ:Hid (Below w.heap.size w wq):=BW.out.trans ⟨U.out.os,U.out.tape,U.out.output,U.out.size,fun j hj=>U.out.block j (by have:=BW.out.size;omega) (fun e=>by have e':j=g:=e;omega)⟩
    by_cases hjq:j<q
    ·have hjq':(j:Int)<q:=by omega
     obtain⟨e,he⟩:∃ e,(D.hist l)[j]? = some e:=⟨_,List.getElem?_eq_getElem (by rw[HHL.out];omega)⟩;have hmem:=List.mem_of_getElem? he;obtain⟨el,ea⟩:=HW.out.line l HLN.out.2 e hmem;have ev:=HVB.out.hist l e hmem;have hfg:=flat_get (D.hist l) j e he;have hrd:=R2.out.below BQ.out;obtain⟨_,_,_,e',_,hE⟩:=hrd
     cases e'
     obtain⟨sb,so,rfl,hE2⟩:=rd_at hE hfg.1;have c1:=hE2 _ _ hfg.1;have c2:=hE2 _ _ hfg.2
     rw[← Nat.add_assoc]at c2;rw[Nat.mul_comm 2 j]at c1 c2;have HT:Hid ((D.hist l).take (j+1)=(D.hist l).take j ++ [e]):=by show _=_;rw[List.take_add_one,he];rfl
     have hln:=HLN.out.2;have hNN:=HN.out;have hoff:e.1+8≤N:=by omega
     obtain⟨e1,e2⟩:=e;simp only at c1 c2 hoff ea ev;obtain⟨F,hF⟩:∃ F,applied ((D.hist l).take j) (D.img ks)=F:=⟨_,rfl⟩;have HFm:Hid (∀ i,mixB F e1 e2 8 i=byteAt (applied ((D.hist l).take (j+1)) (D.img ks)) i):=fun i=>by
      rw[HT.out,← hF];exact mixB_full _ (e1,e2) _ ea i
     rw[hF]at R;have hgq:g<wq.heap.size:=R.out.lt;have Z0:Hid (Row (wq.alloc (.cells #[.int .u64 e1,.int .u64 e2] 140)) g N 5 (fun i => .int .u8 (mixB F e1 e2 0 i))∧Upd (· = g) (wq.alloc (.cells #[.int .u64 e1,.int .u64 e2] 140)) (wq.alloc (.cells #[.int .u64 e1,.int .u64 e2] 140))):=
      ⟨(R.out.alloc _).congr (fun i _=>by rw[mixB_zero]),Upd.refl _ _⟩
     have XB:=Lib.hid (Blk.new wq #[.int .u64 e1,.int .u64 e2] 140);clear hE hE2 he hmem hfg hF HT R el ea hNN hln;go_wp2_with fail
     go_loopw [10,40] (fun _ y wz=>∃ b:Nat,b≤8∧y = .int .i64 b∧Row wz g N 5 (fun i => .int .u8 (mixB F e1 e2 b i))∧Upd (· = g) (wq.alloc (.cells #[.int .u64 e1,.int .u64 e2] 140)) wz) (fun _ y _=>8-(intOf y).toNat)
     case atStart=>exact⟨0,by omega,rfl,Z0.out⟩
     case round=>
      clear Z0 c1 c2;obtain⟨b,hb,rfl,m1,m2⟩:=hrel;rename World=>wz
      have R:=Lib.hid m1;have UZ:=Lib.hid m2
      clear m1 m2
      by_cases hb8:b<8
      ·have hb8':(b:Int)<8:=by omega
       have XZ:=Lib.hid (XB.out.upd UZ.out (fun e=>by have e':wq.heap.size=g:=e;omega));have d0:=XZ.out.cell (i:=0) (v:=.int .u64 e1) rfl;have d1:=XZ.out.cell (i:=1) (v:=.int .u64 e2) rfl;have d2:=R.out.cell (i:=e1+b) (by omega);have d3:=R.out.frozen (e1+b);have g1:IntKind.i64.wrap (e1:Int)=(e1:Int):=IntWalk.i64_in _ (by omega);have g2:IntKind.i64.wrap ((e1:Int)+(b:Int))=((e1+b:Nat):Int):=by rw[IntWalk.i64_in _ (by omega)];omega
       have g3:IntKind.i64.wrap (8*(b:Int))=((8*b:Nat):Int):=by rw[IntWalk.i64_in _ (by omega)];omega
       have g4:IntKind.u64.wrap ((8*b:Nat):Int)=((8*b:Nat):Int):=IntWalk.u64_in _ (by omega);have hgz:g<wz.heap.size:=R.out.lt;go_wp2_with fail
       refine⟨⟨b+1,by omega,by go_num,(R.out.set (e1+b) _).congr (fun i _ => ?_),UZ.out.setCell (fun _=>rfl) _⟩,by simp[intOf];omega⟩
       rw[← mixB_step,Nat.mul_comm b 8]
       split <;> rfl
      ·obtain rfl:b=8:=by omega
       rw[show((8:Nat):Int)=8 from rfl];have R3:Hid (Row wz g N 5 (fun i => .int .u8 (byteAt (applied ((D.hist l).take (j+1)) (D.img ks)) i))):=R.out.congr (fun i _=>by rw[HFm.out]);have U3:Hid (Upd (· = g) wb wz):=(U.out.alloc _).trans UZ.out (fun _ _ h=>h);go_wp2_with fail
       go_roundw
       case rel=>exact⟨j+1,by omega,by go_num,R3.out,U3.out⟩
       case measure=>simp[intOf];omega
    ·obtain rfl:j=q:=by omega
     have I2:Hid (∃ ks:Nat→Nat,(∀ l,ks l≤(D.hist l).length)∧(∀ l,l∉D.dirtyL.take (k+1)→ks l=0)∧(∀ (i l:Nat),i<k+1→D.dirtyL[i]? = some l→ks l=f i)∧Row wq g N 5 (fun i => .int .u8 (byteAt (D.img ks) i))∧Upd (· = g) wb wq):=by
      have hlt2:l∉D.dirtyL.take k:=fun hm=>by
       obtain⟨i,hi,e⟩:=List.mem_iff_getElem.1 hm;have hik:i<k:=by simp at hi;omega
       obtain⟨hkl,e2⟩:=List.getElem?_eq_some_iff.1 HLN.out.1;have e3:D.dirtyL[i]'(by omega)=D.dirtyL[k]:=by rw[e2,← e];simp
       exact List.pairwise_iff_getElem.1 HND.out.1 i k (by omega) hkl hik e3
      have ht:D.dirtyL.take (k+1)=D.dirtyL.take k ++ [l]:=by rw[List.take_add_one,HLN.out.1];rfl
      refine⟨fun m=>if m=l then j else ks m,fun m => ?_,fun m hm => ?_,fun i m hi hm => ?_,R.out.congr (fun i _=>by
       rw[show applied ((D.hist l).take j) (D.img ks)=D.img (fun m=>if m=l then j else ks m)from funext fun i=>img_step D HW.out ks l j HLN.out.2 (KS.out.2.1 l hlt2) i]),U.out⟩
      ·by_cases e:m=l
       ·simp only[if_pos e];rw[e,HHL.out];omega
       ·simp only[if_neg e];exact KS.out.1 m
      ·rw[ht]at hm
       have e:m≠l:=fun e=>hm (by simp[e])
       simp only[if_neg e];exact KS.out.2.1 m (fun h=>hm (by simp[h]))
      ·by_cases e:m=l
       ·simp only[if_pos e]
        have hik:i=k:=by
         obtain⟨a1,a2⟩:=List.getElem?_eq_some_iff.1 hm;obtain⟨b1,b2⟩:=List.getElem?_eq_some_iff.1 HLN.out.1;exact(List.getElem_inj HND.out.1).1 (a2.trans (e.trans b2.symm))
        rw[hik];exact HQQ.out.symm
       ·simp only[if_neg e]
        refine KS.out.2.2 i m ?_ hm
        have:i≠k:=fun h=>by
         rw[h,HLN.out.1]at hm;exact e (Option.some.inj hm).symm
        omega
     go_wp2_with fail
     go_roundw
     case rel=>exact⟨k+1,by omega,by go_num,I2.out⟩
     case measure=>simp[intOf];omega
  ·obtain rfl:k=m:=by omega
   have KIR:=Lib.hid (KI.out.upd U.out (fun e=>by have e':w.heap.size+1=g:=e;omega));have c4:=KIR.out.cell (i:=0) (v:=.string ⟨#[]⟩) rfl;have f4:=KIR.out.frozen 0;have hil:=KIR.out.lt;have HN2:=Lib.hid (HNEW.out wr g _ R.out);go_wp2_with fail
   (with_reducible refine HN2.out.mono ?_)
   rintro r w2 ⟨s,rfl,s1,s2⟩;have S:=Lib.hid s1;have B2:=Lib.hid (BR.out.trans (s2.mono BR.out.size));have KI2:=Lib.hid (KIR.out.below s2);have c5:=KI2.out.cell (i:=0) (v:=.string ⟨#[]⟩) rfl;have f5:=KI2.out.frozen 0;have hil2:=KI2.out.lt;clear s1 s2 c4 f4;go_wp2_with fail
   have KI3:Blk ((w2.setCell ⟨w.heap.size+1,0,none⟩ (.string s)).alloc (.cells #[.string s] 46)) (w.heap.size+1) #[.string s] 46:=(KI2.out.set 0 (.string s)).alloc _;have d0:=KI3.cell (i:=0) (v:=.string s) rfl;refine bodyPost_ret (v:=.agg #[.string s]) (by simp[results,Tryz.results43,go_sem,d0]) rfl ⟨ks,s,⟨KS.out.1,fun i l hl=>KS.out.2.2 i l (by have:=(List.getElem?_eq_some_iff.1 hl).1;rw[HM.out]at this;exact this) hl⟩,rfl,S.out,?_⟩
   exact(B2.out.setCell (p:=⟨w.heap.size+1,0,none⟩) (by show w.heap.size≤w.heap.size+1;omega) _).trans ((below_alloc _ _).mono (by simpa using B2.out.size))
def AtPostN(w:World)(D:Dev)(n:Nat)(r:Ending)(w':World):Prop:=∃ (ks:Nat→Nat) (s:ByteArray),((∀ l,ks l≤(D.hist l).length)∧∀ (i l:Nat),D.dirtyL[i]? = some l→ks l=digN (basesL D) n i)∧r = .returned (.tuple #[.agg #[.string s],.int .i64 0])∧ImgS s D.n (D.img ks)∧Below w.heap.size w w'
theorem csAtN_any(h:IsDev w v own D)(hvb:D.VB)(hx:D.exec<1000000000)(n:Nat)(hn:n<prodN (basesL D))(hp:prodN (basesL D)≤4611686018427387904)(hq:∀ l∈D.dirtyL,(D.hist l).length≤1000000000) :
  Calls Tryz.prog 14 #[.pointer (some ⟨v.db,0,none⟩),.int .u64 n] w (AtPostN w D n):=by
 have hdl:D.dirtyL.length≤1000000:=by
  have h1:D.dirtyL.length≤D.n:=by unfold Dev.dirtyL;exact filt_len D D.n
  have:=h.wf.le;omega
 have B0:=Lib.hid (below_alloc w (.cells #[.string ⟨#[]⟩] 46));have K0:=Lib.hid (Blk.new w #[.string ⟨#[]⟩] 46);have HE:=Lib.hid (examine_any (h.below B0.out) hvb (by omega));have HSP:=Lib.hid (fun(wx:World) (pg:Nat) (lv hv:Value) (hs:List Value) (hE:ExAt D pg lv hv hs wx)=>splitN_any (N:=64*D.n) hE n hn (by omega) hdl hq);have HIM:=Lib.hid (fun(wx:World) (pg:Nat) (lv hv:Value) (hs:List Value) (hE:ExAt D pg lv hv hs wx) (kb:Nat) (f:Nat→Nat) (hf:Row wx kb D.dirtyL.length 3 (fun i => .int .i64 (f i))) (hfb:∀ (i b:Nat),(basesL D)[i]? = some b→f i<b)=>csImage_any hE h.wf hvb hq kb f hf hfb);obtain⟨N,hN⟩:∃ N,64*D.n=N:=⟨_,rfl⟩;obtain⟨m,hm⟩:∃ m,D.dirtyL.length=m:=⟨_,rfl⟩;rw[hN]at HE HSP HIM;rw[hm]at HSP HIM;clear h hvb hx hq hdl hn hp hN hm
 go_enter Tryz.func14,Tryz.ntmps14
 go_wp2_with fail
 (with_reducible refine HE.out.mono ?_)
 rintro r w1 ⟨pg,lv,hv,hs,rfl,hE,b1⟩;obtain⟨la,l1,lc,rfl⟩:∃ la l1 lc,lv = .slice la l1 lc:=by obtain⟨_,a,c,e,_,_⟩:=hE.lines;exact⟨a,_,c,e⟩
 obtain⟨ha,h1,hc,rfl⟩:∃ ha h1 hc,hv = .slice ha h1 hc:=by obtain⟨_,a,c,e,_,_⟩:=hE.hist;exact⟨a,_,c,e⟩
 have E:=Lib.hid hE;have B1:=Lib.hid (B0.out.trans (b1.mono B0.out.size));have K1:=Lib.hid (K0.out.below b1);clear hE b1 HE B0 K0;have b2:=below_alloc w1 (.cells #[.slice (some ⟨pg,0,none⟩) N N,.slice la l1 lc,.slice ha h1 hc] 95);have X2:=Lib.hid (Blk.new w1 #[.slice (some ⟨pg,0,none⟩) N N,.slice la l1 lc,.slice ha h1 hc] 95);have B2:=Lib.hid (B1.out.trans (b2.mono B1.out.size));have K2:=Lib.hid (K1.out.below b2);have HS2:=Lib.hid (HSP.out _ _ _ _ _ (E.out.next b2));have E2:=Lib.hid (E.out.next b2);have x0:=X2.out.cell (i:=0) rfl;have x1:=X2.out.cell (i:=1) rfl;have x2:=X2.out.cell (i:=2) rfl;clear b2 HSP;go_wp2_with fail
 (with_reducible refine HS2.out.mono ?_)
 rintro r w3 ⟨kb,f,rfl,f1,f2,f3,b3⟩;have HDG:Hid (∀ (i b:Nat),(basesL D)[i]? = some b→f i=digN (basesL D) n i):=fun i b hb=>(f2 i b hb).2
 replace f2:∀ (i b:Nat),(basesL D)[i]? = some b→f i<b:=fun i b hb=>(f2 i b hb).1
 have B3:=Lib.hid (B2.out.trans (b3.mono B2.out.size));have K3:=Lib.hid (K2.out.below b3);have X3:=Lib.hid (X2.out.below b3);have HI3:=Lib.hid (HIM.out _ _ _ _ _ (E2.out.next b3) kb f f1 f2);have x0:=X3.out.cell (i:=0) rfl;have x1:=X3.out.cell (i:=1) rfl;have x2:=X3.out.cell (i:=2) rfl;clear f1 f2 f3 b3 HS2 HIM;go_wp2_with fail
 (with_reducible refine HI3.out.mono ?_)
 rintro r w4 ⟨ks,s,k1,rfl,k2,b4⟩;have B4:=Lib.hid (B3.out.trans (b4.mono B3.out.size));have K4:=Lib.hid (K3.out.below b4);have KS:=Lib.hid (And.intro k1 k2);have k3:=k1.2
 have c4:=K4.out.cell (i:=0) (v:=.string ⟨#[]⟩) rfl;have f4:=K4.out.frozen 0;have hl4:=K4.out.lt;have KN:Hid (∀ (i l:Nat),D.dirtyL[i]? = some l→ks l=digN (basesL D) n i):=fun i l hl=>by
  rw[k3 i l hl];exact HDG.out i _ (bases_at D i l hl).2
 clear k1 k2 k3 b4 HI3 x0 x1 x2;go_wp2_with fail
 have d0:=(K4.out.set 0 (.string s)).cell (i:=0) (v:=.string s) rfl;refine bodyPost_ret (v:=.tuple #[.agg #[.string s],.int .i64 0]) (by simp[results,Tryz.results14,go_sem,d0]) rfl ⟨ks,s,⟨KS.out.1.1,KN.out⟩,rfl,KS.out.2,?_⟩
 exact B4.out.setCell (p:=⟨w.heap.size,0,none⟩) (Nat.le_refl _) _
end
end

section
open Go.RowKit Go.Maps
attribute [local go_sem ↓] Go.wp_at_zero Go.wp_at_succ
section
variable{w:World}{v:DV}{own:Nat→Option Role}{D:Dev}{n:Nat}{f:Nat→Int}
theorem fresh_vb(n:Nat){f:Nat→Int}(hf:∀ i,0≤f i∧f i<18446744073709551616):(Dev.fresh n f).VB:=⟨hf,fun i e he=>by cases he⟩
theorem IsDev.words(h:IsDev w v own (Dev.fresh n f)){g:Nat→Int}(hg:∀ i,i<8*n→f i=g i):IsDev w v own (Dev.fresh n g):=
 ⟨⟨h.wf.pos,h.wf.le,h.wf.line,h.wf.cnt,h.wf.note,h.wf.left⟩,h.dev,h.pers.congr (fun i hi=>by show Value.int .u64 (f i) = .int .u64 (g i);rw[hg i hi]),h.cur.congr (fun i hi=>by
   have e1:(Dev.fresh n f).cur i=f i:=by simp[Dev.cur,Dev.fresh,look_nil]
   have e2:(Dev.fresh n g).cur i=g i:=by simp[Dev.cur,Dev.fresh,look_nil]
   rw[e1,e2,hg i hi]),h.lines,h.thr,h.notes,h.odb,h.opb,h.ocb,h.olb,h.otb,h.onb,h.lt,h.pcs⟩
def InPost(D:Dev)(L:Nat)(e:Bool)(r:Ending):Prop:=
 (L<prodN (basesL D)∧r = .returned (.tuple #[.int .u64 0,.bool false,.int .i64 9])) ∨
 (¬ L<prodN (basesL D)∧∃ i,badO D e=some i∧i<prodN (basesL D)∧r = .returned (.tuple #[.int .u64 i,.bool true,.int .i64 0])) ∨
 (¬ L<prodN (basesL D)∧badO D e=none∧r = .returned (.tuple #[.int .u64 0,.bool false,.int .i64 0]))
theorem goodF_img{D:Dev}{i:Nat}{ks:Nat→Nat}(hn:4≤D.n)(h:∀ j l:Nat,D.dirtyL[j]? = some l→ks l=digN (basesL D) i j)(e:Bool):goodF (D.img ks) e=goodF (imgN D i) e:=
 goodF_congr (fun j hj=>img_of h j (by omega)) e
theorem ncInc_any(h:IsDev w v own D)(hvb:D.VB)(hx:D.exec<1000000)(hn4:4≤D.n)(hp:prodN (basesL D)≤1152921504606846976)(a:Option Addr)(m c:Nat)(e:Bool)(L:Nat)(hL:L≤9223372036854775807) :
  Calls Tryz.prog 57 #[.iface 83 (.agg #[.slice a m c]),.pointer (some ⟨v.db,0,none⟩),.bool e,.int .i64 L] w fun r w'=>InPost D L e r∧Below w.heap.size w w':=by
 have hn:=h.wf.le;have hql:∀ l∈D.dirtyL,(D.hist l).length≤1000000000:=fun l hl=>by
  have hln:l<D.n:=by
   unfold Dev.dirtyL at hl;have:=(List.mem_filter.1 hl).1;simpa using this
  have:=h.wf.cnt l hln;omega
 have HC:=Lib.hid (count_any h hvb (by omega) (by omega) hql);have HAT:=Lib.hid (fun(wx:World) (hb:Below w.heap.size w wx) (i:Nat) (hi:i<prodN (basesL D))=>csAtN_any (h.kept hb.size (fun k hk=>hb.block k (h.lt k hk))) hvb (by omega) i hi (by omega) hql);have HDV:=Lib.hid (fun(wx:World) (s:ByteArray) (ks:Nat→Nat) (hs:ImgS s D.n (D.img ks))=>imDevice_any (w:=wx) hs h.wf.pos hn (fun i=>hvb.img ks i));have hmg:=meth_smGood (.slice a m c);have HGD:=Lib.hid (fun(wx:World) (v2:DV) (own2:Nat→Option Role) (F:Nat→Int) (hF:∀ i,0≤F i∧F i<18446744073709551616) (hd:IsDev wx v2 own2 (Dev.fresh D.n F))=>smGood_any hd (fresh_vb D.n hF) (by show 3≤D.n;omega) a m c e);have HGI:=Lib.hid (fun(i:Nat) (ks:Nat→Nat) (hk:∀ j l:Nat,D.dirtyL[j]? = some l→ks l=digN (basesL D) i j)=>goodF_img hn4 hk e);have HIB:=Lib.hid (fun ks i=>hvb.img ks i);have HBA:=Lib.hid (fun i h1 h2 h3=>badO_at (D:=D) (e:=e) (i:=i) h1 h2 h3);have HBN:=Lib.hid (fun h1=>badO_no (D:=D) (e:=e) h1);unfold InPost;obtain⟨P,hP⟩:∃ P,prodN (basesL D)=P:=⟨_,rfl⟩;rw[hP]at HC HAT HBA HBN hp ⊢;have gL:IntKind.u64.wrap (L:Int)=(L:Int):=IntWalk.u64_in _ (by omega);clear h hvb hql hP
 go_enter Tryz.func57,Tryz.ntmps57
 go_wp2_with fail
 (with_reducible refine HC.out.mono ?_)
 rintro r w1 ⟨rfl,b1⟩;have B1:=Lib.hid b1;clear b1 HC
 by_cases hLP:L<P
 ·have hLP':(L:Int)<(P:Int):=by omega
  go_wp2_with fail
  go_ret3
  exact⟨.inl ⟨hLP,rfl⟩,B1.out⟩
 ·have hLP':¬ (L:Int)<(P:Int):=by omega
  go_wp2_with fail
  go_loopw [31] (fun y wy=>∃ i:Nat,i≤P∧y = .int .u64 i∧Below w.heap.size w wy∧∀ j,j<i→goodF (imgN D j) e=true) (fun y _=>P-(intOf y).toNat)
  case atStart=>exact⟨0,by omega,rfl,B1.out,fun j hj=>absurd hj (Nat.not_lt_zero j)⟩
  case round=>
   obtain⟨i,hi,rfl,hby,hgd⟩:=hrel;rename World=>wy
   have BY:=Lib.hid hby;have GD:=Lib.hid hgd
   clear hby hgd
   by_cases hiP:i<P
   ·have hiP':(i:Int)<(P:Int):=by omega
    have HAT1:=Lib.hid (HAT.out wy BY.out i hiP);go_wp2_with fail
    (with_reducible refine HAT1.out.mono ?_)
    rintro r w3 ⟨ks,s,k1,rfl,k2,b3⟩;have K1:=Lib.hid k1.2;have K2:=Lib.hid k2
    have B3:=Lib.hid (BY.out.trans (b3.mono BY.out.size));clear k1 k2 b3 HAT1;have HDV1:=Lib.hid (fun o=>HDV.out (w3.alloc o) s ks K2.out);go_wp2_with fail
    (with_reducible refine(HDV1.out _).mono ?_)
    rintro r w4 ⟨v2,own2,rfl,⟨F,hF,d2⟩,o2,b4⟩;have D2:=Lib.hid (d2.words hF);have B4:=Lib.hid (B3.out.trans ((below_alloc w3 (.cells #[.string s] 46)).mono B3.out.size |>.trans (b4.mono (by simp;exact Nat.le_succ_of_le B3.out.size))));clear hF d2 o2 b4 HDV1;have HGD1:=Lib.hid (HGD.out w4 v2 own2 (D.img ks) (fun i=>HIB.out ks i) D2.out);have HGE:=Lib.hid (HGI.out i ks K1.out);obtain⟨gv,hgv⟩:∃ gv,goodF (imgN D i) e=gv:=⟨_,rfl⟩;have HGV:=Lib.hid hgv;have HGE2:Hid (goodF (Dev.fresh D.n (D.img ks)).pers e=gv):=Lib.hid (HGE.out.trans hgv);rw[HGE2.out]at HGD1;clear hgv;go_wp2_with fail
    (with_reducible refine HGD1.out.mono ?_)
    rintro r w5 ⟨rfl,b5⟩;have B5:=Lib.hid (B4.out.trans (b5.mono B4.out.size));clear b5
    cases gv
    ·have e1:=HBA.out i hiP HGV.out GD.out
     go_wp2_with fail
     go_ret3
     exact⟨.inr (.inl ⟨hLP,i,e1,hiP,rfl⟩),B5.out⟩
    ·go_wp2_with fail
     go_roundw
     case rel=>exact⟨i+1,by omega,by go_num,B5.out,fun j hj=>by
      rcases Nat.lt_or_ge j i with h1 | h1
      ·exact GD.out j h1
      ·obtain rfl:j=i:=by omega
       exact HGV.out⟩
     case measure=>simp[intOf];omega
   ·obtain rfl:i=P:=by omega
    have hbn:=HBN.out GD.out;go_wp2_with fail
    go_ret3
    exact⟨.inr (.inr ⟨hLP,hbn,rfl⟩),BY.out⟩
end
end
end Go.Proofs.YtlhchkajjpefmaaGreatDoor
