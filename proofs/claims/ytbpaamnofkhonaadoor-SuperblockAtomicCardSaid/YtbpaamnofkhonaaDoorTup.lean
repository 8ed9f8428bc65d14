/- Two and three slices that a call collects; small facts. -/
import Derived.Test.YtbpaamnofkhonaaDoorAcc
namespace Go.Proofs.YtbpaamnofkhonaaDoor
open Go.RowKit

/-- Two slices of any kinds that a call collects, in blocks of their own. -/
structure Pair (w : World) (B : Nat) (wr : World) (e1 : TypeId) (s1 : Nat) (k : Value) (n1 : Nat) (ks : List Value) (e2 : TypeId) (s2 : Nat) (v : Value) (n2 : Nat) (vs : List Value) : Prop where
  a : Acc w B wr e1 s1 k n1 ks
  b : Acc w B wr e2 s2 v n2 vs
  ne : ∀ g, k.ownBlock = some g → v.ownBlock ≠ some g
section
variable {w : World} {B : Nat} {wr wz w1 : World} {k v k' : Value} {ks vs news : List Value} {q e1 e2 s1 s2 n1 n2 m : Nat}
theorem Pair.swap (h : Pair w B wr e1 s1 k n1 ks e2 s2 v n2 vs) : Pair w B wr e2 s2 v n2 vs e1 s1 k n1 ks := ⟨h.b, h.a, fun g h1 h2 => h.ne g h2 h1⟩
theorem Pair.keep (h : Pair w B wr e1 s1 k n1 ks e2 s2 v n2 vs) (hz : Below wr.heap.size wr wz) : Pair w B wz e1 s1 k n1 ks e2 s2 v n2 vs := ⟨h.a.keep hz, h.b.keep hz, h.ne⟩
theorem Pair.left (h : Pair w B wr e1 s1 k n1 ks e2 s2 v n2 vs) (hz : Below wr.heap.size wr wz) (o1 : OwnSl w1 e1 s1 k' (n1 + m) (ks ++ news)) (g1 : wz.grownBy w1 k.ownBlock)
    (b1 : slAddr k' = slAddr k ∨ slAddr k' = some ⟨q, 0, none⟩) (hq : wr.heap.size ≤ q) : Pair w B w1 e1 s1 k' (n1 + m) (ks ++ news) e2 s2 v n2 vs := by
  have hb : ∀ g, v.ownBlock = some g → w1.heap[g]? = wr.heap[g]? := fun g hg => by
    have hlt := h.b.own.lt g hg
    rw [g1.block g (Nat.lt_of_lt_of_le hlt hz.size) (fun e => h.ne g e.symm hg)]
    exact hz.block g hlt
  have A1 := h.a.next hz o1 g1 b1 hq
  refine ⟨A1, ⟨h.b.own.kept hb, h.b.new, A1.bel, A1.lt⟩, fun g hg hg2 => ?_⟩
  rcases b1 with b1 | b1
  · rw [ownBlock_addr, b1, ← ownBlock_addr] at hg; exact h.ne g hg hg2
  · rw [ownBlock_addr, b1] at hg; cases hg; have := h.b.own.lt q hg2; omega
end

/-- Three slices that a call collects, in blocks of their own. -/
structure Trip (w : World) (B : Nat) (wr : World) (e1 : TypeId) (s1 : Nat) (a : Value) (n1 : Nat) (al : List Value) (e2 : TypeId) (s2 : Nat) (b : Value) (n2 : Nat) (bl : List Value)
    (e3 : TypeId) (s3 : Nat) (c : Value) (n3 : Nat) (cl : List Value) : Prop where
  ab : Pair w B wr e1 s1 a n1 al e2 s2 b n2 bl
  ac : Pair w B wr e1 s1 a n1 al e3 s3 c n3 cl
  bc : ∀ g, b.ownBlock = some g → c.ownBlock ≠ some g
section
variable {w : World} {B : Nat} {wr wz w1 : World} {a b c a' : Value} {al bl cl news : List Value} {q e1 e2 e3 s1 s2 s3 n1 n2 n3 m : Nat}
theorem Trip.swap (h : Trip w B wr e1 s1 a n1 al e2 s2 b n2 bl e3 s3 c n3 cl) : Trip w B wr e2 s2 b n2 bl e1 s1 a n1 al e3 s3 c n3 cl := ⟨h.ab.swap, ⟨h.ab.b, h.ac.b, h.bc⟩, h.ac.ne⟩
theorem Trip.keep (h : Trip w B wr e1 s1 a n1 al e2 s2 b n2 bl e3 s3 c n3 cl) (hz : Below wr.heap.size wr wz) : Trip w B wz e1 s1 a n1 al e2 s2 b n2 bl e3 s3 c n3 cl := ⟨h.ab.keep hz, h.ac.keep hz, h.bc⟩
theorem Trip.left (h : Trip w B wr e1 s1 a n1 al e2 s2 b n2 bl e3 s3 c n3 cl) (hz : Below wr.heap.size wr wz) (o1 : OwnSl w1 e1 s1 a' (n1 + m) (al ++ news)) (g1 : wz.grownBy w1 a.ownBlock)
    (b1 : slAddr a' = slAddr a ∨ slAddr a' = some ⟨q, 0, none⟩) (hq : wr.heap.size ≤ q) : Trip w B w1 e1 s1 a' (n1 + m) (al ++ news) e2 s2 b n2 bl e3 s3 c n3 cl :=
  ⟨h.ab.left hz o1 g1 b1 hq, h.ac.left hz o1 g1 b1 hq, h.bc⟩
/-- A slice that was collected later lies elsewhere. -/
theorem Pair.of {w wr : World} {B : Nat} {e1 s1 n1 e2 s2 n2 : Nat} {a b : Value} {al bl : List Value} {w3 : World} (h : Acc w B w3 e1 s1 a n1 al) (k : Acc w3 w3.heap.size wr e2 s2 b n2 bl) : Pair w B wr e1 s1 a n1 al e2 s2 b n2 bl :=
  ⟨h.keep k.bel, ⟨k.own, fun g hg => Nat.le_trans h.lt (k.new g hg), h.bel.trans (k.bel.mono h.lt), Nat.le_trans h.lt k.lt⟩, fun g h1 h2 => by have := h.own.lt g h1; have := k.new g h2; omega⟩
end
theorem kept_cell {wr wz w1 : World} {k : Value} {g : Nat} (hz : Below wr.heap.size wr wz) (g1 : wz.grownBy w1 k.ownBlock) (hg : g < wr.heap.size) (hne : k.ownBlock ≠ some g) (o : Nat) : w1.cell? ⟨g, o, none⟩ = wr.cell? ⟨g, o, none⟩ :=
  World.cell?_of_block (w := wr) (a := ⟨g, o, none⟩) ((g1.block g (Nat.lt_of_lt_of_le hg hz.size) (fun e => hne e.symm)).trans (hz.block g hg))
theorem quiet_eq {P : Program} {f : FuncId} {args : Array Value} {w : World} {n : Nat} {v : Value} (h : Calls P f args (w.drewN n) fun e w' => e = .returned v ∧ w.drewN n = w') :
    Calls P f args (w.drewN n) fun e w'' => e = .returned v ∧ ∃ m, w'' = w.drewN m := h.mono fun _ _ ⟨he, hm⟩ => ⟨he, n, hm.symm⟩
theorem one_int (k : IntKind) (x : Int) : ∀ u ∈ (#[Value.int k x] : Array Value).toList, u.oneCell' = true := by
  intro u hu; simp at hu; subst hu; rfl
end Go.Proofs.YtbpaamnofkhonaaDoor
