/- A slice that a call collects. -/
import Derived.Test.YtbpaamnofkhonaaDoorSl
namespace Go.Proofs.YtbpaamnofkhonaaDoor
open Go.RowKit

/-- v owns the cells xs in a block from B on; below B nothing has changed since w. -/
structure Acc (w : World) (B : Nat) (wr : World) (e : TypeId) (size : Nat) (v : Value) (n : Nat) (xs : List Value) : Prop where
  own : OwnSl wr e size v n xs
  new : ∀ g, v.ownBlock = some g → B ≤ g
  bel : Below B w wr
  lt : B ≤ wr.heap.size

section
variable {w wr wz w1 : World} {B : Nat} {e : TypeId} {size n m q : Nat} {v v' : Value} {xs news : List Value}
theorem Acc.nil (w : World) (B : Nat) (wr : World) (e : TypeId) (size : Nat) (hb : Below B w wr) (hB : B ≤ wr.heap.size) : Acc w B wr e size (.slice none 0 0) 0 [] := ⟨OwnSl.nil _ _ _, fun g hg => by simp [Value.ownBlock] at hg, hb, hB⟩
theorem Acc.slice (h : Acc w B wr e size v n xs) : ∃ a c, v = .slice a n c := h.own.slice
theorem Acc.next (h : Acc w B wr e size v n xs) (hz : Below wr.heap.size wr wz) (o1 : OwnSl w1 e size v' (n + m) (xs ++ news)) (g1 : wz.grownBy w1 v.ownBlock)
    (b1 : slAddr v' = slAddr v ∨ slAddr v' = some ⟨q, 0, none⟩) (hq : wr.heap.size ≤ q) : Acc w B w1 e size v' (n + m) (xs ++ news) := by
  refine ⟨o1, fun g hg => ?_, ⟨g1.os.trans (hz.os.trans h.bel.os), g1.tape.trans (hz.tape.trans h.bel.tape), g1.output.trans (hz.output.trans h.bel.output), Nat.le_trans h.bel.size (Nat.le_trans hz.size g1.size), fun k hk => ?_⟩, Nat.le_trans h.lt (Nat.le_trans hz.size g1.size)⟩
  · rcases b1 with b1 | b1
    · rw [ownBlock_addr, b1, ← ownBlock_addr] at hg; exact h.new g hg
    · rw [ownBlock_addr, b1] at hg; cases hg; exact Nat.le_trans h.lt hq
  · have hkr : k < wr.heap.size := Nat.lt_of_lt_of_le hk h.lt
    rw [g1.block k (Nat.lt_of_lt_of_le hkr hz.size) (fun hk2 => by have := h.new k hk2.symm; omega), hz.block k hkr]
    exact h.bel.block k hk
theorem Acc.keep (h : Acc w B wr e size v n xs) (hz : Below wr.heap.size wr wz) : Acc w B wz e size v n xs :=
  ⟨h.own.kept (fun k hk => hz.block k (h.own.lt k hk)), h.new, h.bel.trans (hz.mono h.lt), Nat.le_trans h.lt hz.size⟩
theorem Acc.drew (h : Acc w B wr e size v n xs) : Acc w B wr.drew e size v n xs := ⟨h.own.drew, h.new, ⟨h.bel.os, h.bel.tape, h.bel.output, h.bel.size, h.bel.block⟩, h.lt⟩
theorem Acc.rd (h : Acc w B wr e size v n xs) : RdSl wr size v n xs := h.own.rd
theorem Acc.congr (h : Acc w B wr e size v n xs) {n' : Nat} {xs' : List Value} (hn : n = n') (hx : xs = xs') : Acc w B wr e size v n' xs' := by subst hn hx; exact h
end
end Go.Proofs.YtbpaamnofkhonaaDoor
