/- The walks of the reference's device: put, Store. -/
import Derived.Test.YtahpadhejjlpoaaGreatDoorR3A
namespace Go.Proofs.YtahpadhejjlpoaaGreatDoor
open Go.RowKit
attribute [local go_sem ↓] Go.wp_at_zero Go.wp_at_succ

section
variable {w : World} {D : Dev} {rb lb : Nat} {hv : Nat → Value} {nv : Value} {ns : List (Nat × Nat)}
theorem acc_empty (w : World) (e : TypeId) (size : Nat) : Acc w w.heap.size (w.alloc (.cells #[] e)) e size (.slice (some ⟨w.heap.size, 0, none⟩) 0 0) 0 [] :=
  ⟨by have := OwnSl.new w #[] e size 0 0 (by simp) (Nat.le_refl _) (Nat.zero_le _); simpa using this, fun g hg => by simp [Value.ownBlock] at hg; omega, below_alloc w _, by simp⟩
theorem upd_set {w1 : World} {rb lb : Nat} (h : Below w.heap.size w w1) (a : Addr) (ha : Two rb lb a.block) (u : Value) : Upd (Two rb lb) w (w1.setCell a u) :=
  (Upd.of_below h).setCell (fun _ => ha) u
end
end Go.Proofs.YtahpadhejjlpoaaGreatDoor
