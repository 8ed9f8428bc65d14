/- The walks of the reference's device: New, Is, may, counted, put, Store. -/
import Derived.Test.YtahpadhejjlpoaaGreatDoorR3M
import Derived.Test.YtahpadhejjlpoaaGreatDoorDevG
namespace Go.Proofs.YtahpadhejjlpoaaGreatDoor
open Go.RowKit
attribute [local go_sem ↓] Go.wp_at_zero Go.wp_at_succ

section
variable {w : World} {D : Dev} {rb lb : Nat} {hv : Nat → Value} {nv : Value} {ns : List (Nat × Nat)}
theorem fresh_up (n : Nat) (h0 : 0 < n) (hn : n ≤ 4096) : (Dev.fresh n (fun _ => 0)).Up :=
  ⟨rfl, rfl, ⟨h0, hn, fun i _ e he => absurd he (by simp [Dev.fresh]), fun i _ => by simp [Dev.fresh], fun j l p h => absurd h (by simp [Dev.fresh]), by simp [Dev.fresh]⟩, ⟨fun i => by simp [Dev.fresh], fun i e he => absurd he (by simp [Dev.fresh])⟩⟩
end
end Go.Proofs.YtahpadhejjlpoaaGreatDoor
