/- The walks of the reference's device: Dirty, Content. -/
import Derived.Test.YtahpadhejjlpoaaGreatDoorR3E
import Derived.Test.YtahpadhejjlpoaaGreatDoorNecM
namespace Go.Proofs.YtahpadhejjlpoaaGreatDoor
open Go.RowKit
attribute [local go_sem ↓] Go.wp_at_zero Go.wp_at_succ

/-- The first p bytes of some words. -/
def bytesL (F : Nat → Int) (p : Nat) : List Value := (List.range p).map fun i => .int .u8 (byteAt F i)
theorem bytesL_succ (F : Nat → Int) (p : Nat) : bytesL F (p + 1) = bytesL F p ++ [.int .u8 (byteAt F p)] := by simp [bytesL, List.range_succ]
theorem byte_of (F : Nat → Int) (k j b : Nat) (_hj : j < 8) (hb : b < 8) : F (8 * k + j) / 256 ^ b % 256 = byteAt F (64 * k + 8 * j + b) := by
  unfold byteAt
  rw [show (64 * k + 8 * j + b) / 8 = 8 * k + j by omega, show (64 * k + 8 * j + b) % 8 = b by omega, Nat.mul_comm b 8, Int.pow_mul]
  rfl
section
variable {w : World} {D : Dev} {rb lb : Nat} {hv : Nat → Value} {nv : Value} {ns : List (Nat × Nat)}
end
end Go.Proofs.YtahpadhejjlpoaaGreatDoor
