/- The walks of the reference's bases, Count, Digits, At and Image. -/
import Derived.Test.YtahpadhejjlpoaaGreatDoorR3G
import Derived.Test.YtahpadhejjlpoaaGreatDoorDevK
import Derived.Test.YtahpadhejjlpoaaGreatDoorCsD
namespace Go.Proofs.YtahpadhejjlpoaaGreatDoor
open Go.RowKit
attribute [local go_sem ↓] Go.wp_at_zero Go.wp_at_succ

def natsU (l : List Nat) : List Value := l.map fun (s : Nat) => Value.int .u64 s
section
variable {w : World} {D : Dev} {rb lb : Nat} {hv : Nat → Value} {nv : Value} {ns : List (Nat × Nat)}
theorem dirty_lt (D : Dev) {i l : Nat} (h : D.dirtyL[i]? = some l) : l < D.n := by
  have := List.mem_of_getElem? h
  unfold Dev.dirtyL at this
  have := (List.mem_filter.1 this).1
  simpa using this
theorem natsU_one (x : Int) : ∀ u ∈ (#[Value.int .u64 x] : Array Value).toList, u.oneCell' = true := by intro u hu; simp at hu; subst hu; rfl
end
end Go.Proofs.YtahpadhejjlpoaaGreatDoor
