/- The walk of the reference's Content. -/
import Derived.Test.YtahpadhejjlpoaaGreatDoorR3F
namespace Go.Proofs.YtahpadhejjlpoaaGreatDoor
open Go.RowKit
attribute [local go_sem ↓] Go.wp_at_zero Go.wp_at_succ

/-- How many of the first k lines are dirty. -/
def cntD (D : Dev) (k : Nat) : Nat := ((List.range k).filter fun l => decide (0 < (D.hist l).length)).length
theorem cntD_succ (D : Dev) (k : Nat) : cntD D (k + 1) = cntD D k + (if 0 < (D.hist k).length then 1 else 0) := by
  unfold cntD
  rw [List.range_succ, List.filter_append, List.length_append]
  by_cases h : 0 < (D.hist k).length <;> simp [h]
theorem cntD_le (D : Dev) (k : Nat) : cntD D k ≤ k := filt_len D k
theorem dirty_idx (D : Dev) (k : Nat) (hk : k < D.n) (hd : 0 < (D.hist k).length) : D.dirtyL[cntD D k]? = some k := by
  have e : D.dirtyL = ((List.range k).filter fun l => decide (0 < (D.hist l).length)) ++ (k :: (List.range' (k + 1) (D.n - (k + 1))).filter fun l => decide (0 < (D.hist l).length)) := by
    unfold Dev.dirtyL
    have : List.range D.n = List.range k ++ (k :: List.range' (k + 1) (D.n - (k + 1))) := by
      obtain ⟨t, ht⟩ : ∃ t, D.n = k + (t + 1) := ⟨D.n - (k + 1), by omega⟩
      rw [ht, List.range_add, List.range_succ_eq_map, List.range'_eq_map_range, show k + (t + 1) - (k + 1) = t by omega]
      simp [List.map_map, Function.comp_def]
      intro a _
      omega
    rw [this, List.filter_append, List.filter_cons_of_pos (by simpa using hd)]
  rw [e]
  unfold cntD
  simp
theorem w8_congr {F G : Nat → Int} (h : ∀ j, j < 8 → F j = G j) : w8 F = w8 G := by
  unfold w8
  rw [h 0 (by omega), h 1 (by omega), h 2 (by omega), h 3 (by omega), h 4 (by omega), h 5 (by omega), h 6 (by omega), h 7 (by omega)]
section
variable {w : World} {D : Dev} {rb lb : Nat} {hv : Nat → Value} {nv : Value} {ns : List (Nat × Nat)}
theorem one_byte (x : Int) : ∀ u ∈ [Value.int .u8 x], u.oneCell' = true := by intro u hu; simp at hu; subst hu; rfl
end
end Go.Proofs.YtahpadhejjlpoaaGreatDoor
