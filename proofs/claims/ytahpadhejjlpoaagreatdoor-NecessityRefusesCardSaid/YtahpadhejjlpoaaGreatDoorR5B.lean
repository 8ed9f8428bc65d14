/- The walks of the reference's At and Image. -/
import Derived.Test.YtahpadhejjlpoaaGreatDoorR5A
namespace Go.Proofs.YtahpadhejjlpoaaGreatDoor
open Go.RowKit
attribute [local go_sem ↓] Go.wp_at_zero Go.wp_at_succ

section
variable {w : World} {D : Dev} {rb lb : Nat} {hv : Nat → Value} {nv : Value} {ns : List (Nat × Nat)}
theorem below_alloc_drew' (w : World) (o : Obj) : Below w.heap.size w (w.drew.alloc o) := ((Below.refl _ _).drew).alloc (Nat.le_refl _) _
theorem dirty_idxOf (D : Dev) {i l : Nat} (h : D.dirtyL[i]? = some l) : D.dirtyL.idxOf l = i := by
  obtain ⟨hlt, e⟩ := List.getElem?_eq_some_iff.1 h
  rw [← e]
  exact (dirty_nodup D).idxOf_getElem i hlt
theorem natsI_len (l : List Nat) : (natsI l).length = l.length := by simp [natsI]
theorem row_natsI {g n : Nat} {f : Nat → Nat} (h : Row w g n 3 (fun i => .int .i64 (f i))) : RdSl w 1 (.slice (some ⟨g, 0, none⟩) n n) n (natsI ((List.range n).map f)) := by
  refine ⟨by simp [natsI], _, _, rfl, Nat.le_refl _, .inr ⟨g, 0, rfl, fun j u hu => ?_⟩⟩
  have hj : j < n := by
    rcases Nat.lt_or_ge j n with h | h
    · exact h
    · rw [List.getElem?_eq_none (by simpa [natsI] using h)] at hu; cases hu
  rw [Nat.zero_add, h.cell hj]
  simp [natsI, hj] at hu
  rw [hu]
theorem chD_at (D : Dev) {cs : List Int} {i l : Nat} {x : Int} (h : cs[i % cs.length]? = some x) : chD D cs i l = (x % (((D.hist l).length : Int) + 1)).toNat := by
  unfold chD
  rw [List.getD_eq_getElem?_getD, h]
  rfl
theorem chD_nil (D : Dev) (i l : Nat) : chD D [] i l = 0 := by simp [chD]
theorem chD_le (D : Dev) (cs : List Int) (i l : Nat) : chD D cs i l ≤ (D.hist l).length := by
  unfold chD
  have h1 := Int.emod_nonneg (cs.getD (i % cs.length) 0) (show ((D.hist l).length : Int) + 1 ≠ 0 by omega)
  have h2 := Int.emod_lt_of_pos (cs.getD (i % cs.length) 0) (show (0 : Int) < ((D.hist l).length : Int) + 1 by omega)
  omega
/-- The prefixes that a choice gives. -/
def chK (D : Dev) (cs : List Int) (l : Nat) : Nat := chD D cs (D.dirtyL.idxOf l) l
def chL (D : Dev) (cs : List Int) (k : Nat) : List Nat := (List.range k).map fun i => chD D cs i (D.dirtyL.getD i 0)
theorem chL_succ (D : Dev) (cs : List Int) {k l : Nat} (h : D.dirtyL[k]? = some l) : chL D cs (k + 1) = chL D cs k ++ [chD D cs k l] := by
  unfold chL
  rw [List.range_succ, List.map_append, List.map_cons, List.map_nil, List.getD_eq_getElem?_getD, h]
  rfl
theorem chL_len (D : Dev) (cs : List Int) (k : Nat) : (chL D cs k).length = k := by simp [chL]
end
end Go.Proofs.YtahpadhejjlpoaaGreatDoor
