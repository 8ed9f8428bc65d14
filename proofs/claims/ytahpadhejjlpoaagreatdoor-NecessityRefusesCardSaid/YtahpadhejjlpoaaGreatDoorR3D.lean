/- The walks of the reference's device: Flush. -/
import Derived.Test.YtahpadhejjlpoaaGreatDoorR3C
import Derived.Deep.RegionLaw
namespace Go.Proofs.YtahpadhejjlpoaaGreatDoor
open Go.RowKit
attribute [local go_sem ↓] Go.wp_at_zero Go.wp_at_succ

section
variable {w : World} {D : Dev} {rb lb : Nat} {hv : Nat → Value} {nv : Value} {ns : List (Nat × Nat)}
/-- The notes without those of line l. -/
def nsF (ns : List (Nat × Nat)) (l : Nat) : List (Nat × Nat) := ns.filter fun e => decide (e.1 ≠ l)
theorem nsF_len (ns : List (Nat × Nat)) (l : Nat) : (nsF ns l).length ≤ ns.length := List.length_filter_le _ _
theorem nsF_snoc (ns : List (Nat × Nat)) (l : Nat) (e : Nat × Nat) : nsF (ns ++ [e]) l = nsF ns l ++ (if e.1 = l then [] else [e]) := by
  unfold nsF
  rw [List.filter_append]
  by_cases h : e.1 = l <;> simp [h]
theorem jot_ok (h : ∀ l p, D.note 0 l = some p ↔ (l, p) ∈ ns) (l : Nat) (m p : Nat) : (D.jot 0 l).note 0 m = some p ↔ (m, p) ∈ nsF ns l ++ [(l, D.done l + (D.hist l).length)] := by
  unfold nsF
  simp only [Dev.jot, true_and, List.mem_append, List.mem_filter, List.mem_singleton, Prod.mk.injEq, decide_eq_true_eq]
  by_cases e : m = l
  · subst e
    rw [if_pos rfl]
    constructor
    · intro h1; cases h1; exact .inr ⟨rfl, rfl⟩
    · rintro (h1 | h1)
      · exact absurd rfl h1.2
      · rw [h1.2]
  · rw [if_neg e, h m p]
    constructor
    · intro h1; exact .inl ⟨h1, e⟩
    · rintro (h1 | h1)
      · exact h1.1
      · exact absurd h1.1 e
theorem jot_nd (h : (ns.map (·.1)).Nodup) (l p : Nat) : ((nsF ns l ++ [(l, p)]).map (·.1)).Nodup := by
  rw [List.map_append, List.map_cons, List.map_nil, List.nodup_append]
  refine ⟨(List.Sublist.map _ List.filter_sublist).nodup h, by simp, fun a ha b hb => ?_⟩
  rw [List.mem_singleton] at hb
  subst hb
  obtain ⟨e, he, rfl⟩ := List.mem_map.1 ha
  have := (List.mem_filter.1 he).2
  simpa using this
theorem below_two (w : World) (o o' : Obj) : Below w.heap.size w ((w.alloc o).alloc o') := ((Below.refl _ _).alloc (Nat.le_refl _) _).alloc (by simp) _
end
end Go.Proofs.YtahpadhejjlpoaaGreatDoor
