/- The walks of the reference's device: Fence. -/
import Derived.Test.YtahpadhejjlpoaaGreatDoorR3D
import Derived.Test.YtahpadhejjlpoaaGreatDoorDevA
namespace Go.Proofs.YtahpadhejjlpoaaGreatDoor
open Go.RowKit
attribute [local go_sem ↓] Go.wp_at_zero Go.wp_at_succ

section
variable {w : World} {D : Dev} {rb lb : Nat} {hv : Nat → Value} {nv : Value} {ns : List (Nat × Nat)}
/-- The lines whose notes are still to come. -/
def leftN (ns : List (Nat × Nat)) (k l : Nat) : Bool := ((ns.drop k).map (·.1)).contains l
theorem leftN_zero (h : ∀ l p, D.note 0 l = some p ↔ (l, p) ∈ ns) : D.part 0 (leftN ns 0) = D :=
  Dev.part_start D 0 _ (fun l hl => by
    cases hp : D.note 0 l with
    | none => rfl
    | some p =>
      have hm := (h l p).1 hp
      have : leftN ns 0 l = true := by
        unfold leftN
        rw [List.drop_zero, List.contains_iff_mem]
        exact List.mem_map.2 ⟨_, hm, rfl⟩
      rw [this] at hl
      cases hl)
theorem leftN_step {k : Nat} {e : Nat × Nat} (he : ns[k]? = some e) (hnd : (ns.map (·.1)).Nodup) : leftN ns k e.1 = true ∧ leftN ns (k + 1) = fun l => leftN ns k l && !(l == e.1) := by
  obtain ⟨hlt, hek⟩ := List.getElem?_eq_some_iff.1 he
  have hd : ns.drop k = e :: ns.drop (k + 1) := by rw [← hek]; exact List.drop_eq_getElem_cons hlt
  have hnd2 : ((ns.drop k).map (·.1)).Nodup := (List.Sublist.map _ (List.drop_sublist k ns)).nodup hnd
  rw [hd, List.map_cons, List.nodup_cons] at hnd2
  refine ⟨by unfold leftN; rw [hd]; simp, ?_⟩
  funext l
  unfold leftN
  rw [hd, List.map_cons, List.contains_cons]
  by_cases e1 : l = e.1
  · subst e1
    have : ((ns.drop (k + 1)).map (·.1)).contains e.1 = false := by
      rw [Bool.eq_false_iff]
      intro hc
      exact hnd2.1 (List.contains_iff_mem.1 hc)
    rw [this]
    simp
  · have h1 : (l == e.1) = false := by simpa using e1
    rw [h1]
    simp
theorem leftN_end (k : Nat) (hk : ns.length ≤ k) (l : Nat) : leftN ns k l = false := by
  unfold leftN
  rw [List.drop_of_length_le hk]
  rfl
theorem sync_up (h : D.Up) : (D.sync 0).Up := by
  refine ⟨h.off, h.armed, ⟨h.wf.pos, h.wf.le, fun i hi e he => h.wf.line i hi e (List.mem_of_mem_drop he), fun i hi => ?_, fun j m p hp => ?_, h.wf.left⟩, ⟨fun i => look_bd _ _ _ (h.vb.pers i) (fun e he => h.vb.hist _ e (List.mem_of_mem_take he)), fun i e he => h.vb.hist _ e (List.mem_of_mem_drop he)⟩⟩
  · have h1 := h.wf.cnt i hi
    show D.done i + D.owed 0 i + ((D.hist i).drop (D.owed 0 i)).length ≤ D.exec
    have h2 : D.owed 0 i ≤ (D.hist i).length := by
      unfold Dev.owed
      cases hp : D.note 0 i with
      | none => exact Nat.zero_le _
      | some p => have := (h.wf.note 0 i p hp).2; simp only; omega
    rw [List.length_drop]
    omega
  · simp only [Dev.sync] at hp
    split at hp
    · cases hp
    · obtain ⟨h1, h2⟩ := h.wf.note j m p hp
      refine ⟨h1, ?_⟩
      show p ≤ D.done m + D.owed 0 m + ((D.hist m).drop (D.owed 0 m)).length
      rw [List.length_drop]
      omega
end
end Go.Proofs.YtahpadhejjlpoaaGreatDoor
