/- Plain: a commit of at most three writes that is cut: few stores are pending. No program in sight. -/
import Derived.Test.YtdidpppjkbgccaaDoorCsG
import Derived.Test.YtdidpppjkbgccaaDoorRdoM
namespace Go.Proofs.YtdidpppjkbgccaaDoor
open Go.RowKit

theorem few_of {E : Dev} {C : Nat → Int} {ws : List (Nat × Int)} (h : Hst E C ws) (hl : ws.length ≤ 6) : prodN (basesL E) ≤ 256 ∧ ∀ l, (E.hist l).length ≤ 6 := by
  have e : ∀ l, E.hist l = filtL ws l := fun l => h.hist l
  refine ⟨Nat.le_trans (bases_le e) (Nat.le_trans (Nat.pow_le_pow_right (by omega) hl) (by decide)), fun l => ?_⟩
  rw [e]
  exact Nat.le_trans (List.length_filter_le _ _) hl
/-- Behind a commit of at most three writes, wherever the power fails, few stores are pending. -/
theorem RCl.commit_few {D : Dev} {C : Nat → Int} {x : Nat} (h : RCl D C x) {W : List (Nat × Int)} (hW : WOk W) (h3 : W.length ≤ 3) : prodN (basesL (D.run 0 (rPlanP 320 W))) ≤ 256 ∧ ∀ l, ((D.run 0 (rPlanP 320 W)).hist l).length ≤ 6 := by
  rw [rPlan_groups]
  rcases run_came h.grp hW.plan with ⟨h1, _, _⟩ | ⟨_, _, _, a, ws, _, pre, hst, _, _⟩
  · exact few_of h1.hst (by simp)
  · refine few_of hst ?_
    obtain ⟨t, ht⟩ := pre
    have hlen := congrArg List.length ht
    rw [List.length_append] at hlen
    have hall : ∀ g ∈ rPlanGs 320 W, g.1.length ≤ 6 := fun g hg => by
      have hone : ∀ (vs : List (Nat × Int)), vs.length ≤ 6 → g ∈ storesGs vs → g.1.length ≤ 6 := fun vs hv hg => by
        unfold storesGs at hg
        split at hg
        · simp at hg
        · simp at hg; subst hg; exact hv
      unfold rPlanGs rFinGs at hg
      split at hg
      · simp at hg
      · simp only [List.mem_append] at hg
        rcases hg with (hg | hg) | (hg | hg)
        · exact hone _ (by rw [planWs_len]; omega) hg
        · exact hone _ (by simp) hg
        · exact hone _ (by omega) hg
        · exact hone _ (by simp) hg
    cases hg : (rPlanGs 320 W)[a]? with
    | none => rw [hg] at hlen; simp at hlen; omega
    | some g =>
      rw [hg] at hlen
      have := hall g (List.mem_of_getElem? hg)
      simp at hlen
      omega
end Go.Proofs.YtdidpppjkbgccaaDoor
