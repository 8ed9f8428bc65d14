/- The redo log on the law's device: what a commit and a recovery leave, plain. No program in sight. -/
import Derived.Test.YtfigngoojphffaaDoorRdoP
import Derived.Test.YtfigngoojphffaaDoorDevG
namespace Go.Proofs.YtfigngoojphffaaDoor
open Go.RowKit

theorem valP_groups {gs : List Gr} (h : ∀ e ∈ gs.flatMap (·.1), 0 ≤ e.2 ∧ e.2 < 18446744073709551616) : valP (groupsP gs) := by
  intro e he h1
  obtain ⟨g, hg, he⟩ := List.mem_flatMap.1 he
  unfold groupP at he
  rcases List.mem_append.1 he with h2 | h2
  · rcases List.mem_append.1 h2 with h3 | h3
    · obtain ⟨x, hx, rfl⟩ := List.mem_map.1 h3
      exact h x (List.mem_flatMap.2 ⟨g, hg, hx⟩)
    · obtain ⟨x, hx, rfl⟩ := List.mem_map.1 h3; simp at h1
  · simp at h2; subst h2; simp at h1
theorem step_n (D : Dev) (j : Nat) (e : Nat × Nat × Int) : (D.step j e).n = D.n := by
  unfold Dev.step Dev.store Dev.flush Dev.fence Dev.countedD Dev.onD Dev.fail
  repeat' split
  all_goals rfl
theorem run_n (j : Nat) (l : List (Nat × Nat × Int)) : ∀ D : Dev, (D.run j l).n = D.n := by
  induction l with
  | nil => intro D; rfl
  | cons e l ih => intro D; exact (ih (D.step j e)).trans (step_n D j e)
section
variable {D : Dev} {C : Nat → Int} {x : Nat}
theorem RCl.mono {y : Nat} (h : RCl D C x) (hxy : x ≤ y) : RCl D C y := ⟨h.grp, h.vb, Nat.le_trans h.exec hxy⟩
theorem RCl.bd (h : RCl D C x) (i : Nat) : 0 ≤ C i ∧ C i < 18446744073709551616 := by rw [← h.cur]; exact h.vb.cur i
/-- A program of groups on a device that is not armed. -/
theorem RCl.go (h : RCl D C x) (ha : D.armed = false) {gs : List Gr} (hg : ∀ g ∈ gs, groupOk 40 g) (hv : valP (groupsP gs)) :
    RCl (D.run 0 (groupsP gs)) (fun i => look (gs.flatMap (·.1)) (C i) i) (x + (groupsP gs).length) ∧ (D.run 0 (groupsP gs)).armed = false := by
  have hx := D.run_exec 0 (groupsP gs)
  have := h.exec
  rcases run_came h.grp hg with ⟨h1, h2, _⟩ | ⟨_, _, _, _, _, _, _, _, h2, _⟩
  · have e : laidG C gs = fun i => look (gs.flatMap (·.1)) (C i) i := funext fun i => laidG_flat gs C i
    rw [e] at h1
    exact ⟨⟨h1, Dev.VB.run _ h.vb 0 hv, by omega⟩, by rw [h2]; exact ha⟩
  · rw [ha] at h2; cases h2
theorem WOk.finV {W : List (Nat × Int)} (hW : WOk W) : valP (groupsP (rFinGs 320 W)) := valP_groups (fun e he => by
  rw [flat_fin] at he
  rcases List.mem_append.1 he with he | he
  · exact hW.bd e he
  · simp at he; subst he; simp)
theorem planWs_val {W : List (Nat × Int)} : ∀ {b : Nat}, (∀ e ∈ W, e.1 < 18446744073709551616 ∧ 0 ≤ e.2 ∧ e.2 < 18446744073709551616) → ∀ e ∈ planWs b W, 0 ≤ e.2 ∧ e.2 < 18446744073709551616 := by
  induction W with
  | nil => intro b _ e he; simp [planWs] at he
  | cons y l ih =>
    intro b h e he
    have := h y (by simp)
    simp only [planWs, List.mem_cons] at he
    rcases he with rfl | rfl | he
    · simp only; omega
    · exact this.2
    · exact ih (fun z hz => h z (by simp [hz])) e he
theorem WOk.planV {W : List (Nat × Int)} (hW : WOk W) : valP (groupsP (rPlanGs 320 W)) := by
  by_cases h0 : W = []
  · unfold rPlanGs; rw [if_pos h0]; intro e he; simp [groupsP] at he
  · refine valP_groups (fun e he => ?_)
    rw [flat_plan h0] at he
    rcases List.mem_append.1 he with he | he
    · rcases List.mem_append.1 he with he | he
      · exact planWs_val (fun e he => ⟨by have := allow_out (hW.ok e he); omega, hW.bd e he⟩) e he
      · simp at he; subst he
        have := cmtN_bd hW.len
        simp only; omega
    · rcases List.mem_append.1 he with he | he
      · exact hW.bd e he
      · simp at he; subst he; simp
/-- The words behind a commit. -/
def cmtC (W : List (Nat × Int)) (C : Nat → Int) (i : Nat) : Int := if W = [] then C i else look (planWs 384 W ++ [(320, (cmtN W : Int))] ++ (W ++ [(320, 0)])) (C i) i
theorem cmtC_out {W : List (Nat × Int)} (hW : WOk W) (C : Nat → Int) (hC : C 40 = 0) : cmtC W C 40 = 0 ∧ ∀ i, (i < 40 ∨ 248 ≤ i) → cmtC W C i = look W (C i) i := by
  unfold cmtC
  by_cases h0 : W = []
  · subst h0; exact ⟨by rw [if_pos rfl]; exact hC, fun i _ => by rw [if_pos rfl]; rfl⟩
  · refine ⟨?_, fun i hi => ?_⟩
    · rw [if_neg h0, ← List.append_assoc, look_snoc, if_pos (show 320 / 8 = 40 from rfl)]
    · rw [if_neg h0, ← List.append_assoc, look_snoc, if_neg (by show ¬ 320 / 8 = i; omega), look_append, look_snoc, if_neg (by show ¬ 320 / 8 = i; omega), look_other (planWs 384 W) _ i (planE_no hW i (by omega))]
theorem flat_cmt (W : List (Nat × Int)) (C : Nat → Int) (i : Nat) : look ((rPlanGs 320 W).flatMap (·.1)) (C i) i = cmtC W C i := by
  unfold cmtC
  by_cases h0 : W = []
  · rw [if_pos h0]; unfold rPlanGs; rw [if_pos h0]; rfl
  · rw [if_neg h0, flat_plan h0]
/-- A commit on a device that is not armed. -/
theorem RCl.commit (h : RCl D C x) (ha : D.armed = false) {W : List (Nat × Int)} (hW : WOk W) : RCl (D.run 0 (rPlanP 320 W)) (cmtC W C) (x + (rPlanP 320 W).length) ∧ (D.run 0 (rPlanP 320 W)).armed = false := by
  rw [rPlan_groups]
  have := h.go ha hW.plan hW.planV
  rw [funext (flat_cmt W C)] at this
  exact this
theorem RCl.arm (h : RCl D C x) (k : Nat) : RCl (D.arm k) C x := by
  have hoff := h.grp.on.off
  have e : D.arm k = { D with armed := true, left := k } := by unfold Dev.arm; rw [if_neg (by rw [hoff]; simp)]
  rw [e]
  exact ⟨⟨⟨h.grp.on.n, h.grp.on.off, h.grp.on.err⟩, ⟨h.grp.hst.pers, h.grp.hst.hist⟩, h.grp.yes, h.grp.no⟩, h.vb.same rfl rfl, h.exec⟩
/-- A commit, wherever the power fails. -/
theorem RCl.commit_cut (h : RCl D C x) (hC : C 40 = 0) {W : List (Nat × Int)} (hW : WOk W) :
    let E := D.run 0 (rPlanP 320 W)
    E.n = 40 ∧ E.VB ∧ E.exec ≤ x + (rPlanP 320 W).length ∧ ((E.err 0 = 0 ∧ ∀ ks, Good (fun i => look W (C i) i) (E.img ks)) ∨ (E.err 0 = 3 ∧ ∀ ks, Good C (E.img ks) ∨ Good (fun i => look W (C i) i) (E.img ks))) := by
  intro E
  have hx := D.run_exec 0 (rPlanP 320 W)
  have hex := h.exec
  refine ⟨(run_n 0 _ D).trans h.grp.on.n, ?_, by show (D.run 0 (rPlanP 320 W)).exec ≤ _; omega, ?_⟩
  · show (D.run 0 (rPlanP 320 W)).VB
    rw [rPlan_groups]; exact Dev.VB.run _ h.vb 0 hW.planV
  · have hE : E = D.run 0 (groupsP (rPlanGs 320 W)) := by show D.run 0 (rPlanP 320 W) = _; rw [rPlan_groups]
    by_cases h0 : W = []
    · left
      have hED : E = D := by rw [hE]; unfold rPlanGs; rw [if_pos h0]; rfl
      rw [hED]
      refine ⟨h.grp.on.err, fun ks => ?_⟩
      rw [h.img]
      subst h0
      exact good_zero hC (fun i _ => rfl)
    · have hcame := run_came h.grp hW.plan
      rw [← hE] at hcame
      rcases hcame with ⟨h1, _, _⟩ | ⟨_, he, _, a, ws, le, pre, hst, _, _⟩
      · left
        refine ⟨h1.on.err, fun ks => ?_⟩
        obtain ⟨k1, k2⟩ := cmtC_out hW C hC
        have hi : ∀ i, E.img ks i = cmtC W C i := fun i => by rw [h1.hst.clean ks i, laidG_flat, flat_cmt]
        exact good_zero (by rw [hi]; exact k1) (fun i hi2 => by rw [hi]; exact k2 i hi2)
      · exact .inr ⟨he, fun ks => plan_img hW h0 hC le pre hst ks⟩
theorem lk_two {f : Nat → Int} (hf : ∀ i, 0 ≤ f i ∧ f i < 18446744073709551616) {W : List (Nat × Int)} (h : lk f = (2, W)) : WOk W ∧ W ≠ [] ∧ Laid W f := by
  unfold lk rLook at h
  simp only at h
  rw [show 320 / 8 = 40 from rfl] at h
  obtain ⟨c, hc⟩ : ∃ c, (f 40).toNat = c := ⟨_, rfl⟩
  rw [hc] at h
  by_cases h1 : c = 0
  · rw [if_pos h1] at h; cases h
  · rw [if_neg h1] at h
    by_cases h2 : c % 65536 = 0 ∨ 96 < c % 65536 ∨ c / 65536 % 65536 ≠ 0
    · rw [if_pos h2] at h; cases h
    · rw [if_neg h2] at h
      generalize hW : ((List.range (c % 65536)).map fun i => ((f (40 + 8 + 2 * i)).toNat, f (40 + 9 + 2 * i))) = V at h
      have hWl : V.length = c % 65536 := by rw [← hW]; simp
      by_cases h3 : crcN (entW V) ≠ c / 4294967296
      · rw [if_pos h3] at h; cases h
      · rw [if_neg h3] at h
        by_cases h4 : (V.all fun e => rAllowB 2560 320 1664 e.1) = true
        · rw [if_pos h4] at h
          obtain rfl : V = W := (Prod.mk.inj h).2
          have h3' : crcN (entW V) = c / 4294967296 := by simpa using h3
          refine ⟨⟨by omega, List.all_eq_true.1 h4, fun e he => ?_⟩, fun e => ?_, ⟨?_, fun k e he => ?_⟩⟩
          · rw [← hW] at he; obtain ⟨i, _, rfl⟩ := List.mem_map.1 he; exact hf _
          · rw [e] at hWl; simp at hWl; omega
          · have hfc : f 40 = (c : Int) := by have := hf 40; omega
            rw [hfc]
            unfold cmtN
            rw [h3', hWl]
            omega
          · have hk := (List.getElem?_eq_some_iff.1 he).1
            rw [← hW, List.getElem?_map, List.getElem?_range (by omega)] at he
            simp only [Option.map_some, Option.some.injEq] at he
            subst he
            have := hf (40 + 8 + 2 * k)
            rw [show 48 + 2 * k = 40 + 8 + 2 * k by omega, show 49 + 2 * k = 40 + 9 + 2 * k by omega]
            exact ⟨(Int.toNat_of_nonneg this.1).symm, rfl⟩
        · rw [if_neg h4] at h; cases h
/-- A recovery of a committed log, wherever the power fails. -/
theorem RCl.recov {f X : Nat → Int} (h : RCl D f x) (hG : Good X f) {W : List (Nat × Int)} (hl : lk f = (2, W)) :
    let E := D.run 0 (rFinP 320 W)
    E.n = 40 ∧ E.VB ∧ E.exec ≤ x + (rFinP 320 W).length ∧ ((E.err 0 = 0 ∧ OutR E.pers X) ∨ (D.armed = true ∧ E.err 0 = 3 ∧ ∀ ks, Good X (E.img ks))) := by
  intro E
  obtain ⟨hW, h0, hL⟩ := lk_two h.bd hl
  have hx := D.run_exec 0 (rFinP 320 W)
  have hex := h.exec
  have hr : ∀ i, rRes f i = look (W ++ [(320, 0)]) (f i) i := fun i => by unfold rRes; rw [hl]; rfl
  have hX : ∀ i, (i < 40 ∨ 248 ≤ i) → look W (f i) i = X i := fun i hi => by
    rw [← hG.2.2 i hi, hr, look_snoc, if_neg (by show ¬ 320 / 8 = i; omega)]
  refine ⟨(run_n 0 _ D).trans h.grp.on.n, ?_, by show (D.run 0 (rFinP 320 W)).exec ≤ _; omega, ?_⟩
  · show (D.run 0 (rFinP 320 W)).VB
    rw [rFin_groups]; exact Dev.VB.run _ h.vb 0 hW.finV
  · have hE : E = D.run 0 (groupsP (rFinGs 320 W)) := by show D.run 0 (rFinP 320 W) = _; rw [rFin_groups]
    have hcame := run_came h.grp hW.fin
    rw [← hE] at hcame
    rcases hcame with ⟨h1, _, _⟩ | ⟨_, he, _, a, ws, le, pre, hst, ha, _⟩
    · left
      have hp : ∀ i, E.pers i = rRes f i := fun i => by rw [h1.hst.pers, laidG_flat, flat_fin, hr]
      exact ⟨h1.on.err, by rw [hp]; exact hG.2.1, fun i hi => by rw [hp]; exact hG.2.2 i hi⟩
    · exact .inr ⟨ha, he, fun ks => fin_img hW h0 hL hX le pre hst ks⟩
theorem fresh_rcl {f : Nat → Int} (hf : ∀ i, 0 ≤ f i ∧ f i < 18446744073709551616) : RCl (Dev.fresh 40 f) f 0 :=
  ⟨⟨⟨rfl, rfl, rfl⟩, ⟨fun _ => rfl, fun _ => rfl⟩, fun o ho => by simp at ho, fun _ _ => rfl⟩, ⟨hf, fun l e he => by simp [Dev.fresh] at he⟩, Nat.le_refl _⟩
end
end Go.Proofs.YtfigngoojphffaaDoor
