/- Plain: how many images a device has whose pending stores are few. No program in sight. -/
import Derived.Test.YtahpadhejjlpoaaGreatDoorCsA
import Derived.Test.YtahpadhejjlpoaaGreatDoorPenM
namespace Go.Proofs.YtahpadhejjlpoaaGreatDoor
open Go.RowKit

theorem prodN_mul (bs : List Nat) : ∀ q, bs.foldl (· * ·) q = q * prodN bs := by
  induction bs with
  | nil => intro q; simp [prodN]
  | cons b bs ih =>
    intro q
    show bs.foldl (· * ·) (q * b) = q * (bs.foldl (· * ·) (1 * b))
    rw [ih, ih (1 * b), Nat.one_mul, Nat.mul_assoc]
theorem prodN_cons (b : Nat) (bs : List Nat) : prodN (b :: bs) = b * prodN bs := by
  show bs.foldl (· * ·) (1 * b) = _
  rw [prodN_mul, Nat.one_mul]
theorem filt_split (ws : List (Nat × Int)) (l : Nat) : (filtL ws l).length + (ws.filter fun e => !(e.1 / 64 == l)).length = ws.length := by
  induction ws with
  | nil => rfl
  | cons e ws ih =>
    unfold filtL at *
    by_cases h : e.1 / 64 = l
    · simp [h]; omega
    · simp [h]; omega
theorem filt_other (ws : List (Nat × Int)) {l m : Nat} (h : m ≠ l) : filtL (ws.filter fun e => !(e.1 / 64 == l)) m = filtL ws m := by
  unfold filtL
  rw [List.filter_filter]
  refine List.filter_congr fun e _ => ?_
  by_cases e1 : e.1 / 64 = m
  · have : ¬ e.1 / 64 = l := fun x => h (by omega)
    simp [e1]; omega
  · simp [e1]
theorem prod_two (L : List Nat) : L.Nodup → ∀ ws : List (Nat × Int), prodN (L.map fun l => (filtL ws l).length + 1) ≤ 2 ^ ws.length := by
  induction L with
  | nil => intro _ ws; show 1 ≤ _; exact Nat.one_le_two_pow
  | cons l L ih =>
    intro hn ws
    obtain ⟨h1, h2⟩ := List.nodup_cons.1 hn
    rw [List.map_cons, prodN_cons]
    have e : (L.map fun m => (filtL ws m).length + 1) = L.map fun m => (filtL (ws.filter fun e => !(e.1 / 64 == l)) m).length + 1 := by
      refine List.map_congr_left fun m hm => ?_
      rw [filt_other ws (fun e : m = l => h1 (by rw [← e]; exact hm))]
    rw [e, ← filt_split ws l, Nat.pow_add]
    exact Nat.mul_le_mul (Nat.lt_two_pow_self) (ih h2 _)
theorem dirty_nodup (D : Dev) : D.dirtyL.Nodup := List.Nodup.sublist List.filter_sublist List.nodup_range
/-- The images of a device whose pending stores are these. -/
theorem bases_le {D : Dev} {ws : List (Nat × Int)} (h : ∀ l, D.hist l = filtL ws l) : prodN (basesL D) ≤ 2 ^ ws.length := by
  have e : basesL D = D.dirtyL.map fun l => (filtL ws l).length + 1 := List.map_congr_left fun l _ => by rw [h]
  rw [e]
  exact prod_two _ (dirty_nodup D) ws
/-- What has come through whole is the current contents. -/
theorem img_all (D : Dev) : D.img (fun l => (D.hist l).length) = D.cur := by
  funext i
  unfold Dev.img Dev.cur
  rw [List.take_length]
theorem dirty_none {D : Dev} (h : ∀ l, D.hist l = []) : D.dirtyL = [] := by
  unfold Dev.dirtyL
  rw [List.filter_eq_nil_iff]
  intro l _
  rw [h]
  simp
/-- What is pending behind some groups is some of their stores. -/
theorem laid_filt (gs : List (List (Nat × Int) × List Nat)) : ∀ (s : PerH) (ws : List (Nat × Int)), (∀ l, s.2 l = filtL ws l) → ∃ vs : List (Nat × Int), (∀ l, (laidX s gs).2 l = filtL vs l) ∧ vs.length ≤ ws.length + (gs.flatMap (·.1)).length := by
  induction gs with
  | nil => intro s ws h; exact ⟨ws, h, by simp⟩
  | cons g gs ih =>
    intro s ws h
    obtain ⟨vs, h1, h2⟩ := ih (nextX s g) ((ws ++ g.1).filter fun e => !(hitB g.2 (e.1 / 64))) (fun l => by
      show (if hitB g.2 l = true then [] else s.2 l ++ filtL g.1 l) = _
      rw [h, ← filtL_append]
      unfold filtL
      rw [List.filter_filter]
      by_cases hh : hitB g.2 l = true
      · rw [if_pos hh]
        symm
        rw [List.filter_eq_nil_iff]
        intro e _ he
        simp at he
        rw [he.1, hh] at he
        simp at he
      · rw [if_neg hh]
        refine List.filter_congr fun e _ => ?_
        by_cases e1 : e.1 / 64 = l
        · have : hitB g.2 l = false := by simpa using hh
          simp [e1, this]
        · simp [e1])
    refine ⟨vs, h1, Nat.le_trans h2 ?_⟩
    have := List.length_filter_le (fun e : Nat × Int => !(hitB g.2 (e.1 / 64))) (ws ++ g.1)
    rw [List.length_append] at this
    rw [List.flatMap_cons, List.length_append]
    omega
end Go.Proofs.YtahpadhejjlpoaaGreatDoor
