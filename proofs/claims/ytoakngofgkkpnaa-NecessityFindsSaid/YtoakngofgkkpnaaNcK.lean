/- Plain: what the search finds is not good, and its digits give the same image. -/
import Derived.Test.YtoakngofgkkpnaaNcM
namespace Go.Proofs.Ytoakngofgkkpnaa
open Go.RowKit

theorem badO_spec {D : Dev} {e : Bool} {i : Nat} (h : badO D e = some i) : goodF (imgN D i) e = false := by
  unfold badO at h
  have := List.find?_some h
  simpa using this
theorem fndL_spec (D0 : Dev) (q : List (Nat × Nat × Int)) (L : Nat) {kk ii : Nat} : ∀ m k, fndL D0 q L m k = (kk, ii, 0) → goodF (imgN (D0.run 0 (q.take kk)) ii) (decide (kk = q.length)) = false := by
  intro m
  induction m with
  | zero => intro k h; simp [fndL] at h
  | succ m ih =>
    intro k h
    by_cases h1 : L < prodN (basesL (D0.run 0 (q.take k)))
    · rw [fnd_many h1] at h; simp at h
    · cases hb : badO (D0.run 0 (q.take k)) (decide (k = q.length)) with
      | none => rw [fnd_next h1 hb] at h; exact ih _ h
      | some n =>
        rw [fnd_bad h1 hb] at h
        simp only [Prod.mk.injEq, and_true] at h
        obtain ⟨rfl, rfl⟩ := h
        exact badO_spec hb
theorem fnd_spec {D0 : Dev} {q : List (Nat × Nat × Int)} {L kk ii : Nat} (h : fnd D0 q L = (kk, ii, 0)) : goodF (imgN (D0.run 0 (q.take kk)) ii) (decide (kk = q.length)) = false := fndL_spec D0 q L _ _ h
/-- The digits of a combination, as a choice. -/
def digC (D : Dev) (i : Nat) : List Int := (List.range D.dirtyL.length).map fun j => (digN (basesL D) i j : Int)
theorem digC_len (D : Dev) (i : Nat) : (digC D i).length = D.dirtyL.length := by simp [digC]
theorem digN_lt {D : Dev} (i : Nat) {j l : Nat} (h : D.dirtyL[j]? = some l) : digN (basesL D) i j < (D.hist l).length + 1 := by
  unfold digN
  rw [List.getD_eq_getElem?_getD, (bases_at D j l h).2]
  exact Nat.mod_lt _ (by simp)
theorem digC_ch {D : Dev} {i j l : Nat} (h : D.dirtyL[j]? = some l) : chD D (digC D i) j l = digN (basesL D) i j := by
  have hlt := (List.getElem?_eq_some_iff.1 h).1
  have hd := digN_lt i h
  have h1 : (digC D i)[j % (digC D i).length]? = some (digN (basesL D) i j : Int) := by
    rw [digC_len, Nat.mod_eq_of_lt hlt]
    unfold digC
    rw [List.getElem?_map, List.getElem?_range hlt]
    rfl
  rw [chD_at D h1]
  have : (digN (basesL D) i j : Int) % (((D.hist l).length : Int) + 1) = (digN (basesL D) i j : Int) := Int.emod_eq_of_lt (by omega) (by omega)
  rw [this]
  omega
theorem digC_good {D : Dev} (i : Nat) (hn : 4 ≤ D.n) (e : Bool) : goodF (D.img (chK D (digC D i))) e = goodF (imgN D i) e :=
  goodF_img hn (fun j l h => by
    unfold chK
    rw [dirty_idxOf D h]
    exact digC_ch h) e
theorem digC_bd {D : Dev} (i : Nat) (hb : ∀ l ∈ D.dirtyL, (D.hist l).length ≤ 200) : ∀ x ∈ digC D i, 0 ≤ x ∧ x < 256 := by
  intro x hx
  obtain ⟨j, hj, rfl⟩ := List.mem_map.1 hx
  have hj' : j < D.dirtyL.length := by simpa using hj
  obtain ⟨l, hl⟩ : ∃ l, D.dirtyL[j]? = some l := ⟨_, List.getElem?_eq_getElem hj'⟩
  have h1 := digN_lt i hl
  have h2 := hb l (List.mem_of_getElem? hl)
  omega
theorem digC_rd {w : World} {D : Dev} {i g : Nat} (h : Row w g D.dirtyL.length 5 (fun j => .int .u8 (digN (basesL D) i j))) : RdSl w 1 (.slice (some ⟨g, 0, none⟩) D.dirtyL.length D.dirtyL.length) (digC D i).length ((digC D i).map fun x => .int .u8 x) := by
  rw [digC_len]
  refine ⟨by simp [digC], _, _, rfl, Nat.le_refl _, .inr ⟨g, 0, rfl, fun j u hu => ?_⟩⟩
  have hj : j < D.dirtyL.length := by
    rcases Nat.lt_or_ge j D.dirtyL.length with h | h
    · exact h
    · rw [List.getElem?_eq_none (by simpa [digC] using h)] at hu; cases hu
  rw [Nat.zero_add, h.cell hj]
  unfold digC at hu
  rw [List.map_map, List.getElem?_map, List.getElem?_range hj] at hu
  simpa using hu
theorem run_dirty {n : Nat} {q : List (Nat × Nat × Int)} (h : q.length ≤ 100) (hw : ((Dev.fresh n (fun _ => 0)).run 0 q).WF) : ∀ l ∈ ((Dev.fresh n (fun _ => 0)).run 0 q).dirtyL, (((Dev.fresh n (fun _ => 0)).run 0 q).hist l).length ≤ 200 := by
  intro l hl
  have h1 := (Dev.fresh n (fun _ => 0)).run_exec 0 q
  have h2 : (Dev.fresh n (fun _ => 0)).exec = 0 := rfl
  have hln : l < ((Dev.fresh n (fun _ => 0)).run 0 q).n := by
    unfold Dev.dirtyL at hl
    have := (List.mem_filter.1 hl).1
    simpa using this
  have := hw.cnt l hln
  omega
end Go.Proofs.Ytoakngofgkkpnaa
