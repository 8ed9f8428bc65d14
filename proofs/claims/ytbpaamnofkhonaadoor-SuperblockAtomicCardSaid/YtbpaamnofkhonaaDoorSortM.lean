/- Sorting, the plain part: what a round of insertion does to a list. No program in sight. -/
import Derived.Test.YtbpaamnofkhonaaDoorSl
namespace Go.Proofs.YtbpaamnofkhonaaDoor
open Go.RowKit

def at0 (l : List Int) (i : Nat) : Int := l.getD i 0
/-- l's elements from a up to b ascend. -/
def ascOn (l : List Int) (a b : Nat) : Prop := ∀ p q, a ≤ p → p < q → q < b → at0 l p ≤ at0 l q
/-- The same elements; outside of [a, b) each where it was. -/
structure Mixed (xs ys : List Int) (a b : Nat) : Prop where
  perm : ys.Perm xs
  out : ∀ p, p < a ∨ b ≤ p → at0 ys p = at0 xs p
theorem Mixed.refl (xs : List Int) (a b : Nat) : Mixed xs xs a b := ⟨.refl _, fun _ _ => rfl⟩
theorem Mixed.trans {xs ys zs : List Int} {a b : Nat} (h : Mixed xs ys a b) (k : Mixed ys zs a b) : Mixed xs zs a b := ⟨k.perm.trans h.perm, fun p hp => (k.out p hp).trans (h.out p hp)⟩
theorem Mixed.len {xs ys : List Int} {a b : Nat} (h : Mixed xs ys a b) : ys.length = xs.length := h.perm.length_eq
theorem Mixed.mono {xs ys : List Int} {a b a' b' : Nat} (h : Mixed xs ys a b) (h1 : a' ≤ a) (h2 : b ≤ b') : Mixed xs ys a' b' := ⟨h.perm, fun p hp => h.out p (by omega)⟩

/-- Elements i and j changed places. -/
def swp (l : List Int) (i j : Nat) : List Int := (l.set i (at0 l j)).set j (at0 l i)
theorem swp_length (l : List Int) (i j : Nat) : (swp l i j).length = l.length := by simp [swp]
theorem at0_set (l : List Int) (i : Nat) (x : Int) (k : Nat) (hi : i < l.length) : at0 (l.set i x) k = if k = i then x else at0 l k := by
  unfold at0
  simp only [List.getD, List.getElem?_set]
  by_cases e : i = k
  · subst e; simp [hi]
  · rw [if_neg e, if_neg (fun h => e h.symm)]
theorem at0_swp (l : List Int) (i j k : Nat) (hi : i < l.length) (hj : j < l.length) : at0 (swp l i j) k = if k = j then at0 l i else if k = i then at0 l j else at0 l k := by
  unfold swp
  rw [at0_set _ _ _ _ (by simpa using hj), at0_set _ _ _ _ hi]
theorem swp_perm (l : List Int) (i j : Nat) (hi : i < l.length) (hj : j < l.length) : (swp l i j).Perm l := by
  have e1 : at0 l j = l[j] := by simp [at0, List.getD, hj]
  have e2 : at0 l i = l[i] := by simp [at0, List.getD, hi]
  unfold swp; rw [e1, e2]
  exact List.set_set_perm hi hj
theorem swp_mixed (l : List Int) (i j a b : Nat) (hi : i < l.length) (hj : j < l.length) (h1 : a ≤ i) (h2 : i < b) (h3 : a ≤ j) (h4 : j < b) : Mixed l (swp l i j) a b :=
  ⟨swp_perm l i j hi hj, fun p hp => by rw [at0_swp l i j p hi hj, if_neg (by omega), if_neg (by omega)]⟩

/-- Element j of [a, i] is on its way down: all others ascend, and those above it are not less. -/
def insInv (l : List Int) (a i j : Nat) : Prop := (∀ p q, a ≤ p → p < q → q ≤ i → p ≠ j → q ≠ j → at0 l p ≤ at0 l q) ∧ ∀ q, j < q → q ≤ i → at0 l j ≤ at0 l q
theorem insInv_start (l : List Int) (a i : Nat) (h : ascOn l a i) : insInv l a i i := ⟨fun p q h1 h2 h3 _ h5 => h p q h1 h2 (by omega), fun q h1 h2 => by omega⟩
theorem insInv_step (l : List Int) (a i j : Nat) (h : insInv l a i j) (haj : a < j) (hji : j ≤ i) (hil : i < l.length) (hlt : at0 l j < at0 l (j - 1)) : insInv (swp l j (j - 1)) a i (j - 1) := by
  have e := fun k => at0_swp l j (j - 1) k (by omega) (by omega)
  refine ⟨fun p q h1 h2 h3 h4 h5 => ?_, fun q h1 h2 => ?_⟩
  · rw [e, e, if_neg h4, if_neg h5]
    by_cases ep : p = j
    · rw [if_pos ep, if_neg (by omega)]; exact h.1 (j - 1) q (by omega) (by omega) h3 (by omega) (by omega)
    · rw [if_neg ep]
      by_cases eq : q = j
      · rw [if_pos eq]; exact h.1 p (j - 1) h1 (by omega) (by omega) ep (by omega)
      · rw [if_neg eq]; exact h.1 p q h1 h2 h3 ep eq
  · rw [e, e, if_pos rfl, if_neg (by omega)]
    by_cases eq : q = j
    · rw [if_pos eq]; omega
    · rw [if_neg eq]; exact h.2 q (by omega) h2
theorem insInv_end (l : List Int) (a i j : Nat) (h : insInv l a i j) (haj : a ≤ j) (hji : j ≤ i) (hj : j = a ∨ at0 l (j - 1) ≤ at0 l j) : ascOn l a (i + 1) := by
  intro p q h1 h2 h3
  by_cases ep : p = j
  · subst ep; exact h.2 q h2 (by omega)
  · by_cases eq : q = j
    · subst eq
      rcases hj with hj | hj
      · omega
      · by_cases e : p = q - 1
        · rw [e]; exact hj
        · exact Int.le_trans (h.1 p (q - 1) h1 (by omega) (by omega) ep (by omega)) hj
    · exact h.1 p q h1 h2 (by omega) ep eq
end Go.Proofs.YtbpaamnofkhonaaDoor
