/- Sorting, the plain part of the quicksort: what is between two places, heaps, partitions. No program in sight. -/
import Derived.Test.YtdidpppjkbgccaaDoorLinesM
namespace Go.Proofs.YtdidpppjkbgccaaDoor
open Go.RowKit

theorem list_eq_at0 {l m : List Int} (hl : l.length = m.length) (h : ∀ i, i < l.length → at0 l i = at0 m i) : l = m := by
  refine List.ext_getElem hl fun i h1 h2 => ?_
  have := h i h1
  simpa [at0, List.getD, h1, h2] using this
theorem at0_mem {l : List Int} {i : Nat} (h : i < l.length) : at0 l i ∈ l := by
  have : at0 l i = l[i] := by simp [at0, List.getD, h]
  rw [this]; exact List.getElem_mem h
theorem at0_take (l : List Int) (n i : Nat) (h : i < n) : at0 (l.take n) i = at0 l i := by simp [at0, h]
theorem at0_drop (l : List Int) (n i : Nat) : at0 (l.drop n) i = at0 l (n + i) := by simp [at0, List.getD, List.getElem?_drop]
/-- What lies between two places is a permutation of what lay there. -/
theorem Mixed.mid {xs ys : List Int} {a b : Nat} (h : Mixed xs ys a b) (hab : a ≤ b) (hb : b ≤ xs.length) : ((ys.drop a).take (b - a)).Perm ((xs.drop a).take (b - a)) := by
  have hl := h.len
  have e1 : ys.take a = xs.take a := by
    refine list_eq_at0 (by simp [hl]) fun i hi => ?_
    have : i < a := by simp at hi; omega
    rw [at0_take _ _ _ this, at0_take _ _ _ this]; exact h.out i (.inl this)
  have e2 : ys.drop b = xs.drop b := by
    refine list_eq_at0 (by simp [hl]) fun i _ => ?_
    rw [at0_drop, at0_drop]; exact h.out _ (.inr (by omega))
  have s : ∀ l : List Int, l = l.take a ++ ((l.drop a).take (b - a) ++ l.drop b) := fun l => by
    have h1 : (l.drop a).take (b - a) ++ l.drop b = l.drop a := by
      have := List.take_append_drop (b - a) (l.drop a)
      rw [List.drop_drop, show a + (b - a) = b by omega] at this; exact this
    rw [h1, List.take_append_drop]
  have hp := h.perm
  rw [s ys, s xs, e1, e2] at hp
  exact (List.perm_append_right_iff _).1 ((List.perm_append_left_iff _).1 hp)
theorem Mixed.all {xs ys : List Int} {a b : Nat} (h : Mixed xs ys a b) (hb : b ≤ xs.length) {P : Int → Prop} (hx : ∀ q, a ≤ q → q < b → P (at0 xs q)) : ∀ q, a ≤ q → q < b → P (at0 ys q) := by
  intro q h1 h2
  have hm : at0 ys q ∈ (ys.drop a).take (b - a) := by
    have e : at0 ((ys.drop a).take (b - a)) (q - a) = at0 ys q := by rw [at0_take _ _ _ (by omega), at0_drop, show a + (q - a) = q by omega]
    rw [← e]; exact at0_mem (by have := h.len; simp; omega)
  have hm2 := (h.mid (by omega) hb).mem_iff.1 hm
  obtain ⟨i, hi, e⟩ := List.mem_iff_getElem.1 hm2
  have hi2 : i < b - a ∧ a + i < xs.length := by simp at hi; omega
  have e3 : at0 xs (a + i) = at0 ys q := by
    rw [← e]; simp [at0, List.getD, hi2.2]
  rw [← e3]; exact hx _ (by omega) (by omega)

/-- What lies ahead of a and from b on is in order, also against what lies between. -/
def Sand (l : List Int) (a0 a b b0 : Nat) : Prop := ∀ p q, a0 ≤ p + 1 → p < q → q < b0 → (p < a ∨ b ≤ q) → at0 l p ≤ at0 l q
/-- The element ahead of a is not greater than those of [a, b). -/
def LowB (l : List Int) (a b : Nat) : Prop := ∀ q, a ≤ q → q < b → 0 < a → at0 l (a - 1) ≤ at0 l q
theorem Sand.start {l : List Int} {a b : Nat} (h : LowB l a b) : Sand l a a b b := fun p q h1 h2 h3 h4 => by
  have e : p = a - 1 := by omega
  subst e; exact h q (by omega) h3 (by omega)
theorem Sand.low {l : List Int} {a0 a b b0 : Nat} (h : Sand l a0 a b b0) (h1 : a0 ≤ a) (h2 : b ≤ b0) : LowB l a b := fun q h3 h4 h5 => h (a - 1) q (by omega) (by omega) (by omega) (.inl (by omega))
theorem Sand.mix {l m : List Int} {a0 a b b0 : Nat} (h : Sand l a0 a b b0) (g1 : a0 ≤ a) (g2 : b ≤ b0) (hm : Mixed l m a b) (hb : b ≤ l.length) : Sand m a0 a b b0 := by
  intro p q h1 h2 h3 h4
  rcases Nat.lt_or_ge p a with hp | hp
  · rw [hm.out p (.inl hp)]
    by_cases hq : a ≤ q ∧ q < b
    · exact hm.all hb (P := fun x => at0 l p ≤ x) (fun r h5 h6 => h p r h1 (by omega) (by omega) (.inl hp)) q hq.1 hq.2
    · rw [hm.out q (by omega)]; exact h p q h1 h2 h3 (.inl hp)
  · have hq : b ≤ q := by omega
    rw [hm.out q (.inr hq)]
    by_cases hpb : p < b
    · exact hm.all hb (P := fun x => x ≤ at0 l q) (fun r h5 h6 => h r q (by omega) (by omega) h3 (.inr hq)) p hp hpb
    · rw [hm.out p (.inr (by omega))]; exact h p q h1 h2 h3 (.inr hq)
theorem Sand.done {l : List Int} {a0 a b b0 : Nat} (h : Sand l a0 a b b0) (ha : ascOn l a b) : ascOn l a0 b0 := fun p q h1 h2 h3 => by
  by_cases hh : p < a ∨ b ≤ q
  · exact h p q (by omega) h2 h3 hh
  · exact ha p q (by omega) h2 (by omega)
/-- What a partition leaves. -/
def Parted (l : List Int) (a m b : Nat) : Prop := a ≤ m ∧ m < b ∧ (∀ q, a ≤ q → q < m → at0 l q ≤ at0 l m) ∧ ∀ q, m < q → q < b → at0 l m ≤ at0 l q
theorem Parted.lowR {l : List Int} {a m b : Nat} (h : Parted l a m b) : LowB l (m + 1) b := fun q h1 h2 _ => h.2.2.2 q (by omega) h2
theorem Sand.lowL {l : List Int} {a0 a m b b0 : Nat} (h : Sand l a0 a b b0) (hp : Parted l a m b) (h1 : a0 ≤ a) (h2 : b ≤ b0) : LowB l a m := fun q h3 h4 h5 => h.low h1 h2 q h3 (by have := hp.2.1; omega) h5
theorem Sand.left {l m : List Int} {a0 a k b b0 : Nat} (h : Sand l a0 a b b0) (g1 : a0 ≤ a) (g2 : b ≤ b0) (hp : Parted l a k b) (hm : Mixed l m a k) (ha : ascOn m a k) (hb : b ≤ l.length) : Sand m a0 (k + 1) b b0 := by
  obtain ⟨p1, p2, p3, p4⟩ := hp
  have hs := h.mix g1 g2 (hm.mono (Nat.le_refl _) (Nat.le_of_lt p2)) hb
  have hk : at0 m k = at0 l k := hm.out k (.inr (Nat.le_refl _))
  have hlo : ∀ q, a ≤ q → q < k → at0 m q ≤ at0 m k := by rw [hk]; exact hm.all (by omega) (P := fun x => x ≤ at0 l k) p3
  intro p q h1 h2 h3 h4
  by_cases hh : p < a ∨ b ≤ q
  · exact hs p q h1 h2 h3 hh
  · have hp2 : p ≤ k := by omega
    by_cases hqk : q < k
    · exact ha p q (by omega) h2 hqk
    · by_cases hpk : p = k
      · subst hpk; rw [hk, hm.out q (.inr (by omega))]; exact p4 q h2 (by omega)
      · have e1 := hlo p (by omega) (by omega)
        by_cases hqe : q = k
        · rw [hqe]; exact e1
        · have e2 := p4 q (by omega) (by omega)
          rw [← hk, ← hm.out q (.inr (by omega))] at e2
          exact Int.le_trans e1 e2
theorem Sand.right {l m : List Int} {a0 a k b b0 : Nat} (h : Sand l a0 a b b0) (g1 : a0 ≤ a) (g2 : b ≤ b0) (hp : Parted l a k b) (hm : Mixed l m (k + 1) b) (ha : ascOn m (k + 1) b) (hb : b ≤ l.length) : Sand m a0 a k b0 := by
  obtain ⟨p1, p2, p3, p4⟩ := hp
  have hs := h.mix g1 g2 (hm.mono (by omega) (Nat.le_refl _)) hb
  have hk : at0 m k = at0 l k := hm.out k (.inl (by omega))
  have hhi : ∀ q, k + 1 ≤ q → q < b → at0 m k ≤ at0 m q := by rw [hk]; exact hm.all hb (P := fun x => at0 l k ≤ x) (fun q h1 h2 => p4 q (by omega) h2)
  intro p q h1 h2 h3 h4
  by_cases hh : p < a ∨ b ≤ q
  · exact hs p q h1 h2 h3 hh
  · have hq2 : k ≤ q := by omega
    by_cases hpk : k < p
    · exact ha p q (by omega) h2 (by omega)
    · by_cases hqk : q = k
      · subst hqk; rw [hk, hm.out p (.inl (by omega))]; exact p3 p (by omega) h2
      · have e2 := hhi q (by omega) (by omega)
        by_cases hpe : p = k
        · rw [hpe]; exact e2
        · have e1 := p3 p (by omega) (by omega)
          rw [← hk, ← hm.out p (.inl (by omega))] at e1
          exact Int.le_trans e1 e2
/-- What the partition of equal elements leaves. -/
def PartedEq (l : List Int) (a m b : Nat) (x : Int) : Prop := a < m ∧ m ≤ b ∧ ∀ q, a ≤ q → q < m → at0 l q ≤ x
theorem Sand.eq {l m : List Int} {a0 a k b b0 : Nat} {x : Int} (h : Sand l a0 a b b0) (h1 : a0 ≤ a) (h2 : b ≤ b0) (hm : Mixed l m a b) (hp : PartedEq m a k b x) (hx : x ≤ at0 l (a - 1)) (ha : 0 < a) (hb : b ≤ l.length) : Sand m a0 k b b0 := by
  obtain ⟨p1, p2, p3⟩ := hp
  have hs := h.mix h1 h2 hm hb
  have hlo := hm.all hb (P := fun y => at0 l (a - 1) ≤ y) (fun q h3 h4 => h.low h1 h2 q h3 h4 ha)
  intro p q h3 h4 h5 h6
  by_cases hh : p < a ∨ b ≤ q
  · exact hs p q h3 h4 h5 hh
  · exact Int.le_trans (p3 p (by omega) (by omega)) (Int.le_trans hx (hlo q (by omega) (by omega)))

/-- A heap on the places f, f+1, .. f+n-1, but for the nodes below lo and node r. -/
def HeapBut (l : List Int) (f lo n r : Nat) : Prop := (∀ i c, lo ≤ i → i ≠ r → (c = 2 * i + 1 ∨ c = 2 * i + 2) → c < n → at0 l (f + c) ≤ at0 l (f + i)) ∧
  ∀ i c, lo ≤ i → (r = 2 * i + 1 ∨ r = 2 * i + 2) → (c = 2 * r + 1 ∨ c = 2 * r + 2) → c < n → at0 l (f + c) ≤ at0 l (f + i)
def Heap (l : List Int) (f lo n : Nat) : Prop := ∀ i c, lo ≤ i → (c = 2 * i + 1 ∨ c = 2 * i + 2) → c < n → at0 l (f + c) ≤ at0 l (f + i)
theorem Heap.but {l : List Int} {f lo n : Nat} (h : Heap l f (lo + 1) n) : HeapBut l f lo n lo := ⟨fun i c h1 h2 h3 h4 => h i c (by omega) h3 h4, fun i c h1 h2 h3 h4 => by omega⟩
theorem HeapBut.stop {l : List Int} {f lo n r : Nat} (h : HeapBut l f lo n r) (hr : ∀ c, (c = 2 * r + 1 ∨ c = 2 * r + 2) → c < n → at0 l (f + c) ≤ at0 l (f + r)) : Heap l f lo n := fun i c h1 h2 h3 => by
  by_cases e : i = r
  · subst e; exact hr c h2 h3
  · exact h.1 i c h1 e h2 h3
theorem HeapBut.step {l : List Int} {f lo n r k : Nat} (h : HeapBut l f lo n r) (hlo : lo ≤ r) (hk : k = 2 * r + 1 ∨ k = 2 * r + 2) (hkn : k < n) (hfn : f + n ≤ l.length)
    (hmax : ∀ c, (c = 2 * r + 1 ∨ c = 2 * r + 2) → c < n → at0 l (f + c) ≤ at0 l (f + k)) (hlt : at0 l (f + r) < at0 l (f + k)) : HeapBut (swp l (f + r) (f + k)) f lo n k := by
  have e := fun q => at0_swp l (f + r) (f + k) q (by omega) (by omega)
  refine ⟨fun i c h1 h2 h3 h4 => ?_, fun i c h1 h2 h3 h4 => ?_⟩
  · rw [e, e]
    by_cases hir : i = r
    · subst hir
      rw [if_neg (show ¬ f + i = f + k by omega), if_pos (show f + i = f + i from rfl)]
      by_cases hck : c = k
      · rw [if_pos (by omega)]; omega
      · rw [if_neg (by omega), if_neg (by omega)]; exact hmax c h3 h4
    · rw [if_neg (show ¬ f + i = f + k by omega), if_neg (show ¬ f + i = f + r by omega)]
      by_cases hcr : c = r
      · subst hcr
        rw [if_neg (by omega), if_pos rfl]
        exact h.2 i k h1 h3 hk hkn
      · rw [if_neg (show ¬ f + c = f + k by omega), if_neg (by omega)]; exact h.1 i c h1 hir h3 h4
  · have hi : i = r := by omega
    subst hi
    rw [e, e, if_neg (show ¬ f + i = f + k by omega), if_pos rfl, if_neg (by omega), if_neg (by omega)]
    exact h.1 k c (by omega) (by omega) h3 h4
/-- The root of a heap is its greatest element. -/
theorem Heap.root {l : List Int} {f n : Nat} (h : Heap l f 0 n) : ∀ k, k < n → at0 l (f + k) ≤ at0 l f := by
  intro k
  induction k using Nat.strongRecOn with
  | ind k ih =>
    intro hk
    by_cases h0 : k = 0
    · subst h0; simp
    · have h1 := h ((k - 1) / 2) k (Nat.zero_le _) (by omega) hk
      exact Int.le_trans h1 (ih ((k - 1) / 2) (by omega) (by omega))
theorem Heap.leaves (l : List Int) (f n : Nat) : Heap l f ((n - 1) / 2 + 1) n := fun i c h1 h2 h3 => by omega
/-- A heap of k elements, and behind it, in order, elements that are not less. -/
structure Popped (l : List Int) (f k n : Nat) : Prop where
  heap : Heap l f 0 k
  asc : ascOn l (f + k) (f + n)
  big : ∀ p q, f ≤ p → p < f + k → f + k ≤ q → q < f + n → at0 l p ≤ at0 l q
theorem Popped.start {l : List Int} {f n : Nat} (h : Heap l f 0 n) : Popped l f n n := ⟨h, fun p q h1 h2 h3 => by omega, fun p q _ _ h1 h2 => by omega⟩
/-- The root goes behind the heap, which is mended. -/
theorem Popped.step {l m : List Int} {f k n : Nat} (h : Popped l f (k + 1) n) (hk : k + 1 ≤ n) (hn : f + n ≤ l.length) (hm : Mixed (swp l f (f + k)) m f (f + k)) (hh : Heap m f 0 k) : Popped m f k n := by
  have e := fun q => at0_swp l f (f + k) q (by omega) (by omega)
  have hroot := h.heap.root
  have hm' : ∀ p, p < f ∨ f + k ≤ p → at0 m p = at0 (swp l f (f + k)) p := hm.out
  have hK : at0 m (f + k) = at0 l f := by rw [hm' _ (.inr (Nat.le_refl _)), e, if_pos rfl]
  have hQ : ∀ q, f + k < q → at0 m q = at0 l q := fun q hq => by rw [hm' _ (.inr (by omega)), e, if_neg (by omega), if_neg (by omega)]
  have hsw : ∀ p, f ≤ p → p < f + k → ∃ r, f ≤ r ∧ r < f + (k + 1) ∧ at0 (swp l f (f + k)) p = at0 l r := fun p h1 h2 => by
    rw [e, if_neg (by omega)]
    by_cases ef : p = f
    · rw [if_pos ef]; exact ⟨f + k, by omega, by omega, rfl⟩
    · rw [if_neg ef]; exact ⟨p, by omega, by omega, rfl⟩
  refine ⟨hh, fun p q h1 h2 h3 => ?_, fun p q h1 h2 h3 h4 => ?_⟩
  · rw [hQ q (by omega)]
    by_cases ep : p = f + k
    · subst ep; rw [hK]; exact h.big f q (Nat.le_refl _) (by omega) (by omega) h3
    · rw [hQ p (by omega)]; exact h.asc p q (by omega) h2 h3
  · have hlen : f + k ≤ (swp l f (f + k)).length := by rw [swp_length]; omega
    refine hm.all hlen (P := fun x => x ≤ at0 m q) (fun r h5 h6 => ?_) p h1 h2
    obtain ⟨r', h7, h8, h9⟩ := hsw r h5 h6
    rw [h9]
    by_cases eq : q = f + k
    · subst eq; rw [hK]
      have := hroot (r' - f) (by omega)
      rw [show f + (r' - f) = r' by omega] at this; exact this
    · rw [hQ q (by omega)]; exact h.big r' q h7 h8 (by omega) h4
theorem Popped.done {l : List Int} {f n : Nat} (h : Popped l f 0 n) : ascOn l f (f + n) := fun p q h1 h2 h3 => h.asc p q (by omega) h2 h3
end Go.Proofs.YtdidpppjkbgccaaDoor
