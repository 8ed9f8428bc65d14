/- The words of the node that the law draws are those of a valid node with its entries. -/
import Derived.Test.YtkoijmoendepgaaNodeE
import Derived.Test.YtkoijmoendepgaaLeafS
namespace Go.Proofs.Ytkoijmoendepgaa
open Go.RowKit

theorem digs_div (l : List Nat) (h : ∀ s ∈ l, s < 16) : ∀ i, digs l / 16 ^ i % 16 = l.getD i 0 := by
  induction l with
  | nil => intro i; simp [digs]
  | cons s l ih =>
    intro i
    have hs := h s (by simp)
    cases i with
    | zero => simp only [Nat.pow_zero, Nat.div_one, digs, List.getD_cons_zero]; omega
    | succ i =>
      have := ih (fun x hx => h x (by simp [hx])) i
      rw [List.getD_cons_succ, ← this, digs, Nat.pow_succ, Nat.mul_comm (16 ^ i) 16, ← Nat.div_div_eq_div_mul]
      congr 2; omega
theorem nib_ord (l : List Nat) (c i : Nat) (h : ∀ s ∈ l, s < 16) (hl : l.length ≤ 12) (hi : i < 12) : nib (ordN l c) i = l.getD i 0 := by
  unfold nib ordN
  rw [Nat.pow_add, Nat.pow_mul, show 2 ^ 4 = 16 from rfl, ← Nat.div_div_eq_div_mul]
  have e1 : (c % 4096 * 4503599627370496 + 16 * digs l + l.length) / 16 = c % 4096 * 281474976710656 + digs l := by omega
  rw [e1, ← digs_div l h i]
  have e2 : (281474976710656 : Nat) = 16 ^ i * 16 ^ (12 - i) := by rw [← Nat.pow_add, show i + (12 - i) = 12 by omega]
  rw [e2, Nat.mul_left_comm, Nat.mul_add_div (Nat.pow_pos (by omega))]
  obtain ⟨q, hq⟩ : ∃ q, 16 ^ (12 - i) = 16 * q := ⟨16 ^ (11 - i), by rw [← Nat.pow_succ']; congr 1; omega⟩
  rw [hq, Nat.mul_left_comm]; omega
theorem ord_mod (l : List Nat) (c : Nat) (hl : l.length ≤ 12) : ordN l c % 16 = l.length := by unfold ordN; omega
theorem ord_div (l : List Nat) (c : Nat) (h : ∀ s ∈ l, s < 16) (hl : l.length ≤ 12) : ordN l c / 4503599627370496 = c % 4096 := by
  have h1 := digs_lt l h
  have h2 : (16 : Nat) ^ l.length ≤ 16 ^ 12 := Nat.pow_le_pow_right (by omega) hl
  have h3 : (16 : Nat) ^ 12 = 281474976710656 := by decide
  unfold ordN; omega
theorem slotsN_ord (l : List Nat) (c : Nat) (h : ∀ s ∈ l, s < 16) (hl : l.length ≤ 12) : slotsN (ordN l c) l.length = l := by
  unfold slotsN
  refine List.ext_getElem? fun i => ?_
  by_cases hi : i < l.length
  · rw [List.getElem?_map, List.getElem?_range hi, Option.map_some, nib_ord l c i h hl (by omega)]; simp [List.getD, hi]
  · rw [List.getElem?_eq_none (by simp; omega), List.getElem?_eq_none (by omega)]
theorem parse_ord (l : List Nat) (c : Nat) (h : ∀ s ∈ l, s < 12) (hl : l.length ≤ 12) (hn : l.Nodup) : parseOk (ordN l c) := by
  have h16 : ∀ s ∈ l, s < 16 := fun s hs => by have := h s hs; omega
  unfold parseOk
  rw [ord_mod l c hl]
  refine ⟨hl, fun i hi => ⟨fun h1 => ?_, fun h1 => ⟨?_, fun j hj => ?_⟩⟩⟩
  · rw [nib_ord l c i h16 hl hi, getD_none _ _ h1]
  · rw [nib_ord l c i h16 hl hi]; simp [List.getD, h1]; exact h _ (List.getElem_mem _)
  · rw [nib_ord l c i h16 hl hi, nib_ord l c j h16 hl (by omega)]
    simp only [List.getD, List.getElem?_eq_getElem h1, List.getElem?_eq_getElem (show j < l.length by omega), Option.getD_some]
    exact fun e => by have := (List.getElem_inj hn).1 e; omega

/-- The words of memory are those of the node. -/
def IsNode (W : Nat → Int) (n : NodeP) : Prop := ∀ i, i < 28 → W i = nWords n i
theorem nWords_zero (n : NodeP) : nWords n 0 = (ordN (nSlots n) n.count : Nat) := by
  unfold nWords; rw [if_neg (by omega), if_neg (by omega), if_neg (by omega)]; exact wdK_full n
theorem nSlots_len12 (n : NodeP) : (nSlots n).length ≤ 12 := by rw [nSlots_len]; exact nKeys_len n
theorem nSlots_16 (n : NodeP) : ∀ s ∈ nSlots n, s < 16 := fun s hs => by have := nSlots_lt n s hs; omega
/-- The words of entry i, when all k entries are in. -/
theorem wdK_entry (n : NodeP) (k i s : Nat) (hi : i < k) (hk : k ≤ (nSlots n).length) (hs : (nSlots n)[i]? = some s) : wdK n k (4 + s) = (nKeys n).getD i 0 ∧ wdK n k (16 + s) = nVal n i := by
  have hs12 := nSlots_lt n s (List.mem_of_getElem? hs)
  induction k with
  | zero => omega
  | succ k ih =>
    have hk' : (nSlots n)[k]? = some ((nSlots n).getD k 0) := by simp [List.getD, List.getElem?_eq_getElem (show k < (nSlots n).length by omega)]
    have ht12 := nSlots_lt n _ (List.mem_of_getElem? hk')
    have step : ∀ x, x ≠ 0 → wdK n (k + 1) x = if x = 16 + (nSlots n).getD k 0 then nVal n k else if x = 4 + (nSlots n).getD k 0 then (nKeys n).getD k 0 else wdK n k x := fun x hx => by
      show (if x = 0 then _ else _) = _
      rw [if_neg hx]
    rw [step _ (by omega), step _ (by omega)]
    generalize ht : (nSlots n).getD k 0 = t at *
    by_cases e : i = k
    · subst e
      rw [hs] at hk'
      have e2 : s = t := Option.some.inj hk'
      subst e2
      rw [if_neg (by omega), if_pos rfl, if_pos rfl]; exact ⟨rfl, rfl⟩
    · have hne : t ≠ s := fun h => by
        subst h
        have a := List.getElem?_eq_some_iff.1 hs; have b := List.getElem?_eq_some_iff.1 hk'
        exact e ((List.getElem_inj (nSlots_nodup n)).1 (a.2.trans b.2.symm))
      rw [if_neg (by omega), if_neg (by omega), if_neg (by omega), if_neg (by omega)]
      exact ih (by omega) (by omega)

section
variable {W : Nat → Int} {n : NodeP}
theorem IsNode.w0 (h : IsNode W n) : W 0 = (ordN (nSlots n) n.count : Nat) := by rw [h 0 (by omega), nWords_zero]
theorem IsNode.slots (h : IsNode W n) : slotsW W = nSlots n := by
  unfold slotsW; rw [h.w0, Int.toNat_natCast, ord_mod _ _ (nSlots_len12 n)]; exact slotsN_ord _ _ (nSlots_16 n) (nSlots_len12 n)
theorem IsNode.count (h : IsNode W n) : (W 0).toNat / 4503599627370496 = n.count % 4096 := by rw [h.w0, Int.toNat_natCast]; exact ord_div _ _ (nSlots_16 n) (nSlots_len12 n)
theorem IsNode.entry (h : IsNode W n) (i s : Nat) (hs : (nSlots n)[i]? = some s) : W (4 + s) = (nKeys n).getD i 0 ∧ W (16 + s) = nVal n i := by
  have hs12 := nSlots_lt n s (List.mem_of_getElem? hs)
  have hi : i < (nSlots n).length := (List.getElem?_eq_some_iff.1 hs).1
  rw [h _ (by omega), h _ (by omega)]
  unfold nWords
  rw [if_neg (by omega), if_neg (by omega), if_neg (by omega), if_neg (by omega), if_neg (by omega), if_neg (by omega)]
  exact wdK_entry n _ i s hi (Nat.le_refl _) hs
theorem IsNode.w1 (h : IsNode W n) : W 1 = if n.next then ((ptrN 8 : Nat) : Int) else 0 := h 1 (by omega)
theorem IsNode.w3 (h : IsNode W n) : W 3 = if n.bounded then 1 else 0 := h 3 (by omega)
theorem IsNode.w2 (h : IsNode W n) : W 2 = if n.bounded then (n.high : Int) + (if (nKeys n).length = 0 then 0 else (nKeys n).getD ((nKeys n).length - 1) 0 + 1) else 0 := h 2 (by omega)
/-- The node's entries. -/
def nEnts (n : NodeP) : List (Int × Int) := (List.range (nKeys n).length).map fun i => ((nKeys n).getD i 0, nVal n i)
theorem IsNode.ents (h : IsNode W n) : entsW W (nSlots n) = nEnts n := by
  unfold entsW nEnts
  refine List.ext_getElem? fun i => ?_
  by_cases hi : i < (nSlots n).length
  · have hs : (nSlots n)[i]? = some (nSlots n)[i] := List.getElem?_eq_getElem hi
    rw [List.getElem?_map, hs, Option.map_some, List.getElem?_map, List.getElem?_range (by rw [← nSlots_len]; exact hi), Option.map_some, (h.entry i _ hs).1, (h.entry i _ hs).2]
  · rw [List.getElem?_eq_none (by simp; omega), List.getElem?_eq_none (by simp; rw [← nSlots_len]; omega)]
theorem nKeys_asc (n : NodeP) (i j : Nat) (hij : i < j) (hj : j < (nKeys n).length) : (nKeys n).getD i 0 < (nKeys n).getD j 0 := by
  have := List.pairwise_iff_getElem.1 (keysN_asc n.ks) i j (by show i < (nKeys n).length; omega) hj hij
  have e1 : (nKeys n).getD i 0 = (keysN n.ks)[i]'(by show i < (nKeys n).length; omega) := by simp [List.getD, nKeys, show i < (keysN n.ks).length by show i < (nKeys n).length; omega]
  have hj' : j < (keysN n.ks).length := hj
  have e2 : (nKeys n).getD j 0 = (keysN n.ks)[j]'hj' := by simp [List.getD, nKeys, hj']
  rw [e1, e2]; exact this
theorem IsNode.keyAt (h : IsNode W n) (i : Nat) (hi : i < (nSlots n).length) : keyAt W (nSlots n) i = (nKeys n).getD i 0 := by
  have hs : (nSlots n)[i]? = some (nSlots n)[i] := List.getElem?_eq_getElem hi
  unfold Go.Proofs.Ytkoijmoendepgaa.keyAt
  rw [show (nSlots n).getD i 0 = (nSlots n)[i] by simp [List.getD, hi]]
  exact (h.entry i _ hs).1
theorem IsNode.ok (h : IsNode W n) (size : Nat) (hsz : 8 < size) : nodeOk W size := by
  unfold nodeOk
  rw [h.slots, h.w0, Int.toNat_natCast]
  refine ⟨parse_ord _ _ (nSlots_lt n) (nSlots_len12 n) (nSlots_nodup n), fun i h0 hi => ?_, ?_, ?_⟩
  · rw [h.keyAt _ (by omega), h.keyAt _ hi]
    exact nKeys_asc n (i - 1) i (by omega) (by rw [← nSlots_len]; exact hi)
  · rw [h.w3, h.w2]
    cases hb : n.bounded with
    | false => left; simp
    | true =>
      right
      refine ⟨by simp, fun hl => ?_⟩
      rw [h.keyAt _ (by omega), nSlots_len]
      rw [nSlots_len] at hl
      rw [if_pos rfl, if_neg (by omega)]
      omega
  · rw [h.w1]
    cases hn : n.next with
    | false => left; simp
    | true =>
      right
      rw [if_pos rfl, Int.toNat_natCast]
      unfold ptrValid
      rw [show ptrFormed (ptrN 8) = true by decide, show ptrOff (ptrN 8) = 8 by decide]
      simpa using hsz
end
end Go.Proofs.Ytkoijmoendepgaa
