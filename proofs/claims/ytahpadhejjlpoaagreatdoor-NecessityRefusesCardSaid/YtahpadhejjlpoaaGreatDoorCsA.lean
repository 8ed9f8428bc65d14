/- Plain: the combinations of a device's dirty lines; and slices.Clone of stores, History. -/
import Derived.Test.YtahpadhejjlpoaaGreatDoorDevI
import Derived.Test.YtahpadhejjlpoaaGreatDoorGen
namespace Go.Proofs.YtahpadhejjlpoaaGreatDoor
open Go.RowKit
attribute [local go_sem ↓] Go.wp_at_zero Go.wp_at_succ

/-- The product of some bases. -/
def prodN (bs : List Nat) : Nat := bs.foldl (· * ·) 1
theorem prodN_snoc (bs : List Nat) (b : Nat) : prodN (bs ++ [b]) = prodN bs * b := by simp [prodN]
theorem prodN_pos (bs : List Nat) (h : ∀ b ∈ bs, 0 < b) : 0 < prodN bs := by
  have key : ∀ (bs : List Nat) (q : Nat), 0 < q → (∀ b ∈ bs, 0 < b) → 0 < bs.foldl (· * ·) q := by
    intro bs
    induction bs with
    | nil => intro q hq _; exact hq
    | cons b bs ih => intro q hq h; exact ih (q * b) (Nat.mul_pos hq (h b (List.mem_cons_self ..))) fun x hx => h x (List.mem_cons_of_mem _ hx)
  exact key bs 1 (by omega) h
theorem prodN_le (bs : List Nat) (h : ∀ b ∈ bs, 0 < b) (k : Nat) : prodN (bs.take k) ≤ prodN bs := by
  have key : ∀ (cs : List Nat) (q : Nat), (∀ b ∈ cs, 0 < b) → q ≤ cs.foldl (· * ·) q := by
    intro cs
    induction cs with
    | nil => intro q _; exact Nat.le_refl _
    | cons b cs ih =>
      intro q h
      refine Nat.le_trans ?_ (ih (q * b) fun x hx => h x (List.mem_cons_of_mem _ hx))
      exact Nat.le_mul_of_pos_right _ (h b (List.mem_cons_self ..))
  have e : prodN bs = (bs.drop k).foldl (· * ·) (prodN (bs.take k)) := by
    unfold prodN
    rw [← List.foldl_append, List.take_append_drop]
  rw [e]
  exact key _ _ fun b hb => h b (List.mem_of_mem_drop hb)
/-- The bases of a device's dirty lines. -/
def basesL (D : Dev) : List Nat := D.dirtyL.map fun l => (D.hist l).length + 1
theorem basesL_pos (D : Dev) : ∀ b ∈ basesL D, 0 < b := fun b hb => by
  obtain ⟨l, _, rfl⟩ := List.mem_map.1 hb
  omega
theorem prodN_from (bs : List Nat) : ∀ q, bs.foldl (· * ·) q = q * prodN bs := by
  induction bs with
  | nil => intro q; simp [prodN]
  | cons b bs ih =>
    intro q
    show bs.foldl (· * ·) (q * b) = q * (bs.foldl (· * ·) (1 * b))
    rw [ih, ih (1 * b), Nat.one_mul, Nat.mul_assoc]
theorem prodN_drop {bs : List Nat} {i b : Nat} (h : bs[i]? = some b) : prodN (bs.drop i) = prodN (bs.drop (i + 1)) * b := by
  obtain ⟨hi, e⟩ := List.getElem?_eq_some_iff.1 h
  rw [List.drop_eq_getElem_cons hi, e]
  show (bs.drop (i + 1)).foldl (· * ·) (1 * b) = _
  rw [prodN_from, Nat.one_mul, Nat.mul_comm]
/-- The digit i of a number. -/
def digN (bs : List Nat) (n i : Nat) : Nat := n / prodN (bs.drop (i + 1)) % bs.getD i 1
end Go.Proofs.YtahpadhejjlpoaaGreatDoor
