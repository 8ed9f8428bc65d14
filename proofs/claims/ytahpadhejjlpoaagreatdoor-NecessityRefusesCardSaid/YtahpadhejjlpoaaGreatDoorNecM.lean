/- Plain: what the search for an inconsistent run comes to, over a device of four lines. No program in sight. -/
import Derived.Test.YtahpadhejjlpoaaGreatDoorCsG
import Derived.Test.YtahpadhejjlpoaaGreatDoorDevP
namespace Go.Proofs.YtahpadhejjlpoaaGreatDoor
open Go.RowKit

/-- The rule of the small protocols. -/
def goodF (f : Nat → Int) (ended : Bool) : Bool := if f 8 = 0 then !ended else decide (f 0 = 7) && decide (f 16 = 7)
/-- The digit of a line in a combination. -/
def ksD (D : Dev) (n l : Nat) : Nat := digN (basesL D) n (D.dirtyL.idxOf l)
/-- The words of a combination's image. -/
def imgN (D : Dev) (n : Nat) : Nat → Int := D.img (ksD D n)
theorem dirty_mem (D : Dev) (l : Nat) : l ∈ D.dirtyL ↔ l < D.n ∧ D.hist l ≠ [] := by
  unfold Dev.dirtyL
  simp [List.length_pos_iff]
theorem img_of {D : Dev} {n : Nat} {ks : Nat → Nat} (h : ∀ i l : Nat, D.dirtyL[i]? = some l → ks l = digN (basesL D) n i) (i : Nat) (hi : i / 8 < D.n) : D.img ks i = imgN D n i := by
  unfold imgN Dev.img
  by_cases hh : D.hist (i / 8) = []
  · rw [hh, List.take_nil, List.take_nil]
  · have hm := (dirty_mem D (i / 8)).2 ⟨hi, hh⟩
    have hlt := List.idxOf_lt_length_iff.2 hm
    have he : D.dirtyL[D.dirtyL.idxOf (i / 8)]? = some (i / 8) := by rw [List.getElem?_eq_getElem hlt, List.getElem_idxOf hlt]
    rw [h _ _ he]
    rfl
theorem goodF_congr {f g : Nat → Int} (h : ∀ i, i < 32 → f i = g i) (e : Bool) : goodF f e = goodF g e := by
  unfold goodF
  rw [h 8 (by omega), h 0 (by omega), h 16 (by omega)]
/-- The first combination whose image is not good. -/
def badO (D : Dev) (ended : Bool) : Option Nat := (List.range (prodN (basesL D))).find? fun n => !(goodF (imgN D n) ended)
theorem find_at {P : Nat} {p : Nat → Bool} {i : Nat} (hi : i < P) (hp : p i = true) (hl : ∀ j, j < i → p j = false) : (List.range P).find? p = some i := by
  rw [List.find?_eq_some_iff_getElem]
  refine ⟨hp, i, by simpa using hi, by simp, fun j hj => ?_⟩
  simp [hl j hj]
theorem find_no {P : Nat} {p : Nat → Bool} (hl : ∀ j, j < P → p j = false) : (List.range P).find? p = none := by
  rw [List.find?_eq_none]
  intro x hx
  rw [hl x (List.mem_range.1 hx)]
  simp
theorem badO_at {D : Dev} {e : Bool} {i : Nat} (hi : i < prodN (basesL D)) (hp : goodF (imgN D i) e = false) (hl : ∀ j, j < i → goodF (imgN D j) e = true) : badO D e = some i :=
  find_at hi (by simp [hp]) (fun j hj => by simp [hl j hj])
theorem badO_no {D : Dev} {e : Bool} (hl : ∀ j, j < prodN (basesL D) → goodF (imgN D j) e = true) : badO D e = none := find_no (fun j hj => by simp [hl j hj])
/-- The search from k on: after how many instructions, which image, the code (0 found, 1 none, 2 too many images). -/
def fndL (D0 : Dev) (q : List (Nat × Nat × Int)) (limit : Nat) : Nat → Nat → Nat × Nat × Nat
  | 0, _ => (0, 0, 1)
  | m + 1, k =>
    if limit < prodN (basesL (D0.run 0 (q.take k))) then (0, 0, 2)
    else match badO (D0.run 0 (q.take k)) (decide (k = q.length)) with
      | some n => (k, n, 0)
      | none => fndL D0 q limit m (k + 1)
def fnd (D0 : Dev) (q : List (Nat × Nat × Int)) (limit : Nat) : Nat × Nat × Nat := fndL D0 q limit (q.length + 1) 0
theorem fnd_many {D0 : Dev} {q : List (Nat × Nat × Int)} {limit m k : Nat} (h : limit < prodN (basesL (D0.run 0 (q.take k)))) : fndL D0 q limit (m + 1) k = (0, 0, 2) := by
  unfold fndL; rw [if_pos h]
theorem fnd_bad {D0 : Dev} {q : List (Nat × Nat × Int)} {limit m k n : Nat} (h : ¬ limit < prodN (basesL (D0.run 0 (q.take k)))) (hb : badO (D0.run 0 (q.take k)) (decide (k = q.length)) = some n) : fndL D0 q limit (m + 1) k = (k, n, 0) := by
  unfold fndL; rw [if_neg h, hb]
theorem fnd_next {D0 : Dev} {q : List (Nat × Nat × Int)} {limit m k : Nat} (h : ¬ limit < prodN (basesL (D0.run 0 (q.take k)))) (hb : badO (D0.run 0 (q.take k)) (decide (k = q.length)) = none) : fndL D0 q limit (m + 1) k = fndL D0 q limit m (k + 1) := by
  show (if limit < prodN (basesL (D0.run 0 (q.take k))) then (0, 0, 2) else match badO (D0.run 0 (q.take k)) (decide (k = q.length)) with | some n => (k, n, 0) | none => fndL D0 q limit m (k + 1)) = _
  rw [if_neg h, hb]
/-- A program without one fence; whether there is such a fence. -/
def withoutL (f : Nat) : List (Nat × Nat × Int) → Nat → List (Nat × Nat × Int)
  | [], _ => []
  | e :: l, n => if e.1 = 3 then (if n = f then withoutL f l (n + 1) else e :: withoutL f l (n + 1)) else e :: withoutL f l n
/-- The law's program of at most twelve instructions. -/
def shortI (e : Int × Nat × Int) : Nat × Nat × Int :=
  if e.1 % 3 = 0 then (1, e.2.1 % 256 / 8 * 8, e.2.2) else if e.1 % 3 = 1 then (2, e.2.1 % 256 / 8 * 8, 0) else (3, 0, 0)
def shortL (l : List (Int × Nat × Int)) : List (Nat × Nat × Int) := (l.take 12).map shortI
end Go.Proofs.YtahpadhejjlpoaaGreatDoor
