/- slices.Compact, plain: equal neighbours are laid together. -/
namespace Go.Proofs.YtbpaamnofkhonaaDoor

/-- One value more: not where it equals the one before. -/
def cmpStep (acc : List Int) (x : Int) : List Int := if acc.getLast? = some x then acc else acc ++ [x]
def cmpL (xs : List Int) : List Int := xs.foldl cmpStep []
theorem cmpL_snoc (xs : List Int) (x : Int) : cmpL (xs ++ [x]) = cmpStep (cmpL xs) x := by unfold cmpL; rw [List.foldl_append]; rfl
theorem cmpStep_last (acc : List Int) (x : Int) : (cmpStep acc x).getLast? = some x := by
  unfold cmpStep
  split
  · assumption
  · simp
theorem cmpL_last (xs : List Int) : (cmpL xs).getLast? = xs.getLast? := by
  rcases List.eq_nil_or_concat xs with rfl | ⟨l, x, rfl⟩
  · rfl
  · rw [List.concat_eq_append, cmpL_snoc, cmpStep_last]; simp
theorem cmpStep_len (acc : List Int) (x : Int) : (cmpStep acc x).length ≤ acc.length + 1 := by
  unfold cmpStep; split <;> simp
theorem cmpL_len (xs : List Int) : (cmpL xs).length ≤ xs.length := by
  have key : ∀ (l acc : List Int), (l.foldl cmpStep acc).length ≤ acc.length + l.length := by
    intro l
    induction l with
    | nil => intro acc; simp
    | cons x l ih => intro acc; have h1 := ih (cmpStep acc x); have h2 := cmpStep_len acc x; simp only [List.foldl_cons, List.length_cons]; omega
  have h := key xs []
  unfold cmpL; simpa using h
/-- The first k + 1 values: the next one is laid down where it differs from the one before. -/
theorem cmpL_take (xs : List Int) (k : Nat) (hk : k + 1 < xs.length) :
    cmpL (xs.take (k + 2)) = if xs[k + 1]! = xs[k]! then cmpL (xs.take (k + 1)) else cmpL (xs.take (k + 1)) ++ [xs[k + 1]!] := by
  have e1 : xs.take (k + 2) = xs.take (k + 1) ++ [xs[k + 1]!] := by
    rw [List.take_add_one, List.getElem?_eq_getElem hk, getElem!_pos xs (k + 1) hk]; rfl
  have e2 : (cmpL (xs.take (k + 1))).getLast? = some xs[k]! := by
    have e3 : xs.take (k + 1) = xs.take k ++ [xs[k]!] := by
      rw [List.take_add_one, List.getElem?_eq_getElem (by omega : k < xs.length), getElem!_pos xs k (by omega)]; rfl
    rw [cmpL_last, e3]; simp
  rw [e1, cmpL_snoc]
  unfold cmpStep
  rw [e2]
  by_cases h : xs[k + 1]! = xs[k]!
  · rw [if_pos h, if_pos (by rw [h])]
  · rw [if_neg h, if_neg (fun e => h (Option.some.inj e).symm)]
theorem cmpL_one (xs : List Int) (h : 0 < xs.length) : cmpL (xs.take 1) = xs.take 1 := by
  match xs, h with
  | x :: l, _ => simp [cmpL, cmpStep]
theorem mem_cmpL (xs : List Int) (x : Int) : x ∈ cmpL xs ↔ x ∈ xs := by
  have key : ∀ (l acc : List Int), x ∈ l.foldl cmpStep acc ↔ x ∈ acc ∨ x ∈ l := by
    intro l
    induction l with
    | nil => intro acc; simp
    | cons y l ih =>
      intro acc
      rw [List.foldl_cons, ih]
      unfold cmpStep
      split
      · rename_i h
        have hy : y ∈ acc := List.mem_of_getLast? h
        constructor
        · rintro (h | h)
          · exact .inl h
          · exact .inr (by simp [h])
        · rintro (h | h)
          · exact .inl h
          · rcases List.mem_cons.1 h with rfl | h
            · exact .inl hy
            · exact .inr h
      · simp only [List.mem_append, List.mem_cons, List.not_mem_nil, or_false]
        constructor
        · rintro ((h | h) | h)
          · exact .inl h
          · exact .inr (.inl h)
          · exact .inr (.inr h)
        · rintro (h | h | h)
          · exact .inl (.inl h)
          · exact .inl (.inr h)
          · exact .inr h
  unfold cmpL
  rw [key]; simp
/-- In the midst of the inner loop: q values seen, i of them kept at the front, the rest as it was. -/
structure CmpMid (xs ys : List Int) (q i : Nat) : Prop where
  len : ys.length = xs.length
  pre : ys.take i = cmpL (xs.take q)
  rest : ∀ j, q ≤ j + 1 → ys[j]? = xs[j]?
  lt : i < q
  le : q ≤ xs.length
theorem CmpMid.skip {xs ys : List Int} {q i : Nat} (h : CmpMid xs ys (q + 1) i) (hq : q + 1 < xs.length) (e : xs[q + 1]! = xs[q]!) : CmpMid xs ys (q + 2) i :=
  ⟨h.len, by rw [cmpL_take xs q hq, if_pos e]; exact h.pre, fun j hj => h.rest j (by omega), by have := h.lt; omega, by omega⟩
theorem CmpMid.keep {xs ys : List Int} {q i : Nat} (h : CmpMid xs ys (q + 1) i) (hq : q + 1 < xs.length) (e : ¬ xs[q + 1]! = xs[q]!) : CmpMid xs (ys.set i xs[q + 1]!) (q + 2) (i + 1) := by
  have hi := h.lt; have hl := h.len
  refine ⟨by simp [hl], ?_, fun j hj => ?_, by omega, by omega⟩
  · rw [cmpL_take xs q hq, if_neg e, ← h.pre, List.take_add_one, List.take_set_of_le (Nat.le_refl _), List.getElem?_set]
    simp; omega
  · rw [List.getElem?_set, if_neg (by omega)]; exact h.rest j (by omega)
end Go.Proofs.YtbpaamnofkhonaaDoor
