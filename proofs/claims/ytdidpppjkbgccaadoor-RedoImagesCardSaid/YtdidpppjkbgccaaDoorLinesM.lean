/- slices.Compact, plain: equal neighbours are laid together. -/
import Derived.Test.YtdidpppjkbgccaaDoorBase
namespace Go.Proofs.YtdidpppjkbgccaaDoor

/-- One value more: not where it equals the one before. -/
def cmpStep (acc : List Int) (x : Int) : List Int := if acc.getLast? = some x then acc else acc ++ [x]
def cmpL (xs : List Int) : List Int := xs.foldl cmpStep []
theorem cmpL_snoc (xs : List Int) (x : Int) : cmpL (xs ++ [x]) = cmpStep (cmpL xs) x := by unfold cmpL; rw [List.foldl_append]; rfl
theorem cmpStep_last (acc : List Int) (x : Int) : (cmpStep acc x).getLast? = some x := by
  unfold cmpStep
  split
  · assumption
  · simp
theorem cmpL_last (xs : List Int) : (cmpL xs).getLast? = xs.getLast? := by
  rcases List.eq_nil_or_concat xs with rfl | ⟨l, x, rfl⟩
  · rfl
  · rw [List.concat_eq_append, cmpL_snoc, cmpStep_last]; simp
theorem cmpStep_len (acc : List Int) (x : Int) : (cmpStep acc x).length ≤ acc.length + 1 := by
  unfold cmpStep; split <;> simp
theorem cmpL_len (xs : List Int) : (cmpL xs).length ≤ xs.length := by
  have key : ∀ (l acc : List Int), (l.foldl cmpStep acc).length ≤ acc.length + l.length := by
    intro l
    induction l with
    | nil => intro acc; simp
    | cons x l ih => intro acc; have h1 := ih (cmpStep acc x); have h2 := cmpStep_len acc x; simp only [List.foldl_cons, List.length_cons]; omega
  have h := key xs []
  unfold cmpL; simpa using h
/-- The first k + 1 values: the next one is laid down where it differs from the one before. -/
theorem cmpL_take (xs : List Int) (k : Nat) (hk : k + 1 < xs.length) :
    cmpL (xs.take (k + 2)) = if xs[k + 1]! = xs[k]! then cmpL (xs.take (k + 1)) else cmpL (xs.take (k + 1)) ++ [xs[k + 1]!] := by
  have e1 : xs.take (k + 2) = xs.take (k + 1) ++ [xs[k + 1]!] := by
    rw [List.take_add_one, List.getElem?_eq_getElem hk, getElem!_pos xs (k + 1) hk]; rfl
  have e2 : (cmpL (xs.take (k + 1))).getLast? = some xs[k]! := by
    have e3 : xs.take (k + 1) = xs.take k ++ [xs[k]!] := by
      rw [List.take_add_one, List.getElem?_eq_getElem (by omega : k < xs.length), getElem!_pos xs k (by omega)]; rfl
    rw [cmpL_last, e3]; simp
  rw [e1, cmpL_snoc]
  unfold cmpStep
  rw [e2]
  by_cases h : xs[k + 1]! = xs[k]!
  · rw [if_pos h, if_pos (by rw [h])]
  · rw [if_neg h, if_neg (fun e => h (Option.some.inj e).symm)]
theorem cmpL_one (xs : List Int) (h : 0 < xs.length) : cmpL (xs.take 1) = xs.take 1 := by
  match xs, h with
  | x :: l, _ => simp [cmpL, cmpStep]
theorem mem_cmpL (xs : List Int) (x : Int) : x ∈ cmpL xs ↔ x ∈ xs := by
  have key : ∀ (l acc : List Int), x ∈ l.foldl cmpStep acc ↔ x ∈ acc ∨ x ∈ l := by
    intro l
    induction l with
    | nil => intro acc; simp
    | cons y l ih =>
      intro acc
      rw [List.foldl_cons, ih]
      unfold cmpStep
      split
      · rename_i h
        have hy : y ∈ acc := List.mem_of_getLast? h
        constructor
        · rintro (h | h)
          · exact .inl h
          · exact .inr (by simp [h])
        · rintro (h | h)
          · exact .inl h
          · rcases List.mem_cons.1 h with rfl | h
            · exact .inl hy
            · exact .inr h
      · simp only [List.mem_append, List.mem_cons, List.not_mem_nil, or_false]
        constructor
        · rintro ((h | h) | h)
          · exact .inl h
          · exact .inr (.inl h)
          · exact .inr (.inr h)
        · rintro (h | h | h)
          · exact .inl (.inl h)
          · exact .inl (.inr h)
          · exact .inr h
  unfold cmpL
  rw [key]; simp
/-- In the midst of the inner loop: q values seen, i of them kept at the front, the rest as it was. -/
structure CmpMid (xs ys : List Int) (q i : Nat) : Prop where
  len : ys.length = xs.length
  pre : ys.take i = cmpL (xs.take q)
  rest : ∀ j, q ≤ j + 1 → ys[j]? = xs[j]?
  lt : i < q
  le : q ≤ xs.length
theorem CmpMid.skip {xs ys : List Int} {q i : Nat} (h : CmpMid xs ys (q + 1) i) (hq : q + 1 < xs.length) (e : xs[q + 1]! = xs[q]!) : CmpMid xs ys (q + 2) i :=
  ⟨h.len, by rw [cmpL_take xs q hq, if_pos e]; exact h.pre, fun j hj => h.rest j (by omega), by have := h.lt; omega, by omega⟩
theorem CmpMid.keep {xs ys : List Int} {q i : Nat} (h : CmpMid xs ys (q + 1) i) (hq : q + 1 < xs.length) (e : ¬ xs[q + 1]! = xs[q]!) : CmpMid xs (ys.set i xs[q + 1]!) (q + 2) (i + 1) := by
  have hi := h.lt; have hl := h.len
  refine ⟨by simp [hl], ?_, fun j hj => ?_, by omega, by omega⟩
  · rw [cmpL_take xs q hq, if_neg e, ← h.pre, List.take_add_one, List.take_set_of_le (Nat.le_refl _), List.getElem?_set]
    simp; omega
  · rw [List.getElem?_set, if_neg (by omega)]; exact h.rest j (by omega)
end Go.Proofs.YtdidpppjkbgccaaDoor

/- Sorting, the plain part: what a round of insertion does to a list. No program in sight. -/
namespace Go.Proofs.YtdidpppjkbgccaaDoor
open Go.RowKit

def at0 (l : List Int) (i : Nat) : Int := l.getD i 0
/-- l's elements from a up to b ascend. -/
def ascOn (l : List Int) (a b : Nat) : Prop := ∀ p q, a ≤ p → p < q → q < b → at0 l p ≤ at0 l q
/-- The same elements; outside of [a, b) each where it was. -/
structure Mixed (xs ys : List Int) (a b : Nat) : Prop where
  perm : ys.Perm xs
  out : ∀ p, p < a ∨ b ≤ p → at0 ys p = at0 xs p
theorem Mixed.refl (xs : List Int) (a b : Nat) : Mixed xs xs a b := ⟨.refl _, fun _ _ => rfl⟩
theorem Mixed.trans {xs ys zs : List Int} {a b : Nat} (h : Mixed xs ys a b) (k : Mixed ys zs a b) : Mixed xs zs a b := ⟨k.perm.trans h.perm, fun p hp => (k.out p hp).trans (h.out p hp)⟩
theorem Mixed.len {xs ys : List Int} {a b : Nat} (h : Mixed xs ys a b) : ys.length = xs.length := h.perm.length_eq
theorem Mixed.mono {xs ys : List Int} {a b a' b' : Nat} (h : Mixed xs ys a b) (h1 : a' ≤ a) (h2 : b ≤ b') : Mixed xs ys a' b' := ⟨h.perm, fun p hp => h.out p (by omega)⟩

/-- Elements i and j changed places. -/
def swp (l : List Int) (i j : Nat) : List Int := (l.set i (at0 l j)).set j (at0 l i)
theorem swp_length (l : List Int) (i j : Nat) : (swp l i j).length = l.length := by simp [swp]
theorem at0_set (l : List Int) (i : Nat) (x : Int) (k : Nat) (hi : i < l.length) : at0 (l.set i x) k = if k = i then x else at0 l k := by
  unfold at0
  simp only [List.getD, List.getElem?_set]
  by_cases e : i = k
  · subst e; simp [hi]
  · rw [if_neg e, if_neg (fun h => e h.symm)]
theorem at0_swp (l : List Int) (i j k : Nat) (hi : i < l.length) (hj : j < l.length) : at0 (swp l i j) k = if k = j then at0 l i else if k = i then at0 l j else at0 l k := by
  unfold swp
  rw [at0_set _ _ _ _ (by simpa using hj), at0_set _ _ _ _ hi]
theorem swp_perm (l : List Int) (i j : Nat) (hi : i < l.length) (hj : j < l.length) : (swp l i j).Perm l := by
  have e1 : at0 l j = l[j] := by simp [at0, List.getD, hj]
  have e2 : at0 l i = l[i] := by simp [at0, List.getD, hi]
  unfold swp; rw [e1, e2]
  exact List.set_set_perm hi hj
theorem swp_mixed (l : List Int) (i j a b : Nat) (hi : i < l.length) (hj : j < l.length) (h1 : a ≤ i) (h2 : i < b) (h3 : a ≤ j) (h4 : j < b) : Mixed l (swp l i j) a b :=
  ⟨swp_perm l i j hi hj, fun p hp => by rw [at0_swp l i j p hi hj, if_neg (by omega), if_neg (by omega)]⟩

/-- Element j of [a, i] is on its way down: all others ascend, and those above it are not less. -/
def insInv (l : List Int) (a i j : Nat) : Prop := (∀ p q, a ≤ p → p < q → q ≤ i → p ≠ j → q ≠ j → at0 l p ≤ at0 l q) ∧ ∀ q, j < q → q ≤ i → at0 l j ≤ at0 l q
theorem insInv_start (l : List Int) (a i : Nat) (h : ascOn l a i) : insInv l a i i := ⟨fun p q h1 h2 h3 _ h5 => h p q h1 h2 (by omega), fun q h1 h2 => by omega⟩
theorem insInv_step (l : List Int) (a i j : Nat) (h : insInv l a i j) (haj : a < j) (hji : j ≤ i) (hil : i < l.length) (hlt : at0 l j < at0 l (j - 1)) : insInv (swp l j (j - 1)) a i (j - 1) := by
  have e := fun k => at0_swp l j (j - 1) k (by omega) (by omega)
  refine ⟨fun p q h1 h2 h3 h4 h5 => ?_, fun q h1 h2 => ?_⟩
  · rw [e, e, if_neg h4, if_neg h5]
    by_cases ep : p = j
    · rw [if_pos ep, if_neg (by omega)]; exact h.1 (j - 1) q (by omega) (by omega) h3 (by omega) (by omega)
    · rw [if_neg ep]
      by_cases eq : q = j
      · rw [if_pos eq]; exact h.1 p (j - 1) h1 (by omega) (by omega) ep (by omega)
      · rw [if_neg eq]; exact h.1 p q h1 h2 h3 ep eq
  · rw [e, e, if_pos rfl, if_neg (by omega)]
    by_cases eq : q = j
    · rw [if_pos eq]; omega
    · rw [if_neg eq]; exact h.2 q (by omega) h2
theorem insInv_end (l : List Int) (a i j : Nat) (h : insInv l a i j) (haj : a ≤ j) (hji : j ≤ i) (hj : j = a ∨ at0 l (j - 1) ≤ at0 l j) : ascOn l a (i + 1) := by
  intro p q h1 h2 h3
  by_cases ep : p = j
  · subst ep; exact h.2 q h2 (by omega)
  · by_cases eq : q = j
    · subst eq
      rcases hj with hj | hj
      · omega
      · by_cases e : p = q - 1
        · rw [e]; exact hj
        · exact Int.le_trans (h.1 p (q - 1) h1 (by omega) (by omega) ep (by omega)) hj
    · exact h.1 p q h1 h2 (by omega) ep eq
end Go.Proofs.YtdidpppjkbgccaaDoor

/- The reference's lines, flushes and stores, plain. No program in sight. -/
namespace Go.Proofs.YtdidpppjkbgccaaDoor
open Go.RowKit

def natsU (l : List Nat) : List Value := l.map fun (n : Nat) => Value.int .u64 n
theorem natsU_get {l : List Nat} {i n : Nat} (h : l[i]? = some n) : (natsU l)[i]? = some (.int .u64 n) := by simp [natsU, h]
theorem natsU_one (l : List Nat) : ∀ u ∈ natsU l, u.oneCell' = true := by intro u hu; simp [natsU] at hu; obtain ⟨s, _, rfl⟩ := hu; rfl
theorem natsU_take (l : List Nat) (k : Nat) : (natsU l).take k = natsU (l.take k) := by simp [natsU, List.map_take]
theorem natsU_drop (l : List Nat) (k : Nat) : (natsU l).drop k = natsU (l.drop k) := by simp [natsU, List.map_drop]
/-- How many lines of these lie below l. -/
def lowN (out : List Nat) (l : Nat) : Nat := (out.takeWhile fun x => decide (x < l)).length
theorem lowN_le (out : List Nat) (l : Nat) : lowN out l ≤ out.length := (List.takeWhile_sublist _).length_le
theorem lowN_lt (out : List Nat) (l i x : Nat) (hi : i < lowN out l) (h : out[i]? = some x) : x < l := by
  induction out generalizing i with
  | nil => simp at h
  | cons y out ih =>
    unfold lowN at hi
    by_cases hy : y < l
    · rw [List.takeWhile_cons_of_pos (by simpa using hy), List.length_cons] at hi
      cases i with
      | zero => simp at h; omega
      | succ i => exact ih i (by unfold lowN; omega) (by simpa using h)
    · rw [List.takeWhile_cons_of_neg (by simpa using hy)] at hi; simp at hi
theorem lowN_ge (out : List Nat) (l x : Nat) (h : out[lowN out l]? = some x) : ¬ x < l := by
  induction out with
  | nil => simp at h
  | cons y out ih =>
    unfold lowN at h
    by_cases hy : y < l
    · rw [List.takeWhile_cons_of_pos (by simpa using hy), List.length_cons, List.getElem?_cons_succ] at h
      exact ih h
    · rw [List.takeWhile_cons_of_neg (by simpa using hy)] at h; simp at h; omega
def insL (out : List Nat) (l : Nat) : List Nat := if out[lowN out l]? = some l then out else out.take (lowN out l) ++ l :: out.drop (lowN out l)
def linesL (offs : List Nat) : List Nat := offs.foldl (fun out o => insL out (o / 64)) []
theorem linesL_snoc (offs : List Nat) (o : Nat) : linesL (offs ++ [o]) = insL (linesL offs) (o / 64) := by simp [linesL, List.foldl_append]
theorem insL_len (out : List Nat) (l : Nat) : (insL out l).length ≤ out.length + 1 := by
  have := lowN_le out l
  unfold insL; split
  · omega
  · simp; omega
theorem linesF_len (offs : List Nat) : ∀ out : List Nat, (offs.foldl (fun out o => insL out (o / 64)) out).length ≤ out.length + offs.length := by
  induction offs with
  | nil => intro out; simp
  | cons o offs ih => intro out; have h1 := ih (insL out (o / 64)); have h2 := insL_len out (o / 64); simp only [List.foldl_cons, List.length_cons]; omega
theorem linesL_len (offs : List Nat) : (linesL offs).length ≤ offs.length := by have := linesF_len offs []; simpa [linesL] using this
theorem linesF_bd (offs : List Nat) (B : Nat) (h : ∀ o ∈ offs, o / 64 < B) : ∀ out : List Nat, (∀ l ∈ out, l < B) → ∀ l ∈ offs.foldl (fun out o => insL out (o / 64)) out, l < B := by
  induction offs with
  | nil => intro out ho; exact ho
  | cons o offs ih =>
    intro out ho
    refine ih (fun x hx => h x (by simp [hx])) (insL out (o / 64)) (fun l hl => ?_)
    unfold insL at hl
    split at hl
    · exact ho l hl
    · rcases List.mem_append.1 hl with h1 | h1
      · exact ho l (List.mem_of_mem_take h1)
      · rcases List.mem_cons.1 h1 with rfl | h1
        · exact h o (by simp)
        · exact ho l (List.mem_of_mem_drop h1)
theorem linesL_bd (offs : List Nat) (B : Nat) (h : ∀ o ∈ offs, o / 64 < B) : ∀ l ∈ linesL offs, l < B := linesF_bd offs B h [] (by simp)
def flushL (offs : List Nat) : List (Nat × Nat × Int) := if linesL offs = [] then [] else ((linesL offs).map fun l => (2, 64 * l, 0)) ++ [(3, 0, 0)]
def storesL (ws : List (Nat × Int)) : List (Nat × Nat × Int) := (ws.map fun e => (1, e.1, e.2)) ++ flushL (ws.map (·.1))
end Go.Proofs.YtdidpppjkbgccaaDoor

/- Lines sorted and compacted are the reference's lines. Plain; no program in sight. -/
namespace Go.Proofs.YtdidpppjkbgccaaDoor
open Go.RowKit

/-- Two ascending lists with the same members are one. -/
theorem asc_ext : ∀ (l m : List Int), l.Pairwise (· < ·) → m.Pairwise (· < ·) → (∀ x, x ∈ l ↔ x ∈ m) → l = m
  | [], [], _, _, _ => rfl
  | [], y :: m, _, _, h => by have := (h y).2 (by simp); simp at this
  | x :: l, [], _, _, h => by have := (h x).1 (by simp); simp at this
  | x :: l, y :: m, hl, hm, h => by
    rw [List.pairwise_cons] at hl hm
    have hxy : x = y := by
      rcases List.mem_cons.1 ((h x).1 (by simp)) with h1 | h1
      · exact h1
      · rcases List.mem_cons.1 ((h y).2 (by simp)) with h2 | h2
        · exact h2.symm
        · have h3 := hm.1 x h1; have h4 := hl.1 y h2; omega
    subst hxy
    rw [asc_ext l m hl.2 hm.2 (fun z => by
      have hz := h z
      simp only [List.mem_cons] at hz
      constructor
      · intro k
        rcases hz.1 (.inr k) with e | e
        · have := hl.1 z k; omega
        · exact e
      · intro k
        rcases hz.2 (.inr k) with e | e
        · have := hm.1 z k; omega
        · exact e)]
theorem cmpF_asc : ∀ (l acc : List Int), acc.Pairwise (· < ·) → l.Pairwise (· ≤ ·) → (∀ a ∈ acc, ∀ x ∈ l, a ≤ x) → (l.foldl cmpStep acc).Pairwise (· < ·) := by
  intro l
  induction l with
  | nil => intro acc h _ _; exact h
  | cons x l ih =>
    intro acc ha hl hal
    rw [List.pairwise_cons] at hl
    have hle : ∀ a ∈ acc, ∀ y ∈ l, a ≤ y := fun a h y hy => hal a h y (by simp [hy])
    rw [List.foldl_cons]
    unfold cmpStep
    split
    · exact ih acc ha hl.2 hle
    · rename_i hne
      refine ih _ ?_ hl.2 ?_
      · rw [List.pairwise_append]
        refine ⟨ha, by simp, fun a h y hy => ?_⟩
        simp at hy; subst hy
        have hay := hal a h y (by simp)
        rcases List.eq_nil_or_concat acc with e | ⟨i, z, e⟩
        · subst e; simp at h
        · rw [List.concat_eq_append] at e; subst e
          have hz : z ≠ y := fun e => hne (by simp [e])
          have hzy := hal z (by simp) y (by simp)
          rw [List.pairwise_append] at ha
          rcases List.mem_append.1 h with h1 | h1
          · have := ha.2.2 a h1 z (by simp); omega
          · simp at h1; omega
      · intro a h y hy
        rcases List.mem_append.1 h with h1 | h1
        · exact hle a h1 y hy
        · simp at h1; subst h1; exact hl.1 y hy
theorem cmpL_asc (l : List Int) (h : l.Pairwise (· ≤ ·)) : (cmpL l).Pairwise (· < ·) := cmpF_asc l [] (by simp) h (by simp)
theorem ascOn_pw (l : List Int) (h : ascOn l 0 l.length) : l.Pairwise (· ≤ ·) := by
  rw [List.pairwise_iff_getElem]
  intro i j hi hj hij
  have := h i j (by omega) hij hj
  simpa [at0, List.getD, hi, hj] using this

theorem insL_mem (out : List Nat) (l x : Nat) : x ∈ insL out l ↔ x = l ∨ x ∈ out := by
  unfold insL
  split
  · rename_i h
    have := List.mem_of_getElem? h
    constructor
    · exact .inr
    · rintro (e | e)
      · subst e; exact this
      · exact e
  · have e : out = out.take (lowN out l) ++ out.drop (lowN out l) := (List.take_append_drop _ _).symm
    constructor
    · intro h
      rcases List.mem_append.1 h with h | h
      · exact .inr (List.mem_of_mem_take h)
      · rcases List.mem_cons.1 h with h | h
        · exact .inl h
        · exact .inr (List.mem_of_mem_drop h)
    · rintro (h | h)
      · subst h; simp
      · rw [e] at h
        rcases List.mem_append.1 h with h | h
        · exact List.mem_append.2 (.inl h)
        · exact List.mem_append.2 (.inr (by simp [h]))
theorem insL_asc (out : List Nat) (l : Nat) (h : out.Pairwise (· < ·)) : (insL out l).Pairwise (· < ·) := by
  unfold insL
  split
  · exact h
  · rename_i hne
    have e : out = out.take (lowN out l) ++ out.drop (lowN out l) := (List.take_append_drop _ _).symm
    have h' := h
    rw [e, List.pairwise_append] at h'
    obtain ⟨h1, h2, h3⟩ := h'
    have lo : ∀ a ∈ out.take (lowN out l), a < l := fun a ha => by
      obtain ⟨i, hi, hx⟩ := List.getElem_of_mem ha
      rw [List.length_take] at hi
      exact lowN_lt out l i a (by omega) (by rw [← hx, List.getElem_take]; exact List.getElem?_eq_getElem (by omega))
    have hi : ∀ a ∈ out.drop (lowN out l), l < a := fun a ha => by
      obtain ⟨i, hi, hx⟩ := List.getElem_of_mem ha
      rw [List.length_drop] at hi
      have h0 : out[lowN out l]? = some out[lowN out l] := List.getElem?_eq_getElem (by omega)
      have h4 := lowN_ge out l _ h0
      have h5 : out[lowN out l] ≠ l := fun e => hne (by rw [h0, e])
      rw [List.getElem_drop] at hx
      rcases Nat.eq_zero_or_pos i with e0 | e0
      · subst e0; simp only [Nat.add_zero] at hx; omega
      · have := List.pairwise_iff_getElem.1 h (lowN out l) (lowN out l + i) (by omega) (by omega) (by omega)
        omega
    rw [List.pairwise_append, List.pairwise_cons]
    refine ⟨h1, ⟨hi, h2⟩, fun a ha b hb => ?_⟩
    have hal := lo a ha
    rcases List.mem_cons.1 hb with e | hb
    · omega
    · have := hi b hb; omega
theorem linesF_asc (offs : List Nat) : ∀ out : List Nat, out.Pairwise (· < ·) → (offs.foldl (fun out o => insL out (o / 64)) out).Pairwise (· < ·) := by
  induction offs with
  | nil => intro out h; exact h
  | cons o offs ih => intro out h; exact ih _ (insL_asc out _ h)
theorem linesF_mem (offs : List Nat) (x : Nat) : ∀ out : List Nat, x ∈ offs.foldl (fun out o => insL out (o / 64)) out ↔ x ∈ out ∨ ∃ o ∈ offs, o / 64 = x := by
  induction offs with
  | nil => intro out; simp
  | cons o offs ih =>
    intro out
    rw [List.foldl_cons, ih, insL_mem]
    simp only [List.mem_cons]
    constructor
    · rintro ((h | h) | ⟨p, hp, h⟩)
      · exact .inr ⟨o, .inl rfl, h.symm⟩
      · exact .inl h
      · exact .inr ⟨p, .inr hp, h⟩
    · rintro (h | ⟨p, hp | hp, h⟩)
      · exact .inl (.inr h)
      · subst hp; exact .inl (.inl h.symm)
      · exact .inr ⟨p, hp, h⟩
theorem linesL_asc (offs : List Nat) : (linesL offs).Pairwise (· < ·) := linesF_asc offs [] (by simp)
theorem linesL_mem (offs : List Nat) (x : Nat) : x ∈ linesL offs ↔ ∃ o ∈ offs, o / 64 = x := by
  unfold linesL; rw [linesF_mem]; simp
/-- The starts of lines, sorted and compacted. -/
theorem lines_compact (offs : List Nat) (ys : List Int) (hp : ys.Perm (offs.map fun o => (((o - o % 64 : Nat)) : Int))) (ha : ascOn ys 0 ys.length) : cmpL ys = (linesL offs).map fun l => ((64 * l : Nat) : Int) := by
  refine asc_ext _ _ (cmpL_asc ys (ascOn_pw ys ha)) ?_ (fun x => ?_)
  · rw [List.pairwise_map]
    exact (linesL_asc offs).imp (fun h => by omega)
  · rw [mem_cmpL, hp.mem_iff, List.mem_map, List.mem_map]
    constructor
    · rintro ⟨o, ho, rfl⟩
      exact ⟨o / 64, (linesL_mem _ _).2 ⟨o, ho, rfl⟩, by omega⟩
    · rintro ⟨l, hl, rfl⟩
      obtain ⟨o, ho, rfl⟩ := (linesL_mem _ _).1 hl
      exact ⟨o, ho, by omega⟩
end Go.Proofs.YtdidpppjkbgccaaDoor
