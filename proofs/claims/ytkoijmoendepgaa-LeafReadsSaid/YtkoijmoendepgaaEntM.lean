/- Entries of a node: plain facts. -/
import Derived.Test.YtkoijmoendepgaaNodeF
import Derived.Test.YtkoijmoendepgaaLeafV
namespace Go.Proofs.Ytkoijmoendepgaa
open Go.RowKit

/-- The entries from a key on. -/
def afterR (f : Int) (E : List (Int × Int)) : List (Int × Int) := E.filter fun e => decide (f ≤ e.1)
/-- The value of the last entry with this key, and whether there is one. -/
def wantR (k : Int) (E : List (Int × Int)) : Int × Bool := E.foldl (fun s e => if e.1 = k then (e.2, true) else s) (0, false)
theorem afterR_snoc_pos (f : Int) (E : List (Int × Int)) (e : Int × Int) (h : f ≤ e.1) : afterR f (E ++ [e]) = afterR f E ++ [e] := by simp [afterR, h]
theorem afterR_snoc_neg (f : Int) (E : List (Int × Int)) (e : Int × Int) (h : ¬ f ≤ e.1) : afterR f (E ++ [e]) = afterR f E := by simp [afterR, h]
theorem wantR_snoc_pos (k : Int) (E : List (Int × Int)) (e : Int × Int) (h : e.1 = k) : wantR k (E ++ [e]) = (e.2, true) := by simp [wantR, h]
theorem wantR_snoc_neg (k : Int) (E : List (Int × Int)) (e : Int × Int) (h : ¬ e.1 = k) : wantR k (E ++ [e]) = wantR k E := by simp [wantR, h]
theorem afterR_len (f : Int) (E : List (Int × Int)) : (afterR f E).length ≤ E.length := List.length_filter_le _ _

/-- The keys in these slots ascend. -/
def AscS (W : Nat → Int) (l : List Nat) : Prop := l.Pairwise fun a b => W (4 + a) < W (4 + b)
theorem afterR_drop (W : Nat → Int) (f : Int) : ∀ l, AscS W l → afterR f (entsW W l) = (entsW W l).drop (findIdx W f l) := by
  intro l
  induction l with
  | nil => intro _; simp [afterR, entsW, findIdx]
  | cons s l ih =>
    intro h
    obtain ⟨h1, h2⟩ := List.pairwise_cons.1 h
    by_cases hs : W (4 + s) < f
    · rw [show findIdx W f (s :: l) = findIdx W f l + 1 by simp [findIdx, hs]]
      have : afterR f (entsW W (s :: l)) = afterR f (entsW W l) := by simp [afterR, entsW, hs]
      rw [this, ih h2]; simp [entsW]
    · rw [show findIdx W f (s :: l) = 0 by simp [findIdx, hs], List.drop_zero]
      unfold afterR
      rw [List.filter_eq_self]
      intro e he
      simp only [entsW, List.map_cons, List.mem_cons, List.mem_map] at he
      rcases he with rfl | ⟨t, ht, rfl⟩
      · simp; omega
      · have := h1 t ht; simp; omega
theorem wantR_none (k : Int) : ∀ (E : List (Int × Int)) (s : Int × Bool), (∀ e ∈ E, e.1 ≠ k) → E.foldl (fun s e => if e.1 = k then (e.2, true) else s) s = s := by
  intro E
  induction E with
  | nil => intro s _; rfl
  | cons e E ih => intro s h; rw [List.foldl_cons, if_neg (h e (by simp)), ih s (fun x hx => h x (by simp [hx]))]
theorem wantR_get (W : Nat → Int) (k : Int) : ∀ l, AscS W l → wantR k (entsW W l) = if foundB W k l then (W (16 + l.getD (findIdx W k l) 0), true) else (0, false) := by
  intro l
  induction l with
  | nil => intro _; simp [wantR, entsW, foundB]
  | cons s l ih =>
    intro h
    obtain ⟨h1, h2⟩ := List.pairwise_cons.1 h
    by_cases hs : W (4 + s) < k
    · have e1 : findIdx W k (s :: l) = findIdx W k l + 1 := by simp [findIdx, hs]
      have e2 : foundB W k (s :: l) = foundB W k l := by unfold foundB; rw [e1]; rfl
      have e3 : wantR k (entsW W (s :: l)) = wantR k (entsW W l) := by
        unfold wantR entsW
        rw [List.map_cons, List.foldl_cons, if_neg (by simp; omega)]
      rw [e3, e2, e1, ih h2]; rfl
    · have e1 : findIdx W k (s :: l) = 0 := by simp [findIdx, hs]
      have hn : ∀ e ∈ entsW W l, e.1 ≠ k := by
        intro e he
        simp only [entsW, List.mem_map] at he
        obtain ⟨t, ht, rfl⟩ := he
        have := h1 t ht; simp; omega
      have e2 : foundB W k (s :: l) = (W (4 + s) == k) := by unfold foundB; rw [e1]; rfl
      rw [e2, e1]
      unfold wantR
      rw [show entsW W (s :: l) = (W (4 + s), W (16 + s)) :: entsW W l from rfl, List.foldl_cons, wantR_none k _ _ hn]
      by_cases hk : W (4 + s) = k
      · simp [hk]
      · simp [hk]
theorem getV_wantR (W : Nat → Int) (k : Int) (h : AscS W (slotsW W)) : getV W k = .tuple #[.int .u64 (wantR k (entsW W (slotsW W))).1, .int .i64 (if (wantR k (entsW W (slotsW W))).2 then 0 else 5)] := by
  rw [wantR_get W k _ h]
  unfold getV
  cases foundB W k (slotsW W) <;> simp
theorem IsNode.asc {n : NodeP} {W : Nat → Int} (h : IsNode W n) : AscS W (slotsW W) := by
  rw [h.slots]
  unfold AscS
  rw [List.pairwise_iff_getElem]
  intro i j hi hj hij
  rw [(h.entry i _ (List.getElem?_eq_getElem hi)).1, (h.entry j _ (List.getElem?_eq_getElem hj)).1]
  exact nKeys_asc n i j hij (by rw [← nSlots_len]; exact hj)
theorem keysOf_ents (W : Nat → Int) (l : List Nat) : keysOf W l = (entsW W l).map (·.1) := by simp [keysOf, entsW]
end Go.Proofs.Ytkoijmoendepgaa
