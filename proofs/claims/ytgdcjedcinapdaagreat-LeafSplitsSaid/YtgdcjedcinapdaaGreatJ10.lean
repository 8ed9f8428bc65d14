/- Plain: a node that is cut, a new node of the rest, and the two joined again. No program in sight. -/
import Derived.Test.YtgdcjedcinapdaaGreatJ8
import Derived.Test.YtgdcjedcinapdaaGreatJ4
import Derived.Test.YtgdcjedcinapdaaGreatJ9
import Derived.Test.YtgdcjedcinapdaaGreatJ7
import Derived.Deep.RegionHeld3
import Derived.Deep.DrawnRows
import Derived.Test.YtgdcjedcinapdaaGreatJ1
import Derived.Laws.Closers25b
import Derived.Laws.Bits64b
import Derived.Lib.ItoaNum
namespace Go.Proofs.YtgdcjedcinapdaaGreat
open Go.RowKit

/-- Cut's writes. -/
def cutL (W : Nat → Int) (off k nx : Nat) : List (Nat × Int) :=
  [(off + 8, (nx : Int)), (off + 16, keyAt W (slotsW W) k), (off + 24, 1), (off, ((ordN ((slotsW W).take k) ((W 0).toNat / 4503599627370496 + 1) : Nat) : Int))]
/-- A node's words are good and hold these entries. -/
structure NodeIs (V : Nat → Int) (E : List (Int × Int)) : Prop where
  ok : nodeOk V 768
  ents : entsW V (slotsW V) = E
  bd : ∀ i, i < 28 → 0 ≤ V i ∧ V i < 18446744073709551616
theorem NodeIs.congr {V V' : Nat → Int} {E : List (Int × Int)} (h : NodeIs V E) (e : ∀ i, V' i = V i) : NodeIs V' E := by
  rw [show V' = V from funext e]; exact h
theorem NodeIs.len {V : Nat → Int} {E : List (Int × Int)} (h : NodeIs V E) : E.length = (slotsW V).length := by rw [← h.ents]; simp [entsW]
theorem NodeIs.le {V : Nat → Int} {E : List (Int × Int)} (h : NodeIs V E) : E.length ≤ 12 := by rw [h.len]; exact (ok_good h.ok).len
/-- What is asked of entries, a high key and a successor. -/
structure EGood (E : List (Int × Int)) (w1 w2 w3 : Int) : Prop where
  asc : E.Pairwise fun a b => a.1 < b.1
  bd : w3 = 0 ∧ w2 = 0 ∨ w3 = 1 ∧ ∀ e ∈ E, e.1 < w2
  nx : w1 = 0 ∨ ptrValid w1.toNat 768 = true
theorem ents_asc (W : Nat → Int) (l : List Nat) : (entsW W l).Pairwise (fun a b => a.1 < b.1) ↔ AscS W l := by
  unfold entsW AscS
  rw [List.pairwise_map]
theorem NGood.e {W : Nat → Int} {l : List Nat} (h : NGood W l 768) : EGood (entsW W l) (W 1) (W 2) (W 3) :=
  ⟨(ents_asc W l).2 h.asc, h.bd.imp id fun h => ⟨h.1, fun e he => by obtain ⟨s, hs, rfl⟩ := ents_mem he; exact h.2 s hs⟩, h.nx⟩
theorem NodeIs.e {V : Nat → Int} {E : List (Int × Int)} (h : NodeIs V E) : EGood E (V 1) (V 2) (V 3) := by
  have := (ok_good h.ok).e
  rw [h.ents] at this
  exact this
/-- Words that hold good entries in free slots are a node's. -/
theorem EGood.node {W : Nat → Int} {l : List Nat} {c : Nat} {E : List (Int × Int)} (hE : EGood E (W 1) (W 2) (W 3)) (he : entsW W l = E) (hlen : l.length ≤ 12) (hlt : ∀ s ∈ l, s < 12) (hnd : l.Nodup) (h0 : W 0 = (ordN l c : Nat)) (hb : ∀ i, i < 28 → 0 ≤ W i ∧ W i < 18446744073709551616) : NodeIs W E ∧ slotsW W = l := by
  have hg : NGood W l 768 := by
    refine ⟨hlen, hlt, hnd, (ents_asc W l).1 (by rw [he]; exact hE.asc), hE.bd.imp id fun h => ⟨h.1, fun s hs => ?_⟩, hE.nx⟩
    exact h.2 (W (4 + s), W (16 + s)) (by rw [← he]; exact List.mem_map.2 ⟨s, hs, rfl⟩)
  obtain ⟨h1, h2⟩ := good_ok hg h0
  exact ⟨⟨h1, by rw [h2]; exact he, hb⟩, h2⟩
theorem ord_bd (l : List Nat) (c : Nat) (hlt : ∀ s ∈ l, s < 12) (hlen : l.length ≤ 12) : ordN l c < 18446744073709551616 := by
  have := ord_lt l l.length c (fun s hs => by have := hlt s hs; omega) (by omega) hlen
  unfold ordN; omega
/-- The words behind a cut. -/
theorem cut_words {C W : Nat → Int} {off k nx : Nat} (hWC : ∀ i, W i = C (off / 8 + i)) (h8 : off % 8 = 0) (i : Nat) :
    look (cutL W off k nx) (C (off / 8 + i)) (off / 8 + i) = if i = 0 then ((ordN ((slotsW W).take k) ((W 0).toNat / 4503599627370496 + 1) : Nat) : Int) else if i = 1 then (nx : Int) else if i = 2 then keyAt W (slotsW W) k else if i = 3 then 1 else W i := by
  unfold cutL
  simp only [look, List.foldl_cons, List.foldl_nil]
  by_cases e0 : i = 0
  · subst e0; rw [if_pos (show off / 8 = off / 8 + 0 by omega), if_pos rfl]
  rw [if_neg (show ¬ off / 8 = off / 8 + i by omega), if_neg e0]
  by_cases e3 : i = 3
  · subst e3; rw [if_pos (by omega), if_neg (by omega), if_neg (by omega), if_pos rfl]
  rw [if_neg (show ¬ (off + 24) / 8 = off / 8 + i by omega)]
  by_cases e2 : i = 2
  · subst e2; rw [if_pos (by omega), if_neg (by omega), if_pos rfl]
  rw [if_neg (show ¬ (off + 16) / 8 = off / 8 + i by omega)]
  by_cases e1 : i = 1
  · subst e1; rw [if_pos (by omega), if_pos rfl]
  rw [if_neg (show ¬ (off + 8) / 8 = off / 8 + i by omega), if_neg e1, if_neg e2, if_neg e3, hWC]
/-- The node behind a cut. -/
theorem cut_node {C W : Nat → Int} {off k nx : Nat} {E : List (Int × Int)} (h : NodeIs W E) (hWC : ∀ i, W i = C (off / 8 + i)) (h8 : off % 8 = 0) (hk : k < E.length) (hn : ptrValid nx 768 = true) (hn2 : nx < 18446744073709551616) {V : Nat → Int} (hV : ∀ i, V i = look (cutL W off k nx) (C (off / 8 + i)) (off / 8 + i)) :
    NodeIs V (E.take k) ∧ V 1 = nx ∧ V 2 = (E.getD k (0, 0)).1 ∧ V 3 = 1 := by
  have hlen := h.len
  have hg := ok_good h.ok
  have hv : ∀ i, V i = _ := fun i => (hV i).trans (cut_words hWC h8 i)
  have v1 : V 1 = nx := by rw [hv, if_neg (by omega), if_pos rfl]
  have hkey : keyAt W (slotsW W) k = (E.getD k (0, 0)).1 := by
    have hk2 : k < (slotsW W).length := by omega
    rw [keyAt_get W _ k hk2]
    have he : E[k]? = (entsW W (slotsW W))[k]? := by rw [h.ents]
    rw [List.getD_eq_getElem?_getD, he]
    simp [entsW, hk2]
  have v2 : V 2 = (E.getD k (0, 0)).1 := by rw [hv, if_neg (by omega), if_neg (by omega), if_pos rfl, hkey]
  have v3 : V 3 = 1 := by rw [hv, if_neg (by omega), if_neg (by omega), if_neg (by omega), if_pos rfl]
  have v4 : ∀ i, 4 ≤ i → V i = W i := fun i hi => by rw [hv, if_neg (by omega), if_neg (by omega), if_neg (by omega), if_neg (by omega)]
  have hen : entsW V ((slotsW W).take k) = E.take k := by
    rw [entsW_congr (W := W) (fun s _ => ⟨v4 _ (by omega), v4 _ (by omega)⟩), ← h.ents]
    simp [entsW, List.map_take]
  have hE := h.e
  have hgd : E.getD k (0, 0) ∈ E := by rw [List.getD_eq_getElem?_getD, List.getElem?_eq_getElem hk]; exact List.getElem_mem hk
  have hEG : EGood (E.take k) (V 1) (V 2) (V 3) := by
    refine ⟨hE.asc.sublist (List.take_sublist k E), .inr ⟨v3, fun e he => ?_⟩, .inr (by rw [v1, Int.toNat_natCast]; exact hn)⟩
    rw [v2]
    obtain ⟨i, hi, rfl⟩ := List.getElem_of_mem he
    have hi2 : i < k := by rw [List.length_take] at hi; omega
    rw [List.getElem_take, List.getD_eq_getElem?_getD, List.getElem?_eq_getElem hk]
    exact (List.pairwise_iff_getElem.1 hE.asc) i k _ hk hi2
  have hsub : ∀ s ∈ (slotsW W).take k, s < 12 := fun s hs => hg.lt s (List.mem_of_mem_take hs)
  have htl : ((slotsW W).take k).length ≤ 12 := by rw [List.length_take]; have := hg.len; omega
  refine ⟨(hEG.node hen htl hsub (hg.nd.sublist (List.take_sublist k _)) (by rw [hv, if_pos rfl]) (fun i hi => ?_)).1, v1, v2, v3⟩
  by_cases e4 : 4 ≤ i
  · rw [v4 i e4]; exact h.bd i hi
  · obtain rfl | rfl | rfl | rfl : i = 0 ∨ i = 1 ∨ i = 2 ∨ i = 3 := by omega
    · rw [hv, if_pos rfl]
      have := ord_bd ((slotsW W).take k) ((W 0).toNat / 4503599627370496 + 1) hsub htl
      omega
    · rw [v1]; omega
    · rw [v2, ← hkey, keyAt_get W _ k (by omega)]
      have := hg.lt _ (List.getElem_mem (show k < (slotsW W).length by omega))
      exact h.bd _ (by omega)
    · rw [v3]; omega
/-- Keys and values of entries. -/
def ksE (E : List (Int × Int)) : List Int := E.map (·.1)
def vsE (E : List (Int × Int)) : List Int := E.map (·.2)
theorem keysOf_E (W : Nat → Int) (l : List Nat) : keysOf W l = ksE (entsW W l) := by simp [keysOf, ksE, entsW]
theorem valsOf_E (W : Nat → Int) (l : List Nat) : valsOf W l = vsE (entsW W l) := by simp [valsOf, vsE, entsW]
/-- The node that Encode makes. -/
theorem enc_node {E : List (Int × Int)} {nx hi : Int} {b : Bool} (hlen : E.length ≤ 12) (hE : EGood E nx hi (if b then 1 else 0)) (hb : ∀ e ∈ E, (0 ≤ e.1 ∧ e.1 < 18446744073709551616) ∧ 0 ≤ e.2 ∧ e.2 < 18446744073709551616) (hnx : 0 ≤ nx ∧ nx < 18446744073709551616) (hhi : 0 ≤ hi ∧ hi < 18446744073709551616)
    {V : Nat → Int} (hV : ∀ i, i < 28 → V i = encW (ksE E) (vsE E) nx hi b i) : NodeIs V E ∧ V 1 = nx ∧ V 2 = hi ∧ V 3 = (if b then 1 else 0) := by
  have hk : (ksE E).length = E.length := by simp [ksE]
  have v0 : V 0 = (ordN (List.range E.length) 0 : Nat) := by rw [hV 0 (by omega)]; unfold encW; rw [if_pos rfl, hk]
  have v1 : V 1 = nx := by rw [hV 1 (by omega)]; unfold encW; rw [if_neg (by omega), if_pos rfl]
  have v3 : V 3 = (if b then 1 else 0) := by rw [hV 3 (by omega)]; unfold encW; rw [if_neg (by omega), if_neg (by omega), if_neg (by omega), if_pos rfl]
  have v2 : V 2 = hi := by
    rw [hV 2 (by omega)]; unfold encW; rw [if_neg (by omega), if_neg (by omega), if_pos rfl]
    cases b with
    | true => rfl
    | false =>
      rcases hE.bd with ⟨_, h⟩ | ⟨h, _⟩
      · rw [h]; rfl
      · simp at h
  have vk : ∀ s, s < E.length → V (4 + s) = (E.getD s (0, 0)).1 ∧ V (16 + s) = (E.getD s (0, 0)).2 := fun s hs => by
    rw [hV _ (by omega), hV _ (by omega)]
    unfold encW encF
    rw [hk]
    constructor
    · rw [if_neg (by omega), if_neg (by omega), if_neg (by omega), if_neg (by omega), if_pos (by omega), show 4 + s - 4 = s by omega]
      simp [ksE, List.getD, hs]
    · rw [if_neg (by omega), if_neg (by omega), if_neg (by omega), if_neg (by omega), if_neg (by omega), if_pos (by omega), show 16 + s - 16 = s by omega]
      simp [vsE, List.getD, hs]
  have hen : entsW V (List.range E.length) = E := by
    refine List.ext_getElem (by simp [entsW]) fun i h1 h2 => ?_
    have := vk i h2
    simp [entsW, this.1, this.2, List.getD, h2]
  have hEG : EGood E (V 1) (V 2) (V 3) := by rw [v1, v2, v3]; exact hE
  refine ⟨(hEG.node hen (by simpa using hlen) (fun s hs => by have := List.mem_range.1 hs; omega) List.nodup_range v0 (fun i hi => ?_)).1, v1, v2, v3⟩
  rw [hV i hi]
  unfold encW
  split
  · have := ord_bd (List.range (ksE E).length) 0 (fun s hs => by have := List.mem_range.1 hs; omega) (by rw [List.length_range]; omega)
    omega
  · split
    · exact hnx
    · split
      · split
        · exact hhi
        · omega
      · split
        · split <;> omega
        · unfold encF
          rw [hk]
          split
          · rename_i _ _ _ _ h
            have hm : E[i - 4]'(by omega) ∈ E := List.getElem_mem _
            have : (ksE E).getD (i - 4) 0 = (E[i - 4]'(by omega)).1 := by simp [ksE, List.getD, show i - 4 < E.length by omega]
            rw [this]; exact (hb _ hm).1
          · split
            · rename_i _ _ _ _ _ h
              have hm : E[i - 16]'(by omega) ∈ E := List.getElem_mem _
              have : (vsE E).getD (i - 16) 0 = (E[i - 16]'(by omega)).2 := by simp [vsE, List.getD, show i - 16 < E.length by omega]
              rw [this]; exact (hb _ hm).2
            · omega
theorem EGood.drop {E : List (Int × Int)} {w1 w2 w3 : Int} (h : EGood E w1 w2 w3) (k : Nat) : EGood (E.drop k) w1 w2 w3 :=
  ⟨h.asc.sublist (List.drop_sublist k E), h.bd.imp id fun h => ⟨h.1, fun e he => h.2 e (List.mem_of_mem_drop he)⟩, h.nx⟩
theorem NodeIs.vals {V : Nat → Int} {E : List (Int × Int)} (h : NodeIs V E) : ∀ e ∈ E, (0 ≤ e.1 ∧ e.1 < 18446744073709551616) ∧ 0 ≤ e.2 ∧ e.2 < 18446744073709551616 := fun e he => by
  rw [← h.ents] at he
  obtain ⟨s, hs, rfl⟩ := ents_mem he
  have := (ok_good h.ok).lt s hs
  exact ⟨h.bd _ (by omega), h.bd _ (by omega)⟩
/-- The slots and the words while the right node's entries come in. -/
structure JoinI (C V : Nat → Int) (off : Nat) (sV s0 : List Nat) (i : Nat) : Prop where
  nd : (joinSt off V sV s0 i).1.Nodup
  lt : ∀ s ∈ (joinSt off V sV s0 i).1, s < 12
  ents : entsW (fun j => look (joinSt off V sV s0 i).2 (C (off / 8 + j)) (off / 8 + j)) (joinSt off V sV s0 i).1 = entsW (fun j => C (off / 8 + j)) s0 ++ entsW V (sV.take i)
  low : ∀ e ∈ (joinSt off V sV s0 i).2, e.1 % 8 = 0 ∧ off + 32 ≤ e.1 ∧ e.1 < off + 224 ∧ ∃ q ∈ sV, e.2 = V (4 + q) ∨ e.2 = V (16 + q)
theorem join_in {C V : Nat → Int} {off : Nat} {sV s0 : List Nat} (h8 : off % 8 = 0) (hlt : ∀ s ∈ s0, s < 12) (hnd : s0.Nodup) : ∀ i, i ≤ sV.length → s0.length + i ≤ 12 → JoinI C V off sV s0 i := by
  intro i
  induction i with
  | zero =>
    intro _ _
    refine ⟨hnd, hlt, ?_, fun e he => by simp [joinSt] at he⟩
    show entsW (fun j => look [] (C (off / 8 + j)) (off / 8 + j)) s0 = _
    simp [look, entsW]
  | succ i ih =>
    intro h1 h2
    obtain ⟨i1, i2, i3, i4⟩ := ih (by omega) (by omega)
    have hl := (joinSt_len off V sV s0 i).1
    obtain ⟨f1, f2⟩ := unusedN_free (joinSt off V sV s0 i).1 (by omega)
    have e1 : (joinSt off V sV s0 (i + 1)).1 = (joinSt off V sV s0 i).1 ++ [unusedN (joinSt off V sV s0 i).1] := rfl
    have e2 : (joinSt off V sV s0 (i + 1)).2 = (joinSt off V sV s0 i).2 ++ [(off + 8 * (4 + unusedN (joinSt off V sV s0 i).1), V (4 + sV.getD i 0)), (off + 8 * (16 + unusedN (joinSt off V sV s0 i).1), V (16 + sV.getD i 0))] := rfl
    generalize unusedN (joinSt off V sV s0 i).1 = f at *
    have hq : sV.getD i 0 ∈ sV := by rw [List.getD_eq_getElem?_getD, List.getElem?_eq_getElem (by omega)]; exact List.getElem_mem _
    have hlk : ∀ d j, look (joinSt off V sV s0 (i + 1)).2 d (off / 8 + j) = if j = 16 + f then V (16 + sV.getD i 0) else if j = 4 + f then V (4 + sV.getD i 0) else look (joinSt off V sV s0 i).2 d (off / 8 + j) := fun d j => by
      rw [e2, look_append]
      simp only [look, List.foldl_cons, List.foldl_nil]
      by_cases a : j = 16 + f
      · rw [if_pos (show (off + 8 * (16 + f)) / 8 = off / 8 + j by omega), if_pos a]
      · rw [if_neg (show ¬ (off + 8 * (16 + f)) / 8 = off / 8 + j by omega), if_neg a]
        by_cases b : j = 4 + f
        · rw [if_pos (show (off + 8 * (4 + f)) / 8 = off / 8 + j by omega), if_pos b]
        · rw [if_neg (show ¬ (off + 8 * (4 + f)) / 8 = off / 8 + j by omega), if_neg b]
    refine ⟨?_, ?_, ?_, ?_⟩
    · rw [e1]
      exact List.nodup_append.2 ⟨i1, List.nodup_cons.2 ⟨by simp, List.nodup_nil⟩, fun a ha b hb e => by simp at hb; subst hb; subst e; exact f2 ha⟩
    · intro s hs
      rw [e1] at hs
      rcases List.mem_append.1 hs with hs | hs
      · exact i2 s hs
      · simp at hs; omega
    · rw [e1, entsW_append]
      have ht : sV.take (i + 1) = sV.take i ++ [sV.getD i 0] := by
        rw [List.take_add_one, List.getElem?_eq_getElem (by omega), List.getD_eq_getElem?_getD, List.getElem?_eq_getElem (by omega)]; rfl
      rw [ht, entsW_append, ← List.append_assoc, ← i3]
      congr 1
      · refine entsW_congr fun s hs => ?_
        have hs12 := i2 s hs
        have hne : s ≠ f := fun e => f2 (e ▸ hs)
        constructor
        · show look _ _ _ = _
          rw [hlk, if_neg (by omega), if_neg (by omega)]
        · show look _ _ _ = _
          rw [hlk, if_neg (by omega), if_neg (by omega)]
      · show [(look _ _ _, look _ _ _)] = [(V (4 + sV.getD i 0), V (16 + sV.getD i 0))]
        rw [hlk, hlk, if_neg (by omega), if_pos rfl, if_pos rfl]
    · intro e he
      rw [e2] at he
      rcases List.mem_append.1 he with he | he
      · exact i4 e he
      · simp at he
        rcases he with rfl | rfl
        · exact ⟨by simp only; omega, by simp only; omega, by simp only; omega, _, hq, .inl rfl⟩
        · exact ⟨by simp only; omega, by simp only; omega, by simp only; omega, _, hq, .inr rfl⟩
/-- A node and its successor joined. -/
theorem join_node {C U V : Nat → Int} {off : Nat} {A B : List (Int × Int)} (hU : NodeIs U A) (hV : NodeIs V B) (hUC : ∀ i, U i = C (off / 8 + i)) (h8 : off % 8 = 0) (h12 : A.length + B.length ≤ 12) (hE : EGood (A ++ B) (V 1) (V 2) (V 3)) :
    (joinP U off V).2 = 0 ∧ (∀ e ∈ (joinP U off V).1, e.1 % 8 = 0 ∧ off ≤ e.1 ∧ e.1 < off + 224 ∧ 0 ≤ e.2 ∧ e.2 < 18446744073709551616) ∧
      ∀ X : Nat → Int, (∀ i, X i = look (joinP U off V).1 (C (off / 8 + i)) (off / 8 + i)) → NodeIs X (A ++ B) ∧ X 1 = V 1 ∧ X 2 = V 2 ∧ X 3 = V 3 := by
  have hu := ok_good hU.ok; have hv := ok_good hV.ok
  have hul := hU.len; have hvl := hV.len
  have hnk : ¬ (0 < (slotsW U).length ∧ 0 < (slotsW V).length ∧ keyAt V (slotsW V) 0 ≤ keyAt U (slotsW U) ((slotsW U).length - 1)) := by
    rintro ⟨a, b, c⟩
    rw [keyAt_get V _ 0 b, keyAt_get U _ _ (by omega)] at c
    obtain ⟨_, _, h3⟩ := List.pairwise_append.1 hE.asc
    have m1 : (U (4 + (slotsW U)[(slotsW U).length - 1]), U (16 + (slotsW U)[(slotsW U).length - 1])) ∈ A := by rw [← hU.ents]; exact List.mem_map.2 ⟨_, List.getElem_mem _, rfl⟩
    have m2 : (V (4 + (slotsW V)[0]), V (16 + (slotsW V)[0])) ∈ B := by rw [← hV.ents]; exact List.mem_map.2 ⟨_, List.getElem_mem _, rfl⟩
    have := h3 _ m1 _ m2
    simp only at this; omega
  have hJ : joinP U off V = ((joinSt off V (slotsW V) (slotsW U) (slotsW V).length).2 ++ [(off + 8, V 1), (off + 16, V 2), (off + 24, V 3), (off, (ordN (joinSt off V (slotsW V) (slotsW U) (slotsW V).length).1 ((U 0).toNat / 4503599627370496 + 1) : Nat))], 0) := by
    unfold joinP; simp only []
    rw [if_neg (by omega), if_neg hnk]
  obtain ⟨j1, j2, j3, j4⟩ := join_in (C := C) (V := V) (sV := slotsW V) h8 hu.lt hu.nd (slotsW V).length (Nat.le_refl _) (by omega)
  have jl := (joinSt_len off V (slotsW V) (slotsW U) (slotsW V).length).1
  rw [hJ]
  have hob := ord_bd _ ((U 0).toNat / 4503599627370496 + 1) j2 (by omega)
  generalize (joinSt off V (slotsW V) (slotsW U) (slotsW V).length).2 = S at *
  generalize (joinSt off V (slotsW V) (slotsW U) (slotsW V).length).1 = l at *
  rw [List.take_length, hV.ents] at j3
  have hUf : (fun j => C (off / 8 + j)) = U := funext fun j => (hUC j).symm
  rw [hUf, hU.ents] at j3
  have hSb : ∀ e ∈ S, 0 ≤ e.2 ∧ e.2 < 18446744073709551616 := fun e he => by
    obtain ⟨_, _, _, q, hq, h | h⟩ := j4 e he
    · rw [h]; exact hV.bd _ (by have := hv.lt q hq; omega)
    · rw [h]; exact hV.bd _ (by have := hv.lt q hq; omega)
  refine ⟨rfl, fun e he => ?_, fun X hX => ?_⟩
  · rcases List.mem_append.1 he with he | he
    · have := j4 e he
      exact ⟨this.1, by omega, this.2.2.1, hSb e he⟩
    · simp at he
      rcases he with rfl | rfl | rfl | rfl
      · exact ⟨by simp only; omega, by simp only; omega, by simp only; omega, hV.bd 1 (by omega)⟩
      · exact ⟨by simp only; omega, by simp only; omega, by simp only; omega, hV.bd 2 (by omega)⟩
      · exact ⟨by simp only; omega, by simp only; omega, by simp only; omega, hV.bd 3 (by omega)⟩
      · exact ⟨by simp only; omega, by simp only; omega, by simp only; omega, by simp only; omega, by simp only; omega⟩
  · have hx : ∀ i, X i = if i = 0 then ((ordN l ((U 0).toNat / 4503599627370496 + 1) : Nat) : Int) else if i = 3 then V 3 else if i = 2 then V 2 else if i = 1 then V 1 else look S (C (off / 8 + i)) (off / 8 + i) := fun i => by
      rw [hX, look_append]
      simp only [look, List.foldl_cons, List.foldl_nil]
      by_cases e0 : i = 0
      · subst e0; rw [if_pos (show off / 8 = off / 8 + 0 by omega), if_pos rfl]
      rw [if_neg (show ¬ off / 8 = off / 8 + i by omega), if_neg e0]
      by_cases e3 : i = 3
      · subst e3; rw [if_pos (show (off + 24) / 8 = off / 8 + 3 by omega), if_pos rfl]
      rw [if_neg (show ¬ (off + 24) / 8 = off / 8 + i by omega), if_neg e3]
      by_cases e2 : i = 2
      · subst e2; rw [if_pos (show (off + 16) / 8 = off / 8 + 2 by omega), if_pos rfl]
      rw [if_neg (show ¬ (off + 16) / 8 = off / 8 + i by omega), if_neg e2]
      by_cases e1 : i = 1
      · subst e1; rw [if_pos (show (off + 8) / 8 = off / 8 + 1 by omega), if_pos rfl]
      rw [if_neg (show ¬ (off + 8) / 8 = off / 8 + i by omega), if_neg e1]
    have x1 : X 1 = V 1 := by rw [hx, if_neg (by omega), if_neg (by omega), if_neg (by omega), if_pos rfl]
    have x2 : X 2 = V 2 := by rw [hx, if_neg (by omega), if_neg (by omega), if_pos rfl]
    have x3 : X 3 = V 3 := by rw [hx, if_neg (by omega), if_pos rfl]
    have x4 : ∀ i, 4 ≤ i → X i = look S (C (off / 8 + i)) (off / 8 + i) := fun i hi => by rw [hx, if_neg (by omega), if_neg (by omega), if_neg (by omega), if_neg (by omega)]
    have hen : entsW X l = A ++ B := by
      rw [← j3]
      exact entsW_congr fun s _ => ⟨x4 _ (by omega), x4 _ (by omega)⟩
    have hEG : EGood (A ++ B) (X 1) (X 2) (X 3) := by rw [x1, x2, x3]; exact hE
    refine ⟨(hEG.node hen (by omega) j2 j1 (by rw [hx, if_pos rfl]) (fun i hi => ?_)).1, x1, x2, x3⟩
    by_cases e4 : 4 ≤ i
    · rw [x4 i e4]
      rcases look_may S (C (off / 8 + i)) (off / 8 + i) with h | ⟨e, he, _, h⟩
      · rw [h, ← hUC]; exact hU.bd i hi
      · rw [h]; exact hSb e he
    · obtain rfl | rfl | rfl | rfl : i = 0 ∨ i = 1 ∨ i = 2 ∨ i = 3 := by omega
      · rw [hx, if_pos rfl]; omega
      · rw [x1]; exact hV.bd 1 (by omega)
      · rw [x2]; exact hV.bd 2 (by omega)
      · rw [x3]; exact hV.bd 3 (by omega)
/-- Stores laid down. -/
theorem runC_stores (ws : List (Nat × Int)) (C : Nat → Int) (i : Nat) : runC C (storesL ws) i = look ws (C i) i := by
  have hf : ∀ (p : List (Nat × Nat × Int)), (∀ e ∈ p, e.1 ≠ 1) → ∀ C : Nat → Int, runC C p = C := by
    intro p
    induction p with
    | nil => intro _ C; rfl
    | cons e p ih =>
      intro h C
      show runC (if e.1 = 1 then _ else C) p = C
      rw [if_neg (h e (by simp))]
      exact ih (fun x hx => h x (by simp [hx])) C
  unfold storesL
  rw [runC_append, hf _ (fun e he => by
    unfold flushL at he
    split at he
    · simp at he
    · rcases List.mem_append.1 he with he | he
      · obtain ⟨x, _, rfl⟩ := List.mem_map.1 he; simp
      · simp at he; subst he; simp)]
  have : ∀ (ws : List (Nat × Int)) (C : Nat → Int), runC C (ws.map fun e => (1, e.1, e.2)) i = look ws (C i) i := by
    intro ws
    induction ws with
    | nil => intro C; rfl
    | cons e ws ih =>
      intro C
      show runC (if (1 : Nat) = 1 then (fun i => if i = e.1 / 8 then e.2 else C i) else C) (ws.map fun e => (1, e.1, e.2)) i = look ws (if e.1 / 8 = i then e.2 else C i) i
      rw [if_pos rfl, ih]
      by_cases h : i = e.1 / 8
      · rw [if_pos h, if_pos h.symm]
      · rw [if_neg h, if_neg (fun x => h x.symm)]
  exact this ws C
theorem progOk_stores {ws : List (Nat × Int)} {n : Nat} (h : ∀ e ∈ ws, e.1 % 8 = 0 ∧ e.1 < 64 * n) : progOk n (storesL ws) := by
  intro e he
  unfold storesL at he
  rcases List.mem_append.1 he with he | he
  · obtain ⟨x, hx, rfl⟩ := List.mem_map.1 he
    exact .inl ⟨rfl, h x hx⟩
  · unfold flushL at he
    split at he
    · simp at he
    · rcases List.mem_append.1 he with he | he
      · obtain ⟨l, hl, rfl⟩ := List.mem_map.1 he
        obtain ⟨x, hx, rfl⟩ := (linesL_mem _ _).1 hl
        obtain ⟨y, hy, rfl⟩ := List.mem_map.1 hx
        have := h y hy
        exact .inr (.inl ⟨rfl, by simp only; omega⟩)
      · simp at he; subst he; exact .inr (.inr ⟨rfl, rfl⟩)
theorem storesL_lenS (ws : List (Nat × Int)) : (storesL ws).length ≤ 2 * ws.length + 1 := by
  have h := linesL_len (ws.map (·.1))
  rw [List.length_map] at h
  unfold storesL flushL
  rw [List.length_append, List.length_map]
  split
  · simp; omega
  · simp; omega
theorem slotsW_congr {V V' : Nat → Int} (h : V' 0 = V 0) : slotsW V' = slotsW V := by unfold slotsW; rw [h]
theorem NodeIs.congr28 {V V' : Nat → Int} {E : List (Int × Int)} (h : NodeIs V E) (e : ∀ i, i < 28 → V' i = V i) : NodeIs V' E := by
  have hs : slotsW V' = slotsW V := slotsW_congr (e 0 (by omega))
  have hg := ok_good h.ok
  have hlt := hg.lt
  refine ⟨good_valid (hg.congr (fun s hs => e _ (by have := hlt s hs; omega)) (e 1 (by omega)) (e 2 (by omega)) (e 3 (by omega))) hs (by rw [e 0 (by omega)]; exact h.ok.1), ?_, fun i hi => by rw [e i hi]; exact h.bd i hi⟩
  rw [hs, ← h.ents]
  exact entsW_congr fun s hs => ⟨e _ (by have := hlt s hs; omega), e _ (by have := hlt s hs; omega)⟩
theorem cutL_congr {V V' : Nat → Int} {E : List (Int × Int)} (h : NodeIs V E) (e : ∀ i, i < 28 → V' i = V i) (off k nx : Nat) (hk : k < E.length) : cutL V' off k nx = cutL V off k nx := by
  have hs : slotsW V' = slotsW V := slotsW_congr (e 0 (by omega))
  have hl := h.len
  unfold cutL
  rw [hs, keyAt_get V' _ k (by omega), keyAt_get V _ k (by omega), e 0 (by omega), e _ (by have := (ok_good h.ok).lt _ (List.getElem_mem (show k < (slotsW V).length by omega)); omega)]
theorem enc_good {E : List (Int × Int)} {w1 w2 w3 : Int} (h : EGood E w1 w2 w3) : ∀ i, i < (ksE E).length → ¬ badAt (ksE E) w2 (w3 == 1) i := by
  intro i hi hb
  have hl : i < E.length := by simpa [ksE] using hi
  have hk : ∀ j, j < E.length → (ksE E).getD j 0 = (E.getD j (0, 0)).1 := fun j hj => by simp [ksE, List.getD, hj]
  rcases hb with ⟨h0, h1⟩ | ⟨h0, h1⟩
  · rw [hk i hl, hk (i - 1) (by omega)] at h1
    have := (List.pairwise_iff_getElem.1 h.asc) (i - 1) i (by omega) hl (by omega)
    simp [List.getD, hl, show i - 1 < E.length by omega] at h1
    omega
  · rw [hk i hl] at h1
    have h3 : w3 = 1 := by simpa using h0
    rcases h.bd with ⟨a, _⟩ | ⟨_, a⟩
    · rw [h3] at a; cases a
    · have := a _ (List.getElem_mem hl)
      simp [List.getD, hl] at h1
      omega
theorem EGood.if3 {E : List (Int × Int)} {w1 w2 w3 : Int} (h : EGood E w1 w2 w3) : w3 = if (w3 == 1) = true then 1 else 0 := by
  rcases h.bd with ⟨a, _⟩ | ⟨a, _⟩ <;> rw [a] <;> rfl
/-- The words that Encode makes, as a list. -/
def encL (E : List (Int × Int)) (nx hi : Int) (b : Bool) : List Int := (List.range 28).map (encW (ksE E) (vsE E) nx hi b)
theorem encL_len (E : List (Int × Int)) (nx hi : Int) (b : Bool) : (encL E nx hi b).length = 28 := by simp [encL]
theorem laid_in (C : Nat → Int) (E : List (Int × Int)) (nx hi : Int) (b : Bool) (i : Nat) (h : i < 28) : laid C 61 (encL E nx hi b) (61 + i) = encW (ksE E) (vsE E) nx hi b i := by
  unfold laid
  rw [encL_len, if_pos (by omega), show 61 + i - 61 = i by omega]
  simp [encL, List.getD, h]
theorem laid_out (C : Nat → Int) (E : List (Int × Int)) (nx hi : Int) (b : Bool) (i : Nat) (h : i < 61) : laid C 61 (encL E nx hi b) i = C i := by
  unfold laid
  rw [if_neg (by omega)]
theorem joinP_lenS (W V : Nat → Int) (off : Nat) : (joinP W off V).1.length ≤ 40 := by
  unfold joinP
  simp only []
  split
  · simp
  · split
    · simp
    · have := (joinSt_len off V (slotsW V) (slotsW W) (slotsW V).length).2
      simp only [List.length_append, List.length_cons, List.length_nil]
      omega
/-- What is there behind Encode and put, behind the cut, and behind the join. -/
structure SplP (C1 C2 C3 : Nat → Int) (off k : Nat) (E : List (Int × Int)) (W1 W2 W3 : Int) (cl jl : List (Nat × Int)) : Prop where
  r1 : NodeIs (fun i => C1 (488 / 8 + i)) (E.drop k)
  l2 : NodeIs (fun i => C2 (off / 8 + i)) (E.take k)
  r2 : NodeIs (fun i => C2 (488 / 8 + i)) (E.drop k)
  l21 : C2 (off / 8 + 1) = (ptrN 488 : Nat)
  l22 : C2 (off / 8 + 2) = (E.getD k (0, 0)).1
  l23 : C2 (off / 8 + 3) = 1
  jz : joinP (fun i => C2 (off / 8 + i)) off (fun i => C2 (488 / 8 + i)) = (jl, 0)
  l3 : NodeIs (fun i => C3 (off / 8 + i)) E
  l31 : C3 (off / 8 + 1) = W1
  l32 : C3 (off / 8 + 2) = W2
  l33 : C3 (off / 8 + 3) = W3
  co : ∀ e ∈ cl, e.1 % 8 = 0 ∧ e.1 < 768
  cn : cl.length ≤ 40
  jo : ∀ e ∈ jl, e.1 % 8 = 0 ∧ e.1 < 768
  jn : jl.length ≤ 40
theorem ptr488 : ptrValid (ptrN 488) 768 = true := by decide
theorem split_plain {C : Nat → Int} {off k : Nat} {E : List (Int × Int)} {W : Nat → Int} (hW : ∀ i, W i = C (off / 8 + i)) (h : NodeIs W E) (h8 : off % 8 = 0) (hoff : off + 224 ≤ 488) (hk : k < E.length) :
    ∃ jl, SplP (laid C 61 (encL (E.drop k) (W 1) (W 2) (W 3 == 1))) (fun i => look (cutL W off k (ptrN 488)) (laid C 61 (encL (E.drop k) (W 1) (W 2) (W 3 == 1)) i) i)
      (fun i => look jl (look (cutL W off k (ptrN 488)) (laid C 61 (encL (E.drop k) (W 1) (W 2) (W 3 == 1)) i) i) i) off k E (W 1) (W 2) (W 3) (cutL W off k (ptrN 488)) jl := by
  have hE := h.e
  have hEd := hE.drop k
  have h12 := h.le
  have hv := h.vals
  have hr := enc_node (E := E.drop k) (nx := W 1) (hi := W 2) (b := W 3 == 1) (by rw [List.length_drop]; omega) (by rw [← hE.if3]; exact hEd) (fun e he => hv e (List.mem_of_mem_drop he)) (h.bd 1 (by omega)) (h.bd 2 (by omega))
    (V := fun i => laid C 61 (encL (E.drop k) (W 1) (W 2) (W 3 == 1)) (488 / 8 + i)) (fun i hi => laid_in C _ _ _ _ i hi)
  have hlo : ∀ i, i < 61 → laid C 61 (encL (E.drop k) (W 1) (W 2) (W 3 == 1)) i = C i := fun i hi => laid_out C _ _ _ _ i hi
  generalize laid C 61 (encL (E.drop k) (W 1) (W 2) (W 3 == 1)) = C1 at *
  obtain ⟨r1, e1, e2, e3⟩ := hr
  rw [← hE.if3] at e3
  have hc28 : ∀ i, i < 28 → C1 (off / 8 + i) = W i := fun i hi => by rw [hlo _ (by omega), hW]
  have hl1 : NodeIs (fun i => C1 (off / 8 + i)) E := h.congr28 hc28
  have hcl : cutL (fun i => C1 (off / 8 + i)) off k (ptrN 488) = cutL W off k (ptrN 488) := cutL_congr h hc28 off k _ hk
  have hcn := cut_node (C := C1) (off := off) (k := k) (nx := ptrN 488) hl1 (fun _ => rfl) h8 hk ptr488 (by decide) (V := fun i => look (cutL W off k (ptrN 488)) (C1 (off / 8 + i)) (off / 8 + i)) (fun i => by rw [hcl])
  obtain ⟨l2, v1, v2, v3⟩ := hcn
  have hco : ∀ e ∈ cutL W off k (ptrN 488), e.1 % 8 = 0 ∧ e.1 < off + 32 := fun e he => by
    simp [cutL] at he
    rcases he with rfl | rfl | rfl | rfl <;> (simp only; omega)
  have hr2 : ∀ i, look (cutL W off k (ptrN 488)) (C1 (488 / 8 + i)) (488 / 8 + i) = C1 (488 / 8 + i) := fun i => look_other _ _ _ fun e he => by have := hco e he; omega
  have hcnl : (cutL W off k (ptrN 488)).length ≤ 40 := by simp [cutL]
  generalize cutL W off k (ptrN 488) = cl at *
  have r2 : NodeIs (fun i => look cl (C1 (488 / 8 + i)) (488 / 8 + i)) (E.drop k) := r1.congr hr2
  have hrv : ∀ i, (fun i => look cl (C1 (488 / 8 + i)) (488 / 8 + i)) i = (fun i => C1 (488 / 8 + i)) i := fun i => hr2 i
  have hj := join_node (C := fun i => look cl (C1 i) i) (off := off) l2 r2 (fun _ => rfl) h8 (by rw [List.length_take, List.length_drop]; omega) (by
    rw [List.take_append_drop]
    have a1 := hrv 1; have a2 := hrv 2; have a3 := hrv 3
    simp only at a1 a2 a3 e1 e2 e3 ⊢
    rw [a1, a2, a3, e1, e2, e3]; exact hE)
  obtain ⟨j0, j1, j2⟩ := hj
  obtain ⟨jl, hjl⟩ : ∃ jl, (joinP (fun i => look cl (C1 (off / 8 + i)) (off / 8 + i)) off (fun i => look cl (C1 (488 / 8 + i)) (488 / 8 + i))).1 = jl := ⟨_, rfl⟩
  rw [hjl] at j1 j2
  have hX := j2 (fun i => look jl (look cl (C1 (off / 8 + i)) (off / 8 + i)) (off / 8 + i)) (fun _ => rfl)
  rw [List.take_append_drop] at hX
  obtain ⟨x0, x1, x2, x3⟩ := hX
  have a1 := hrv 1; have a2 := hrv 2; have a3 := hrv 3
  simp only at a1 a2 a3 e1 e2 e3
  have hjn := joinP_lenS (fun i => look cl (C1 (off / 8 + i)) (off / 8 + i)) (fun i => look cl (C1 (488 / 8 + i)) (488 / 8 + i)) off
  rw [hjl] at hjn
  exact ⟨jl, r1, l2, r2, v1, v2, v3, Prod.ext hjl j0, x0, x1.trans (a1.trans e1), x2.trans (a2.trans e2), x3.trans (a3.trans e3), fun e he => by have := hco e he; omega, hcnl, fun e he => by have := j1 e he; omega, hjn⟩
end Go.Proofs.YtgdcjedcinapdaaGreat

/- Keys, Next, High, Half, Cut and Join of a node that cannot be read. -/
namespace Go.Proofs.YtgdcjedcinapdaaGreat
open Go.RowKit

section
variable {w : World} {p : Nat}
/-- A node that is not valid cannot be read. -/
theorem bad_read {v : DV} {own : Nat → Option Role} {D : Dev} {j : Nat} (h : NodeAt w v own D j p) (hbad : ¬ nodeOk (nodeW D p) (D.n * 64)) : ReadErr w (.iface 76 (.pointer (some ⟨v.tb j, 0, none⟩))) p 11 := by
  intro w' hw
  refine (h.below hw).read.mono ?_
  rintro r w1 ⟨hb, ⟨hk, _⟩ | ⟨_, rfl⟩⟩
  · exact absurd hk hbad
  · exact ⟨rfl, hb⟩
set_option maxRecDepth 100000 in
set_option maxHeartbeats 1000000 in
theorem keys_err {m : Value} {e : Int} (h : ReadErr w m p e) (hm : IsMem m) (he : e ≠ 0) : Calls Tryz.prog 25 #[.agg #[m, .int .u64 p]] w fun r w' => r = .returned (.slice none 0 0) ∧ Below w.heap.size w w' := by
  have H := Lib.hid h; clear h
  have hb : (e != 0) = true := by simpa using he
  rcases hm with rfl | ⟨a, rfl⟩
  all_goals
    go_enter Tryz.func25, Tryz.ntmps25
    go_wp2_with fail
    (with_reducible refine (H.out.alloc _).here.mono ?_)
    rintro r w1 ⟨rfl, hb⟩
    have HB := Lib.hid hb; clear hb
    go_wp2_with fail
    go_ret
    exact ⟨rfl, below_err HB.out⟩
set_option maxRecDepth 100000 in
set_option maxHeartbeats 1000000 in
theorem next_err {m : Value} {e : Int} (h : ReadErr w m p e) (hm : IsMem m) (he : e ≠ 0) : Calls Tryz.prog 27 #[.agg #[m, .int .u64 p]] w fun r w' => r = .returned (.int .u64 0) ∧ Below w.heap.size w w' := by
  have H := Lib.hid h; clear h
  have hb : (e != 0) = true := by simpa using he
  rcases hm with rfl | ⟨a, rfl⟩
  all_goals
    go_enter Tryz.func27, Tryz.ntmps27
    go_wp2_with fail
    (with_reducible refine (H.out.alloc _).here.mono ?_)
    rintro r w1 ⟨rfl, hb⟩
    have HB := Lib.hid hb; clear hb
    go_wp2_with fail
    go_ret
    exact ⟨rfl, below_err HB.out⟩
set_option maxRecDepth 100000 in
set_option maxHeartbeats 1000000 in
theorem high_err {m : Value} {e : Int} (h : ReadErr w m p e) (hm : IsMem m) (he : e ≠ 0) : Calls Tryz.prog 24 #[.agg #[m, .int .u64 p]] w fun r w' => r = .returned (.tuple #[.int .u64 0, .bool false]) ∧ Below w.heap.size w w' := by
  have H := Lib.hid h; clear h
  have hb : (e != 0) = true := by simpa using he
  rcases hm with rfl | ⟨a, rfl⟩
  all_goals
    go_enter Tryz.func24, Tryz.ntmps24
    go_wp2_with fail
    (with_reducible refine (H.out.alloc _).here.mono ?_)
    rintro r w1 ⟨rfl, hb⟩
    have HB := Lib.hid hb; clear hb
    go_wp2_with fail
    go_ret2
    exact ⟨rfl, below_err HB.out⟩
set_option maxRecDepth 100000 in
set_option maxHeartbeats 1000000 in
theorem half_err {m : Value} {e : Int} (h : ReadErr w m p e) (hm : IsMem m) (he : e ≠ 0) : Calls Tryz.prog 21 #[.agg #[m, .int .u64 p]] w fun r w' => r = .returned (.tuple #[.slice none 0 0, .slice none 0 0]) ∧ Below w.heap.size w w' := by
  have H := Lib.hid h; clear h
  have hb : (e != 0) = true := by simpa using he
  rcases hm with rfl | ⟨a, rfl⟩
  all_goals
    go_enter Tryz.func21, Tryz.ntmps21
    go_wp2_with fail
    (with_reducible refine (H.out.alloc _).here.mono ?_)
    rintro r w1 ⟨rfl, hb⟩
    have HB := Lib.hid hb; clear hb
    go_wp2_with fail
    go_ret2
    exact ⟨rfl, below_err HB.out⟩
set_option maxRecDepth 100000 in
set_option maxHeartbeats 1000000 in
theorem cut_err {m : Value} {e : Int} (h : ReadErr w m p e) (hm : IsMem m) (he : e ≠ 0) (k x : Int) : Calls Tryz.prog 22 #[.agg #[m, .int .u64 p], .int .i64 k, .int .u64 x] w fun r w' => r = .returned (.tuple #[.slice none 0 0, .int .i64 e]) ∧ Below w.heap.size w w' := by
  have H := Lib.hid h; clear h
  have hb : (e != 0) = true := by simpa using he
  rcases hm with rfl | ⟨a, rfl⟩
  all_goals
    go_enter Tryz.func22, Tryz.ntmps22
    go_wp2_with fail
    (with_reducible refine (H.out.alloc _).here.mono ?_)
    rintro r w1 ⟨rfl, hb⟩
    have HB := Lib.hid hb; clear hb
    go_wp2_with fail
    go_ret2
    exact ⟨rfl, below_err HB.out⟩
set_option maxRecDepth 100000 in
set_option maxHeartbeats 1000000 in
theorem join_err {m : Value} {e : Int} (h : ReadErr w m p e) (hm : IsMem m) (he : e ≠ 0) : Calls Tryz.prog 23 #[.agg #[m, .int .u64 p], .agg #[m, .int .u64 p]] w fun r w' => r = .returned (.tuple #[.slice none 0 0, .int .i64 e]) ∧ Below w.heap.size w w' := by
  have H := Lib.hid h; clear h
  have hb : (e != 0) = true := by simpa using he
  rcases hm with rfl | ⟨a, rfl⟩
  all_goals
    go_enter Tryz.func23, Tryz.ntmps23
    go_wp2_with fail
    (with_reducible refine ((H.out.alloc _).alloc _).here.mono ?_)
    rintro r w1 ⟨rfl, hb⟩
    have HB := Lib.hid hb; clear hb
    go_wp2_with fail
    go_ret2
    exact ⟨rfl, below_err (below_err HB.out)⟩
end
end Go.Proofs.YtgdcjedcinapdaaGreat

/- The walks of Half and Cut of a valid node, and of the reference's Cut. -/
namespace Go.Proofs.YtgdcjedcinapdaaGreat
open Go.RowKit
attribute [local go_sem ↓] Go.wp_at_zero Go.wp_at_succ

section
variable {w : World} {v : DV} {own : Nat → Option Role} {D : Dev} {j p : Nat}
set_option maxRecDepth 100000 in
set_option maxHeartbeats 1000000 in
theorem half_any (h : NodeAt w v own D j p) (ok : nodeOk (nodeW D p) (D.n * 64)) : Calls Tryz.prog 21 #[.agg #[.iface 76 (.pointer (some ⟨v.tb j, 0, none⟩)), .int .u64 p]] w
    (TwoPost w (keysOf (nodeW D p) ((slotsW (nodeW D p)).drop ((slotsW (nodeW D p)).length / 2))) (valsOf (nodeW D p) ((slotsW (nodeW D p)).drop ((slotsW (nodeW D p)).length / 2)))) := by
  have H := Lib.hid h; have OK := Lib.hid ok; clear h ok
  go_enter Tryz.func21, Tryz.ntmps21
  go_wp2_with fail
  (with_reducible refine (H.out.alloc _).read.mono ?_)
  rintro e w1 ⟨hb, ⟨_, cb, rfl, _, hc⟩ | ⟨hbad, rfl⟩⟩
  · have HB := Lib.hid ((below_alloc w (.cells #[.iface 76 (.pointer (some ⟨v.tb j, 0, none⟩)), .int .u64 p] 35)).trans (hb.mono (by simp)))
    have HC : Hid (IsCont w1 cb (nodeW D p) (slotsW (nodeW D p)) ((nodeW D p 0).toNat / 4503599627370496)) := hc
    clear hb hc
    generalize nodeW D p = W at *
    obtain ⟨sv, c28, hsv⟩ := HC.out.sl
    obtain ⟨sa, sc, rfl⟩ : ∃ a c, sv = .slice a (slotsW W).length c := by obtain ⟨_, a, c, e, _⟩ := hsv; exact ⟨a, c, e⟩
    clear hsv
    have hF := fun i hi => from_any HC.out i hi
    have h12 := HC.out.len
    generalize slotsW W = S at *
    obtain ⟨n, hn⟩ : ∃ n, S.length = n := ⟨_, rfl⟩
    have hF2 := hF (n / 2) (by omega)
    rw [hn] at c28 h12 ⊢
    have HF := Lib.hid hF2; clear hF hF2
    have e3 : (n : Int) / 2 = ((n / 2 : Nat) : Int) := by omega
    rw [← hn]
    rw [← hn] at e3 HF
    generalize hd : S.length / 2 = d at *
    rw [hn] at e3
    go_wp2_with fail
    (with_reducible refine HF.out.mono ?_)
    rintro e w2 ⟨k, u, rfl, t⟩
    have T := Lib.hid t; clear t
    go_wp2_with fail
    go_ret2
    exact ⟨k, u, rfl, ⟨T.out.a.deeper HB.out, T.out.b.deeper HB.out, T.out.ne⟩⟩
  · exact absurd OK.out hbad
/-- Writes of Cut, or an error. -/
theorem cut_bad (h : NodeAt w v own D j p) (ok : nodeOk (nodeW D p) (D.n * 64)) (k : Int) (nx : Nat) (hk : k < 0 ∨ ((slotsW (nodeW D p)).length : Int) ≤ k) : Calls Tryz.prog 22 #[.agg #[.iface 76 (.pointer (some ⟨v.tb j, 0, none⟩)), .int .u64 p], .int .i64 k, .int .u64 nx] w
    fun r w' => r = .returned (.tuple #[.slice none 0 0, .int .i64 1]) ∧ Below w.heap.size w w' := by
  have H := Lib.hid h; have OK := Lib.hid ok; clear h ok
  go_enter Tryz.func22, Tryz.ntmps22
  go_wp2_with fail
  (with_reducible refine (H.out.alloc _).read.mono ?_)
  rintro e w1 ⟨hb, ⟨_, cb, rfl, _, hc⟩ | ⟨hbad, rfl⟩⟩
  · have HB := Lib.hid ((below_alloc w (.cells #[.iface 76 (.pointer (some ⟨v.tb j, 0, none⟩)), .int .u64 p] 35)).trans (hb.mono (by simp)))
    have HC : Hid (IsCont w1 cb (nodeW D p) (slotsW (nodeW D p)) ((nodeW D p 0).toNat / 4503599627370496)) := hc
    clear hb hc
    generalize nodeW D p = W at *
    obtain ⟨sv, c28, hsv⟩ := HC.out.sl
    obtain ⟨sa, sc, rfl⟩ : ∃ a c, sv = .slice a (slotsW W).length c := by obtain ⟨_, a, c, e, _⟩ := hsv; exact ⟨a, c, e⟩
    clear hsv
    generalize slotsW W = S at *
    obtain ⟨n, hn⟩ : ∃ n, S.length = n := ⟨_, rfl⟩
    rw [hn] at c28 hk
    clear hn
    by_cases h0 : k < 0
    · go_wp2_with fail
      go_ret2
      exact ⟨rfl, HB.out⟩
    · have h1 : (n : Int) ≤ k := hk.resolve_left h0
      go_wp2_with fail
      go_ret2
      exact ⟨rfl, HB.out⟩
  · exact absurd OK.out hbad
/-- Four writes in a new slice. -/
theorem acc_four {w wx : World} {t : TypeId} {l : List (Nat × Int)} {b n c : Nat} {cs : Array Value} (hb : Below w.heap.size w wx) (he : b = wx.heap.size) (hc : cs.toList = flat l) (hl : l.length = 4) (hn : n = 4) (hcc : c = 4) : Acc w w.heap.size (wx.alloc (.cells cs t)) t 2 (.slice (some ⟨b, 0, none⟩) n c) l.length (flat l) := by
  subst he; subst hn; subst hcc
  have h := OwnSl.new wx cs t 2 4 4 (by rw [← Array.length_toList, hc, flat_length, hl]) (Nat.le_refl _) (by unfold maxLen; omega)
  rw [hc, List.take_of_length_le (by rw [flat_length, hl]; omega)] at h
  rw [hl]
  exact ⟨h, fun g hg => by simp [Value.ownBlock] at hg; subst hg; exact hb.size, hb.trans ((below_alloc _ _).mono hb.size), by rw [World.size_alloc]; have := hb.size; omega⟩
/-- The content of the node is read. -/
structure CutAt (w : World) (v : DV) (j p cb : Nat) (W : Nat → Int) (sa : Option Addr) (sc : Nat) (wr : World) : Prop where
  cont : IsCont wr cb W (slotsW W) ((W 0).toNat / 4503599627370496)
  c28 : wr.cell? ⟨cb, 28, none⟩ = some (.slice sa (slotsW W).length sc)
  rd : RdSl wr 1 (.slice sa (slotsW W).length sc) (slotsW W).length (natsI (slotsW W))
  box : Blk wr w.heap.size #[.iface 76 (.pointer (some ⟨v.tb j, 0, none⟩)), .int .u64 p] 35
  bel : Below w.heap.size w wr
theorem CutAt.next {cb : Nat} {W : Nat → Int} {sa : Option Addr} {sc : Nat} {w1 w2 : World} (h : CutAt w v j p cb W sa sc w1) (hb : Below w1.heap.size w1 w2) : CutAt w v j p cb W sa sc w2 :=
  ⟨h.cont.below hb, cell_bel hb h.c28, h.rd.below hb, h.box.below hb, h.bel.trans (hb.mono h.bel.size)⟩
theorem CutAt.alloc {cb : Nat} {W : Nat → Int} {sa : Option Addr} {sc : Nat} {w1 : World} (h : CutAt w v j p cb W sa sc w1) (o : Obj) : CutAt w v j p cb W sa sc (w1.alloc o) := h.next (below_alloc w1 o)
theorem CutAt.drew {cb : Nat} {W : Nat → Int} {sa : Option Addr} {sc : Nat} {w1 : World} (h : CutAt w v j p cb W sa sc w1) : CutAt w v j p cb W sa sc w1.drew := h.next ((Below.refl _ _).drew)
theorem CutAt.cells {cb n ch : Nat} {W : Nat → Int} {sa : Option Addr} {sc : Nat} {w1 : World} (h : CutAt w v j p cb W sa sc w1) (hn : (slotsW W).length = n) (hc : (W 0).toNat / 4503599627370496 = ch) : w1.cell? ⟨w.heap.size, 0, none⟩ = some (.iface 76 (.pointer (some ⟨v.tb j, 0, none⟩))) ∧ w1.cell? ⟨w.heap.size, 1, none⟩ = some (.int .u64 p) ∧
    w1.cell? ⟨cb, 28, none⟩ = some (.slice sa n sc) ∧ w1.cell? ⟨cb, 29, none⟩ = some (.int .u64 (ch : Int)) :=
  ⟨h.box.cell rfl, h.box.cell rfl, by rw [← hn]; exact h.c28, by rw [← hc]; exact h.cont.ch⟩
set_option maxRecDepth 100000 in
set_option maxHeartbeats 4000000 in
theorem cut_ok (h : NodeAt w v own D j p) (ok : nodeOk (nodeW D p) (D.n * 64)) (k : Nat) (nx : Nat) (hk : k < (slotsW (nodeW D p)).length) : Calls Tryz.prog 22 #[.agg #[.iface 76 (.pointer (some ⟨v.tb j, 0, none⟩)), .int .u64 p], .int .i64 k, .int .u64 nx] w
    (WritesPost w (cutL (nodeW D p) (ptrOff p) k nx) 0) := by
  have H := Lib.hid h; have OK := Lib.hid ok; clear h ok
  go_enter Tryz.func22, Tryz.ntmps22
  go_wp2_with fail
  (with_reducible refine (H.out.alloc _).read.mono ?_)
  rintro e w1 ⟨hb, ⟨_, cb, rfl, _, hc⟩ | ⟨hbad, rfl⟩⟩
  · have hb0 : Below w.heap.size w w1 := (below_alloc w (.cells #[.iface 76 (.pointer (some ⟨v.tb j, 0, none⟩)), .int .u64 p] 35)).trans (hb.mono (by simp))
    have hc' : IsCont w1 cb (nodeW D p) (slotsW (nodeW D p)) ((nodeW D p 0).toNat / 4503599627370496) := hc
    obtain ⟨sv, c28, hsv⟩ := hc'.sl
    obtain ⟨sa, sc, rfl⟩ : ∃ a c, sv = .slice a (slotsW (nodeW D p)).length c := by obtain ⟨_, a, c, e, _⟩ := hsv; exact ⟨a, c, e⟩
    have hcap : (slotsW (nodeW D p)).length ≤ sc := by obtain ⟨_, _, _, e, hc, _⟩ := hsv; cases e; exact hc
    have J1 : Hid (CutAt w v j p cb (nodeW D p) sa sc w1) := ⟨hc', c28, hsv, (Blk.new w _ _).below hb, hb0⟩
    have hp := H.out.hp
    have hx0 : (nodeW D p 0).toNat < 18446744073709551616 := by have := H.out.hW 0 (by omega); omega
    clear hb hb0 hc hc' c28 hsv OK H
    generalize nodeW D p = W at *
    have h12 := J1.out.cont.len
    have hlt := J1.out.cont.lt12
    have HK := Lib.hid (fun wx (hx : CutAt w v j p cb W sa sc wx) => (key_at hx.cont k hk).mono (R' := fun r w' => r = .returned (.int .u64 (keyAt W (slotsW W) k)) ∧ CutAt w v j p cb W sa sc w') (fun r w' hq => ⟨hq.1, hx.next hq.2.below⟩))
    have L1 : Hid (∀ wx, Calls Tryz.prog 68 #[.agg #[.iface 76 (.pointer (some ⟨v.tb j, 0, none⟩)), .int .u64 p], .int .i64 1] wx fun r w' => r = .returned (.int .u64 (ptrOff p + 8 : Nat)) ∧ wx.alloc (.cells #[.iface 76 (.pointer (some ⟨v.tb j, 0, none⟩)), .int .u64 p] 35) = w') := fun wx => leafAt_any _ p 1 hp (by omega) (.inr ⟨_, _, rfl⟩)
    have L2 : Hid (∀ wx, Calls Tryz.prog 68 #[.agg #[.iface 76 (.pointer (some ⟨v.tb j, 0, none⟩)), .int .u64 p], .int .i64 2] wx fun r w' => r = .returned (.int .u64 (ptrOff p + 16 : Nat)) ∧ wx.alloc (.cells #[.iface 76 (.pointer (some ⟨v.tb j, 0, none⟩)), .int .u64 p] 35) = w') := fun wx => leafAt_any _ p 2 hp (by omega) (.inr ⟨_, _, rfl⟩)
    have L3 : Hid (∀ wx, Calls Tryz.prog 68 #[.agg #[.iface 76 (.pointer (some ⟨v.tb j, 0, none⟩)), .int .u64 p], .int .i64 3] wx fun r w' => r = .returned (.int .u64 (ptrOff p + 24 : Nat)) ∧ wx.alloc (.cells #[.iface 76 (.pointer (some ⟨v.tb j, 0, none⟩)), .int .u64 p] 35) = w') := fun wx => leafAt_any _ p 3 hp (by omega) (.inr ⟨_, _, rfl⟩)
    have L0 := Lib.hid (fun wx => leafAt_zero (w := wx) (v := v) (j := j) p hp)
    have HE : Hid (cutL W (ptrOff p) k nx = [(ptrOff p + 8, (nx : Int)), (ptrOff p + 16, keyAt W (slotsW W) k), (ptrOff p + 24, 1), (ptrOff p, ((ordN ((slotsW W).take k) ((W 0).toNat / 4503599627370496 + 1) : Nat) : Int))]) := rfl
    obtain ⟨ch, hch⟩ : ∃ ch, (W 0).toNat / 4503599627370496 = ch := ⟨_, rfl⟩
    have HO := Lib.hid (fun wx (hx : CutAt w v j p cb W sa sc wx) => by
      have ht := RdSl.takeG hx.rd k (by omega)
      rw [Nat.mul_one, natsI_take] at ht
      have hlen : ((slotsW W).take k).length = k := by rw [List.length_take]; omega
      have := order_any (w := wx) (.slice sa k sc) ((slotsW W).take k) (ch + 1) (by rw [hlen]; exact ht) (by omega) (fun s hs => by have := hlt s (List.mem_of_mem_take hs); omega) (by omega)
      rw [show ((ch + 1 : Nat) : Int) = (ch : Int) + 1 by omega] at this
      exact this)
    rw [hch] at HE
    have y1 : IntKind.u64.wrap ((ch : Int) + 1) = (ch : Int) + 1 := IntWalk.u64_in _ (by omega)
    obtain ⟨n, hn⟩ : ∃ n, (slotsW W).length = n := ⟨_, rfl⟩
    have HCN := Lib.hid (And.intro hn hch)
    obtain ⟨d0, d1, d2, d3⟩ := J1.out.cells hn hch
    rw [hn] at hk hcap
    have hk1 : ¬ (k : Int) < 0 := by omega
    have hk2 : ¬ (n : Int) ≤ (k : Int) := by omega
    have hk3 : (k : Int) ≤ (sc : Int) := by omega
    have hk4 : (0 : Int) ≤ (k : Int) := by omega
    clear hn hch hlt h12
    go_upto_region 6 with fail
    go_region_held3 (fun wx => wx.cell? ⟨w.heap.size, 0, none⟩ = some (.iface 76 (.pointer (some ⟨v.tb j, 0, none⟩))) ∧ wx.cell? ⟨w.heap.size, 1, none⟩ = some (.int .u64 p) ∧ wx.cell? ⟨cb, 28, none⟩ = some (.slice sa n sc) ∧ wx.cell? ⟨cb, 29, none⟩ = some (.int .u64 (ch : Int))) (first | ((with_reducible refine CutAt.cells ?_ HCN.out.1 HCN.out.2); (repeat (first | (with_reducible exact J7.out) | (with_reducible exact J1.out) | (with_reducible refine CutAt.drew ?_) | (with_reducible refine CutAt.alloc ?_ _))))) (first | (go_at_call 68; (with_reducible refine (L1.out _).mono ?_); rintro e w' ⟨rfl, rfl⟩) | (go_at_call 68; (with_reducible refine (L2.out _).mono ?_); rintro e w' ⟨rfl, rfl⟩) | (go_at_call 68; (with_reducible refine (L3.out _).mono ?_); rintro e w' ⟨rfl, rfl⟩) | (go_at_call 68; (with_reducible refine (L0.out _).mono ?_); rintro e w' ⟨rfl, rfl⟩) | (go_at_call 74; (with_reducible refine (HK.out _ (by (repeat (first | (with_reducible exact J1.out) | (with_reducible refine CutAt.drew ?_) | (with_reducible refine CutAt.alloc ?_ _))))).mono ?_); rintro e w7 ⟨rfl, j7⟩; have J7 := Lib.hid j7; clear j7) | (go_at_call 71; (with_reducible refine (HO.out _ (by (repeat (first | (with_reducible exact J7.out) | (with_reducible refine CutAt.drew ?_) | (with_reducible refine CutAt.alloc ?_ _))))).mono ?_); rintro e w' ⟨rfl, rfl⟩))
    all_goals go_wp2_with fail
    all_goals go_ret2
    all_goals rw [HE.out]
    all_goals refine ⟨_, rfl, acc_four ?_ (by simp) rfl rfl rfl rfl⟩
    all_goals
      have hj := J7.out.bel
      (repeat (first | (with_reducible exact hj) | (with_reducible refine Below.drew ?_) | (refine Below.trans ?_ ((below_alloc _ _).mono ?_))))
    all_goals
      have hz := J7.out.bel.size
      try simp only [World.size_alloc]
      omega
  · exact absurd OK.out hbad
variable {sv : Value} {W : Nat → Int} {x : Nat}
theorem refCut_bad (h : RefIn w sv W x) (at' nx : Nat) (k : Int) (hk : k < 0 ∨ ((slotsW W).length : Int) ≤ k) : Calls Tryz.prog 44 #[sv, .int .u64 at', .int .i64 k, .int .u64 nx] w
    fun r w' => r = .returned (.tuple #[.slice none 0 0, .int .i64 1]) ∧ Below w.heap.size w w' := by
  have hs : (slotsW W).length = x % 16 := by rw [h.slotsW]; simp [slotsN]
  rw [hs] at hk
  have HL := Lib.hid (refLen_any h)
  clear h hs
  go_enter Tryz.func44, Tryz.ntmps44
  by_cases h0 : k < 0
  · go_wp2_with fail
    go_ret2
    exact ⟨rfl, Below.refl _ _⟩
  · have h1 : ((x % 16 : Nat) : Int) ≤ k := hk.resolve_left h0
    generalize x % 16 = n at *
    go_wp2_with fail
    (with_reducible refine HL.out.mono ?_)
    rintro e w' ⟨rfl, rfl⟩
    go_wp2_with fail
    go_ret2
    exact ⟨rfl, Below.refl _ _⟩
set_option maxRecDepth 100000 in
set_option maxHeartbeats 4000000 in
theorem refCut_ok (h : RefIn w sv W x) (at' nx k : Nat) (hk : k < (slotsW W).length) (ha : at' < 1000000) : Calls Tryz.prog 44 #[sv, .int .u64 at', .int .i64 k, .int .u64 nx] w
    fun r w' => ∃ ov, r = .returned (.tuple #[ov, .int .i64 0]) ∧ Acc w w.heap.size w' 100 2 ov (cutL W at' k nx).length (flat (cutL W at' k nx)) := by
  have hs : slotsW W = slotsN x (x % 16) := h.slotsW
  have hsl : (slotsW W).length = x % 16 := by rw [hs]; simp [slotsN]
  have hkx : k < x % 16 := by omega
  have hkey : keyAt W (slotsW W) k = W (4 + nib x k) := by rw [keyAt_get W _ k hk]; congr 2; simp [hs, slotsN]
  have hch : (W 0).toNat / 4503599627370496 = x / 4503599627370496 := by rw [h.w0]; simp
  have hE : cutL W at' k nx = [(at' + 8, (nx : Int)), (at' + 16, W (4 + nib x k)), (at' + 24, 1), (at', ((ordN ((slotsN x (x % 16)).take k) (x / 4503599627370496 + 1) : Nat) : Int))] := by
    unfold cutL
    rw [hkey, hch, hs]
  have HE := Lib.hid hE
  have hlt := h.lt; have hok := h.ok
  have h12 : ∀ s ∈ slotsN x (x % 16), s < 12 := fun s hs => by
    simp only [slotsN, List.mem_map, List.mem_range] at hs
    obtain ⟨i, hi, rfl⟩ := hs
    exact h.nib i hi
  have H := Lib.hid h
  have HB := Lib.hid (fun wx (hb : Below w.heap.size w wx) => h.below hb)
  have HL := Lib.hid (refLen_any h)
  have HK := Lib.hid (fun wx (hb : Below w.heap.size w wx) => refKey_any (h.below hb) k hkx)
  have HS := Lib.hid (fun wx (hb : Below w.heap.size w wx) => refSlots_any (h.below hb))
  have HC := Lib.hid (fun wx (hb : Below w.heap.size w wx) => refCount_any (h.below hb))
  have hlen : (slotsN x (x % 16)).length = x % 16 := by simp [slotsN]
  obtain ⟨ch, hch2⟩ : ∃ ch, x / 4503599627370496 = ch := ⟨_, rfl⟩
  have hchb : ch < 4096 := by omega
  rw [hch2] at HC HE
  have HP := Lib.hid (fun wx (a : Option Addr) (c : Nat) (hr : RdSl wx 1 (.slice a (x % 16) c) (x % 16) (natsI (slotsN x (x % 16)))) => by
    have ht := RdSl.takeG hr k (by omega)
    rw [Nat.mul_one, natsI_take] at ht
    have hlen2 : ((slotsN x (x % 16)).take k).length = k := by rw [List.length_take]; omega
    have := permutation_any (w := wx) (.slice a k c) ((slotsN x (x % 16)).take k) (ch + 1) (by rw [hlen2]; exact ht) (by have := hok.1; omega) (fun s hs => by have := h12 s (List.mem_of_mem_take hs); omega) (by omega)
    rw [show ((ch + 1 : Nat) : Int) = (ch : Int) + 1 by omega] at this
    exact this)
  rw [hlen] at HS
  have y1 : IntKind.u64.wrap ((ch : Int) + 1) = (ch : Int) + 1 := IntWalk.u64_in _ (by omega)
  have y2 : IntKind.u64.wrap ((at' : Int) + 8) = (at' : Int) + 8 := IntWalk.u64_in _ (by omega)
  have y3 : IntKind.u64.wrap ((at' : Int) + 16) = (at' : Int) + 16 := IntWalk.u64_in _ (by omega)
  have y4 : IntKind.u64.wrap ((at' : Int) + 24) = (at' : Int) + 24 := IntWalk.u64_in _ (by omega)
  have hk4 : ¬ (k : Int) < 0 := by omega
  obtain ⟨N, hN⟩ : ∃ N, x % 16 = N := ⟨_, rfl⟩
  rw [hN] at HL hkx HS HP HE
  have hk5 : ¬ (N : Int) ≤ (k : Int) := by omega
  clear h hE hs hsl hkey hch hlt hok h12 hlen hch2 hN hk
  go_enter Tryz.func44, Tryz.ntmps44
  go_wp2_with fail
  (with_reducible refine HL.out.mono ?_)
  rintro e w' ⟨rfl, rfl⟩
  obtain ⟨sb, so, sc, rfl, _, _⟩ := H.out.slice
  have HCell : Hid (∀ wx, Below w.heap.size w wx → wx.cell? ⟨sb, so + 0, none⟩ = some (.int .u64 (W 0))) := fun wx hb => by
    obtain ⟨_, _, _, e, _, hx⟩ := (HB.out wx hb).slice
    cases e
    exact hx 0 (by omega)
  have c0 := HCell.out w (Below.refl _ _)
  clear H
  go_upto_region 3 with fail
  have BW := Lib.hid (show Below w.heap.size w w.drew from (Below.refl _ _).drew)
  go_region_held3 (fun wx => wx.cell? ⟨sb, so + 0, none⟩ = some (.int .u64 (W 0))) (first | (with_reducible exact HCell.out _ A7.out.bel) | (with_reducible exact HCell.out _ (A7.out.bel.trans ((below_alloc _ _).mono A7.out.bel.size))) | (with_reducible exact HCell.out _ BW.out) | (with_reducible exact HCell.out _ (Below.refl _ _))) (first | (go_at_call 61; (first | (with_reducible refine (HK.out _ BW.out).mono ?_) | (with_reducible refine (HK.out _ A7.out.bel).mono ?_)); rintro e w' ⟨rfl, rfl⟩) | (go_at_call 76; (first | (with_reducible refine (HS.out _ BW.out).mono ?_)); rintro e w7 ⟨lv, rfl, a7⟩; obtain ⟨la, lc, hlv⟩ := a7.slice; subst hlv; have hlc : (k : Int) ≤ lc := (by obtain ⟨_, _, _, e', hc', _⟩ := a7.rd; cases e'; omega); have A7 := Lib.hid (a7.deeper BW.out); clear a7) | (go_at_call 81; (first | (with_reducible refine (HC.out _ A7.out.bel).mono ?_) | (with_reducible refine (HC.out _ BW.out).mono ?_)); rintro e w' ⟨rfl, rfl⟩) | (go_at_call 80; (with_reducible refine (HP.out _ _ _ A7.out.own.rd).mono ?_); rintro e w' ⟨rfl, rfl⟩))
  all_goals go_wp2_with fail
  all_goals go_ret2
  all_goals rw [HE.out]
  all_goals exact ⟨_, rfl, acc_four (by first | exact A7.out.bel | exact A7.out.bel.drew) (by simp) rfl rfl rfl rfl⟩
end
end Go.Proofs.YtgdcjedcinapdaaGreat

/- Sorting, the plain part of the quicksort: what is between two places, heaps, partitions. No program in sight. -/
namespace Go.Proofs.YtgdcjedcinapdaaGreat
open Go.RowKit

theorem list_eq_at0 {l m : List Int} (hl : l.length = m.length) (h : ∀ i, i < l.length → at0 l i = at0 m i) : l = m := by
  refine List.ext_getElem hl fun i h1 h2 => ?_
  have := h i h1
  simpa [at0, List.getD, h1, h2] using this
theorem at0_mem {l : List Int} {i : Nat} (h : i < l.length) : at0 l i ∈ l := by
  have : at0 l i = l[i] := by simp [at0, List.getD, h]
  rw [this]; exact List.getElem_mem h
theorem at0_take (l : List Int) (n i : Nat) (h : i < n) : at0 (l.take n) i = at0 l i := by simp [at0, h]
theorem at0_drop (l : List Int) (n i : Nat) : at0 (l.drop n) i = at0 l (n + i) := by simp [at0, List.getD, List.getElem?_drop]
/-- What lies between two places is a permutation of what lay there. -/
theorem Mixed.mid {xs ys : List Int} {a b : Nat} (h : Mixed xs ys a b) (hab : a ≤ b) (hb : b ≤ xs.length) : ((ys.drop a).take (b - a)).Perm ((xs.drop a).take (b - a)) := by
  have hl := h.len
  have e1 : ys.take a = xs.take a := by
    refine list_eq_at0 (by simp [hl]) fun i hi => ?_
    have : i < a := by simp at hi; omega
    rw [at0_take _ _ _ this, at0_take _ _ _ this]; exact h.out i (.inl this)
  have e2 : ys.drop b = xs.drop b := by
    refine list_eq_at0 (by simp [hl]) fun i _ => ?_
    rw [at0_drop, at0_drop]; exact h.out _ (.inr (by omega))
  have s : ∀ l : List Int, l = l.take a ++ ((l.drop a).take (b - a) ++ l.drop b) := fun l => by
    have h1 : (l.drop a).take (b - a) ++ l.drop b = l.drop a := by
      have := List.take_append_drop (b - a) (l.drop a)
      rw [List.drop_drop, show a + (b - a) = b by omega] at this; exact this
    rw [h1, List.take_append_drop]
  have hp := h.perm
  rw [s ys, s xs, e1, e2] at hp
  exact (List.perm_append_right_iff _).1 ((List.perm_append_left_iff _).1 hp)
theorem Mixed.all {xs ys : List Int} {a b : Nat} (h : Mixed xs ys a b) (hb : b ≤ xs.length) {P : Int → Prop} (hx : ∀ q, a ≤ q → q < b → P (at0 xs q)) : ∀ q, a ≤ q → q < b → P (at0 ys q) := by
  intro q h1 h2
  have hm : at0 ys q ∈ (ys.drop a).take (b - a) := by
    have e : at0 ((ys.drop a).take (b - a)) (q - a) = at0 ys q := by rw [at0_take _ _ _ (by omega), at0_drop, show a + (q - a) = q by omega]
    rw [← e]; exact at0_mem (by have := h.len; simp; omega)
  have hm2 := (h.mid (by omega) hb).mem_iff.1 hm
  obtain ⟨i, hi, e⟩ := List.mem_iff_getElem.1 hm2
  have hi2 : i < b - a ∧ a + i < xs.length := by simp at hi; omega
  have e3 : at0 xs (a + i) = at0 ys q := by
    rw [← e]; simp [at0, List.getD, hi2.2]
  rw [← e3]; exact hx _ (by omega) (by omega)

/-- What lies ahead of a and from b on is in order, also against what lies between. -/
def Sand (l : List Int) (a0 a b b0 : Nat) : Prop := ∀ p q, a0 ≤ p + 1 → p < q → q < b0 → (p < a ∨ b ≤ q) → at0 l p ≤ at0 l q
/-- The element ahead of a is not greater than those of [a, b). -/
def LowB (l : List Int) (a b : Nat) : Prop := ∀ q, a ≤ q → q < b → 0 < a → at0 l (a - 1) ≤ at0 l q
theorem Sand.start {l : List Int} {a b : Nat} (h : LowB l a b) : Sand l a a b b := fun p q h1 h2 h3 h4 => by
  have e : p = a - 1 := by omega
  subst e; exact h q (by omega) h3 (by omega)
theorem Sand.low {l : List Int} {a0 a b b0 : Nat} (h : Sand l a0 a b b0) (h1 : a0 ≤ a) (h2 : b ≤ b0) : LowB l a b := fun q h3 h4 h5 => h (a - 1) q (by omega) (by omega) (by omega) (.inl (by omega))
theorem Sand.mix {l m : List Int} {a0 a b b0 : Nat} (h : Sand l a0 a b b0) (g1 : a0 ≤ a) (g2 : b ≤ b0) (hm : Mixed l m a b) (hb : b ≤ l.length) : Sand m a0 a b b0 := by
  intro p q h1 h2 h3 h4
  rcases Nat.lt_or_ge p a with hp | hp
  · rw [hm.out p (.inl hp)]
    by_cases hq : a ≤ q ∧ q < b
    · exact hm.all hb (P := fun x => at0 l p ≤ x) (fun r h5 h6 => h p r h1 (by omega) (by omega) (.inl hp)) q hq.1 hq.2
    · rw [hm.out q (by omega)]; exact h p q h1 h2 h3 (.inl hp)
  · have hq : b ≤ q := by omega
    rw [hm.out q (.inr hq)]
    by_cases hpb : p < b
    · exact hm.all hb (P := fun x => x ≤ at0 l q) (fun r h5 h6 => h r q (by omega) (by omega) h3 (.inr hq)) p hp hpb
    · rw [hm.out p (.inr (by omega))]; exact h p q h1 h2 h3 (.inr hq)
theorem Sand.done {l : List Int} {a0 a b b0 : Nat} (h : Sand l a0 a b b0) (ha : ascOn l a b) : ascOn l a0 b0 := fun p q h1 h2 h3 => by
  by_cases hh : p < a ∨ b ≤ q
  · exact h p q (by omega) h2 h3 hh
  · exact ha p q (by omega) h2 (by omega)
/-- What a partition leaves. -/
def Parted (l : List Int) (a m b : Nat) : Prop := a ≤ m ∧ m < b ∧ (∀ q, a ≤ q → q < m → at0 l q ≤ at0 l m) ∧ ∀ q, m < q → q < b → at0 l m ≤ at0 l q
theorem Parted.lowR {l : List Int} {a m b : Nat} (h : Parted l a m b) : LowB l (m + 1) b := fun q h1 h2 _ => h.2.2.2 q (by omega) h2
theorem Sand.lowL {l : List Int} {a0 a m b b0 : Nat} (h : Sand l a0 a b b0) (hp : Parted l a m b) (h1 : a0 ≤ a) (h2 : b ≤ b0) : LowB l a m := fun q h3 h4 h5 => h.low h1 h2 q h3 (by have := hp.2.1; omega) h5
theorem Sand.left {l m : List Int} {a0 a k b b0 : Nat} (h : Sand l a0 a b b0) (g1 : a0 ≤ a) (g2 : b ≤ b0) (hp : Parted l a k b) (hm : Mixed l m a k) (ha : ascOn m a k) (hb : b ≤ l.length) : Sand m a0 (k + 1) b b0 := by
  obtain ⟨p1, p2, p3, p4⟩ := hp
  have hs := h.mix g1 g2 (hm.mono (Nat.le_refl _) (Nat.le_of_lt p2)) hb
  have hk : at0 m k = at0 l k := hm.out k (.inr (Nat.le_refl _))
  have hlo : ∀ q, a ≤ q → q < k → at0 m q ≤ at0 m k := by rw [hk]; exact hm.all (by omega) (P := fun x => x ≤ at0 l k) p3
  intro p q h1 h2 h3 h4
  by_cases hh : p < a ∨ b ≤ q
  · exact hs p q h1 h2 h3 hh
  · have hp2 : p ≤ k := by omega
    by_cases hqk : q < k
    · exact ha p q (by omega) h2 hqk
    · by_cases hpk : p = k
      · subst hpk; rw [hk, hm.out q (.inr (by omega))]; exact p4 q h2 (by omega)
      · have e1 := hlo p (by omega) (by omega)
        by_cases hqe : q = k
        · rw [hqe]; exact e1
        · have e2 := p4 q (by omega) (by omega)
          rw [← hk, ← hm.out q (.inr (by omega))] at e2
          exact Int.le_trans e1 e2
theorem Sand.right {l m : List Int} {a0 a k b b0 : Nat} (h : Sand l a0 a b b0) (g1 : a0 ≤ a) (g2 : b ≤ b0) (hp : Parted l a k b) (hm : Mixed l m (k + 1) b) (ha : ascOn m (k + 1) b) (hb : b ≤ l.length) : Sand m a0 a k b0 := by
  obtain ⟨p1, p2, p3, p4⟩ := hp
  have hs := h.mix g1 g2 (hm.mono (by omega) (Nat.le_refl _)) hb
  have hk : at0 m k = at0 l k := hm.out k (.inl (by omega))
  have hhi : ∀ q, k + 1 ≤ q → q < b → at0 m k ≤ at0 m q := by rw [hk]; exact hm.all hb (P := fun x => at0 l k ≤ x) (fun q h1 h2 => p4 q (by omega) h2)
  intro p q h1 h2 h3 h4
  by_cases hh : p < a ∨ b ≤ q
  · exact hs p q h1 h2 h3 hh
  · have hq2 : k ≤ q := by omega
    by_cases hpk : k < p
    · exact ha p q (by omega) h2 (by omega)
    · by_cases hqk : q = k
      · subst hqk; rw [hk, hm.out p (.inl (by omega))]; exact p3 p (by omega) h2
      · have e2 := hhi q (by omega) (by omega)
        by_cases hpe : p = k
        · rw [hpe]; exact e2
        · have e1 := p3 p (by omega) (by omega)
          rw [← hk, ← hm.out p (.inl (by omega))] at e1
          exact Int.le_trans e1 e2
/-- What the partition of equal elements leaves. -/
def PartedEq (l : List Int) (a m b : Nat) (x : Int) : Prop := a < m ∧ m ≤ b ∧ ∀ q, a ≤ q → q < m → at0 l q ≤ x
theorem Sand.eq {l m : List Int} {a0 a k b b0 : Nat} {x : Int} (h : Sand l a0 a b b0) (h1 : a0 ≤ a) (h2 : b ≤ b0) (hm : Mixed l m a b) (hp : PartedEq m a k b x) (hx : x ≤ at0 l (a - 1)) (ha : 0 < a) (hb : b ≤ l.length) : Sand m a0 k b b0 := by
  obtain ⟨p1, p2, p3⟩ := hp
  have hs := h.mix h1 h2 hm hb
  have hlo := hm.all hb (P := fun y => at0 l (a - 1) ≤ y) (fun q h3 h4 => h.low h1 h2 q h3 h4 ha)
  intro p q h3 h4 h5 h6
  by_cases hh : p < a ∨ b ≤ q
  · exact hs p q h3 h4 h5 hh
  · exact Int.le_trans (p3 p (by omega) (by omega)) (Int.le_trans hx (hlo q (by omega) (by omega)))

/-- A heap on the places f, f+1, .. f+n-1, but for the nodes below lo and node r. -/
def HeapBut (l : List Int) (f lo n r : Nat) : Prop := (∀ i c, lo ≤ i → i ≠ r → (c = 2 * i + 1 ∨ c = 2 * i + 2) → c < n → at0 l (f + c) ≤ at0 l (f + i)) ∧
  ∀ i c, lo ≤ i → (r = 2 * i + 1 ∨ r = 2 * i + 2) → (c = 2 * r + 1 ∨ c = 2 * r + 2) → c < n → at0 l (f + c) ≤ at0 l (f + i)
def Heap (l : List Int) (f lo n : Nat) : Prop := ∀ i c, lo ≤ i → (c = 2 * i + 1 ∨ c = 2 * i + 2) → c < n → at0 l (f + c) ≤ at0 l (f + i)
theorem Heap.but {l : List Int} {f lo n : Nat} (h : Heap l f (lo + 1) n) : HeapBut l f lo n lo := ⟨fun i c h1 h2 h3 h4 => h i c (by omega) h3 h4, fun i c h1 h2 h3 h4 => by omega⟩
theorem HeapBut.stop {l : List Int} {f lo n r : Nat} (h : HeapBut l f lo n r) (hr : ∀ c, (c = 2 * r + 1 ∨ c = 2 * r + 2) → c < n → at0 l (f + c) ≤ at0 l (f + r)) : Heap l f lo n := fun i c h1 h2 h3 => by
  by_cases e : i = r
  · subst e; exact hr c h2 h3
  · exact h.1 i c h1 e h2 h3
theorem HeapBut.step {l : List Int} {f lo n r k : Nat} (h : HeapBut l f lo n r) (hlo : lo ≤ r) (hk : k = 2 * r + 1 ∨ k = 2 * r + 2) (hkn : k < n) (hfn : f + n ≤ l.length)
    (hmax : ∀ c, (c = 2 * r + 1 ∨ c = 2 * r + 2) → c < n → at0 l (f + c) ≤ at0 l (f + k)) (hlt : at0 l (f + r) < at0 l (f + k)) : HeapBut (swp l (f + r) (f + k)) f lo n k := by
  have e := fun q => at0_swp l (f + r) (f + k) q (by omega) (by omega)
  refine ⟨fun i c h1 h2 h3 h4 => ?_, fun i c h1 h2 h3 h4 => ?_⟩
  · rw [e, e]
    by_cases hir : i = r
    · subst hir
      rw [if_neg (show ¬ f + i = f + k by omega), if_pos (show f + i = f + i from rfl)]
      by_cases hck : c = k
      · rw [if_pos (by omega)]; omega
      · rw [if_neg (by omega), if_neg (by omega)]; exact hmax c h3 h4
    · rw [if_neg (show ¬ f + i = f + k by omega), if_neg (show ¬ f + i = f + r by omega)]
      by_cases hcr : c = r
      · subst hcr
        rw [if_neg (by omega), if_pos rfl]
        exact h.2 i k h1 h3 hk hkn
      · rw [if_neg (show ¬ f + c = f + k by omega), if_neg (by omega)]; exact h.1 i c h1 hir h3 h4
  · have hi : i = r := by omega
    subst hi
    rw [e, e, if_neg (show ¬ f + i = f + k by omega), if_pos rfl, if_neg (by omega), if_neg (by omega)]
    exact h.1 k c (by omega) (by omega) h3 h4
/-- The root of a heap is its greatest element. -/
theorem Heap.root {l : List Int} {f n : Nat} (h : Heap l f 0 n) : ∀ k, k < n → at0 l (f + k) ≤ at0 l f := by
  intro k
  induction k using Nat.strongRecOn with
  | ind k ih =>
    intro hk
    by_cases h0 : k = 0
    · subst h0; simp
    · have h1 := h ((k - 1) / 2) k (Nat.zero_le _) (by omega) hk
      exact Int.le_trans h1 (ih ((k - 1) / 2) (by omega) (by omega))
theorem Heap.leaves (l : List Int) (f n : Nat) : Heap l f ((n - 1) / 2 + 1) n := fun i c h1 h2 h3 => by omega
/-- A heap of k elements, and behind it, in order, elements that are not less. -/
structure Popped (l : List Int) (f k n : Nat) : Prop where
  heap : Heap l f 0 k
  asc : ascOn l (f + k) (f + n)
  big : ∀ p q, f ≤ p → p < f + k → f + k ≤ q → q < f + n → at0 l p ≤ at0 l q
theorem Popped.start {l : List Int} {f n : Nat} (h : Heap l f 0 n) : Popped l f n n := ⟨h, fun p q h1 h2 h3 => by omega, fun p q _ _ h1 h2 => by omega⟩
/-- The root goes behind the heap, which is mended. -/
theorem Popped.step {l m : List Int} {f k n : Nat} (h : Popped l f (k + 1) n) (hk : k + 1 ≤ n) (hn : f + n ≤ l.length) (hm : Mixed (swp l f (f + k)) m f (f + k)) (hh : Heap m f 0 k) : Popped m f k n := by
  have e := fun q => at0_swp l f (f + k) q (by omega) (by omega)
  have hroot := h.heap.root
  have hm' : ∀ p, p < f ∨ f + k ≤ p → at0 m p = at0 (swp l f (f + k)) p := hm.out
  have hK : at0 m (f + k) = at0 l f := by rw [hm' _ (.inr (Nat.le_refl _)), e, if_pos rfl]
  have hQ : ∀ q, f + k < q → at0 m q = at0 l q := fun q hq => by rw [hm' _ (.inr (by omega)), e, if_neg (by omega), if_neg (by omega)]
  have hsw : ∀ p, f ≤ p → p < f + k → ∃ r, f ≤ r ∧ r < f + (k + 1) ∧ at0 (swp l f (f + k)) p = at0 l r := fun p h1 h2 => by
    rw [e, if_neg (by omega)]
    by_cases ef : p = f
    · rw [if_pos ef]; exact ⟨f + k, by omega, by omega, rfl⟩
    · rw [if_neg ef]; exact ⟨p, by omega, by omega, rfl⟩
  refine ⟨hh, fun p q h1 h2 h3 => ?_, fun p q h1 h2 h3 h4 => ?_⟩
  · rw [hQ q (by omega)]
    by_cases ep : p = f + k
    · subst ep; rw [hK]; exact h.big f q (Nat.le_refl _) (by omega) (by omega) h3
    · rw [hQ p (by omega)]; exact h.asc p q (by omega) h2 h3
  · have hlen : f + k ≤ (swp l f (f + k)).length := by rw [swp_length]; omega
    refine hm.all hlen (P := fun x => x ≤ at0 m q) (fun r h5 h6 => ?_) p h1 h2
    obtain ⟨r', h7, h8, h9⟩ := hsw r h5 h6
    rw [h9]
    by_cases eq : q = f + k
    · subst eq; rw [hK]
      have := hroot (r' - f) (by omega)
      rw [show f + (r' - f) = r' by omega] at this; exact this
    · rw [hQ q (by omega)]; exact h.big r' q h7 h8 (by omega) h4
theorem Popped.done {l : List Int} {f n : Nat} (h : Popped l f 0 n) : ascOn l f (f + n) := fun p q h1 h2 h3 => h.asc p q (by omega) h2 h3
end Go.Proofs.YtgdcjedcinapdaaGreat

/- The walks of the quicksort's small functions: reversal, the breaking of patterns, the choice of a pivot. -/
namespace Go.Proofs.YtgdcjedcinapdaaGreat
open Go.RowKit

section
variable {w : World}
/-- Between two places the slice is mixed; nothing else has changed. -/
structure MixSt (w : World) (g o c : Nat) (xs : List Int) (a b : Nat) (ys : List Int) (wr : World) : Prop where
  mix : Mixed xs ys a b
  own : WrU wr g o c ys
  upd : Upd (fun k => k = g) w wr
variable {g o c a b : Nat} {xs ys zs : List Int} {wr : World}
theorem MixSt.refl (h : WrU w g o c xs) (a b : Nat) : MixSt w g o c xs a b xs w := ⟨Mixed.refl _ _ _, h, Upd.refl _ _⟩
theorem MixSt.len (h : MixSt w g o c xs a b ys wr) : ys.length = xs.length := h.mix.len
theorem MixSt.drew (h : MixSt w g o c xs a b ys wr) : MixSt w g o c xs a b ys wr.drew := ⟨h.mix, h.own.drew, h.upd.drew⟩
theorem MixSt.drewN (h : MixSt w g o c xs a b ys wr) (n : Nat) : MixSt w g o c xs a b ys (wr.drewN n) := ⟨h.mix, h.own.drewN n, ⟨h.upd.os, h.upd.tape, h.upd.output, h.upd.size, h.upd.block⟩⟩
theorem MixSt.swap (h : MixSt w g o c xs a b ys wr) (i j : Nat) (h1 : a ≤ i) (h2 : i < b) (h3 : a ≤ j) (h4 : j < b) (hb : b ≤ xs.length) :
    MixSt w g o c xs a b (swp ys i j) ((wr.setCell ⟨g, o + i, none⟩ (.int .u64 (at0 ys j))).setCell ⟨g, o + j, none⟩ (.int .u64 (at0 ys i))).drew := by
  have hl := h.len
  refine ⟨h.mix.trans (swp_mixed ys i j a b (by omega) (by omega) h1 h2 h3 h4), ?_, ((h.upd.setCell (p := ⟨g, o + i, none⟩) (fun _ => rfl) _).setCell (p := ⟨g, o + j, none⟩) (fun _ => rfl) _).drew⟩
  exact ((h.own.set i (by omega) _).set j (by rw [List.length_set]; omega) _).drew
theorem MixSt.trans {w1 w2 : World} (h : MixSt w g o c xs a b ys w1) (k : MixSt w1 g o c ys a b zs w2) : MixSt w g o c xs a b zs w2 := ⟨h.mix.trans k.mix, k.own, h.upd.trans k.upd (fun _ _ h => h)⟩
theorem MixSt.mono {a' b' : Nat} (h : MixSt w g o c xs a b ys wr) (h1 : a' ≤ a) (h2 : b ≤ b') : MixSt w g o c xs a' b' ys wr := ⟨h.mix.mono h1 h2, h.own, h.upd⟩
theorem MixSt.later {w1 : World} (h : MixSt w g o c xs a b ys wr) (hb : Upd (fun _ => False) wr w1) : MixSt w g o c xs a b ys w1 := ⟨h.mix, h.own.upd hb (fun f => f), h.upd.trans hb (fun _ _ f => f.elim)⟩
theorem swp_self (l : List Int) (i : Nat) (hi : i < l.length) : swp l i i = l := list_eq_at0 (swp_length l i i) fun k _ => by
  rw [at0_swp l i i k hi hi]; by_cases e : k = i
  · rw [if_pos e, e]
  · rw [if_neg e, if_neg e]

set_option maxRecDepth 100000 in
set_option maxHeartbeats 2000000 in
theorem reverse_any (h : WrU w g o c xs) (hab : a < b) (hb : b ≤ xs.length) (hs : xs.length ≤ 4611686018) :
    Calls Tryz.prog 127 #[.slice (some ⟨g, o, none⟩) xs.length c, .int .i64 a, .int .i64 b] w fun r w' => r = .returned (.tuple #[]) ∧ ∃ ys, MixSt w g o c xs a b ys w' := by
  have hm := h.le
  unfold maxLen at hm
  have H := Lib.hid (MixSt.refl h a b); clear h
  generalize hn : xs.length = n at *
  have HN := Lib.hid hn; clear hn
  go_enter Tryz.func127, Tryz.ntmps127
  go_wp2_with fail
  go_loopw [6, 7] (fun x y wr => ∃ i j : Nat, a ≤ i ∧ i ≤ b ∧ j < b ∧ a ≤ j + 1 ∧ x = .int .i64 i ∧ y = .int .i64 j ∧ ∃ ys, MixSt w g o c xs a b ys wr) (fun x _ _ => b - (intOf x).toNat)
  case atStart => exact ⟨a, b - 1, by omega, by omega, by omega, by omega, rfl, by rw [show ((b - 1 : Nat) : Int) = (b : Int) - 1 by omega], xs, H.out⟩
  case round =>
    obtain ⟨i, j, hi1, hi2, hj1, hj2, rfl, rfl, ys, hM⟩ := hrel
    have hyl : ys.length = n := by rw [hM.len, HN.out]
    have M := Lib.hid hM
    by_cases hlt : i < j
    · have hlt' : (i : Int) < j := by omega
      have c1 := hM.own.cell i (by omega); have c2 := hM.own.cell j (by omega)
      have f1 := hM.own.frozen (o + i); have f2 := hM.own.frozen (o + j)
      have hg := hM.own.lt
      have hne : ¬ o + j = o + i := by omega
      clear hM hyl H
      go_wp2_with fail
      go_region
      all_goals go_wp2_with fail
      all_goals
        go_roundw
        case rel => exact ⟨i + 1, j - 1, by omega, by omega, by omega, by omega, by go_num, by rw [show ((j - 1 : Nat) : Int) = (j : Int) - 1 by omega], _, M.out.swap i j (by omega) (by omega) (by omega) hj1 (by rw [HN.out]; exact hb)⟩
        case measure => simp [intOf]; omega
    · clear hM hyl H
      go_wp2_with fail
      go_end0
      exact ⟨rfl, ys, M.out⟩

set_option maxRecDepth 100000 in
set_option maxHeartbeats 2000000 in
theorem xorNext_any (q t : Nat) (x : Int) (h : Blk w q #[.int .u64 x] t) :
    Calls Tryz.prog 137 #[.pointer (some ⟨q, 0, none⟩)] w fun r w' => ∃ y z : Int, r = .returned (.int .u64 y) ∧ 0 ≤ y ∧ y ≤ 18446744073709551615 ∧ Blk w' q #[.int .u64 z] t ∧ Upd (fun k => k = q) w w' := by
  have c0 : w.cell? ⟨q, 0, none⟩ = some (.int .u64 x) := h.cell rfl
  have f0 := h.frozen 0
  have B0 := Lib.hid h
  have U0 := Lib.hid (Upd.refl (fun k => k = q) w); clear h
  go_enter Tryz.func137, Tryz.ntmps137
  go_wp2_with fail
  all_goals go_region
  all_goals go_wp2_with fail
  all_goals
    have X := Lib.hid (And.intro (Go.bits_lo_u64 .xor x (IntKind.u64.wrap (x * 8192))) (Go.bits_hi_u64 .xor x (IntKind.u64.wrap (x * 8192))))
    generalize bits BinOp.xor IntKind.u64 x (IntKind.u64.wrap (x * 8192)) = x1 at *
    have B1 := Lib.hid ((B0.out.set 0 (.int .u64 x1)).drew)
    have U1 := Lib.hid ((U0.out.setCell (p := ⟨q, 0, none⟩) (fun _ => rfl) (.int .u64 x1)).drew)
    generalize ((w.setCell ⟨q, 0, none⟩ (.int .u64 x1)).drew) = w1 at *
    clear c0 f0
    have c1 : w1.cell? ⟨q, 0, none⟩ = some (.int .u64 x1) := B1.out.cell rfl
    have f1 := B1.out.frozen 0
  all_goals go_region
  all_goals go_wp2_with fail
  all_goals
    have X := Lib.hid (And.intro (Go.bits_lo_u64 .xor x1 (x1 / 128)) (Go.bits_hi_u64 .xor x1 (x1 / 128)))
    generalize bits BinOp.xor IntKind.u64 x1 (x1 / 128) = x2 at *
    have B2 := Lib.hid ((B1.out.set 0 (.int .u64 x2)).drew)
    have U2 := Lib.hid ((U1.out.setCell (p := ⟨q, 0, none⟩) (fun _ => rfl) (.int .u64 x2)).drew)
    generalize ((w1.setCell ⟨q, 0, none⟩ (.int .u64 x2)).drew) = w2 at *
    clear c1 f1
    have c2 : w2.cell? ⟨q, 0, none⟩ = some (.int .u64 x2) := B2.out.cell rfl
    have f2 := B2.out.frozen 0
  all_goals go_region
  all_goals go_wp2_with fail
  all_goals
    have X := Lib.hid (And.intro (Go.bits_lo_u64 .xor x2 (IntKind.u64.wrap (x2 * 131072))) (Go.bits_hi_u64 .xor x2 (IntKind.u64.wrap (x2 * 131072))))
    generalize bits BinOp.xor IntKind.u64 x2 (IntKind.u64.wrap (x2 * 131072)) = x3 at *
    have B3 := Lib.hid ((B2.out.set 0 (.int .u64 x3)).drew)
    have U3 := Lib.hid ((U2.out.setCell (p := ⟨q, 0, none⟩) (fun _ => rfl) (.int .u64 x3)).drew)
    generalize ((w2.setCell ⟨q, 0, none⟩ (.int .u64 x3)).drew) = w3 at *
    clear c2 f2
    have c3 : w3.cell? ⟨q, 0, none⟩ = some (.int .u64 x3) := B3.out.cell rfl
    have f3 := B3.out.frozen 0
  all_goals go_ret
  all_goals exact ⟨_, _, rfl, X.out.1, X.out.2, B3.out, U3.out⟩

theorem pow_len (n : Nat) (h0 : 0 < n) (hn : n ≤ 100000) : ∃ m : Nat, IntKind.u64.wrap (2 ^ min (Lib.bitLen n) 64) = m ∧ n < m ∧ m ≤ 2 * n := by
  have hb := Lib.bitLenAux_bounds 64 n (by omega) (by omega)
  have e : Lib.bitLen n = Lib.bitLenAux 64 n := rfl
  rw [e]
  generalize Lib.bitLenAux 64 n = L at *
  obtain ⟨h1, h2, h3⟩ := hb
  have h4 : 2 ^ L = 2 * 2 ^ (L - 1) := by
    obtain ⟨k, rfl⟩ : ∃ k, L = k + 1 := ⟨L - 1, by omega⟩
    rw [Nat.pow_succ]; simp; omega
  have hL : L ≤ 64 := by
    rcases Nat.lt_or_ge 64 L with h | h
    · have : 2 ^ 64 ≤ 2 ^ (L - 1) := Nat.pow_le_pow_right (by omega) (by omega)
      omega
    · exact h
  refine ⟨2 ^ L, ?_, h3, by omega⟩
  rw [Nat.min_eq_left hL]
  have h5 : ((2 : Int) ^ L) = ((2 ^ L : Nat) : Int) := by simp
  rw [h5]
  exact IntWalk.u64_in _ (by omega)
set_option maxRecDepth 100000 in
set_option maxHeartbeats 2000000 in
theorem nextPow_any (n : Nat) (h0 : 0 < n) (hn : n ≤ 100000) : Calls Tryz.prog 136 #[.int .i64 n] w fun r w' => ∃ m : Nat, r = .returned (.int .u64 m) ∧ n < m ∧ m ≤ 2 * n ∧ w = w' := by
  have hb := Lib.hid (pow_len n h0 hn)
  have HL := Lib.hid (Tryz.bits_Len n w (by omega) (by omega))
  go_enter Tryz.func136, Tryz.ntmps136
  go_wp2_with fail
  (with_reducible refine HL.out.mono ?_)
  rintro e w' ⟨rfl, rfl⟩
  go_wp2_with fail
  go_ret
  obtain ⟨m, h1, h2, h3⟩ := hb.out
  exact ⟨m, by rw [← h1]; rfl, h2, h3, rfl⟩

set_option maxRecDepth 100000 in
set_option maxHeartbeats 2000000 in
theorem breakPatterns_any (h : WrU w g o c xs) (hab : a + 8 ≤ b) (hb : b ≤ xs.length) (hs : xs.length ≤ 100000) :
    Calls Tryz.prog 125 #[.slice (some ⟨g, o, none⟩) xs.length c, .int .i64 a, .int .i64 b] w fun r w' => r = .returned (.tuple #[]) ∧ ∃ ys, MixSt w g o c xs a b ys w' := by
  have hm := h.le
  unfold maxLen at hm
  have hgs := h.lt
  have H := Lib.hid (MixSt.refl h a b); clear h
  generalize hn : xs.length = n at *
  have HN := Lib.hid hn; clear hn
  obtain ⟨l, hl⟩ : ∃ l : Nat, b = a + l := ⟨b - a, by omega⟩
  subst hl
  have hl8 : (8 : Int) ≤ l := by omega
  have hq : (a : Int) + l - a = l := by omega
  have HP := Lib.hid (fun wx => nextPow_any (w := wx) l (by omega) (by omega))
  have HX := Lib.hid (fun wx q t x (hx : Blk wx q #[.int .u64 x] t) => xorNext_any q t x hx)
  have hq4 : ((l : Int) / 4 * 2) = ((l / 4 * 2 : Nat) : Int) := by omega
  generalize hd : l / 4 * 2 = d at *
  have hd1 : 4 ≤ d ∧ 2 * d ≤ l ∧ l ≤ 2 * d + 6 := by omega
  clear hd
  go_enter Tryz.func125, Tryz.ntmps125
  go_wp2_with fail
  (with_reducible refine (HP.out _).mono ?_)
  rintro e w1 ⟨m, rfl, hm1, hm2, rfl⟩
  go_wp2_with fail
  go_loopw [9] (fun x wr => ∃ k : Nat, a + d ≤ k + 1 ∧ k ≤ a + d + 2 ∧ x = .int .i64 k ∧ (∃ y, Blk wr w.heap.size #[.int .u64 y] 205) ∧ ∃ ys, MixSt w g o c xs a (a + l) ys wr) (fun x _ => a + d + 3 - (intOf x).toNat)
  case atStart => exact ⟨a + d - 1, by omega, by omega, by rw [show ((a + d - 1 : Nat) : Int) = (a : Int) + d - 1 by omega], ⟨_, Blk.new w _ _⟩, xs, H.out.later ((Upd.refl _ _).alloc _)⟩
  case round =>
    obtain ⟨k, hk1, hk2, rfl, ⟨y, hy⟩, ys, hM⟩ := hrel
    have hyl : ys.length = n := by rw [hM.len, HN.out]
    have M := Lib.hid hM; have Y := Lib.hid hy
    clear hM hy
    by_cases hlt : k ≤ a + d + 1
    · have hlt' : (k : Int) ≤ a + d + 1 := by omega
      go_wp2_with fail
      (with_reducible refine (HX.out _ _ _ _ Y.out).mono ?_)
      rintro e w1 ⟨y1, z1, rfl, hy1, hy2, hB, hU⟩
      obtain ⟨yn, rfl⟩ : ∃ yn : Nat, y1 = yn := ⟨y1.toNat, by omega⟩
      obtain ⟨r, hr, hr2⟩ : ∃ r : Nat, bits .and .u64 (yn : Int) ((m : Int) - 1) = r ∧ r < m := ⟨yn &&& (m - 1), by
        have := bits_and_u64_nat yn (m - 1) (by omega) (by omega)
        rwa [show ((m - 1 : Nat) : Int) = (m : Int) - 1 by omega] at this, by have := @Nat.and_le_right yn (m - 1); omega⟩
      have M1 : Hid (MixSt w g o c xs a (a + l) ys w1) := ⟨M.out.mix, M.out.own.upd hU (fun e => by omega), M.out.upd.trans hU (fun i h1 h2 => by omega)⟩
      have Y1 := Lib.hid hB
      clear hB hU hy1 hy2 M Y H
      by_cases hrl : r < l
      · have hrl' : ¬ (l : Int) ≤ r := by omega
        have c1 := M1.out.own.cell k (by omega); have c2 := M1.out.own.cell (a + r) (by omega)
        have hg := M1.out.own.lt
        by_cases he : k = a + r
        · subst he
          have f1 := M1.out.own.frozen (o + (a + r))
          go_wp2_with fail
          go_region
          all_goals go_wp2_with fail
          all_goals
            go_roundw
            case rel => exact ⟨a + r + 1, by omega, by omega, by go_num, ⟨_, ((Y1.out.other (by simp; omega) _).other (by simp; omega) _).drew⟩, _, M1.out.swap (a + r) (a + r) (by omega) (by omega) (by omega) (by omega) (by rw [HN.out]; exact hb)⟩
            case measure => simp [intOf]; omega
        · have f1 := M1.out.own.frozen (o + k); have f2 := M1.out.own.frozen (o + (a + r))
          have hne : ¬ o + (a + r) = o + k := by omega
          go_wp2_with fail
          go_region
          all_goals go_wp2_with fail
          all_goals
            go_roundw
            case rel => exact ⟨k + 1, by omega, by omega, by go_num, ⟨_, ((Y1.out.other (by simp; omega) _).other (by simp; omega) _).drew⟩, _, M1.out.swap k (a + r) (by omega) (by omega) (by omega) (by omega) (by rw [HN.out]; exact hb)⟩
            case measure => simp [intOf]; omega
      · obtain ⟨q, hs0⟩ : ∃ q, q = r := ⟨r, rfl⟩; rw [← hs0] at hr hr2 hrl; clear hs0 r; obtain ⟨r, hs0⟩ : ∃ r, q = l + r := ⟨q - l, by omega⟩; subst hs0; have hrl' : (l : Int) ≤ (l : Int) + r := (by omega); have hsl : r < l := (by omega); have hq2 : (l : Int) + r - l = r := (by omega); clear hrl
        have c1 := M1.out.own.cell k (by omega); have c2 := M1.out.own.cell (a + r) (by omega)
        have hg := M1.out.own.lt
        by_cases he : k = a + r
        · subst he
          have f1 := M1.out.own.frozen (o + (a + r))
          go_wp2_with fail
          go_region
          all_goals go_wp2_with fail
          all_goals
            go_roundw
            case rel => exact ⟨a + r + 1, by omega, by omega, by go_num, ⟨_, ((Y1.out.other (by simp; omega) _).other (by simp; omega) _).drew⟩, _, M1.out.swap (a + r) (a + r) (by omega) (by omega) (by omega) (by omega) (by rw [HN.out]; exact hb)⟩
            case measure => simp [intOf]; omega
        · have f1 := M1.out.own.frozen (o + k); have f2 := M1.out.own.frozen (o + (a + r))
          have hne : ¬ o + (a + r) = o + k := by omega
          go_wp2_with fail
          go_region
          all_goals go_wp2_with fail
          all_goals
            go_roundw
            case rel => exact ⟨k + 1, by omega, by omega, by go_num, ⟨_, ((Y1.out.other (by simp; omega) _).other (by simp; omega) _).drew⟩, _, M1.out.swap k (a + r) (by omega) (by omega) (by omega) (by omega) (by rw [HN.out]; exact hb)⟩
            case measure => simp [intOf]; omega
    · have hlt' : ¬ (k : Int) ≤ a + d + 1 := by omega
      go_wp2_with fail
      go_end0
      exact ⟨rfl, ys, M.out⟩

/-- While a pivot is sought: the slice is as it was, and block q counts the exchanges. -/
structure PivSt (w : World) (g o c : Nat) (xs : List Int) (q : Nat) (m : Int) (wr : World) : Prop where
  own : WrU wr g o c xs
  ne : q ≠ g
  cnt : ∃ s : Int, 0 ≤ s ∧ s ≤ m ∧ Blk wr q #[.int .i64 s] 3
  upd : Upd (fun k => k = q) w wr
theorem PivSt.mono {q : Nat} {m m' : Int} (h : PivSt w g o c xs q m wr) (hm : m ≤ m') : PivSt w g o c xs q m' wr := by
  obtain ⟨h1, h2, ⟨s, h3, h4, h5⟩, h6⟩ := h; exact ⟨h1, h2, ⟨s, h3, by omega, h5⟩, h6⟩
theorem PivSt.drewN {q : Nat} {m : Int} (h : PivSt w g o c xs q m wr) (n : Nat) : PivSt w g o c xs q m (wr.drewN n) :=
  ⟨h.own.drewN n, h.ne, let ⟨s, h1, h2, h3⟩ := h.cnt; ⟨s, h1, h2, h3⟩, ⟨h.upd.os, h.upd.tape, h.upd.output, h.upd.size, h.upd.block⟩⟩
theorem PivSt.inc {q : Nat} {m s : Int} (h : PivSt w g o c xs q m wr) (h1 : 0 ≤ s) (h2 : s ≤ m) : PivSt w g o c xs q (m + 1) (wr.setCell ⟨q, 0, none⟩ (.int .i64 (s + 1))) := by
  obtain ⟨s', h3, h4, h5⟩ := h.cnt
  refine ⟨OwnSl.other h.own (fun k hk => by simp [Value.ownBlock] at hk; subst hk; exact fun e => h.ne e.symm) _, h.ne, ⟨s + 1, by omega, by omega, h5.set 0 _⟩, h.upd.setCell (fun _ => rfl) _⟩
set_option maxRecDepth 100000 in
set_option maxHeartbeats 2000000 in
theorem order2_any {q : Nat} {m : Int} (h : PivSt w g o c xs q m wr) (hm : m ≤ 100) (lo hi i j : Nat) (hi1 : lo ≤ i ∧ i < hi) (hj1 : lo ≤ j ∧ j < hi) (hh : hi ≤ xs.length) (_hs : xs.length ≤ 100000) :
    Calls Tryz.prog 143 #[.slice (some ⟨g, o, none⟩) xs.length c, .int .i64 i, .int .i64 j, .pointer (some ⟨q, 0, none⟩)] wr fun r w' => ∃ x y : Nat, r = .returned (.tuple #[.int .i64 x, .int .i64 y]) ∧ (lo ≤ x ∧ x < hi) ∧ (lo ≤ y ∧ y < hi) ∧ PivSt w g o c xs q (m + 1) w' := by
  have hle := h.own.le
  unfold maxLen at hle
  have c1 := h.own.cell i (by omega); have c2 := h.own.cell j (by omega)
  obtain ⟨s, s1, s2, s3⟩ := h.cnt
  have c3 : wr.cell? ⟨q, 0, none⟩ = some (.int .i64 s) := s3.cell rfl
  have f3 := s3.frozen 0
  have H := Lib.hid h; clear h s3
  generalize hn : xs.length = n at *
  clear hn
  have g1 : (i : Int) < n := by omega
  have g2 : (j : Int) < n := by omega
  by_cases hl : at0 xs j < at0 xs i
  · have hd : decide (at0 xs j < at0 xs i) = true := by simpa using hl
    have LQ := Lib.hid (less_is _ _ _ hd); clear hd hl
    go_enter Tryz.func143, Tryz.ntmps143
    go_wp2_with fail
    go_quiet ((go_at_call 129; exact Calls.quiet_of_same (LQ.out _)))
    go_wp2_with fail
    go_ret2
    exact ⟨j, i, rfl, hj1, hi1, (H.out.drewN _).inc s1 s2⟩
  · have hd : decide (at0 xs j < at0 xs i) = false := by simpa using hl
    have LQ := Lib.hid (less_is _ _ _ hd); clear hd hl
    go_enter Tryz.func143, Tryz.ntmps143
    go_wp2_with fail
    go_quiet ((go_at_call 129; exact Calls.quiet_of_same (LQ.out _)))
    go_wp2_with fail
    go_ret2
    exact ⟨i, j, rfl, hi1, hj1, (H.out.drewN _).mono (by omega)⟩
set_option maxRecDepth 100000 in
set_option maxHeartbeats 2000000 in
theorem median_any {q : Nat} {m : Int} (h : PivSt w g o c xs q m wr) (hm : m ≤ 90) (lo hi i j k : Nat) (hi1 : lo ≤ i ∧ i < hi) (hj1 : lo ≤ j ∧ j < hi) (hk1 : lo ≤ k ∧ k < hi) (hh : hi ≤ xs.length) (hs : xs.length ≤ 100000) :
    Calls Tryz.prog 139 #[.slice (some ⟨g, o, none⟩) xs.length c, .int .i64 i, .int .i64 j, .int .i64 k, .pointer (some ⟨q, 0, none⟩)] wr fun r w' => ∃ x : Nat, r = .returned (.int .i64 x) ∧ (lo ≤ x ∧ x < hi) ∧ PivSt w g o c xs q (m + 3) w' := by
  have HO := Lib.hid (fun wx (m' : Int) (i' j' : Nat) (hx : PivSt w g o c xs q m' wx) (hm' : m' ≤ 100) h1 h2 => order2_any hx hm' lo hi i' j' h1 h2 hh hs)
  have H := Lib.hid h; clear h
  generalize xs.length = n at *
  go_enter Tryz.func139, Tryz.ntmps139
  go_wp2_with fail
  (with_reducible refine (HO.out _ _ i j H.out (by omega) hi1 hj1).mono ?_)
  rintro e w1 ⟨x1, y1, rfl, hx1, hy1, p1⟩
  have P1 := Lib.hid p1; clear p1
  go_wp2_with fail
  (with_reducible refine (HO.out _ _ y1 k P1.out (by omega) hy1 hk1).mono ?_)
  rintro e w2 ⟨x2, y2, rfl, hx2, hy2, p2⟩
  have P2 := Lib.hid p2; clear p2
  go_wp2_with fail
  (with_reducible refine (HO.out _ _ x1 x2 P2.out (by omega) hx1 hx2).mono ?_)
  rintro e w3 ⟨x3, y3, rfl, hx3, hy3, p3⟩
  have P3 := Lib.hid p3; clear p3
  go_wp2_with fail
  go_ret
  exact ⟨y3, rfl, hy3, P3.out.mono (by omega)⟩
set_option maxRecDepth 100000 in
set_option maxHeartbeats 2000000 in
theorem medianAdjacent_any {q : Nat} {m : Int} (h : PivSt w g o c xs q m wr) (hm : m ≤ 90) (lo hi i : Nat) (hi1 : lo < i ∧ i + 1 < hi) (hh : hi ≤ xs.length) (hs : xs.length ≤ 100000) :
    Calls Tryz.prog 138 #[.slice (some ⟨g, o, none⟩) xs.length c, .int .i64 i, .pointer (some ⟨q, 0, none⟩)] wr fun r w' => ∃ x : Nat, r = .returned (.int .i64 x) ∧ (lo ≤ x ∧ x < hi) ∧ PivSt w g o c xs q (m + 3) w' := by
  have hM := median_any h hm lo hi (i - 1) i (i + 1) (by omega) (by omega) (by omega) hh hs
  rw [show ((i - 1 : Nat) : Int) = (i : Int) - 1 by omega, show ((i + 1 : Nat) : Int) = (i : Int) + 1 by omega] at hM
  have HM := Lib.hid hM; clear h hM
  generalize xs.length = n at *
  go_enter Tryz.func138, Tryz.ntmps138
  go_wp2_with fail
  (with_reducible refine HM.out.mono ?_)
  rintro e w1 ⟨x1, rfl, hx1, p1⟩
  have P1 := Lib.hid p1; clear p1
  go_wp2_with fail
  go_ret
  exact ⟨x1, rfl, hx1, P1.out⟩
theorem PivSt.start (h : WrU w g o c xs) : PivSt w g o c xs w.heap.size 0 (w.alloc (.cells #[.int .i64 0] 3)) :=
  ⟨h.upd (S := fun _ => False) ((Upd.refl _ _).alloc _) (fun f => f), by have := h.lt; omega, ⟨0, by omega, by omega, Blk.new _ _ _⟩, (Upd.refl _ _).alloc _⟩
set_option maxRecDepth 100000 in
set_option maxHeartbeats 4000000 in
theorem choosePivot_any (h : WrU w g o c xs) (hab : a + 8 ≤ b) (hb : b ≤ xs.length) (hs : xs.length ≤ 100000) :
    Calls Tryz.prog 126 #[.slice (some ⟨g, o, none⟩) xs.length c, .int .i64 a, .int .i64 b] w fun r w' => ∃ (x : Nat) (y : Int), r = .returned (.tuple #[.int .i64 x, .int .i64 y]) ∧ (a ≤ x ∧ x < b) ∧ (y = 0 ∨ y = 1 ∨ y = 2) ∧ Upd (fun _ => False) w w' := by
  have HA := Lib.hid (fun wx (m' : Int) (i' : Nat) (hx : PivSt w g o c xs w.heap.size m' wx) (hm' : m' ≤ 90) h1 => medianAdjacent_any hx hm' a b i' h1 hb hs)
  have HM := Lib.hid (fun wx (m' : Int) (i' j' k' : Nat) (hx : PivSt w g o c xs w.heap.size m' wx) (hm' : m' ≤ 90) h1 h2 h3 => median_any hx hm' a b i' j' k' h1 h2 h3 hb hs)
  have H := Lib.hid (PivSt.start h)
  have hgs := h.lt
  clear h
  generalize xs.length = n at *
  obtain ⟨l, hl⟩ : ∃ l : Nat, b = a + l := ⟨b - a, by omega⟩
  subst hl
  have hl8 : (8 : Int) ≤ l := by omega
  have hq : (a : Int) + l - a = l := by omega
  have hq4 : ((l : Int) / 4) = ((l / 4 : Nat) : Int) := by omega
  generalize hd : l / 4 = d at *
  have hd1 : 2 ≤ d ∧ 4 * d ≤ l ∧ l ≤ 4 * d + 3 := by omega
  clear hd
  have e1 : (a : Int) + d = ((a + d : Nat) : Int) := by omega
  have e2 : (a : Int) + (d : Int) * 2 = ((a + d * 2 : Nat) : Int) := by omega
  have e3 : (a : Int) + (d : Int) * 3 = ((a + d * 3 : Nat) : Int) := by omega
  generalize ha1 : a + d = a1 at *
  generalize ha2 : a + d * 2 = a2 at *
  generalize ha3 : a + d * 3 = a3 at *
  have hr1 : a < a1 ∧ a1 + 1 < a + l := by omega
  have hr2 : a < a2 ∧ a2 + 1 < a + l := by omega
  have hr3 : a < a3 ∧ a3 + 1 < a + l := by omega
  clear ha1 ha2 ha3
  by_cases h50 : 50 ≤ l
  · have h50' : (50 : Int) ≤ l := by omega
    go_enter Tryz.func126, Tryz.ntmps126
    go_wp2_with fail
    (with_reducible refine (HA.out _ _ a1 H.out (by omega) hr1).mono ?_)
    rintro e w1 ⟨x1, rfl, hx1, p1⟩
    have P1 := Lib.hid p1; clear p1
    go_wp2_with fail
    (with_reducible refine (HA.out _ _ a2 P1.out (by omega) hr2).mono ?_)
    rintro e w2 ⟨x2, rfl, hx2, p2⟩
    have P2 := Lib.hid p2; clear p2
    go_wp2_with fail
    (with_reducible refine (HA.out _ _ a3 P2.out (by omega) hr3).mono ?_)
    rintro e w3 ⟨x3, rfl, hx3, p3⟩
    have P3 := Lib.hid p3; clear p3
    go_wp2_with fail
    (with_reducible refine (HM.out _ _ x1 x2 x3 P3.out (by omega) hx1 hx2 hx3).mono ?_)
    rintro e w4 ⟨x4, rfl, hx4, p4⟩
    have P4 := Lib.hid p4; clear p4
    obtain ⟨s, s1, s2, s3⟩ := P4.out.cnt
    have c4 : w4.cell? ⟨w.heap.size, 0, none⟩ = some (.int .i64 s) := s3.cell rfl
    clear s3
    have hU : Hid (Upd (fun _ => False) w w4) := P4.out.upd.mono (fun i h1 h2 => by omega)
    by_cases hs0 : s = 0
    · subst hs0
      go_wp2_with fail
      go_ret2
      exact ⟨x4, 1, rfl, hx4, by omega, hU.out⟩
    · by_cases hs12 : s = 12
      · subst hs12
        go_wp2_with fail
        go_ret2
        exact ⟨x4, 2, rfl, hx4, by omega, hU.out⟩
      · have n0 : (s == 0) = false := by simpa using hs0
        have n12 : (s == 12) = false := by simpa using hs12
        clear hs0 hs12
        go_wp2_with fail
        go_ret2
        exact ⟨x4, 0, rfl, hx4, by omega, hU.out⟩
  · have h50' : ¬ (50 : Int) ≤ l := by omega
    go_enter Tryz.func126, Tryz.ntmps126
    go_wp2_with fail
    (with_reducible refine (HM.out _ _ a1 a2 a3 H.out (by omega) (by omega) (by omega) (by omega)).mono ?_)
    rintro e w4 ⟨x4, rfl, hx4, p4⟩
    have P4 := Lib.hid p4; clear p4
    obtain ⟨s, s1, s2, s3⟩ := P4.out.cnt
    have c4 : w4.cell? ⟨w.heap.size, 0, none⟩ = some (.int .i64 s) := s3.cell rfl
    clear s3
    have hU : Hid (Upd (fun _ => False) w w4) := P4.out.upd.mono (fun i h1 h2 => by omega)
    by_cases hs0 : s = 0
    · subst hs0
      go_wp2_with fail
      go_ret2
      exact ⟨x4, 1, rfl, hx4, by omega, hU.out⟩
    · by_cases hs12 : s = 12
      · subst hs12
        go_wp2_with fail
        go_ret2
        exact ⟨x4, 2, rfl, hx4, by omega, hU.out⟩
      · have n0 : (s == 0) = false := by simpa using hs0
        have n12 : (s == 12) = false := by simpa using hs12
        clear hs0 hs12
        go_wp2_with fail
        go_ret2
        exact ⟨x4, 0, rfl, hx4, by omega, hU.out⟩
end
end Go.Proofs.YtgdcjedcinapdaaGreat
