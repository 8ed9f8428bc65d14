/- Plain: the entries by names, as the reference lists them and as the directory does; the names in use differ. -/
import Derived.Test.YtmfchlliechikaaGreatDoorRuC
import Derived.Test.YtmfchlliechikaaGreatDoorRtU
import Derived.BigQuiet
import Derived.Deep.RegionHeld3
namespace Go.Proofs.YtmfchlliechikaaGreatDoor
open Go.RowKit Go.Maps

theorem bl_irrefl : ∀ x : List UInt8, Op.bytesLess x x = false
  | [] => rfl
  | a :: x => by simp [Op.bytesLess, bl_irrefl x]
theorem bl_trans : ∀ x y z : List UInt8, Op.bytesLess x y = true → Op.bytesLess y z = true → Op.bytesLess x z = true
  | [], [], _, h, _ => by simp [Op.bytesLess] at h
  | [], _ :: _, [], _, h => by simp [Op.bytesLess] at h
  | [], _ :: _, _ :: _, _, _ => by simp [Op.bytesLess]
  | _ :: _, [], _, h, _ => by simp [Op.bytesLess] at h
  | _ :: _, _ :: _, [], _, h => by simp [Op.bytesLess] at h
  | a :: x, b :: y, c :: z, h, k => by
    simp only [Op.bytesLess, Bool.or_eq_true, decide_eq_true_eq, Bool.and_eq_true, beq_iff_eq] at h k ⊢
    rcases h with h | ⟨rfl, h⟩
    · rcases k with k | ⟨rfl, k⟩
      · exact .inl (by rw [UInt8.lt_iff_toNat_lt] at *; omega)
      · exact .inl h
    · rcases k with k | ⟨rfl, k⟩
      · exact .inl k
      · exact .inr ⟨rfl, bl_trans x y z h k⟩
theorem bl_total : ∀ x y : List UInt8, x ≠ y → Op.bytesLess x y = false → Op.bytesLess y x = true
  | [], [], h, _ => absurd rfl h
  | [], _ :: _, _, h => by simp [Op.bytesLess] at h
  | _ :: _, [], _, _ => by simp [Op.bytesLess]
  | a :: x, b :: y, hne, h => by
    simp only [Op.bytesLess, Bool.or_eq_false_iff, decide_eq_false_iff_not, Bool.and_eq_false_iff] at h
    simp only [Op.bytesLess, Bool.or_eq_true, decide_eq_true_eq, Bool.and_eq_true, beq_iff_eq]
    obtain ⟨h1, h2⟩ := h
    by_cases hab : a = b
    · subst hab
      refine .inr ⟨rfl, bl_total x y (fun e => hne (by rw [e])) ?_⟩
      rcases h2 with h2 | h2
      · simp at h2
      · exact h2
    · refine .inl ?_
      have hn : a.toNat ≠ b.toNat := fun e => hab (UInt8.toNat_inj.1 e)
      rw [UInt8.lt_iff_toNat_lt] at *
      omega
/-- Where a number with a name goes, looked for from the left. -/
def posN (k : Nat → List UInt8) (S : List Nat) (e : Nat) : Nat := S.findIdx fun i => !Op.bytesLess (k i) (k e)
def insN (k : Nat → List UInt8) (S : List Nat) (e : Nat) : List Nat := S.take (posN k S e) ++ e :: S.drop (posN k S e)
def srtN (k : Nat → List UInt8) (L : List Nat) : List Nat := L.foldl (insN k) []
theorem srtN_snoc (k : Nat → List UInt8) (L : List Nat) (e : Nat) : srtN k (L ++ [e]) = insN k (srtN k L) e := by simp [srtN]
theorem posN_le (k : Nat → List UInt8) (S : List Nat) (e : Nat) : posN k S e ≤ S.length := List.findIdx_le_length
theorem insN_len (k : Nat → List UInt8) (S : List Nat) (e : Nat) : (insN k S e).length = S.length + 1 := by
  have := posN_le k S e
  unfold insN
  simp; omega
theorem srtN_len (k : Nat → List UInt8) (L : List Nat) : (srtN k L).length = L.length := by
  have key : ∀ (L S : List Nat), (L.foldl (insN k) S).length = S.length + L.length := by
    intro L
    induction L with
    | nil => intro S; rfl
    | cons e L ih => intro S; simp only [List.foldl_cons, ih, insN_len, List.length_cons]; omega
  have := key L []
  unfold srtN
  simpa using this
theorem posN_spec (k : Nat → List UInt8) (S : List Nat) (e : Nat) : (∀ i x, i < posN k S e → S[i]? = some x → Op.bytesLess (k x) (k e) = true) ∧ ∀ x, S[posN k S e]? = some x → Op.bytesLess (k x) (k e) = false := by
  refine ⟨fun j x hj hx => ?_, fun x hx => ?_⟩
  · obtain ⟨hi, rfl⟩ := List.getElem?_eq_some_iff.1 hx
    have h4 := List.not_of_lt_findIdx (p := fun i => !Op.bytesLess (k i) (k e)) (xs := S) hj
    simpa using h4
  · obtain ⟨hi, rfl⟩ := List.getElem?_eq_some_iff.1 hx
    have := List.findIdx_getElem (p := fun i => !Op.bytesLess (k i) (k e)) (xs := S) (w := hi)
    rw [Bool.not_eq_true'] at this
    exact this
theorem posR_eq (S : List Ent) (e : Ent) (m : Nat) (h1 : ∀ j x, j < m → S[j]? = some x → ltE e x = false) (_hm : m ≤ S.length) (h2 : ∀ j x, m ≤ j → S[j]? = some x → ltE e x = true) : ∀ n, m ≤ n → n ≤ S.length → posR S e n = m := by
  intro n
  induction n with
  | zero => intro hn _; rw [show m = 0 by omega]; rfl
  | succ n ih =>
    intro hn hl
    have hg : S[n]? = some (S.getD n e) := by rw [List.getD_eq_getElem?_getD, List.getElem?_eq_getElem (by omega)]; rfl
    show (if ltE e (S.getD n e) then posR S e n else n + 1) = m
    rcases Nat.lt_or_ge n m with h | h
    · rw [if_neg (by rw [h1 n _ h hg]; simp)]; omega
    · rw [if_pos (h2 n _ h hg)]; exact ih h (by omega)
/-- In the order of the names. -/
def Srt (k : Nat → List UInt8) (S : List Nat) : Prop := S.Pairwise fun a b => Op.bytesLess (k a) (k b) = true
theorem srt_split {k : Nat → List UInt8} {S : List Nat} {e : Nat} (h : Srt k S) (hd : ∀ x ∈ S, k x ≠ k e) :
    (∀ j x, j < posN k S e → S[j]? = some x → Op.bytesLess (k x) (k e) = true) ∧ ∀ j x, posN k S e ≤ j → S[j]? = some x → Op.bytesLess (k e) (k x) = true := by
  have hlo : ∀ j x, j < posN k S e → S[j]? = some x → Op.bytesLess (k x) (k e) = true := by
    intro j x hj hx
    obtain ⟨hi, rfl⟩ := List.getElem?_eq_some_iff.1 hx
    have h4 := List.not_of_lt_findIdx (p := fun i => !Op.bytesLess (k i) (k e)) (xs := S) hj
    simpa using h4
  refine ⟨hlo, fun j x hj hx => ?_⟩
  obtain ⟨hi, rfl⟩ := List.getElem?_eq_some_iff.1 hx
  have hp : posN k S e < S.length := by omega
  have h4 : Op.bytesLess (k S[posN k S e]) (k e) = false := by
    have := List.findIdx_getElem (p := fun i => !Op.bytesLess (k i) (k e)) (xs := S) (w := hp)
    rw [Bool.not_eq_true'] at this
    exact this
  have h5 := bl_total _ _ (hd _ (List.getElem_mem hp)) h4
  rcases Nat.eq_or_lt_of_le hj with h6 | h6
  · have : S[posN k S e] = S[j] := by congr 1
    rw [← this]; exact h5
  · exact bl_trans _ _ _ h5 (List.pairwise_iff_getElem.1 h _ _ hp hi h6)
theorem insR_map {k : Nat → List UInt8} {f : Nat → Ent} (hf : ∀ i, (f i).1.toList = k i) {S : List Nat} {e : Nat} (h : Srt k S) (hd : ∀ x ∈ S, k x ≠ k e) : insR (S.map f) (f e) = (insN k S e).map f := by
  obtain ⟨h1, h2⟩ := srt_split h hd
  have hp : posR (S.map f) (f e) (S.map f).length = posN k S e := by
    refine posR_eq _ _ _ ?_ (by rw [List.length_map]; exact posN_le _ _ _) ?_ _ (by rw [List.length_map]; exact posN_le _ _ _) (Nat.le_refl _)
    · intro j x hj hx
      rw [List.getElem?_map] at hx
      cases hs : S[j]? with
      | none => rw [hs] at hx; cases hx
      | some y =>
        rw [hs] at hx
        cases hx
        have := h1 j y hj hs
        unfold ltE
        rw [hf, hf, Bool.eq_false_iff]
        intro hc
        have := bl_trans _ _ _ this hc
        rw [bl_irrefl] at this; cases this
    · intro j x hj hx
      rw [List.getElem?_map] at hx
      cases hs : S[j]? with
      | none => rw [hs] at hx; cases hx
      | some y =>
        rw [hs] at hx
        cases hx
        unfold ltE
        rw [hf, hf]
        exact h2 j y hj hs
  unfold insR insN
  rw [hp, List.map_append, List.map_cons, List.map_take, List.map_drop]
theorem mem_insN {k : Nat → List UInt8} {S : List Nat} {e x : Nat} : x ∈ insN k S e ↔ x = e ∨ x ∈ S := by
  unfold insN
  rw [List.mem_append, List.mem_cons]
  constructor
  · rintro (h | rfl | h)
    · exact .inr (List.mem_of_mem_take h)
    · exact .inl rfl
    · exact .inr (List.mem_of_mem_drop h)
  · rintro (rfl | h)
    · exact .inr (.inl rfl)
    · rw [← List.take_append_drop (posN k S e) S, List.mem_append] at h
      rcases h with h | h
      · exact .inl h
      · exact .inr (.inr h)
theorem srt_ins {k : Nat → List UInt8} {S : List Nat} {e : Nat} (h : Srt k S) (hd : ∀ x ∈ S, k x ≠ k e) : Srt k (insN k S e) := by
  obtain ⟨h1, h2⟩ := srt_split h hd
  have ht : ∀ x ∈ S.take (posN k S e), Op.bytesLess (k x) (k e) = true := by
    intro x hx
    obtain ⟨i, hi, rfl⟩ := List.getElem_of_mem hx
    rw [List.length_take] at hi
    rw [List.getElem_take]
    exact h1 i _ (by omega) (List.getElem?_eq_getElem (by omega))
  have hr : ∀ x ∈ S.drop (posN k S e), Op.bytesLess (k e) (k x) = true := by
    intro x hx
    obtain ⟨i, hi, rfl⟩ := List.getElem_of_mem hx
    rw [List.length_drop] at hi
    rw [List.getElem_drop]
    exact h2 (posN k S e + i) _ (by omega) (List.getElem?_eq_getElem (by omega))
  unfold Srt insN
  rw [List.pairwise_append]
  refine ⟨List.Pairwise.sublist (List.take_sublist _ _) h, ?_, ?_⟩
  · rw [List.pairwise_cons]
    exact ⟨hr, List.Pairwise.sublist (List.drop_sublist _ _) h⟩
  · intro a ha b hb
    rcases List.mem_cons.1 hb with rfl | hb
    · exact ht a ha
    · exact bl_trans _ _ _ (ht a ha) (hr b hb)
/-- With names that differ both lists are the same. -/
theorem srt_same {k : Nat → List UInt8} {f : Nat → Ent} (hf : ∀ i, (f i).1.toList = k i) (L : List Nat) (hd : L.Pairwise fun a b => k a ≠ k b) :
    srtR (L.map f) = (srtN k L).map f ∧ Srt k (srtN k L) ∧ ∀ x, x ∈ srtN k L ↔ x ∈ L := by
  have key : ∀ (M : List Nat), M.reverse.Pairwise (fun a b => k a ≠ k b) → srtR (M.reverse.map f) = (srtN k M.reverse).map f ∧ Srt k (srtN k M.reverse) ∧ ∀ x, x ∈ srtN k M.reverse ↔ x ∈ M.reverse := by
    intro M
    induction M with
    | nil => intro _; exact ⟨rfl, List.Pairwise.nil, fun x => Iff.rfl⟩
    | cons e M ih =>
      intro hp
      rw [List.reverse_cons, List.pairwise_append] at hp
      obtain ⟨p1, _, p2⟩ := hp
      obtain ⟨i1, i2, i3⟩ := ih p1
      have hdd : ∀ x ∈ srtN k M.reverse, k x ≠ k e := fun x hx => p2 x ((i3 x).1 hx) e (List.mem_singleton.2 rfl)
      rw [List.reverse_cons, List.map_append, List.map_cons, List.map_nil, srtR_snoc, srtN_snoc, i1, insR_map hf i2 hdd]
      refine ⟨rfl, srt_ins i2 hdd, fun x => ?_⟩
      rw [mem_insN, i3, List.mem_append, List.mem_singleton]
      exact Or.comm
  have := key L.reverse
  rw [List.reverse_reverse] at this
  exact this hd
/-- The names in use differ. -/
def InvD (W : Nat → Nat) : Prop := ∀ e f, e < 16 → f < 16 → W (4 * e + 3) ≠ 0 → W (4 * f + 3) ≠ 0 → nameE W e = nameE W f → e = f
theorem invD_zero : InvD (fun _ => 0) := fun _ _ _ _ h => absurd rfl h
theorem invD_of {W W' : Nat → Nat} (h : InvD W) (f : Nat) (ho : ∀ j, j / 4 ≠ f → W' j = W j) (hf : f < 16 → W' (4 * f + 3) ≠ 0 → ∀ e, e < 16 → e ≠ f → W (4 * e + 3) ≠ 0 → nameE W e ≠ nameE W' f) : InvD W' := by
  have hsame : ∀ e, e ≠ f → W' (4 * e + 3) = W (4 * e + 3) ∧ nameE W' e = nameE W e := fun e hef => by
    have e0 := ho (4 * e) (by omega); have e1 := ho (4 * e + 1) (by omega); have e3 := ho (4 * e + 3) (by omega)
    exact ⟨e3, by unfold nameE; rw [e0, e1]⟩
  intro a c ha hc h3a h3c hn
  by_cases haf : a = f
  · by_cases hcf : c = f
    · omega
    · subst haf
      obtain ⟨s1, s2⟩ := hsame c hcf
      rw [s1] at h3c
      rw [s2] at hn
      exact absurd hn.symm (hf ha h3a c hc hcf h3c)
  · obtain ⟨s1, s2⟩ := hsame a haf
    rw [s1] at h3a
    rw [s2] at hn
    by_cases hcf : c = f
    · subst hcf
      exact absurd hn (hf hc h3c a ha haf h3a)
    · obtain ⟨t1, t2⟩ := hsame c hcf
      rw [t1] at h3c
      rw [t2] at hn
      exact h a c ha hc h3a h3c hn
theorem invD_chg {W : Nat → Nat} {l : List UInt8} {p sz : Nat} (h : InvD W) : InvD (chgE W l p sz) := by
  unfold chgE
  split
  · rename_i he
    have hnb : nameB l = true := by
      unfold errE at he
      split at he
      · omega
      · rename_i hx; simpa using hx
    by_cases h0 : p = 0
    · have hw : wrE W l p = [(4 * findE W l + 3, 0)] := by unfold wrE; rw [if_pos h0]
      rw [hw]
      refine invD_of h (findE W l) (fun j hj => setWs_other hj _ _ fun x hx => ?_) (fun _ h3 => absurd (if_pos rfl) h3)
      rw [List.mem_singleton] at hx; subst hx; show (4 * findE W l + 3) / 4 = _; omega
    · by_cases hf : findE W l < 16
      · have hw : wrE W l p = [(4 * findE W l + 2, p)] := by unfold wrE; rw [if_neg h0, if_pos hf]
        obtain ⟨hu, hn⟩ := findE_hit hf
        rw [hw]
        refine invD_of h (findE W l) (fun j hj => setWs_other hj _ _ fun x hx => ?_) (fun hf16 _ e he hef h3 hne => ?_)
        · rw [List.mem_singleton] at hx; subst hx; show (4 * findE W l + 2) / 4 = _; omega
        · have e1 : setWs [(4 * findE W l + 2, p)] W (4 * findE W l + 1) = W (4 * findE W l + 1) := if_neg (by omega)
          have e0 : setWs [(4 * findE W l + 2, p)] W (4 * findE W l) = W (4 * findE W l) := if_neg (by omega)
          have : nameE (setWs [(4 * findE W l + 2, p)] W) (findE W l) = nameE W (findE W l) := by
            show nmL _ _ = nmL _ _
            rw [e0, e1]
          rw [this] at hne
          exact hef (h e (findE W l) he hf16 h3 hu hne)
      · have hw : wrE W l p = newW (freeE W) l p := by unfold wrE; rw [if_neg h0, if_neg hf]
        have hno : ∀ e, e < 16 → W (4 * e + 3) ≠ 0 → nameE W e ≠ l := by
          intro e he h3 hne
          have := (firstI_spec (fun e => usedE W e && nameE W e == l) 16).1 e (by unfold findE at hf; omega)
          simp [usedE, h3, hne] at this
        rw [hw]
        generalize freeE W = f
        refine invD_of h f (fun j hj => setWs_other hj _ _ fun x hx => ?_) (fun _ _ e he _ h3 hne => ?_)
        · simp only [newW, List.mem_cons, List.not_mem_nil, or_false] at hx
          rcases hx with rfl | rfl | rfl | rfl
          · show 4 * f / 4 = f; omega
          · show (4 * f + 1) / 4 = f; omega
          · show (4 * f + 2) / 4 = f; omega
          · show (4 * f + 3) / 4 = f; omega
        · have e1 : setWs (newW f l p) W (4 * f + 1) = pk1 l := by
            show (if 4 * f + 1 = 4 * f + 3 then _ else if 4 * f + 1 = 4 * f + 2 then _ else if 4 * f + 1 = 4 * f + 1 then pk1 l else _) = _
            rw [if_neg (by omega), if_neg (by omega), if_pos rfl]
          have e0 : setWs (newW f l p) W (4 * f) = pk0 l := by
            show (if 4 * f = 4 * f + 3 then _ else if 4 * f = 4 * f + 2 then _ else if 4 * f = 4 * f + 1 then _ else if 4 * f = 4 * f then pk0 l else _) = _
            rw [if_neg (by omega), if_neg (by omega), if_neg (by omega), if_pos rfl]
          have : nameE (setWs (newW f l p) W) f = l := by
            show nmL _ _ = l
            rw [e0, e1]; exact nmL_pk hnb
          rw [this] at hne
          exact hno e he h3 hne
  · exact h
/-- The used entries' numbers; what the directory's list is. -/
def usedL (W : Nat → Nat) (e : Nat) : List Nat := (List.range e).filter (usedE W)
def kR (W : Nat → Nat) (e : Nat) : List UInt8 := (nmR W e).toList
def entF (W : Nat → Nat) (e : Nat) : Ent := (nmR W e, ptR W e)
/-- The numbers in the order of their names. -/
def lstL (W : Nat → Nat) : List Nat := srtN (kR W) (usedL W 16)
theorem kR_used {W : Nat → Nat} {e : Nat} (h : W (4 * e + 3) ≠ 0) : kR W e = nameE W e := by unfold kR; rw [nmR_list, if_neg h]
theorem usedL_succ (W : Nat → Nat) (e : Nat) : usedL W (e + 1) = if W (4 * e + 3) = 0 then usedL W e else usedL W e ++ [e] := by
  unfold usedL
  rw [List.range_succ, List.filter_append]
  by_cases h : W (4 * e + 3) = 0
  · rw [if_pos h]
    have hu : usedE W e = false := by simp [usedE, h]
    simp [hu]
  · rw [if_neg h]
    have hu : usedE W e = true := by simp [usedE, h]
    simp [hu]
theorem usedL_mem {W : Nat → Nat} {e x : Nat} : x ∈ usedL W e ↔ x < e ∧ W (4 * x + 3) ≠ 0 := by
  unfold usedL
  rw [List.mem_filter, List.mem_range]
  simp [usedE]
theorem entL_map (W : Nat → Nat) (e : Nat) : entL W e = (usedL W e).map (entF W) := by
  unfold entL
  refine List.map_congr_left fun x hx => ?_
  have h3 := (usedL_mem.1 (show x ∈ usedL W e from hx)).2
  unfold entF nmR ptR
  rw [if_neg h3, if_neg h3]
theorem lstL_eq {W : Nat → Nat} (h : InvD W) : srtR (entL W 16) = (lstL W).map (entF W) ∧ ∀ x, x ∈ lstL W ↔ x < 16 ∧ W (4 * x + 3) ≠ 0 := by
  have hd : (usedL W 16).Pairwise fun a b => kR W a ≠ kR W b := by
    have h0 : (usedL W 16).Pairwise (· < ·) := List.Pairwise.filter _ List.pairwise_lt_range
    refine h0.imp_of_mem fun {a b} ha hb hlt hn => ?_
    obtain ⟨a1, a2⟩ := usedL_mem.1 ha
    obtain ⟨b1, b2⟩ := usedL_mem.1 hb
    rw [kR_used a2, kR_used b2] at hn
    have := h a b a1 b1 a2 b2 hn
    omega
  rw [entL_map]
  obtain ⟨h1, _, h3⟩ := srt_same (k := kR W) (f := entF W) (fun i => rfl) (usedL W 16) hd
  exact ⟨h1, fun x => (h3 x).trans usedL_mem⟩
theorem usedL_len (W : Nat → Nat) (e : Nat) : (usedL W e).length ≤ e := by
  have := List.length_filter_le (usedE W) (List.range e)
  rw [List.length_range] at this
  exact this
theorem lstL_len (W : Nat → Nat) : (lstL W).length = (entL W 16).length ∧ (lstL W).length ≤ 16 := by
  unfold lstL
  rw [srtN_len, entL_map, List.length_map]
  exact ⟨rfl, usedL_len W 16⟩
end Go.Proofs.YtmfchlliechikaaGreatDoor

/- The walk of the reference's List. -/
namespace Go.Proofs.YtmfchlliechikaaGreatDoor
open Go.RowKit Go.Maps
attribute [local go_sem ↓] Go.wp_at_zero Go.wp_at_succ

/-- Entries of the reference as cells. -/
def eR (W : Nat → Nat) (S : List Nat) : List Value := S.flatMap (rfE (nmR W) (ptR W) W)
theorem eR_append (W : Nat → Nat) (a b : List Nat) : eR W (a ++ b) = eR W a ++ eR W b := by simp [eR]
theorem eR_len (W : Nat → Nat) (l : List Nat) : (eR W l).length = l.length * 6 := by
  induction l with
  | nil => rfl
  | cons e l ih =>
    show (rfE (nmR W) (ptR W) W e ++ eR W l).length = _
    rw [List.length_append, ih, List.length_cons]
    show 6 + _ = _
    omega
theorem eR_one (W : Nat → Nat) (l : List Nat) : ∀ u ∈ eR W l, u.oneCell' = true := by
  intro u hu
  obtain ⟨e, _, he⟩ := List.mem_flatMap.1 hu
  simp only [rfE, List.mem_cons, List.not_mem_nil, or_false] at he
  rcases he with rfl | rfl | rfl | rfl | rfl | rfl <;> rfl
theorem eR_get (W : Nat → Nat) (l : List Nat) : ∀ (k x : Nat), l[k]? = some x → ∀ q, q < 6 → (eR W l)[k * 6 + q]? = (rfE (nmR W) (ptR W) W x)[q]? := by
  induction l with
  | nil => intro k x h; simp at h
  | cons y l ih =>
    intro k x hk q hq
    have hf : eR W (y :: l) = rfE (nmR W) (ptR W) W y ++ eR W l := rfl
    have hl : (rfE (nmR W) (ptR W) W y).length = 6 := rfl
    cases k with
    | zero =>
      cases hk
      rw [hf, List.getElem?_append_left (by rw [hl]; omega), Nat.zero_mul, Nat.zero_add]
    | succ k =>
      rw [hf, List.getElem?_append_right (by rw [hl]; omega), hl, show (k + 1) * 6 + q - 6 = k * 6 + q by omega]
      exact ih k x (by simpa using hk) q hq
theorem eR_take (W : Nat → Nat) (l : List Nat) (k : Nat) : (eR W l).take (k * 6) = eR W (l.take k) := by
  rcases Nat.lt_or_ge l.length k with h | h
  · rw [List.take_of_length_le (by rw [eR_len]; omega), List.take_of_length_le (by omega)]
  · conv => lhs; rw [← List.take_append_drop k l, eR_append]
    rw [List.take_append_of_le_length (by rw [eR_len, List.length_take]; omega), List.take_of_length_le (by rw [eR_len, List.length_take]; omega)]
theorem eR_drop (W : Nat → Nat) (l : List Nat) (k : Nat) : (eR W l).drop (k * 6) = eR W (l.drop k) := by
  rcases Nat.lt_or_ge l.length k with h | h
  · rw [List.drop_eq_nil_of_le (by rw [eR_len]; omega), List.drop_eq_nil_of_le (by omega)]; rfl
  · conv => lhs; rw [← List.take_append_drop k l, eR_append]
    rw [List.drop_append_of_le_length (by rw [eR_len, List.length_take]; omega), List.drop_eq_nil_of_le (by rw [eR_len, List.length_take]; omega), List.nil_append]
theorem infoEntR : (Tryz.prog.info? 35).map (fun i => (i.zero, i.size, i.bytes)) = some (some (.agg #[.string ⟨#[]⟩, .int .u64 0, .int .u64 0, .int .u64 0, .int .u64 0, .int .u64 0]), 6, 56) := by kernel_rfl
section
variable {w : World} {b a : Nat} {W : Nat → Nat}
theorem list_end {w3 : World} {v3 : Value} {S : List Nat} {i e : Nat} (hp : posN (kR W) S e = i) (hi : i ≤ S.length) (o : OwnSl w3 35 6 v3 (0 + i + 1 + (S.length - i)) ([] ++ eR W (S.take i) ++ eR W [e] ++ eR W (S.drop i))) : OwnSl w3 35 6 v3 (insN (kR W) S e).length (eR W (insN (kR W) S e)) := by
  unfold insN
  rw [hp]
  have e1 : (S.take i ++ e :: S.drop i).length = 0 + i + 1 + (S.length - i) := by simp; omega
  have e2 : eR W (S.take i ++ e :: S.drop i) = [] ++ eR W (S.take i) ++ eR W [e] ++ eR W (S.drop i) := by simp [eR]
  rw [e1, e2]; exact o
/-- The box of an entry. -/
structure BxE (g : Nat) (es : ByteArray) (pe x0 x1 x2 x3 : Nat) (wx : World) : Prop where
  blk : Blk wx g #[.string es, .int .u64 pe, .int .u64 x0, .int .u64 x1, .int .u64 x2, .int .u64 x3] 35
section
variable {g : Nat} {es : ByteArray} {pe x0 x1 x2 x3 : Nat} {wx wy : World}
theorem BxE.next (h : BxE g es pe x0 x1 x2 x3 wx) (hb : Below wx.heap.size wx wy) : BxE g es pe x0 x1 x2 x3 wy := ⟨h.blk.below hb⟩
theorem BxE.cells (h : BxE g es pe x0 x1 x2 x3 wx) : wx.cell? ⟨g, 0, none⟩ = some (.string es) ∧ wx.cell? ⟨g, 1, none⟩ = some (.int .u64 pe) ∧ wx.cell? ⟨g, 2, none⟩ = some (.int .u64 x0) ∧ wx.cell? ⟨g, 3, none⟩ = some (.int .u64 x1) ∧ wx.cell? ⟨g, 4, none⟩ = some (.int .u64 x2) ∧ wx.cell? ⟨g, 5, none⟩ = some (.int .u64 x3) :=
  ⟨h.blk.cell rfl, h.blk.cell rfl, h.blk.cell rfl, h.blk.cell rfl, h.blk.cell rfl, h.blk.cell rfl⟩
end
theorem rd_newer6 {wz w1 : World} {g : Nat} {L : List Value} {k : Value} (h : RdSl wz 6 (.slice (some ⟨g, 0, none⟩) 1 1) 1 L) (hg : wz.grownBy w1 k.ownBlock) (hlt : g < wz.heap.size) (hne : k.ownBlock ≠ some g) : RdSl w1 6 (.slice (some ⟨g, 0, none⟩) 1 1) 1 L :=
  h.kept (fun b hb _ => by simp [Value.ownBlock] at hb; subst hb; exact hg.block _ hlt (fun e => hne e.symm))
/-- What is listed so far. -/
structure LsAt (w : World) (W : Nat → Nat) (k : Nat) (ov : Value) (wr : World) : Prop where
  acc : Acc w w.heap.size wr 35 6 ov (srtN (kR W) (usedL W k)).length (eR W (srtN (kR W) (usedL W k)))
theorem LsAt.step {wo w3 : World} {k i : Nat} {ov v3 : Value} (h : LsAt w W k ov wo) (h3 : W (4 * k + 3) ≠ 0) (hp : posN (kR W) (srtN (kR W) (usedL W k)) k = i)
    (h4 : OwnSl w3 35 6 v3 (0 + i + 1 + ((srtN (kR W) (usedL W k)).length - i)) ([] ++ eR W ((srtN (kR W) (usedL W k)).take i) ++ eR W [k] ++ eR W ((srtN (kR W) (usedL W k)).drop i))) (hb : Below wo.heap.size wo w3 ∧ ∀ g, v3.ownBlock = some g → wo.heap.size ≤ g) : LsAt w W (k + 1) v3 w3 := by
  have e : srtN (kR W) (usedL W (k + 1)) = insN (kR W) (srtN (kR W) (usedL W k)) k := by rw [usedL_succ, if_neg h3, srtN_snoc]
  refine ⟨?_⟩
  rw [e]
  exact ⟨list_end hp (by rw [← hp]; exact posN_le _ _ _) h4, fun g hg => Nat.le_trans h.acc.bel.size (hb.2 g hg), h.acc.bel.trans (hb.1.mono h.acc.bel.size), Nat.le_trans h.acc.lt hb.1.size⟩
theorem LsAt.skip {wo : World} {k : Nat} {ov : Value} (h : LsAt w W k ov wo) (h3 : W (4 * k + 3) = 0) : LsAt w W (k + 1) ov wo := by
  have e : usedL W (k + 1) = usedL W k := by rw [usedL_succ, if_pos h3]
  exact ⟨by rw [e]; exact h.acc⟩
theorem LsAt.next {wo wx : World} {k : Nat} {ov : Value} (h : LsAt w W k ov wo) (hb : Below wo.heap.size wo wx) : LsAt w W k ov wx := ⟨h.acc.keep hb⟩
set_option maxRecDepth 100000 in
set_option maxHeartbeats 8000000 in
theorem r14List_any (h : RfAt w b a W) (hI : InvW W) : Calls Tryz.prog 53 #[.pointer (some ⟨b, 0, none⟩)] w fun r w' => ∃ ov, r = .returned ov ∧ Acc w w.heap.size w' 35 6 ov (lstL W).length (eR W (lstL W)) := by
  obtain ⟨i0, hi0, hz0, hz1, hz2⟩ := info_parts infoEntR
  have I := Lib.hid (And.intro hi0 (And.intro hz0 (And.intro hz1 hz2))); clear hi0 hz0 hz1 hz2
  have HRG := Lib.hid h.range
  have HIF := Lib.hid (infoR (nmR W) (ptR W) W)
  have HIX := Lib.hid (fun (e : Nat) (he : e < 16) (wx : World) => idxR (nmR W) (ptR W) W e he wx)
  have HFR := Lib.hid (fun (e : Nat) (he : e < 16) => nmR_free hI e he)
  have HELM := Lib.hid (fun (e : Nat) => show eR W [e] = rfE (nmR W) (ptR W) W e from by simp [eR])
  have HLD : Hid (lstL W = srtN (kR W) (usedL W 16)) := rfl
  obtain ⟨LL, hLL⟩ : ∃ LL, rfL (nmR W) (ptR W) W = LL := ⟨_, rfl⟩
  rw [hLL] at HRG HIF HIX
  clear h hI hLL
  go_enter Tryz.func53, Tryz.ntmps53
  go_wp2_with (refine wpList_load_mid rfl 36 (.tmp 9) rfl b 1 rfl LL _ HRG.out Tryz.underlying36 rfl HIF.out ?_)
  go_loopw [3, 5, 6, 11] (fun ov _ _ y wr => ∃ e : Nat, e ≤ 16 ∧ y = .int .i64 e ∧ LsAt w W e ov wr) (fun _ _ _ y _ => 16 - (intOf y).toNat)
  case atStart => exact ⟨0, by omega, rfl, ⟨Acc.nil _ _ _ _ _ (Below.refl _ _) (Nat.le_refl _)⟩⟩
  case round =>
    obtain ⟨e, he, rfl, hx⟩ := hrel
    obtain ⟨oa, oc, rfl⟩ := hx.acc.slice
    have X := Lib.hid hx
    clear hx
    rename World => wq
    by_cases hlt : e < 16
    · have he' : (e : Int) < 16 := by omega
      have hix := fun wx => HIX.out e hlt wx
      have hfr := HFR.out e hlt
      have hel := HELM.out e
      unfold rfE at hix hel
      have hkr : kR W e = (nmR W e).toList := rfl
      generalize nmR W e = es at *
      generalize ptR W e = pe at *
      obtain ⟨x0, hx0⟩ : ∃ x, W (4 * e) = x := ⟨_, rfl⟩
      obtain ⟨x1, hx1⟩ : ∃ x, W (4 * e + 1) = x := ⟨_, rfl⟩
      obtain ⟨x2, hx2⟩ : ∃ x, W (4 * e + 2) = x := ⟨_, rfl⟩
      obtain ⟨x3, hx3⟩ : ∃ x, W (4 * e + 3) = x := ⟨_, rfl⟩
      rw [hx0, hx1, hx2, hx3] at hix hel
      have hu : usedE W e = (x3 != 0) := by unfold usedE; rw [hx3]
      rw [hu] at hfr
      have X1 := Lib.hid (X.out.next (below_alloc wq (.cells #[.string es, .int .u64 pe, .int .u64 x0, .int .u64 x1, .int .u64 x2, .int .u64 x3] 35)))
      have B1 : Hid (BxE wq.heap.size es pe x0 x1 x2 x3 (wq.alloc (.cells #[.string es, .int .u64 pe, .int .u64 x0, .int .u64 x1, .int .u64 x2, .int .u64 x3] 35))) := ⟨Blk.new wq _ _⟩
      have HX3 := Lib.hid hx3
      clear hx0 hx1 hx2 hx3 hu
      cases hq0 : es.toList.isEmpty
      · have h3 : x3 ≠ 0 := by
          rw [hq0] at hfr
          rintro rfl
          simp at hfr
        have HEL := Lib.hid hel
        have HO6 : Hid (∀ u ∈ ([.string es, .int .u64 pe, .int .u64 x0, .int .u64 x1, .int .u64 x2, .int .u64 x3] : List Value), u.oneCell' = true) := by show ∀ _ ∈ _, _; rw [← hel]; exact eR_one _ _
        have HST : Hid (∀ (wo w3 : World) (v3 : Value) (i : Nat), LsAt w W e (.slice oa (srtN (kR W) (usedL W e)).length oc) wo → posN (kR W) (srtN (kR W) (usedL W e)) e = i → OwnSl w3 35 6 v3 (0 + i + 1 + ((srtN (kR W) (usedL W e)).length - i)) ([] ++ eR W ((srtN (kR W) (usedL W e)).take i) ++ [.string es, .int .u64 pe, .int .u64 x0, .int .u64 x1, .int .u64 x2, .int .u64 x3] ++ eR W ((srtN (kR W) (usedL W e)).drop i)) → (Below wo.heap.size wo w3 ∧ ∀ g, v3.ownBlock = some g → wo.heap.size ≤ g) → LsAt w W (e + 1) v3 w3) := fun wo w3 v3 i g1 g2 g3 g4 => by
          rw [← hel] at g3
          exact g1.step (by rw [HX3.out]; exact h3) g2 g3 g4
        have hlen : (srtN (kR W) (usedL W e)).length ≤ 16 := by rw [srtN_len]; have := usedL_len W e; omega
        have RD1 := Lib.hid (X1.out.acc.rd)
        obtain ⟨hlo, hhi⟩ := posN_spec (kR W) (srtN (kR W) (usedL W e)) e
        have hle := posN_le (kR W) (srtN (kR W) (usedL W e)) e
        rw [hkr] at hlo hhi
        obtain ⟨S, hS⟩ : ∃ S, srtN (kR W) (usedL W e) = S := ⟨_, rfl⟩
        rw [hS] at HST hlen RD1 hlo hhi hle X1 ⊢
        obtain ⟨m, hm⟩ : ∃ m, S.length = m := ⟨_, rfl⟩
        rw [hm] at HST hlen RD1 hle X1 ⊢
        have HM := Lib.hid hm
        obtain ⟨t, ht⟩ : ∃ t, posN (kR W) S e = t := ⟨_, rfl⟩
        have HST2 := Lib.hid (fun wo w3 v3 g1 => HST.out wo w3 v3 t g1 ht)
        rw [ht] at hlo hhi hle
        have HLO := Lib.hid hlo; have HHI := Lib.hid hhi
        have hcap : m ≤ oc := by obtain ⟨_, _, _, e', hc, _⟩ := RD1.out; cases e'; exact hc
        have X1' : Hid (∀ wx, Below (wq.alloc (.cells #[.string es, .int .u64 pe, .int .u64 x0, .int .u64 x1, .int .u64 x2, .int .u64 x3] 35)).heap.size (wq.alloc (.cells #[.string es, .int .u64 pe, .int .u64 x0, .int .u64 x1, .int .u64 x2, .int .u64 x3] 35)) wx → LsAt w W e (.slice oa m oc) wx ∧ BxE wq.heap.size es pe x0 x1 x2 x3 wx ∧ RdSl wx 6 (.slice oa m oc) m (eR W S)) := fun wx hb => ⟨X1.out.next hb, B1.out.next hb, RD1.out.below hb⟩
        clear hel hfr h3 hS X hm ht hlo hhi HST X1 B1 RD1 hkr
        go_wp2_with fail
        go_loopw [6] (fun y wr => ∃ i : Nat, i ≤ t ∧ y = .int .i64 i ∧ Below (wq.alloc (.cells #[.string es, .int .u64 pe, .int .u64 x0, .int .u64 x1, .int .u64 x2, .int .u64 x3] 35)).heap.size (wq.alloc (.cells #[.string es, .int .u64 pe, .int .u64 x0, .int .u64 x1, .int .u64 x2, .int .u64 x3] 35)) wr) (fun y _ => t - (intOf y).toNat)
        case atStart => exact ⟨0, by omega, rfl, Below.refl _ _⟩
        case round =>
          obtain ⟨i, hi, rfl, hb⟩ := hrel
          rename World => wl
          have B := Lib.hid hb
          have b0 := (X1'.out _ hb).2.1.cells.1
          obtain ⟨_, a', c', e', _, hE⟩ := (X1'.out _ hb).2.2
          cases e'
          clear hb
          by_cases hit : i < t
          · have him : (i : Int) < m := by omega
            obtain ⟨x, hx⟩ : ∃ x, S[i]? = some x := ⟨_, List.getElem?_eq_getElem (by rw [HM.out]; omega)⟩
            have hg := eR_get W S i x hx 0 (by omega)
            rw [Nat.add_zero] at hg
            have hg2 : (eR W S)[i * 6]? = some (.string (nmR W x)) := hg
            obtain ⟨gb, go', rfl, hE2⟩ := rd_at hE hg2
            have c1 := hE2 _ _ hg2
            have hl : Op.bytesLess (nmR W x).toList es.toList = true := HLO.out i x hit hx
            generalize nmR W x = xs at *
            clear hg hg2 hE hE2 hx
            go_wp2_with fail
            go_quiet (fail)
            go_wp2_with fail
            go_roundw
            case rel => exact ⟨i + 1, by omega, by go_num, B.out.trans ⟨rfl, rfl, rfl, Nat.le_refl _, fun _ _ => rfl⟩⟩
            case measure => simp [intOf]; omega
          · obtain rfl : i = t := by omega
            by_cases him : i < m
            · have him' : (i : Int) < m := by omega
              obtain ⟨x, hx⟩ : ∃ x, S[i]? = some x := ⟨_, List.getElem?_eq_getElem (by rw [HM.out]; omega)⟩
              have hg := eR_get W S i x hx 0 (by omega)
              rw [Nat.add_zero] at hg
              have hg2 : (eR W S)[i * 6]? = some (.string (nmR W x)) := hg
              obtain ⟨gb, go', rfl, hE2⟩ := rd_at hE hg2
              have c1 := hE2 _ _ hg2
              have hl : Op.bytesLess (nmR W x).toList es.toList = false := HHI.out x hx
              generalize nmR W x = xs at *
              clear hg hg2 hE hE2 hx
              go_wp2_with fail
              go_quiet (fail)
              obtain ⟨wo, hwo⟩ : ∃ wo, wl.drewN nq = wo := ⟨_, rfl⟩
              rw [hwo]
              obtain ⟨ls, bx, rd⟩ := X1'.out wo (by rw [← hwo]; exact B.out.trans ⟨rfl, rfl, rfl, Nat.le_refl _, fun _ _ => rfl⟩)
              have LS := Lib.hid ls; have BXO := Lib.hid bx; have RD := Lib.hid rd
              have b1 := bx.cells
              have hic : (i : Int) ≤ oc := by omega
              have hil : (i : Int) ≤ m := by omega
              clear ls bx rd hwo b0 X1'
              have t1 : RdSl wo 6 (.slice (some ⟨gb, go', none⟩) i oc) i (eR W (S.take i)) := by have := RD.out.takeG i (by omega); rw [eR_take] at this; exact this
              have t2 : RdSl wo 6 (.slice (some ⟨gb, go' + i * 6, none⟩) (m - i) (oc - i)) (m - i) (eR W (S.drop i)) := by
                have := RD.out.dropG i (by omega)
                rw [eR_drop, if_neg (by omega), Option.map_some, Addr.add_lit] at this
                exact this
              have T1 := Lib.hid t1; have T2 := Lib.hid t2
              have hci' : ¬ (oc : Int) = (i : Int) := by omega
              have hci : ¬ oc = i := by omega
              clear t1 t2 RD c1 hl
              go_wp2_with fail
              go_region_held3 (fun wx => wx.cell? ⟨wq.heap.size, 0, none⟩ = some (.string es) ∧ wx.cell? ⟨wq.heap.size, 1, none⟩ = some (.int .u64 pe) ∧ wx.cell? ⟨wq.heap.size, 2, none⟩ = some (.int .u64 x0) ∧ wx.cell? ⟨wq.heap.size, 3, none⟩ = some (.int .u64 x1) ∧ wx.cell? ⟨wq.heap.size, 4, none⟩ = some (.int .u64 x2) ∧ wx.cell? ⟨wq.heap.size, 5, none⟩ = some (.int .u64 x3)) (first | (with_reducible exact BX3.out.cells) | (with_reducible exact BX2.out.cells) | (with_reducible exact (BX1.out.next (below_alloc w1 (.cells #[.string es, .int .u64 pe, .int .u64 x0, .int .u64 x1, .int .u64 x2, .int .u64 x3] 35))).cells) | (with_reducible exact BX1.out.cells) | (with_reducible exact (BXO.out.next ((Below.refl _ _).drew)).cells) | (with_reducible exact (BXO.out.next ((below_alloc wo (.cells #[] 35)).drew)).cells) | (with_reducible exact (BXO.out.next ((below_twice wo (.cells #[] 35) (.cells #[.string es, .int .u64 pe, .int .u64 x0, .int .u64 x1, .int .u64 x2, .int .u64 x3] 35)).drew)).cells) | (with_reducible exact (BXO.out.next ((below_twice wo (.cells #[.string es, .int .u64 pe, .int .u64 x0, .int .u64 x1, .int .u64 x2, .int .u64 x3] 35) (.cells #[] 35)).drew)).cells) | (with_reducible exact (BXO.out.next ((below_alloc wo (.cells #[.string es, .int .u64 pe, .int .u64 x0, .int .u64 x1, .int .u64 x2, .int .u64 x3] 35)).drew)).cells)) (first | (refine step_append_sl (w := (wo.alloc (.cells #[] 35)).drew) rfl (.tmp 33) (.tmp 36) 132 rfl 35 i0 _ 6 56 Tryz.underlying132 I.out.1 I.out.2.1 I.out.2.2.1 I.out.2.2.2 rfl (by decide) (.slice (some ⟨wo.heap.size, 0, none⟩) 0 0) 0 [] rfl (by exact (OwnSl.new wo #[] 35 6 0 0 rfl (Nat.le_refl _) (Nat.zero_le _)).drew) _ i (eR W (S.take i)) rfl (by exact (T1.out.alloc _).drew) (eR_one _ _) (by unfold maxLen; omega) (by omega) ?_; intro v1 w1 o1 g1 b1; have hb1 := own_chain (v1 := .slice (some ⟨wo.heap.size, 0, none⟩) 0 0) ⟨below_alloc wo (.cells #[] 35), fun g hg => by cases hg; exact Nat.le_refl _⟩ ((Below.refl _ _).drew) g1 b1 (sz1 wo _); have BX1 := Lib.hid (BXO.out.next hb1.1); have O1 := Lib.hid (And.intro o1 hb1); clear o1 g1 b1 hb1) | (refine step_append_sl (w := ((wo.alloc (.cells #[] 35)).alloc (.cells #[.string es, .int .u64 pe, .int .u64 x0, .int .u64 x1, .int .u64 x2, .int .u64 x3] 35)).drew) rfl (.tmp 33) (.tmp 36) 132 rfl 35 i0 _ 6 56 Tryz.underlying132 I.out.1 I.out.2.1 I.out.2.2.1 I.out.2.2.2 rfl (by decide) (.slice (some ⟨wo.heap.size, 0, none⟩) 0 0) 0 [] rfl (by exact ((OwnSl.new wo #[] 35 6 0 0 rfl (Nat.le_refl _) (Nat.zero_le _)).alloc _).drew) _ i (eR W (S.take i)) rfl (by exact ((T1.out.alloc _).alloc _).drew) (eR_one _ _) (by unfold maxLen; omega) (by omega) ?_; intro v1 w1 o1 g1 b1; have hb1 := own_chain (v1 := .slice (some ⟨wo.heap.size, 0, none⟩) 0 0) ⟨below_twice wo (.cells #[] 35) (.cells #[.string es, .int .u64 pe, .int .u64 x0, .int .u64 x1, .int .u64 x2, .int .u64 x3] 35), fun g hg => by cases hg; exact Nat.le_refl _⟩ ((Below.refl _ _).drew) g1 b1 (sz2 wo _ _); have BX1 := Lib.hid (BXO.out.next hb1.1); have RB := Lib.hid (rd_newer6 ((RdSl.newAt (wo.alloc (.cells #[] 35)) #[.string es, .int .u64 pe, .int .u64 x0, .int .u64 x1, .int .u64 x2, .int .u64 x3] 35 6 1 (wo.heap.size + 1) (by simp) rfl).drew) g1 (lt2 wo _ _) (ob_ne (by omega))); have O1 := Lib.hid (And.intro o1 hb1); clear o1 g1 b1 hb1) | (refine step_append_sl (w := ((wo.alloc (.cells #[.string es, .int .u64 pe, .int .u64 x0, .int .u64 x1, .int .u64 x2, .int .u64 x3] 35)).alloc (.cells #[] 35)).drew) rfl (.tmp 33) (.tmp 36) 132 rfl 35 i0 _ 6 56 Tryz.underlying132 I.out.1 I.out.2.1 I.out.2.2.1 I.out.2.2.2 rfl (by decide) (.slice (some ⟨wo.heap.size + 1, 0, none⟩) 0 0) 0 [] rfl (by exact (ownNewAt (wo.alloc (.cells #[.string es, .int .u64 pe, .int .u64 x0, .int .u64 x1, .int .u64 x2, .int .u64 x3] 35)) #[] 35 6 0 0 (wo.heap.size + 1) (by simp) rfl (Nat.le_refl _) (Nat.zero_le _)).drew) _ i (eR W (S.take i)) rfl (by exact ((T1.out.alloc _).alloc _).drew) (eR_one _ _) (by unfold maxLen; omega) (by omega) ?_; intro v1 w1 o1 g1 b1; have hb1 := own_chain (v1 := .slice (some ⟨wo.heap.size + 1, 0, none⟩) 0 0) ⟨below_twice wo (.cells #[.string es, .int .u64 pe, .int .u64 x0, .int .u64 x1, .int .u64 x2, .int .u64 x3] 35) (.cells #[] 35), fun g hg => by cases hg; exact Nat.le_succ _⟩ ((Below.refl _ _).drew) g1 b1 (sz2 wo _ _); have BX1 := Lib.hid (BXO.out.next hb1.1); have RB := Lib.hid (rd_newer6 (((RdSl.newAt wo #[.string es, .int .u64 pe, .int .u64 x0, .int .u64 x1, .int .u64 x2, .int .u64 x3] 35 6 1 wo.heap.size rfl rfl).alloc (.cells #[] 35)).drew) g1 (lt2' wo _ _) (ob_ne (by omega))); have O1 := Lib.hid (And.intro o1 hb1); clear o1 g1 b1 hb1) | (refine step_append_sl (w := w1.alloc (.cells #[.string es, .int .u64 pe, .int .u64 x0, .int .u64 x1, .int .u64 x2, .int .u64 x3] 35)) rfl (.tmp 37) (.tmp 39) 132 rfl 35 i0 _ 6 56 Tryz.underlying132 I.out.1 I.out.2.1 I.out.2.2.1 I.out.2.2.2 rfl (by decide) v1 (0 + i) ([] ++ eR W (S.take i)) rfl (by exact O1.out.1.alloc _) _ 1 [.string es, .int .u64 pe, .int .u64 x0, .int .u64 x1, .int .u64 x2, .int .u64 x3] rfl (by exact RdSl.newAt w1 #[.string es, .int .u64 pe, .int .u64 x0, .int .u64 x1, .int .u64 x2, .int .u64 x3] 35 6 1 _ rfl rfl) HO6.out (by unfold maxLen; omega) (by omega) ?_; intro v2 w2 o2 g2 b2; have hb2 := own_chain O1.out.2 (below_alloc w1 _) g2 b2 (by have := O1.out.2.1.size; simp; try omega); have BX2 := Lib.hid (BXO.out.next hb2.1); have O2 := Lib.hid (And.intro o2 hb2); have R2 := Lib.hid (T2.out.below hb2.1); clear o2 g2 b2 hb2) | (refine step_append_sl (w := w1) rfl (.tmp 37) (.tmp 39) 132 rfl 35 i0 _ 6 56 Tryz.underlying132 I.out.1 I.out.2.1 I.out.2.2.1 I.out.2.2.2 rfl (by decide) v1 (0 + i) ([] ++ eR W (S.take i)) rfl (by exact O1.out.1) _ 1 [.string es, .int .u64 pe, .int .u64 x0, .int .u64 x1, .int .u64 x2, .int .u64 x3] rfl (by exact RB.out) HO6.out (by unfold maxLen; omega) (by omega) ?_; intro v2 w2 o2 g2 b2; have hb2 := own_chain O1.out.2 (Below.refl _ _) g2 b2 (by have := O1.out.2.1.size; simp; try omega); have BX2 := Lib.hid (BXO.out.next hb2.1); have O2 := Lib.hid (And.intro o2 hb2); have R2 := Lib.hid (T2.out.below hb2.1); clear o2 g2 b2 hb2) | (refine step_append_sl (w := w2) rfl (.tmp 40) (.tmp 43) 132 rfl 35 i0 _ 6 56 Tryz.underlying132 I.out.1 I.out.2.1 I.out.2.2.1 I.out.2.2.2 rfl (by decide) v2 (0 + i + 1) ([] ++ eR W (S.take i) ++ [.string es, .int .u64 pe, .int .u64 x0, .int .u64 x1, .int .u64 x2, .int .u64 x3]) rfl (by exact O2.out.1) _ (m - i) (eR W (S.drop i)) rfl (by exact R2.out) (eR_one _ _) (by unfold maxLen; omega) (by omega) ?_; intro v3 w3 o3 g3 b3; have hb3 := own_chain O2.out.2 (Below.refl _ _) g3 b3 (by have := O2.out.2.1.size; omega); have BX3 := Lib.hid (BXO.out.next hb3.1); have O3 := Lib.hid (And.intro o3 hb3); clear o3 g3 b3 hb3))
              all_goals go_wp2_with fail
              all_goals go_roundw
              all_goals first | (exact ⟨e + 1, by omega, by go_num, HST2.out _ _ _ LS.out (by exact O3.out.1) O3.out.2⟩) | (simp [intOf]; omega)
            · have him' : ¬ (i : Int) < m := by omega
              obtain rfl : i = m := by omega
              clear hE
              go_wp2_with fail
              go_quiet (fail)
              obtain ⟨wo, hwo⟩ : ∃ wo, wl.drewN nq = wo := ⟨_, rfl⟩
              rw [hwo]
              obtain ⟨ls, bx, rd⟩ := X1'.out wo (by rw [← hwo]; exact B.out.trans ⟨rfl, rfl, rfl, Nat.le_refl _, fun _ _ => rfl⟩)
              have LS := Lib.hid ls; have BXO := Lib.hid bx; have RD := Lib.hid rd
              have b1 := bx.cells
              have hic : (i : Int) ≤ oc := by omega
              clear ls bx rd hwo b0 X1'
              have t1 : RdSl wo 6 (.slice oa i oc) i (eR W (S.take i)) := by have := RD.out.takeG i (by omega); rw [eR_take] at this; exact this
              have t2 : RdSl wo 6 (.slice (if oc = i then oa else oa.map (·.add (i * 6))) (i - i) (oc - i)) (i - i) (eR W (S.drop i)) := by have := RD.out.dropG i (by omega); rw [eR_drop] at this; exact this
              rw [Nat.sub_self] at t2
              clear RD
              by_cases hci : oc = i
              · rw [if_pos hci] at t2
                obtain rfl : i = oc := hci.symm
                rw [Nat.sub_self] at t2
                have T1 := Lib.hid t1; have T2 := Lib.hid t2; clear t1 t2 hci
                go_wp2_with fail
                go_region_held3 (fun wx => wx.cell? ⟨wq.heap.size, 0, none⟩ = some (.string es) ∧ wx.cell? ⟨wq.heap.size, 1, none⟩ = some (.int .u64 pe) ∧ wx.cell? ⟨wq.heap.size, 2, none⟩ = some (.int .u64 x0) ∧ wx.cell? ⟨wq.heap.size, 3, none⟩ = some (.int .u64 x1) ∧ wx.cell? ⟨wq.heap.size, 4, none⟩ = some (.int .u64 x2) ∧ wx.cell? ⟨wq.heap.size, 5, none⟩ = some (.int .u64 x3)) (first | (with_reducible exact BX3.out.cells) | (with_reducible exact BX2.out.cells) | (with_reducible exact (BX1.out.next (below_alloc w1 (.cells #[.string es, .int .u64 pe, .int .u64 x0, .int .u64 x1, .int .u64 x2, .int .u64 x3] 35))).cells) | (with_reducible exact BX1.out.cells) | (with_reducible exact (BXO.out.next ((Below.refl _ _).drew)).cells) | (with_reducible exact (BXO.out.next ((below_alloc wo (.cells #[] 35)).drew)).cells) | (with_reducible exact (BXO.out.next ((below_twice wo (.cells #[] 35) (.cells #[.string es, .int .u64 pe, .int .u64 x0, .int .u64 x1, .int .u64 x2, .int .u64 x3] 35)).drew)).cells) | (with_reducible exact (BXO.out.next ((below_twice wo (.cells #[.string es, .int .u64 pe, .int .u64 x0, .int .u64 x1, .int .u64 x2, .int .u64 x3] 35) (.cells #[] 35)).drew)).cells) | (with_reducible exact (BXO.out.next ((below_alloc wo (.cells #[.string es, .int .u64 pe, .int .u64 x0, .int .u64 x1, .int .u64 x2, .int .u64 x3] 35)).drew)).cells)) (first | (refine step_append_sl (w := (wo.alloc (.cells #[] 35)).drew) rfl (.tmp 33) (.tmp 36) 132 rfl 35 i0 _ 6 56 Tryz.underlying132 I.out.1 I.out.2.1 I.out.2.2.1 I.out.2.2.2 rfl (by decide) (.slice (some ⟨wo.heap.size, 0, none⟩) 0 0) 0 [] rfl (by exact (OwnSl.new wo #[] 35 6 0 0 rfl (Nat.le_refl _) (Nat.zero_le _)).drew) _ i (eR W (S.take i)) rfl (by exact (T1.out.alloc _).drew) (eR_one _ _) (by unfold maxLen; omega) (by omega) ?_; intro v1 w1 o1 g1 b1; have hb1 := own_chain (v1 := .slice (some ⟨wo.heap.size, 0, none⟩) 0 0) ⟨below_alloc wo (.cells #[] 35), fun g hg => by cases hg; exact Nat.le_refl _⟩ ((Below.refl _ _).drew) g1 b1 (sz1 wo _); have BX1 := Lib.hid (BXO.out.next hb1.1); have O1 := Lib.hid (And.intro o1 hb1); clear o1 g1 b1 hb1) | (refine step_append_sl (w := ((wo.alloc (.cells #[] 35)).alloc (.cells #[.string es, .int .u64 pe, .int .u64 x0, .int .u64 x1, .int .u64 x2, .int .u64 x3] 35)).drew) rfl (.tmp 33) (.tmp 36) 132 rfl 35 i0 _ 6 56 Tryz.underlying132 I.out.1 I.out.2.1 I.out.2.2.1 I.out.2.2.2 rfl (by decide) (.slice (some ⟨wo.heap.size, 0, none⟩) 0 0) 0 [] rfl (by exact ((OwnSl.new wo #[] 35 6 0 0 rfl (Nat.le_refl _) (Nat.zero_le _)).alloc _).drew) _ i (eR W (S.take i)) rfl (by exact ((T1.out.alloc _).alloc _).drew) (eR_one _ _) (by unfold maxLen; omega) (by omega) ?_; intro v1 w1 o1 g1 b1; have hb1 := own_chain (v1 := .slice (some ⟨wo.heap.size, 0, none⟩) 0 0) ⟨below_twice wo (.cells #[] 35) (.cells #[.string es, .int .u64 pe, .int .u64 x0, .int .u64 x1, .int .u64 x2, .int .u64 x3] 35), fun g hg => by cases hg; exact Nat.le_refl _⟩ ((Below.refl _ _).drew) g1 b1 (sz2 wo _ _); have BX1 := Lib.hid (BXO.out.next hb1.1); have RB := Lib.hid (rd_newer6 ((RdSl.newAt (wo.alloc (.cells #[] 35)) #[.string es, .int .u64 pe, .int .u64 x0, .int .u64 x1, .int .u64 x2, .int .u64 x3] 35 6 1 (wo.heap.size + 1) (by simp) rfl).drew) g1 (lt2 wo _ _) (ob_ne (by omega))); have O1 := Lib.hid (And.intro o1 hb1); clear o1 g1 b1 hb1) | (refine step_append_sl (w := ((wo.alloc (.cells #[.string es, .int .u64 pe, .int .u64 x0, .int .u64 x1, .int .u64 x2, .int .u64 x3] 35)).alloc (.cells #[] 35)).drew) rfl (.tmp 33) (.tmp 36) 132 rfl 35 i0 _ 6 56 Tryz.underlying132 I.out.1 I.out.2.1 I.out.2.2.1 I.out.2.2.2 rfl (by decide) (.slice (some ⟨wo.heap.size + 1, 0, none⟩) 0 0) 0 [] rfl (by exact (ownNewAt (wo.alloc (.cells #[.string es, .int .u64 pe, .int .u64 x0, .int .u64 x1, .int .u64 x2, .int .u64 x3] 35)) #[] 35 6 0 0 (wo.heap.size + 1) (by simp) rfl (Nat.le_refl _) (Nat.zero_le _)).drew) _ i (eR W (S.take i)) rfl (by exact ((T1.out.alloc _).alloc _).drew) (eR_one _ _) (by unfold maxLen; omega) (by omega) ?_; intro v1 w1 o1 g1 b1; have hb1 := own_chain (v1 := .slice (some ⟨wo.heap.size + 1, 0, none⟩) 0 0) ⟨below_twice wo (.cells #[.string es, .int .u64 pe, .int .u64 x0, .int .u64 x1, .int .u64 x2, .int .u64 x3] 35) (.cells #[] 35), fun g hg => by cases hg; exact Nat.le_succ _⟩ ((Below.refl _ _).drew) g1 b1 (sz2 wo _ _); have BX1 := Lib.hid (BXO.out.next hb1.1); have RB := Lib.hid (rd_newer6 (((RdSl.newAt wo #[.string es, .int .u64 pe, .int .u64 x0, .int .u64 x1, .int .u64 x2, .int .u64 x3] 35 6 1 wo.heap.size rfl rfl).alloc (.cells #[] 35)).drew) g1 (lt2' wo _ _) (ob_ne (by omega))); have O1 := Lib.hid (And.intro o1 hb1); clear o1 g1 b1 hb1) | (refine step_append_sl (w := w1.alloc (.cells #[.string es, .int .u64 pe, .int .u64 x0, .int .u64 x1, .int .u64 x2, .int .u64 x3] 35)) rfl (.tmp 37) (.tmp 39) 132 rfl 35 i0 _ 6 56 Tryz.underlying132 I.out.1 I.out.2.1 I.out.2.2.1 I.out.2.2.2 rfl (by decide) v1 (0 + i) ([] ++ eR W (S.take i)) rfl (by exact O1.out.1.alloc _) _ 1 [.string es, .int .u64 pe, .int .u64 x0, .int .u64 x1, .int .u64 x2, .int .u64 x3] rfl (by exact RdSl.newAt w1 #[.string es, .int .u64 pe, .int .u64 x0, .int .u64 x1, .int .u64 x2, .int .u64 x3] 35 6 1 _ rfl rfl) HO6.out (by unfold maxLen; omega) (by omega) ?_; intro v2 w2 o2 g2 b2; have hb2 := own_chain O1.out.2 (below_alloc w1 _) g2 b2 (by have := O1.out.2.1.size; simp; try omega); have BX2 := Lib.hid (BXO.out.next hb2.1); have O2 := Lib.hid (And.intro o2 hb2); have R2 := Lib.hid (T2.out.below hb2.1); clear o2 g2 b2 hb2) | (refine step_append_sl (w := w1) rfl (.tmp 37) (.tmp 39) 132 rfl 35 i0 _ 6 56 Tryz.underlying132 I.out.1 I.out.2.1 I.out.2.2.1 I.out.2.2.2 rfl (by decide) v1 (0 + i) ([] ++ eR W (S.take i)) rfl (by exact O1.out.1) _ 1 [.string es, .int .u64 pe, .int .u64 x0, .int .u64 x1, .int .u64 x2, .int .u64 x3] rfl (by exact RB.out) HO6.out (by unfold maxLen; omega) (by omega) ?_; intro v2 w2 o2 g2 b2; have hb2 := own_chain O1.out.2 (Below.refl _ _) g2 b2 (by have := O1.out.2.1.size; simp; try omega); have BX2 := Lib.hid (BXO.out.next hb2.1); have O2 := Lib.hid (And.intro o2 hb2); have R2 := Lib.hid (T2.out.below hb2.1); clear o2 g2 b2 hb2) | (refine step_append_sl (w := w2) rfl (.tmp 40) (.tmp 43) 132 rfl 35 i0 _ 6 56 Tryz.underlying132 I.out.1 I.out.2.1 I.out.2.2.1 I.out.2.2.2 rfl (by decide) v2 (0 + i + 1) ([] ++ eR W (S.take i) ++ [.string es, .int .u64 pe, .int .u64 x0, .int .u64 x1, .int .u64 x2, .int .u64 x3]) rfl (by exact O2.out.1) _ 0 (eR W (S.drop i)) rfl (by exact R2.out) (eR_one _ _) (by unfold maxLen; omega) (by omega) ?_; intro v3 w3 o3 g3 b3; have hb3 := own_chain O2.out.2 (Below.refl _ _) g3 b3 (by have := O2.out.2.1.size; omega); have BX3 := Lib.hid (BXO.out.next hb3.1); have O3 := Lib.hid (And.intro o3 hb3); clear o3 g3 b3 hb3))
                all_goals go_wp2_with fail
                all_goals go_roundw
                all_goals first | (exact ⟨e + 1, by omega, by go_num, HST2.out _ _ _ LS.out (by rw [Nat.sub_self]; exact O3.out.1) O3.out.2⟩) | (simp [intOf]; omega)
              · rw [if_neg hci] at t2
                have hci' : ¬ (oc : Int) = (i : Int) := by omega
                have T1 := Lib.hid t1; have T2 := Lib.hid t2; clear t1 t2
                go_wp2_with fail
                go_region_held3 (fun wx => wx.cell? ⟨wq.heap.size, 0, none⟩ = some (.string es) ∧ wx.cell? ⟨wq.heap.size, 1, none⟩ = some (.int .u64 pe) ∧ wx.cell? ⟨wq.heap.size, 2, none⟩ = some (.int .u64 x0) ∧ wx.cell? ⟨wq.heap.size, 3, none⟩ = some (.int .u64 x1) ∧ wx.cell? ⟨wq.heap.size, 4, none⟩ = some (.int .u64 x2) ∧ wx.cell? ⟨wq.heap.size, 5, none⟩ = some (.int .u64 x3)) (first | (with_reducible exact BX3.out.cells) | (with_reducible exact BX2.out.cells) | (with_reducible exact (BX1.out.next (below_alloc w1 (.cells #[.string es, .int .u64 pe, .int .u64 x0, .int .u64 x1, .int .u64 x2, .int .u64 x3] 35))).cells) | (with_reducible exact BX1.out.cells) | (with_reducible exact (BXO.out.next ((Below.refl _ _).drew)).cells) | (with_reducible exact (BXO.out.next ((below_alloc wo (.cells #[] 35)).drew)).cells) | (with_reducible exact (BXO.out.next ((below_twice wo (.cells #[] 35) (.cells #[.string es, .int .u64 pe, .int .u64 x0, .int .u64 x1, .int .u64 x2, .int .u64 x3] 35)).drew)).cells) | (with_reducible exact (BXO.out.next ((below_twice wo (.cells #[.string es, .int .u64 pe, .int .u64 x0, .int .u64 x1, .int .u64 x2, .int .u64 x3] 35) (.cells #[] 35)).drew)).cells) | (with_reducible exact (BXO.out.next ((below_alloc wo (.cells #[.string es, .int .u64 pe, .int .u64 x0, .int .u64 x1, .int .u64 x2, .int .u64 x3] 35)).drew)).cells)) (first | (refine step_append_sl (w := (wo.alloc (.cells #[] 35)).drew) rfl (.tmp 33) (.tmp 36) 132 rfl 35 i0 _ 6 56 Tryz.underlying132 I.out.1 I.out.2.1 I.out.2.2.1 I.out.2.2.2 rfl (by decide) (.slice (some ⟨wo.heap.size, 0, none⟩) 0 0) 0 [] rfl (by exact (OwnSl.new wo #[] 35 6 0 0 rfl (Nat.le_refl _) (Nat.zero_le _)).drew) _ i (eR W (S.take i)) rfl (by exact (T1.out.alloc _).drew) (eR_one _ _) (by unfold maxLen; omega) (by omega) ?_; intro v1 w1 o1 g1 b1; have hb1 := own_chain (v1 := .slice (some ⟨wo.heap.size, 0, none⟩) 0 0) ⟨below_alloc wo (.cells #[] 35), fun g hg => by cases hg; exact Nat.le_refl _⟩ ((Below.refl _ _).drew) g1 b1 (sz1 wo _); have BX1 := Lib.hid (BXO.out.next hb1.1); have O1 := Lib.hid (And.intro o1 hb1); clear o1 g1 b1 hb1) | (refine step_append_sl (w := ((wo.alloc (.cells #[] 35)).alloc (.cells #[.string es, .int .u64 pe, .int .u64 x0, .int .u64 x1, .int .u64 x2, .int .u64 x3] 35)).drew) rfl (.tmp 33) (.tmp 36) 132 rfl 35 i0 _ 6 56 Tryz.underlying132 I.out.1 I.out.2.1 I.out.2.2.1 I.out.2.2.2 rfl (by decide) (.slice (some ⟨wo.heap.size, 0, none⟩) 0 0) 0 [] rfl (by exact ((OwnSl.new wo #[] 35 6 0 0 rfl (Nat.le_refl _) (Nat.zero_le _)).alloc _).drew) _ i (eR W (S.take i)) rfl (by exact ((T1.out.alloc _).alloc _).drew) (eR_one _ _) (by unfold maxLen; omega) (by omega) ?_; intro v1 w1 o1 g1 b1; have hb1 := own_chain (v1 := .slice (some ⟨wo.heap.size, 0, none⟩) 0 0) ⟨below_twice wo (.cells #[] 35) (.cells #[.string es, .int .u64 pe, .int .u64 x0, .int .u64 x1, .int .u64 x2, .int .u64 x3] 35), fun g hg => by cases hg; exact Nat.le_refl _⟩ ((Below.refl _ _).drew) g1 b1 (sz2 wo _ _); have BX1 := Lib.hid (BXO.out.next hb1.1); have RB := Lib.hid (rd_newer6 ((RdSl.newAt (wo.alloc (.cells #[] 35)) #[.string es, .int .u64 pe, .int .u64 x0, .int .u64 x1, .int .u64 x2, .int .u64 x3] 35 6 1 (wo.heap.size + 1) (by simp) rfl).drew) g1 (lt2 wo _ _) (ob_ne (by omega))); have O1 := Lib.hid (And.intro o1 hb1); clear o1 g1 b1 hb1) | (refine step_append_sl (w := ((wo.alloc (.cells #[.string es, .int .u64 pe, .int .u64 x0, .int .u64 x1, .int .u64 x2, .int .u64 x3] 35)).alloc (.cells #[] 35)).drew) rfl (.tmp 33) (.tmp 36) 132 rfl 35 i0 _ 6 56 Tryz.underlying132 I.out.1 I.out.2.1 I.out.2.2.1 I.out.2.2.2 rfl (by decide) (.slice (some ⟨wo.heap.size + 1, 0, none⟩) 0 0) 0 [] rfl (by exact (ownNewAt (wo.alloc (.cells #[.string es, .int .u64 pe, .int .u64 x0, .int .u64 x1, .int .u64 x2, .int .u64 x3] 35)) #[] 35 6 0 0 (wo.heap.size + 1) (by simp) rfl (Nat.le_refl _) (Nat.zero_le _)).drew) _ i (eR W (S.take i)) rfl (by exact ((T1.out.alloc _).alloc _).drew) (eR_one _ _) (by unfold maxLen; omega) (by omega) ?_; intro v1 w1 o1 g1 b1; have hb1 := own_chain (v1 := .slice (some ⟨wo.heap.size + 1, 0, none⟩) 0 0) ⟨below_twice wo (.cells #[.string es, .int .u64 pe, .int .u64 x0, .int .u64 x1, .int .u64 x2, .int .u64 x3] 35) (.cells #[] 35), fun g hg => by cases hg; exact Nat.le_succ _⟩ ((Below.refl _ _).drew) g1 b1 (sz2 wo _ _); have BX1 := Lib.hid (BXO.out.next hb1.1); have RB := Lib.hid (rd_newer6 (((RdSl.newAt wo #[.string es, .int .u64 pe, .int .u64 x0, .int .u64 x1, .int .u64 x2, .int .u64 x3] 35 6 1 wo.heap.size rfl rfl).alloc (.cells #[] 35)).drew) g1 (lt2' wo _ _) (ob_ne (by omega))); have O1 := Lib.hid (And.intro o1 hb1); clear o1 g1 b1 hb1) | (refine step_append_sl (w := w1.alloc (.cells #[.string es, .int .u64 pe, .int .u64 x0, .int .u64 x1, .int .u64 x2, .int .u64 x3] 35)) rfl (.tmp 37) (.tmp 39) 132 rfl 35 i0 _ 6 56 Tryz.underlying132 I.out.1 I.out.2.1 I.out.2.2.1 I.out.2.2.2 rfl (by decide) v1 (0 + i) ([] ++ eR W (S.take i)) rfl (by exact O1.out.1.alloc _) _ 1 [.string es, .int .u64 pe, .int .u64 x0, .int .u64 x1, .int .u64 x2, .int .u64 x3] rfl (by exact RdSl.newAt w1 #[.string es, .int .u64 pe, .int .u64 x0, .int .u64 x1, .int .u64 x2, .int .u64 x3] 35 6 1 _ rfl rfl) HO6.out (by unfold maxLen; omega) (by omega) ?_; intro v2 w2 o2 g2 b2; have hb2 := own_chain O1.out.2 (below_alloc w1 _) g2 b2 (by have := O1.out.2.1.size; simp; try omega); have BX2 := Lib.hid (BXO.out.next hb2.1); have O2 := Lib.hid (And.intro o2 hb2); have R2 := Lib.hid (T2.out.below hb2.1); clear o2 g2 b2 hb2) | (refine step_append_sl (w := w1) rfl (.tmp 37) (.tmp 39) 132 rfl 35 i0 _ 6 56 Tryz.underlying132 I.out.1 I.out.2.1 I.out.2.2.1 I.out.2.2.2 rfl (by decide) v1 (0 + i) ([] ++ eR W (S.take i)) rfl (by exact O1.out.1) _ 1 [.string es, .int .u64 pe, .int .u64 x0, .int .u64 x1, .int .u64 x2, .int .u64 x3] rfl (by exact RB.out) HO6.out (by unfold maxLen; omega) (by omega) ?_; intro v2 w2 o2 g2 b2; have hb2 := own_chain O1.out.2 (Below.refl _ _) g2 b2 (by have := O1.out.2.1.size; simp; try omega); have BX2 := Lib.hid (BXO.out.next hb2.1); have O2 := Lib.hid (And.intro o2 hb2); have R2 := Lib.hid (T2.out.below hb2.1); clear o2 g2 b2 hb2) | (refine step_append_sl (w := w2) rfl (.tmp 40) (.tmp 43) 132 rfl 35 i0 _ 6 56 Tryz.underlying132 I.out.1 I.out.2.1 I.out.2.2.1 I.out.2.2.2 rfl (by decide) v2 (0 + i + 1) ([] ++ eR W (S.take i) ++ [.string es, .int .u64 pe, .int .u64 x0, .int .u64 x1, .int .u64 x2, .int .u64 x3]) rfl (by exact O2.out.1) _ 0 (eR W (S.drop i)) rfl (by exact R2.out) (eR_one _ _) (by unfold maxLen; omega) (by omega) ?_; intro v3 w3 o3 g3 b3; have hb3 := own_chain O2.out.2 (Below.refl _ _) g3 b3 (by have := O2.out.2.1.size; omega); have BX3 := Lib.hid (BXO.out.next hb3.1); have O3 := Lib.hid (And.intro o3 hb3); clear o3 g3 b3 hb3))
                all_goals go_wp2_with fail
                all_goals go_roundw
                all_goals first | (exact ⟨e + 1, by omega, by go_num, HST2.out _ _ _ LS.out (by rw [Nat.sub_self]; exact O3.out.1) O3.out.2⟩) | (simp [intOf]; omega)
      · have h3 : x3 = 0 := by
          rw [hq0] at hfr
          by_cases hh : x3 = 0
          · exact hh
          · simp [hh] at hfr
        have X2 := Lib.hid (X1.out.skip (by rw [HX3.out]; exact h3))
        clear hel hfr h3
        go_wp2_with fail
        go_roundw
        case rel => exact ⟨e + 1, by omega, by go_num, X2.out⟩
        case measure => simp [intOf]; omega
    · obtain rfl : e = 16 := by omega
      go_wp2_with fail
      go_ret
      exact ⟨_, rfl, by rw [HLD.out]; exact X.out.acc⟩
end
end Go.Proofs.YtmfchlliechikaaGreatDoor
