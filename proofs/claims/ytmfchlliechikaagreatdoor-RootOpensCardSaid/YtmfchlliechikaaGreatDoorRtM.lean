/- Plain: names as words, entries, what a change of a directory writes. No program in sight. -/
import Derived.Test.YtmfchlliechikaaGreatDoorCrcM
import Derived.Lib.TrimByte
namespace Go.Proofs.YtmfchlliechikaaGreatDoor

/-- A letter; a byte of a name. -/
def letB (b : Nat) : Bool := (decide (65 ≤ b) && decide (b ≤ 90)) || (decide (97 ≤ b) && decide (b ≤ 122))
def restB (b : Nat) : Bool := letB b || b == 95 || (decide (48 ≤ b) && decide (b ≤ 57))
/-- A name: a letter followed by letters, digits and _, at most 16 bytes. -/
def nameB (l : List UInt8) : Bool := decide (1 ≤ l.length ∧ l.length ≤ 16) && letB (l.getD 0 0).toNat && l.all fun b => restB b.toNat
theorem restB_pos {b : UInt8} (h : restB b.toNat = true) : b ≠ 0 := by
  rintro rfl
  revert h; decide
structure NameOk (l : List UInt8) : Prop where
  pos : 1 ≤ l.length
  le : l.length ≤ 16
  all : ∀ b ∈ l, restB b.toNat = true
theorem nameB_ok {l : List UInt8} (h : nameB l = true) : NameOk l := by
  unfold nameB at h
  simp only [Bool.and_eq_true, decide_eq_true_eq] at h
  exact ⟨h.1.1.1, h.1.1.2, List.all_eq_true.1 h.2⟩
/-- Byte i of a word. -/
def byteN (x i : Nat) : UInt8 := UInt8.ofNat (x / 256 ^ i)
theorem byteN_toNat (x i : Nat) : (byteN x i).toNat = x / 256 ^ i % 256 := by unfold byteN; simp
/-- Bytes as a word, the first one lowest. -/
def pkN (l : List UInt8) : Nat := l.foldr (fun b r => b.toNat + 256 * r) 0
theorem pkN_cons (b : UInt8) (l : List UInt8) : pkN (b :: l) = b.toNat + 256 * pkN l := rfl
theorem pkN_lt (l : List UInt8) : pkN l < 256 ^ l.length := by
  induction l with
  | nil => decide
  | cons b l ih =>
    rw [pkN_cons, List.length_cons, Nat.pow_succ]
    have := b.toNat_lt
    omega
theorem pkN_lt8 {l : List UInt8} (h : l.length ≤ 8) : pkN l < 18446744073709551616 :=
  Nat.lt_of_lt_of_le (pkN_lt l) (Nat.pow_le_pow_right (n := 256) (by omega) h)
theorem pkN_append (a b : List UInt8) : pkN (a ++ b) = pkN a + 256 ^ a.length * pkN b := by
  induction a with
  | nil => simp [pkN]
  | cons x a ih =>
    rw [List.cons_append, pkN_cons, pkN_cons, ih, List.length_cons, Nat.pow_succ, Nat.mul_add, Nat.mul_right_comm]
    rw [Nat.mul_comm 256 (256 ^ a.length * pkN b), Nat.mul_right_comm, Nat.mul_comm (256 ^ a.length) 256]
    omega
theorem pkN_snoc (l : List UInt8) (b : UInt8) : pkN (l ++ [b]) = pkN l + b.toNat * 256 ^ l.length := by
  rw [pkN_append]
  show pkN l + 256 ^ l.length * (b.toNat + 256 * 0) = _
  rw [Nat.mul_zero, Nat.add_zero, Nat.mul_comm]
theorem pkN_zeros (z : List UInt8) (h : ∀ b ∈ z, b = 0) : pkN z = 0 := by
  induction z with
  | nil => rfl
  | cons x z ih =>
    rw [pkN_cons, ih fun b hb => h b (List.mem_cons_of_mem _ hb), h x (List.mem_cons_self ..)]
    rfl
theorem byteN_pkN (l : List UInt8) : ∀ i, byteN (pkN l) i = l.getD i 0 := by
  induction l with
  | nil => intro i; unfold byteN pkN; simp
  | cons b l ih =>
    intro i
    have hb := b.toNat_lt
    apply UInt8.toNat_inj.1
    rw [byteN_toNat, pkN_cons]
    cases i with
    | zero => simp
    | succ i =>
      rw [Nat.pow_succ, Nat.mul_comm (256 ^ i) 256, ← Nat.div_div_eq_div_mul, show (b.toNat + 256 * pkN l) / 256 = pkN l from by omega, ← byteN_toNat, ih]
      simp
theorem pkN_bytes (x n : Nat) : pkN ((List.range n).map (byteN x)) = x % 256 ^ n := by
  induction n with
  | zero => simp [pkN, Nat.mod_one]
  | succ n ih =>
    rw [List.range_succ, List.map_append, List.map_cons, List.map_nil, pkN_snoc, ih, List.length_map, List.length_range, byteN_toNat, Nat.pow_succ, Nat.mod_mul, Nat.mul_comm]
/-- The bytes of two words; a name's two words. -/
def raw16 (x y : Nat) : List UInt8 := (List.range 8).map (byteN x) ++ (List.range 8).map (byteN y)
theorem raw16_len (x y : Nat) : (raw16 x y).length = 16 := by simp [raw16]
def pk0 (l : List UInt8) : Nat := pkN (l.take 8)
def pk1 (l : List UInt8) : Nat := pkN ((l.drop 8).take 8)
theorem pk0_lt (l : List UInt8) : pk0 l < 18446744073709551616 := pkN_lt8 (by simp; omega)
theorem pk1_lt (l : List UInt8) : pk1 l < 18446744073709551616 := pkN_lt8 (by simp; omega)
/-- The name that two words hold. -/
def nmL (x y : Nat) : List UInt8 := Lib.trimRightB (raw16 x y) 0
theorem trim_ex (l : List UInt8) (c : UInt8) : ∃ k, k ≤ l.length ∧ Lib.trimRightB l c = l.take k ∧ ∀ (j : Nat) b, k ≤ j → l[j]? = some b → b = c := by
  have key : ∀ n, n ≤ l.length → (∀ (j : Nat) b, n ≤ j → l[j]? = some b → b = c) → ∃ k, k ≤ l.length ∧ (∀ (j : Nat) b, k ≤ j → l[j]? = some b → b = c) ∧ ∀ b, 0 < k → l[k - 1]? = some b → b ≠ c := by
    intro n
    induction n with
    | zero => intro h1 h2; exact ⟨0, h1, h2, fun b h => absurd h (by omega)⟩
    | succ n ih =>
      intro h1 h2
      have hn : n < l.length := by omega
      by_cases hc : l[n] = c
      · refine ih (by omega) fun j b hj hb => ?_
        by_cases e : j = n
        · subst e
          rw [List.getElem?_eq_getElem hn] at hb
          rw [← Option.some.inj hb]; exact hc
        · exact h2 j b (by omega) hb
      · refine ⟨n + 1, h1, h2, fun b _ hb => ?_⟩
        rw [Nat.add_sub_cancel, List.getElem?_eq_getElem hn] at hb
        rw [← Option.some.inj hb]; exact hc
  obtain ⟨k, h1, h2, h3⟩ := key l.length (Nat.le_refl _) (fun j b hj hb => by rw [List.getElem?_eq_none hj] at hb; cases hb)
  exact ⟨k, h1, Lib.trimRightB_take l c k h1 h2 h3, h2⟩
theorem nmL_len (x y : Nat) : (nmL x y).length ≤ 16 := by
  obtain ⟨k, h1, h2, _⟩ := trim_ex (raw16 x y) 0
  unfold nmL
  rw [h2]
  have := raw16_len x y
  simp; omega
theorem raw_split (l : List UInt8) (k : Nat) (h : ∀ (j : Nat) b, k ≤ j → l[j]? = some b → b = 0) : pkN (l.take k) = pkN l := by
  have e : l = l.take k ++ l.drop k := (List.take_append_drop k l).symm
  have hz : pkN (l.drop k) = 0 := pkN_zeros _ fun b hb => by
    obtain ⟨i, hi, rfl⟩ := List.getElem_of_mem hb
    refine h (k + i) _ (by omega) ?_
    rw [← List.getElem?_drop, List.getElem?_eq_getElem hi]
  conv => rhs; rw [e]
  rw [pkN_append, hz, Nat.mul_zero, Nat.add_zero]
/-- The words of a name that was read are the words that it was read from. -/
theorem pk_nmL (x y : Nat) (hx : x < 18446744073709551616) (hy : y < 18446744073709551616) : pk0 (nmL x y) = x ∧ pk1 (nmL x y) = y := by
  obtain ⟨k, h1, h2, h3⟩ := trim_ex (raw16 x y) 0
  have t8 : (raw16 x y).take 8 = (List.range 8).map (byteN x) := by unfold raw16; exact List.take_left' (by simp)
  have d8 : (raw16 x y).drop 8 = (List.range 8).map (byteN y) := by unfold raw16; exact List.drop_left' (by simp)
  have hX : pkN ((List.range 8).map (byteN x)) = x := by rw [pkN_bytes]; exact Nat.mod_eq_of_lt hx
  have hY : pkN ((List.range 8).map (byteN y)) = y := by rw [pkN_bytes]; exact Nat.mod_eq_of_lt hy
  unfold pk0 pk1 nmL
  rw [h2]
  constructor
  · rw [List.take_take, Nat.min_comm, ← List.take_take, t8]
    rw [raw_split _ k, hX]
    intro j b hj hb
    rw [← t8] at hb
    rw [List.getElem?_take] at hb
    split at hb
    · exact h3 j b hj hb
    · cases hb
  · rw [List.drop_take, d8]
    rw [List.take_of_length_le (by simp; omega)]
    rw [raw_split _ (k - 8), hY]
    intro j b hj hb
    rw [← d8, List.getElem?_drop] at hb
    exact h3 (8 + j) b (by omega) hb
theorem raw_get (x y j : Nat) (h : j < 16) : (raw16 x y)[j]? = some (if j < 8 then byteN x j else byteN y (j - 8)) := by
  unfold raw16
  rw [List.getElem?_append]
  split
  · rename_i h8
    simp at h8
    rw [if_pos h8, List.getElem?_map, List.getElem?_range h8]; rfl
  · rename_i h8
    simp at h8
    rw [if_neg (by omega), List.getElem?_map, List.length_map, List.length_range, List.getElem?_range (by omega)]; rfl
theorem raw_pk (l : List UInt8) (_hl : l.length ≤ 16) (j : Nat) (h : j < 16) : (raw16 (pk0 l) (pk1 l))[j]? = some (l.getD j 0) := by
  rw [raw_get _ _ _ h]
  unfold pk0 pk1
  split
  · rw [byteN_pkN]
    simp [List.getD, *]
  · rw [byteN_pkN]
    simp [List.getD, List.getElem?_drop, show j - 8 < 8 by omega, show 8 + (j - 8) = j by omega]
/-- A valid name that is packed is read again. -/
theorem nmL_pk {l : List UInt8} (h : nameB l = true) : nmL (pk0 l) (pk1 l) = l := by
  have hk := nameB_ok h
  have hle := hk.le
  have hpos := hk.pos
  unfold nmL
  rw [Lib.trimRightB_take _ 0 l.length (by rw [raw16_len]; exact hle)]
  · apply List.ext_getElem?
    intro j
    rw [List.getElem?_take]
    split
    · rename_i hj
      rw [raw_pk l hle j (by omega), List.getD_eq_getElem?_getD, List.getElem?_eq_getElem hj]; rfl
    · rename_i hj
      rw [List.getElem?_eq_none (by omega)]
  · intro j b hj hb
    have hj16 : j < 16 := by
      have := (List.getElem?_eq_some_iff.1 hb).1
      rw [raw16_len] at this; exact this
    rw [raw_pk l hle j hj16, List.getD_eq_getElem?_getD, List.getElem?_eq_none hj] at hb
    exact (Option.some.inj hb).symm
  · intro b _ hb
    rw [raw_pk l hle _ (by omega), List.getD_eq_getElem?_getD, List.getElem?_eq_getElem (by omega)] at hb
    have hb2 : l[l.length - 1] = b := Option.some.inj hb
    rw [← hb2]
    exact restB_pos (hk.all _ (List.getElem_mem _))
/-- The tag of a name's words. -/
def tagN (x y : Nat) : Nat := 4294967296 + crcN [x, y]
theorem tagN_pos (x y : Nat) : tagN x y ≠ 0 := by unfold tagN; omega
theorem tagN_lt (x y : Nat) : tagN x y < 18446744073709551616 := by unfold tagN; have := crcN_lt [x, y]; omega

/-- The first of n numbers that meets p; n: none does. -/
def firstI (p : Nat → Bool) (n : Nat) : Nat := (List.range n).findIdx p
theorem firstI_le (p : Nat → Bool) (n : Nat) : firstI p n ≤ n := by
  unfold firstI
  have := List.findIdx_le_length (p := p) (xs := List.range n)
  simpa using this
theorem firstI_spec (p : Nat → Bool) (n : Nat) : (∀ j, j < firstI p n → p j = false) ∧ (firstI p n < n → p (firstI p n) = true) := by
  unfold firstI
  refine ⟨fun j hj => ?_, fun h => ?_⟩
  · have h1 : j < (List.range n).length := by
      have := List.findIdx_le_length (p := p) (xs := List.range n)
      omega
    have := List.not_of_lt_findIdx hj
    simpa using this
  · have := List.findIdx_getElem (p := p) (xs := List.range n) (w := by simpa using h)
    simpa using this
theorem firstI_hit {p : Nat → Bool} {n k : Nat} (hk : k < n) (hp : p k = true) (h : ∀ j, j < k → p j = false) : firstI p n = k := by
  obtain ⟨h1, h2⟩ := firstI_spec p n
  rcases Nat.lt_trichotomy (firstI p n) k with h3 | h3 | h3
  · have := h2 (by omega); rw [h _ h3] at this; cases this
  · exact h3
  · have := h1 k h3; rw [hp] at this; cases this
theorem firstI_none {p : Nat → Bool} {n : Nat} (h : ∀ j, j < n → p j = false) : firstI p n = n := by
  obtain ⟨h1, h2⟩ := firstI_spec p n
  have := firstI_le p n
  rcases Nat.lt_or_ge (firstI p n) n with h3 | h3
  · have h4 := h2 h3; rw [h _ h3] at h4; cases h4
  · omega
theorem firstI_congr {p q : Nat → Bool} {n : Nat} (h : ∀ j, j < n → p j = q j) : firstI p n = firstI q n := by
  obtain ⟨h1, h2⟩ := firstI_spec q n
  rcases Nat.lt_or_ge (firstI q n) n with h3 | h3
  · exact firstI_hit h3 (by rw [h _ h3]; exact h2 h3) fun j hj => by rw [h _ (by omega)]; exact h1 j hj
  · have := firstI_le q n
    rw [show firstI q n = n by omega]
    exact firstI_none fun j hj => by rw [h j hj]; exact h1 j (by omega)
/-- The words of a directory: W (4 e + k) is word k of entry e. -/
def usedE (W : Nat → Nat) (e : Nat) : Bool := W (4 * e + 3) != 0
def nameE (W : Nat → Nat) (e : Nat) : List UInt8 := nmL (W (4 * e)) (W (4 * e + 1))
def findE (W : Nat → Nat) (l : List UInt8) : Nat := firstI (fun e => usedE W e && nameE W e == l) 16
def freeE (W : Nat → Nat) : Nat := firstI (fun e => !usedE W e) 16
/-- A pointer into so many bytes. -/
def ptrB (p sz : Nat) : Bool := decide (0 < p % 4294967296 * 8) && decide (p % 4294967296 * 8 < sz) && decide (0 < p / 4294967296 % 65536) && decide (0 < p / 281474976710656) && decide (p / 281474976710656 < 128)
/-- The error of a change, and its writes: words of the directory with their values. -/
def errE (W : Nat → Nat) (l : List UInt8) (p sz : Nat) : Nat :=
  if nameB l = false then 15 else if p ≠ 0 ∧ ptrB p sz = false then 1 else if p = 0 then (if findE W l < 16 then 0 else 5) else if findE W l < 16 then 0 else if freeE W < 16 then 0 else 4
def newW (f : Nat) (l : List UInt8) (p : Nat) : List (Nat × Nat) := [(4 * f, pk0 l), (4 * f + 1, pk1 l), (4 * f + 2, p), (4 * f + 3, tagN (pk0 l) (pk1 l))]
def wrE (W : Nat → Nat) (l : List UInt8) (p : Nat) : List (Nat × Nat) :=
  if p = 0 then [(4 * findE W l + 3, 0)] else if findE W l < 16 then [(4 * findE W l + 2, p)] else newW (freeE W) l p
def setWs (ws : List (Nat × Nat)) (W : Nat → Nat) : Nat → Nat := ws.foldl (fun W e i => if i = e.1 then e.2 else W i) W
/-- The words behind a change. -/
def chgE (W : Nat → Nat) (l : List UInt8) (p sz : Nat) : Nat → Nat := if errE W l p sz = 0 then setWs (wrE W l p) W else W
end Go.Proofs.YtmfchlliechikaaGreatDoor
