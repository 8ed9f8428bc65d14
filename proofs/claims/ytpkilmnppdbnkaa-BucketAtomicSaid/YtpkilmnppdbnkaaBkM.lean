/- Bit fields of a word, the mixing function, a bucket's header: plain. No program in sight. -/
import Derived.Test.YtpkilmnppdbnkaaBase
import Derived.Laws.Bits64b
namespace Go.Proofs.Ytpkilmnppdbnkaa
open Go.RowKit

/-- The field of wd bits from bit sh on. -/
def fld (w sh wd : Nat) : Nat := w / 2 ^ sh % 2 ^ wd
/-- The word with that field replaced. -/
def setF (w sh wd v : Nat) : Nat := 2 ^ sh * (2 ^ wd * (w / 2 ^ (sh + wd)) + v % 2 ^ wd) + w % 2 ^ sh
theorem fld_testBit (w sh wd i : Nat) : (fld w sh wd).testBit i = (decide (i < wd) && w.testBit (sh + i)) := by
  unfold fld
  rw [Nat.testBit_mod_two_pow, Nat.testBit_div_two_pow, Nat.add_comm]
theorem setF_testBit (w sh wd v i : Nat) : (setF w sh wd v).testBit i = if sh ≤ i ∧ i < sh + wd then v.testBit (i - sh) else w.testBit i := by
  unfold setF
  rw [Nat.testBit_two_pow_mul_add _ (Nat.mod_lt _ (Nat.two_pow_pos sh))]
  by_cases h1 : i < sh
  · rw [if_pos h1, if_neg (by omega), Nat.testBit_mod_two_pow]
    simp [h1]
  · rw [if_neg h1, Nat.testBit_two_pow_mul_add _ (Nat.mod_lt _ (Nat.two_pow_pos wd))]
    by_cases h2 : i - sh < wd
    · rw [if_pos h2, if_pos (by omega), Nat.testBit_mod_two_pow]
      simp [h2]
    · rw [if_neg h2, if_neg (by omega), Nat.testBit_div_two_pow]
      congr 1; omega
theorem setF_lt {w sh wd v n : Nat} (hw : w < 2 ^ n) (h : sh + wd ≤ n) : setF w sh wd v < 2 ^ n := by
  refine Nat.lt_pow_two_of_testBit _ fun i hi => ?_
  rw [setF_testBit, if_neg (by omega)]
  exact Nat.testBit_lt_two_pow (Nat.lt_of_lt_of_le hw (Nat.pow_le_pow_right (by omega) hi))
theorem fld_setF (w sh wd v : Nat) : fld (setF w sh wd v) sh wd = v % 2 ^ wd := by
  refine Nat.eq_of_testBit_eq fun i => ?_
  rw [fld_testBit, setF_testBit, Nat.testBit_mod_two_pow]
  by_cases h : i < wd
  · rw [if_pos (by omega)]
    simp [h]
  · simp [h]
theorem fld_setF_other (w sh wd v sh' wd' : Nat) (h : sh' + wd' ≤ sh ∨ sh + wd ≤ sh') : fld (setF w sh wd v) sh' wd' = fld w sh' wd' := by
  refine Nat.eq_of_testBit_eq fun i => ?_
  rw [fld_testBit, fld_testBit, setF_testBit]
  by_cases hi : i < wd'
  · rw [if_neg (by omega)]
  · simp [hi]
theorem fld_lt (w sh wd : Nat) : fld w sh wd < 2 ^ wd := Nat.mod_lt _ (Nat.two_pow_pos wd)
theorem fld_zero (sh wd : Nat) : fld 0 sh wd = 0 := by unfold fld; simp
/-- What SetField computes. -/
theorem setF_bits (w sh wd v : Nat) : ((w ^^^ (w &&& ((2 ^ wd - 1) * 2 ^ sh))) ||| ((v &&& (2 ^ wd - 1)) * 2 ^ sh)) = setF w sh wd v := by
  refine Nat.eq_of_testBit_eq fun i => ?_
  rw [setF_testBit]
  simp only [Nat.testBit_or, Nat.testBit_xor, Nat.testBit_and, Nat.testBit_mul_two_pow, Nat.testBit_two_pow_sub_one]
  by_cases h1 : sh ≤ i
  · by_cases h2 : i < sh + wd
    · rw [if_pos ⟨h1, h2⟩]
      have : i - sh < wd := by omega
      simp [h1, this]
    · rw [if_neg (by omega)]
      have : ¬ i - sh < wd := by omega
      simp [this]
  · rw [if_neg (by omega)]
    simp [h1]
theorem bits_andNot_u64_nat (a b : Nat) (ha : a < 18446744073709551616) (hb : b < 18446744073709551616) : bits .andNot .u64 (a : Int) (b : Int) = ((a ^^^ (a &&& b) : Nat) : Int) := by
  have ha' : a % 2 ^ 64 = a := Nat.mod_eq_of_lt ha
  have hb' : b % 2 ^ 64 = b := Nat.mod_eq_of_lt hb
  have e : ((BitVec.ofNat 64 a) &&& ~~~(BitVec.ofNat 64 b)).toNat = a ^^^ (a &&& b) := by
    refine Nat.eq_of_testBit_eq fun i => ?_
    rw [← BitVec.getLsbD, BitVec.getLsbD_and, BitVec.getLsbD_not, BitVec.getLsbD_ofNat, BitVec.getLsbD_ofNat, Nat.testBit_xor, Nat.testBit_and]
    by_cases hi : i < 64
    · simp [hi]
      cases a.testBit i <;> cases b.testBit i <;> rfl
    · have : a.testBit i = false := Nat.testBit_lt_two_pow (Nat.lt_of_lt_of_le ha (Nat.pow_le_pow_right (n := 2) (by omega) (show 64 ≤ i by omega)))
      simp [hi, this]
  have hlt : a ^^^ (a &&& b) < 18446744073709551616 := Nat.xor_lt_two_pow (n := 64) ha (Nat.and_lt_two_pow (n := 64) _ hb)
  have e2 : bits .andNot .u64 (a : Int) (b : Int) = IntKind.u64.wrap ((((BitVec.ofNat 64 a) &&& ~~~(BitVec.ofNat 64 b)).toNat : Nat) : Int) := by
    simp only [bits, BitVec.ofInt_natCast]
    rfl
  rw [e2, e]
  exact IntWalk.u64_in _ (by omega)
/-- The mixing function. -/
def mixN (x : Nat) : Nat :=
  let y := ((x ^^^ x / 2 ^ 30) * 13787848793156543929) % 18446744073709551616
  let z := ((y ^^^ y / 2 ^ 27) * 10723151780598845931) % 18446744073709551616
  z ^^^ z / 2 ^ 31
theorem mixN_lt (x : Nat) : mixN x < 18446744073709551616 := by
  unfold mixN
  simp only
  exact Nat.xor_lt_two_pow (n := 64) (Nat.mod_lt _ (by decide)) (Nat.lt_of_le_of_lt (Nat.div_le_self _ _) (Nat.mod_lt _ (by decide)))
/-- A slot of a header is used; its fingerprint. -/
def usedB (h s : Nat) : Bool := fld h s 1 == 1
def fpN (h s : Nat) : Nat := fld h (8 + 8 * s) 8
/-- The header in which a slot is used by a key, or not used. -/
def markN (h s k : Nat) : Nat := setF (setF h s 1 1) (8 + 8 * s) 8 (mixN k)
def clearN (h s : Nat) : Nat := setF (setF h s 1 0) (8 + 8 * s) 8 0
theorem markN_lt {h : Nat} (hh : h < 18446744073709551616) {s : Nat} (hs : s < 7) (k : Nat) : markN h s k < 18446744073709551616 :=
  setF_lt (n := 64) (setF_lt (n := 64) hh (by omega)) (by omega)
theorem clearN_lt {h : Nat} (hh : h < 18446744073709551616) {s : Nat} (hs : s < 7) : clearN h s < 18446744073709551616 :=
  setF_lt (n := 64) (setF_lt (n := 64) hh (by omega)) (by omega)
theorem usedB_mark (h s k t : Nat) (hs : s < 7) (ht : t < 7) : usedB (markN h s k) t = (decide (t = s) || usedB h t) := by
  unfold usedB markN
  rw [fld_setF_other _ _ _ _ _ _ (by omega)]
  by_cases e : t = s
  · subst e; rw [fld_setF]; simp
  · rw [fld_setF_other _ _ _ _ _ _ (by omega)]; simp [e]
theorem usedB_clear (h s t : Nat) (hs : s < 7) (ht : t < 7) : usedB (clearN h s) t = (!decide (t = s) && usedB h t) := by
  unfold usedB clearN
  rw [fld_setF_other _ _ _ _ _ _ (by omega)]
  by_cases e : t = s
  · subst e; rw [fld_setF]; simp
  · rw [fld_setF_other _ _ _ _ _ _ (by omega)]; simp [e]
theorem fpN_mark (h s k t : Nat) (hs : s < 7) (ht : t < 7) : fpN (markN h s k) t = if t = s then mixN k % 256 else fpN h t := by
  unfold fpN markN
  by_cases e : t = s
  · subst e; rw [fld_setF, if_pos rfl]
  · rw [fld_setF_other _ _ _ _ _ _ (by omega), fld_setF_other _ _ _ _ _ _ (by omega), if_neg e]
theorem fpN_clear (h s t : Nat) (hs : s < 7) (ht : t < 7) (e : t ≠ s) : fpN (clearN h s) t = fpN h t := by
  unfold fpN clearN
  rw [fld_setF_other _ _ _ _ _ _ (by omega), fld_setF_other _ _ _ _ _ _ (by omega)]
theorem usedB_zero (s : Nat) : usedB 0 s = false := by unfold usedB; rw [fld_zero]; rfl
/-- The number of used slots. -/
def cntN (h : Nat) : Nat := ((List.range 7).filter (usedB h)).length
end Go.Proofs.Ytpkilmnppdbnkaa
