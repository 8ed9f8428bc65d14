/- The checksum as plain data. -/
import Derived.Test.YtdidpppjkbgccaaDoorBase
namespace Go.Proofs.YtdidpppjkbgccaaDoor
open Go.RowKit

/-- The checksum's table. -/
def nibT : List Nat := [0x00000000, 0x105ec76f, 0x20bd8ede, 0x30e349b1, 0x417b1dbc, 0x5125dad3, 0x61c69362, 0x7198540d, 0x82f63b78, 0x92a8fc17, 0xa24bb5a6, 0xb21572c9, 0xc38d26c4, 0xd3d3e1ab, 0xe330a81a, 0xf36e6f75]
def nibA (i : Nat) : Nat := nibT.getD i 0
theorem nibA_lt (i : Nat) : nibA i < 4294967296 := by
  unfold nibA nibT
  by_cases h : i < 16
  · have : i = 0 ∨ i = 1 ∨ i = 2 ∨ i = 3 ∨ i = 4 ∨ i = 5 ∨ i = 6 ∨ i = 7 ∨ i = 8 ∨ i = 9 ∨ i = 10 ∨ i = 11 ∨ i = 12 ∨ i = 13 ∨ i = 14 ∨ i = 15 := by omega
    rcases this with rfl | rfl | rfl | rfl | rfl | rfl | rfl | rfl | rfl | rfl | rfl | rfl | rfl | rfl | rfl | rfl <;> decide
  · rw [List.getD, List.getElem?_eq_none (by simp; omega)]; decide
def crcHalf (r : Nat) : Nat := (r / 16) ^^^ nibA (r % 16)
def crcStep (r b : Nat) : Nat := crcHalf (crcHalf (r ^^^ b))
theorem xor32 {a b : Nat} (h1 : a < 4294967296) (h2 : b < 4294967296) : a ^^^ b < 4294967296 := Nat.xor_lt_two_pow (n := 32) h1 h2
theorem crcHalf_lt (r : Nat) (h : r < 4294967296) : crcHalf r < 4294967296 := xor32 (by omega) (nibA_lt _)
theorem crcStep_lt (r b : Nat) (h : r < 4294967296) (hb : b < 4294967296) : crcStep r b < 4294967296 := crcHalf_lt _ (crcHalf_lt _ (xor32 h hb))
/-- k bytes of a word. -/
def crcWord (r x : Nat) : Nat → Nat
  | 0 => r
  | k + 1 => crcStep (crcWord r x k) (x / 256 ^ k % 256)
theorem crcWord_lt (r x k : Nat) (h : r < 4294967296) : crcWord r x k < 4294967296 := by
  induction k with
  | zero => exact h
  | succ k ih => exact crcStep_lt _ _ ih (by omega)
def crcReg (l : List Nat) : Nat := l.foldl (fun r x => crcWord r x 8) 4294967295
theorem crcReg_snoc (l : List Nat) (x : Nat) : crcReg (l ++ [x]) = crcWord (crcReg l) x 8 := by simp [crcReg, List.foldl_append]
theorem crcReg_lt (l : List Nat) : crcReg l < 4294967296 := by
  suffices h : ∀ (l : List Nat) (r : Nat), r < 4294967296 → l.foldl (fun r x => crcWord r x 8) r < 4294967296 from h l _ (by decide)
  intro l
  induction l with
  | nil => intro r h; exact h
  | cons x l ih => intro r h; exact ih _ (crcWord_lt _ _ _ h)
def crcN (l : List Nat) : Nat := 4294967295 - crcReg l
theorem crcN_lt (l : List Nat) : crcN l < 4294967296 := by unfold crcN; omega
end Go.Proofs.YtdidpppjkbgccaaDoor

/- The checksum bit by bit (plain): it is that of the table. -/
namespace Go.Proofs.YtdidpppjkbgccaaDoor
open Go.RowKit

/-- One bit of the register. -/
def bitS (c : Nat) : Nat := (c / 2) ^^^ (if c % 2 = 1 then 2197175160 else 0)
/-- k bits of a word. -/
def bitW (c x : Nat) : Nat → Nat
  | 0 => c
  | k + 1 => bitS (bitW c x k ^^^ (x / 2 ^ k % 2))
def bitN (l : List Nat) : Nat := l.foldl (fun c x => bitW c x 64) 4294967295
def iterS (c : Nat) : Nat → Nat
  | 0 => c
  | k + 1 => bitS (iterS c k)
theorem xor_swap (a b c d : Nat) : (a ^^^ b) ^^^ (c ^^^ d) = (a ^^^ c) ^^^ (b ^^^ d) := by
  rw [Nat.xor_assoc, Nat.xor_assoc, ← Nat.xor_assoc b, ← Nat.xor_assoc c, Nat.xor_comm b c]
theorem xor_half (a b : Nat) : (a ^^^ b) / 2 = (a / 2) ^^^ (b / 2) := by
  apply Nat.eq_of_testBit_eq; intro i
  simp [Nat.testBit_div_two, Nat.testBit_xor]
theorem xor_m2 (a b : Nat) : (a ^^^ b) % 2 = (a % 2 + b % 2) % 2 := by
  have h := Nat.xor_mod_two_eq_one (a := a) (b := b)
  generalize (a ^^^ b) = c at *
  omega
theorem bitS_xor (a b : Nat) : bitS (a ^^^ b) = bitS a ^^^ bitS b := by
  unfold bitS
  rw [xor_half, xor_swap, xor_m2]
  congr 1
  have ha : a % 2 = 0 ∨ a % 2 = 1 := by omega
  have hb : b % 2 = 0 ∨ b % 2 = 1 := by omega
  rcases ha with ha | ha <;> rcases hb with hb | hb <;> simp [ha, hb]
theorem bitS_even (a : Nat) : bitS (2 * a) = a := by
  unfold bitS
  rw [if_neg (by omega), Nat.xor_zero]; omega
theorem iterS_xor (a b k : Nat) : iterS (a ^^^ b) k = iterS a k ^^^ iterS b k := by
  induction k with
  | zero => rfl
  | succ k ih => show bitS _ = bitS _ ^^^ bitS _; rw [ih, bitS_xor]
theorem iterS_shift (a k m : Nat) : iterS (a * 2 ^ (k + m)) k = a * 2 ^ m := by
  induction k generalizing m with
  | zero => rw [Nat.zero_add]; rfl
  | succ k ih =>
    show bitS (iterS _ k) = _
    rw [show k + 1 + m = k + (m + 1) by omega, ih (m + 1), Nat.pow_succ, show a * (2 ^ m * 2) = 2 * (a * 2 ^ m) by rw [← Nat.mul_assoc, Nat.mul_comm], bitS_even]
theorem iterS_nib (i : Nat) (h : i < 16) : iterS i 4 = nibA i := by
  obtain rfl | rfl | rfl | rfl | rfl | rfl | rfl | rfl | rfl | rfl | rfl | rfl | rfl | rfl | rfl | rfl : i = 0 ∨ i = 1 ∨ i = 2 ∨ i = 3 ∨ i = 4 ∨ i = 5 ∨ i = 6 ∨ i = 7 ∨ i = 8 ∨ i = 9 ∨ i = 10 ∨ i = 11 ∨ i = 12 ∨ i = 13 ∨ i = 14 ∨ i = 15 := by omega
  all_goals decide
theorem add_xor (h l k : Nat) (hl : l < 2 ^ k) : h * 2 ^ k + l = (h * 2 ^ k) ^^^ l := by
  rw [Nat.mul_comm, Nat.two_pow_add_eq_or_of_lt hl]
  apply Nat.eq_of_testBit_eq; intro i
  simp only [Nat.testBit_or, Nat.testBit_xor, Nat.testBit_two_pow_mul]
  by_cases hi : k ≤ i
  · have : l.testBit i = false := Nat.testBit_lt_two_pow (Nat.lt_of_lt_of_le hl (Nat.pow_le_pow_right (by omega) hi))
    simp [this]
  · simp [hi]
theorem crcHalf_iter (c : Nat) : crcHalf c = iterS c 4 := by
  have e : (c / 16 * 2 ^ 4) ^^^ (c % 16) = c := by
    rw [← add_xor (c / 16) (c % 16) 4 (by have := Nat.mod_lt c (show 16 > 0 by omega); omega)]; omega
  have h : iterS ((c / 16 * 2 ^ 4) ^^^ (c % 16)) 4 = crcHalf c := by
    have h1 := iterS_shift (c / 16) 4 0
    rw [Nat.add_zero, Nat.pow_zero, Nat.mul_one] at h1
    rw [iterS_xor, h1, iterS_nib (c % 16) (by omega)]; rfl
  rw [← h, e]
theorem iterS_add (c a b : Nat) : iterS c (a + b) = iterS (iterS c a) b := by
  induction b with
  | zero => rfl
  | succ b ih => show bitS (iterS c (a + b)) = bitS _; rw [ih]
theorem crcStep_iter (r b : Nat) : crcStep r b = iterS (r ^^^ b) 8 := by
  unfold crcStep
  rw [crcHalf_iter, crcHalf_iter, ← iterS_add]
theorem bitW_iter (c x k : Nat) : iterS (c ^^^ x) k = bitW c x k ^^^ (x / 2 ^ k) := by
  induction k with
  | zero => show c ^^^ x = c ^^^ x / 2 ^ 0; rw [Nat.pow_zero, Nat.div_one]
  | succ k ih =>
    show bitS (iterS (c ^^^ x) k) = bitS (bitW c x k ^^^ (x / 2 ^ k % 2)) ^^^ x / 2 ^ (k + 1)
    rw [ih]
    have e : x / 2 ^ k = (x / 2 ^ k % 2) ^^^ 2 * (x / 2 ^ (k + 1)) := by
      have h1 : x / 2 ^ (k + 1) = x / 2 ^ k / 2 := by rw [Nat.pow_succ, Nat.div_div_eq_div_mul]
      rw [h1]
      generalize x / 2 ^ k = y
      have h2 := add_xor (y / 2) (y % 2) 1 (by have := Nat.mod_lt y (show 2 > 0 by omega); omega)
      rw [Nat.xor_comm, Nat.mul_comm 2, show y / 2 * 2 = y / 2 * 2 ^ 1 from rfl, ← h2]
      omega
    conv => lhs; rw [e]
    rw [← Nat.xor_assoc, bitS_xor, bitS_even]
theorem bitW_add (c x a b : Nat) : bitW c x (a + b) = bitW (bitW c x a) (x / 2 ^ a) b := by
  induction b with
  | zero => rfl
  | succ b ih =>
    show bitS (bitW c x (a + b) ^^^ (x / 2 ^ (a + b) % 2)) = bitS (bitW (bitW c x a) (x / 2 ^ a) b ^^^ (x / 2 ^ a / 2 ^ b % 2))
    rw [ih, Nat.div_div_eq_div_mul, Nat.pow_add]
theorem bitW_mod (c x : Nat) (m : Nat) : ∀ k, k ≤ m → bitW c (x % 2 ^ m) k = bitW c x k := by
  intro k
  induction k with
  | zero => intro _; rfl
  | succ k ih =>
    intro hk
    show bitS (bitW c (x % 2 ^ m) k ^^^ (x % 2 ^ m / 2 ^ k % 2)) = bitS (bitW c x k ^^^ (x / 2 ^ k % 2))
    rw [ih (by omega)]
    congr 2
    have h := Nat.testBit_mod_two_pow x m k
    simp only [Nat.testBit_eq_decide_div_mod_eq, show k < m by omega, decide_true, Bool.true_and, decide_eq_decide] at h
    omega
theorem crcWord_bit (r x k : Nat) : crcWord r x k = bitW r x (8 * k) := by
  induction k with
  | zero => rfl
  | succ k ih =>
    show crcStep (crcWord r x k) (x / 256 ^ k % 256) = _
    rw [ih, crcStep_iter, show 8 * (k + 1) = 8 * k + 8 by omega, bitW_add, bitW_iter]
    rw [show x / 256 ^ k % 256 / 2 ^ 8 = 0 by omega, Nat.xor_zero, show (256 : Nat) = 2 ^ 8 from rfl, ← Nat.pow_mul, bitW_mod _ _ 8 8 (Nat.le_refl _)]
theorem bitN_eq (l : List Nat) : bitN l = crcReg l := by
  unfold bitN crcReg
  congr 1
  funext c x
  exact (crcWord_bit c x 8).symm
theorem bitS_lt (c : Nat) (h : c < 4294967296) : bitS c < 4294967296 := xor32 (by omega) (by split <;> omega)
theorem bitW_lt (c x k : Nat) (h : c < 4294967296) : bitW c x k < 4294967296 := by
  induction k with
  | zero => exact h
  | succ k ih => exact bitS_lt _ (xor32 ih (by omega))
theorem bitW_succ (c x k : Nat) : bitW c x (k + 1) = (bitW c x k / 2) ^^^ (if (bitW c x k ^^^ (x / 2 ^ k)) % 2 = 1 then 2197175160 else 0) := by
  show bitS (bitW c x k ^^^ (x / 2 ^ k % 2)) = _
  unfold bitS
  rw [xor_half, xor_m2, xor_m2, show x / 2 ^ k % 2 / 2 = 0 by omega, Nat.xor_zero, show x / 2 ^ k % 2 % 2 = x / 2 ^ k % 2 by omega]
end Go.Proofs.YtdidpppjkbgccaaDoor
