/- The checksum as plain data. -/
import Derived.Test.YtbpaamnofkhonaaDoorBase
namespace Go.Proofs.YtbpaamnofkhonaaDoor
open Go.RowKit

/-- The checksum's table. -/
def nibT : List Nat := [0x00000000, 0x105ec76f, 0x20bd8ede, 0x30e349b1, 0x417b1dbc, 0x5125dad3, 0x61c69362, 0x7198540d, 0x82f63b78, 0x92a8fc17, 0xa24bb5a6, 0xb21572c9, 0xc38d26c4, 0xd3d3e1ab, 0xe330a81a, 0xf36e6f75]
def nibA (i : Nat) : Nat := nibT.getD i 0
theorem nibA_lt (i : Nat) : nibA i < 4294967296 := by
  unfold nibA nibT
  by_cases h : i < 16
  · have : i = 0 ∨ i = 1 ∨ i = 2 ∨ i = 3 ∨ i = 4 ∨ i = 5 ∨ i = 6 ∨ i = 7 ∨ i = 8 ∨ i = 9 ∨ i = 10 ∨ i = 11 ∨ i = 12 ∨ i = 13 ∨ i = 14 ∨ i = 15 := by omega
    rcases this with rfl | rfl | rfl | rfl | rfl | rfl | rfl | rfl | rfl | rfl | rfl | rfl | rfl | rfl | rfl | rfl <;> decide
  · rw [List.getD, List.getElem?_eq_none (by simp; omega)]; decide
def crcHalf (r : Nat) : Nat := (r / 16) ^^^ nibA (r % 16)
def crcStep (r b : Nat) : Nat := crcHalf (crcHalf (r ^^^ b))
theorem xor32 {a b : Nat} (h1 : a < 4294967296) (h2 : b < 4294967296) : a ^^^ b < 4294967296 := Nat.xor_lt_two_pow (n := 32) h1 h2
theorem crcHalf_lt (r : Nat) (h : r < 4294967296) : crcHalf r < 4294967296 := xor32 (by omega) (nibA_lt _)
theorem crcStep_lt (r b : Nat) (h : r < 4294967296) (hb : b < 4294967296) : crcStep r b < 4294967296 := crcHalf_lt _ (crcHalf_lt _ (xor32 h hb))
/-- k bytes of a word. -/
def crcWord (r x : Nat) : Nat → Nat
  | 0 => r
  | k + 1 => crcStep (crcWord r x k) (x / 256 ^ k % 256)
theorem crcWord_lt (r x k : Nat) (h : r < 4294967296) : crcWord r x k < 4294967296 := by
  induction k with
  | zero => exact h
  | succ k ih => exact crcStep_lt _ _ ih (by omega)
def crcReg (l : List Nat) : Nat := l.foldl (fun r x => crcWord r x 8) 4294967295
theorem crcReg_snoc (l : List Nat) (x : Nat) : crcReg (l ++ [x]) = crcWord (crcReg l) x 8 := by simp [crcReg, List.foldl_append]
theorem crcReg_lt (l : List Nat) : crcReg l < 4294967296 := by
  suffices h : ∀ (l : List Nat) (r : Nat), r < 4294967296 → l.foldl (fun r x => crcWord r x 8) r < 4294967296 from h l _ (by decide)
  intro l
  induction l with
  | nil => intro r h; exact h
  | cons x l ih => intro r h; exact ih _ (crcWord_lt _ _ _ h)
def crcN (l : List Nat) : Nat := 4294967295 - crcReg l
theorem crcN_lt (l : List Nat) : crcN l < 4294967296 := by unfold crcN; omega
end Go.Proofs.YtbpaamnofkhonaaDoor
