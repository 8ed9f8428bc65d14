/- The checksum: crc.step, crc.Words. -/
import Derived.Test.YtdidpppjkbgccaaDoorGen
import Derived.Test.YtdidpppjkbgccaaDoorCrcM
import Derived.Test.YtdidpppjkbgccaaDoorLinesM
import Derived.Laws.BitsAllLaws
namespace Go.Proofs.YtdidpppjkbgccaaDoor
open Go.RowKit

/-- The table lies where the program has it. -/
def Nib (w : World) : Prop := ∀ i, i < 16 → w.cell? ⟨1, i, none⟩ = some (.int .u32 (nibA i : Nat))
theorem Nib.below {w w' : World} (h : Nib w) (hb : Below w.heap.size w w') : Nib w' := fun i hi => cell_bel hb (h i hi)
theorem Nib.lt {w : World} (h : Nib w) : 1 < w.heap.size := World.block_lt_of_cell? w _ (h 0 (by omega))
theorem bits_half (x n : Nat) (hx : x < 4294967296) (hn : n < 4294967296) : bits .xor .u32 ((x : Int) / 16) (n : Int) = ((x / 16 ^^^ n : Nat) : Int) := by
  rw [show ((x : Int) / 16) = ((x / 16 : Nat) : Int) by omega]
  exact u32_xor_nat _ _ (by omega) hn
theorem bits_and15 (x : Nat) (hx : x < 4294967296) : bits .and .u32 (x : Int) 15 = ((x % 16 : Nat) : Int) := by
  have := u32_and_nat x 15 hx (by omega)
  rw [nat_mask4] at this
  exact this

theorem xor_ones (x : Nat) (h : x < 4294967296) : 4294967295 ^^^ x = 4294967295 - x := by
  have h1 : (BitVec.allOnes 32 ^^^ BitVec.ofNat 32 x) = ~~~ (BitVec.ofNat 32 x) := BitVec.allOnes_xor
  have h2 := congrArg BitVec.toNat h1
  rw [BitVec.toNat_xor, BitVec.toNat_not, BitVec.toNat_allOnes, BitVec.toNat_ofNat, Nat.mod_eq_of_lt (by omega)] at h2
  exact h2
theorem bits_not (x : Nat) (h : x < 4294967296) : bits .xor .u32 IntKind.u32.max (x : Int) = ((4294967295 - x : Nat) : Int) := by
  have := u32_xor_nat 4294967295 x (by omega) h
  rw [xor_ones x h] at this
  exact this

section
variable {w : World}
set_option maxRecDepth 100000 in
set_option maxHeartbeats 1000000 in
theorem crcstep_any (h : Nib w) (r b : Nat) (hr : r < 4294967296) (hb : b < 256) : Calls Tryd.prog 60 #[.int .u32 r, .int .u8 b] w fun e w' => e = .returned (.int .u32 (crcStep r b : Nat)) ∧ w = w' := by
  have y1 := u32_xor_nat r b hr (by omega)
  have l1 := xor32 hr (show b < 4294967296 by omega)
  have E : crcStep r b = crcHalf (crcHalf (r ^^^ b)) := rfl
  generalize r ^^^ b = r1 at *
  have y2 := bits_and15 r1 l1
  have c1 := h (r1 % 16) (by omega)
  have y3 := bits_half r1 (nibA (r1 % 16)) l1 (nibA_lt _)
  have l2 := crcHalf_lt r1 l1
  have e2 : r1 / 16 ^^^ nibA (r1 % 16) = crcHalf r1 := rfl
  rw [e2] at y3
  generalize crcHalf r1 = r2 at *
  have y4 := bits_and15 r2 l2
  have c2 := h (r2 % 16) (by omega)
  have y5 := bits_half r2 (nibA (r2 % 16)) l2 (nibA_lt _)
  have e3 : r2 / 16 ^^^ nibA (r2 % 16) = crcHalf r2 := rfl
  rw [e3] at y5
  generalize nibA (r1 % 16) = n1 at *
  generalize nibA (r2 % 16) = n2 at *
  have hm1 : r1 % 16 < 16 := by omega
  have hm2 : r2 % 16 < 16 := by omega
  generalize r1 % 16 = m1 at *
  generalize r2 % 16 = m2 at *
  have HE := Lib.hid E
  clear h E e2 e3
  go_enter Tryd.func60, Tryd.ntmps60
  go_wp2_with fail
  go_ret
  exact ⟨ret_int (by rw [HE.out]), rfl⟩

set_option maxRecDepth 100000 in
set_option maxHeartbeats 1000000 in
theorem crcWords_any (h : Nib w) (sv : Value) (l : List Nat) (hs : RdSl w 1 sv l.length (natsU l)) (hl : l.length ≤ 1000) (h64 : ∀ x ∈ l, x < 18446744073709551616) :
    Calls Tryd.prog 48 #[sv] w fun e w' => e = .returned (.int .u32 (crcN l : Nat)) ∧ w = w' := by
  obtain ⟨_, a, c, rfl, hc, ha⟩ := hs
  have HS := Lib.hid (fun r b hr hb => crcstep_any h r b hr hb)
  have HA := Lib.hid ha; have H64 := Lib.hid h64; clear ha h64 h
  have HE : Hid (crcN l = 4294967295 - crcReg (l.take l.length)) := by show crcN l = _; rw [List.take_length]; rfl
  generalize crcN l = res at *
  generalize hn : l.length = n at *
  have HN := Lib.hid hn; clear hn
  go_enter Tryd.func48, Tryd.ntmps48
  go_wp2_with fail
  go_loop [3, 8] (fun r y => ∃ k : Nat, k ≤ n ∧ y = .int .i64 k ∧ r = .int .u32 (crcReg (l.take k) : Nat)) (fun _ y => n - (intOf y).toNat)
  case atStart => exact ⟨0, by omega, rfl, rfl⟩
  case round =>
    obtain ⟨k, hk, rfl, rfl⟩ := hrel
    have hrl := crcReg_lt (l.take k)
    by_cases hlt : k < n
    · have hk' : (k : Int) < n := by omega
      obtain ⟨x, hx⟩ : ∃ x, l[k]? = some x := ⟨_, List.getElem?_eq_getElem (by rw [HN.out]; exact hlt)⟩
      obtain ⟨eb, eo, rfl, hE⟩ := rd_at HA.out (show (natsU l)[k]? = some (.int .u64 x) by simp [natsU, hx])
      have c1 := hE k _ (show (natsU l)[k]? = some (.int .u64 x) by simp [natsU, hx])
      have hx64 := H64.out x (List.mem_of_getElem? hx)
      have HT : Hid (crcReg (l.take (k + 1)) = crcWord (crcReg (l.take k)) x 8) := by show crcReg (l.take (k + 1)) = _; rw [List.take_add_one, hx]; exact crcReg_snoc _ _
      clear hE hx
      generalize crcReg (l.take k) = r0 at *
      go_wp2_with fail
      go_loop [3, 5, 12] (fun r v y => ∃ i : Nat, i ≤ 8 ∧ y = .int .i64 i ∧ r = .int .u32 (crcWord r0 x i : Nat) ∧ v = .int .u64 (x / 256 ^ i : Nat)) (fun _ _ y => 8 - (intOf y).toNat)
      case atStart => exact ⟨0, by omega, rfl, rfl, by simp⟩
      case round =>
        obtain ⟨i, hi, rfl, rfl, rfl⟩ := hrel
        have hrw := crcWord_lt r0 x i hrl
        by_cases hi8 : i < 8
        · have hi' : (i : Int) < 8 := by omega
          have hv : x / 256 ^ i ≤ x := Nat.div_le_self _ _
          have HS1 : Hid (crcWord r0 x (i + 1) = crcStep (crcWord r0 x i) (x / 256 ^ i % 256)) := rfl
          have HV : Hid (x / 256 ^ (i + 1) = x / 256 ^ i / 256) := by show x / 256 ^ (i + 1) = _; rw [Nat.pow_succ, Nat.div_div_eq_div_mul]
          generalize crcWord r0 x i = r1 at *
          generalize x / 256 ^ i = v1 at *
          have hS := HS.out r1 (v1 % 256) hrw (by omega)
          rw [show ((v1 % 256 : Nat) : Int) = (v1 : Int) % 256 by omega] at hS
          have HQ := Lib.hid hS; clear hS
          go_wp2_with fail
          (with_reducible refine HQ.out.mono ?_)
          rintro e w' ⟨rfl, rfl⟩
          go_wp2_with fail
          go_round
          case rel => exact ⟨i + 1, by omega, by go_num, by rw [HS1.out], by rw [HV.out]; congr 1⟩
          case measure => simp [intOf]; omega
        · obtain rfl : i = 8 := by omega
          generalize hr2 : crcWord r0 x 8 = r1 at *
          have HR := Lib.hid hr2; clear hr2
          go_wp2_with fail
          go_round
          case rel => exact ⟨k + 1, by omega, by go_num, by rw [HT.out]⟩
          case measure => simp [intOf]; omega
    · obtain rfl : k = n := by omega
      generalize crcReg (l.take k) = r0 at *
      go_wp2_with fail
      go_ret
      exact ⟨ret_int (by rw [HE.out]; exact bits_not r0 hrl), rfl⟩
end
end Go.Proofs.YtdidpppjkbgccaaDoor
