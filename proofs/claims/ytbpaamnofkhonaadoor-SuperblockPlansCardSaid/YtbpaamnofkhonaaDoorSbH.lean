/- The reference's Sum of layer 13: the checksum bit by bit. -/
import Derived.Test.YtbpaamnofkhonaaDoorGen
import Derived.Test.YtbpaamnofkhonaaDoorCrcM
import Derived.Test.YtbpaamnofkhonaaDoorCrcW
import Derived.Test.YtbpaamnofkhonaaDoorSbT
import Derived.Test.YtbpaamnofkhonaaDoorBase
import Derived.Deep.RegionHeld3
namespace Go.Proofs.YtbpaamnofkhonaaDoor
open Go.RowKit

theorem shr_nat (x i : Nat) : (x : Int) / 2 ^ i = ((x / 2 ^ i : Nat) : Int) := by
  rw [show ((2 : Int) ^ i) = ((2 ^ i : Nat) : Int) by simp]; exact (Int.natCast_ediv x (2 ^ i)).symm
theorem and1_u64 (x : Nat) (h : x < 18446744073709551616) : bits .and .u64 (x : Int) 1 = ((x % 2 : Nat) : Int) := by
  have := u64_and_nat x 1 h (by omega)
  rw [nat_mask1] at this; exact this
section
variable {w : World}
set_option maxRecDepth 100000 in
set_option maxHeartbeats 2000000 in
theorem sum13_any (sv : Value) (l : List Nat) (hs : RdSl w 1 sv l.length (natsU l)) (hl : l.length ≤ 1000) (h64 : ∀ x ∈ l, x < 18446744073709551616) :
    Calls Tryd.prog 65 #[sv] w fun e w' => e = .returned (.int .u64 (crcN l : Nat)) ∧ w = w' := by
  obtain ⟨_, a, c, rfl, hc, ha⟩ := hs
  have HA := Lib.hid ha; have H64 := Lib.hid h64; clear ha h64
  have HE : Hid (crcN l = 4294967295 - crcReg (l.take l.length)) := by show crcN l = _; rw [List.take_length]; rfl
  generalize crcN l = res at *
  generalize hn : l.length = n at *
  have HN := Lib.hid hn; clear hn
  go_enter Tryd.func65, Tryd.ntmps65
  go_wp2_with fail
  go_loop [3, 10] (fun r y => ∃ k : Nat, k ≤ n ∧ y = .int .i64 k ∧ r = .int .u64 (crcReg (l.take k) : Nat)) (fun _ y => n - (intOf y).toNat)
  case atStart => exact ⟨0, by omega, rfl, rfl⟩
  case round =>
    obtain ⟨k, hk, rfl, rfl⟩ := hrel
    have hrl := crcReg_lt (l.take k)
    by_cases hlt : k < n
    · have hk' : (k : Int) < n := by omega
      obtain ⟨x, hx⟩ : ∃ x, l[k]? = some x := ⟨_, List.getElem?_eq_getElem (by rw [HN.out]; exact hlt)⟩
      obtain ⟨eb, eo, rfl, hE⟩ := rd_at HA.out (show (natsU l)[k]? = some (.int .u64 x) by simp [natsU, hx])
      have c1 := hE k _ (show (natsU l)[k]? = some (.int .u64 x) by simp [natsU, hx])
      have hx64 := H64.out x (List.mem_of_getElem? hx)
      have HT : Hid (crcReg (l.take (k + 1)) = bitW (crcReg (l.take k)) x 64) := by show crcReg (l.take (k + 1)) = _; rw [List.take_add_one, hx, show bitW (crcReg (l.take k)) x 64 = bitW (crcReg (l.take k)) x (8 * 8) from rfl, ← crcWord_bit]; exact crcReg_snoc _ _
      clear hE hx
      generalize crcReg (l.take k) = r0 at *
      go_wp2_with fail
      go_loop [3, 6] (fun r y => ∃ i : Nat, i ≤ 64 ∧ y = .int .i64 i ∧ r = .int .u64 (bitW r0 x i : Nat)) (fun _ y => 64 - (intOf y).toNat)
      case atStart => exact ⟨0, by omega, rfl, rfl⟩
      case round =>
        obtain ⟨i, hi, rfl, rfl⟩ := hrel
        have hrw := bitW_lt r0 x i hrl
        by_cases hi8 : i < 64
        · have hi' : (i : Int) < 64 := by omega
          have HS1 := Lib.hid (bitW_succ r0 x i)
          have hv : x / 2 ^ i ≤ x := Nat.div_le_self _ _
          have q0 := shr_nat x i
          generalize bitW r0 x i = r1 at *
          generalize x / 2 ^ i = v1 at *
          have q1 := u64_xor_nat r1 v1 (by omega) (by omega)
          have hxv : r1 ^^^ v1 < 18446744073709551616 := Nat.xor_lt_two_pow (n := 64) (by omega) (by omega)
          have q4 := u64_xor_nat (r1 / 2) 2197175160 (by omega) (by omega)
          rw [show ((r1 / 2 : Nat) : Int) = (r1 : Int) / 2 by omega, show ((2197175160 : Nat) : Int) = 2197175160 from rfl] at q4
          generalize r1 ^^^ v1 = y at *
          have q2 := and1_u64 y hxv
          by_cases hm : y % 2 = 1
          · rw [hm] at q2
            rw [if_pos hm] at HS1
            clear hm
            go_wp2_with fail
            go_round
            case rel => exact ⟨i + 1, by omega, by go_num, by exact congrArg (fun z : Nat => Value.int .u64 (z : Int)) HS1.out.symm⟩
            case measure => simp [intOf]; omega
          · have hm0 : y % 2 = 0 := by omega
            rw [hm0, show ((0 : Nat) : Int) = 0 from rfl] at q2
            rw [if_neg hm, Nat.xor_zero] at HS1
            clear hm hm0 q4
            go_wp2_with fail
            go_round
            case rel => exact ⟨i + 1, by omega, by go_num, by rw [HS1.out]; exact congrArg (Value.int .u64) (by omega)⟩
            case measure => simp [intOf]; omega
        · obtain rfl : i = 64 := by omega
          generalize hr2 : bitW r0 x 64 = r1 at *
          have HR := Lib.hid hr2; clear hr2
          go_wp2_with fail
          go_round
          case rel => exact ⟨k + 1, by omega, by go_num, by rw [HT.out]⟩
          case measure => simp [intOf]; omega
    · obtain rfl : k = n := by omega
      generalize crcReg (l.take k) = r0 at *
      have q1 := u64_xor_nat r0 4294967295 (by omega) (by omega)
      rw [Nat.xor_comm, xor_ones r0 hrl, show ((4294967295 : Nat) : Int) = 4294967295 from rfl] at q1
      go_wp2_with fail
      go_ret
      exact ⟨ret_int (by rw [HE.out]), rfl⟩
end
end Go.Proofs.YtbpaamnofkhonaaDoor

/- The reference's part, Words, Good, Present of layer 13. -/
namespace Go.Proofs.YtbpaamnofkhonaaDoor
open Go.RowKit Go.Maps
attribute [local go_sem ↓] Go.wp_at_zero Go.wp_at_succ

def partV (x i : Nat) : Nat := x / 65536 ^ i % 65536
/-- A slice collected since a later world. -/
theorem Acc.older {w w0 wc : World} {B : Nat} {e : TypeId} {s n : Nat} {u : Value} {xs : List Value} (h : Acc w0 B wc e s u n xs) (hb : Below w.heap.size w w0) (hB : w.heap.size ≤ B) : Acc w w.heap.size wc e s u n xs :=
  ⟨h.own, fun g hg => Nat.le_trans hB (h.new g hg), hb.trans (h.bel.mono hB), Nat.le_trans hB h.lt⟩
section
variable {w : World}
set_option maxRecDepth 100000 in
set_option maxHeartbeats 1000000 in
theorem part_any (x i : Nat) (hx : x < 18446744073709551616) (hi : i ≤ 3) : Calls Tryd.prog 50 #[.int .u64 x, .int .i64 i] w fun r w' => r = .returned (.int .i64 (partV x i : Nat)) ∧ w = w' := by
  have HV : Hid (∃ y : Nat, partV x i = y ∧ y = x / 65536 ^ i % 65536) := ⟨_, rfl, rfl⟩
  obtain ⟨y, hy, hy2⟩ := HV.out
  rw [hy]
  clear HV hy
  obtain rfl | rfl | rfl | rfl : i = 0 ∨ i = 1 ∨ i = 2 ∨ i = 3 := by omega
  · have e : (x : Int) % 65536 = (y : Int) := by omega
    have hyl : y < 65536 := by omega
    clear hy2
    rw [show ((0 : Nat) : Int) = 0 from rfl]
    go_enter Tryd.func50, Tryd.ntmps50
    go_wp2_with fail
    go_ret
    exact ⟨rfl, rfl⟩
  · have e : (x : Int) / 65536 % 65536 = (y : Int) := by omega
    have hyl : y < 65536 := by omega
    clear hy2
    rw [show ((1 : Nat) : Int) = 1 from rfl]
    go_enter Tryd.func50, Tryd.ntmps50
    go_wp2_with fail
    go_ret
    exact ⟨rfl, rfl⟩
  · have e : (x : Int) / 4294967296 % 65536 = (y : Int) := by omega
    have hyl : y < 65536 := by omega
    clear hy2
    rw [show ((2 : Nat) : Int) = 2 from rfl]
    go_enter Tryd.func50, Tryd.ntmps50
    go_wp2_with fail
    go_ret
    exact ⟨rfl, rfl⟩
  · have e : (x : Int) / 281474976710656 % 65536 = (y : Int) := by omega
    have hyl : y < 65536 := by omega
    clear hy2
    rw [show ((3 : Nat) : Int) = 3 from rfl]
    go_enter Tryd.func50, Tryd.ntmps50
    go_wp2_with fail
    go_ret
    exact ⟨rfl, rfl⟩
set_option maxRecDepth 100000 in
set_option maxHeartbeats 4000000 in
theorem words13_any (s : Sup) (hf : s.Fits) : Calls Tryd.prog 45 #[.agg s.cells] w fun r w' => ∃ ov, r = .returned ov ∧ Acc w w.heap.size w' 22 1 ov 8 (natsU s.words) := by
  obtain ⟨k0, hi0, hz0, hz1, hz2⟩ := info_parts infoU64
  have I2 := Lib.hid (And.intro hi0 (And.intro hz0 (And.intro hz1 hz2))); clear hi0 hz0 hz1 hz2
  obtain ⟨g1, g2, v1, v2, l1, l2, r1, r2, u1, u2, d1, d2, q1, q2, t1, t2⟩ := hf
  have e2 : s.ver + s.lin * 65536 + s.redo * 4294967296 + s.und * 281474976710656 = (s.w2 : Int) := by unfold Sup.w2; omega
  have e3 : s.desc + s.que * 65536 + s.tab * 4294967296 = (s.w3 : Int) := by unfold Sup.w3; omega
  have l64 : s.w2 < 18446744073709551616 := by omega
  have l64' : s.w3 < 18446744073709551616 := by omega
  obtain ⟨gn, hgn⟩ := Int.eq_ofNat_of_zero_le g1
  have E : s.words = [7738151121853964849, gn, s.w2, s.w3, 0, 0, 0] ++ [4294967296 + crcN [7738151121853964849, gn, s.w2, s.w3, 0, 0, 0]] := by
    have : s.gen.toNat = gn := by omega
    unfold Sup.words Sup.first; rw [this]
  have hgl : gn < 18446744073709551616 := by omega
  have HE := Lib.hid E; clear E
  generalize s.words = res at *
  generalize s.w2 = n2 at *
  generalize s.w3 = n3 at *
  have hcl := crcN_lt [7738151121853964849, gn, n2, n3, 0, 0, 0]
  have HC := Lib.hid (fun wx sv (hr : RdSl wx 1 sv 7 (natsU [7738151121853964849, gn, n2, n3, 0, 0, 0])) => sum13_any (w := wx) sv [7738151121853964849, gn, n2, n3, 0, 0, 0] hr (by simp) (by simp; omega))
  generalize crcN [7738151121853964849, gn, n2, n3, 0, 0, 0] = cr at *
  obtain ⟨ver, lin, redo, und, desc, que, tab, gen⟩ := s
  simp only at *
  subst hgn
  unfold Sup.cells
  have hfx : (4294967296 : Int) + (cr : Int) = ((4294967296 + cr : Nat) : Int) := by omega
  generalize 4294967296 + cr = cs at *
  have A0 : Hid (Acc (w.alloc (.cells #[.int .i64 ver, .int .i64 lin, .int .i64 redo, .int .i64 und, .int .i64 desc, .int .i64 que, .int .i64 tab, .int .u64 gn] 26)) (w.heap.size + 1) ((w.alloc (.cells #[.int .i64 ver, .int .i64 lin, .int .i64 redo, .int .i64 und, .int .i64 desc, .int .i64 que, .int .i64 tab, .int .u64 gn] 26)).alloc (.cells #[.int .u64 7738151121853964849, .int .u64 gn] 22)) 22 1 (.slice (some ⟨w.heap.size + 1, 0, none⟩) 2 2) 2 (natsU [7738151121853964849, gn])) :=
    ⟨by have := OwnSl.new (w.alloc (.cells #[.int .i64 ver, .int .i64 lin, .int .i64 redo, .int .i64 und, .int .i64 desc, .int .i64 que, .int .i64 tab, .int .u64 gn] 26)) #[.int .u64 7738151121853964849, .int .u64 gn] 22 1 2 2 rfl (Nat.le_refl _) (by unfold maxLen; omega)
        simpa [natsU] using this,
      fun g hg => by simp [Value.ownBlock] at hg; omega, (below_alloc _ _).mono (by simp), by simp⟩
  have B0 := Lib.hid (below_alloc w (.cells #[.int .i64 ver, .int .i64 lin, .int .i64 redo, .int .i64 und, .int .i64 desc, .int .i64 que, .int .i64 tab, .int .u64 gn] 26))
  obtain ⟨L0, hL0⟩ : ∃ L, natsU [7738151121853964849, gn] = L := ⟨_, rfl⟩
  rw [hL0] at A0
  have HL7 : Hid (L0 ++ natsU [n2] ++ natsU [n3, 0, 0, 0] = natsU [7738151121853964849, gn, n2, n3, 0, 0, 0]) := by show L0 ++ _ ++ _ = _; rw [← hL0]; simp [natsU]
  have HL8 : Hid (L0 ++ natsU [n2] ++ natsU [n3, 0, 0, 0] ++ natsU [cs] = natsU res) := by show L0 ++ _ ++ _ ++ _ = _; rw [← hL0, HE.out]; simp [natsU]
  clear hL0 HE
  have HR4 : Hid (∀ wx : World, RdSl (wx.alloc (.cells #[.int .u64 n3, .int .u64 0, .int .u64 0, .int .u64 0] 22)) 1 (.slice (some ⟨wx.heap.size, 0, none⟩) 4 4) 4 (natsU [n3, 0, 0, 0])) := fun wx => by
    have := RdSl.new wx #[.int .u64 n3, .int .u64 0, .int .u64 0, .int .u64 0] 22 1 4 rfl
    simpa [natsU] using this
  have K : Hid (Blk (w.alloc (.cells #[.int .i64 ver, .int .i64 lin, .int .i64 redo, .int .i64 und, .int .i64 desc, .int .i64 que, .int .i64 tab, .int .u64 gn] 26)) w.heap.size #[.int .i64 ver, .int .i64 lin, .int .i64 redo, .int .i64 und, .int .i64 desc, .int .i64 que, .int .i64 tab, .int .u64 gn] 26) := Blk.new _ _ _
  go_enter Tryd.func45, Tryd.ntmps45
  go_wp2_with (at_builtin; refine wpList_append_sl _ rfl _ _ 45 rfl 22 k0 _ 1 8 Tryd.underlying45 I2.out.1 I2.out.2.1 I2.out.2.2.1 I2.out.2.2.2 rfl (by decide) _ 2 (L0) rfl (by exact A0.out.own.alloc _) _ 1 (natsU [n2]) rfl (by exact RdSl.newAt _ _ _ 1 1 _ (by simp) rfl) (natsU_one _) (by decide) (by decide) ?_)
  intro v1 w1 o1 g1 b1 n1
  have A1 := Lib.hid (A0.out.next (m := 1) (below_alloc _ _) o1 g1 b1 (by simp)); clear o1 g1 b1 n1 A0
  obtain ⟨a1, c1, hv1⟩ := A1.out.slice
  subst hv1
  have y4 : w1.cell? ⟨w.heap.size, 4, none⟩ = some (.int .i64 desc) := (K.out.below (A1.out.bel.mono (by simp))).cell rfl
  have y5 : w1.cell? ⟨w.heap.size, 5, none⟩ = some (.int .i64 que) := (K.out.below (A1.out.bel.mono (by simp))).cell rfl
  have y6 : w1.cell? ⟨w.heap.size, 6, none⟩ = some (.int .i64 tab) := (K.out.below (A1.out.bel.mono (by simp))).cell rfl
  go_wp2_with (at_builtin; refine wpList_append_sl _ rfl _ _ 45 rfl 22 k0 _ 1 8 Tryd.underlying45 I2.out.1 I2.out.2.1 I2.out.2.2.1 I2.out.2.2.2 rfl (by decide) _ 3 (L0 ++ natsU [n2]) rfl (by exact A1.out.own.alloc _) _ 4 (natsU [n3, 0, 0, 0]) rfl (by exact HR4.out _) (natsU_one _) (by decide) (by decide) ?_)
  intro v2 w2 o2 g2 b2 n2'
  rw [← List.append_assoc] at o2
  have A2 := Lib.hid (A1.out.next (m := 4) (below_alloc _ _) o2 g2 b2 (by simp)); clear o2 g2 b2 n2' A1 y4 y5 y6
  obtain ⟨a2, c2, hv2⟩ := A2.out.slice
  subst hv2
  have HC2 := Lib.hid (HC.out w2 _ (by rw [← HL7.out]; exact A2.out.rd))
  go_wp2_with fail
  (with_reducible refine HC2.out.mono ?_)
  rintro e w' ⟨rfl, rfl⟩
  go_wp2_with (at_builtin; refine wpList_append_sl _ rfl _ _ 45 rfl 22 k0 _ 1 8 Tryd.underlying45 I2.out.1 I2.out.2.1 I2.out.2.2.1 I2.out.2.2.2 rfl (by decide) _ 7 (L0 ++ natsU [n2] ++ natsU [n3, 0, 0, 0]) rfl (by exact A2.out.own.alloc _) _ 1 (natsU [cs]) rfl (by exact RdSl.newAt _ _ _ 1 1 _ (by simp) rfl) (natsU_one _) (by decide) (by decide) ?_)
  intro v3 w3 o3 g3 b3 n3'
  simp only [← List.append_assoc] at o3
  have A3 := Lib.hid (A2.out.next (m := 1) (below_alloc _ _) o3 g3 b3 (by simp)); clear o3 g3 b3 n3' A2
  go_wp2_with fail
  go_ret
  exact ⟨_, rfl, (A3.out.older B0.out (by omega)).congr rfl HL8.out⟩
end
end Go.Proofs.YtbpaamnofkhonaaDoor
