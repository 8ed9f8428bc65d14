/- The reference's readers of a node's words: Len, Slot, Key, Value, Entries, slots, free, count. -/
import Derived.Test.YtkoijmoendepgaaNodeF
namespace Go.Proofs.Ytkoijmoendepgaa
open Go.RowKit

theorem entC_one (l : List (Int × Int)) : ∀ u ∈ entC l, u.oneCell' = true := by
  intro u hu
  simp [entC] at hu
  obtain ⟨a, b, _, rfl | rfl⟩ := hu <;> rfl
def listW (W : Nat → Int) : List Int := (List.range 28).map W
/-- The slice value sv reads as the words W of a node whose permutation is x. -/
structure RefIn (w : World) (sv : Value) (W : Nat → Int) (x : Nat) : Prop where
  rd : RdSl w 1 sv 28 (intsU (listW W))
  w0 : W 0 = x
  lt : x < 18446744073709551616
  ok : parseOk x
section
variable {w : World} {sv : Value} {W : Nat → Int} {x : Nat}
theorem RefIn.below {w' : World} (h : RefIn w sv W x) (hb : Below w.heap.size w w') : RefIn w' sv W x := ⟨h.rd.below hb, h.w0, h.lt, h.ok⟩
theorem RefIn.slice (h : RefIn w sv W x) : ∃ b o c, sv = .slice (some ⟨b, o, none⟩) 28 c ∧ 28 ≤ c ∧ ∀ i, i < 28 → w.cell? ⟨b, o + i, none⟩ = some (.int .u64 (W i)) := by
  obtain ⟨b, o, c, rfl, hc, hx⟩ := rd_some h.rd (by simp [intsU, listW])
  exact ⟨b, o, c, rfl, hc, fun i hi => hx i _ (by simp [intsU, listW, hi])⟩
theorem RefIn.nib (h : RefIn w sv W x) (i : Nat) (hi : i < x % 16) : nib x i < 12 := ((h.ok.2 i (by have := h.ok.1; omega)).2 hi).1

set_option maxRecDepth 100000 in
set_option maxHeartbeats 1000000 in
theorem refLen_any (h : RefIn w sv W x) : Calls Try.prog 64 #[sv] w fun r w' => r = .returned (.int .i64 (x % 16 : Nat)) ∧ w = w' := by
  obtain ⟨b, o, c, rfl, hc, hx⟩ := h.slice
  have c0 := hx 0 (by omega)
  rw [h.w0, Nat.add_zero] at c0
  have hl := h.lt
  clear hx h
  go_enter Try.func64, Try.ntmps64
  go_wp2_with fail
  go_ret
  exact ⟨ret_int (by omega), rfl⟩
set_option maxRecDepth 100000 in
set_option maxHeartbeats 1000000 in
theorem refCount_any (h : RefIn w sv W x) : Calls Try.prog 68 #[sv] w fun r w' => r = .returned (.int .u64 (x / 4503599627370496 : Nat)) ∧ w = w' := by
  obtain ⟨b, o, c, rfl, hc, hx⟩ := h.slice
  have c0 := hx 0 (by omega)
  rw [h.w0, Nat.add_zero] at c0
  have hl := h.lt
  clear hx h
  go_enter Try.func68, Try.ntmps68
  go_wp2_with fail
  go_ret
  exact ⟨ret_int (by omega), rfl⟩
theorem nib_div (x i : Nat) : x / 16 ^ (i + 1) % 16 = Go.Proofs.Ytkoijmoendepgaa.nib x i := by unfold Go.Proofs.Ytkoijmoendepgaa.nib; rw [pow16, show 4 * (i + 1) = 4 + 4 * i by omega]
set_option maxRecDepth 100000 in
set_option maxHeartbeats 1000000 in
theorem refSlot_any (h : RefIn w sv W x) (i : Nat) (hi : i < 1000) : Calls Try.prog 89 #[sv, .int .i64 i] w fun r w' => r = .returned (.int .i64 (Go.Proofs.Ytkoijmoendepgaa.nib x i : Nat)) ∧ w = w' := by
  obtain ⟨b, o, c, rfl, hc, hx⟩ := h.slice
  have c0 := hx 0 (by omega)
  rw [h.w0, Nat.add_zero] at c0
  have hl := h.lt
  clear hx h
  go_enter Try.func89, Try.ntmps89
  go_wp2_with fail
  go_loop [5, 6] (fun y k => ∃ m : Nat, m ≤ i + 1 ∧ k = .int .i64 m ∧ y = .int .u64 (x / 16 ^ m : Nat)) (fun _ k => i + 1 - (intOf k).toNat)
  case atStart => exact ⟨0, by omega, rfl, by simp⟩
  case round =>
    obtain ⟨m, hm, rfl, rfl⟩ := hrel
    have hxm : x / 16 ^ m ≤ x := Nat.div_le_self _ _
    have hsucc : x / 16 ^ (m + 1) = x / 16 ^ m / 16 := by rw [Nat.pow_succ, Nat.div_div_eq_div_mul]
    have HS := Lib.hid hsucc; clear hsucc
    have HE := Lib.hid (nib_div x i)
    by_cases hlt : m ≤ i
    · have hlt' : (m : Int) ≤ i := by omega
      generalize x / 16 ^ m = y at *
      go_wp2_with fail
      go_round
      case rel => exact ⟨m + 1, by omega, by go_num, by rw [HS.out]; congr 1⟩
      case measure => simp [intOf]; omega
    · obtain rfl : m = i + 1 := by omega
      have hlt' : ¬ ((i + 1 : Nat) : Int) ≤ i := by omega
      generalize x / 16 ^ (i + 1) = y at *
      go_wp2_with fail
      go_ret
      exact ⟨ret_int (by rw [← HE.out]; omega), rfl⟩
set_option maxRecDepth 100000 in
set_option maxHeartbeats 1000000 in
theorem refKey_any (h : RefIn w sv W x) (i : Nat) (hi : i < x % 16) : Calls Try.prog 66 #[sv, .int .i64 i] w fun r w' => r = .returned (.int .u64 (W (4 + Go.Proofs.Ytkoijmoendepgaa.nib x i))) ∧ w = w' := by
  have hn := h.nib i hi
  have HS := Lib.hid (refSlot_any h i (by omega))
  obtain ⟨b, o, c, rfl, hc, hx⟩ := h.slice
  generalize Go.Proofs.Ytkoijmoendepgaa.nib x i = s at *
  have c0 := hx (4 + s) (by omega)
  clear hx h
  go_enter Try.func66, Try.ntmps66
  go_wp2_with (go_at_call 89; (with_reducible refine HS.out.mono ?_); rintro e w' ⟨rfl, rfl⟩)
  go_ret
  exact ⟨rfl, rfl⟩
set_option maxRecDepth 100000 in
set_option maxHeartbeats 1000000 in
theorem refValue_any (h : RefIn w sv W x) (i : Nat) (hi : i < x % 16) : Calls Try.prog 70 #[sv, .int .i64 i] w fun r w' => r = .returned (.int .u64 (W (16 + Go.Proofs.Ytkoijmoendepgaa.nib x i))) ∧ w = w' := by
  have hn := h.nib i hi
  have HS := Lib.hid (refSlot_any h i (by omega))
  obtain ⟨b, o, c, rfl, hc, hx⟩ := h.slice
  generalize Go.Proofs.Ytkoijmoendepgaa.nib x i = s at *
  have c0 := hx (16 + s) (by omega)
  clear hx h
  go_enter Try.func70, Try.ntmps70
  go_wp2_with (go_at_call 89; (with_reducible refine HS.out.mono ?_); rintro e w' ⟨rfl, rfl⟩)
  go_ret
  exact ⟨rfl, rfl⟩

set_option maxRecDepth 100000 in
set_option maxHeartbeats 2000000 in
theorem refSlots_any (h : RefIn w sv W x) : Calls Try.prog 65 #[sv] w fun r w' => ∃ lv, r = .returned lv ∧ Acc w w.heap.size w' 3 1 lv (slotsN x (x % 16)).length (natsI (slotsN x (x % 16))) := by
  have hl := h.ok.1
  obtain ⟨b, o, c, rfl, hc, hx⟩ := h.slice
  clear hx
  have H := Lib.hid h; clear h
  obtain ⟨i0, hi0, hz0, hz1, hz2⟩ := info_parts infoInt
  have I := Lib.hid (And.intro hi0 (And.intro hz0 (And.intro hz1 hz2))); clear hi0 hz0 hz1 hz2
  generalize hm : x % 16 = m at *
  have HM := Lib.hid hm; clear hm
  go_enter Try.func65, Try.ntmps65
  go_wp2_with fail
  go_loopw [3, 4] (fun lv y wr => ∃ k : Nat, k ≤ m ∧ y = .int .i64 k ∧ Acc w w.heap.size wr 3 1 lv k (natsI (slotsN x k))) (fun _ y _ => m - (intOf y).toNat)
  case atStart => exact ⟨0, by omega, rfl, Acc.nil w _ _ _ _ (Below.refl _ _) (Nat.le_refl _)⟩
  case round =>
    obtain ⟨k, hk, rfl, ha⟩ := hrel
    obtain ⟨la, lc, rfl⟩ := ha.slice
    have A := Lib.hid ha; clear ha
    have hL := refLen_any (H.out.below A.out.bel)
    rw [HM.out] at hL
    have HL := Lib.hid hL; clear hL
    by_cases hlt : k < m
    · have HS := Lib.hid (refSlot_any (H.out.below A.out.bel) k (by omega))
      go_wp2_with fail
      (with_reducible refine HL.out.mono ?_)
      rintro e w' ⟨rfl, rfl⟩
      go_wp2_with fail
      (with_reducible refine HS.out.mono ?_)
      rintro e w' ⟨rfl, rfl⟩
      go_wp2_with (at_builtin; refine wpList_append_sl _ rfl _ _ 105 rfl 3 i0 _ 1 8 Try.underlying105 I.out.1 I.out.2.1 I.out.2.2.1 I.out.2.2.2 rfl (by decide) _ k (natsI (slotsN x k)) rfl (by exact A.out.own.alloc _) _ 1 _ rfl (by exact RdSl.newAt _ _ _ 1 1 _ rfl rfl) (one_int _ _) (by unfold maxLen; omega) (by omega) ?_)
      intro v1 w1 o1 g1 b1 n1
      have A1 := Lib.hid (A.out.next (below_alloc _ _) o1 g1 b1 (by simp)); clear o1 g1 b1 n1
      go_wp2_with fail
      go_roundw
      case rel => exact ⟨k + 1, by omega, by go_num, A1.out.congr rfl (by rw [slotsN_succ]; simp [natsI])⟩
      case measure => simp [intOf]; omega
    · obtain rfl : k = m := by omega
      go_wp2_with fail
      (with_reducible refine HL.out.mono ?_)
      rintro e w' ⟨rfl, rfl⟩
      go_wp2_with fail
      go_ret
      exact ⟨_, rfl, A.out.congr (by simp [slotsN]) rfl⟩

set_option maxRecDepth 100000 in
set_option maxHeartbeats 2000000 in
theorem refEntries_any (h : RefIn w sv W x) : Calls Try.prog 35 #[sv] w fun r w' => ∃ lv, r = .returned lv ∧ Acc w w.heap.size w' 84 2 lv (slotsN x (x % 16)).length (entC (entsW W (slotsN x (x % 16)))) := by
  have hl := h.ok.1
  obtain ⟨b, o, c, rfl, hc, hx⟩ := h.slice
  clear hx
  have H := Lib.hid h; clear h
  obtain ⟨i0, hi0, hz0, hz1, hz2⟩ := info_parts infoEntry
  have I := Lib.hid (And.intro hi0 (And.intro hz0 (And.intro hz1 hz2))); clear hi0 hz0 hz1 hz2
  generalize hm : x % 16 = m at *
  have HM := Lib.hid hm; clear hm
  go_enter Try.func35, Try.ntmps35
  go_wp2_with fail
  go_loopw [3, 4] (fun lv y wr => ∃ k : Nat, k ≤ m ∧ y = .int .i64 k ∧ Acc w w.heap.size wr 84 2 lv k (entC (entsW W (slotsN x k)))) (fun _ y _ => m - (intOf y).toNat)
  case atStart => exact ⟨0, by omega, rfl, Acc.nil w _ _ _ _ (Below.refl _ _) (Nat.le_refl _)⟩
  case round =>
    obtain ⟨k, hk, rfl, ha⟩ := hrel
    obtain ⟨la, lc, rfl⟩ := ha.slice
    have A := Lib.hid ha; clear ha
    have hL := refLen_any (H.out.below A.out.bel)
    rw [HM.out] at hL
    have HL := Lib.hid hL; clear hL
    by_cases hlt : k < m
    · have HK := Lib.hid (refKey_any (H.out.below A.out.bel) k (by rw [HM.out]; exact hlt))
      have HV := Lib.hid (refValue_any (H.out.below A.out.bel) k (by rw [HM.out]; exact hlt))
      go_wp2_with fail
      (with_reducible refine HL.out.mono ?_)
      rintro e w' ⟨rfl, rfl⟩
      go_wp2_with fail
      (with_reducible refine HK.out.mono ?_)
      rintro e w' ⟨rfl, rfl⟩
      go_wp2_with fail
      (with_reducible refine HV.out.mono ?_)
      rintro e w' ⟨rfl, rfl⟩
      go_wp2_with (at_builtin; refine wpList_append_sl _ rfl _ _ 58 rfl 84 i0 _ 2 16 Try.underlying58 I.out.1 I.out.2.1 I.out.2.2.1 I.out.2.2.2 rfl (by decide) _ k (entC (entsW W (slotsN x k))) rfl (by exact A.out.own.alloc _) _ 1 (entC [(W (4 + Go.Proofs.Ytkoijmoendepgaa.nib x k), W (16 + Go.Proofs.Ytkoijmoendepgaa.nib x k))]) rfl (by exact RdSl.newAt _ _ _ 2 1 _ rfl rfl) (entC_one _) (by unfold maxLen; omega) (by omega) ?_)
      intro v1 w1 o1 g1 b1 n1
      have A1 := Lib.hid (A.out.next (below_alloc _ _) o1 g1 b1 (by simp)); clear o1 g1 b1 n1
      go_wp2_with fail
      go_roundw
      case rel => exact ⟨k + 1, by omega, by go_num, A1.out.congr rfl (by rw [slotsN_succ, ← entC_append]; simp [entsW])⟩
      case measure => simp [intOf]; omega
    · obtain rfl : k = m := by omega
      go_wp2_with fail
      (with_reducible refine HL.out.mono ?_)
      rintro e w' ⟨rfl, rfl⟩
      go_wp2_with fail
      go_ret
      exact ⟨_, rfl, A.out.congr (by simp [slotsN]) rfl⟩
end
end Go.Proofs.Ytkoijmoendepgaa
