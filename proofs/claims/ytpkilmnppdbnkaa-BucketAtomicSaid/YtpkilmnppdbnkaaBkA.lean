/- The walks of a bucket's word functions: Field, SetField, Mix, used, matches, marked, cleared, lineOf, keyAt. -/
import Derived.Test.YtpkilmnppdbnkaaBkP
import Derived.Laws.Bits64
namespace Go.Proofs.Ytpkilmnppdbnkaa
open Go.RowKit

section
variable {w : World}
theorem wvalid_any (sh wd : Nat) (h1 : 1 ≤ wd) (h2 : sh + wd ≤ 64) : Calls Try.prog 78 #[.int .i64 sh, .int .i64 wd] w fun r w' => r = .returned (.bool true) ∧ w = w' := by
  have e1 : (0 : Int) ≤ sh := by omega
  have e2 : (1 : Int) ≤ wd := by omega
  have e3 : (wd : Int) ≤ 64 := by omega
  have e4 : (sh : Int) ≤ 64 - wd := by omega
  go_enter Try.func78, Try.ntmps78
  go_wp2_with fail
  go_ret
  exact ⟨rfl, rfl⟩
theorem wmask_any (wd : Nat) (h : wd = 1 ∨ wd = 7 ∨ wd = 8) : Calls Try.prog 79 #[.int .i64 wd] w fun r w' => r = .returned (.int .u64 ((2 ^ wd - 1 : Nat) : Int)) ∧ w = w' := by
  rcases h with rfl | rfl | rfl
  all_goals
    go_enter Try.func79, Try.ntmps79
    go_wp2_with fail
    go_ret
    exact ⟨by rfl, rfl⟩
theorem wField_any (x sh wd : Nat) (hx : x < 18446744073709551616) (hw : wd = 1 ∨ wd = 7 ∨ wd = 8) (h2 : sh + wd ≤ 64) :
    Calls Try.prog 42 #[.int .u64 x, .int .i64 sh, .int .i64 wd] w fun r w' => r = .returned (.int .u64 (fld x sh wd : Nat)) ∧ w = w' := by
  have HV := Lib.hid (fun wx => wvalid_any (w := wx) sh wd (by omega) h2)
  have HM := Lib.hid (fun wx => wmask_any (w := wx) wd hw)
  go_enter Try.func42, Try.ntmps42
  go_wp2_with fail
  (with_reducible refine (HV.out _).mono ?_)
  rintro e w' ⟨rfl, rfl⟩
  go_wp2_with fail
  (with_reducible refine (HM.out _).mono ?_)
  rintro e w' ⟨rfl, rfl⟩
  go_wp2_with fail
  go_ret
  refine ⟨?_, rfl⟩
  have hb : x / 2 ^ sh < 18446744073709551616 := Nat.lt_of_le_of_lt (Nat.div_le_self _ _) hx
  have hm : 2 ^ wd - 1 < 18446744073709551616 := by rcases hw with rfl | rfl | rfl <;> decide
  rw [show (x : Int) / 2 ^ sh = ((x / 2 ^ sh : Nat) : Int) by simp, bits_and_u64_nat _ _ hb hm, Nat.and_two_pow_sub_one_eq_mod]
  rfl
/-- A product that fits, and any. -/
theorem wrap_u64_nat (a : Nat) : IntKind.u64.wrap (a : Int) = ((a % 18446744073709551616 : Nat) : Int) := by
  simp [IntKind.wrap, IntKind.bits, IntKind.signed]
theorem shl_u64_nat (a sh : Nat) (h : a * 2 ^ sh < 18446744073709551616) : IntKind.u64.wrap ((a : Int) * 2 ^ sh) = ((a * 2 ^ sh : Nat) : Int) := by
  rw [show (a : Int) * 2 ^ sh = ((a * 2 ^ sh : Nat) : Int) by simp, wrap_u64_nat, Nat.mod_eq_of_lt h]
theorem wSetField_any (x sh wd y : Nat) (hx : x < 18446744073709551616) (hy : y < 18446744073709551616) (hw : wd = 1 ∨ wd = 7 ∨ wd = 8) (h2 : sh + wd ≤ 64) :
    Calls Try.prog 81 #[.int .u64 x, .int .i64 sh, .int .i64 wd, .int .u64 y] w fun r w' => r = .returned (.int .u64 (setF x sh wd y : Nat)) ∧ w = w' := by
  have HV := Lib.hid (fun wx => wvalid_any (w := wx) sh wd (by omega) h2)
  have HM := Lib.hid (fun wx => wmask_any (w := wx) wd hw)
  go_enter Try.func81, Try.ntmps81
  go_wp2_with fail
  (with_reducible refine (HV.out _).mono ?_)
  rintro e w' ⟨rfl, rfl⟩
  go_wp2_with fail
  (with_reducible refine (HM.out _).mono ?_)
  rintro e w' ⟨rfl, rfl⟩
  go_wp2_with fail
  go_ret
  refine ⟨?_, rfl⟩
  have hm : 2 ^ wd - 1 < 18446744073709551616 := by rcases hw with rfl | rfl | rfl <;> decide
  have hp : (2 ^ wd - 1) * 2 ^ sh < 18446744073709551616 := by
    have : (2 ^ wd - 1) * 2 ^ sh < 2 ^ wd * 2 ^ sh := Nat.mul_lt_mul_of_pos_right (Nat.sub_lt (Nat.two_pow_pos wd) (by decide)) (Nat.two_pow_pos sh)
    rw [← Nat.pow_add] at this
    exact Nat.lt_of_lt_of_le this (Nat.pow_le_pow_right (n := 2) (by omega) (show wd + sh ≤ 64 by omega))
  have ha : y &&& (2 ^ wd - 1) ≤ 2 ^ wd - 1 := Nat.and_le_right
  have hq : (y &&& (2 ^ wd - 1)) * 2 ^ sh < 18446744073709551616 := Nat.lt_of_le_of_lt (Nat.mul_le_mul_right _ ha) hp
  have hn : x ^^^ (x &&& ((2 ^ wd - 1) * 2 ^ sh)) < 18446744073709551616 := Nat.xor_lt_two_pow (n := 64) hx (Nat.and_lt_two_pow (n := 64) _ hp)
  rw [bits_and_u64_nat _ _ hy hm, shl_u64_nat _ _ hp, shl_u64_nat _ _ hq, bits_andNot_u64_nat _ _ hx hp, bits_or_u64_nat _ _ hn hq, setF_bits]
  rfl
theorem wMix_any (x : Nat) (hx : x < 18446744073709551616) : Calls Try.prog 82 #[.int .u64 x] w fun r w' => r = .returned (.int .u64 (mixN x : Nat)) ∧ w = w' := by
  go_enter Try.func82, Try.ntmps82
  go_wp2_with fail
  go_ret
  refine ⟨?_, rfl⟩
  have m1 : ∀ a : Nat, a < 18446744073709551616 → ∀ b : Nat, bits .xor .u64 (a : Int) ((a : Int) / ((2 ^ b : Nat) : Int)) = ((a ^^^ a / 2 ^ b : Nat) : Int) := fun a ha b => by
    rw [← Int.natCast_ediv, bits_xor_u64_nat _ _ ha (Nat.lt_of_le_of_lt (Nat.div_le_self _ _) ha)]
  have e1 := m1 x hx 30
  rw [show ((2 ^ 30 : Nat) : Int) = 1073741824 from rfl] at e1
  obtain ⟨y, hy⟩ : ∃ y, y = ((x ^^^ x / 2 ^ 30) * 13787848793156543929) % 18446744073709551616 := ⟨_, rfl⟩
  have e2 : IntKind.u64.wrap (((x ^^^ x / 2 ^ 30 : Nat) : Int) * 13787848793156543929) = (y : Int) := by
    rw [hy, ← wrap_u64_nat]; simp
  have hyb : y < 18446744073709551616 := by rw [hy]; exact Nat.mod_lt _ (by decide)
  have e3 := m1 y hyb 27
  rw [show ((2 ^ 27 : Nat) : Int) = 134217728 from rfl] at e3
  obtain ⟨z, hz⟩ : ∃ z, z = ((y ^^^ y / 2 ^ 27) * 10723151780598845931) % 18446744073709551616 := ⟨_, rfl⟩
  have e4 : IntKind.u64.wrap (((y ^^^ y / 2 ^ 27 : Nat) : Int) * 10723151780598845931) = (z : Int) := by
    rw [hz, ← wrap_u64_nat]; simp
  have hzb : z < 18446744073709551616 := by rw [hz]; exact Nat.mod_lt _ (by decide)
  have e5 := m1 z hzb 31
  rw [show ((2 ^ 31 : Nat) : Int) = 2147483648 from rfl] at e5
  have e6 : mixN x = z ^^^ z / 2 ^ 31 := by rw [hz, hy]; rfl
  rw [e1, e2, e3, e4, e5, e6]
  rfl
theorem used_any (h s : Nat) (hh : h < 18446744073709551616) (hs : s < 7) : Calls Try.prog 44 #[.int .u64 h, .int .i64 s] w fun r w' => r = .returned (.bool (usedB h s)) ∧ w = w' := by
  have HF := Lib.hid (fun wx => wField_any (w := wx) h s 1 hh (.inl rfl) (by omega))
  rw [show ((1 : Nat) : Int) = 1 from rfl] at HF
  have hb : (((fld h s 1 : Nat) : Int) == 1) = usedB h s := by unfold usedB; rw [Bool.eq_iff_iff]; simp; omega
  obtain ⟨b, hub⟩ : ∃ b, usedB h s = b := ⟨_, rfl⟩
  rw [hub] at hb ⊢
  clear hub
  go_enter Try.func44, Try.ntmps44
  go_wp2_with fail
  (with_reducible refine (HF.out _).mono ?_)
  rintro e w' ⟨rfl, rfl⟩
  go_wp2_with fail
  go_ret
  exact ⟨rfl, rfl⟩
theorem matches_any (h s k : Nat) (hh : h < 18446744073709551616) (hs : s < 7) (hk : k < 18446744073709551616) :
    Calls Try.prog 76 #[.int .u64 h, .int .i64 s, .int .u64 k] w fun r w' => r = .returned (.bool (usedB h s && (fpN h s == mixN k % 256))) ∧ w = w' := by
  have HU := Lib.hid (fun wx => used_any (w := wx) h s hh hs)
  have HF := Lib.hid (fun wx => wField_any (w := wx) h (8 + 8 * s) 8 hh (.inr (.inr rfl)) (by omega))
  have HM := Lib.hid (fun wx => wMix_any (w := wx) k hk)
  have hmb := mixN_lt k
  have HG := Lib.hid (fun wx => wField_any (w := wx) (mixN k) 0 8 hmb (.inr (.inr rfl)) (by omega))
  have hc : ((8 + 8 * s : Nat) : Int) = 8 + 8 * (s : Int) := by omega
  rw [hc] at HF
  rw [show ((0 : Nat) : Int) = 0 from rfl] at HG
  rw [show ((8 : Nat) : Int) = 8 from rfl] at HF HG
  have hfb : (((fld h (8 + 8 * s) 8 : Nat) : Int) == ((fld (mixN k) 0 8 : Nat) : Int)) = (fpN h s == mixN k % 256) := by
    have e : fld (mixN k) 0 8 = mixN k % 256 := by unfold fld; simp
    rw [e]; unfold fpN; rw [Bool.eq_iff_iff]; simp; omega
  generalize fld h (8 + 8 * s) 8 = f1 at *
  generalize fld (mixN k) 0 8 = f2 at *
  generalize (fpN h s == mixN k % 256) = fb at *
  generalize usedB h s = ub at *
  generalize mixN k = mk at *
  clear hc
  cases ub
  · go_enter Try.func76, Try.ntmps76
    go_wp2_with fail
    (with_reducible refine (HU.out _).mono ?_)
    rintro e w' ⟨rfl, rfl⟩
    go_wp2_with fail
    go_ret
    exact ⟨rfl, rfl⟩
  · go_enter Try.func76, Try.ntmps76
    go_wp2_with fail
    (with_reducible refine (HU.out _).mono ?_)
    rintro e w' ⟨rfl, rfl⟩
    go_wp2_with fail
    (with_reducible refine (HF.out _).mono ?_)
    rintro e w' ⟨rfl, rfl⟩
    go_wp2_with fail
    (with_reducible refine (HM.out _).mono ?_)
    rintro e w' ⟨rfl, rfl⟩
    go_wp2_with fail
    (with_reducible refine (HG.out _).mono ?_)
    rintro e w' ⟨rfl, rfl⟩
    go_wp2_with fail
    go_ret
    exact ⟨rfl, rfl⟩
theorem marked_any (h s k : Nat) (hh : h < 18446744073709551616) (hs : s < 7) (hk : k < 18446744073709551616) :
    Calls Try.prog 46 #[.int .u64 h, .int .i64 s, .int .u64 k] w fun r w' => r = .returned (.int .u64 (markN h s k : Nat)) ∧ w = w' := by
  have h1 : setF h s 1 1 < 18446744073709551616 := setF_lt (n := 64) hh (by omega)
  have HF := Lib.hid (fun wx => wSetField_any (w := wx) h s 1 1 hh (by omega) (.inl rfl) (by omega))
  rw [show ((1 : Nat) : Int) = 1 from rfl] at HF
  have HM := Lib.hid (fun wx => wMix_any (w := wx) k hk)
  have hmb := mixN_lt k
  have HG := Lib.hid (fun wx => wSetField_any (w := wx) (setF h s 1 1) (8 + 8 * s) 8 (mixN k) h1 hmb (.inr (.inr rfl)) (by omega))
  have hc : ((8 + 8 * s : Nat) : Int) = 8 + 8 * (s : Int) := by omega
  rw [hc] at HG
  rw [show ((8 : Nat) : Int) = 8 from rfl] at HG
  have HMK : Hid (setF (setF h s 1 1) (8 + 8 * s) 8 (mixN k) = markN h s k) := rfl
  rw [HMK.out] at HG
  generalize setF h s 1 1 = f1 at *
  generalize markN h s k = f2 at *
  generalize mixN k = mk at *
  clear hc HMK
  go_enter Try.func46, Try.ntmps46
  go_wp2_with fail
  (with_reducible refine (HF.out _).mono ?_)
  rintro e w' ⟨rfl, rfl⟩
  go_wp2_with fail
  (with_reducible refine (HM.out _).mono ?_)
  rintro e w' ⟨rfl, rfl⟩
  go_wp2_with fail
  (with_reducible refine (HG.out _).mono ?_)
  rintro e w' ⟨rfl, rfl⟩
  go_wp2_with fail
  go_ret
  exact ⟨rfl, rfl⟩
theorem cleared_any (h s : Nat) (hh : h < 18446744073709551616) (hs : s < 7) :
    Calls Try.prog 47 #[.int .u64 h, .int .i64 s] w fun r w' => r = .returned (.int .u64 (clearN h s : Nat)) ∧ w = w' := by
  have h1 : setF h s 1 0 < 18446744073709551616 := setF_lt (n := 64) hh (by omega)
  have HF := Lib.hid (fun wx => wSetField_any (w := wx) h s 1 0 hh (by omega) (.inl rfl) (by omega))
  rw [show ((1 : Nat) : Int) = 1 from rfl] at HF
  rw [show ((0 : Nat) : Int) = 0 from rfl] at HF
  have HG := Lib.hid (fun wx => wSetField_any (w := wx) (setF h s 1 0) (8 + 8 * s) 8 0 h1 (by omega) (.inr (.inr rfl)) (by omega))
  have hc : ((8 + 8 * s : Nat) : Int) = 8 + 8 * (s : Int) := by omega
  rw [hc] at HG
  rw [show ((8 : Nat) : Int) = 8 from rfl] at HG
  rw [show ((0 : Nat) : Int) = 0 from rfl] at HG
  have HMK : Hid (setF (setF h s 1 0) (8 + 8 * s) 8 0 = clearN h s) := rfl
  rw [HMK.out] at HG
  generalize setF h s 1 0 = f1 at *
  generalize clearN h s = f2 at *
  clear hc HMK
  go_enter Try.func47, Try.ntmps47
  go_wp2_with fail
  (with_reducible refine (HF.out _).mono ?_)
  rintro e w' ⟨rfl, rfl⟩
  go_wp2_with fail
  (with_reducible refine (HG.out _).mono ?_)
  rintro e w' ⟨rfl, rfl⟩
  go_wp2_with fail
  go_ret
  exact ⟨rfl, rfl⟩
theorem lineOf31_any (o : Nat) (ho : o < 18446744073709551616) : Calls Try.prog 45 #[.int .u64 o] w fun r w' => r = .returned (.int .u64 ((64 * (o / 64) : Nat) : Int)) ∧ w = w' := by
  have HL : Hid (∀ wx, Calls Try.prog 80 #[.int .u64 o] wx fun r w' => r = .returned (.int .u64 ((o / 64 : Nat) : Int)) ∧ wx = w') := fun wx => by
    go_enter Try.func80, Try.ntmps80
    go_wp2_with fail
    go_ret
    exact ⟨rfl, rfl⟩
  have hq : IntKind.u64.wrap (((o / 64 : Nat) : Int) * 64) = ((64 * (o / 64) : Nat) : Int) := by
    rw [IntWalk.u64_in _ (by omega)]; omega
  go_enter Try.func45, Try.ntmps45
  go_wp2_with fail
  (with_reducible refine (HL.out _).mono ?_)
  rintro e w' ⟨rfl, rfl⟩
  go_wp2_with fail
  go_ret
  refine ⟨?_, rfl⟩
  show Ending.returned (.int .u64 ((o : Int) / 64 * 64)) = _
  congr 2
  omega
end
end Go.Proofs.Ytpkilmnppdbnkaa
