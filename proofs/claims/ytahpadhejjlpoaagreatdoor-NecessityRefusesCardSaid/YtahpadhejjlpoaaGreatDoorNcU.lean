/- The walk of the law NecessityRefuses. -/
import Derived.Test.YtahpadhejjlpoaaGreatDoorNcT
import Derived.Test.YtahpadhejjlpoaaGreatDoorNcM
namespace Go.Proofs.YtahpadhejjlpoaaGreatDoor
open Go.RowKit Go.Maps
attribute [local go_sem ↓] Go.wp_at_zero Go.wp_at_succ

section
variable {w : World}
/-- Find, Holds and Confirm of the protocol 'failing' answer the error e. -/
structure FlAll (s p e : Int) : Prop where
  f : ∀ wx, Calls Tryz.prog 5 #[(.iface 25 (.agg #[.int .i64 s, .int .i64 p])), .int .i64 4, .int .i64 (-1), .int .i64 10] wx fun r w' => r = .returned (.tuple #[.agg #[.int .i64 0, .int .i64 0, .slice none 0 0], .bool false, .int .i64 e]) ∧ Below wx.heap.size wx w'
  h : ∀ wx, Calls Tryz.prog 6 #[(.iface 25 (.agg #[.int .i64 s, .int .i64 p])), .int .i64 4, .int .i64 10] wx fun r w' => r = .returned (.tuple #[.bool (decide (e = 0)), .int .i64 e]) ∧ Below wx.heap.size wx w'
  c : ∀ wx, Calls Tryz.prog 7 #[(.iface 25 (.agg #[.int .i64 s, .int .i64 p])), .int .i64 4, .agg #[.int .i64 (-1), .int .i64 0, .slice none 0 0]] wx fun r w' => r = .returned (.tuple #[.bool false, .int .i64 e]) ∧ Below wx.heap.size wx w'
theorem flAll_bad (s p e : Int) (he : e ≠ 0) (h : ∀ wx : World, Calls Tryz.prog 9 #[(.iface 25 (.agg #[.int .i64 s, .int .i64 p])), .int .i64 4, .int .i64 (-1)] wx (PrErr wx e)) : FlAll s p e :=
  ⟨fun wx => find_early _ 4 (-1) 10 e he (by omega) h, fun wx => by rw [show decide (e = 0) = false by simpa using he]; exact holds_early _ 4 10 e he (by omega) h, fun wx => confirm_early _ 4 (-1) 0 e _ he h⟩
theorem flAll_setup (s p : Int) (hs : s ≠ 0) : FlAll s p s := flAll_bad s p s hs fun wx => prep_flSetup s p (-1) 4 (by omega) (by omega) hs
theorem flAll_prog (p : Int) (hp : p ≠ 0) : FlAll 0 p p := flAll_bad 0 p p hp fun wx => (prep_flProg p 4 (by omega) (by omega)).mono fun r w' h => h.elim (fun h => h.2) (fun h => absurd h.1 hp)
theorem flAll_ok : FlAll 0 0 0 := ⟨fun wx => findF_any 4 (by omega) (by omega) 10 (by omega) (by omega), fun wx => holdsF_any 4 (by omega) (by omega) 10 (by omega) (by omega), fun wx => confirmF_any 4 (by omega) (by omega)⟩
theorem fl_cells (w1 wx : World) (x y : Int) (h : Below (w1.alloc (.cells #[.int .i64 x, .int .i64 y] 25)).heap.size (w1.alloc (.cells #[.int .i64 x, .int .i64 y] 25)) wx) :
    wx.cell? ⟨w1.heap.size, 0, none⟩ = some (.int .i64 x) ∧ wx.cell? ⟨w1.heap.size, 1, none⟩ = some (.int .i64 y) :=
  have K := (Blk.new w1 #[.int .i64 x, .int .i64 y] 25).below h
  ⟨K.cell rfl, K.cell rfl⟩
theorem rem18 (a : Int) : ∃ t s : Int, a.tmod 18 = t ∧ IntKind.i64.wrap t = t ∧ IntKind.i64.wrap (t + 18) = t + 18 ∧ (t + 18).tmod 18 = s ∧ IntKind.i64.wrap s = s := by
  have h1 := Int.tmod_lt_of_pos a (show (0 : Int) < 18 by omega)
  have h2 := Int.lt_tmod_of_pos a (show (0 : Int) < 18 by omega)
  have h3 := Int.tmod_lt_of_pos (a.tmod 18 + 18) (show (0 : Int) < 18 by omega)
  have h4 := Int.lt_tmod_of_pos (a.tmod 18 + 18) (show (0 : Int) < 18 by omega)
  exact ⟨_, _, rfl, IntWalk.i64_in _ (by omega), IntWalk.i64_in _ (by omega), rfl, IntWalk.i64_in _ (by omega)⟩
theorem sy_holds (g : Nat) (m : Int) (h0 : 0 < m) (hm : m < 64) : Calls Tryz.prog 6 #[syV g, .int .i64 m, .int .i64 10] w fun r w' => r = .returned (.tuple #[.bool false, .int .i64 9]) ∧ Below w.heap.size w w' := by
  obtain ⟨k, rfl⟩ : ∃ k : Nat, m = k := ⟨m.toNat, by omega⟩
  exact holds_early _ _ 10 9 (by omega) (by omega) (fun wx => prep_sy ⟨g, 0, none⟩ (-1) k (by omega) (by omega))
set_option maxRecDepth 100000 in
set_option maxHeartbeats 16000000 in
theorem necRefuses_any (n a b : Int) : Calls Tryz.prog 3 #[.int .i64 n, .int .i64 a, .int .i64 b] w fun r w' => r = .returned (.bool true) ∧ Below w.heap.size w w' := by
  have HA := Lib.hid (awake54 (w := w))
  obtain ⟨ta, s, ga1, ga2, ga3, ga4, ga5⟩ := rem18 a
  obtain ⟨tb, p, gb1, gb2, gb3, gb4, gb5⟩ := rem18 b
  have HN1 := Lib.hid (fun wx : World => find_early (w := wx) .nilIface 4 (-1) 10 1 (by omega) (by omega) (fun wx => prep_nil (w := wx) 4 (-1)))
  have HN2 := Lib.hid (fun wx : World => holds_early (w := wx) .nilIface 4 10 1 (by omega) (by omega) (fun wx => prep_nil (w := wx) 4 (-1)))
  have HN3 := Lib.hid (fun wx : World => confirm_early (w := wx) .nilIface 4 (-1) 0 1 (.slice none 0 0) (by omega) (fun wx => prep_nil (w := wx) 4 (-1)))
  have HM1 := Lib.hid (fun (m : Int) (hm : m < 1 ∨ 4096 < m) (wx : World) => find_early (w := wx) (.iface 25 (.agg #[.int .i64 0, .int .i64 0])) m (-1) 10 1 (by omega) (by omega) (fun wx => prep_flBad (w := wx) 0 0 m (-1) hm))
  have HM2 := Lib.hid (fun (m : Int) (hm : m < 1 ∨ 4096 < m) (wx : World) => holds_early (w := wx) (.iface 25 (.agg #[.int .i64 0, .int .i64 0])) m 10 1 (by omega) (by omega) (fun wx => prep_flBad (w := wx) 0 0 m (-1) hm))
  have HM3 := Lib.hid (fun (m : Int) (hm : m < 1 ∨ 4096 < m) (wx : World) => confirm_early (w := wx) (.iface 25 (.agg #[.int .i64 0, .int .i64 0])) m (-1) 0 1 (.slice none 0 0) (by omega) (fun wx => prep_flBad (w := wx) 0 0 m (-1) hm))
  have HAL := Lib.hid (fun wx : World => l54all_any (w := wx))
  have HSY := Lib.hid (fun (wx : World) (g : Nat) (m : Int) (h0 : 0 < m) (hm : m < 64) => sy_holds (w := wx) g m h0 hm)
  have hcase : (n ≤ 5000 ∧ n < 1) ∨ (n ≤ 5000 ∧ ¬ n < 1 ∧ ¬ 4096 < n) ∨ (n ≤ 5000 ∧ ¬ n < 1 ∧ 4096 < n) ∨ 5000 < n := by omega
  have HC := Lib.hid hcase
  clear hcase
  have hw : (s ≠ 0 ∧ FlAll s p s) ∨ (s = 0 ∧ p ≠ 0 ∧ FlAll 0 p p) ∨ (s = 0 ∧ p = 0 ∧ FlAll 0 0 0) := by
    by_cases h1 : s = 0
    · by_cases h2 : p = 0
      · exact .inr (.inr ⟨h1, h2, flAll_ok⟩)
      · exact .inr (.inl ⟨h1, h2, flAll_prog p h2⟩)
    · exact .inl ⟨h1, flAll_setup s p h1⟩
  rcases hw with ⟨h1, hfl⟩ | ⟨h1, h2, hfl⟩ | ⟨h1, h2, hfl⟩
  case' inl => have hd : decide (s = 0) = false := by simpa using h1
  case' inr.inl => have hd : decide (p = 0) = false := by simpa using h2
  case' inr.inl => subst h1
  case' inr.inr => subst h1
  case' inr.inr => subst h2
  all_goals
    have HF := Lib.hid hfl.f; have HH := Lib.hid hfl.h; have HK := Lib.hid hfl.c
    clear hfl
  case' inl => rw [hd] at HH
  case' inr.inl => rw [hd] at HH
  all_goals
    go_enter Tryz.func3, Tryz.ntmps3
    go_wp2_with fail
    (with_reducible refine HA.out.mono ?_)
    rintro r w1 ⟨rfl, b1⟩
    have B1 := Lib.hid b1
    clear b1
    have B2 := Lib.hid (fun (x y : Int) => B1.out.trans ((below_alloc w1 (.cells #[.int .i64 x, .int .i64 y] 25)).mono B1.out.size))
    have C2 := Lib.hid (fun (x y : Int) (wx : World) (hx : Below (w1.alloc (.cells #[.int .i64 x, .int .i64 y] 25)).heap.size (w1.alloc (.cells #[.int .i64 x, .int .i64 y] 25)) wx) => fl_cells w1 wx x y hx)
    go_wp2_with fail
    (with_reducible refine (HF.out _).mono ?_)
    rintro r w3 ⟨rfl, b3⟩
    have B3 := Lib.hid ((B2.out _ _).trans (b3.mono (B2.out _ _).size))
    obtain ⟨c0, c1⟩ := C2.out _ _ _ b3
    have C3 := Lib.hid (fun (wx : World) (hx : Below w3.heap.size w3 wx) => C2.out _ _ wx (b3.trans (hx.mono b3.size)))
    clear b3 C2
    obtain ⟨c0, c1⟩ := C3.out _ (below_alloc w3 (.cells #[.int .i64 0, .int .i64 0, .slice none 0 0] 28))
    have B4 := Lib.hid (B3.out.trans ((below_alloc w3 (.cells #[.int .i64 0, .int .i64 0, .slice none 0 0] 28)).mono B3.out.size))
    go_wp2_with fail
    (with_reducible refine (HH.out _).mono ?_)
    rintro r w4 ⟨rfl, b4⟩
    have B5 := Lib.hid (B4.out.trans (b4.mono B4.out.size))
    obtain ⟨c0, c1⟩ := C3.out _ ((below_alloc w3 (.cells #[.int .i64 0, .int .i64 0, .slice none 0 0] 28)).trans (b4.mono (by simp)))
    clear b4 C3
    go_wp2_with fail
    (with_reducible refine (HK.out _).mono ?_)
    rintro r w5 ⟨rfl, b5⟩
    have B6 := Lib.hid (B5.out.trans (b5.mono B5.out.size))
    clear b5 HF HH HK
    go_wp2_with fail
    (with_reducible refine (HN1.out _).mono ?_)
    rintro r w6 ⟨rfl, b6⟩
    have B7 := Lib.hid (B6.out.trans (b6.mono B6.out.size))
    clear b6
    go_wp2_with fail
    (with_reducible refine (HN2.out _).mono ?_)
    rintro r w7 ⟨rfl, b7⟩
    have B8 := Lib.hid (B7.out.trans (b7.mono B7.out.size))
    clear b7
    go_wp2_with fail
    (with_reducible refine (HN3.out _).mono ?_)
    rintro r w8 ⟨rfl, b8⟩
    have B9 := Lib.hid (B8.out.trans (b8.mono B8.out.size))
    clear b8 HN1 HN2 HN3
    rcases HC.out with ⟨e1, e2⟩ | ⟨e1, e2, e3⟩ | ⟨e1, e2, e3⟩ | e1
    · have HX1 := Lib.hid (fun wx => HM1.out (min n 5000) (.inl (by omega)) wx); have HX2 := Lib.hid (fun wx => HM2.out (min n 5000) (.inl (by omega)) wx); have HX3 := Lib.hid (fun wx => HM3.out (min n 5000) (.inl (by omega)) wx)
      clear HM1 HM2 HM3 HAL HSY
      go_wp2_with fail
      (with_reducible refine (HX1.out _).mono ?_)
      rintro r wa1 ⟨rfl, ba1⟩
      have B10 := Lib.hid (B9.out.trans (ba1.mono B9.out.size))
      clear ba1
      go_wp2_with fail
      (with_reducible refine (HX2.out _).mono ?_)
      rintro r wa2 ⟨rfl, ba2⟩
      have B11 := Lib.hid (B10.out.trans (ba2.mono B10.out.size))
      clear ba2
      go_wp2_with fail
      (with_reducible refine (HX3.out _).mono ?_)
      rintro r wa3 ⟨rfl, ba3⟩
      have B12 := Lib.hid (B11.out.trans (ba3.mono B11.out.size))
      clear ba3
      go_wp2_with fail
      go_ret
      exact ⟨rfl, B12.out⟩
    · have HX := Lib.hid (fun wx g => HSY.out wx g (min n (min 5000 63)) (by omega) (by omega))
      clear HM1 HM2 HM3 HSY
      go_wp2_with fail
      (with_reducible refine (HAL.out _).mono ?_)
      rintro r wa ⟨bb, ad, rfl, row, ba⟩
      have B10 := Lib.hid (B9.out.trans (ba.mono B9.out.size))
      have RW := Lib.hid row
      clear row ba HAL
      go_wp2_with fail
      go_loopw [148] (fun y wy => ∃ i : Nat, i ≤ 6 ∧ y = .int .i64 i ∧ Below wa.heap.size wa wy) (fun y _ => 6 - (intOf y).toNat)
      case atStart => exact ⟨0, by omega, rfl, Below.refl _ _⟩
      case round =>
        obtain ⟨i, hi, rfl, hby⟩ := hrel
        rename World => wy
        have BY := Lib.hid hby
        clear hby
        by_cases h6 : i = 6
        · subst h6
          rw [show ((6 : Nat) : Int) = 6 from rfl]
          go_wp2_with fail
          go_ret
          exact ⟨rfl, B10.out.trans (BY.out.mono B10.out.size)⟩
        · have hc0 := (RW.out.below BY.out).cell (i := i) (by omega)
          have hlt : (i : Int) < 6 := by omega
          have gi : IntKind.i64.wrap ((i : Int) + 1) = (i : Int) + 1 := IntWalk.i64_in _ (by omega)
          go_wp2_with fail
          (with_reducible refine (HX.out _ _).mono ?_)
          rintro r wb ⟨rfl, b2⟩
          have B11 := Lib.hid (BY.out.trans (b2.mono BY.out.size))
          clear b2
          go_wp2_with fail
          go_roundw
          case rel => exact ⟨i + 1, by omega, rfl, B11.out⟩
          case measure => simp [intOf]; omega
    · have HX1 := Lib.hid (fun wx => HM1.out (min n 5000) (.inr (by omega)) wx); have HX2 := Lib.hid (fun wx => HM2.out (min n 5000) (.inr (by omega)) wx); have HX3 := Lib.hid (fun wx => HM3.out (min n 5000) (.inr (by omega)) wx)
      clear HM1 HM2 HM3 HAL HSY
      go_wp2_with fail
      (with_reducible refine (HX1.out _).mono ?_)
      rintro r wa1 ⟨rfl, ba1⟩
      have B10 := Lib.hid (B9.out.trans (ba1.mono B9.out.size))
      clear ba1
      go_wp2_with fail
      (with_reducible refine (HX2.out _).mono ?_)
      rintro r wa2 ⟨rfl, ba2⟩
      have B11 := Lib.hid (B10.out.trans (ba2.mono B10.out.size))
      clear ba2
      go_wp2_with fail
      (with_reducible refine (HX3.out _).mono ?_)
      rintro r wa3 ⟨rfl, ba3⟩
      have B12 := Lib.hid (B11.out.trans (ba3.mono B11.out.size))
      clear ba3
      go_wp2_with fail
      go_ret
      exact ⟨rfl, B12.out⟩
    · have HX1 := Lib.hid (fun wx => HM1.out (min n 5000) (.inr (by omega)) wx); have HX2 := Lib.hid (fun wx => HM2.out (min n 5000) (.inr (by omega)) wx); have HX3 := Lib.hid (fun wx => HM3.out (min n 5000) (.inr (by omega)) wx)
      clear HM1 HM2 HM3 HAL HSY
      go_wp2_with fail
      (with_reducible refine (HX1.out _).mono ?_)
      rintro r wa1 ⟨rfl, ba1⟩
      have B10 := Lib.hid (B9.out.trans (ba1.mono B9.out.size))
      clear ba1
      go_wp2_with fail
      (with_reducible refine (HX2.out _).mono ?_)
      rintro r wa2 ⟨rfl, ba2⟩
      have B11 := Lib.hid (B10.out.trans (ba2.mono B10.out.size))
      clear ba2
      go_wp2_with fail
      (with_reducible refine (HX3.out _).mono ?_)
      rintro r wa3 ⟨rfl, ba3⟩
      have B12 := Lib.hid (B11.out.trans (ba3.mono B11.out.size))
      clear ba3
      go_wp2_with fail
      go_ret
      exact ⟨rfl, B12.out⟩
end
end Go.Proofs.YtahpadhejjlpoaaGreatDoor
