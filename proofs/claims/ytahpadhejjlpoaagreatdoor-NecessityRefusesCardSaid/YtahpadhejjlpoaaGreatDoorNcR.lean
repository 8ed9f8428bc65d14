/- The walks of Find, Holds and Confirm where prepare fails; prepare of no protocol, and of a number of lines that is none. -/
import Derived.Test.YtahpadhejjlpoaaGreatDoorNcG
namespace Go.Proofs.YtahpadhejjlpoaaGreatDoor
open Go.RowKit Go.Maps
attribute [local go_sem ↓] Go.wp_at_zero Go.wp_at_succ

section
variable {w : World}
/-- prepare fails. -/
def PrErr (wx : World) (e : Int) (r : Ending) (w' : World) : Prop := r = .returned (.tuple #[.pointer none, .slice none 0 0, .int .i64 e]) ∧ Below wx.heap.size wx w'
set_option maxHeartbeats 2000000 in
theorem find_early (pv : Value) (n f L e : Int) (he : e ≠ 0) (hL : ¬ L < 1) (h : ∀ wx, Calls Tryz.prog 9 #[pv, .int .i64 n, .int .i64 f] wx (PrErr wx e)) :
    Calls Tryz.prog 5 #[pv, .int .i64 n, .int .i64 f, .int .i64 L] w fun r w' => r = .returned (.tuple #[.agg #[.int .i64 0, .int .i64 0, .slice none 0 0], .bool false, .int .i64 e]) ∧ Below w.heap.size w w' := by
  have K0 := Lib.hid (Blk.new w #[.int .i64 0, .int .i64 0, .slice none 0 0] 28)
  have B0 := Lib.hid (below_alloc w (.cells #[.int .i64 0, .int .i64 0, .slice none 0 0] 28))
  have HP := Lib.hid h
  have hb : (e != 0) = true := by simpa using he
  clear h he
  go_enter Tryz.func5, Tryz.ntmps5
  go_wp2_with fail
  (with_reducible refine (HP.out _).mono ?_)
  rintro r w1 ⟨rfl, b1⟩
  have K1 := Lib.hid (K0.out.below b1)
  have B1 := Lib.hid (B0.out.trans (b1.mono B0.out.size))
  have r0 := K1.out.cell (i := 0) rfl; have r1 := K1.out.cell (i := 1) rfl; have r2 := K1.out.cell (i := 2) rfl
  have f0 := K1.out.frozen 0; have f1 := K1.out.frozen 1; have f2 := K1.out.frozen 2
  clear b1
  go_wp2_with fail
  refine bodyPost_ret (v := .tuple #[.agg #[.int .i64 0, .int .i64 0, .slice none 0 0], .bool false, .int .i64 e]) (by simp [results, Tryz.results5, go_sem, r0, r1, r2]) rfl ⟨rfl, ?_⟩
  exact below_set3 B1.out (Nat.le_refl _) _ _ _
set_option maxHeartbeats 2000000 in
theorem holds_early (pv : Value) (n L e : Int) (he : e ≠ 0) (hL : ¬ L < 1) (h : ∀ wx, Calls Tryz.prog 9 #[pv, .int .i64 n, .int .i64 (-1)] wx (PrErr wx e)) :
    Calls Tryz.prog 6 #[pv, .int .i64 n, .int .i64 L] w fun r w' => r = .returned (.tuple #[.bool false, .int .i64 e]) ∧ Below w.heap.size w w' := by
  have HF := Lib.hid (find_early (w := w) pv n (-1) L e he hL h)
  have hb : (e != 0) = true := by simpa using he
  clear h he
  go_enter Tryz.func6, Tryz.ntmps6
  go_wp2_with fail
  (with_reducible refine HF.out.mono ?_)
  rintro r w1 ⟨rfl, b1⟩
  have B1 := Lib.hid b1
  clear b1
  go_wp2_with fail
  go_ret2
  exact ⟨rfl, B1.out.trans ((below_alloc _ _).mono B1.out.size)⟩
set_option maxHeartbeats 2000000 in
theorem confirm_early (pv : Value) (n f k e : Int) (cv : Value) (he : e ≠ 0) (h : ∀ wx, Calls Tryz.prog 9 #[pv, .int .i64 n, .int .i64 f] wx (PrErr wx e)) :
    Calls Tryz.prog 7 #[pv, .int .i64 n, .agg #[.int .i64 f, .int .i64 k, cv]] w fun r w' => r = .returned (.tuple #[.bool false, .int .i64 e]) ∧ Below w.heap.size w w' := by
  have B0 := Lib.hid (below_alloc w (.cells #[.int .i64 f, .int .i64 k, cv] 28))
  have HP := Lib.hid h
  have hb : (e != 0) = true := by simpa using he
  clear h he
  go_enter Tryz.func7, Tryz.ntmps7
  go_wp2_with fail
  (with_reducible refine (HP.out _).mono ?_)
  rintro r w1 ⟨rfl, b1⟩
  have B1 := Lib.hid (B0.out.trans (b1.mono B0.out.size))
  clear b1
  go_wp2_with fail
  go_ret2
  exact ⟨rfl, B1.out⟩
theorem newBad_any (n : Int) (h : n < 1 ∨ 4096 < n) : Calls Tryz.prog 22 #[.int .i64 n] w fun r w' => r = .returned (.tuple #[.pointer none, .int .i64 1]) ∧ w = w' := by
  by_cases h1 : n < 1
  · clear h
    go_enter Tryz.func22, Tryz.ntmps22
    go_wp2_with fail
    go_ret2
    exact ⟨rfl, rfl⟩
  · have h2 : 4096 < n := by omega
    clear h
    go_enter Tryz.func22, Tryz.ntmps22
    go_wp2_with fail
    go_ret2
    exact ⟨rfl, rfl⟩
theorem prep_nil (n f : Int) : Calls Tryz.prog 9 #[.nilIface, .int .i64 n, .int .i64 f] w (PrErr w 1) := by
  go_enter Tryz.func9, Tryz.ntmps9
  go_wp2_with fail
  go_ret3
  exact ⟨rfl, Below.refl _ _⟩
end
end Go.Proofs.YtahpadhejjlpoaaGreatDoor
