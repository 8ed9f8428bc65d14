/- The undo log's Open, Look, Rollback. -/
import Derived.Test.YtokgplgdaememaaDoorUndX
namespace Go.Proofs.YtokgplgdaememaaDoor
open Go.RowKit Go.Maps

section
variable {w : World} {v : DV} {own : Nat → Option Role} {D : Dev} {lb j off n : Nat}
def OpenErr (w : World) (e : Int) (r : Ending) (w' : World) : Prop := r = .returned (.tuple #[.pointer none, .int .i64 e]) ∧ Below w.heap.size w w'
set_option maxRecDepth 100000 in
set_option maxHeartbeats 1000000 in
theorem uOpen_nil (x y : Int) : Calls Tryd.prog 13 #[.nilIface, .int .i64 x, .int .i64 y] w (OpenErr w 1) := by
  go_enter Tryd.func13, Tryd.ntmps13
  go_wp2_with fail
  go_ret2
  exact ⟨rfl, Below.refl _ _⟩
set_option maxRecDepth 100000 in
set_option maxHeartbeats 1000000 in
theorem uOpen_arg (a : Addr) (x y : Int) (h : x < 0 ∨ y < 2) : Calls Tryd.prog 13 #[.iface 32 (.pointer (some a)), .int .i64 x, .int .i64 y] w (OpenErr w 1) := by
  by_cases hx : x < 0
  · go_enter Tryd.func13, Tryd.ntmps13
    go_wp2_with fail
    go_ret2
    exact ⟨rfl, Below.refl _ _⟩
  · have hy : y < 2 := by omega
    clear h
    go_enter Tryd.func13, Tryd.ntmps13
    go_wp2_with fail
    go_ret2
    exact ⟨rfl, Below.refl _ _⟩
set_option maxRecDepth 100000 in
set_option maxHeartbeats 1000000 in
theorem uOpen_range (h : IsDev w v own D) (hj : j < 8) (x y : Nat) (hx : x < 9223372036854775808) (hy : y < 9223372036854775808) (h2 : 2 ≤ y) (hr : D.n < x + y) :
    Calls Tryd.prog 13 #[.iface 32 (.pointer (some ⟨v.tb j, 0, none⟩)), .int .i64 x, .int .i64 y] w (OpenErr w 2) := by
  have hm1 := meth_Size ⟨v.tb j, 0, none⟩
  have HT := Lib.hid (thrSize_any h hj)
  have hn := h.wf.le
  have hx0 : ¬ (x : Int) < 0 := by omega
  have hy2 : ¬ (y : Int) < 2 := by omega
  have hq : (D.n : Int) * 64 / 64 = D.n := by omega
  clear h
  by_cases hyn : D.n < y
  · have hyn' : (D.n : Int) < y := by omega
    go_enter Tryd.func13, Tryd.ntmps13
    go_wp2_with fail
    (with_reducible refine HT.out.mono ?_)
    rintro e w' ⟨rfl, rfl⟩
    go_wp2_with fail
    go_ret2
    exact ⟨rfl, Below.refl _ _⟩
  · have hyn' : ¬ (D.n : Int) < y := by omega
    have hxn : (D.n : Int) - y < x := by omega
    go_enter Tryd.func13, Tryd.ntmps13
    go_wp2_with fail
    (with_reducible refine HT.out.mono ?_)
    rintro e w' ⟨rfl, rfl⟩
    go_wp2_with fail
    go_ret2
    exact ⟨rfl, Below.refl _ _⟩
/-- A log that has been opened. -/
def OpenPost (w : World) (v : DV) (own : Nat → Option Role) (D : Dev) (j off n : Nat) (r : Ending) (w' : World) : Prop :=
  r = .returned (.tuple #[.pointer (some ⟨w.heap.size, 0, none⟩), .int .i64 0]) ∧ LogAt w' v own D w.heap.size j off n ∧ Below w.heap.size w w'
set_option maxRecDepth 100000 in
set_option maxHeartbeats 1000000 in
theorem uOpen_ok (h : IsDev w v own D) (hj : j < 8) (x y : Nat) (h2 : 2 ≤ y) (hr : x + y ≤ D.n) :
    Calls Tryd.prog 13 #[.iface 32 (.pointer (some ⟨v.tb j, 0, none⟩)), .int .i64 x, .int .i64 y] w (OpenPost w v own D j (64 * x) y) := by
  have hm1 := meth_Size ⟨v.tb j, 0, none⟩
  have HT := Lib.hid (thrSize_any h hj)
  have hn := h.wf.le
  have H := Lib.hid h
  have hx0 : ¬ (x : Int) < 0 := by omega
  have hy2 : ¬ (y : Int) < 2 := by omega
  have hq : (D.n : Int) * 64 / 64 = D.n := by omega
  have hyn' : ¬ (D.n : Int) < y := by omega
  have hxn : ¬ (D.n : Int) - y < x := by omega
  have e64 : (x : Int) * 64 = ((64 * x : Nat) : Int) := by omega
  have E64 := Lib.hid e64
  clear h e64
  go_enter Tryd.func13, Tryd.ntmps13
  go_wp2_with fail
  (with_reducible refine HT.out.mono ?_)
  rintro e w' ⟨rfl, rfl⟩
  go_wp2_with fail
  go_ret2
  refine ⟨rfl, ⟨H.out.alloc _, ?_, ?_, hj, h2, by omega, by omega⟩, below_alloc _ _⟩
  · have := Blk.new w #[.iface 32 (.pointer (some ⟨v.tb j, 0, none⟩)), .int .u64 ((64 * x : Nat) : Int), .int .i64 y] 108
    rw [← E64.out] at this
    have e3 := E64.out
    rw [← E64.out]
    exact this
  · cases ho : own w.heap.size with
    | none => rfl
    | some r => have := H.out.lt w.heap.size (by rw [ho]; simp); omega
set_option maxRecDepth 100000 in
set_option maxHeartbeats 1000000 in
theorem uLook_err {m : Value} {x y e : Int} (hm : m = .nilIface ∨ ∃ a, m = .iface 32 (.pointer (some a))) (he : e ≠ 0) (h : Calls Tryd.prog 13 #[m, .int .i64 x, .int .i64 y] w (OpenErr w e)) :
    Calls Tryd.prog 14 #[m, .int .i64 x, .int .i64 y] w fun r w' => r = .returned (.slice none 0 0) ∧ Below w.heap.size w w' := by
  have HO := Lib.hid h
  have hne : (e != 0) = true := by simpa using he
  clear h he
  rcases hm with rfl | ⟨a, rfl⟩
  all_goals
    go_enter Tryd.func14, Tryd.ntmps14
    go_wp2_with fail
    (with_reducible refine HO.out.mono ?_)
    rintro e' w1 ⟨rfl, b1⟩
    have B1 := Lib.hid b1; clear b1
    go_wp2_with fail
    go_ret
    exact ⟨rfl, B1.out⟩
set_option maxRecDepth 100000 in
set_option maxHeartbeats 1000000 in
theorem uLook_any (h : IsDev w v own D) (hj : j < 8) (x y : Nat) (h2 : 2 ≤ y) (hr : x + y ≤ D.n) (hof : D.off = false) (hvb : D.VB) :
    Calls Tryd.prog 14 #[.iface 32 (.pointer (some ⟨v.tb j, 0, none⟩)), .int .i64 x, .int .i64 y] w fun r w' => ∃ sv, r = .returned sv ∧ Acc w w.heap.size w' 102 2 sv (savedL D.cur (64 * x) y).length (flat (savedL D.cur (64 * x) y)) := by
  have HO := Lib.hid (uOpen_ok h hj x y h2 hr)
  have HV := Lib.hid hvb
  clear h
  go_enter Tryd.func14, Tryd.ntmps14
  go_wp2_with fail
  (with_reducible refine HO.out.mono ?_)
  rintro e w1 ⟨rfl, l1, b1⟩
  have HS := Lib.hid (uSaved_any l1 hof HV.out)
  have B1 := Lib.hid b1; clear l1 b1 HO
  go_wp2_with fail
  (with_reducible refine HS.out.mono ?_)
  rintro e w2 ⟨sv, rfl, a2⟩
  have A2 := Lib.hid (a2.deeper B1.out); clear a2 HS
  go_wp2_with fail
  go_ret
  exact ⟨_, rfl, A2.out⟩
set_option maxRecDepth 100000 in
set_option maxHeartbeats 1000000 in
theorem uRollback_err {e : Int} (h : Calls Tryd.prog 39 #[.pointer (some ⟨lb, 0, none⟩)] w fun r w' => r = .returned (.tuple #[.int .i64 0, .int .i64 e]) ∧ Below w.heap.size w w') :
    Calls Tryd.prog 41 #[.pointer (some ⟨lb, 0, none⟩)] w fun r w' => r = .returned (.int .i64 e) ∧ Below w.heap.size w w' := by
  have H := Lib.hid h
  clear h
  go_enter Tryd.func41, Tryd.ntmps41
  go_wp2_with fail
  (with_reducible refine H.out.mono ?_)
  rintro e' w1 ⟨rfl, b1⟩
  have B1 := Lib.hid b1; clear b1
  go_wp2_with fail
  go_ret
  exact ⟨rfl, B1.out⟩
def RollPost (w : World) (v : DV) (own : Nat → Option Role) (D : Dev) (j off : Nat) (S V : List (Nat × Int)) (r : Ending) (w' : World) : Prop :=
  (S = [] ∧ r = .returned (.int .i64 0) ∧ Below w.heap.size w w') ∨ (S ≠ [] ∧ DPost v own w (D.run j (restoreP off V)) w' ∧ r = .returned (.int .i64 ((D.run j (restoreP off V)).err j)))
set_option maxRecDepth 100000 in
set_option maxHeartbeats 1000000 in
theorem uRollback_any {S V : List (Nat × Int)} (h : Calls Tryd.prog 39 #[.pointer (some ⟨lb, 0, none⟩)] w (RecPost w v own D j off S V)) :
    Calls Tryd.prog 41 #[.pointer (some ⟨lb, 0, none⟩)] w (RollPost w v own D j off S V) := by
  have H := Lib.hid h
  clear h
  go_enter Tryd.func41, Tryd.ntmps41
  go_wp2_with fail
  (with_reducible refine H.out.mono ?_)
  rintro e' w1 (⟨hs, rfl, b1⟩ | ⟨hs, p1, ⟨he, rfl⟩ | ⟨he, rfl⟩⟩)
  · have B1 := Lib.hid (And.intro hs b1); clear b1 hs
    go_wp2_with fail
    go_ret
    exact .inl ⟨B1.out.1, rfl, B1.out.2⟩
  · have P1 := Lib.hid (And.intro hs (And.intro p1 he)); clear p1 he hs
    go_wp2_with fail
    go_ret
    exact .inr ⟨P1.out.1, P1.out.2.1, by rw [P1.out.2.2]; rfl⟩
  · have P1 := Lib.hid (And.intro hs p1); clear p1 he hs
    go_wp2_with fail
    go_ret
    exact .inr ⟨P1.out.1, P1.out.2, rfl⟩
end
end Go.Proofs.YtokgplgdaememaaDoor
