/- The superblock's small functions: heap, Valid. -/
import Derived.Test.YtbpaamnofkhonaaDoorGen
import Derived.Test.YtbpaamnofkhonaaDoorSbM
namespace Go.Proofs.YtbpaamnofkhonaaDoor
open Go.RowKit

section
variable {w : World}
set_option maxRecDepth 100000 in
set_option maxHeartbeats 1000000 in
theorem heap_any (s : Sup) (l1 : 0 ≤ s.lin) (l2 : s.lin ≤ 4096) (r1 : 0 ≤ s.redo) (r2 : s.redo ≤ 4096) (u1 : 0 ≤ s.und) (u2 : s.und ≤ 4096) (d1 : 0 ≤ s.desc) (d2 : s.desc ≤ 4096) (q1 : 0 ≤ s.que) (q2 : s.que ≤ 4096) (t1 : 0 ≤ s.tab) (t2 : s.tab ≤ 4096) :
    Calls Tryd.prog 41 #[.agg s.cells] w fun r w' => r = .returned (.int .i64 s.heap) ∧ Below w.heap.size w w' := by
  obtain ⟨ver, lin, redo, und, desc, que, tab, gen⟩ := s
  simp only at l1 l2 r1 r2 u1 u2 d1 d2 q1 q2 t1 t2
  unfold Sup.cells
  by_cases h : lin - 2 - 8 - redo - und - desc - 1 - que - tab < 32
  · go_enter Tryd.func41, Tryd.ntmps41
    go_wp2_with fail
    go_ret
    exact ⟨ret_int (by simp [Sup.heap, Sup.rest, h]), below_alloc _ _⟩
  · go_enter Tryd.func41, Tryd.ntmps41
    go_wp2_with fail
    go_ret
    exact ⟨ret_int (by unfold Sup.heap; rw [if_neg (by unfold Sup.rest; simp only; omega)]; rfl), below_alloc _ _⟩

/-- Go's min and max of two. -/
def mnI (x y : Int) : Int := if y < x then y else x
def mxI (x y : Int) : Int := if y > x then y else x
theorem mnI_eq (x y : Int) : mnI x y = min x y := by unfold mnI; split <;> omega
theorem mxI_eq (x y : Int) : mxI x y = max x y := by unfold mxI; split <;> omega
theorem run_max5 {P : Program} (w : World) (ts : Array TypeId) (t : TypeId) (k : IntKind) (a b c d e : Int) : (Builtin.max_ ts t #[.int k a, .int k b, .int k c, .int k d, .int k e]).run P w = .ok (.int k (mxI (mxI (mxI (mxI a b) c) d) e)) w := by
  simp [Builtin.max_, Builtin.max2, mxI]
theorem Sup.okB_false {s : Sup} (h : ¬ s.Ok) : s.okB = false := by unfold Sup.okB; simpa using h
theorem Sup.okB_true {s : Sup} (h : s.Ok) : s.okB = true := by unfold Sup.okB; simpa using h
set_option maxRecDepth 100000 in
set_option maxHeartbeats 4000000 in
theorem valid_any (s : Sup) : Calls Tryd.prog 15 #[.agg s.cells] w fun r w' => r = .returned (.bool s.okB) ∧ Below w.heap.size w w' := by
  by_cases h1 : s.ver < 1
  · have E := Lib.hid (Sup.okB_false (s := s) (fun h => by (try simp only [mnI_eq, mxI_eq] at *); have := h.v1; omega))
    obtain ⟨ver, lin, redo, und, desc, que, tab, gen⟩ := s
    unfold Sup.cells
    simp only at h1
    have e1 : decide (ver < 1) = true := by simpa using h1
    have hm1 : (if und < redo then und else redo) = mnI redo und := rfl
    have hm2 : (if desc < mnI redo und then desc else mnI redo und) = mnI (mnI redo und) desc := rfl
    have hm3 : (if tab < que then tab else que) = mnI que tab := rfl
    have hmx := fun (w : World) (ts : Array TypeId) (t : TypeId) => run_max5 (P := Tryd.prog) w ts t .i64 redo und desc que tab
    go_enter Tryd.func15, Tryd.ntmps15
    go_wp2_with fail
    go_ret
    exact ⟨ret_bool E.out.symm, below_alloc _ _⟩
  by_cases h2 : 65535 < s.ver
  · have E := Lib.hid (Sup.okB_false (s := s) (fun h => by (try simp only [mnI_eq, mxI_eq] at *); have := h.v2; omega))
    obtain ⟨ver, lin, redo, und, desc, que, tab, gen⟩ := s
    unfold Sup.cells
    simp only at h1 h2
    have e1 : decide (ver < 1) = false := by simpa using h1
    have e2 : decide (65535 < ver) = true := by simpa using h2
    have hm1 : (if und < redo then und else redo) = mnI redo und := rfl
    have hm2 : (if desc < mnI redo und then desc else mnI redo und) = mnI (mnI redo und) desc := rfl
    have hm3 : (if tab < que then tab else que) = mnI que tab := rfl
    have hmx := fun (w : World) (ts : Array TypeId) (t : TypeId) => run_max5 (P := Tryd.prog) w ts t .i64 redo und desc que tab
    go_enter Tryd.func15, Tryd.ntmps15
    go_wp2_with fail
    go_ret
    exact ⟨ret_bool E.out.symm, below_alloc _ _⟩
  by_cases h3 : s.lin < 1
  · have E := Lib.hid (Sup.okB_false (s := s) (fun h => by (try simp only [mnI_eq, mxI_eq] at *); have := h.l1; omega))
    obtain ⟨ver, lin, redo, und, desc, que, tab, gen⟩ := s
    unfold Sup.cells
    simp only at h1 h2 h3
    have e1 : decide (ver < 1) = false := by simpa using h1
    have e2 : decide (65535 < ver) = false := by simpa using h2
    have e3 : decide (lin < 1) = true := by simpa using h3
    have hm1 : (if und < redo then und else redo) = mnI redo und := rfl
    have hm2 : (if desc < mnI redo und then desc else mnI redo und) = mnI (mnI redo und) desc := rfl
    have hm3 : (if tab < que then tab else que) = mnI que tab := rfl
    have hmx := fun (w : World) (ts : Array TypeId) (t : TypeId) => run_max5 (P := Tryd.prog) w ts t .i64 redo und desc que tab
    go_enter Tryd.func15, Tryd.ntmps15
    go_wp2_with fail
    go_ret
    exact ⟨ret_bool E.out.symm, below_alloc _ _⟩
  by_cases h4 : 4096 < s.lin
  · have E := Lib.hid (Sup.okB_false (s := s) (fun h => by (try simp only [mnI_eq, mxI_eq] at *); have := h.l2; omega))
    obtain ⟨ver, lin, redo, und, desc, que, tab, gen⟩ := s
    unfold Sup.cells
    simp only at h1 h2 h3 h4
    have e1 : decide (ver < 1) = false := by simpa using h1
    have e2 : decide (65535 < ver) = false := by simpa using h2
    have e3 : decide (lin < 1) = false := by simpa using h3
    have e4 : decide (4096 < lin) = true := by simpa using h4
    have hm1 : (if und < redo then und else redo) = mnI redo und := rfl
    have hm2 : (if desc < mnI redo und then desc else mnI redo und) = mnI (mnI redo und) desc := rfl
    have hm3 : (if tab < que then tab else que) = mnI que tab := rfl
    have hmx := fun (w : World) (ts : Array TypeId) (t : TypeId) => run_max5 (P := Tryd.prog) w ts t .i64 redo und desc que tab
    go_enter Tryd.func15, Tryd.ntmps15
    go_wp2_with fail
    go_ret
    exact ⟨ret_bool E.out.symm, below_alloc _ _⟩
  by_cases h5 : mnI (mnI s.redo s.und) s.desc < 1
  · have E := Lib.hid (Sup.okB_false (s := s) (fun h => by (try simp only [mnI_eq] at *); have := h.r1; have := h.u1; have := h.d1; omega))
    obtain ⟨ver, lin, redo, und, desc, que, tab, gen⟩ := s
    unfold Sup.cells
    simp only at h1 h2 h3 h4 h5
    have e1 : decide (ver < 1) = false := by simpa using h1
    have e2 : decide (65535 < ver) = false := by simpa using h2
    have e3 : decide (lin < 1) = false := by simpa using h3
    have e4 : decide (4096 < lin) = false := by simpa using h4
    have e5 : decide (mnI (mnI redo und) desc < 1) = true := by simpa using h5
    have hm1 : (if und < redo then und else redo) = mnI redo und := rfl
    have hm2 : (if desc < mnI redo und then desc else mnI redo und) = mnI (mnI redo und) desc := rfl
    have hm3 : (if tab < que then tab else que) = mnI que tab := rfl
    have hmx := fun (w : World) (ts : Array TypeId) (t : TypeId) => run_max5 (P := Tryd.prog) w ts t .i64 redo und desc que tab
    go_enter Tryd.func15, Tryd.ntmps15
    go_wp2_with fail
    go_ret
    exact ⟨ret_bool E.out.symm, below_alloc _ _⟩
  by_cases h6 : mnI s.que s.tab < 0
  · have E := Lib.hid (Sup.okB_false (s := s) (fun h => by (try simp only [mnI_eq] at *); have := h.q1; have := h.t1; omega))
    obtain ⟨ver, lin, redo, und, desc, que, tab, gen⟩ := s
    unfold Sup.cells
    simp only at h1 h2 h3 h4 h5 h6
    have e1 : decide (ver < 1) = false := by simpa using h1
    have e2 : decide (65535 < ver) = false := by simpa using h2
    have e3 : decide (lin < 1) = false := by simpa using h3
    have e4 : decide (4096 < lin) = false := by simpa using h4
    have e5 : decide (mnI (mnI redo und) desc < 1) = false := by simpa using h5
    have e6 : decide (mnI que tab < 0) = true := by simpa using h6
    have hm1 : (if und < redo then und else redo) = mnI redo und := rfl
    have hm2 : (if desc < mnI redo und then desc else mnI redo und) = mnI (mnI redo und) desc := rfl
    have hm3 : (if tab < que then tab else que) = mnI que tab := rfl
    have hmx := fun (w : World) (ts : Array TypeId) (t : TypeId) => run_max5 (P := Tryd.prog) w ts t .i64 redo und desc que tab
    go_enter Tryd.func15, Tryd.ntmps15
    go_wp2_with fail
    go_ret
    exact ⟨ret_bool E.out.symm, below_alloc _ _⟩
  by_cases h7 : s.lin < mxI (mxI (mxI (mxI s.redo s.und) s.desc) s.que) s.tab
  · have E := Lib.hid (Sup.okB_false (s := s) (fun h => by (try simp only [mnI_eq, mxI_eq] at *); have := h.r2; have := h.u2; have := h.d2; have := h.q2; have := h.t2; omega))
    obtain ⟨ver, lin, redo, und, desc, que, tab, gen⟩ := s
    unfold Sup.cells
    simp only at h1 h2 h3 h4 h5 h6 h7
    have e1 : decide (ver < 1) = false := by simpa using h1
    have e2 : decide (65535 < ver) = false := by simpa using h2
    have e3 : decide (lin < 1) = false := by simpa using h3
    have e4 : decide (4096 < lin) = false := by simpa using h4
    have e5 : decide (mnI (mnI redo und) desc < 1) = false := by simpa using h5
    have e6 : decide (mnI que tab < 0) = false := by simpa using h6
    have e7 : decide (lin < mxI (mxI (mxI (mxI redo und) desc) que) tab) = true := by simpa using h7
    have hm1 : (if und < redo then und else redo) = mnI redo und := rfl
    have hm2 : (if desc < mnI redo und then desc else mnI redo und) = mnI (mnI redo und) desc := rfl
    have hm3 : (if tab < que then tab else que) = mnI que tab := rfl
    have hmx := fun (w : World) (ts : Array TypeId) (t : TypeId) => run_max5 (P := Tryd.prog) w ts t .i64 redo und desc que tab
    go_enter Tryd.func15, Tryd.ntmps15
    go_wp2_with fail
    go_ret
    exact ⟨ret_bool E.out.symm, below_alloc _ _⟩
  have k5 := h5; have k6 := h6; have k7 := h7
  simp only [mnI_eq, mxI_eq] at k5 k6 k7
  have HH := Lib.hid (fun wx => heap_any (w := wx) s (by omega) (by omega) (by omega) (by omega) (by omega) (by omega) (by omega) (by omega) (by omega) (by omega) (by omega) (by omega))
  have E : Hid (s.okB = decide (32 ≤ s.heap)) := by
    show s.okB = decide (32 ≤ s.heap)
    unfold Sup.okB
    rw [decide_eq_decide]
    constructor
    · intro h; have := h.h; unfold Sup.heap; rw [if_neg (by omega)]; omega
    · intro h
      refine ⟨by omega, by omega, by omega, by omega, by omega, by omega, by omega, by omega, by omega, by omega, by omega, by omega, by omega, by omega, ?_⟩
      unfold Sup.heap at h
      split at h <;> omega
  generalize hhp : s.heap = hp at *
  generalize s.okB = ob at *
  clear hhp k5 k6 k7
  obtain ⟨ver, lin, redo, und, desc, que, tab, gen⟩ := s
  unfold Sup.cells at *
  simp only at h1 h2 h3 h4 h5 h6 h7
  have e1 : decide (ver < 1) = false := by simpa using h1
  have e2 : decide (65535 < ver) = false := by simpa using h2
  have e3 : decide (lin < 1) = false := by simpa using h3
  have e4 : decide (4096 < lin) = false := by simpa using h4
  have e5 : decide (mnI (mnI redo und) desc < 1) = false := by simpa using h5
  have e6 : decide (mnI que tab < 0) = false := by simpa using h6
  have e7 : decide (lin < mxI (mxI (mxI (mxI redo und) desc) que) tab) = false := by simpa using h7
  have hm1 : (if und < redo then und else redo) = mnI redo und := rfl
  have hm2 : (if desc < mnI redo und then desc else mnI redo und) = mnI (mnI redo und) desc := rfl
  have hm3 : (if tab < que then tab else que) = mnI que tab := rfl
  have hmx := fun (w : World) (ts : Array TypeId) (t : TypeId) => run_max5 (P := Tryd.prog) w ts t .i64 redo und desc que tab
  go_enter Tryd.func15, Tryd.ntmps15
  go_wp2_with fail
  (with_reducible refine (HH.out _).mono ?_)
  rintro e w1 ⟨rfl, b1⟩
  have B1 := Lib.hid ((below_alloc w _).trans (b1.mono (by simp)))
  clear b1
  go_wp2_with fail
  go_ret
  exact ⟨ret_bool E.out.symm, B1.out⟩
end
end Go.Proofs.YtbpaamnofkhonaaDoor
