/- The walks of the device's instructions: Err, Size, Thread, Load, Arm, Store. -/
import Derived.Test.YtbpaamnofkhonaaDoorDevA
namespace Go.Proofs.YtbpaamnofkhonaaDoor
open Go.RowKit Go.Maps

section
variable {w : World} {v : DV} {own : Nat → Option Role} {D : Dev}

set_option maxHeartbeats 400000 in
theorem err_any (h : IsDev w v own D) {j : Nat} (hj : j < 8) :
    Calls Tryd.prog 120 #[.pointer (some ⟨v.tb j, 0, none⟩)] w fun r w' => r = .returned (.int .i64 (D.err j)) ∧ w = w' := by
  have c0 : w.cell? ⟨v.tb j, 0, none⟩ = some (.pointer (some ⟨v.db, 0, none⟩)) := (h.thr j hj).cell rfl
  have c2 : w.cell? ⟨v.tb j, 2, none⟩ = some (.int .i64 (D.err j)) := (h.thr j hj).cell rfl
  clear h
  go_enter Tryd.func120, Tryd.ntmps120
  go_wp2
  go_ret
  exact ⟨rfl, rfl⟩

set_option maxHeartbeats 400000 in
theorem thrSize_any (h : IsDev w v own D) {j : Nat} (hj : j < 8) :
    Calls Tryd.prog 123 #[.pointer (some ⟨v.tb j, 0, none⟩)] w fun r w' => r = .returned (.int .u64 (D.n * 64)) ∧ w = w' := by
  have c0 : w.cell? ⟨v.tb j, 0, none⟩ = some (.pointer (some ⟨v.db, 0, none⟩)) := (h.thr j hj).cell rfl
  have H := Lib.hid h; clear h
  go_enter Tryd.func123, Tryd.ntmps123
  go_wp2_with (go_at_call 118; refine (size_any H.out).mono ?_; rintro e w' ⟨rfl, rfl⟩)
  go_ret
  exact ⟨rfl, rfl⟩

set_option maxHeartbeats 400000 in
theorem thread_any (h : IsDev w v own D) {j : Nat} (hj : j < 8) :
    Calls Tryd.prog 20 #[.pointer (some ⟨v.db, 0, none⟩), .int .i64 j] w fun r w' => r = .returned (.pointer (some ⟨v.tb j, 0, none⟩)) ∧ w = w' := by
  have c0 : w.cell? ⟨v.db, 3 + j, none⟩ = some (.pointer (some ⟨v.tb j, 0, none⟩)) := h.dev.cell (devCells_thr v D j hj)
  have h1 : ¬ (j : Int) < 0 := by omega
  have h2 : ¬ (8 : Int) ≤ j := by omega
  clear h
  go_enter Tryd.func20, Tryd.ntmps20
  go_wp2
  go_ret
  exact ⟨rfl, rfl⟩

theorem cur_at (h : IsDev w v own D) {k : Nat} (hk : k < 8 * D.n) : w.cell? ⟨v.cb, k, none⟩ = some (.int .u64 (D.cur k)) := h.cur.cell hk

set_option maxHeartbeats 400000 in
theorem load_any (h : IsDev w v own D) {j : Nat} (hj : j < 8) (off : Nat) :
    Calls Tryd.prog 122 #[.pointer (some ⟨v.tb j, 0, none⟩), .int .u64 off] w fun r w' => r = .returned (.int .u64 (D.loadV off)) ∧ DPost v own w (D.loadD j off) w' := by
  have c0 : w.cell? ⟨v.tb j, 0, none⟩ = some (.pointer (some ⟨v.db, 0, none⟩)) := (h.thr j hj).cell rfl
  have c1 : w.cell? ⟨v.db, 1, none⟩ = some (.slice (some ⟨v.cb, 0, none⟩) (8 * D.n) v.cc) := h.dev.cell rfl
  have hn := h.wf.le
  by_cases hon : D.onB (D.wordB off) = true
  · have h2 : D.off = false ∧ D.wordB off = true := by simpa [Dev.onB] using hon
    have h3 : off % 8 = 0 ∧ off < 64 * D.n := by simpa [Dev.wordB] using h2.2
    have ck : w.cell? ⟨v.cb, off / 8, none⟩ = some (.int .u64 (D.cur (off / 8))) := cur_at h (by omega)
    have hw : ((off : Int) / 8) < (8 * D.n : Nat) := by omega
    have H := Lib.hid h; have Hon := Lib.hid hon; have H2 := Lib.hid h2; clear h hon h2
    go_enter Tryd.func122, Tryd.ntmps122
    go_wp2_with (first | (go_at_call 125; refine (word_any H.out hj off).mono ?_; rintro e w' ⟨rfl, rfl⟩; rw [H2.out.2]) | (go_at_call 73; refine (on_yes H.out hj H2.out.1).mono ?_; rintro e w' ⟨rfl, rfl⟩))
    go_ret
    refine ⟨?_, ?_⟩
    · simp only [Dev.loadV, Hon.out, if_true]; rfl
    · simp only [Dev.loadD, Dev.onD, H2.out.1, H2.out.2, if_true, if_false, Bool.false_eq_true]; exact DPost.refl H.out
  · have hf : D.onB (D.wordB off) = false := by simpa using hon
    have H := Lib.hid h; have Hf := Lib.hid hf; clear h hon hf
    go_enter Tryd.func122, Tryd.ntmps122
    go_wp2_with (first | (go_at_call 125; refine (word_any H.out hj off).mono ?_; rintro e w' ⟨rfl, rfl⟩) | (go_at_call 73; refine (on_no H.out hj _ Hf.out).mono ?_; rintro e w' ⟨rfl, hp⟩; have Hp := Lib.hid hp; clear hp))
    go_ret
    refine ⟨?_, ?_⟩
    · simp only [Dev.loadV, Hf.out, if_false, Bool.false_eq_true]; rfl
    · exact Hp.out
end
end Go.Proofs.YtbpaamnofkhonaaDoor
