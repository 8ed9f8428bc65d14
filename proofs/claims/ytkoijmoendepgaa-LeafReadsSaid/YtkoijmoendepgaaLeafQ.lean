/- Where a node cannot be read: read, Get, PlanPut, PlanDelete, Check, Len. -/
import Derived.Test.YtkoijmoendepgaaLeafO
namespace Go.Proofs.Ytkoijmoendepgaa
open Go.RowKit

def IsMem (m : Value) : Prop := m = .nilIface ∨ ∃ a, m = .iface 39 (.pointer (some a))
/-- Reading this node fails with error e, here and wherever nothing of here has changed. -/
def ReadErr (w : World) (m : Value) (p : Nat) (e : Int) : Prop :=
  ∀ w', Below w.heap.size w w' → Calls Try.prog 50 #[.agg #[m, .int .u64 p]] w' fun r w'' => r = .returned (.tuple #[.pointer none, .int .i64 e]) ∧ Below w'.heap.size w' w''

section
variable {w : World} {v : DV} {own : Nat → Option Role} {D : Dev} {j p : Nat}

theorem ReadErr.below {m : Value} {e : Int} {w1 : World} (h : ReadErr w m p e) (hb : Below w.heap.size w w1) : ReadErr w1 m p e := fun w' hw => h w' (hb.trans (hw.mono hb.size))
theorem ReadErr.alloc {m : Value} {e : Int} (h : ReadErr w m p e) (o : Obj) : ReadErr (w.alloc o) m p e := h.below (below_alloc w o)
theorem ReadErr.here {m : Value} {e : Int} (h : ReadErr w m p e) : Calls Try.prog 50 #[.agg #[m, .int .u64 p]] w fun r w'' => r = .returned (.tuple #[.pointer none, .int .i64 e]) ∧ Below w.heap.size w w'' := h w (Below.refl _ _)

set_option maxRecDepth 100000 in
set_option maxHeartbeats 1000000 in
theorem read_nil (w : World) (p : Nat) : ReadErr w .nilIface p 1 := by
  intro w' _
  go_enter Try.func50, Try.ntmps50
  go_wp2_with fail
  go_ret2
  exact ⟨rfl, below_alloc _ _⟩

set_option maxRecDepth 100000 in
set_option maxHeartbeats 1000000 in
theorem read_zero (w : World) (a : Addr) : ReadErr w (.iface 39 (.pointer (some a))) 0 1 := by
  intro w' _
  rw [show ((0 : Nat) : Int) = 0 from rfl]
  go_enter Try.func50, Try.ntmps50
  go_wp2_with fail
  go_ret2
  exact ⟨rfl, below_alloc _ _⟩

theorem IsDev.below {w' : World} (h : IsDev w v own D) (hb : Below w.heap.size w w') : IsDev w' v own D := h.kept hb.size (fun k hk => hb.block k (h.lt k hk))

set_option maxRecDepth 100000 in
set_option maxHeartbeats 1000000 in
theorem read_range (h : IsDev w v own D) (hj : j < 8) (hp : p < 18446744073709551616) (hp0 : 0 < p) (hr : 64 * D.n < ptrOff p + 224) : ReadErr w (.iface 39 (.pointer (some ⟨v.tb j, 0, none⟩))) p 2 := by
  intro w' hw
  have h := h.below hw
  clear hw
  have hn := h.wf.le
  have hp0' : ((p : Int) == 0) = false := by simp; omega
  have hm1 := meth_Size ⟨v.tb j, 0, none⟩
  have H := Lib.hid h; clear h
  have HP := Lib.hid (fun wx => ptrOff_any (w := wx) p hp)
  by_cases h1 : (D.n : Int) * 64 < 224
  · go_enter Try.func50, Try.ntmps50
    go_wp2_with fail
    (with_reducible refine (thrSize_any (H.out.alloc _) hj).mono ?_)
    rintro e w' ⟨rfl, rfl⟩
    go_wp2_with fail
    go_ret2
    exact ⟨rfl, below_alloc _ _⟩
  · have h2 : (D.n : Int) * 64 - 224 < (ptrOff p : Int) := by omega
    go_enter Try.func50, Try.ntmps50
    go_wp2_with fail
    (with_reducible refine (thrSize_any (H.out.alloc _) hj).mono ?_)
    rintro e w' ⟨rfl, rfl⟩
    go_wp2_with fail
    (with_reducible refine (HP.out _).mono ?_)
    rintro e w' ⟨rfl, rfl⟩
    go_wp2_with fail
    go_ret2
    exact ⟨rfl, below_alloc _ _⟩

set_option maxRecDepth 100000 in
set_option maxHeartbeats 1000000 in
theorem read_off (h : IsDev w v own D) (hj : j < 8) (hp : p < 18446744073709551616) (hp0 : 0 < p) (hr : ptrOff p + 224 ≤ 64 * D.n) (x : Int) (he : D.err j = x) (hx : x ≠ 0) : ReadErr w (.iface 39 (.pointer (some ⟨v.tb j, 0, none⟩))) p x := by
  intro w' hw
  have h := h.below hw
  clear hw
  have hn := h.wf.le
  have hp0' : ((p : Int) == 0) = false := by simp; omega
  have hm1 := meth_Size ⟨v.tb j, 0, none⟩; have hm2 := meth_Err ⟨v.tb j, 0, none⟩
  have H := Lib.hid h; clear h
  have HP := Lib.hid (fun wx => ptrOff_any (w := wx) p hp)
  have h1 : ¬ ((D.n : Int) * 64 < 224) := by omega
  have h2 : ¬ ((D.n : Int) * 64 - 224 < (ptrOff p : Int)) := by omega
  have herr : Calls Try.prog 24 #[.pointer (some ⟨v.tb j, 0, none⟩)] (w'.alloc (.cells #[.iface 39 (.pointer (some ⟨v.tb j, 0, none⟩)), .int .u64 p] 47)) fun r w2 => r = .returned (.int .i64 x) ∧ (w'.alloc (.cells #[.iface 39 (.pointer (some ⟨v.tb j, 0, none⟩)), .int .u64 p] 47)) = w2 := by
    have := err_any (H.out.alloc (.cells #[.iface 39 (.pointer (some ⟨v.tb j, 0, none⟩)), .int .u64 p] 47)) hj; rw [he] at this; exact this
  have HR := Lib.hid herr; clear herr he
  have hxb : (x != 0) = true := by simpa using hx
  go_enter Try.func50, Try.ntmps50
  go_wp2_with fail
  (with_reducible refine (thrSize_any (H.out.alloc _) hj).mono ?_)
  rintro e w' ⟨rfl, rfl⟩
  go_wp2_with fail
  (with_reducible refine (HP.out _).mono ?_)
  rintro e w' ⟨rfl, rfl⟩
  go_wp2_with fail
  (with_reducible refine HR.out.mono ?_)
  rintro e w' ⟨rfl, rfl⟩
  go_wp2_with fail
  go_ret2
  exact ⟨rfl, below_alloc _ _⟩

theorem below_err {o : Obj} {w1 : World} (hb : Below (w.alloc o).heap.size (w.alloc o) w1) : Below w.heap.size w w1 := (below_alloc w o).trans (hb.mono (by simp))

set_option maxRecDepth 100000 in
set_option maxHeartbeats 1000000 in
theorem check_err {m : Value} {e : Int} (h : ReadErr w m p e) (hm : IsMem m) (_he : e ≠ 0) : Calls Try.prog 20 #[.agg #[m, .int .u64 p]] w fun r w' => r = .returned (.int .i64 e) ∧ Below w.heap.size w w' := by
  have H := Lib.hid h; clear h
  rcases hm with rfl | ⟨a, rfl⟩
  all_goals
    go_enter Try.func20, Try.ntmps20
    go_wp2_with fail
    (with_reducible refine (H.out.alloc _).here.mono ?_)
    rintro r w1 ⟨rfl, hb⟩
    have HB := Lib.hid hb; clear hb
    go_wp2_with fail
    go_ret
    exact ⟨rfl, below_err HB.out⟩

set_option maxRecDepth 100000 in
set_option maxHeartbeats 1000000 in
theorem len_err {m : Value} {e : Int} (h : ReadErr w m p e) (hm : IsMem m) (he : e ≠ 0) : Calls Try.prog 21 #[.agg #[m, .int .u64 p]] w fun r w' => r = .returned (.int .i64 0) ∧ Below w.heap.size w w' := by
  have H := Lib.hid h; clear h
  have hb : (e != 0) = true := by simpa using he
  rcases hm with rfl | ⟨a, rfl⟩
  all_goals
    go_enter Try.func21, Try.ntmps21
    go_wp2_with fail
    (with_reducible refine (H.out.alloc _).here.mono ?_)
    rintro r w1 ⟨rfl, hb⟩
    have HB := Lib.hid hb; clear hb
    go_wp2_with fail
    go_ret
    exact ⟨rfl, below_err HB.out⟩

set_option maxRecDepth 100000 in
set_option maxHeartbeats 1000000 in
theorem get_err {m : Value} {e : Int} (h : ReadErr w m p e) (hm : IsMem m) (he : e ≠ 0) (k : Int) : Calls Try.prog 18 #[.agg #[m, .int .u64 p], .int .u64 k] w fun r w' => r = .returned (.tuple #[.int .u64 0, .int .i64 e]) ∧ Below w.heap.size w w' := by
  have H := Lib.hid h; clear h
  have hb : (e != 0) = true := by simpa using he
  rcases hm with rfl | ⟨a, rfl⟩
  all_goals
    go_enter Try.func18, Try.ntmps18
    go_wp2_with fail
    (with_reducible refine (H.out.alloc _).here.mono ?_)
    rintro r w1 ⟨rfl, hb⟩
    have HB := Lib.hid hb; clear hb
    go_wp2_with fail
    go_ret2
    exact ⟨rfl, below_err HB.out⟩

set_option maxRecDepth 100000 in
set_option maxHeartbeats 1000000 in
theorem planPut_err {m : Value} {e : Int} (h : ReadErr w m p e) (hm : IsMem m) (he : e ≠ 0) (k x : Int) : Calls Try.prog 19 #[.agg #[m, .int .u64 p], .int .u64 k, .int .u64 x] w fun r w' => r = .returned (.tuple #[.slice none 0 0, .int .i64 e]) ∧ Below w.heap.size w w' := by
  have H := Lib.hid h; clear h
  have hb : (e != 0) = true := by simpa using he
  rcases hm with rfl | ⟨a, rfl⟩
  all_goals
    go_enter Try.func19, Try.ntmps19
    go_wp2_with fail
    (with_reducible refine (H.out.alloc _).here.mono ?_)
    rintro r w1 ⟨rfl, hb⟩
    have HB := Lib.hid hb; clear hb
    go_wp2_with fail
    go_ret2
    exact ⟨rfl, below_err HB.out⟩

set_option maxRecDepth 100000 in
set_option maxHeartbeats 1000000 in
theorem planDelete_err {m : Value} {e : Int} (h : ReadErr w m p e) (hm : IsMem m) (he : e ≠ 0) (k : Int) : Calls Try.prog 22 #[.agg #[m, .int .u64 p], .int .u64 k] w fun r w' => r = .returned (.tuple #[.slice none 0 0, .int .i64 e]) ∧ Below w.heap.size w w' := by
  have H := Lib.hid h; clear h
  have hb : (e != 0) = true := by simpa using he
  rcases hm with rfl | ⟨a, rfl⟩
  all_goals
    go_enter Try.func22, Try.ntmps22
    go_wp2_with fail
    (with_reducible refine (H.out.alloc _).here.mono ?_)
    rintro r w1 ⟨rfl, hb⟩
    have HB := Lib.hid hb; clear hb
    go_wp2_with fail
    go_ret2
    exact ⟨rfl, below_err HB.out⟩
end
end Go.Proofs.Ytkoijmoendepgaa
