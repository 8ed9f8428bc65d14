/- The walks of a bucket's calls where its words cannot be read; Get and Count on a device that is on. -/
import Derived.Test.YtpkilmnppdbnkaaBkB
import Derived.Test.YtpkilmnppdbnkaaBkL
namespace Go.Proofs.Ytpkilmnppdbnkaa
open Go.RowKit

def IsMem31 (m : Value) : Prop := m = .nilIface ∨ ∃ a, m = .iface 56 (.pointer (some a))
/-- check answers e, here and wherever nothing of here has changed. -/
structure BErr (w : World) (m : Value) (off : Nat) (e : Int) : Prop where
  chk : ∀ w', Below w.heap.size w w' → Calls Try.prog 40 #[.agg #[m, .int .u64 off]] w' fun r w'' => r = .returned (.int .i64 e) ∧ Below w'.heap.size w' w''
section
variable {w : World} {v : DV} {own : Nat → Option Role} {D : Dev}
theorem BErr.below {m : Value} {off : Nat} {e : Int} {w1 : World} (h : BErr w m off e) (hb : Below w.heap.size w w1) : BErr w1 m off e := ⟨fun w' hw => h.chk w' (hb.trans (hw.mono hb.size))⟩
theorem BErr.alloc {m : Value} {off : Nat} {e : Int} (h : BErr w m off e) (o : Obj) : BErr (w.alloc o) m off e := h.below (below_alloc w o)
theorem BErr.here {m : Value} {off : Nat} {e : Int} (h : BErr w m off e) : Calls Try.prog 40 #[.agg #[m, .int .u64 off]] w fun r w'' => r = .returned (.int .i64 e) ∧ Below w.heap.size w w'' := h.chk w (Below.refl _ _)
theorem below_err31 {o : Obj} {w1 : World} (hb : Below (w.alloc o).heap.size (w.alloc o) w1) : Below w.heap.size w w1 := (below_alloc w o).trans (hb.mono (by simp))
theorem check31_nil (w : World) (off : Nat) : BErr w .nilIface off 1 := ⟨fun w' _ => by
  go_enter Try.func40, Try.ntmps40
  go_wp2_with fail
  go_ret
  exact ⟨rfl, below_alloc _ _⟩⟩
theorem check31_bad (h : IsDev w v own D) (off : Nat) (ho : off < 18446744073709551616) (hbad : ¬ (off % 8 = 0 ∧ off + 128 ≤ 64 * D.n)) : BErr w (.iface 56 (.pointer (some ⟨v.tb 0, 0, none⟩))) off 1 := ⟨fun w' hw => by
  have hm1 := meth_Size ⟨v.tb 0, 0, none⟩
  have HT := Lib.hid (fun wx (hx : IsDev wx v own D) => thrSize_any hx (j := 0) (by omega))
  have H := Lib.hid (h.below hw)
  have hn := h.wf.le
  clear h hw
  by_cases h8 : off % 8 = 0
  · have e1 : (off : Int) % 8 = 0 := by omega
    by_cases h2 : D.n < 2
    · have e2 : (D.n : Int) * 64 < 128 := by omega
      clear hbad h8 h2
      go_enter Try.func40, Try.ntmps40
      go_wp2_with fail
      (with_reducible refine (HT.out _ (H.out.alloc _)).mono ?_)
      rintro e w' ⟨rfl, rfl⟩
      go_wp2_with fail
      go_ret
      exact ⟨rfl, below_alloc _ _⟩
    · have e2 : ¬ (D.n : Int) * 64 < 128 := by omega
      have e3 : IntKind.u64.wrap ((D.n : Int) * 64 - 128) = (D.n : Int) * 64 - 128 := IntWalk.u64_in _ (by omega)
      have e4 : (D.n : Int) * 64 - 128 < (off : Int) := by omega
      clear hbad h8 h2
      go_enter Try.func40, Try.ntmps40
      go_wp2_with fail
      (with_reducible refine (HT.out _ (H.out.alloc _)).mono ?_)
      rintro e w' ⟨rfl, rfl⟩
      go_wp2_with fail
      go_ret
      exact ⟨rfl, below_alloc _ _⟩
  · have e1 : ¬ (off : Int) % 8 = 0 := by omega
    clear hbad h8
    go_enter Try.func40, Try.ntmps40
    go_wp2_with fail
    go_ret
    exact ⟨rfl, below_alloc _ _⟩⟩
theorem check31_err (h : IsDev w v own D) (off : Nat) (h8 : off % 8 = 0) (hl : off + 128 ≤ 64 * D.n) {e : Int} (he : D.err 0 = e) : BErr w (.iface 56 (.pointer (some ⟨v.tb 0, 0, none⟩))) off e := ⟨fun w' hw => by
  have := check31_ok (h.below hw) off h8 hl
  rw [he] at this
  exact this⟩
theorem find31_err {m : Value} {off : Nat} {e : Int} (h : BErr w m off e) (hm : IsMem31 m) (he : e ≠ 0) (k : Int) : Calls Try.prog 38 #[.agg #[m, .int .u64 off], .int .u64 k] w fun r w' => r = .returned (.tuple #[.int .u64 0, .int .i64 (-1), .int .i64 e]) ∧ Below w.heap.size w w' := by
  have H := Lib.hid h; clear h
  have hb : (e != 0) = true := by simpa using he
  rcases hm with rfl | ⟨a, rfl⟩
  all_goals
    go_enter Try.func38, Try.ntmps38
    go_wp2_with fail
    (with_reducible refine (H.out.alloc _).here.mono ?_)
    rintro r w1 ⟨rfl, hb1⟩
    have HB := Lib.hid hb1; clear hb1
    go_wp2_with fail
    go_ret3
    exact ⟨rfl, below_err31 HB.out⟩
theorem get31_err {m : Value} {off : Nat} {e : Int} (h : BErr w m off e) (hm : IsMem31 m) (he : e ≠ 0) (k : Int) : Calls Try.prog 12 #[.agg #[m, .int .u64 off], .int .u64 k] w fun r w' => r = .returned (.tuple #[.int .u64 0, .int .i64 e]) ∧ Below w.heap.size w w' := by
  have H := Lib.hid (fun wx (hx : BErr wx m off e) => find31_err hx hm he k)
  have HE := Lib.hid h; clear h
  have hb : (e != 0) = true := by simpa using he
  rcases hm with rfl | ⟨a, rfl⟩
  all_goals
    go_enter Try.func12, Try.ntmps12
    go_wp2_with fail
    (with_reducible refine (H.out _ (HE.out.alloc _)).mono ?_)
    rintro r w1 ⟨rfl, hb1⟩
    have HB := Lib.hid hb1; clear hb1
    go_wp2_with fail
    go_ret2
    exact ⟨rfl, below_err31 HB.out⟩
theorem planPut31_err {m : Value} {off : Nat} {e : Int} (h : BErr w m off e) (hm : IsMem31 m) (he : e ≠ 0) (k x : Int) : Calls Try.prog 15 #[.agg #[m, .int .u64 off], .int .u64 k, .int .u64 x] w fun r w' => r = .returned (.tuple #[.slice none 0 0, .int .i64 e]) ∧ Below w.heap.size w w' := by
  have H := Lib.hid (fun wx (hx : BErr wx m off e) => find31_err hx hm he k)
  have HE := Lib.hid h; clear h
  have hb : (e != 0) = true := by simpa using he
  rcases hm with rfl | ⟨a, rfl⟩
  all_goals
    go_enter Try.func15, Try.ntmps15
    go_wp2_with fail
    (with_reducible refine (H.out _ (HE.out.alloc _)).mono ?_)
    rintro r w1 ⟨rfl, hb1⟩
    have HB := Lib.hid hb1; clear hb1
    go_wp2_with fail
    go_ret2
    exact ⟨rfl, below_err31 HB.out⟩
theorem planDel31_err {m : Value} {off : Nat} {e : Int} (h : BErr w m off e) (hm : IsMem31 m) (he : e ≠ 0) (k : Int) : Calls Try.prog 16 #[.agg #[m, .int .u64 off], .int .u64 k] w fun r w' => r = .returned (.tuple #[.slice none 0 0, .int .i64 e]) ∧ Below w.heap.size w w' := by
  have H := Lib.hid (fun wx (hx : BErr wx m off e) => find31_err hx hm he k)
  have HE := Lib.hid h; clear h
  have hb : (e != 0) = true := by simpa using he
  rcases hm with rfl | ⟨a, rfl⟩
  all_goals
    go_enter Try.func16, Try.ntmps16
    go_wp2_with fail
    (with_reducible refine (H.out _ (HE.out.alloc _)).mono ?_)
    rintro r w1 ⟨rfl, hb1⟩
    have HB := Lib.hid hb1; clear hb1
    go_wp2_with fail
    go_ret2
    exact ⟨rfl, below_err31 HB.out⟩
theorem put31_err {m : Value} {off : Nat} {e : Int} (h : BErr w m off e) (hm : IsMem31 m) (he : e ≠ 0) (k x : Int) : Calls Try.prog 11 #[.agg #[m, .int .u64 off], .int .u64 k, .int .u64 x] w fun r w' => r = .returned (.int .i64 e) ∧ Below w.heap.size w w' := by
  have H := Lib.hid (fun wx (hx : BErr wx m off e) => planPut31_err hx hm he k x)
  have HE := Lib.hid h; clear h
  have hb : (e != 0) = true := by simpa using he
  rcases hm with rfl | ⟨a, rfl⟩
  all_goals
    go_enter Try.func11, Try.ntmps11
    go_wp2_with fail
    (with_reducible refine (H.out _ (HE.out.alloc _)).mono ?_)
    rintro r w1 ⟨rfl, hb1⟩
    have HB := Lib.hid hb1; clear hb1
    go_wp2_with fail
    go_ret
    exact ⟨rfl, below_err31 HB.out⟩
theorem del31_err {m : Value} {off : Nat} {e : Int} (h : BErr w m off e) (hm : IsMem31 m) (he : e ≠ 0) (k : Int) : Calls Try.prog 10 #[.agg #[m, .int .u64 off], .int .u64 k] w fun r w' => r = .returned (.int .i64 e) ∧ Below w.heap.size w w' := by
  have H := Lib.hid (fun wx (hx : BErr wx m off e) => planDel31_err hx hm he k)
  have HE := Lib.hid h; clear h
  have hb : (e != 0) = true := by simpa using he
  rcases hm with rfl | ⟨a, rfl⟩
  all_goals
    go_enter Try.func10, Try.ntmps10
    go_wp2_with fail
    (with_reducible refine (H.out _ (HE.out.alloc _)).mono ?_)
    rintro r w1 ⟨rfl, hb1⟩
    have HB := Lib.hid hb1; clear hb1
    go_wp2_with fail
    go_ret
    exact ⟨rfl, below_err31 HB.out⟩
theorem count31_err {m : Value} {off : Nat} {e : Int} (h : BErr w m off e) (hm : IsMem31 m) (he : e ≠ 0) : Calls Try.prog 13 #[.agg #[m, .int .u64 off]] w fun r w' => r = .returned (.int .i64 0) ∧ Below w.heap.size w w' := by
  have H := Lib.hid h; clear h
  have hb : (e != 0) = true := by simpa using he
  rcases hm with rfl | ⟨a, rfl⟩
  all_goals
    go_enter Try.func13, Try.ntmps13
    go_wp2_with fail
    (with_reducible refine (H.out.alloc _).here.mono ?_)
    rintro r w1 ⟨rfl, hb1⟩
    have HB := Lib.hid hb1; clear hb1
    go_wp2_with fail
    go_ret
    exact ⟨rfl, below_err31 HB.out⟩
end
end Go.Proofs.Ytpkilmnppdbnkaa
