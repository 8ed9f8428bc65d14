/- Current, Persisted and Off of a device; the words of its bytes. -/
import Derived.Test.YtbpaamnofkhonaaDoorDevK
import Derived.RegionTactic
import Derived.BigRegion
namespace Go.Proofs.YtbpaamnofkhonaaDoor
open Go.RowKit Go.Maps

section
variable {w : World} {v : DV} {own : Nat → Option Role} {D : Dev}
def BytesPost (w : World) (n : Nat) (f : Nat → Int) (r : Ending) (w' : World) : Prop :=
  r = .returned (.slice (some ⟨w.heap.size, 0, none⟩) (64 * n) (64 * n)) ∧ Row w' w.heap.size (64 * n) 5 (fun i => .int .u8 (byteAt f i)) ∧ Below w.heap.size w w'
set_option maxHeartbeats 400000 in
theorem current_any (h : IsDev w v own D) (hvb : D.VB) : Calls Tryd.prog 38 #[.pointer (some ⟨v.db, 0, none⟩)] w (BytesPost w D.n D.cur) := by
  have c1 : w.cell? ⟨v.db, 1, none⟩ = some (.slice (some ⟨v.cb, 0, none⟩) (8 * D.n) v.cc) := h.dev.cell rfl
  have HB := Lib.hid (bytesOf_at h.cur h.pcs.2 h.wf.pos h.wf.le hvb.cur)
  clear h hvb
  go_enter Tryd.func38, Tryd.ntmps38
  go_wp2_with fail
  (with_reducible refine HB.out.mono ?_)
  rintro e w1 ⟨rfl, r1, b1⟩
  have R1 := Lib.hid (And.intro r1 b1); clear r1 b1
  go_wp2_with fail
  go_ret
  exact ⟨rfl, R1.out⟩
set_option maxHeartbeats 400000 in
theorem persisted_any (h : IsDev w v own D) (hvb : D.VB) : Calls Tryd.prog 39 #[.pointer (some ⟨v.db, 0, none⟩)] w (BytesPost w D.n D.pers) := by
  have c1 : w.cell? ⟨v.db, 0, none⟩ = some (.slice (some ⟨v.pb, 0, none⟩) (8 * D.n) v.pc) := h.dev.cell rfl
  have HB := Lib.hid (bytesOf_at h.pers h.pcs.1 h.wf.pos h.wf.le hvb.pers)
  clear h hvb
  go_enter Tryd.func39, Tryd.ntmps39
  go_wp2_with fail
  (with_reducible refine HB.out.mono ?_)
  rintro e w1 ⟨rfl, r1, b1⟩
  have R1 := Lib.hid (And.intro r1 b1); clear r1 b1
  go_wp2_with fail
  go_ret
  exact ⟨rfl, R1.out⟩
set_option maxHeartbeats 400000 in
theorem arm_any (h : IsDev w v own D) (n : Nat) (hn : n ≤ 9223372036854775807) :
    Calls Tryd.prog 30 #[.pointer (some ⟨v.db, 0, none⟩), .int .i64 n] w fun r w' => r = .returned (.tuple #[]) ∧ DPost v own w (D.arm n) w' := by
  have c11 : w.cell? ⟨v.db, 11, none⟩ = some (.bool D.off) := h.dev.cell rfl
  have c12 : w.cell? ⟨v.db, 12, none⟩ = some (.bool D.armed) := h.dev.cell rfl
  have c13 : w.cell? ⟨v.db, 13, none⟩ = some (.int .i64 D.left) := h.dev.cell rfl
  have f12 := h.dev.frozen 12
  have f13 := h.dev.frozen 13
  have H := Lib.hid h; clear h
  have h0 : (0 : Int) ≤ n := by omega
  have hm : max (n : Int) 0 = n := by omega
  have ho : D.off = true ∨ D.off = false := by cases D.off <;> simp
  rcases ho with ho | ho
  · have Ho := Lib.hid ho
    rw [ho] at c11; clear ho
    go_enter Tryd.func30, Tryd.ntmps30
    go_wp2
    (try simp only [Exit.inBlock, Exit.then]); refine bodyPost_ret (results_none rfl _ _ _) rfl ?_
    refine ⟨rfl, ?_⟩
    simp only [Dev.arm, Ho.out, if_true]
    exact DPost.refl H.out
  · have Ho := Lib.hid ho
    rw [ho] at c11; clear ho
    go_enter Tryd.func30, Tryd.ntmps30
    go_wp2
    go_end0
    refine ⟨rfl, own, ?_, fun _ _ => rfl, ((Upd.refl _ _).setCell (p := ⟨v.db, 12, none⟩) (fun _ => by simp [H.out.odb]) _).setCell (p := ⟨v.db, 13, none⟩) (fun _ => by simp [H.out.odb]) _⟩
    unfold Dev.arm
    rw [if_neg (by simp [Ho.out])]
    have h1 := H.out.setDev 12 (.bool true) { D with armed := true } ⟨H.out.wf.pos, H.out.wf.le, H.out.wf.line, H.out.wf.cnt, H.out.wf.note, H.out.wf.left⟩ (by simp [devCells]) rfl rfl rfl rfl rfl rfl (Nat.le_refl _)
    exact h1.setDev 13 (.int .i64 n) { D with armed := true, left := n } ⟨H.out.wf.pos, H.out.wf.le, H.out.wf.line, H.out.wf.cnt, H.out.wf.note, hn⟩ (by simp [devCells]) rfl rfl rfl rfl rfl rfl (Nat.le_refl _)
def getL (f : Nat → Int) (k : Nat) : List Int := (List.range k).map f
theorem getL_len (f : Nat → Int) (k : Nat) : (getL f k).length = k := by simp [getL]
theorem row_rd {g n c : Nat} {t : TypeId} {f : Nat → Int} (h : Row w g n t (fun i => .int .u64 (f i))) (hc : n ≤ c) : RdSl w 1 (.slice (some ⟨g, 0, none⟩) n c) n (intsU (getL f n)) := by
  refine ⟨by simp [intsU, getL], _, _, rfl, hc, .inr ⟨g, 0, rfl, fun j u hu => ?_⟩⟩
  have hj : j < n := by
    rcases Nat.lt_or_ge j n with h | h
    · exact h
    · rw [List.getElem?_eq_none (by simp [intsU, getL]; exact h)] at hu; cases hu
  have : u = .int .u64 (f j) := by simp [intsU, getL, hj] at hu; exact hu.symm
  rw [this, Nat.zero_add]; exact h.cell hj
end
end Go.Proofs.YtbpaamnofkhonaaDoor
