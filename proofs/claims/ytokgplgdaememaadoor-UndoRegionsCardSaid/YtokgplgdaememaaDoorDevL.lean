/- Current, Persisted and Off of a device; the words of its bytes. -/
import Derived.Test.YtokgplgdaememaaDoorDevK
import Derived.RegionTactic
import Derived.BigRegion
namespace Go.Proofs.YtokgplgdaememaaDoor
open Go.RowKit

section
variable {w : World} {v : DV} {own : Nat → Option Role} {D : Dev}
def BytesPost (w : World) (n : Nat) (f : Nat → Int) (r : Ending) (w' : World) : Prop :=
  r = .returned (.slice (some ⟨w.heap.size, 0, none⟩) (64 * n) (64 * n)) ∧ Row w' w.heap.size (64 * n) 5 (fun i => .int .u8 (byteAt f i)) ∧ Below w.heap.size w w'
set_option maxHeartbeats 400000 in
theorem current_any (h : IsDev w v own D) (hvb : D.VB) : Calls Tryd.prog 20 #[.pointer (some ⟨v.db, 0, none⟩)] w (BytesPost w D.n D.cur) := by
  have c1 : w.cell? ⟨v.db, 1, none⟩ = some (.slice (some ⟨v.cb, 0, none⟩) (8 * D.n) v.cc) := h.dev.cell rfl
  have HB := Lib.hid (bytesOf_at h.cur h.pcs.2 h.wf.pos h.wf.le hvb.cur)
  clear h hvb
  go_enter Tryd.func20, Tryd.ntmps20
  go_wp2_with fail
  (with_reducible refine HB.out.mono ?_)
  rintro e w1 ⟨rfl, r1, b1⟩
  have R1 := Lib.hid (And.intro r1 b1); clear r1 b1
  go_wp2_with fail
  go_ret
  exact ⟨rfl, R1.out⟩
set_option maxHeartbeats 400000 in
theorem persisted_any (h : IsDev w v own D) (hvb : D.VB) : Calls Tryd.prog 45 #[.pointer (some ⟨v.db, 0, none⟩)] w (BytesPost w D.n D.pers) := by
  have c1 : w.cell? ⟨v.db, 0, none⟩ = some (.slice (some ⟨v.pb, 0, none⟩) (8 * D.n) v.pc) := h.dev.cell rfl
  have HB := Lib.hid (bytesOf_at h.pers h.pcs.1 h.wf.pos h.wf.le hvb.pers)
  clear h hvb
  go_enter Tryd.func45, Tryd.ntmps45
  go_wp2_with fail
  (with_reducible refine HB.out.mono ?_)
  rintro e w1 ⟨rfl, r1, b1⟩
  have R1 := Lib.hid (And.intro r1 b1); clear r1 b1
  go_wp2_with fail
  go_ret
  exact ⟨rfl, R1.out⟩
set_option maxHeartbeats 400000 in
theorem devOff_any (h : IsDev w v own D) : Calls Tryd.prog 49 #[.pointer (some ⟨v.db, 0, none⟩)] w fun r w' => r = .returned (.bool D.off) ∧ w = w' := by
  have c1 : w.cell? ⟨v.db, 11, none⟩ = some (.bool D.off) := h.dev.cell rfl
  clear h
  generalize D.off = b at *
  go_enter Tryd.func49, Tryd.ntmps49
  go_wp2_with fail
  go_ret
  exact ⟨rfl, rfl⟩
def getL (f : Nat → Int) (k : Nat) : List Int := (List.range k).map f
theorem getL_len (f : Nat → Int) (k : Nat) : (getL f k).length = k := by simp [getL]
theorem row_rd {g n c : Nat} {t : TypeId} {f : Nat → Int} (h : Row w g n t (fun i => .int .u64 (f i))) (hc : n ≤ c) : RdSl w 1 (.slice (some ⟨g, 0, none⟩) n c) n (intsU (getL f n)) := by
  refine ⟨by simp [intsU, getL], _, _, rfl, hc, .inr ⟨g, 0, rfl, fun j u hu => ?_⟩⟩
  have hj : j < n := by
    rcases Nat.lt_or_ge j n with h | h
    · exact h
    · rw [List.getElem?_eq_none (by simp [intsU, getL]; exact h)] at hu; cases hu
  have : u = .int .u64 (f j) := by simp [intsU, getL, hj] at hu; exact hu.symm
  rw [this, Nat.zero_add]; exact h.cell hj
end
end Go.Proofs.YtokgplgdaememaaDoor
