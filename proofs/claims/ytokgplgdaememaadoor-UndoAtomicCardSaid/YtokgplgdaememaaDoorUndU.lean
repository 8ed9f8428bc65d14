/- The walks of the undo log's small functions over a device that is on. -/
import Derived.Test.YtokgplgdaememaaDoorGen
import Derived.Test.YtokgplgdaememaaDoorMemA
import Derived.Test.YtokgplgdaememaaDoorThenU
namespace Go.Proofs.YtokgplgdaememaaDoor
open Go.RowKit

/-- A handle of the log of n lines from off on, over thread j of the device. -/
structure LogAt (w : World) (v : DV) (own : Nat → Option Role) (D : Dev) (lb j off n : Nat) : Prop where
  dev : IsDev w v own D
  blk : Blk w lb #[.iface 32 (.pointer (some ⟨v.tb j, 0, none⟩)), .int .u64 off, .int .i64 n] 108
  ob : own lb = none
  hj : j < 8
  n2 : 2 ≤ n
  o64 : off % 64 = 0
  fit : off + 64 * n ≤ 64 * D.n

def allowedB (size off n o : Nat) : Bool := decide (o % 8 = 0 ∧ o < size ∧ (o < off ∨ off + 64 * n ≤ o))

section
variable {w : World} {v : DV} {own : Nat → Option Role} {D : Dev} {lb j off n : Nat}
theorem LogAt.below {w' : World} (h : LogAt w v own D lb j off n) (hb : Below w.heap.size w w') : LogAt w' v own D lb j off n := ⟨h.dev.below hb, h.blk.below hb, h.ob, h.hj, h.n2, h.o64, h.fit⟩
theorem LogAt.alloc (h : LogAt w v own D lb j off n) (o : Obj) : LogAt (w.alloc o) v own D lb j off n := h.below (below_alloc w o)
theorem LogAt.drew (h : LogAt w v own D lb j off n) : LogAt w.drew v own D lb j off n := h.below ((Below.refl _ _).drew)
theorem LogAt.c0 (h : LogAt w v own D lb j off n) : w.cell? ⟨lb, 0, none⟩ = some (.iface 32 (.pointer (some ⟨v.tb j, 0, none⟩))) := h.blk.cell rfl
theorem LogAt.c1 (h : LogAt w v own D lb j off n) : w.cell? ⟨lb, 1, none⟩ = some (.int .u64 off) := h.blk.cell rfl
theorem LogAt.c2 (h : LogAt w v own D lb j off n) : w.cell? ⟨lb, 2, none⟩ = some (.int .i64 n) := h.blk.cell rfl
theorem LogAt.bd (h : LogAt w v own D lb j off n) : off + 64 * n ≤ 262144 ∧ D.n ≤ 4096 := by have := h.dev.wf.le; have := h.fit; omega

set_option maxHeartbeats 400000 in
theorem unone_any (h : LogAt w v own D lb j off n) : Calls Tryd.prog 55 #[.pointer (some ⟨lb, 0, none⟩)] w fun r w' => r = .returned (.bool false) ∧ w = w' := by
  have c0 := h.c0
  clear h
  go_enter Tryd.func55, Tryd.ntmps55
  go_wp2
  go_ret
  exact ⟨rfl, rfl⟩
set_option maxHeartbeats 400000 in
theorem unone_nil : Calls Tryd.prog 55 #[.pointer none] w fun r w' => r = .returned (.bool true) ∧ w = w' := by
  go_enter Tryd.func55, Tryd.ntmps55
  go_wp2
  go_ret
  exact ⟨rfl, rfl⟩
set_option maxHeartbeats 400000 in
theorem ucap_any (h : LogAt w v own D lb j off n) : Calls Tryd.prog 17 #[.pointer (some ⟨lb, 0, none⟩)] w fun r w' => r = .returned (.int .i64 ((4 * (n - 1) : Nat) : Int)) ∧ w = w' := by
  have c2 := h.c2
  have hb := h.bd; have h2 := h.n2
  have HN := Lib.hid (unone_any h)
  have e : (4 : Int) * ((n : Int) - 1) = ((4 * (n - 1) : Nat) : Int) := by omega
  have E := Lib.hid e
  clear h e
  go_enter Tryd.func17, Tryd.ntmps17
  go_wp2_with fail
  (with_reducible refine HN.out.mono ?_)
  rintro e w' ⟨rfl, rfl⟩
  go_wp2_with fail
  go_ret
  exact ⟨ret_int E.out, rfl⟩
set_option maxHeartbeats 400000 in
theorem uentryOff_any (h : LogAt w v own D lb j off n) (i : Nat) (hi : i ≤ 100000) : Calls Tryd.prog 67 #[.pointer (some ⟨lb, 0, none⟩), .int .i64 i] w fun r w' => r = .returned (.int .u64 ((off + 64 + 16 * i : Nat) : Int)) ∧ w = w' := by
  have c1 := h.c1
  have hb := h.bd
  clear h
  go_enter Tryd.func67, Tryd.ntmps67
  go_wp2_with fail
  go_ret
  exact ⟨ret_int (by omega), rfl⟩
set_option maxRecDepth 100000 in
set_option maxHeartbeats 1000000 in
theorem uallowed_any (h : LogAt w v own D lb j off n) (o : Nat) (ho : o < 18446744073709551616) :
    Calls Tryd.prog 68 #[.pointer (some ⟨lb, 0, none⟩), .int .u64 o] w fun r w' => r = .returned (.bool (allowedB (64 * D.n) off n o)) ∧ Below w.heap.size w w' := by
  have c0 := h.c0; have c1 := h.c1; have c2 := h.c2
  have hb := h.bd
  have hm1 := meth_Size ⟨v.tb j, 0, none⟩
  have HT := Lib.hid (thrSize_any h.dev h.hj)
  have hres : ∀ b, b = allowedB (64 * D.n) off n o → Ending.returned (.bool b) = .returned (.bool (allowedB (64 * D.n) off n o)) := fun b e => by rw [e]
  have HR := Lib.hid hres; clear hres
  clear h
  by_cases h8 : o % 8 = 0
  · have b8 : (((o : Int) % 8) != 0) = false := by simp; omega
    by_cases hs : o < 64 * D.n
    · have hs' : ¬ ((D.n : Int) * 64 ≤ (o : Int)) := by omega
      by_cases hl : o < off
      · have hl' : (o : Int) < off := by omega
        go_enter Tryd.func68, Tryd.ntmps68
        go_wp2_with fail
        (with_reducible refine HT.out.mono ?_)
        rintro e w' ⟨rfl, rfl⟩
        go_wp2_with fail
        go_quiet (fail)
        go_wp2_with fail
        go_ret
        exact ⟨HR.out _ (by unfold allowedB; simp [h8, hs, hl]), (Qt.drewN w _).below⟩
      · have hl' : ¬ (o : Int) < off := by omega
        have hl2 : (off : Int) ≤ o := by omega
        go_enter Tryd.func68, Tryd.ntmps68
        go_wp2_with fail
        (with_reducible refine HT.out.mono ?_)
        rintro e w' ⟨rfl, rfl⟩
        go_wp2_with fail
        go_quiet (fail)
        go_wp2_with fail
        go_ret
        exact ⟨HR.out _ (by unfold allowedB; rw [decide_eq_decide]; omega), (Qt.drewN w _).below⟩
    · have hs' : (D.n : Int) * 64 ≤ (o : Int) := by omega
      go_enter Tryd.func68, Tryd.ntmps68
      go_wp2_with fail
      (with_reducible refine HT.out.mono ?_)
      rintro e w' ⟨rfl, rfl⟩
      go_wp2_with fail
      go_ret
      exact ⟨HR.out _ (by unfold allowedB; simp [hs]), Below.refl _ _⟩
  · have b8 : (((o : Int) % 8) != 0) = true := by simp; omega
    go_enter Tryd.func68, Tryd.ntmps68
    go_wp2_with fail
    go_ret
    exact ⟨HR.out _ (by unfold allowedB; simp [h8]), Below.refl _ _⟩
end
end Go.Proofs.YtokgplgdaememaaDoor
