/- The walks of a pointer's validity, of Nil and Make (as in the texts of the leaf). -/
import Derived.Test.YtmfchlliechikaaGreatDoorRtA
import Derived.Test.YtmfchlliechikaaGreatDoorDevA
import Derived.Laws.Bits64b
namespace Go.Proofs.YtmfchlliechikaaGreatDoor
open Go.RowKit

def ptrOff (p : Nat) : Nat := p % 4294967296 * 8
def ptrGen (p : Nat) : Nat := p / 4294967296 % 65536
def ptrKind (p : Nat) : Nat := p / 281474976710656 % 256
def ptrFormed (p : Nat) : Bool := decide (p / 72057594037927936 = 0 ∧ ptrOff p ≠ 0 ∧ ptrGen p ≠ 0 ∧ ptrKind p ≠ 0 ∧ ptrKind p ≤ 127)
def ptrValid (p size : Nat) : Bool := ptrFormed p && decide (ptrOff p < size)

theorem ptrValid_B (p sz : Nat) : ptrValid p sz = ptrB p sz := by
  unfold ptrValid ptrFormed ptrB ptrOff ptrGen ptrKind
  rw [Bool.eq_iff_iff]
  simp only [Bool.and_eq_true, decide_eq_true_eq]
  omega
section
variable {w : World}
set_option maxRecDepth 100000 in
set_option maxHeartbeats 1000000 in
theorem ptrOff_any (p : Nat) (_hp : p < 18446744073709551616) : Calls Tryz.prog 88 #[.int .u64 p] w fun r w' => r = .returned (.int .u64 (ptrOff p)) ∧ w = w' := by
  go_enter Tryz.func88, Tryz.ntmps88
  go_wp2
  go_ret
  exact ⟨ret_int (by unfold ptrOff; omega), rfl⟩
set_option maxRecDepth 100000 in
set_option maxHeartbeats 1000000 in
theorem gen_any (p : Nat) (_hp : p < 18446744073709551616) : Calls Tryz.prog 104 #[.int .u64 p] w fun r w' => r = .returned (.int .u16 (ptrGen p)) ∧ w = w' := by
  go_enter Tryz.func104, Tryz.ntmps104
  go_wp2
  go_ret
  refine ⟨ret_int ?_, rfl⟩
  unfold ptrGen
  first | omega | (rw [IntKind.wrap_u16]; omega)

set_option maxRecDepth 100000 in
set_option maxHeartbeats 1000000 in
theorem kind_any (p : Nat) (_hp : p < 18446744073709551616) : Calls Tryz.prog 105 #[.int .u64 p] w fun r w' => r = .returned (.int .u8 (ptrKind p)) ∧ w = w' := by
  go_enter Tryz.func105, Tryz.ntmps105
  go_wp2
  go_ret
  refine ⟨ret_int ?_, rfl⟩
  unfold ptrKind
  first | omega | (rw [IntKind.wrap_u8']; omega)

set_option maxRecDepth 100000 in
set_option maxHeartbeats 1000000 in
theorem formed_any (p : Nat) (hp : p < 18446744073709551616) : Calls Tryz.prog 87 #[.int .u64 p] w fun r w' => r = .returned (.bool (ptrFormed p)) ∧ w = w' := by
  have HO := Lib.hid (ptrOff_any (w := w) p hp); have HG := Lib.hid (gen_any (w := w) p hp); have HK := Lib.hid (kind_any (w := w) p hp)
  obtain ⟨t, ht⟩ : ∃ t, t = p / 72057594037927936 := ⟨_, rfl⟩
  have hsh : ((p : Int) / 72057594037927936) = (t : Int) := by omega
  have key : ∀ b : Bool, (b = true ↔ (t = 0 ∧ ptrOff p ≠ 0 ∧ ptrGen p ≠ 0 ∧ ptrKind p ≠ 0 ∧ ptrKind p ≤ 127)) → b = ptrFormed p := by
    intro b hb
    unfold ptrFormed
    rw [← ht, Bool.eq_iff_iff, hb, decide_eq_true_iff]
  have KEY := Lib.hid key
  clear key ht
  generalize ptrOff p = o at *
  generalize ptrGen p = g at *
  generalize ptrKind p = k at *
  by_cases h1 : t = 0
  · have b1 : ((t : Int) == 0) = true := by simp; omega
    by_cases h2 : o = 0
    · have b2 : ((o : Int) != 0) = false := by simp; omega
      go_enter Tryz.func87, Tryz.ntmps87
      go_wp2_with (first | (go_at_call 88; (with_reducible refine HO.out.mono ?_); rintro e w' ⟨rfl, rfl⟩))
      go_ret
      exact ⟨ret_bool (KEY.out _ (by simp [h2])), rfl⟩
    · have b2 : ((o : Int) != 0) = true := by simp; omega
      by_cases h3 : g = 0
      · have b3 : ((g : Int) != 0) = false := by simp; omega
        go_enter Tryz.func87, Tryz.ntmps87
        go_wp2_with (first | (go_at_call 88; (with_reducible refine HO.out.mono ?_); rintro e w' ⟨rfl, rfl⟩) | (go_at_call 104; (with_reducible refine HG.out.mono ?_); rintro e w' ⟨rfl, rfl⟩))
        go_ret
        exact ⟨ret_bool (KEY.out _ (by simp [h3])), rfl⟩
      · have b3 : ((g : Int) != 0) = true := by simp; omega
        by_cases h4 : k = 0
        · have b4 : ((k : Int) != 0) = false := by simp; omega
          go_enter Tryz.func87, Tryz.ntmps87
          go_wp2_with (first | (go_at_call 88; (with_reducible refine HO.out.mono ?_); rintro e w' ⟨rfl, rfl⟩) | (go_at_call 104; (with_reducible refine HG.out.mono ?_); rintro e w' ⟨rfl, rfl⟩) | (go_at_call 105; (with_reducible refine HK.out.mono ?_); rintro e w' ⟨rfl, rfl⟩))
          go_ret
          exact ⟨ret_bool (KEY.out _ (by simp [h4])), rfl⟩
        · have b4 : ((k : Int) != 0) = true := by simp; omega
          go_enter Tryz.func87, Tryz.ntmps87
          go_wp2_with (first | (go_at_call 88; (with_reducible refine HO.out.mono ?_); rintro e w' ⟨rfl, rfl⟩) | (go_at_call 104; (with_reducible refine HG.out.mono ?_); rintro e w' ⟨rfl, rfl⟩) | (go_at_call 105; (with_reducible refine HK.out.mono ?_); rintro e w' ⟨rfl, rfl⟩))
          go_ret
          exact ⟨ret_bool (KEY.out _ (by simp [h1, h2, h3, h4]; omega)), rfl⟩
  · have b1 : ((t : Int) == 0) = false := by simp; omega
    go_enter Tryz.func87, Tryz.ntmps87
    go_wp2_with fail
    go_ret
    exact ⟨ret_bool (KEY.out _ (by simp [h1])), rfl⟩

set_option maxRecDepth 100000 in
set_option maxHeartbeats 1000000 in
theorem ptrValid_any (p size : Nat) (hp : p < 18446744073709551616) : Calls Tryz.prog 60 #[.int .u64 p, .int .u64 size] w fun r w' => r = .returned (.bool (ptrValid p size)) ∧ w = w' := by
  have HO := Lib.hid (ptrOff_any (w := w) p hp); have HF := Lib.hid (formed_any (w := w) p hp)
  have Hv : Hid (ptrValid p size = (ptrFormed p && decide (ptrOff p < size))) := rfl
  generalize ptrFormed p = b at *
  generalize ptrOff p = o at *
  cases b
  · go_enter Tryz.func60, Tryz.ntmps60
    go_wp2_with (first | (go_at_call 87; (with_reducible refine HF.out.mono ?_); rintro e w' ⟨rfl, rfl⟩))
    go_ret
    exact ⟨ret_bool (by rw [Hv.out]; rfl), rfl⟩
  · go_enter Tryz.func60, Tryz.ntmps60
    go_wp2_with (first | (go_at_call 87; (with_reducible refine HF.out.mono ?_); rintro e w' ⟨rfl, rfl⟩) | (go_at_call 88; (with_reducible refine HO.out.mono ?_); rintro e w' ⟨rfl, rfl⟩))
    go_ret
    exact ⟨ret_bool (by rw [Hv.out]; rfl), rfl⟩
end
end Go.Proofs.YtmfchlliechikaaGreatDoor
