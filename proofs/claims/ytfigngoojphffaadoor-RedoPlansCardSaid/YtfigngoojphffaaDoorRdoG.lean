/- The law's small functions of layer 15: offset, good, writes. -/
import Derived.Test.YtfigngoojphffaaDoorRdoR
import Derived.Test.YtfigngoojphffaaDoorDevL
namespace Go.Proofs.YtfigngoojphffaaDoor
open Go.RowKit Go.Maps

theorem u8_in (x : Int) (h : 0 ≤ x ∧ x < 256) : IntKind.u8.wrap x = x := by
  simp [IntKind.wrap, IntKind.signed, IntKind.bits]
  omega
def offR (n : Nat) : Nat := if n < 40 then 8 * n else if n < 112 then 1984 + 8 * (n - 40) else if n < 150 then 320 + 8 * (n - 112) else if n < 200 then n else 2560 + 8 * (n - 200)
theorem offR_good (n : Nat) (h : n < 112) : rAllowB 2560 320 1664 (offR n) = true := by
  unfold rAllowB offR
  apply decide_eq_true
  split
  · omega
  · first | omega | (rw [if_pos h]; omega)
theorem offR_lt (n : Nat) (h : n < 256) : offR n < 4096 := by unfold offR; split; omega; split; omega; split; omega; split <;> omega
section
variable {w : World}
set_option maxHeartbeats 1000000 in
theorem l15offset_any (n : Nat) (hn : n < 256) : Calls Tryd.prog 45 #[.int .u8 n] w fun r w' => r = .returned (.int .u64 (offR n)) ∧ w = w' := by
  by_cases h1 : n < 40
  · have h1' : (n : Int) < 40 := by omega
    have E : Hid (((offR n : Nat) : Int) = 8 * (n : Int)) := by show ((offR n : Nat) : Int) = _; unfold offR; rw [if_pos h1]; omega
    rw [E.out]
    go_enter Tryd.func45, Tryd.ntmps45
    go_wp2_with fail
    go_ret
    exact ⟨rfl, rfl⟩
  · have h1' : ¬ (n : Int) < 40 := by omega
    by_cases h2 : n < 112
    · have h2' : (n : Int) < 112 := by omega
      have E : Hid (((offR n : Nat) : Int) = 1984 + 8 * ((n : Int) - 40)) := by show ((offR n : Nat) : Int) = _; unfold offR; rw [if_neg h1, if_pos h2]; omega
      have hu := u8_in ((n : Int) - 40) (by omega)
      rw [E.out]
      go_enter Tryd.func45, Tryd.ntmps45
      go_wp2_with fail
      go_ret
      exact ⟨rfl, rfl⟩
    · have h2' : ¬ (n : Int) < 112 := by omega
      by_cases h3 : n < 150
      · have h3' : (n : Int) < 150 := by omega
        have E : Hid (((offR n : Nat) : Int) = 320 + 8 * ((n : Int) - 112)) := by show ((offR n : Nat) : Int) = _; unfold offR; rw [if_neg h1, if_neg h2, if_pos h3]; omega
        have hu := u8_in ((n : Int) - 112) (by omega)
        rw [E.out]
        go_enter Tryd.func45, Tryd.ntmps45
        go_wp2_with fail
        go_ret
        exact ⟨rfl, rfl⟩
      · have h3' : ¬ (n : Int) < 150 := by omega
        by_cases h4 : n < 200
        · have h4' : (n : Int) < 200 := by omega
          have E : Hid (((offR n : Nat) : Int) = (n : Int)) := by show ((offR n : Nat) : Int) = _; unfold offR; rw [if_neg h1, if_neg h2, if_neg h3, if_pos h4]
          rw [E.out]
          go_enter Tryd.func45, Tryd.ntmps45
          go_wp2_with fail
          go_ret
          exact ⟨rfl, rfl⟩
        · have h4' : ¬ (n : Int) < 200 := by omega
          have E : Hid (((offR n : Nat) : Int) = 2560 + 8 * ((n : Int) - 200)) := by show ((offR n : Nat) : Int) = _; unfold offR; rw [if_neg h1, if_neg h2, if_neg h3, if_neg h4]; omega
          have hu := u8_in ((n : Int) - 200) (by omega)
          rw [E.out]
          go_enter Tryd.func45, Tryd.ntmps45
          go_wp2_with fail
          go_ret
          exact ⟨rfl, rfl⟩
end
end Go.Proofs.YtfigngoojphffaaDoor
