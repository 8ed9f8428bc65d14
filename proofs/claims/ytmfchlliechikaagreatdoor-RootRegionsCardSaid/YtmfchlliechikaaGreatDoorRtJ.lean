/- The walks of package root over a nil directory; lacks and Format. -/
import Derived.Test.YtmfchlliechikaaGreatDoorRtI
namespace Go.Proofs.YtmfchlliechikaaGreatDoor
open Go.RowKit Go.Maps
attribute [local go_sem ↓] Go.wp_at_zero Go.wp_at_succ

section
variable {w : World}
set_option maxRecDepth 100000 in
set_option maxHeartbeats 1000000 in
theorem rtActions_nil (s : ByteArray) (p : Int) : Calls Tryz.prog 27 #[.pointer none, .string s, .int .u64 p] w fun r w' => r = .returned (.tuple #[.slice none 0 0, .int .i64 1]) ∧ w = w' := by
  have HN := Lib.hid (fun wx => rtnone_nil (w := wx))
  go_enter Tryz.func27, Tryz.ntmps27
  go_wp2_with fail
  (with_reducible refine (HN.out _).mono ?_)
  rintro r w' ⟨rfl, rfl⟩
  go_wp2_with fail
  go_ret2
  exact ⟨rfl, rfl⟩
set_option maxRecDepth 100000 in
set_option maxHeartbeats 1000000 in
theorem rtPlan_nil (s : ByteArray) (p : Int) : Calls Tryz.prog 28 #[.pointer none, .string s, .int .u64 p] w fun r w' => r = .returned (.tuple #[.slice none 0 0, .int .i64 1]) ∧ w = w' := by
  have HN := Lib.hid (fun wx => rtActions_nil (w := wx) s p)
  go_enter Tryz.func28, Tryz.ntmps28
  go_wp2_with fail
  (with_reducible refine (HN.out _).mono ?_)
  rintro r w' ⟨rfl, rfl⟩
  go_wp2_with fail
  go_ret2
  exact ⟨rfl, rfl⟩
set_option maxRecDepth 100000 in
set_option maxHeartbeats 1000000 in
theorem rtrun_nil (s : ByteArray) (p : Int) : Calls Tryz.prog 66 #[.pointer none, .string s, .int .u64 p] w fun r w' => r = .returned (.int .i64 1) ∧ w = w' := by
  have HN := Lib.hid (fun wx => rtPlan_nil (w := wx) s p)
  go_enter Tryz.func66, Tryz.ntmps66
  go_wp2_with fail
  (with_reducible refine (HN.out _).mono ?_)
  rintro r w' ⟨rfl, rfl⟩
  go_wp2_with fail
  go_ret
  exact ⟨rfl, rfl⟩
set_option maxRecDepth 100000 in
set_option maxHeartbeats 1000000 in
theorem rtSet_nil (s : ByteArray) (p : Int) : Calls Tryz.prog 30 #[.pointer none, .string s, .int .u64 p] w fun r w' => r = .returned (.int .i64 1) ∧ w = w' := by
  have HN := Lib.hid (fun wx => rtnone_nil (w := wx))
  go_enter Tryz.func30, Tryz.ntmps30
  go_wp2_with fail
  (with_reducible refine (HN.out _).mono ?_)
  rintro r w' ⟨rfl, rfl⟩
  go_wp2_with fail
  go_ret
  exact ⟨rfl, rfl⟩
set_option maxRecDepth 100000 in
set_option maxHeartbeats 1000000 in
theorem rtRemove_nil (s : ByteArray) : Calls Tryz.prog 31 #[.pointer none, .string s] w fun r w' => r = .returned (.int .i64 1) ∧ w = w' := by
  have HN := Lib.hid (fun wx => rtrun_nil (w := wx) s 0)
  go_enter Tryz.func31, Tryz.ntmps31
  go_wp2_with fail
  (with_reducible refine (HN.out _).mono ?_)
  rintro r w' ⟨rfl, rfl⟩
  go_wp2_with fail
  go_ret
  exact ⟨rfl, rfl⟩
set_option maxRecDepth 100000 in
set_option maxHeartbeats 1000000 in
theorem rtList_nil : Calls Tryz.prog 29 #[.pointer none] w fun r w' => r = .returned (.slice none 0 0) ∧ w = w' := by
  have HN := Lib.hid (fun wx => rtnone_nil (w := wx))
  go_enter Tryz.func29, Tryz.ntmps29
  go_wp2_with fail
  (with_reducible refine (HN.out _).mono ?_)
  rintro r w' ⟨rfl, rfl⟩
  go_wp2_with fail
  go_ret
  exact ⟨rfl, rfl⟩
set_option maxRecDepth 100000 in
set_option maxHeartbeats 1000000 in
theorem rtlacks_nil (l : Int) : Calls Tryz.prog 47 #[.nilIface, .int .i64 l] w fun r w' => r = .returned (.bool true) ∧ w = w' := by
  go_enter Tryz.func47, Tryz.ntmps47
  go_wp2_with fail
  go_ret
  exact ⟨rfl, rfl⟩
end
section
variable {w : World} {v : DV} {own : Nat → Option Role} {D : Dev} {j : Nat}
/-- A memory of n lines lacks the lines of a directory at a line. -/
def lackB (n : Nat) (l : Int) : Bool := decide (l < 0 ∨ n < 8 ∨ (n : Int) - 8 < l)
set_option maxRecDepth 100000 in
set_option maxHeartbeats 2000000 in
theorem rtlacks_any (h : IsDev w v own D) (hj : j < 8) (l : Int) (hl : l < 9223372036854775808) : Calls Tryz.prog 47 #[.iface 42 (.pointer (some ⟨v.tb j, 0, none⟩)), .int .i64 l] w fun r w' => r = .returned (.bool (lackB D.n l)) ∧ w = w' := by
  have hms := meth_Size ⟨v.tb j, 0, none⟩
  have hszz := thrSize_any h hj
  have hn1 := h.wf.pos; have hn2 := h.wf.le
  generalize D.n = n at *
  have hdv : ((n : Int) * 64) / 64 = (n : Int) := by omega
  have HSIZE := Lib.hid hszz
  clear h hszz
  by_cases h0 : l < 0
  · rw [show lackB n l = true by unfold lackB; simp [h0]]
    go_enter Tryz.func47, Tryz.ntmps47
    go_wp2_with fail
    go_ret
    exact ⟨rfl, rfl⟩
  · obtain ⟨k, rfl⟩ : ∃ k : Nat, l = k := ⟨l.toNat, by omega⟩
    by_cases h8 : n < 8
    · rw [show lackB n k = true by unfold lackB; simp [h8]]
      have h8' : (n : Int) < 8 := by omega
      go_enter Tryz.func47, Tryz.ntmps47
      go_wp2_with fail
      (with_reducible refine HSIZE.out.mono ?_)
      rintro r w' ⟨rfl, rfl⟩
      go_wp2_with fail
      go_ret
      exact ⟨rfl, rfl⟩
    · have HL : Hid (lackB n k = decide ((n : Int) - 8 < (k : Int))) := by
        show _ = _
        unfold lackB
        rw [decide_eq_decide]
        omega
      generalize lackB n k = lb at *
      obtain ⟨q, hq⟩ : ∃ q : Int, (n : Int) - 8 = q := ⟨_, rfl⟩
      have hqb : 0 ≤ q ∧ q ≤ 4096 := by omega
      obtain ⟨N, hN⟩ : ∃ N : Int, (n : Int) = N := ⟨_, rfl⟩
      rw [hN] at HSIZE hdv hq
      rw [hN, hq] at HL
      have hwq : IntKind.u64.wrap (N - 8) = q := by rw [hq]; exact IntWalk.u64_in _ (by omega)
      have hN8 : ¬ N < 8 := by omega
      have hwN : IntKind.u64.wrap N = N := IntWalk.u64_in _ (by omega)
      have hcv : ∀ wx : World, (Go.convert 3 32 (.int .i64 (k : Int))).run Tryz.prog wx = .ok (.int .u64 (k : Int)) wx := fun wx => by
        rw [run_convert_int (P := Tryz.prog) wx 3 32 .i64 (k : Int) (by kernel_rfl) (by kernel_rfl), show Tryz.prog.intKind 32 = .u64 by kernel_rfl, IntWalk.u64_in _ (by omega)]
      have HL0 := Lib.hid (And.intro hl (And.intro hq (And.intro hqb hN)))
      clear hl hq hqb hN hn1 hn2 h8 h0
      go_enter Tryz.func47, Tryz.ntmps47
      go_wp2_with fail
      (with_reducible refine HSIZE.out.mono ?_)
      rintro r w' ⟨rfl, rfl⟩
      go_wp2_with fail
      go_ret
      exact ⟨by rw [HL.out]; show Ending.returned (.bool (decide (N < 8) || decide (q < (k : Int)))) = _; rw [show decide (N < 8) = false by simp; omega]; rfl, rfl⟩
end
end Go.Proofs.YtmfchlliechikaaGreatDoor
