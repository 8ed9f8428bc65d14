/- The walk of device.New. -/
import Derived.Test.YtahpadhejjlpoaaGreatDoorDevG
namespace Go.Proofs.YtahpadhejjlpoaaGreatDoor
open Go.RowKit

section
variable {w : World}
set_option maxRecDepth 100000 in
set_option maxHeartbeats 1000000 in
theorem new_any (n : Nat) (h0 : 0 < n) (hn : n ≤ 4096) :
    Calls Tryz.prog 22 #[.int .i64 n] w fun r w' => ∃ v own, r = .returned (.tuple #[.pointer (some ⟨v.db, 0, none⟩), .int .i64 0]) ∧ IsDev w' v own (Dev.fresh n (fun _ => 0)) ∧ (∀ k, own k ≠ none → w.heap.size ≤ k) ∧ Below w.heap.size w w' := by
  obtain ⟨i0, hi, hz0, hz1, hz2⟩ := info_parts infoU64
  have hmk := fun (wx : World) => run_make (P := Tryz.prog) wx 90 39 i0 _ Tryz.underlying90 hi hz0 .i64 .i64 ((n : Int) * 8) ((n : Int) * 8) (by omega) (by omega) (by rw [hz2]; omega) (by omega)
  simp only [hz1] at hmk
  rw [show ((n : Int) * 8).toNat = 8 * n from by omega] at hmk
  clear hi hz0 hz1 hz2
  have h1 : ¬ (n : Int) < 1 := by omega
  have h2 : ¬ (4096 : Int) < n := by omega
  have hrow : Row (w.alloc (.cells (madeCells #[.int .u64 0] (8 * n)) 39)) w.heap.size (8 * n) 39 (fun i => .int .u64 0) := by
    refine Row.new w _ _ _ _ (fun i hi => ?_)
    simp [madeCells, hi, Nat.mod_one]
  have HR := Lib.hid (of_any w.heap.size (8 * n) n (fun _ => 0) hrow h0 hn (Nat.le_refl _))
  clear hrow
  go_enter Tryz.func22, Tryz.ntmps22
  go_wp2_with fail
  (with_reducible refine HR.out.mono ?_)
  rintro e w1 ⟨v, own, rfl, e1, e2, d, o, b⟩
  have X := Lib.hid (And.intro e1 (And.intro d (And.intro o b)))
  clear e1 e2 d o b
  go_wp2_with fail
  go_ret2
  refine ⟨v, own, rfl, X.out.2.1, fun k hk => ?_, ?_⟩
  · rcases X.out.2.2.1 k hk with h | h
    · omega
    · simp at h; omega
  · refine Below.trans ((Below.refl _ _).alloc (Nat.le_refl _) _) (X.out.2.2.2.mono (by simp))
end
end Go.Proofs.YtahpadhejjlpoaaGreatDoor
