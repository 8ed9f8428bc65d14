/- The walk of LeafRefuses. -/
import Derived.Test.YtkoijmoendepgaaLeafS
namespace Go.Proofs.Ytkoijmoendepgaa
open Go.RowKit

theorem DPost.from {v : DV} {own : Nat → Option Role} {w w' : World} {D' : Dev} {B : Nat} (h : DPost v own w D' w') (ho : ∀ k, own k ≠ none → B ≤ k) (hB : B ≤ w.heap.size) :
    ∃ own', IsDev w' v own' D' ∧ (∀ k, own' k ≠ none → B ≤ k) ∧ Below B w w' := by
  obtain ⟨own', h1, h2, h3⟩ := h
  refine ⟨own', h1, fun k hk => ?_, ⟨h3.os, h3.tape, h3.output, h3.size, fun k hk => h3.block k (Nat.lt_of_lt_of_le hk hB) (fun hk2 => ?_)⟩⟩
  · rcases Nat.lt_or_ge k w.heap.size with hlt | hge
    · rw [h2 k hlt] at hk; exact ho k hk
    · omega
  · have := ho k hk2; omega
theorem ownsRow_slice {w : World} {base : Nat} {e : TypeId} {size : Nat} {v : Value} {k : Nat} {xs : List Value} (h : w.ownsRow base e size v k xs) : ∃ a c, v = .slice a k c := by
  rcases h.2 with ⟨rfl, rfl⟩ | ⟨g, cap, _, rfl, _⟩
  · exact ⟨_, _, rfl⟩
  · exact ⟨_, _, rfl⟩

section
variable {w : World} {v : DV} {own : Nat → Option Role} {D : Dev} {j p : Nat}
theorem yields_err {m : Value} {e from' : Int} (h : ReadErr w m p e) (he : e ≠ 0) : Yields w m p from' [] := fun w' hw => (h w' hw).mono fun _ _ hr => ⟨hr.2, .inl ⟨e, he, hr.1, rfl⟩⟩

def makeP (off : Nat) : Nat × Int := if off = 0 ∨ off % 8 ≠ 0 then (0, 1) else if 34359738360 < off then (0, 2) else (ptrN off, 0)
set_option maxRecDepth 100000 in
set_option maxHeartbeats 1000000 in
theorem make_all (off : Nat) (ho : off < 18446744073709551616) : Calls Try.prog 16 #[.int .u64 off, .int .u16 1, .int .u8 2] w fun r w' => r = .returned (.tuple #[.int .u64 ((makeP off).1 : Nat), .int .i64 (makeP off).2]) ∧ w = w' := by
  by_cases h0 : off = 0
  · subst h0
    rw [show ((0 : Nat) : Int) = 0 from rfl]
    go_enter Try.func16, Try.ntmps16
    go_wp2_with fail
    go_ret2
    exact ⟨rfl, rfl⟩
  · have b1 : ((off : Int) == 0) = false := by simp; omega
    by_cases h8 : off % 8 = 0
    · have b2 : ((off : Int) % 8 != 0) = false := by simp; omega
      by_cases hb : 34359738360 < off
      · have b3 : (34359738360 : Int) < off := by omega
        have e : makeP off = (0, 2) := by unfold makeP; rw [if_neg (by omega), if_pos hb]
        rw [e]
        clear e h0 h8
        go_enter Try.func16, Try.ntmps16
        go_wp2_with fail
        go_ret2
        exact ⟨rfl, rfl⟩
      · have e : makeP off = (ptrN off, 0) := by unfold makeP; rw [if_neg (by omega), if_neg hb]
        rw [e]
        exact make_any off (by omega) h8 (by omega)
    · have b2 : ((off : Int) % 8 != 0) = true := by simp; omega
      have e : makeP off = (0, 1) := by unfold makeP; rw [if_pos (by omega)]
      rw [e]
      clear e h0
      go_enter Try.func16, Try.ntmps16
      go_wp2_with fail
      go_ret2
      exact ⟨rfl, rfl⟩

/-- The device of the law: four lines, on or off. -/
def refD (power : Bool) : Dev := if power then ((Dev.fresh 4 fun _ => 0).arm 0).fence 0 else Dev.fresh 4 fun _ => 0
theorem refD_n (b : Bool) : (refD b).n = 4 := by cases b <;> rfl
theorem refD_err0 (b : Bool) : (refD b).err 0 = if b then 3 else 0 := by cases b <;> rfl
theorem refD_err1 (b : Bool) : (refD b).err 1 = 0 := by cases b <;> rfl
theorem refD_ptr (off : Nat) (h8 : off % 8 = 0) (ho : off ≤ 34359738360) : ptrOff (ptrN off) = off := by unfold ptrOff ptrN; omega
theorem ptrN_pos (off : Nat) : 0 < ptrN off := by unfold ptrN; omega
theorem ptrN_lt (off : Nat) (ho : off ≤ 34359738360) : ptrN off < 18446744073709551616 := by unfold ptrN; omega

/-- What the law expects. -/
def wantE (off : Nat) (none power : Bool) : Int := if none then 1 else if (makeP off).2 ≠ 0 then 1 else if 32 < off then 2 else if power then 3 else 0
theorem refuses_err {power none : Bool} {off : Nat} (h : IsDev w v own (refD power)) (hoff : off < 18446744073709551616) (hw : wantE off none power ≠ 0) :
    ReadErr w (if none then .nilIface else .iface 39 (.pointer (some ⟨v.tb 0, 0, .none⟩))) (makeP off).1 (wantE off none power) := by
  unfold wantE at *
  cases none with
  | true => exact read_nil w _
  | false =>
    simp only [Bool.false_eq_true, if_false] at *
    by_cases h1 : off = 0 ∨ off % 8 ≠ 0
    · have e : makeP off = (0, 1) := by unfold makeP; rw [if_pos h1]
      rw [e]
      exact read_zero w _
    · by_cases h2 : 34359738360 < off
      · have e : makeP off = (0, 2) := by unfold makeP; rw [if_neg h1, if_pos h2]
        rw [e]
        exact read_zero w _
      · have e : makeP off = (ptrN off, 0) := by unfold makeP; rw [if_neg h1, if_neg h2]
        rw [e] at hw ⊢
        simp only [ne_eq, not_true, if_false] at hw ⊢
        have hp : ptrOff (ptrN off) = off := refD_ptr off (by omega) (by omega)
        by_cases h3 : 32 < off
        · rw [if_pos h3]
          exact read_range h (by omega) (ptrN_lt off (by omega)) (ptrN_pos off) (by rw [hp, refD_n]; omega)
        · rw [if_neg h3] at hw ⊢
          refine read_off h (by omega) (ptrN_lt off (by omega)) (ptrN_pos off) (by rw [hp, refD_n]; omega) _ (refD_err0 _) hw

theorem zero_node {off : Nat} (h : IsDev w v own (refD false)) (h0 : 0 < off) (h8 : off % 8 = 0) (ho : off ≤ 32) : NodeAt w v own (refD false) 0 (ptrN off) ∧ nodeW (refD false) (ptrN off) = fun _ => 0 := by
  have hp : ptrOff (ptrN off) = off := refD_ptr off h8 (by omega)
  refine ⟨⟨h, by omega, ptrN_lt off (by omega), ptrN_pos off, rfl, rfl, by rw [hp]; show off + 224 ≤ 64 * 4; omega, fun i _ => ?_⟩, rfl⟩
  show (0 : Int) ≤ 0 ∧ (0 : Int) < _
  omega
theorem zero_slots : slotsW (fun _ => 0) = [] := by decide
theorem zero_ok (size : Nat) : nodeOk (fun _ => 0) size := by
  unfold nodeOk
  rw [zero_slots]
  refine ⟨⟨by decide, fun i hi => ⟨fun _ => ?_, fun h => by simp at h⟩⟩, ⟨fun i h0 h1 => by simp at h1, .inl ⟨rfl, rfl⟩, .inl rfl⟩⟩
  have : ∀ i, i < 12 → nib 0 i = 0 := by decide
  exact this i hi
end
end Go.Proofs.Ytkoijmoendepgaa
