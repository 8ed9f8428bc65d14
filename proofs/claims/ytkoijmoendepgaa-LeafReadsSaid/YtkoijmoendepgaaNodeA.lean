/- slices.Index, slices.Contains; the node's keys and slots as the law draws them. -/
import Derived.Test.YtkoijmoendepgaaSortA
import Derived.Test.YtkoijmoendepgaaLeafE
namespace Go.Proofs.Ytkoijmoendepgaa
open Go.RowKit

def intsK (k : IntKind) (l : List Int) : List Value := l.map fun s => Value.int k s
theorem intsK_get (k : IntKind) (l : List Int) (i : Nat) (x : Int) (h : l[i]? = some x) : (intsK k l)[i]? = some (.int k x) := by simp [intsK, h]

section
variable {w : World}
set_option maxRecDepth 100000 in
set_option maxHeartbeats 1000000 in
theorem index1 (sv : Value) (xs : List Int) (x : Int) (h : RdSl w 1 sv xs.length (intsK .u64 xs)) (hl : xs.length ≤ 4611686018) :
    Calls Try.prog 94 #[sv, .int .u64 x] w fun r w' => ∃ k : Int, r = .returned (.int .i64 k) ∧ (0 ≤ k ↔ x ∈ xs) ∧ w = w' := by
  obtain ⟨_, a, c, rfl, hc, ha⟩ := h
  have HA := Lib.hid ha; clear ha
  generalize hn : xs.length = n at *
  have HN := Lib.hid hn; clear hn
  go_enter Try.func94, Try.ntmps94
  go_wp2_with fail
  go_loop [8] (fun i => ∃ k : Nat, k ≤ n ∧ i = .int .i64 k ∧ x ∉ xs.take k) (fun i => n - (intOf i).toNat)
  case atStart => exact ⟨0, by omega, rfl, by simp⟩
  case round =>
    obtain ⟨k, hk, rfl, hnot⟩ := hrel
    have HX := Lib.hid hnot; clear hnot
    by_cases hlt : k < n
    · obtain ⟨y, hy⟩ : ∃ y, xs[k]? = some y := ⟨_, List.getElem?_eq_getElem (by rw [HN.out]; exact hlt)⟩
      obtain ⟨b, o, rfl, hcl⟩ := rd_at HA.out (intsK_get .u64 xs k y hy)
      have c1 := hcl k _ (intsK_get .u64 xs k y hy)
      have HY := Lib.hid hy
      clear hcl hy
      by_cases e : x = y
      · have hb : (x == y) = true := by simpa using e
        have HE := Lib.hid e; clear e
        go_wp2_with fail
        go_ret
        exact ⟨k, rfl, ⟨fun _ => by rw [HE.out]; exact List.mem_of_getElem? HY.out, fun _ => by omega⟩, rfl⟩
      · have hb : (x == y) = false := by simpa using e
        have HE := Lib.hid e; clear e
        go_wp2_with fail
        go_round
        case rel => exact ⟨k + 1, by omega, by go_num, by rw [List.take_add_one, HY.out]; simp only [Option.toList, List.mem_append, List.mem_singleton]; exact fun h => h.elim HX.out HE.out⟩
        case measure => simp [intOf]; omega
    · go_wp2_with fail
      go_ret
      exact ⟨-1, rfl, ⟨fun h => by omega, fun h => absurd h (by have := HX.out; rwa [List.take_of_length_le (by rw [HN.out]; omega)] at this)⟩, rfl⟩
set_option maxRecDepth 100000 in
set_option maxHeartbeats 1000000 in
theorem contains1 (sv : Value) (xs : List Int) (x : Int) (h : RdSl w 1 sv xs.length (intsK .u64 xs)) (hl : xs.length ≤ 4611686018) :
    Calls Try.prog 86 #[sv, .int .u64 x] w fun r w' => r = .returned (.bool (decide (x ∈ xs))) ∧ w = w' := by
  have H := Lib.hid (index1 sv xs x h hl); clear h
  go_enter Try.func86, Try.ntmps86
  go_wp2_with fail
  (with_reducible refine H.out.mono ?_)
  rintro e w' ⟨k, rfl, hk, rfl⟩
  have HK := Lib.hid hk; clear hk H
  go_wp2_with fail
  go_ret
  exact ⟨ret_bool (by rw [decide_eq_decide]; exact HK.out), rfl⟩
set_option maxRecDepth 100000 in
set_option maxHeartbeats 1000000 in
theorem index2 (sv : Value) (xs : List Int) (x : Int) (h : RdSl w 1 sv xs.length (intsK .i64 xs)) (hl : xs.length ≤ 4611686018) :
    Calls Try.prog 97 #[sv, .int .i64 x] w fun r w' => ∃ k : Int, r = .returned (.int .i64 k) ∧ (0 ≤ k ↔ x ∈ xs) ∧ w = w' := by
  obtain ⟨_, a, c, rfl, hc, ha⟩ := h
  have HA := Lib.hid ha; clear ha
  generalize hn : xs.length = n at *
  have HN := Lib.hid hn; clear hn
  go_enter Try.func97, Try.ntmps97
  go_wp2_with fail
  go_loop [8] (fun i => ∃ k : Nat, k ≤ n ∧ i = .int .i64 k ∧ x ∉ xs.take k) (fun i => n - (intOf i).toNat)
  case atStart => exact ⟨0, by omega, rfl, by simp⟩
  case round =>
    obtain ⟨k, hk, rfl, hnot⟩ := hrel
    have HX := Lib.hid hnot; clear hnot
    by_cases hlt : k < n
    · obtain ⟨y, hy⟩ : ∃ y, xs[k]? = some y := ⟨_, List.getElem?_eq_getElem (by rw [HN.out]; exact hlt)⟩
      obtain ⟨b, o, rfl, hcl⟩ := rd_at HA.out (intsK_get .i64 xs k y hy)
      have c1 := hcl k _ (intsK_get .i64 xs k y hy)
      have HY := Lib.hid hy
      clear hcl hy
      by_cases e : x = y
      · have hb : (x == y) = true := by simpa using e
        have HE := Lib.hid e; clear e
        go_wp2_with fail
        go_ret
        exact ⟨k, rfl, ⟨fun _ => by rw [HE.out]; exact List.mem_of_getElem? HY.out, fun _ => by omega⟩, rfl⟩
      · have hb : (x == y) = false := by simpa using e
        have HE := Lib.hid e; clear e
        go_wp2_with fail
        go_round
        case rel => exact ⟨k + 1, by omega, by go_num, by rw [List.take_add_one, HY.out]; simp only [Option.toList, List.mem_append, List.mem_singleton]; exact fun h => h.elim HX.out HE.out⟩
        case measure => simp [intOf]; omega
    · go_wp2_with fail
      go_ret
      exact ⟨-1, rfl, ⟨fun h => by omega, fun h => absurd h (by have := HX.out; rwa [List.take_of_length_le (by rw [HN.out]; omega)] at this)⟩, rfl⟩
set_option maxRecDepth 100000 in
set_option maxHeartbeats 1000000 in
theorem contains2 (sv : Value) (xs : List Int) (x : Int) (h : RdSl w 1 sv xs.length (intsK .i64 xs)) (hl : xs.length ≤ 4611686018) :
    Calls Try.prog 88 #[sv, .int .i64 x] w fun r w' => r = .returned (.bool (decide (x ∈ xs))) ∧ w = w' := by
  have H := Lib.hid (index2 sv xs x h hl); clear h
  go_enter Try.func88, Try.ntmps88
  go_wp2_with fail
  (with_reducible refine H.out.mono ?_)
  rintro e w' ⟨k, rfl, hk, rfl⟩
  have HK := Lib.hid hk; clear hk H
  go_wp2_with fail
  go_ret
  exact ⟨ret_bool (by rw [decide_eq_decide]; exact HK.out), rfl⟩
end
end Go.Proofs.Ytkoijmoendepgaa
