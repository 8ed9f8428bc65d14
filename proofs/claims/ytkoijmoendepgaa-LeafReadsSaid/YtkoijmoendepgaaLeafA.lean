/- The walk of leaf.order. -/
import Derived.Test.YtkoijmoendepgaaDevG
import Derived.Test.YtkoijmoendepgaaLeafM
namespace Go.Proofs.Ytkoijmoendepgaa
open Go.RowKit

section
variable {w : World}

def natsI (l : List Nat) : List Value := l.map fun (s : Nat) => Value.int .i64 s

set_option maxRecDepth 100000 in
set_option maxHeartbeats 1000000 in
theorem order_any (sv : Value) (slots : List Nat) (c : Nat) (hs : RdSl w 1 sv slots.length (natsI slots)) (hl : slots.length ≤ 12) (h16 : ∀ s ∈ slots, s < 16) (hc : c < 18446744073709551616) :
    Calls Try.prog 45 #[sv, .int .u64 c] w fun r w' => r = .returned (.int .u64 (ordN slots c)) ∧ w = w' := by
  obtain ⟨_, a, cap, rfl, hcap, ha⟩ := hs
  have HA := Lib.hid ha; have H16 := Lib.hid h16; clear ha h16
  have hlz : (0 : Int) ≤ slots.length := by omega
  go_enter Try.func45, Try.ntmps45
  go_wp2_with fail
  rw [ordP_start slots c hl]
  go_loop [5, 17] (fun x i => ∃ k : Nat, k ≤ slots.length ∧ i = .int .i64 k ∧ x = .int .u64 (ordP slots c k : Nat)) (fun _ i => slots.length - (intOf i).toNat)
  case atStart => exact ⟨0, Nat.zero_le _, rfl, rfl⟩
  case round =>
    obtain ⟨k, hk, rfl, rfl⟩ := hrel
    by_cases hlt : k < slots.length
    · obtain ⟨s, he⟩ : ∃ s, slots[k]? = some s := ⟨_, List.getElem?_eq_getElem hlt⟩
      have hs16 := H16.out s (List.mem_of_getElem? he)
      have hv : (natsI slots)[k]? = some (.int .i64 s) := by simp [natsI, he]
      obtain ⟨sb, so, rfl, hc'⟩ : ∃ sb so, a = some ⟨sb, so, none⟩ ∧ ∀ j u, (natsI slots)[j]? = some u → w.cell? ⟨sb, so + j, none⟩ = some u := by
        rcases HA.out with h0 | h0
        · rw [h0] at hv; simp at hv
        · exact h0
      have e1 := hc' _ _ hv
      have Hst := Lib.hid (ordP_step slots c k s H16.out hl he)
      clear hc' hv he
      go_wp2_with fail
      go_round
      case rel => exact ⟨k + 1, by omega, by go_num, by rw [Hst.out]⟩
      case measure => simp [intOf]; omega
    · obtain rfl : k = slots.length := by omega
      go_wp2_with fail
      go_ret
      exact ⟨ret_int (by rw [ordP_end]), rfl⟩
end
end Go.Proofs.Ytkoijmoendepgaa
