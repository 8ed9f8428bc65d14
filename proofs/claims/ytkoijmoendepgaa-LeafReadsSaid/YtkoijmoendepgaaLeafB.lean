/- The walks of slices.Equal and of the reference's permutation. -/
import Derived.Test.YtkoijmoendepgaaLeafA
namespace Go.Proofs.Ytkoijmoendepgaa
open Go.RowKit

def intsU (l : List Int) : List Value := l.map fun s => Value.int .u64 s
theorem intsU_get (l : List Int) (k : Nat) (x : Int) (h : l[k]? = some x) : (intsU l)[k]? = some (.int .u64 x) := by simp [intsU, h]

section
variable {w : World}

set_option maxRecDepth 100000 in
set_option maxHeartbeats 1000000 in
theorem equalU_any (u v : Value) (xs ys : List Int) (hx : RdSl w 1 u xs.length (intsU xs)) (hy : RdSl w 1 v ys.length (intsU ys)) (hl : xs.length ≤ 4611686018) (_hl2 : ys.length ≤ 4611686018) :
    Calls Try.prog 11 #[u, v] w fun r w' => r = .returned (.bool (decide (xs = ys))) ∧ Below w.heap.size w w' := by
  obtain ⟨_, a, ca, rfl, hca, ha⟩ := hx
  obtain ⟨_, b, cb, rfl, hcb, hb⟩ := hy
  have HA := Lib.hid ha; have HB := Lib.hid hb; clear ha hb
  by_cases hlen : xs.length = ys.length
  · have hne : ((xs.length : Int) != (ys.length : Int)) = false := by simp; omega
    have Hlen := Lib.hid hlen
    go_enter Try.func11, Try.ntmps11
    clear hlen
    go_wp2_with fail
    go_loopw [13] (fun i wr => ∃ k : Nat, k ≤ xs.length ∧ i = .int .i64 k ∧ xs.take k = ys.take k ∧ ∃ q, wr = w.drewN q) (fun i _ => xs.length - (intOf i).toNat)
    case atStart => exact ⟨0, Nat.zero_le _, rfl, rfl, 0, rfl⟩
    case round =>
      obtain ⟨k, hk, rfl, heq, q, rfl⟩ := hrel
      have Heq := Lib.hid heq; clear heq
      by_cases hlt : k < xs.length
      · obtain ⟨x, hx⟩ : ∃ x, xs[k]? = some x := ⟨_, List.getElem?_eq_getElem hlt⟩
        obtain ⟨y, hy⟩ : ∃ y, ys[k]? = some y := ⟨_, List.getElem?_eq_getElem (by rw [← Hlen.out]; exact hlt)⟩
        obtain ⟨ba, oa, rfl, hca'⟩ := rd_at HA.out (intsU_get xs k x hx)
        obtain ⟨bb, ob, rfl, hcb'⟩ := rd_at HB.out (intsU_get ys k y hy)
        have e1 := hca' _ _ (intsU_get xs k x hx)
        have e2 := hcb' _ _ (intsU_get ys k y hy)
        have hlt2 : (k : Int) < ys.length := by have := Hlen.out; omega
        have hlt1 : (k : Int) < xs.length := by omega
        have Hx := Lib.hid hx; have Hy := Lib.hid hy
        clear hca' hcb' hx hy
        go_wp2_with fail
        go_quiet (fail)
        by_cases hxy : x = y
        · have hb : (x != y) = false := by simp [hxy]
          have Hxy := Lib.hid hxy; clear hxy
          go_wp2_with fail
          go_roundw
          case rel => exact ⟨k + 1, by omega, by go_num, by rw [List.take_add_one, List.take_add_one, Hx.out, Hy.out, Heq.out, Hxy.out], _, rfl⟩
          case measure => simp [intOf]; omega
        · have hb : (x != y) = true := by simp [hxy]
          have Hd : Hid (decide (xs = ys) = false) := by
            show decide (xs = ys) = false
            simp; intro h; apply hxy
            have h1 := Hx.out; rw [h, Hy.out] at h1; exact (Option.some.inj h1).symm
          clear hxy
          go_wp2_with fail
          go_ret
          exact ⟨ret_bool Hd.out.symm, ⟨rfl, rfl, rfl, Nat.le_refl _, fun _ _ => rfl⟩⟩
      · have Hd : Hid (decide (xs = ys) = true) := by
          show decide (xs = ys) = true
          have h1 := Heq.out
          rw [List.take_of_length_le (by omega), List.take_of_length_le (by have := Hlen.out; omega)] at h1
          simp [h1]
        go_wp2_with fail
        go_ret
        exact ⟨ret_bool Hd.out.symm, ⟨rfl, rfl, rfl, Nat.le_refl _, fun _ _ => rfl⟩⟩
  · have hne : ((xs.length : Int) != (ys.length : Int)) = true := by simp; omega
    have hd : decide (xs = ys) = false := by simp; intro h; exact hlen (by rw [h])
    have Hd := Lib.hid hd; clear hd hlen
    go_enter Try.func11, Try.ntmps11
    go_wp2_with fail
    go_ret
    exact ⟨ret_bool Hd.out.symm, Below.refl _ _⟩

set_option maxRecDepth 100000 in
set_option maxHeartbeats 1000000 in
theorem permutation_any (sv : Value) (slots : List Nat) (c : Nat) (hs : RdSl w 1 sv slots.length (natsI slots)) (hl : slots.length ≤ 12) (h16 : ∀ s ∈ slots, s < 16) (hc : c < 18446744073709551616) :
    Calls Try.prog 46 #[sv, .int .u64 c] w fun r w' => r = .returned (.int .u64 (ordN slots c)) ∧ w = w' := by
  obtain ⟨_, a, cap, rfl, hcap, ha⟩ := hs
  have HA := Lib.hid ha; have H16 := Lib.hid h16; clear ha h16
  have hst : ((c : Int) % 4096) = (permP slots c 12 : Nat) := by rw [permP_start slots c hl]; omega
  have Hst := Lib.hid hst; clear hst
  go_enter Try.func46, Try.ntmps46
  go_wp2_with fail
  rw [Hst.out]
  go_loop [5, 6] (fun x i => ∃ t : Nat, t ≤ 12 ∧ (t = 0 ∧ i = .int .i64 (-1) ∨ ∃ s : Nat, t = s + 1 ∧ i = .int .i64 s) ∧ x = .int .u64 (permP slots c t : Nat)) (fun _ i => (intOf i + 1).toNat)
  case atStart => exact ⟨12, Nat.le_refl _, .inr ⟨11, rfl, rfl⟩, rfl⟩
  case round =>
    obtain ⟨t, ht, hti, rfl⟩ := hrel
    rcases hti with ⟨rfl, rfl⟩ | ⟨s, rfl, rfl⟩
    · have h1 := permP_zero_lt slots c H16.out hl
      have He := Lib.hid (permP_end slots c)
      go_wp2_with fail
      go_ret
      exact ⟨ret_int (by rw [← He.out]; simp), rfl⟩
    · have h1 := permP_lt slots c (s + 1) H16.out hl (by omega) ht
      have He := Lib.hid (permP_step slots c s (by omega))
      by_cases hlt : s < slots.length
      · obtain ⟨d, hd⟩ : ∃ d, slots[s]? = some d := ⟨_, List.getElem?_eq_getElem hlt⟩
        have hd16 := H16.out d (List.mem_of_getElem? hd)
        have hv : (natsI slots)[s]? = some (.int .i64 d) := by simp [natsI, hd]
        obtain ⟨sb, so, rfl, hc'⟩ := rd_at HA.out hv
        have e1 := hc' _ _ hv
        have Hd : Hid (slots.getD s 0 = d) := by show slots.getD s 0 = d; simp [List.getD, hd]
        clear hc' hv hd
        go_wp2_with fail
        go_round
        case rel =>
          refine ⟨s, by omega, ?_, by rw [He.out, Hd.out]; simp⟩
          cases s with
          | zero => exact .inl ⟨rfl, by simp⟩
          | succ s => exact .inr ⟨s, rfl, by go_num⟩
        case measure => simp [intOf]
      · have Hd : Hid (slots.getD s 0 = 0) := by show slots.getD s 0 = 0; exact getD_none _ _ (by omega)
        go_wp2_with fail
        go_round
        case rel =>
          refine ⟨s, by omega, ?_, by rw [He.out, Hd.out]; simp⟩
          cases s with
          | zero => exact .inl ⟨rfl, by simp⟩
          | succ s => exact .inr ⟨s, rfl, by go_num⟩
        case measure => simp [intOf]
end
end Go.Proofs.Ytkoijmoendepgaa
