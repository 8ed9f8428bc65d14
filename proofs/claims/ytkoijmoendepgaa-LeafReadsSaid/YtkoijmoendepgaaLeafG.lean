/- The walks of a pointer's validity and of content.valid. -/
import Derived.Test.YtkoijmoendepgaaLeafF
namespace Go.Proofs.Ytkoijmoendepgaa
open Go.RowKit

def ptrGen (p : Nat) : Nat := p / 4294967296 % 65536
def ptrKind (p : Nat) : Nat := p / 281474976710656 % 256
def ptrFormed (p : Nat) : Bool := decide (p / 72057594037927936 = 0 ∧ ptrOff p ≠ 0 ∧ ptrGen p ≠ 0 ∧ ptrKind p ≠ 0 ∧ ptrKind p ≤ 127)
def ptrValid (p size : Nat) : Bool := ptrFormed p && decide (ptrOff p < size)

section
variable {w : World}

set_option maxRecDepth 100000 in
set_option maxHeartbeats 1000000 in
theorem gen_any (p : Nat) (_hp : p < 18446744073709551616) : Calls Try.prog 110 #[.int .u64 p] w fun r w' => r = .returned (.int .u16 (ptrGen p)) ∧ w = w' := by
  go_enter Try.func110, Try.ntmps110
  go_wp2
  go_ret
  refine ⟨ret_int ?_, rfl⟩
  unfold ptrGen
  first | omega | (rw [IntKind.wrap_u16]; omega)

set_option maxRecDepth 100000 in
set_option maxHeartbeats 1000000 in
theorem kind_any (p : Nat) (_hp : p < 18446744073709551616) : Calls Try.prog 111 #[.int .u64 p] w fun r w' => r = .returned (.int .u8 (ptrKind p)) ∧ w = w' := by
  go_enter Try.func111, Try.ntmps111
  go_wp2
  go_ret
  refine ⟨ret_int ?_, rfl⟩
  unfold ptrKind
  first | omega | (rw [IntKind.wrap_u8']; omega)

set_option maxRecDepth 100000 in
set_option maxHeartbeats 1000000 in
theorem formed_any (p : Nat) (hp : p < 18446744073709551616) : Calls Try.prog 98 #[.int .u64 p] w fun r w' => r = .returned (.bool (ptrFormed p)) ∧ w = w' := by
  have HO := Lib.hid (ptrOff_any (w := w) p hp); have HG := Lib.hid (gen_any (w := w) p hp); have HK := Lib.hid (kind_any (w := w) p hp)
  obtain ⟨t, ht⟩ : ∃ t, t = p / 72057594037927936 := ⟨_, rfl⟩
  have hsh : ((p : Int) / 72057594037927936) = (t : Int) := by omega
  have key : ∀ b : Bool, (b = true ↔ (t = 0 ∧ ptrOff p ≠ 0 ∧ ptrGen p ≠ 0 ∧ ptrKind p ≠ 0 ∧ ptrKind p ≤ 127)) → b = ptrFormed p := by
    intro b hb
    unfold ptrFormed
    rw [← ht, Bool.eq_iff_iff, hb, decide_eq_true_iff]
  have KEY := Lib.hid key
  clear key ht
  generalize ptrOff p = o at *
  generalize ptrGen p = g at *
  generalize ptrKind p = k at *
  by_cases h1 : t = 0
  · have b1 : ((t : Int) == 0) = true := by simp; omega
    by_cases h2 : o = 0
    · have b2 : ((o : Int) != 0) = false := by simp; omega
      go_enter Try.func98, Try.ntmps98
      go_wp2_with (first | (go_at_call 79; (with_reducible refine HO.out.mono ?_); rintro e w' ⟨rfl, rfl⟩))
      go_ret
      exact ⟨ret_bool (KEY.out _ (by simp [h2])), rfl⟩
    · have b2 : ((o : Int) != 0) = true := by simp; omega
      by_cases h3 : g = 0
      · have b3 : ((g : Int) != 0) = false := by simp; omega
        go_enter Try.func98, Try.ntmps98
        go_wp2_with (first | (go_at_call 79; (with_reducible refine HO.out.mono ?_); rintro e w' ⟨rfl, rfl⟩) | (go_at_call 110; (with_reducible refine HG.out.mono ?_); rintro e w' ⟨rfl, rfl⟩))
        go_ret
        exact ⟨ret_bool (KEY.out _ (by simp [h3])), rfl⟩
      · have b3 : ((g : Int) != 0) = true := by simp; omega
        by_cases h4 : k = 0
        · have b4 : ((k : Int) != 0) = false := by simp; omega
          go_enter Try.func98, Try.ntmps98
          go_wp2_with (first | (go_at_call 79; (with_reducible refine HO.out.mono ?_); rintro e w' ⟨rfl, rfl⟩) | (go_at_call 110; (with_reducible refine HG.out.mono ?_); rintro e w' ⟨rfl, rfl⟩) | (go_at_call 111; (with_reducible refine HK.out.mono ?_); rintro e w' ⟨rfl, rfl⟩))
          go_ret
          exact ⟨ret_bool (KEY.out _ (by simp [h4])), rfl⟩
        · have b4 : ((k : Int) != 0) = true := by simp; omega
          go_enter Try.func98, Try.ntmps98
          go_wp2_with (first | (go_at_call 79; (with_reducible refine HO.out.mono ?_); rintro e w' ⟨rfl, rfl⟩) | (go_at_call 110; (with_reducible refine HG.out.mono ?_); rintro e w' ⟨rfl, rfl⟩) | (go_at_call 111; (with_reducible refine HK.out.mono ?_); rintro e w' ⟨rfl, rfl⟩))
          go_ret
          exact ⟨ret_bool (KEY.out _ (by simp [h1, h2, h3, h4]; omega)), rfl⟩
  · have b1 : ((t : Int) == 0) = false := by simp; omega
    go_enter Try.func98, Try.ntmps98
    go_wp2_with fail
    go_ret
    exact ⟨ret_bool (KEY.out _ (by simp [h1])), rfl⟩

set_option maxRecDepth 100000 in
set_option maxHeartbeats 1000000 in
theorem ptrValid_any (p size : Nat) (hp : p < 18446744073709551616) : Calls Try.prog 90 #[.int .u64 p, .int .u64 size] w fun r w' => r = .returned (.bool (ptrValid p size)) ∧ w = w' := by
  have HO := Lib.hid (ptrOff_any (w := w) p hp); have HF := Lib.hid (formed_any (w := w) p hp)
  have Hv : Hid (ptrValid p size = (ptrFormed p && decide (ptrOff p < size))) := rfl
  generalize ptrFormed p = b at *
  generalize ptrOff p = o at *
  cases b
  · go_enter Try.func90, Try.ntmps90
    go_wp2_with (first | (go_at_call 98; (with_reducible refine HF.out.mono ?_); rintro e w' ⟨rfl, rfl⟩))
    go_ret
    exact ⟨ret_bool (by rw [Hv.out]; rfl), rfl⟩
  · go_enter Try.func90, Try.ntmps90
    go_wp2_with (first | (go_at_call 98; (with_reducible refine HF.out.mono ?_); rintro e w' ⟨rfl, rfl⟩) | (go_at_call 79; (with_reducible refine HO.out.mono ?_); rintro e w' ⟨rfl, rfl⟩))
    go_ret
    exact ⟨ret_bool (by rw [Hv.out]; rfl), rfl⟩

/-- The key of entry i. -/
def keyAt (W : Nat → Int) (slots : List Nat) (i : Nat) : Int := W (4 + slots.getD i 0)
def ascC (W : Nat → Int) (slots : List Nat) (n : Nat) : Prop := ∀ i, 0 < i → i < n → keyAt W slots (i - 1) < keyAt W slots i
def validC (W : Nat → Int) (slots : List Nat) (size : Nat) : Prop :=
  ascC W slots slots.length ∧ (W 3 = 0 ∧ W 2 = 0 ∨ W 3 = 1 ∧ (0 < slots.length → keyAt W slots (slots.length - 1) < W 2)) ∧ (W 1 = 0 ∨ ptrValid (W 1).toNat size = true)

def BoolPost (w : World) (p : Prop) (r : Ending) (w' : World) : Prop := ∃ b : Bool, r = .returned (.bool b) ∧ (b = true ↔ p) ∧ Qt w w'

theorem key_at {cb : Nat} {W : Nat → Int} {slots : List Nat} {ch : Nat} (h : IsCont w cb W slots ch) (i : Nat) (hi : i < slots.length) :
    Calls Try.prog 63 #[.pointer (some ⟨cb, 0, none⟩), .int .i64 i] w fun r w' => r = .returned (.int .u64 (keyAt W slots i)) ∧ Qt w w' := by
  obtain ⟨s, hs⟩ : ∃ s, slots[i]? = some s := ⟨_, List.getElem?_eq_getElem hi⟩
  have := key_any h i s hs
  unfold keyAt
  simp only [List.getD, hs, Option.getD_some]
  exact this

set_option maxRecDepth 100000 in
set_option maxHeartbeats 2000000 in
theorem valid_any {cb : Nat} {W : Nat → Int} {slots : List Nat} {ch : Nat} (h : IsCont w cb W slots ch) (size : Nat) (hW : ∀ i, i < 28 → 0 ≤ W i ∧ W i < 18446744073709551616) :
    Calls Try.prog 81 #[.pointer (some ⟨cb, 0, none⟩), .int .u64 size] w (BoolPost w (validC W slots size)) := by
  obtain ⟨sv, c28, hrd⟩ := h.sl
  have hlen := h.len
  obtain ⟨_, a, c, rfl, hc, ha⟩ := hrd
  obtain ⟨n, hN⟩ : ∃ n, n = slots.length := ⟨_, rfl⟩
  have HN := Lib.hid hN
  rw [← hN] at c28 hc hlen
  clear hN
  have c1 := h.words 1 (by omega); have c2 := h.words 2 (by omega); have c3 := h.words 3 (by omega)
  have H := Lib.hid h; have HW := Lib.hid hW; have C28 := Lib.hid c28; clear h ha hW
  go_enter Try.func81, Try.ntmps81
  go_wp2_with fail
  go_loopw [13] (fun x wr => ∃ i : Nat, i ≤ n ∧ x = .int .i64 i ∧ ascC W slots i ∧ Qt w wr) (fun x _ => n - (intOf x).toNat)
  case atStart => exact ⟨0, Nat.zero_le _, rfl, fun i _ hi => absurd hi (Nat.not_lt_zero _), Qt.refl _⟩
  case round =>
    obtain ⟨i, hi, rfl, hasc, hq⟩ := hrel
    have HA := Lib.hid hasc; have HQ := Lib.hid hq; clear hasc hq c1 c2 c3 c28
    have HC := Lib.hid (H.out.qt HQ.out)
    by_cases hlt : i < n
    · have b1 : (i : Int) < n := by omega
      cases i with
      | zero =>
        rw [show ((0 : Nat) : Int) = 0 from rfl]
        go_wp2_with fail
        go_roundw
        case rel => exact ⟨1, by omega, by go_num, fun j hj hj1 => by omega, HQ.out⟩
        case measure => simp [intOf]; omega
      | succ m =>
        have hK1 := key_at HC.out (m + 1) (by rw [← HN.out]; exact hlt)
        rw [show ((m + 1 : Nat) : Int) = (m : Int) + 1 from by omega] at hK1
        have HK1 := Lib.hid hK1; clear hK1
        have HF : Hid (ascC W slots (m + 1 + 1) ↔ keyAt W slots m < keyAt W slots (m + 1)) := by
          show ascC W slots (m + 1 + 1) ↔ _
          constructor
          · intro h; have := h (m + 1) (by omega) (by omega); rw [Nat.add_sub_cancel] at this; omega
          · intro h j hj hj1
            rcases Nat.lt_succ_iff_lt_or_eq.1 hj1 with h' | h'
            · exact HA.out j hj h'
            · rw [h', Nat.add_sub_cancel]; omega
        go_wp2_with fail
        (with_reducible refine HK1.out.mono ?_)
        rintro e w1 ⟨rfl, q1⟩
        have HK2 := Lib.hid (key_at (HC.out.qt q1) m (by rw [← HN.out]; omega))
        have Q1 := Lib.hid q1; clear q1
        go_wp2_with fail
        (with_reducible refine HK2.out.mono ?_)
        rintro e w2 ⟨rfl, q2⟩
        have Q2 := Lib.hid ((HQ.out.trans Q1.out).trans q2); clear q2
        by_cases hk : keyAt W slots (m + 1) ≤ keyAt W slots m
        · have Hn : Hid (¬ validC W slots size) := fun h => absurd (HF.out.1 (fun j hj hj1 => h.1 j hj (by rw [← HN.out]; omega))) (by omega)
          go_wp2_with fail
          go_ret
          exact ⟨false, rfl, by simp; exact Hn.out, Q2.out⟩
        · have Hn := Lib.hid (HF.out.2 (by omega))
          go_wp2_with fail
          go_roundw
          case rel => exact ⟨m + 1 + 1, by omega, by go_num, Hn.out, Q2.out⟩
          case measure => simp [intOf]; omega
    · obtain rfl : i = n := by omega
      rw [HN.out] at HA
      have c28 : wr.cell? ⟨cb, 28, none⟩ = some (.slice a i c) := by obtain ⟨q, rfl⟩ := HQ.out; exact C28.out
      have c1 := HC.out.words 1 (by omega); have c2 := HC.out.words 2 (by omega); have c3 := HC.out.words 3 (by omega)
      clear hlt
      by_cases h30 : W 3 = 0
      · have e30 : (W 3 == 0) = true := by simp [h30]
        by_cases h20 : W 2 = 0
        · have e20 : (W 2 != 0) = false := by simp [h20]
          have Hm : Hid (W 3 = 0 ∧ W 2 = 0 ∨ W 3 = 1 ∧ (0 < slots.length → keyAt W slots (slots.length - 1) < W 2)) := .inl ⟨h30, h20⟩
          clear h30 h20
          by_cases h1 : W 1 = 0
          · have e1 : (W 1 == 0) = true := by simp [h1]
            have Hv : Hid (validC W slots size) := ⟨HA.out, Hm.out, .inl h1⟩
            clear h1
            go_wp2_with fail
            go_ret
            exact ⟨true, rfl, by simp; exact Hv.out, HQ.out⟩
          · have e1 : (W 1 == 0) = false := by simp [h1]
            have Hv : Hid (ptrValid (W 1).toNat size = true ↔ validC W slots size) := ⟨fun h => ⟨HA.out, Hm.out, .inr h⟩, fun h => h.2.2.resolve_left h1⟩
            clear h1
            go_wp2_with fail
            have hc := ptrValid_any (w := wr) (W 1).toNat size (by have := HW.out 1 (by omega); omega)
            rw [show (((W 1).toNat : Nat) : Int) = W 1 from by have := HW.out 1 (by omega); omega] at hc
            (with_reducible refine hc.mono ?_)
            rintro e w9 ⟨rfl, rfl⟩
            clear hc
            go_wp2_with fail
            go_ret
            exact ⟨_, rfl, Hv.out, HQ.out⟩
        · have e20 : (W 2 != 0) = true := by simp [h20]
          have Hn : Hid (¬ validC W slots size) := fun h => by rcases h.2.1 with h' | h' <;> omega
          clear h30 h20
          go_wp2_with fail
          go_ret
          exact ⟨false, rfl, by simp; exact Hn.out, HQ.out⟩
      · have e30 : (W 3 == 0) = false := by simp [h30]
        by_cases h31 : W 3 = 1
        · have e31 : (W 3 == 1) = true := by simp [h31]
          by_cases hn0 : i = 0
          · have Hm : Hid (W 3 = 0 ∧ W 2 = 0 ∨ W 3 = 1 ∧ (0 < slots.length → keyAt W slots (slots.length - 1) < W 2)) := .inr ⟨h31, fun h => by rw [← HN.out] at h; omega⟩
            have hd : decide ((0 : Int) < i) = false := by rw [decide_eq_false_iff_not]; omega
            have hd2 : decide (0 < i) = false := by rw [decide_eq_false_iff_not]; omega
            clear h30 h31 hn0
            go_wp2_with fail
            go_quiet (fail)
            obtain ⟨w2, hw2⟩ : ∃ w2, w2 = wr.drewN nq := ⟨_, rfl⟩
            rw [← hw2]
            have Q2 : Hid (Qt w w2) := HQ.out.trans ⟨_, hw2⟩
            have c1' : w2.cell? ⟨cb, 1, none⟩ = some (.int .u64 (W 1)) := by rw [hw2]; exact c1
            clear hw2 c1 c2 c3 c28 HQ HC
            by_cases h1 : W 1 = 0
            · have e1 : (W 1 == 0) = true := by simp [h1]
              have Hv : Hid (validC W slots size) := ⟨HA.out, Hm.out, .inl h1⟩
              clear h1
              go_wp2_with fail
              go_ret
              exact ⟨true, rfl, by simp; exact Hv.out, Q2.out⟩
            · have e1 : (W 1 == 0) = false := by simp [h1]
              have Hv : Hid (ptrValid (W 1).toNat size = true ↔ validC W slots size) := ⟨fun h => ⟨HA.out, Hm.out, .inr h⟩, fun h => h.2.2.resolve_left h1⟩
              clear h1
              go_wp2_with fail
              have hc := ptrValid_any (w := w2) (W 1).toNat size (by have := HW.out 1 (by omega); omega)
              rw [show (((W 1).toNat : Nat) : Int) = W 1 from by have := HW.out 1 (by omega); omega] at hc
              (with_reducible refine hc.mono ?_)
              rintro e w9 ⟨rfl, rfl⟩
              clear hc
              go_wp2_with fail
              go_ret
              exact ⟨_, rfl, Hv.out, Q2.out⟩
          · have hd : (0 : Int) < i := by omega
            have hd2 : 0 < i := by omega
            have hkk : ∀ wx, Qt wr wx → Calls Try.prog 63 #[.pointer (some ⟨cb, 0, none⟩), .int .i64 ((i : Int) - 1)] wx fun r w' => r = .returned (.int .u64 (keyAt W slots (slots.length - 1))) ∧ Qt wx w' := by
              intro wx hx
              have := key_at (HC.out.qt hx) (i - 1) (by rw [← HN.out]; omega)
              rw [show ((i - 1 : Nat) : Int) = (i : Int) - 1 from by omega] at this
              rw [← HN.out]; exact this
            have HKK := Lib.hid hkk
            have Hv2 : Hid (W 3 = 1) := h31
            clear h30 h31 hn0 hkk
            have hw1 : IntKind.i64.wrap ((i : Int) - 1) = (i : Int) - 1 := IntWalk.i64_in _ (by omega)
            go_wp2_with fail
            go_quiet ((go_at_call 63; exact Calls.quiet_of (HKK.out _ (Qt.drewN _ _))))
            clear hw1
            obtain ⟨w2, hw2⟩ : ∃ w2, w2 = wr.drewN nq := ⟨_, rfl⟩
            rw [← hw2]
            have Q2 : Hid (Qt w w2) := HQ.out.trans ⟨_, hw2⟩
            have c1' : w2.cell? ⟨cb, 1, none⟩ = some (.int .u64 (W 1)) := by rw [hw2]; exact c1
            clear hw2 c1 c2 c3 c28 HQ HC
            by_cases hk : W 2 ≤ keyAt W slots (slots.length - 1)
            · have Hn : Hid (¬ validC W slots size) := fun h => by
                have h1 := Hv2.out
                rcases h.2.1 with h' | h'
                · omega
                · have := h'.2 (by rw [← HN.out]; omega); omega
              go_wp2_with fail
              go_ret
              exact ⟨false, rfl, by simp; exact Hn.out, Q2.out⟩
            · have Hm : Hid (W 3 = 0 ∧ W 2 = 0 ∨ W 3 = 1 ∧ (0 < slots.length → keyAt W slots (slots.length - 1) < W 2)) := .inr ⟨Hv2.out, fun _ => by omega⟩
              by_cases h1 : W 1 = 0
              · have e1 : (W 1 == 0) = true := by simp [h1]
                have Hv : Hid (validC W slots size) := ⟨HA.out, Hm.out, .inl h1⟩
                clear h1
                go_wp2_with fail
                go_ret
                exact ⟨true, rfl, by simp; exact Hv.out, Q2.out⟩
              · have e1 : (W 1 == 0) = false := by simp [h1]
                have Hv : Hid (ptrValid (W 1).toNat size = true ↔ validC W slots size) := ⟨fun h => ⟨HA.out, Hm.out, .inr h⟩, fun h => h.2.2.resolve_left h1⟩
                clear h1
                go_wp2_with fail
                have hc := ptrValid_any (w := w2) (W 1).toNat size (by have := HW.out 1 (by omega); omega)
                rw [show (((W 1).toNat : Nat) : Int) = W 1 from by have := HW.out 1 (by omega); omega] at hc
                (with_reducible refine hc.mono ?_)
                rintro e w9 ⟨rfl, rfl⟩
                clear hc
                go_wp2_with fail
                go_ret
                exact ⟨_, rfl, Hv.out, Q2.out⟩
        · have e31 : (W 3 == 1) = false := by simp [h31]
          have Hn : Hid (¬ validC W slots size) := fun h => by rcases h.2.1 with h' | h' <;> omega
          clear h30 h31
          go_wp2_with fail
          go_ret
          exact ⟨false, rfl, by simp; exact Hn.out, HQ.out⟩
end
end Go.Proofs.Ytkoijmoendepgaa
