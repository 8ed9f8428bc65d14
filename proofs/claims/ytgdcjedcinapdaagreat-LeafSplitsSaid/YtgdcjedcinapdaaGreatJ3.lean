/- Plain arithmetic of the permutation word. -/
import Derived.Test.YtgdcjedcinapdaaGreatJ1
import Derived.Laws.BitsAllLaws
import Derived.Test.YtgdcjedcinapdaaGreatJ2
namespace Go.Proofs.YtgdcjedcinapdaaGreat

/-- Slots as digits, the first one lowest. -/
def digs : List Nat → Nat
  | [] => 0
  | s :: l => s + 16 * digs l
/-- The permutation word. -/
def ordN (slots : List Nat) (c : Nat) : Nat := (c % 4096) * 4503599627370496 + 16 * digs slots + slots.length

theorem digs_append (l m : List Nat) : digs (l ++ m) = digs l + 16 ^ l.length * digs m := by
  induction l with
  | nil => simp [digs]
  | cons s l ih => simp only [List.cons_append, digs, ih, List.length_cons, Nat.pow_succ, Nat.mul_add]; rw [← Nat.mul_assoc, Nat.mul_comm 16 (16 ^ l.length)]; omega
theorem digs_lt (l : List Nat) (h : ∀ s ∈ l, s < 16) : digs l < 16 ^ l.length := by
  induction l with
  | nil => simp [digs]
  | cons s l ih =>
    have h1 := ih (fun x hx => h x (by simp [hx]))
    have h2 := h s (by simp)
    simp only [digs, List.length_cons, Nat.pow_succ]
    omega
theorem pow16 (k : Nat) : (16 : Nat) ^ k = 2 ^ (4 * k) := by rw [Nat.pow_mul]

/-- One round of order: the next slot's digit is or-ed in. -/
theorem ord_step (l : List Nat) (n c s : Nat) (hl : ∀ x ∈ l, x < 16) (hs : s < 16) (hn : n < 16) (hk : l.length < 12) :
    ((c % 4096) * 4503599627370496 + 16 * digs l + n) ||| (s * 2 ^ (4 + 4 * l.length)) = (c % 4096) * 4503599627370496 + 16 * digs (l ++ [s]) + n := by
  have h1 := digs_lt l hl
  rw [pow16] at h1
  have e1 : digs (l ++ [s]) = digs l + 2 ^ (4 * l.length) * s := by rw [digs_append, pow16]; simp [digs]
  have hp : (2 : Nat) ^ (4 + 4 * l.length) = 16 * 2 ^ (4 * l.length) := by rw [Nat.pow_add]
  have hlo : 16 * digs l + n < 2 ^ (4 + 4 * l.length) := by rw [hp]; omega
  have hq : (2 : Nat) ^ (8 + 4 * l.length) ≤ 2 ^ 52 := Nat.pow_le_pow_right (by omega) (by omega)
  have hq2 : (2 : Nat) ^ (8 + 4 * l.length) = 16 * 2 ^ (4 + 4 * l.length) := by rw [show 8 + 4 * l.length = 4 + (4 + 4 * l.length) from by omega, Nat.pow_add]
  have hx : s * 2 ^ (4 + 4 * l.length) + (16 * digs l + n) < 2 ^ 52 := by
    have : s * 2 ^ (4 + 4 * l.length) ≤ 15 * 2 ^ (4 + 4 * l.length) := Nat.mul_le_mul_right _ (by omega)
    omega
  have j1 : (c % 4096) * 4503599627370496 ||| (16 * digs l + n) = (c % 4096) * 4503599627370496 + (16 * digs l + n) := nat_join 52 _ _ (by omega) (by omega)
  have j2 : s * 2 ^ (4 + 4 * l.length) ||| (16 * digs l + n) = s * 2 ^ (4 + 4 * l.length) + (16 * digs l + n) := nat_join (4 + 4 * l.length) _ _ (Nat.mul_mod_left _ _) hlo
  have j3 : (c % 4096) * 4503599627370496 ||| (s * 2 ^ (4 + 4 * l.length) + (16 * digs l + n)) = (c % 4096) * 4503599627370496 + (s * 2 ^ (4 + 4 * l.length) + (16 * digs l + n)) := nat_join 52 _ _ (by omega) hx
  rw [Nat.add_assoc, ← j1, Nat.or_assoc, Nat.or_comm (16 * digs l + n), j2, j3, e1, hp]
  rw [← Nat.mul_assoc s 16, Nat.mul_comm s 16, Nat.mul_assoc 16 s, Nat.mul_comm s]
  omega
theorem ord_lt (l : List Nat) (n c : Nat) (hl : ∀ x ∈ l, x < 16) (hn : n < 16) (hk : l.length ≤ 12) : (c % 4096) * 4503599627370496 + 16 * digs l + n < 18446744073709551616 := by
  have h1 := digs_lt l hl
  have h2 : (16 : Nat) ^ l.length ≤ 16 ^ 12 := Nat.pow_le_pow_right (by omega) hk
  have h3 : (16 : Nat) ^ 12 = 281474976710656 := by decide
  omega
/-- The word behind k rounds of order. -/
def ordP (slots : List Nat) (c k : Nat) : Nat := (c % 4096) * 4503599627370496 + 16 * digs (slots.take k) + slots.length
theorem ordP_end (slots : List Nat) (c : Nat) : ordP slots c slots.length = ordN slots c := by unfold ordP ordN; rw [List.take_length]
theorem ordP_lt (slots : List Nat) (c k : Nat) (h16 : ∀ x ∈ slots, x < 16) (hl : slots.length ≤ 12) : ordP slots c k < 18446744073709551616 :=
  ord_lt _ _ _ (fun x hx => h16 x (List.mem_of_mem_take hx)) (by omega) (by rw [List.length_take]; omega)
theorem ordP_step (slots : List Nat) (c k s : Nat) (h16 : ∀ x ∈ slots, x < 16) (hl : slots.length ≤ 12) (he : slots[k]? = some s) :
    bits .or .u64 (ordP slots c k : Int) (IntKind.u64.wrap ((s : Int) * 2 ^ (4 + 4 * k))) = (ordP slots c (k + 1) : Int) := by
  have hk : k < slots.length := by
    rcases Nat.lt_or_ge k slots.length with h | h
    · exact h
    · rw [List.getElem?_eq_none h] at he; cases he
  have hs : s < 16 := h16 s (List.mem_of_getElem? he)
  have ht : slots.take (k + 1) = slots.take k ++ [s] := by rw [List.take_add_one, he]; rfl
  have hl' : (slots.take k).length = k := by rw [List.length_take]; omega
  have hst := ord_step (slots.take k) slots.length c s (fun x hx => h16 x (List.mem_of_mem_take hx)) hs (by omega) (by omega)
  have hp : (2 : Nat) ^ (4 + 4 * k) ≤ 2 ^ 48 := Nat.pow_le_pow_right (by omega) (by omega)
  have hx : s * 2 ^ (4 + 4 * k) < 18446744073709551616 := by
    have : s * 2 ^ (4 + 4 * k) ≤ 15 * 2 ^ (4 + 4 * k) := Nat.mul_le_mul_right _ (by omega)
    omega
  have ew : IntKind.u64.wrap ((s : Int) * 2 ^ (4 + 4 * k)) = ((s * 2 ^ (4 + 4 * k) : Nat) : Int) := by
    rw [IntKind.wrap_u64]
    have : ((s : Int) * 2 ^ (4 + 4 * k)) = ((s * 2 ^ (4 + 4 * k) : Nat) : Int) := by simp
    rw [this]; omega
  rw [ew, u64_or_nat _ _ (ordP_lt slots c k h16 hl) hx]
  rw [hl'] at hst
  unfold ordP
  rw [hst, ht]
theorem ordP_start (slots : List Nat) (c : Nat) (hl : slots.length ≤ 12) : bits .or .u64 (slots.length : Int) ((c : Int) % 4096 * 4503599627370496) = (ordP slots c 0 : Int) := by
  have e : ((c : Int) % 4096 * 4503599627370496) = ((c % 4096 * 4503599627370496 : Nat) : Int) := by omega
  rw [e, u64_or_nat _ _ (by omega) (by omega), Nat.or_comm, nat_join 52 _ _ (by omega) (by omega)]
  simp [ordP, digs]
/-- The reference's word when the digits from t on are in. -/
def permP (slots : List Nat) (c t : Nat) : Nat := (c % 4096) * 16 ^ (12 - t) + digs (slots.drop t)
theorem permP_start (slots : List Nat) (c : Nat) (hl : slots.length ≤ 12) : permP slots c 12 = c % 4096 := by
  simp [permP, List.drop_of_length_le hl, digs]
theorem getD_none {α : Type} (l : List α) (t : Nat) (h : l.length ≤ t) {d : α} : l.getD t d = d := by simp [List.getD, List.getElem?_eq_none h]
theorem digs_drop (slots : List Nat) (t : Nat) : digs (slots.drop t) = slots.getD t 0 + 16 * digs (slots.drop (t + 1)) := by
  by_cases h : t < slots.length
  · rw [List.drop_eq_getElem_cons h]
    simp [digs, h]
  · rw [List.drop_of_length_le (by omega), List.drop_of_length_le (by omega), getD_none _ _ (by omega)]
    rfl
theorem permP_step (slots : List Nat) (c t : Nat) (ht : t < 12) : permP slots c t = permP slots c (t + 1) * 16 + slots.getD t 0 := by
  unfold permP
  rw [digs_drop, show 12 - t = (12 - (t + 1)) + 1 from by omega, Nat.pow_succ]
  generalize (16 : Nat) ^ (12 - (t + 1)) = q
  rw [Nat.add_mul, Nat.mul_assoc]
  omega
theorem permP_lt (slots : List Nat) (c t : Nat) (h16 : ∀ x ∈ slots, x < 16) (hl : slots.length ≤ 12) (ht : 0 < t) (ht2 : t ≤ 12) : permP slots c t < 72057594037927936 := by
  have h1 := digs_lt (slots.drop t) (fun x hx => h16 x (List.mem_of_mem_drop hx))
  rw [List.length_drop] at h1
  have h2 : (16 : Nat) ^ (slots.length - t) ≤ 16 ^ (12 - t) := Nat.pow_le_pow_right (by omega) (by omega)
  have h3 : (16 : Nat) ^ (12 - t) ≤ 16 ^ 11 := Nat.pow_le_pow_right (by omega) (by omega)
  have h4 : (16 : Nat) ^ 11 = 17592186044416 := by decide
  unfold permP
  have h5 : (c % 4096) * 16 ^ (12 - t) ≤ 4095 * 16 ^ (12 - t) := Nat.mul_le_mul_right _ (by omega)
  omega
theorem permP_end (slots : List Nat) (c : Nat) : permP slots c 0 * 16 + slots.length = ordN slots c := by
  have h4 : (16 : Nat) ^ 12 = 281474976710656 := by decide
  simp only [permP, ordN, List.drop_zero, Nat.sub_zero, h4]
  omega
theorem permP_zero_lt (slots : List Nat) (c : Nat) (h16 : ∀ x ∈ slots, x < 16) (hl : slots.length ≤ 12) : permP slots c 0 < 1152921504606846976 := by
  have h := permP_step slots c 0 (by omega)
  have h1 := permP_lt slots c 1 h16 hl (by omega) (by omega)
  have h2 : slots.getD 0 0 < 16 := by
    cases slots with
    | nil => simp
    | cons s l => simpa using h16 s (by simp)
  simp only [Nat.zero_add] at h
  omega
end Go.Proofs.YtgdcjedcinapdaaGreat

/- The walk of leaf.order. -/
namespace Go.Proofs.YtgdcjedcinapdaaGreat
open Go.RowKit

section
variable {w : World}

def natsI (l : List Nat) : List Value := l.map fun (s : Nat) => Value.int .i64 s

set_option maxRecDepth 100000 in
set_option maxHeartbeats 1000000 in
theorem order_any (sv : Value) (slots : List Nat) (c : Nat) (hs : RdSl w 1 sv slots.length (natsI slots)) (hl : slots.length ≤ 12) (h16 : ∀ s ∈ slots, s < 16) (hc : c < 18446744073709551616) :
    Calls Tryz.prog 71 #[sv, .int .u64 c] w fun r w' => r = .returned (.int .u64 (ordN slots c)) ∧ w = w' := by
  obtain ⟨_, a, cap, rfl, hcap, ha⟩ := hs
  have HA := Lib.hid ha; have H16 := Lib.hid h16; clear ha h16
  have hlz : (0 : Int) ≤ slots.length := by omega
  go_enter Tryz.func71, Tryz.ntmps71
  go_wp2_with fail
  rw [ordP_start slots c hl]
  go_loop [5, 17] (fun x i => ∃ k : Nat, k ≤ slots.length ∧ i = .int .i64 k ∧ x = .int .u64 (ordP slots c k : Nat)) (fun _ i => slots.length - (intOf i).toNat)
  case atStart => exact ⟨0, Nat.zero_le _, rfl, rfl⟩
  case round =>
    obtain ⟨k, hk, rfl, rfl⟩ := hrel
    by_cases hlt : k < slots.length
    · obtain ⟨s, he⟩ : ∃ s, slots[k]? = some s := ⟨_, List.getElem?_eq_getElem hlt⟩
      have hs16 := H16.out s (List.mem_of_getElem? he)
      have hv : (natsI slots)[k]? = some (.int .i64 s) := by simp [natsI, he]
      obtain ⟨sb, so, rfl, hc'⟩ : ∃ sb so, a = some ⟨sb, so, none⟩ ∧ ∀ j u, (natsI slots)[j]? = some u → w.cell? ⟨sb, so + j, none⟩ = some u := by
        rcases HA.out with h0 | h0
        · rw [h0] at hv; simp at hv
        · exact h0
      have e1 := hc' _ _ hv
      have Hst := Lib.hid (ordP_step slots c k s H16.out hl he)
      clear hc' hv he
      go_wp2_with fail
      go_round
      case rel => exact ⟨k + 1, by omega, by go_num, by rw [Hst.out]⟩
      case measure => simp [intOf]; omega
    · obtain rfl : k = slots.length := by omega
      go_wp2_with fail
      go_ret
      exact ⟨ret_int (by rw [ordP_end]), rfl⟩
end
end Go.Proofs.YtgdcjedcinapdaaGreat

/- The walks of slices.Equal and of the reference's permutation. -/
namespace Go.Proofs.YtgdcjedcinapdaaGreat
open Go.RowKit

def intsU (l : List Int) : List Value := l.map fun s => Value.int .u64 s
theorem intsU_get (l : List Int) (k : Nat) (x : Int) (h : l[k]? = some x) : (intsU l)[k]? = some (.int .u64 x) := by simp [intsU, h]

section
variable {w : World}

set_option maxRecDepth 100000 in
set_option maxHeartbeats 1000000 in
theorem equalU_any (u v : Value) (xs ys : List Int) (hx : RdSl w 1 u xs.length (intsU xs)) (hy : RdSl w 1 v ys.length (intsU ys)) (hl : xs.length ≤ 4611686018) (_hl2 : ys.length ≤ 4611686018) :
    Calls Tryz.prog 31 #[u, v] w fun r w' => r = .returned (.bool (decide (xs = ys))) ∧ Below w.heap.size w w' := by
  obtain ⟨_, a, ca, rfl, hca, ha⟩ := hx
  obtain ⟨_, b, cb, rfl, hcb, hb⟩ := hy
  have HA := Lib.hid ha; have HB := Lib.hid hb; clear ha hb
  by_cases hlen : xs.length = ys.length
  · have hne : ((xs.length : Int) != (ys.length : Int)) = false := by simp; omega
    have Hlen := Lib.hid hlen
    go_enter Tryz.func31, Tryz.ntmps31
    clear hlen
    go_wp2_with fail
    go_loopw [13] (fun i wr => ∃ k : Nat, k ≤ xs.length ∧ i = .int .i64 k ∧ xs.take k = ys.take k ∧ ∃ q, wr = w.drewN q) (fun i _ => xs.length - (intOf i).toNat)
    case atStart => exact ⟨0, Nat.zero_le _, rfl, rfl, 0, rfl⟩
    case round =>
      obtain ⟨k, hk, rfl, heq, q, rfl⟩ := hrel
      have Heq := Lib.hid heq; clear heq
      by_cases hlt : k < xs.length
      · obtain ⟨x, hx⟩ : ∃ x, xs[k]? = some x := ⟨_, List.getElem?_eq_getElem hlt⟩
        obtain ⟨y, hy⟩ : ∃ y, ys[k]? = some y := ⟨_, List.getElem?_eq_getElem (by rw [← Hlen.out]; exact hlt)⟩
        obtain ⟨ba, oa, rfl, hca'⟩ := rd_at HA.out (intsU_get xs k x hx)
        obtain ⟨bb, ob, rfl, hcb'⟩ := rd_at HB.out (intsU_get ys k y hy)
        have e1 := hca' _ _ (intsU_get xs k x hx)
        have e2 := hcb' _ _ (intsU_get ys k y hy)
        have hlt2 : (k : Int) < ys.length := by have := Hlen.out; omega
        have hlt1 : (k : Int) < xs.length := by omega
        have Hx := Lib.hid hx; have Hy := Lib.hid hy
        clear hca' hcb' hx hy
        go_wp2_with fail
        go_quiet (fail)
        by_cases hxy : x = y
        · have hb : (x != y) = false := by simp [hxy]
          have Hxy := Lib.hid hxy; clear hxy
          go_wp2_with fail
          go_roundw
          case rel => exact ⟨k + 1, by omega, by go_num, by rw [List.take_add_one, List.take_add_one, Hx.out, Hy.out, Heq.out, Hxy.out], _, rfl⟩
          case measure => simp [intOf]; omega
        · have hb : (x != y) = true := by simp [hxy]
          have Hd : Hid (decide (xs = ys) = false) := by
            show decide (xs = ys) = false
            simp; intro h; apply hxy
            have h1 := Hx.out; rw [h, Hy.out] at h1; exact (Option.some.inj h1).symm
          clear hxy
          go_wp2_with fail
          go_ret
          exact ⟨ret_bool Hd.out.symm, ⟨rfl, rfl, rfl, Nat.le_refl _, fun _ _ => rfl⟩⟩
      · have Hd : Hid (decide (xs = ys) = true) := by
          show decide (xs = ys) = true
          have h1 := Heq.out
          rw [List.take_of_length_le (by omega), List.take_of_length_le (by have := Hlen.out; omega)] at h1
          simp [h1]
        go_wp2_with fail
        go_ret
        exact ⟨ret_bool Hd.out.symm, ⟨rfl, rfl, rfl, Nat.le_refl _, fun _ _ => rfl⟩⟩
  · have hne : ((xs.length : Int) != (ys.length : Int)) = true := by simp; omega
    have hd : decide (xs = ys) = false := by simp; intro h; exact hlen (by rw [h])
    have Hd := Lib.hid hd; clear hd hlen
    go_enter Tryz.func31, Tryz.ntmps31
    go_wp2_with fail
    go_ret
    exact ⟨ret_bool Hd.out.symm, Below.refl _ _⟩

set_option maxRecDepth 100000 in
set_option maxHeartbeats 1000000 in
theorem permutation_any (sv : Value) (slots : List Nat) (c : Nat) (hs : RdSl w 1 sv slots.length (natsI slots)) (hl : slots.length ≤ 12) (h16 : ∀ s ∈ slots, s < 16) (hc : c < 18446744073709551616) :
    Calls Tryz.prog 80 #[sv, .int .u64 c] w fun r w' => r = .returned (.int .u64 (ordN slots c)) ∧ w = w' := by
  obtain ⟨_, a, cap, rfl, hcap, ha⟩ := hs
  have HA := Lib.hid ha; have H16 := Lib.hid h16; clear ha h16
  have hst : ((c : Int) % 4096) = (permP slots c 12 : Nat) := by rw [permP_start slots c hl]; omega
  have Hst := Lib.hid hst; clear hst
  go_enter Tryz.func80, Tryz.ntmps80
  go_wp2_with fail
  rw [Hst.out]
  go_loop [5, 6] (fun x i => ∃ t : Nat, t ≤ 12 ∧ (t = 0 ∧ i = .int .i64 (-1) ∨ ∃ s : Nat, t = s + 1 ∧ i = .int .i64 s) ∧ x = .int .u64 (permP slots c t : Nat)) (fun _ i => (intOf i + 1).toNat)
  case atStart => exact ⟨12, Nat.le_refl _, .inr ⟨11, rfl, rfl⟩, rfl⟩
  case round =>
    obtain ⟨t, ht, hti, rfl⟩ := hrel
    rcases hti with ⟨rfl, rfl⟩ | ⟨s, rfl, rfl⟩
    · have h1 := permP_zero_lt slots c H16.out hl
      have He := Lib.hid (permP_end slots c)
      go_wp2_with fail
      go_ret
      exact ⟨ret_int (by rw [← He.out]; simp), rfl⟩
    · have h1 := permP_lt slots c (s + 1) H16.out hl (by omega) ht
      have He := Lib.hid (permP_step slots c s (by omega))
      by_cases hlt : s < slots.length
      · obtain ⟨d, hd⟩ : ∃ d, slots[s]? = some d := ⟨_, List.getElem?_eq_getElem hlt⟩
        have hd16 := H16.out d (List.mem_of_getElem? hd)
        have hv : (natsI slots)[s]? = some (.int .i64 d) := by simp [natsI, hd]
        obtain ⟨sb, so, rfl, hc'⟩ := rd_at HA.out hv
        have e1 := hc' _ _ hv
        have Hd : Hid (slots.getD s 0 = d) := by show slots.getD s 0 = d; simp [List.getD, hd]
        clear hc' hv hd
        go_wp2_with fail
        go_round
        case rel =>
          refine ⟨s, by omega, ?_, by rw [He.out, Hd.out]; simp⟩
          cases s with
          | zero => exact .inl ⟨rfl, by simp⟩
          | succ s => exact .inr ⟨s, rfl, by go_num⟩
        case measure => simp [intOf]
      · have Hd : Hid (slots.getD s 0 = 0) := by show slots.getD s 0 = 0; exact getD_none _ _ (by omega)
        go_wp2_with fail
        go_round
        case rel =>
          refine ⟨s, by omega, ?_, by rw [He.out, Hd.out]; simp⟩
          cases s with
          | zero => exact .inl ⟨rfl, by simp⟩
          | succ s => exact .inr ⟨s, rfl, by go_num⟩
        case measure => simp [intOf]
end
end Go.Proofs.YtgdcjedcinapdaaGreat
