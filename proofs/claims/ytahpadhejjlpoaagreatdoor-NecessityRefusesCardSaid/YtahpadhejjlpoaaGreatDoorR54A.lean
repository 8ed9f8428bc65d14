/- The walks of the reference of layer 54: word, Good, After. -/
import Derived.Test.YtahpadhejjlpoaaGreatDoorR5B
import Derived.Test.YtahpadhejjlpoaaGreatDoorMemA
namespace Go.Proofs.YtahpadhejjlpoaaGreatDoor
open Go.RowKit
attribute [local go_sem ↓] Go.wp_at_zero Go.wp_at_succ

theorem bytesL_get (F : Nat → Int) {N i : Nat} (hi : i < N) : (bytesL F N)[i]? = some (.int .u8 (byteAt F i)) := by
  unfold bytesL
  rw [List.getElem?_map, List.getElem?_range hi]
  rfl
theorem top_step (x : Int) (k : Nat) : x / 256 ^ (k + 1) * 256 + x / 256 ^ k % 256 = x / 256 ^ k := by
  rw [Int.pow_succ, ← Int.ediv_ediv_of_nonneg (Int.pow_nonneg (by omega))]
  omega
section
variable {w : World}
set_option maxRecDepth 100000 in
set_option maxHeartbeats 4000000 in
theorem r54word_any (pv : Value) (N : Nat) (F : Nat → Int) (h : RdSl w 1 pv N (bytesL F N)) (d : Nat) (hd : 8 * d + 8 ≤ N) (hN : N ≤ 1000000) (hF : 0 ≤ F d ∧ F d < 18446744073709551616) :
    Calls Tryz.prog 264 #[pv, .int .i64 (8 * d : Nat)] w fun r w' => r = .returned (.int .u64 (F d)) ∧ w = w' := by
  have H := Lib.hid h
  obtain ⟨_, a, c, rfl, hc, _⟩ := h
  obtain ⟨x, hx⟩ : ∃ x, F d = x := ⟨_, rfl⟩
  have HX := Lib.hid hx
  rw [hx] at hF ⊢
  have h8 : x / 256 ^ 8 = 0 := Int.ediv_eq_zero_of_lt hF.1 (by have := hF.2; omega)
  obtain ⟨o, ho⟩ : ∃ o, 8 * d = o := ⟨_, rfl⟩
  have HO := Lib.hid ho
  rw [ho] at hd ⊢
  clear hx ho
  go_enter Tryz.func264, Tryz.ntmps264
  go_wp2_with fail
  go_loop [5, 6] (fun z y => ∃ k : Nat, k ≤ 8 ∧ y = .int .i64 ((k : Int) - 1) ∧ z = .int .u64 (x / 256 ^ k)) (fun _ y => (intOf y + 1).toNat)
  case atStart => exact ⟨8, by omega, rfl, by rw [h8]⟩
  case round =>
    obtain ⟨k, hk, rfl, rfl⟩ := hrel
    by_cases hk0 : k = 0
    · subst hk0
      rw [show ((0 : Nat) : Int) - 1 = -1 from rfl, Int.pow_zero, Int.ediv_one]
      go_wp2_with fail
      go_ret
      exact ⟨rfl, rfl⟩
    · obtain ⟨i, rfl⟩ : ∃ i, k = i + 1 := ⟨k - 1, by omega⟩
      rw [show (((i + 1 : Nat) : Int) - 1) = (i : Int) by omega]
      have hi0 : (0 : Int) ≤ (i : Int) := by omega
      have hi8 : i < 8 := by omega
      have hby : byteAt F (o + i) = x / 256 ^ i % 256 := by
        unfold byteAt
        rw [← HO.out, show (8 * d + i) / 8 = d by omega, show (8 * d + i) % 8 = i by omega, HX.out, Nat.mul_comm i 8, Int.pow_mul]
        rfl
      have hst := top_step x i
      have hxl := bytesL_get F (N := N) (i := o + i) (by omega)
      obtain ⟨_, a', c', e', _, hE⟩ := H.out
      cases e'
      obtain ⟨fb, fo, rfl, hE2⟩ := rd_at hE hxl
      have q1 := hE2 _ _ hxl
      rw [hby] at q1
      have hy0 : 0 ≤ x / 256 ^ i := Int.ediv_nonneg hF.1 (Int.pow_nonneg (by omega))
      have hy1 : x / 256 ^ i ≤ x := Int.ediv_le_self _ hF.1
      have hv0 : 0 ≤ x / 256 ^ (i + 1) := Int.ediv_nonneg hF.1 (Int.pow_nonneg (by omega))
      have hxb := hF.2
      obtain ⟨y, hy⟩ : ∃ y, x / 256 ^ i = y := ⟨_, rfl⟩
      obtain ⟨v, hv⟩ : ∃ v, x / 256 ^ (i + 1) = v := ⟨_, rfl⟩
      have HY := Lib.hid hy
      rw [hy] at hst hy0 hy1 q1
      rw [hv] at hst hv0 ⊢
      obtain ⟨b, hb⟩ : ∃ b, y % 256 = b := ⟨_, rfl⟩
      rw [hb] at hst q1
      have hb0 : 0 ≤ b ∧ b < 256 := by omega
      have ga1 : IntKind.u64.wrap (v * 256) = v * 256 := IntWalk.u64_in _ (by omega)
      have ga2 : IntKind.u64.wrap b = b := IntWalk.u64_in _ (by omega)
      have ga3 : IntKind.u64.wrap y = y := IntWalk.u64_in _ (by omega)
      have ga4 : IntKind.i64.wrap ((i : Int) - 1) = (i : Int) - 1 := IntWalk.i64_in _ (by omega)
      have ga6 : IntKind.i64.wrap ((o : Int) + (i : Int)) = (o : Int) + (i : Int) := IntWalk.i64_in _ (by omega)
      have hoi : (o : Int) + (i : Int) < (N : Int) := by omega
      have ho0 : 0 ≤ (o : Int) + (i : Int) := by omega
      have HB0 := Lib.hid hb0
      clear hby hxl hE hE2 hy hv hb hxb hy1
      go_wp2_with fail
      exact ⟨⟨i, by omega, rfl, by rw [HY.out]⟩, by simp [intOf]⟩
set_option maxHeartbeats 2000000 in
theorem r54Good_any (pv : Value) (N : Nat) (F : Nat → Int) (h : RdSl w 1 pv N (bytesL F N)) (hd : 136 ≤ N) (hN : N ≤ 1000000) (hF : ∀ d, 0 ≤ F d ∧ F d < 18446744073709551616) (e : Bool) :
    Calls Tryz.prog 263 #[pv, .bool e] w fun r w' => r = .returned (.bool (goodF F e)) ∧ w = w' := by
  have h8 := Lib.hid (r54word_any pv N F h 8 (by omega) hN (hF 8))
  have h0 := Lib.hid (r54word_any pv N F h 0 (by omega) hN (hF 0))
  have h16 := Lib.hid (r54word_any pv N F h 16 (by omega) hN (hF 16))
  rw [show ((8 * 8 : Nat) : Int) = 64 from rfl] at h8
  rw [show ((8 * 0 : Nat) : Int) = 0 from rfl] at h0
  rw [show ((8 * 16 : Nat) : Int) = 128 from rfl] at h16
  have HG : Hid (goodF F e = if F 8 = 0 then !e else decide (F 0 = 7) && decide (F 16 = 7)) := rfl
  obtain ⟨_, a, c, rfl, _, _⟩ := h
  obtain ⟨x8, hx8⟩ : ∃ x, F 8 = x := ⟨_, rfl⟩
  obtain ⟨x0, hx0⟩ : ∃ x, F 0 = x := ⟨_, rfl⟩
  obtain ⟨x16, hx16⟩ : ∃ x, F 16 = x := ⟨_, rfl⟩
  rw [hx8] at h8; rw [hx0] at h0; rw [hx16] at h16
  rw [hx8, hx0, hx16] at HG
  rw [HG.out]
  clear hF hx8 hx0 hx16 HG
  by_cases e8 : x8 = 0
  · rw [if_pos e8]
    subst e8
    go_enter Tryz.func263, Tryz.ntmps263
    go_wp2_with fail
    (with_reducible refine h8.out.mono ?_)
    rintro r w1 ⟨rfl, rfl⟩
    go_wp2_with fail
    go_ret
    exact ⟨rfl, rfl⟩
  · rw [if_neg e8]
    have b8 : (x8 == 0) = false := by simpa using e8
    by_cases e0 : x0 = 7
    · subst e0
      go_enter Tryz.func263, Tryz.ntmps263
      go_wp2_with fail
      (with_reducible refine h8.out.mono ?_)
      rintro r w1 ⟨rfl, rfl⟩
      go_wp2_with fail
      (with_reducible refine h0.out.mono ?_)
      rintro r w1 ⟨rfl, rfl⟩
      go_wp2_with fail
      (with_reducible refine h16.out.mono ?_)
      rintro r w1 ⟨rfl, rfl⟩
      go_wp2_with fail
      go_ret
      refine ⟨ret_bool ?_, rfl⟩
      by_cases e16 : x16 = 7 <;> simp [e16]
    · have b0 : (x0 == 7) = false := by simpa using e0
      go_enter Tryz.func263, Tryz.ntmps263
      go_wp2_with fail
      (with_reducible refine h8.out.mono ?_)
      rintro r w1 ⟨rfl, rfl⟩
      go_wp2_with fail
      (with_reducible refine h0.out.mono ?_)
      rintro r w1 ⟨rfl, rfl⟩
      go_wp2_with fail
      go_ret
      refine ⟨ret_bool ?_, rfl⟩
      simp [e0]
end
/-- A program as the reference has it. -/
def refP (q : List (Nat × Nat × Int)) : List Value := q.flatMap fun e => [.int .i64 ((e.1 : Int) - 1), .int .u64 e.2.1, .int .u64 e.2.2]
theorem refP_append (a b : List (Nat × Nat × Int)) : refP (a ++ b) = refP a ++ refP b := by simp [refP]
theorem refP_length (l : List (Nat × Nat × Int)) : (refP l).length = l.length * 3 := by
  induction l with
  | nil => rfl
  | cons e l ih => simp [refP] at *; omega
theorem refP_get (l : List (Nat × Nat × Int)) : ∀ (k : Nat) (e : Nat × Nat × Int), l[k]? = some e → (refP l)[k * 3]? = some (.int .i64 ((e.1 : Int) - 1)) ∧ (refP l)[k * 3 + 1]? = some (.int .u64 e.2.1) ∧ (refP l)[k * 3 + 2]? = some (.int .u64 e.2.2) := by
  induction l with
  | nil => intro k e h; simp at h
  | cons x l ih =>
    intro k e he
    have hf : refP (x :: l) = .int .i64 ((x.1 : Int) - 1) :: .int .u64 x.2.1 :: .int .u64 x.2.2 :: refP l := rfl
    cases k with
    | zero => simp at he; subst he; simp [hf]
    | succ k =>
      have := ih k e (by simpa using he)
      rw [hf, show (k + 1) * 3 = k * 3 + 1 + 1 + 1 from by omega]
      simpa using this
theorem refP_one (l : List (Nat × Nat × Int)) : ∀ u ∈ refP l, u.oneCell' = true := by
  intro u hu
  simp [refP] at hu
  obtain ⟨a, b, c, _, rfl | rfl | rfl⟩ := hu <;> rfl
/-- Instructions of valid words on n lines. -/
structure OkQ (n : Nat) (e : Nat × Nat × Int) : Prop where
  lo : 1 ≤ e.1
  hi : e.1 ≤ 3
  al : e.2.1 % 8 = 0
  lt : e.2.1 < 64 * n
  v0 : 0 ≤ e.2.2
  v1 : e.2.2 < 18446744073709551616
theorem run_n (D : Dev) (q : List (Nat × Nat × Int)) : (D.run 0 q).n = D.n := by
  induction q generalizing D with
  | nil => rfl
  | cons e q ih =>
    show ((D.step 0 e).run 0 q).n = D.n
    rw [ih]
    unfold Dev.step Dev.store Dev.flush Dev.fence Dev.countedD Dev.onD Dev.fail
    repeat' split
    all_goals rfl
theorem below_two_upd {w w1 w2 : World} {rb lb : Nat} (h : Below w.heap.size w w1) (hu : Upd (Two rb lb) w1 w2) (h1 : w.heap.size ≤ rb) (h2 : w.heap.size ≤ lb) : Below w.heap.size w w2 :=
  ⟨hu.os.trans h.os, hu.tape.trans h.tape, hu.output.trans h.output, Nat.le_trans h.size hu.size, fun k hk => (hu.block k (Nat.lt_of_lt_of_le hk h.size) (by rintro (e | e) <;> omega)).trans (h.block k hk)⟩
section
variable {w : World}
end
end Go.Proofs.YtahpadhejjlpoaaGreatDoor
