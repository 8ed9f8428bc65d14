/- The walks of the reference of layer 54: word, Good, After. -/
import Derived.Test.YtoakngofgkkpnaaR5B
import Derived.Test.YtoakngofgkkpnaaMemA
namespace Go.Proofs.Ytoakngofgkkpnaa
open Go.RowKit
attribute [local go_sem ↓] Go.wp_at_zero Go.wp_at_succ

theorem bytesL_get (F : Nat → Int) {N i : Nat} (hi : i < N) : (bytesL F N)[i]? = some (.int .u8 (byteAt F i)) := by
  unfold bytesL
  rw [List.getElem?_map, List.getElem?_range hi]
  rfl
theorem top_step (x : Int) (k : Nat) : x / 256 ^ (k + 1) * 256 + x / 256 ^ k % 256 = x / 256 ^ k := by
  rw [Int.pow_succ, ← Int.ediv_ediv_of_nonneg (Int.pow_nonneg (by omega))]
  omega
section
variable {w : World}
set_option maxRecDepth 100000 in
set_option maxHeartbeats 4000000 in
theorem r54word_any (pv : Value) (N : Nat) (F : Nat → Int) (h : RdSl w 1 pv N (bytesL F N)) (d : Nat) (hd : 8 * d + 8 ≤ N) (hN : N ≤ 1000000) (hF : 0 ≤ F d ∧ F d < 18446744073709551616) :
    Calls Try.prog 31 #[pv, .int .i64 (8 * d : Nat)] w fun r w' => r = .returned (.int .u64 (F d)) ∧ w = w' := by
  have H := Lib.hid h
  obtain ⟨_, a, c, rfl, hc, _⟩ := h
  obtain ⟨x, hx⟩ : ∃ x, F d = x := ⟨_, rfl⟩
  have HX := Lib.hid hx
  rw [hx] at hF ⊢
  have h8 : x / 256 ^ 8 = 0 := Int.ediv_eq_zero_of_lt hF.1 (by have := hF.2; omega)
  obtain ⟨o, ho⟩ : ∃ o, 8 * d = o := ⟨_, rfl⟩
  have HO := Lib.hid ho
  rw [ho] at hd ⊢
  clear hx ho
  go_enter Try.func31, Try.ntmps31
  go_wp2_with fail
  go_loop [5, 6] (fun z y => ∃ k : Nat, k ≤ 8 ∧ y = .int .i64 ((k : Int) - 1) ∧ z = .int .u64 (x / 256 ^ k)) (fun _ y => (intOf y + 1).toNat)
  case atStart => exact ⟨8, by omega, rfl, by rw [h8]⟩
  case round =>
    obtain ⟨k, hk, rfl, rfl⟩ := hrel
    by_cases hk0 : k = 0
    · subst hk0
      rw [show ((0 : Nat) : Int) - 1 = -1 from rfl, Int.pow_zero, Int.ediv_one]
      go_wp2_with fail
      go_ret
      exact ⟨rfl, rfl⟩
    · obtain ⟨i, rfl⟩ : ∃ i, k = i + 1 := ⟨k - 1, by omega⟩
      rw [show (((i + 1 : Nat) : Int) - 1) = (i : Int) by omega]
      have hi0 : (0 : Int) ≤ (i : Int) := by omega
      have hi8 : i < 8 := by omega
      have hby : byteAt F (o + i) = x / 256 ^ i % 256 := by
        unfold byteAt
        rw [← HO.out, show (8 * d + i) / 8 = d by omega, show (8 * d + i) % 8 = i by omega, HX.out, Nat.mul_comm i 8, Int.pow_mul]
        rfl
      have hst := top_step x i
      have hxl := bytesL_get F (N := N) (i := o + i) (by omega)
      obtain ⟨_, a', c', e', _, hE⟩ := H.out
      cases e'
      obtain ⟨fb, fo, rfl, hE2⟩ := rd_at hE hxl
      have q1 := hE2 _ _ hxl
      rw [hby] at q1
      have hy0 : 0 ≤ x / 256 ^ i := Int.ediv_nonneg hF.1 (Int.pow_nonneg (by omega))
      have hy1 : x / 256 ^ i ≤ x := Int.ediv_le_self _ hF.1
      have hv0 : 0 ≤ x / 256 ^ (i + 1) := Int.ediv_nonneg hF.1 (Int.pow_nonneg (by omega))
      have hxb := hF.2
      obtain ⟨y, hy⟩ : ∃ y, x / 256 ^ i = y := ⟨_, rfl⟩
      obtain ⟨v, hv⟩ : ∃ v, x / 256 ^ (i + 1) = v := ⟨_, rfl⟩
      have HY := Lib.hid hy
      rw [hy] at hst hy0 hy1 q1
      rw [hv] at hst hv0 ⊢
      obtain ⟨b, hb⟩ : ∃ b, y % 256 = b := ⟨_, rfl⟩
      rw [hb] at hst q1
      have hb0 : 0 ≤ b ∧ b < 256 := by omega
      have ga1 : IntKind.u64.wrap (v * 256) = v * 256 := IntWalk.u64_in _ (by omega)
      have ga2 : IntKind.u64.wrap b = b := IntWalk.u64_in _ (by omega)
      have ga3 : IntKind.u64.wrap y = y := IntWalk.u64_in _ (by omega)
      have ga4 : IntKind.i64.wrap ((i : Int) - 1) = (i : Int) - 1 := IntWalk.i64_in _ (by omega)
      have ga6 : IntKind.i64.wrap ((o : Int) + (i : Int)) = (o : Int) + (i : Int) := IntWalk.i64_in _ (by omega)
      have hoi : (o : Int) + (i : Int) < (N : Int) := by omega
      have ho0 : 0 ≤ (o : Int) + (i : Int) := by omega
      have HB0 := Lib.hid hb0
      clear hby hxl hE hE2 hy hv hb hxb hy1
      go_wp2_with fail
      exact ⟨⟨i, by omega, rfl, by rw [HY.out]⟩, by simp [intOf]⟩
set_option maxHeartbeats 2000000 in
theorem r54Good_any (pv : Value) (N : Nat) (F : Nat → Int) (h : RdSl w 1 pv N (bytesL F N)) (hd : 136 ≤ N) (hN : N ≤ 1000000) (hF : ∀ d, 0 ≤ F d ∧ F d < 18446744073709551616) (e : Bool) :
    Calls Try.prog 15 #[pv, .bool e] w fun r w' => r = .returned (.bool (goodF F e)) ∧ w = w' := by
  have h8 := Lib.hid (r54word_any pv N F h 8 (by omega) hN (hF 8))
  have h0 := Lib.hid (r54word_any pv N F h 0 (by omega) hN (hF 0))
  have h16 := Lib.hid (r54word_any pv N F h 16 (by omega) hN (hF 16))
  rw [show ((8 * 8 : Nat) : Int) = 64 from rfl] at h8
  rw [show ((8 * 0 : Nat) : Int) = 0 from rfl] at h0
  rw [show ((8 * 16 : Nat) : Int) = 128 from rfl] at h16
  have HG : Hid (goodF F e = if F 8 = 0 then !e else decide (F 0 = 7) && decide (F 16 = 7)) := rfl
  obtain ⟨_, a, c, rfl, _, _⟩ := h
  obtain ⟨x8, hx8⟩ : ∃ x, F 8 = x := ⟨_, rfl⟩
  obtain ⟨x0, hx0⟩ : ∃ x, F 0 = x := ⟨_, rfl⟩
  obtain ⟨x16, hx16⟩ : ∃ x, F 16 = x := ⟨_, rfl⟩
  rw [hx8] at h8; rw [hx0] at h0; rw [hx16] at h16
  rw [hx8, hx0, hx16] at HG
  rw [HG.out]
  clear hF hx8 hx0 hx16 HG
  by_cases e8 : x8 = 0
  · rw [if_pos e8]
    subst e8
    go_enter Try.func15, Try.ntmps15
    go_wp2_with fail
    (with_reducible refine h8.out.mono ?_)
    rintro r w1 ⟨rfl, rfl⟩
    go_wp2_with fail
    go_ret
    exact ⟨rfl, rfl⟩
  · rw [if_neg e8]
    have b8 : (x8 == 0) = false := by simpa using e8
    by_cases e0 : x0 = 7
    · subst e0
      go_enter Try.func15, Try.ntmps15
      go_wp2_with fail
      (with_reducible refine h8.out.mono ?_)
      rintro r w1 ⟨rfl, rfl⟩
      go_wp2_with fail
      (with_reducible refine h0.out.mono ?_)
      rintro r w1 ⟨rfl, rfl⟩
      go_wp2_with fail
      (with_reducible refine h16.out.mono ?_)
      rintro r w1 ⟨rfl, rfl⟩
      go_wp2_with fail
      go_ret
      refine ⟨ret_bool ?_, rfl⟩
      by_cases e16 : x16 = 7 <;> simp [e16]
    · have b0 : (x0 == 7) = false := by simpa using e0
      go_enter Try.func15, Try.ntmps15
      go_wp2_with fail
      (with_reducible refine h8.out.mono ?_)
      rintro r w1 ⟨rfl, rfl⟩
      go_wp2_with fail
      (with_reducible refine h0.out.mono ?_)
      rintro r w1 ⟨rfl, rfl⟩
      go_wp2_with fail
      go_ret
      refine ⟨ret_bool ?_, rfl⟩
      simp [e0]
end
/-- A program as the reference has it. -/
def refP (q : List (Nat × Nat × Int)) : List Value := q.flatMap fun e => [.int .i64 ((e.1 : Int) - 1), .int .u64 e.2.1, .int .u64 e.2.2]
theorem refP_append (a b : List (Nat × Nat × Int)) : refP (a ++ b) = refP a ++ refP b := by simp [refP]
theorem refP_length (l : List (Nat × Nat × Int)) : (refP l).length = l.length * 3 := by
  induction l with
  | nil => rfl
  | cons e l ih => simp [refP] at *; omega
theorem refP_get (l : List (Nat × Nat × Int)) : ∀ (k : Nat) (e : Nat × Nat × Int), l[k]? = some e → (refP l)[k * 3]? = some (.int .i64 ((e.1 : Int) - 1)) ∧ (refP l)[k * 3 + 1]? = some (.int .u64 e.2.1) ∧ (refP l)[k * 3 + 2]? = some (.int .u64 e.2.2) := by
  induction l with
  | nil => intro k e h; simp at h
  | cons x l ih =>
    intro k e he
    have hf : refP (x :: l) = .int .i64 ((x.1 : Int) - 1) :: .int .u64 x.2.1 :: .int .u64 x.2.2 :: refP l := rfl
    cases k with
    | zero => simp at he; subst he; simp [hf]
    | succ k =>
      have := ih k e (by simpa using he)
      rw [hf, show (k + 1) * 3 = k * 3 + 1 + 1 + 1 from by omega]
      simpa using this
theorem refP_one (l : List (Nat × Nat × Int)) : ∀ u ∈ refP l, u.oneCell' = true := by
  intro u hu
  simp [refP] at hu
  obtain ⟨a, b, c, _, rfl | rfl | rfl⟩ := hu <;> rfl
/-- Instructions of valid words on n lines. -/
structure OkQ (n : Nat) (e : Nat × Nat × Int) : Prop where
  lo : 1 ≤ e.1
  hi : e.1 ≤ 3
  al : e.2.1 % 8 = 0
  lt : e.2.1 < 64 * n
  v0 : 0 ≤ e.2.2
  v1 : e.2.2 < 18446744073709551616
theorem run_n (D : Dev) (q : List (Nat × Nat × Int)) : (D.run 0 q).n = D.n := by
  induction q generalizing D with
  | nil => rfl
  | cons e q ih =>
    show ((D.step 0 e).run 0 q).n = D.n
    rw [ih]
    unfold Dev.step Dev.store Dev.flush Dev.fence Dev.countedD Dev.onD Dev.fail
    repeat' split
    all_goals rfl
/-- Where the reference's device stands behind some instructions. -/
structure AfSt (w : World) (D0 : Dev) (q : List (Nat × Nat × Int)) (rb lb : Nat) (k : Nat) (wr : World) : Prop where
  dev : ∃ hv nv ns, R3 wr (D0.run 0 (q.take k)) rb lb hv nv ns ∧ ns.length ≤ k
  bel : Below w.heap.size w wr
theorem below_two_upd {w w1 w2 : World} {rb lb : Nat} (h : Below w.heap.size w w1) (hu : Upd (Two rb lb) w1 w2) (h1 : w.heap.size ≤ rb) (h2 : w.heap.size ≤ lb) : Below w.heap.size w w2 :=
  ⟨hu.os.trans h.os, hu.tape.trans h.tape, hu.output.trans h.output, Nat.le_trans h.size hu.size, fun k hk => (hu.block k (Nat.lt_of_lt_of_le hk h.size) (by rintro (e | e) <;> omega)).trans (h.block k hk)⟩
section
variable {w : World}
set_option maxRecDepth 100000 in
set_option maxHeartbeats 4000000 in
theorem r54After_any (n : Nat) (h0 : 0 < n) (hn : n ≤ 4096) (qv : Value) (q : List (Nat × Nat × Int)) (h : RdSl w 3 qv q.length (refP q)) (hq : ∀ e ∈ q, OkQ n e) (hl : q.length ≤ 100000) (k : Nat) (hk : k ≤ q.length) :
    Calls Try.prog 13 #[.int .i64 n, qv, .int .i64 k] w fun r w' => ∃ rb lb hv nv ns, r = .returned (.pointer (some ⟨rb, 0, none⟩)) ∧ R3 w' ((Dev.fresh n (fun _ => 0)).run 0 (q.take k)) rb lb hv nv ns ∧ Below w.heap.size w w' := by
  have HN := Lib.hid (r3New_any (w := w) n h0 hn)
  have H := Lib.hid h; have HQ := Lib.hid hq
  obtain ⟨_, a, c, rfl, hc, _⟩ := h
  obtain ⟨m, hm⟩ : ∃ m, q.length = m := ⟨_, rfl⟩
  have HM := Lib.hid hm
  rw [hm] at H hl hk hc ⊢
  have hkc : (k : Int) ≤ c := by omega
  have HT := Lib.hid (take_snocI q)
  have HX : Hid (∀ i, i ≤ k → ((Dev.fresh n (fun _ => 0)).run 0 (q.take i)).exec ≤ k ∧ ((Dev.fresh n (fun _ => 0)).run 0 (q.take i)).n = n) := fun i hi => by
    have h1 := (Dev.fresh n (fun _ => 0)).run_exec 0 (q.take i)
    have h2 := List.length_take_le i q
    have h3 : (Dev.fresh n (fun _ => 0)).exec = 0 := rfl
    exact ⟨by omega, by rw [run_n]; rfl⟩
  clear hq hm
  obtain ⟨D0, hD0⟩ : ∃ D0, Dev.fresh n (fun _ => 0) = D0 := ⟨_, rfl⟩
  rw [hD0] at HN HX ⊢
  clear hD0
  go_enter Try.func13, Try.ntmps13
  go_wp2_with fail
  (with_reducible refine HN.out.mono ?_)
  rintro r w1 ⟨rb, lb, rfl, r1, l1, l2, b1⟩
  have A1 : Hid (AfSt w D0 q rb lb 0 w1) := Lib.hid ⟨⟨_, _, _, r1, Nat.le_refl _⟩, b1⟩
  have LL := Lib.hid (And.intro l1 l2)
  clear r1 l1 l2 b1 HN
  go_wp2_with fail
  go_loopw [16] (fun y wr => ∃ i : Nat, i ≤ k ∧ y = .int .i64 i ∧ AfSt w D0 q rb lb i wr) (fun y _ => k - (intOf y).toNat)
  case atStart => exact ⟨0, by omega, rfl, A1.out⟩
  case round =>
    clear A1
    obtain ⟨i, hi, rfl, hst⟩ := hrel
    rename World => wr
    obtain ⟨⟨hv, nv, ns, hr, hnl⟩, hb⟩ := hst
    have R := Lib.hid hr; have B := Lib.hid hb
    clear hr hb
    by_cases hlt : i < k
    · have hlt' : (i : Int) < k := by omega
      obtain ⟨e, hge⟩ : ∃ e, q[i]? = some e := ⟨_, List.getElem?_eq_getElem (by rw [HM.out]; omega)⟩
      obtain ⟨hx1, hx2⟩ := HX.out i hi
      have hts := HT.out i e hge
      obtain ⟨_, a', c', e', _, hE⟩ := H.out.below B.out
      cases e'
      have hg := refP_get q i e hge
      obtain ⟨fb, fo, rfl, hE2⟩ := rd_at hE hg.1
      have c1 := hE2 _ _ hg.1; have c2 := hE2 _ _ hg.2.1; have c3 := hE2 _ _ hg.2.2
      rw [← Nat.add_assoc] at c2 c3
      have hok := HQ.out e (List.mem_of_getElem? hge)
      have HTS := Lib.hid hts
      obtain ⟨e1, e2, e3⟩ := e
      obtain ⟨o1, o2, o3, o4, o5, o6⟩ := hok
      simp only at o1 o2 o3 o4 o5 o6 c1 c2 c3
      clear hE hE2 hge hg hts
      have BA := Lib.hid (fun o => below_alloc wr o)
      have hD : Hid ((D0.run 0 (q.take (i + 1))) = (D0.run 0 (q.take i)).step 0 (e1, e2, e3)) := by show _ = _; rw [HTS.out, Dev.run_snoc]
      obtain ⟨DD, hDD⟩ : ∃ DD, D0.run 0 (q.take i) = DD := ⟨_, rfl⟩
      rw [hDD] at R hx1 hx2 hD
      clear hDD
      obtain rfl | rfl | rfl : e1 = 1 ∨ e1 = 2 ∨ e1 = 3 := by omega
      · have HS := Lib.hid (fun o => r3Store_any (R.out.alloc o) e2 e3 o3 (by rw [hx2]; exact o4) ⟨o5, o6⟩ (by omega))
        rw [show (((1 : Nat) : Int) - 1) = 0 from rfl] at c1
        go_wp2_with fail
        (with_reducible refine (HS.out _).mono ?_)
        rintro r w2 ⟨rfl, hv2, r2, u2⟩
        have F2 : Hid (AfSt w D0 q rb lb (i + 1) w2) := Lib.hid ⟨⟨hv2, nv, ns, by rw [hD.out]; exact r2, by omega⟩, below_two_upd (B.out.trans ((BA.out _).mono B.out.size)) u2 LL.out.1 LL.out.2⟩
        clear r2 u2
        go_wp2_with fail
        go_roundw
        case rel => exact ⟨i + 1, by omega, by go_num, F2.out⟩
        case measure => simp [intOf]; omega
      · have HS := Lib.hid (fun o => r3Flush_any (R.out.alloc o) e2 (by rw [hx2]; exact o4) (by omega) (by omega))
        rw [show (((2 : Nat) : Int) - 1) = 1 from rfl] at c1
        go_wp2_with fail
        (with_reducible refine (HS.out _).mono ?_)
        rintro r w2 ⟨rfl, nv2, ns2, r2, hn2, u2⟩
        have F2 : Hid (AfSt w D0 q rb lb (i + 1) w2) := Lib.hid ⟨⟨hv, nv2, ns2, by rw [hD.out]; exact r2, by omega⟩, below_two_upd (B.out.trans ((BA.out _).mono B.out.size)) u2 LL.out.1 LL.out.2⟩
        clear r2 u2
        go_wp2_with fail
        go_roundw
        case rel => exact ⟨i + 1, by omega, by go_num, F2.out⟩
        case measure => simp [intOf]; omega
      · have HS := Lib.hid (fun o => r3Fence_any (R.out.alloc o) (by omega) (by omega))
        rw [show (((3 : Nat) : Int) - 1) = 2 from rfl] at c1
        go_wp2_with fail
        (with_reducible refine (HS.out _).mono ?_)
        rintro r w2 ⟨rfl, hv2, r2, u2⟩
        have F2 : Hid (AfSt w D0 q rb lb (i + 1) w2) := Lib.hid ⟨⟨hv2, _, _, by rw [hD.out]; exact r2, Nat.zero_le _⟩, below_two_upd (B.out.trans ((BA.out _).mono B.out.size)) u2 LL.out.1 LL.out.2⟩
        clear r2 u2
        go_wp2_with fail
        go_roundw
        case rel => exact ⟨i + 1, by omega, by go_num, F2.out⟩
        case measure => simp [intOf]; omega
    · obtain rfl : i = k := by omega
      go_wp2_with fail
      go_ret
      exact ⟨rb, lb, hv, nv, ns, rfl, R.out, B.out⟩
end
end Go.Proofs.Ytoakngofgkkpnaa
