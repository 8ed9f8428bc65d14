/- The walk of the law NecessityHolds. -/
import Derived.Test.YtoakngofgkkpnaaNcM
namespace Go.Proofs.Ytoakngofgkkpnaa
open Go.RowKit Go.Maps
attribute [local go_sem ↓] Go.wp_at_zero Go.wp_at_succ

theorem fndL_code (D0 : Dev) (q : List (Nat × Nat × Int)) (L : Nat) : ∀ m k, (fndL D0 q L m k).2.2 ≤ 2 := by
  intro m
  induction m with
  | zero => intro k; simp [fndL]
  | succ m ih =>
    intro k
    unfold fndL
    split
    · simp
    · split
      · simp
      · exact ih _
theorem fnd_code (D0 : Dev) (q : List (Nat × Nat × Int)) (L : Nat) : (fnd D0 q L).2.2 ≤ 2 := fndL_code _ _ _ _ _
section
variable {w : World}
set_option maxRecDepth 100000 in
set_option maxHeartbeats 8000000 in
theorem necHolds_any (lv : Value) (l : List (Int × Nat × Int)) (h : RdSl w 3 lv l.length (argP l)) (hok : ∀ e ∈ l, ArgOk e) (hl : l.length ≤ 9223372036854775807) (L : Int) (hL0 : -9223372036854775808 ≤ L) (hL1 : L ≤ 9223372036854775807) :
    Calls Try.prog 3 #[lv, .int .i64 L] w fun r w' => r = .returned (.bool true) ∧ Below w.heap.size w w' := by
  have HA := Lib.hid (awake54 (w := w))
  have HS := Lib.hid (fun (wx : World) (hx : RdSl wx 3 lv l.length (argP l)) => short_any lv l hx hok hl)
  have H := Lib.hid h
  have hoq : ∀ e ∈ shortL l, OkQ 4 e := fun e he => by
    obtain ⟨x, hx, rfl⟩ := List.mem_map.1 he
    exact short_ok (hok x (List.mem_of_mem_take hx))
  have hpq := short_plain (l := l)
  have hlq := short_len l
  obtain ⟨_, a, c, rfl, _, _⟩ := h
  obtain ⟨m, hm⟩ : ∃ m, l.length = m := ⟨_, rfl⟩
  rw [hm] at HS H ⊢
  obtain ⟨q, hq⟩ : ∃ q, shortL l = q := ⟨_, rfl⟩
  rw [hq] at HS hoq hpq hlq
  clear hm hq hok
  obtain ⟨LN, hLN⟩ : ∃ LN : Nat, max 1 (min L 300) = (LN : Int) := ⟨(max 1 (min L 300)).toNat, by omega⟩
  have hLN1 : 1 ≤ LN ∧ LN ≤ 300 := by omega
  have HHO := Lib.hid (fun (wx : World) (pv : Value) (hx : RdSl wx 3 pv q.length (refP q)) => ncHolds_any 4 pv q hx hoq hpq (by omega) (by omega) (by omega) LN hLN1.1 (by omega))
  have HFO := Lib.hid (fun (wx : World) (pv : Value) (hx : RdSl wx 3 pv q.length (refP q)) => r54Found_any 4 (by omega) (by omega) pv q hx hoq (by omega) LN (by omega))
  rw [show ((4 : Nat) : Int) = 4 from rfl] at HHO HFO
  have hcd := fnd_code (Dev.fresh 4 (fun _ => 0)) q LN
  unfold FdRet at HFO
  obtain ⟨kk, hkk⟩ : ∃ x, (fnd (Dev.fresh 4 (fun _ => 0)) q LN).1 = x := ⟨_, rfl⟩
  obtain ⟨nn, hnn⟩ : ∃ x, (fnd (Dev.fresh 4 (fun _ => 0)) q LN).2.1 = x := ⟨_, rfl⟩
  obtain ⟨code, hcode⟩ : ∃ x, (fnd (Dev.fresh 4 (fun _ => 0)) q LN).2.2 = x := ⟨_, rfl⟩
  rw [hcode] at HHO HFO hcd
  rw [hkk, hnn] at HFO
  obtain ⟨mq, hmq⟩ : ∃ mq, q.length = mq := ⟨_, rfl⟩
  rw [hmq] at HHO HFO HS hlq
  obtain ⟨x, hx⟩ : ∃ x : Int, (LN : Int) = x := ⟨_, rfl⟩
  rw [hx] at HHO HFO hLN
  have gL : IntKind.u64.wrap x = x := IntWalk.u64_in _ (by omega)
  clear hoq hpq hkk hnn hcode hmq hx
  have hcase : (L ≤ 1 ∧ x = 1) ∨ ((1 < L ∧ L ≤ 300) ∧ x = L) ∨ (300 < L ∧ x = 300) := by omega
  clear hLN hLN1
  go_enter Try.func3, Try.ntmps3
  go_wp2_with fail
  (with_reducible refine HA.out.mono ?_)
  rintro r w1 ⟨rfl, b1⟩
  have HS1 := Lib.hid (HS.out w1 (H.out.below b1))
  have B1 := Lib.hid b1
  clear b1 HS HA
  go_wp2_with fail
  (with_reducible refine HS1.out.mono ?_)
  rintro r w2 ⟨sv, rfl, a2⟩
  obtain ⟨sa, sc, hsv⟩ := a2.slice
  subst hsv
  have B2 := Lib.hid (B1.out.trans (a2.bel.mono B1.out.size))
  have R2 := Lib.hid a2.rd
  have HH1 := Lib.hid (HHO.out w2 _ a2.rd)
  clear a2 HS1 HHO
  rcases hcase with ⟨hc1, hx1⟩ | ⟨hc1, hx1⟩ | ⟨hc1, hx1⟩
  all_goals subst hx1
  case' inr.inl => obtain ⟨hc1a, hc1b⟩ := hc1
  all_goals go_wp2_with fail
  all_goals
    (with_reducible refine HH1.out.mono ?_)
    rintro r w3 ⟨hp, b3⟩
    have HF1 := Lib.hid (HFO.out w3 _ (R2.out.below b3))
    have B3 := Lib.hid (B2.out.trans (b3.mono B2.out.size))
    clear b3 HFO HH1
    rcases hp with ⟨hc2, rfl⟩ | ⟨hc2, rfl⟩
    · subst hc2
      go_wp2_with fail
      (with_reducible refine HF1.out.mono ?_)
      rintro r w4 ⟨rfl, b4⟩
      have B4 := Lib.hid (B3.out.trans (b4.mono B3.out.size))
      clear b4
      rw [show ((2 : Nat) : Int) = 2 from rfl]
      go_wp2_with fail
      go_ret
      exact ⟨rfl, B4.out⟩
    · obtain rfl | rfl : code = 0 ∨ code = 1 := by omega
      · rw [show decide (0 = 1) = false from rfl]
        go_wp2_with fail
        (with_reducible refine HF1.out.mono ?_)
        rintro r w4 ⟨rfl, b4⟩
        have B4 := Lib.hid (B3.out.trans (b4.mono B3.out.size))
        clear b4
        rw [show ((0 : Nat) : Int) = 0 from rfl]
        go_wp2_with fail
        go_ret
        exact ⟨rfl, B4.out⟩
      · rw [show decide (1 = 1) = true from rfl]
        go_wp2_with fail
        (with_reducible refine HF1.out.mono ?_)
        rintro r w4 ⟨rfl, b4⟩
        have B4 := Lib.hid (B3.out.trans (b4.mono B3.out.size))
        clear b4
        rw [show ((1 : Nat) : Int) = 1 from rfl]
        go_wp2_with fail
        go_ret
        exact ⟨rfl, B4.out⟩
end
end Go.Proofs.Ytoakngofgkkpnaa
