/- The walk of the law's short. -/
import Derived.Test.YtoakngofgkkpnaaNcG
namespace Go.Proofs.Ytoakngofgkkpnaa
open Go.RowKit Go.Maps
attribute [local go_sem ↓] Go.wp_at_zero Go.wp_at_succ

/-- Instructions as an argument has them. -/
def argP (l : List (Int × Nat × Int)) : List Value := l.flatMap fun e => [.int .i64 e.1, .int .u64 e.2.1, .int .u64 e.2.2]
theorem argP_get (l : List (Int × Nat × Int)) : ∀ (k : Nat) (e : Int × Nat × Int), l[k]? = some e → (argP l)[k * 3]? = some (.int .i64 e.1) ∧ (argP l)[k * 3 + 1]? = some (.int .u64 e.2.1) ∧ (argP l)[k * 3 + 2]? = some (.int .u64 e.2.2) := by
  induction l with
  | nil => intro k e h; simp at h
  | cons x l ih =>
    intro k e he
    have hf : argP (x :: l) = .int .i64 x.1 :: .int .u64 x.2.1 :: .int .u64 x.2.2 :: argP l := rfl
    cases k with
    | zero => simp at he; subst he; simp [hf]
    | succ k =>
      have := ih k e (by simpa using he)
      rw [hf, show (k + 1) * 3 = k * 3 + 1 + 1 + 1 from by omega]
      simpa using this
/-- Numbers of an argument. -/
def ArgOk (e : Int × Nat × Int) : Prop := (-9223372036854775808 ≤ e.1 ∧ e.1 ≤ 9223372036854775807) ∧ e.2.1 < 18446744073709551616 ∧ 0 ≤ e.2.2 ∧ e.2.2 < 18446744073709551616
theorem short_ok {e : Int × Nat × Int} (h : ArgOk e) : OkQ 4 (shortI e) := by
  obtain ⟨_, _, h1, h2⟩ := h
  unfold shortI
  split
  · exact ⟨by simp, by simp, by simp only; omega, by simp only; omega, h1, h2⟩
  · split
    · exact ⟨by simp, by simp, by simp only; omega, by simp only; omega, by simp, by simp⟩
    · exact ⟨by simp, by simp, by simp, by simp, by simp, by simp⟩
theorem short_plain {l : List (Int × Nat × Int)} : Plain54 (shortL l) := by
  intro e he
  obtain ⟨x, _, rfl⟩ := List.mem_map.1 he
  unfold shortI
  split
  · exact ⟨fun h => by simp at h, fun h => by simp at h⟩
  · split
    · exact ⟨fun _ => rfl, fun h => by simp at h⟩
    · exact ⟨fun h => by simp at h, fun _ => ⟨rfl, rfl⟩⟩
theorem short_len (l : List (Int × Nat × Int)) : (shortL l).length ≤ 12 := by unfold shortL; rw [List.length_map, List.length_take]; omega
theorem shortL_step {l : List (Int × Nat × Int)} {k : Nat} {e : Int × Nat × Int} (he : l[k]? = some e) : (l.take (k + 1)).map shortI = (l.take k).map shortI ++ [shortI e] := by
  rw [List.take_add_one, he]; simp
section
variable {w : World}
structure ShSt (w : World) (l : List (Int × Nat × Int)) (k : Nat) (sv : Value) (wr : World) : Prop where
  acc : Acc w w.heap.size wr 52 3 sv k (refP ((l.take k).map shortI))
set_option maxRecDepth 100000 in
set_option maxHeartbeats 8000000 in
theorem short_any (lv : Value) (l : List (Int × Nat × Int)) (h : RdSl w 3 lv l.length (argP l)) (hok : ∀ e ∈ l, ArgOk e) (hl : l.length ≤ 9223372036854775807) :
    Calls Try.prog 7 #[lv] w fun r w' => ∃ sv, r = .returned sv ∧ Acc w w.heap.size w' 52 3 sv (shortL l).length (refP (shortL l)) := by
  obtain ⟨i0, hi0, hz0, hz1, hz2⟩ := info_parts infoI54
  have I := Lib.hid (And.intro hi0 (And.intro hz0 (And.intro hz1 hz2))); clear hi0 hz0 hz1 hz2
  have H := Lib.hid h; have HOK := Lib.hid hok
  obtain ⟨_, a, c, rfl, hc, _⟩ := h
  have HLL : Hid ((shortL l).length = min 12 l.length ∧ shortL l = (l.take 12).map shortI) := ⟨by unfold shortL; rw [List.length_map, List.length_take], rfl⟩
  obtain ⟨m, hm⟩ : ∃ m, l.length = m := ⟨_, rfl⟩
  have HM := Lib.hid hm
  rw [hm] at H hl hc HLL ⊢
  have P0 : Hid (ShSt w l 0 (.slice none 0 0) w) := ⟨Acc.nil w _ _ _ _ (Below.refl _ _) (Nat.le_refl _)⟩
  clear hok hm
  go_enter Try.func7, Try.ntmps7
  go_wp2_with fail
  go_loopw [3, 4] (fun sv y wr => ∃ k : Nat, k ≤ m ∧ k ≤ 12 ∧ y = .int .i64 k ∧ ShSt w l k sv wr) (fun _ y _ => 12 - (intOf y).toNat)
  case atStart => exact ⟨0, by omega, by omega, rfl, P0.out⟩
  case round =>
    clear P0
    obtain ⟨k, hk, hk12, rfl, hst⟩ := hrel
    rename World => wr
    obtain ⟨la, lc, hsv⟩ := hst.acc.slice
    subst hsv
    have A2 := Lib.hid hst.acc
    clear hst
    by_cases hlt : k < m
    · have hlt' : (k : Int) < m := by omega
      by_cases h12 : k < 12
      · have h12' : (k : Int) < 12 := by omega
        obtain ⟨e, hge⟩ : ∃ e, l[k]? = some e := ⟨_, List.getElem?_eq_getElem (by rw [HM.out]; omega)⟩
        obtain ⟨_, a', c', e', _, hE⟩ := H.out.below A2.out.bel
        cases e'
        have hg := argP_get l k e hge
        obtain ⟨fb, fo, rfl, hE2⟩ := rd_at hE hg.1
        have c1 := hE2 _ _ hg.1; have c2 := hE2 _ _ hg.2.1; have c3 := hE2 _ _ hg.2.2
        rw [← Nat.add_assoc] at c2 c3
        have hok := HOK.out e (List.mem_of_getElem? hge)
        have HST := Lib.hid (shortL_step hge)
        obtain ⟨pl, hpl⟩ : ∃ pl, (l.take k).map shortI = pl := ⟨_, rfl⟩
        rw [hpl] at HST A2
        clear hpl
        obtain ⟨e1, e2, e3⟩ := e
        obtain ⟨⟨o1, o2⟩, o3, o4, o5⟩ := hok
        simp only at o1 o2 o3 o4 o5 c1 c2 c3
        clear hE hE2 hge hg
        obtain ⟨t, ht⟩ : ∃ t, e1.tmod 3 = t := ⟨_, rfl⟩
        have ht1 := Int.tmod_lt_of_pos e1 (show (0 : Int) < 3 by omega)
        have ht2 := Int.lt_tmod_of_pos e1 (show (0 : Int) < 3 by omega)
        rw [ht] at ht1 ht2
        obtain ⟨z, hz⟩ : ∃ z : Nat, e1 % 3 = z := ⟨(e1 % 3).toNat, by omega⟩
        have htz : (t + 3) % 3 = (z : Int) := by
          rw [← ht, ← hz]
          by_cases h0 : 0 ≤ e1
          · rw [Int.tmod_eq_emod_of_nonneg h0]; omega
          · obtain ⟨y, rfl⟩ : ∃ y, e1 = -y := ⟨-e1, by omega⟩
            rw [Int.neg_tmod, Int.tmod_eq_emod_of_nonneg (by omega)]; omega
        have hz3 : z < 3 := by omega
        have gt1 : IntKind.i64.wrap t = t := IntWalk.i64_in _ (by omega)
        have gt2 : IntKind.i64.wrap (t + 3) = t + 3 := IntWalk.i64_in _ (by omega)
        have gt3 : (t + 3).tmod 3 = (z : Int) := by rw [Int.tmod_eq_emod_of_nonneg (by omega)]; exact htz
        have gt4 : IntKind.i64.wrap (z : Int) = (z : Int) := IntWalk.i64_in _ (by omega)
        obtain ⟨a1, ha1⟩ : ∃ x, e2 % 256 = x := ⟨_, rfl⟩
        obtain ⟨a2, ha2⟩ : ∃ x, a1 / 8 = x := ⟨_, rfl⟩
        obtain ⟨a3, ha3⟩ : ∃ x, a2 * 8 = x := ⟨_, rfl⟩
        have gs1 : (e2 : Int) % 256 = (a1 : Int) := by omega
        have gs2 : (a1 : Int) / 8 = (a2 : Int) := by omega
        have gs3 : (a2 : Int) * 8 = (a3 : Int) := by omega
        have ha3e : Hid (e2 % 256 / 8 * 8 = a3) := by show _ = _; rw [ha1, ha2, ha3]
        have ha3b : a3 < 256 := by omega
        have gs4 : IntKind.u64.wrap (a3 : Int) = (a3 : Int) := IntWalk.u64_in _ (by omega)
        have HZ := Lib.hid hz
        clear ht1 ht2 htz hz ha1 ha2 ha3 hlt
        obtain rfl | rfl | rfl : z = 0 ∨ z = 1 ∨ z = 2 := by omega
        · rw [show ((0 : Nat) : Int) = 0 from rfl] at gt3 gt4
          have HX : Hid (refP [shortI (e1, e2, e3)] = [.int .i64 0, .int .u64 (a3 : Int), .int .u64 e3]) := by
            show _ = _
            have hz9 := HZ.out
            unfold shortI
            simp only; rw [if_pos (by omega), ha3e.out]
            rfl
          go_wp2_with (at_builtin; refine wpList_append_sl _ rfl _ _ 22 rfl 52 i0 _ 3 24 Try.underlying22 I.out.1 I.out.2.1 I.out.2.2.1 I.out.2.2.2 rfl (by decide) _ k (refP pl) rfl (by exact (A2.out.own.alloc _).alloc _) _ 1 [.int .i64 0, .int .u64 (a3 : Int), .int .u64 e3] rfl (by exact RdSl.newAt _ _ _ 3 1 _ (by simp) rfl) (three_one _ _ _ rfl rfl rfl) (by unfold maxLen; omega) (by omega) ?_)
          intro v1 w3 o1 g1 b1 n1
          have A3 := Lib.hid (A2.out.next (below_twice _ _ _) o1 g1 b1 (by first | simp | omega)); clear o1 g1 b1 n1
          go_wp2_with fail
          go_roundw
          case rel => exact ⟨k + 1, by omega, by omega, by go_num, ⟨by rw [HST.out, refP_append, HX.out]; exact A3.out⟩⟩
          case measure => simp [intOf]; omega
        · rw [show ((1 : Nat) : Int) = 1 from rfl] at gt3 gt4
          have HX : Hid (refP [shortI (e1, e2, e3)] = [.int .i64 1, .int .u64 (a3 : Int), .int .u64 0]) := by
            show _ = _
            have hz9 := HZ.out
            unfold shortI
            simp only; rw [if_neg (by omega), if_pos (by omega), ha3e.out]
            rfl
          go_wp2_with (at_builtin; refine wpList_append_sl _ rfl _ _ 22 rfl 52 i0 _ 3 24 Try.underlying22 I.out.1 I.out.2.1 I.out.2.2.1 I.out.2.2.2 rfl (by decide) _ k (refP pl) rfl (by exact (A2.out.own.alloc _).alloc _) _ 1 [.int .i64 1, .int .u64 (a3 : Int), .int .u64 0] rfl (by exact RdSl.newAt _ _ _ 3 1 _ (by simp) rfl) (three_one _ _ _ rfl rfl rfl) (by unfold maxLen; omega) (by omega) ?_)
          intro v1 w3 o1 g1 b1 n1
          have A3 := Lib.hid (A2.out.next (below_twice _ _ _) o1 g1 b1 (by first | simp | omega)); clear o1 g1 b1 n1
          go_wp2_with fail
          go_roundw
          case rel => exact ⟨k + 1, by omega, by omega, by go_num, ⟨by rw [HST.out, refP_append, HX.out]; exact A3.out⟩⟩
          case measure => simp [intOf]; omega
        · rw [show ((2 : Nat) : Int) = 2 from rfl] at gt3 gt4
          have HX : Hid (refP [shortI (e1, e2, e3)] = [.int .i64 2, .int .u64 0, .int .u64 0]) := by
            show _ = _
            have hz9 := HZ.out
            unfold shortI
            simp only; rw [if_neg (by omega), if_neg (by omega)]
            rfl
          go_wp2_with (at_builtin; refine wpList_append_sl _ rfl _ _ 22 rfl 52 i0 _ 3 24 Try.underlying22 I.out.1 I.out.2.1 I.out.2.2.1 I.out.2.2.2 rfl (by decide) _ k (refP pl) rfl (by exact (A2.out.own.alloc _).alloc _) _ 1 [.int .i64 2, .int .u64 0, .int .u64 0] rfl (by exact RdSl.newAt _ _ _ 3 1 _ (by simp) rfl) (three_one _ _ _ rfl rfl rfl) (by unfold maxLen; omega) (by omega) ?_)
          intro v1 w3 o1 g1 b1 n1
          have A3 := Lib.hid (A2.out.next (below_twice _ _ _) o1 g1 b1 (by first | simp | omega)); clear o1 g1 b1 n1
          go_wp2_with fail
          go_roundw
          case rel => exact ⟨k + 1, by omega, by omega, by go_num, ⟨by rw [HST.out, refP_append, HX.out]; exact A3.out⟩⟩
          case measure => simp [intOf]; omega
      · have h12' : ¬ (k : Int) < 12 := by omega
        obtain rfl : k = 12 := by omega
        go_wp2_with fail
        go_ret
        exact ⟨_, rfl, A2.out.congr (by rw [HLL.out.1]; omega) (by rw [HLL.out.2])⟩
    · obtain rfl : k = m := by omega
      go_wp2_with fail
      go_ret
      exact ⟨_, rfl, A2.out.congr (by rw [HLL.out.1]; omega) (by rw [HLL.out.2, List.take_of_length_le (by rw [HM.out]; exact Nat.le_refl _), List.take_of_length_le (by rw [HM.out]; exact hk12)])⟩
end
end Go.Proofs.Ytoakngofgkkpnaa
