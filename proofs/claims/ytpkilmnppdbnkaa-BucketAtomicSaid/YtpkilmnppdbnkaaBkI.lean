/- The reference's Same of two lists of pairs. -/
import Derived.Test.YtpkilmnppdbnkaaBkH
import Derived.Laws.StructEq
namespace Go.Proofs.Ytpkilmnppdbnkaa
open Go.RowKit
attribute [local go_sem ↓] Go.wp_at_zero Go.wp_at_succ
theorem prC_get (l : List (Int × Int)) : ∀ (k : Nat) (e : Int × Int), l[k]? = some e → (prC l)[k * 2]? = some (.int .u64 e.1) ∧ (prC l)[k * 2 + 1]? = some (.int .u64 e.2) := by
  induction l with
  | nil => intro k e h; simp at h
  | cons x l ih =>
    intro k e h
    cases k with
    | zero => simp at h; subst h; simp [prC]
    | succ k =>
      have := ih k e (by simpa using h)
      have e1 : (k + 1) * 2 = k * 2 + 2 := by omega
      rw [e1]
      simpa [prC] using this
theorem take_eq_succ {l m : List (Int × Int)} {k : Nat} {e f : Int × Int} (h : l.take k = m.take k) (he : l[k]? = some e) (hf : m[k]? = some f) (hef : e = f) : l.take (k + 1) = m.take (k + 1) := by
  rw [List.take_add_one, List.take_add_one, h, he, hf, hef]
theorem run_eqItems31 (d : Nat) (fa fb : Nat → Int) (xs ys : Array Value) (w : World) : ∀ is : List Nat, (∀ i ∈ is, xs[i]? = some (.int .u64 (fa i)) ∧ ys[i]? = some (.int .u64 (fb i))) → (Op.eqItems (d + 1) 27 1 xs ys is).run Try.prog w = .ok (is.all fun i => fa i == fb i) w
  | [], _ => by simp [Op.eqItems]
  | i :: is, h => by
    have h0 := h i (by simp)
    have ih := run_eqItems31 d fa fb xs ys w is (fun j hj => h j (by simp [hj]))
    have hp : Try.prog.plainKey 27 = true := by kernel_rfl
    simp only [Op.eqItems, Sem.run_bind, Nat.mul_one, run_part_plain w hp h0.1, run_part_plain w hp h0.2, run_equalIn_int w d 27 .u64 .u64 (fa i) (fb i) Try.underlying27, Result.andThen_ok]
    cases hb : fa i == fb i
    · simp [hb]
    · simp [hb, ih]
set_option maxRecDepth 100000 in
theorem run_neq2 (w : World) (a0 a1 b0 b1 : Int) :
    (binOp .neq 86 (.agg #[.int .u64 b0, .int .u64 b1]) (.agg #[.int .u64 a0, .int .u64 a1])).run Try.prog w = .ok (.bool (!(decide (b0 = a0 ∧ b1 = a1)))) w := by
  obtain ⟨i0, hi0, _⟩ := info_parts infoU64
  have hc : Try.prog.cellsOf 27 = 1 := by kernel_rfl
  have e : (Op.eqItems 9999 27 1 #[.int .u64 b0, .int .u64 b1] #[.int .u64 a0, .int .u64 a1] (List.range 2)).run Try.prog w =
      .ok ((List.range 2).all fun i => [b0, b1].getD i 0 == [a0, a1].getD i 0) w :=
    run_eqItems31 9998 (fun i => [b0, b1].getD i 0) (fun i => [a0, a1].getD i 0) _ _ w (List.range 2) (fun i hi => by
      have := List.mem_range.1 hi
      obtain rfl | rfl : i = 0 ∨ i = 1 := by omega
      all_goals exact ⟨rfl, rfl⟩)
  rw [run_neq_struct, run_equalIn_array w 9999 _ _ Try.underlying86 hi0, hc, e, Result.andThen_ok]
  congr 3
  rw [Bool.eq_iff_iff]
  simp [List.range, List.range.loop]
section
variable {w : World}
set_option maxRecDepth 100000 in
set_option maxHeartbeats 4000000 in
theorem r31Same_any (u v : Value) (l m : List (Int × Int)) (hx : RdSl w 2 u l.length (prC l)) (hy : RdSl w 2 v m.length (prC m)) (hl : l.length ≤ 100000) (hm : m.length ≤ 100000) :
    Calls Try.prog 24 #[u, v] w fun r w' => r = .returned (.bool (decide (l = m))) ∧ Below w.heap.size w w' := by
  obtain ⟨_, a, ca, rfl, hca, ha⟩ := hx
  obtain ⟨_, b, cb, rfl, hcb, hb⟩ := hy
  by_cases hlm : l.length = m.length
  · have HM := Lib.hid hlm.symm
    have HA := Lib.hid ha; have HB := Lib.hid hb; clear ha hb
    rw [← hlm] at hcb hm ⊢
    clear hlm
    generalize hn1 : l.length = n at *
    have HN := Lib.hid hn1
    clear hn1
    have hbn : ((n : Int) != (n : Int)) = false := by simp
    obtain ⟨res, hres⟩ : ∃ res, decide (l = m) = res := ⟨_, rfl⟩
    have HR := Lib.hid hres
    rw [hres]
    clear hres
    go_enter Try.func24, Try.ntmps24
    go_wp2_with fail
    go_loopw [13] (fun i wr => ∃ k : Nat, k ≤ n ∧ i = .int .i64 k ∧ l.take k = m.take k ∧ Qt w wr) (fun i _ => n - (intOf i).toNat)
    case atStart => exact ⟨0, by omega, rfl, by simp, Qt.refl w⟩
    case round =>
      obtain ⟨k, hk, rfl, ht, q⟩ := hrel
      obtain ⟨nq, rfl⟩ := q
      by_cases hlt : k < n
      · obtain ⟨e, he⟩ : ∃ e, l[k]? = some e := ⟨_, List.getElem?_eq_getElem (by rw [HN.out]; exact hlt)⟩
        obtain ⟨f, hf⟩ : ∃ f, m[k]? = some f := ⟨_, List.getElem?_eq_getElem (by rw [HM.out]; exact hlt)⟩
        have hg := prC_get l k e he
        have hg2 := prC_get m k f hf
        obtain ⟨g1, o1, rfl, hc1⟩ := rd_at HA.out hg.1
        obtain ⟨g2, o2, rfl, hc2⟩ := rd_at HB.out hg2.1
        have c1 := hc1 _ _ hg.1; have c2 := hc1 _ _ hg.2
        have d1 := hc2 _ _ hg2.1; have d2 := hc2 _ _ hg2.2
        rw [← Nat.add_assoc] at c2 d2
        have hk' : (k : Int) < n := by omega
        have HT : Hid (e = f → l.take (k + 1) = m.take (k + 1)) := take_eq_succ ht he hf
        have HNE : Hid (e ≠ f → decide (l = m) = false) := fun hne => by
          rw [decide_eq_false]
          intro h
          subst h
          rw [he] at hf
          exact hne (Option.some.inj hf)
        clear hc1 hc2 he hf hg hg2 ht
        obtain ⟨e1, e2⟩ := e
        obtain ⟨f1, f2⟩ := f
        simp only at c1 c2 d1 d2
        have hneq := fun wx => run_neq2 wx f1 f2 e1 e2
        have hgu : Try.prog.eqGuardType Try.prog.depth 86 = false := by kernel_rfl
        by_cases h1 : e1 = f1 ∧ e2 = f2
        · have hd : (!(decide (e1 = f1 ∧ e2 = f2))) = false := by simp [h1]
          rw [hd] at hneq
          have hef : (e1, e2) = (f1, f2) := by rw [h1.1, h1.2]
          have HT2 := Lib.hid (HT.out hef)
          clear HT HNE hef hd h1
          go_wp2_with fail
          go_quiet (fail)
          go_wp2_with fail
          go_roundw
          case rel => exact ⟨k + 1, by omega, by go_num, HT2.out, ⟨_, rfl⟩⟩
          case measure => simp [intOf]; omega
        · have hd : (!(decide (e1 = f1 ∧ e2 = f2))) = true := by simp [h1]
          rw [hd] at hneq
          have hr := HNE.out (fun h => h1 ⟨congrArg Prod.fst h, congrArg Prod.snd h⟩)
          rw [HR.out] at hr
          subst hr
          clear h1 HNE HT hd
          go_wp2_with fail
          go_quiet (fail)
          go_wp2_with fail
          go_ret
          exact ⟨rfl, by simp; exact (Qt.drewN w _).below⟩
      · obtain rfl : k = n := by omega
        have hr : decide (l = m) = true := by
          rw [decide_eq_true]
          rw [List.take_of_length_le (by rw [HN.out]; omega), List.take_of_length_le (by rw [HM.out]; omega)] at ht
          exact ht
        rw [HR.out] at hr
        subst hr
        clear ht
        go_wp2_with fail
        go_ret
        exact ⟨rfl, (Qt.drewN w nq).below⟩
  · have hbn : ((l.length : Int) != (m.length : Int)) = true := by simp; omega
    have hr : decide (l = m) = false := by rw [decide_eq_false]; intro h; subst h; exact hlm rfl
    rw [hr]
    generalize l.length = ll at *
    generalize m.length = ml at *
    clear ha hb hr hlm
    go_enter Try.func24, Try.ntmps24
    go_wp2_with fail
    go_ret
    exact ⟨rfl, Below.refl _ _⟩
end
end Go.Proofs.Ytpkilmnppdbnkaa
