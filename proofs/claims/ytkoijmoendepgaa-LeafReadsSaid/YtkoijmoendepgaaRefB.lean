/- Same, free of the reference; get of the law. -/
import Derived.Test.YtkoijmoendepgaaRefA
import Derived.Test.YtkoijmoendepgaaNodeG
namespace Go.Proofs.Ytkoijmoendepgaa
open Go.RowKit

section
variable {w : World}
theorem entC_length (l : List (Int × Int)) : (entC l).length = l.length * 2 := by
  induction l with
  | nil => rfl
  | cons e l ih => simp [entC] at *; omega
theorem entC_get (l : List (Int × Int)) : ∀ (k : Nat) (e : Int × Int), l[k]? = some e → (entC l)[k * 2]? = some (.int .u64 e.1) ∧ (entC l)[k * 2 + 1]? = some (.int .u64 e.2) := by
  induction l with
  | nil => intro k e h; simp at h
  | cons x l ih =>
    intro k e he
    have hf : entC (x :: l) = .int .u64 x.1 :: .int .u64 x.2 :: entC l := rfl
    cases k with
    | zero => simp at he; subst he; simp [hf]
    | succ k =>
      have := ih k e (by simpa using he)
      rw [hf, show (k + 1) * 2 = k * 2 + 1 + 1 from by omega]
      simpa using this

set_option maxRecDepth 100000 in
set_option maxHeartbeats 2000000 in
theorem refSame_any (u v : Value) (xs ys : List (Int × Int)) (hx : RdSl w 2 u xs.length (entC xs)) (hy : RdSl w 2 v ys.length (entC ys)) (hl : xs.length ≤ 100000) (hl2 : ys.length ≤ 100000) :
    Calls Try.prog 39 #[u, v] w fun r w' => r = .returned (.bool (decide (xs = ys))) ∧ Below w.heap.size w w' := by
  obtain ⟨_, a, ca, rfl, hca, ha⟩ := hx
  obtain ⟨_, b, cb, rfl, hcb, hb⟩ := hy
  have HA := Lib.hid ha; have HB := Lib.hid hb; clear ha hb
  by_cases hne : xs.length = ys.length
  · have hbn : ((xs.length : Int) != (ys.length : Int)) = false := by simp; omega
    generalize hn1 : xs.length = n at *
    generalize hn2 : ys.length = m at *
    have HN := Lib.hid (And.intro hn1 hn2)
    clear hn1 hn2
    subst hne
    have hbn : ((n : Int) != (n : Int)) = false := by simp
    go_enter Try.func39, Try.ntmps39
    go_wp2_with fail
    go_loopw [13] (fun i wr => ∃ k : Nat, k ≤ n ∧ i = .int .i64 k ∧ xs.take k = ys.take k ∧ Qt w wr) (fun i _ => n - (intOf i).toNat)
    case atStart => exact ⟨0, by omega, rfl, rfl, Qt.refl w⟩
    case round =>
      obtain ⟨k, hk, rfl, heq, q⟩ := hrel
      obtain ⟨nq, rfl⟩ := q
      have HE := Lib.hid heq; clear heq
      by_cases hlt : k < n
      · obtain ⟨e, he⟩ : ∃ e, xs[k]? = some e := ⟨_, List.getElem?_eq_getElem (by rw [HN.out.1]; exact hlt)⟩
        obtain ⟨f, hf⟩ : ∃ e, ys[k]? = some e := ⟨_, List.getElem?_eq_getElem (by rw [HN.out.2]; exact hlt)⟩
        obtain ⟨g1, o1, rfl, hc1⟩ := rd_at HA.out (entC_get xs k e he).1
        obtain ⟨g2, o2, rfl, hc2⟩ := rd_at HB.out (entC_get ys k f hf).1
        have c1 := hc1 _ _ (entC_get xs k e he).1; have c2 := hc1 _ _ (entC_get xs k e he).2
        have d1 := hc2 _ _ (entC_get ys k f hf).1; have d2 := hc2 _ _ (entC_get ys k f hf).2
        rw [← Nat.add_assoc] at c2 d2
        have HEF := Lib.hid (And.intro he hf)
        have hk' : (k : Int) < n := by omega
        clear hc1 hc2 he hf
        obtain ⟨e1, e2⟩ := e
        obtain ⟨f1, f2⟩ := f
        by_cases h1 : e1 = f1
        · have hb1 : (e1 == f1) = true := by simpa using h1
          by_cases h2 : e2 = f2
          · have hb2 : (e2 == f2) = true := by simpa using h2
            have HQ := Lib.hid (And.intro h1 h2); clear h1 h2
            go_wp2_with fail
            go_quiet (fail)
            go_wp2_with fail
            go_roundw
            case rel => exact ⟨k + 1, by omega, by go_num, by rw [take_snoc_get _ _ _ HEF.out.1, take_snoc_get _ _ _ HEF.out.2, HE.out, HQ.out.1, HQ.out.2], ⟨_, rfl⟩⟩
            case measure => simp [intOf]; omega
          · have hb2 : (e2 == f2) = false := by simpa using h2
            have HQ := Lib.hid h2; clear h1 h2
            go_wp2_with fail
            go_quiet (fail)
            go_wp2_with fail
            go_ret
            exact ⟨ret_bool (by simp; intro h; rw [h, HEF.out.2] at HEF; exact absurd (by have := HEF.out.1; simp at this; exact this.2.symm) HQ.out), ((Qt.drewN w _).trans (Qt.drewN _ _)).below⟩
        · have hb1 : (e1 == f1) = false := by simpa using h1
          have HQ := Lib.hid h1; clear h1
          go_wp2_with fail
          go_quiet (fail)
          go_wp2_with fail
          go_ret
          exact ⟨ret_bool (by simp; intro h; rw [h, HEF.out.2] at HEF; exact absurd (by have := HEF.out.1; simp at this; exact this.1.symm) HQ.out), ((Qt.drewN w _).trans (Qt.drewN _ _)).below⟩
      · go_wp2_with fail
        go_ret
        exact ⟨ret_bool (by have := HE.out; rw [List.take_of_length_le (by rw [HN.out.1]; omega), List.take_of_length_le (by rw [HN.out.2]; omega)] at this; simp [this]), (Qt.drewN w nq).below⟩
  · have hbn : ((xs.length : Int) != (ys.length : Int)) = true := by simp; omega
    have HD : Hid (decide (xs = ys) = false) := by show decide (xs = ys) = false; simp; exact fun h => hne (by rw [h])
    generalize hn1 : xs.length = n at *
    generalize hn2 : ys.length = m at *
    clear hn1 hn2
    go_enter Try.func39, Try.ntmps39
    go_wp2_with fail
    go_ret
    exact ⟨ret_bool HD.out.symm, Below.refl _ _⟩

/-- The reference's free: the lowest slot that is not taken. -/
theorem refFree_spec (l : List Nat) (hl : l.length < 12) : ∃ f, f < 12 ∧ f ∉ l ∧ (∀ s, s < f → s ∈ l) ∧ unusedN l = f := by
  obtain ⟨f, h1, h2, h3⟩ := free_slot l 12 hl
  exact ⟨f, h1, h2, h3, unusedN_spec l f (by omega) h2 h3⟩
set_option maxRecDepth 100000 in
set_option maxHeartbeats 2000000 in
theorem refFree_any (sv : Value) (l : List Nat) (h : RdSl w 1 sv l.length (natsI l)) (hl : l.length < 12) : Calls Try.prog 67 #[sv] w fun r w' => r = .returned (.int .i64 (unusedN l : Nat)) ∧ w = w' := by
  obtain ⟨f, hf1, hf2, hf3, hf4⟩ := refFree_spec l hl
  rw [hf4]
  have HF := Lib.hid (And.intro hf2 hf3); clear hf2 hf3 hf4
  obtain ⟨_, a, c, rfl, hc, ha⟩ := h
  have HA := Lib.hid ha; clear ha
  generalize hn : l.length = n at *
  have HN := Lib.hid hn; clear hn
  go_enter Try.func67, Try.ntmps67
  go_wp2_with fail
  go_loop [3] (fun x => ∃ s : Nat, s ≤ f ∧ x = .int .i64 s) (fun x => f - (intOf x).toNat)
  case atStart => exact ⟨0, by omega, rfl⟩
  case round =>
    obtain ⟨s, hs, rfl⟩ := hrel
    go_wp2_with fail
    go_loop [4, 11] (fun u i => ∃ k : Nat, k ≤ n ∧ i = .int .i64 k ∧ u = .bool (decide (s ∈ l.take k))) (fun _ i => n - (intOf i).toNat)
    case atStart => exact ⟨0, by omega, rfl, by simp⟩
    case round =>
      obtain ⟨k, hk, rfl, rfl⟩ := hrel
      by_cases hlt : k < n
      · obtain ⟨t, ht⟩ : ∃ t, l[k]? = some t := ⟨_, List.getElem?_eq_getElem (by rw [HN.out]; exact hlt)⟩
        obtain ⟨b, o, rfl, hcl⟩ := rd_at HA.out (show (natsI l)[k]? = some (.int .i64 t) by simp [natsI, ht])
        have c1 := hcl k _ (show (natsI l)[k]? = some (.int .i64 t) by simp [natsI, ht])
        have HT := Lib.hid (take_snoc_get l k t ht)
        clear hcl ht
        generalize hd : decide (s ∈ l.take k) = d at *
        have HD := Lib.hid hd; clear hd
        by_cases hts : t = s
        · have hb : ((t : Int) == (s : Int)) = true := by simp; omega
          have HTS := Lib.hid hts; clear hts
          cases d
          all_goals
            go_wp2_with fail
            go_round
            case rel => exact ⟨k + 1, by omega, by go_num, by rw [HT.out, HTS.out]; simp⟩
            case measure => simp [intOf]; omega
        · have hb : ((t : Int) == (s : Int)) = false := by simp; omega
          have HTS := Lib.hid hts; clear hts
          cases d
          all_goals
            go_wp2_with fail
            go_round
            case rel => exact ⟨k + 1, by omega, by go_num, by rw [HT.out, ← HD.out]; simp [show ¬ s = t from fun e => HTS.out e.symm]⟩
            case measure => simp [intOf]; omega
      · have hfull : l.take k = l := List.take_of_length_le (by rw [HN.out]; omega)
        rw [hfull]
        by_cases hsf : s = f
        · have hd : decide (s ∈ l) = false := by rw [hsf]; simpa using HF.out.1
          rw [hd]
          have HSF := Lib.hid hsf; clear hsf hd hfull
          go_wp2_with fail
          go_ret
          exact ⟨ret_int (by rw [HSF.out]), rfl⟩
        · have hd : decide (s ∈ l) = true := by simpa using HF.out.2 s (by omega)
          rw [hd]
          clear hd hfull
          go_wp2_with fail
          go_round
          case rel => exact ⟨s + 1, by omega, by go_num⟩
          case measure => simp [intOf]; omega
end
end Go.Proofs.Ytkoijmoendepgaa
