/- writes of the law; slices.Equal of the reference's writes. -/
import Derived.Test.YtkoijmoendepgaaRefB
import Derived.Test.YtkoijmoendepgaaTup
import Derived.Deep.RegionHeld3
import Derived.Deep.DrawnRows
namespace Go.Proofs.Ytkoijmoendepgaa
open Go.RowKit
theorem infoRW : (Try.prog.info? 78).map (fun i => (i.zero, i.size, i.bytes)) = some (some (.agg #[.int .u64 0, .int .u64 0]), 2, 16) := by kernel_rfl

theorem flat_get' (l : List (Nat × Int)) (k : Nat) (e : Nat × Int) (h : l[k]? = some e) : (flat l)[k * 2]? = some (.int .u64 e.1) ∧ (flat l)[k * 2 + 1]? = some (.int .u64 e.2) := by
  have := flat_get l k e h
  rw [Nat.mul_comm] at this
  exact this
theorem below_twice (w : World) (o1 o2 : Obj) : Below w.heap.size w ((w.alloc o1).alloc o2) := (below_alloc w o1).trans ((below_alloc _ o2).mono (by simp))
section
variable {w : World}
set_option maxRecDepth 100000 in
set_option maxHeartbeats 2000000 in
theorem equalRW_any (u v : Value) (xs ys : List (Nat × Int)) (hx : RdSl w 2 u xs.length (flat xs)) (hy : RdSl w 2 v ys.length (flat ys)) (hl : xs.length ≤ 100000) (hl2 : ys.length ≤ 100000) :
    Calls Try.prog 32 #[u, v] w fun r w' => r = .returned (.bool (decide (xs = ys))) ∧ Below w.heap.size w w' := by
  obtain ⟨_, a, ca, rfl, hca, ha⟩ := hx
  obtain ⟨_, b, cb, rfl, hcb, hb⟩ := hy
  have HA := Lib.hid ha; have HB := Lib.hid hb; clear ha hb
  by_cases hne : xs.length = ys.length
  · have hbn : ((xs.length : Int) != (ys.length : Int)) = false := by simp; omega
    generalize hn1 : xs.length = n at *
    generalize hn2 : ys.length = m at *
    have HN := Lib.hid (And.intro hn1 hn2)
    clear hn1 hn2
    subst hne
    have hbn : ((n : Int) != (n : Int)) = false := by simp
    go_enter Try.func32, Try.ntmps32
    go_wp2_with fail
    go_loopw [13] (fun i wr => ∃ k : Nat, k ≤ n ∧ i = .int .i64 k ∧ xs.take k = ys.take k ∧ Qt w wr) (fun i _ => n - (intOf i).toNat)
    case atStart => exact ⟨0, by omega, rfl, rfl, Qt.refl w⟩
    case round =>
      obtain ⟨k, hk, rfl, heq, q⟩ := hrel
      obtain ⟨nq, rfl⟩ := q
      have HE := Lib.hid heq; clear heq
      by_cases hlt : k < n
      · obtain ⟨e, he⟩ : ∃ e, xs[k]? = some e := ⟨_, List.getElem?_eq_getElem (by rw [HN.out.1]; exact hlt)⟩
        obtain ⟨f, hf⟩ : ∃ e, ys[k]? = some e := ⟨_, List.getElem?_eq_getElem (by rw [HN.out.2]; exact hlt)⟩
        obtain ⟨g1, o1, rfl, hc1⟩ := rd_at HA.out (flat_get' xs k e he).1
        obtain ⟨g2, o2, rfl, hc2⟩ := rd_at HB.out (flat_get' ys k f hf).1
        have c1 := hc1 _ _ (flat_get' xs k e he).1; have c2 := hc1 _ _ (flat_get' xs k e he).2
        have d1 := hc2 _ _ (flat_get' ys k f hf).1; have d2 := hc2 _ _ (flat_get' ys k f hf).2
        rw [← Nat.add_assoc] at c2 d2
        have HEF := Lib.hid (And.intro he hf)
        have hk' : (k : Int) < n := by omega
        clear hc1 hc2 he hf
        obtain ⟨e1, e2⟩ := e
        obtain ⟨f1, f2⟩ := f
        by_cases h1 : e1 = f1
        · have hb1 : ((e1 : Int) == (f1 : Int)) = true := by simp; omega
          by_cases h2 : e2 = f2
          · have hb2 : (e2 == f2) = true := by simpa using h2
            have HQ := Lib.hid (And.intro h1 h2); clear h1 h2
            go_wp2_with fail
            go_quiet (fail)
            go_wp2_with fail
            go_roundw
            case rel => exact ⟨k + 1, by omega, by go_num, by rw [take_snoc_get _ _ _ HEF.out.1, take_snoc_get _ _ _ HEF.out.2, HE.out, HQ.out.1, HQ.out.2], ⟨_, rfl⟩⟩
            case measure => simp [intOf]; omega
          · have hb2 : (e2 == f2) = false := by simpa using h2
            have HQ := Lib.hid h2; clear h1 h2
            go_wp2_with fail
            go_quiet (fail)
            go_wp2_with fail
            go_ret
            exact ⟨ret_bool (by simp; intro h; rw [h, HEF.out.2] at HEF; exact absurd (by have := HEF.out.1; simp at this; exact this.2.symm) HQ.out), ((Qt.drewN w _).trans (Qt.drewN _ _)).below⟩
        · have hb1 : ((e1 : Int) == (f1 : Int)) = false := by simp; omega
          have HQ := Lib.hid h1; clear h1
          go_wp2_with fail
          go_quiet (fail)
          go_wp2_with fail
          go_ret
          exact ⟨ret_bool (by simp; intro h; rw [h, HEF.out.2] at HEF; exact absurd (by have := HEF.out.1; simp at this; exact this.1.symm) HQ.out), ((Qt.drewN w _).trans (Qt.drewN _ _)).below⟩
      · go_wp2_with fail
        go_ret
        exact ⟨ret_bool (by have := HE.out; rw [List.take_of_length_le (by rw [HN.out.1]; omega), List.take_of_length_le (by rw [HN.out.2]; omega)] at this; simp [this]), (Qt.drewN w nq).below⟩
  · have hbn : ((xs.length : Int) != (ys.length : Int)) = true := by simp; omega
    have HD : Hid (decide (xs = ys) = false) := by show decide (xs = ys) = false; simp; exact fun h => hne (by rw [h])
    generalize hn1 : xs.length = n at *
    generalize hn2 : ys.length = m at *
    clear hn1 hn2
    go_enter Try.func32, Try.ntmps32
    go_wp2_with fail
    go_ret
    exact ⟨ret_bool HD.out.symm, Below.refl _ _⟩

set_option maxRecDepth 100000 in
set_option maxHeartbeats 2000000 in
theorem writes_any (sv : Value) (l : List (Nat × Int)) (h : RdSl w 2 sv l.length (flat l)) (hl : l.length ≤ 100000) (hlt : ∀ k, sv.ownBlock = some k → k < w.heap.size) :
    Calls Try.prog 33 #[sv] w fun r w' => ∃ ov, r = .returned ov ∧ Acc w w.heap.size w' 78 2 ov l.length (flat l) := by
  have H := Lib.hid h
  obtain ⟨_, a, c, rfl, hc, _⟩ := h
  obtain ⟨k0, hi0, hz0, hz1, hz2⟩ := info_parts infoRW
  have I2 := Lib.hid (And.intro hi0 (And.intro hz0 (And.intro hz1 hz2))); clear hi0 hz0 hz1 hz2
  generalize hn : l.length = n at *
  have HN := Lib.hid hn; clear hn
  go_enter Try.func33, Try.ntmps33
  go_wp2_with fail
  go_loopw [3, 8] (fun ov y wr => ∃ k : Nat, k ≤ n ∧ y = .int .i64 k ∧ Acc w w.heap.size wr 78 2 ov k (flat (l.take k))) (fun _ y _ => n - (intOf y).toNat)
  case atStart => exact ⟨0, by omega, rfl, Acc.nil w _ _ _ _ (Below.refl _ _) (Nat.le_refl _)⟩
  case round =>
    obtain ⟨k, hk, rfl, ha⟩ := hrel
    obtain ⟨oa, oc, rfl⟩ := ha.slice
    have A := Lib.hid ha; clear ha
    by_cases hlt2 : k < n
    · have hk' : (k : Int) < n := by omega
      obtain ⟨e, he⟩ : ∃ e, l[k]? = some e := ⟨_, List.getElem?_eq_getElem (by rw [HN.out]; exact hlt2)⟩
      obtain ⟨_, a', c', e', _, hE⟩ := H.out.below A.out.bel
      cases e'
      obtain ⟨eb, eo, rfl, hE2⟩ := rd_at hE (flat_get' l k e he).1
      have c1 := hE2 _ _ (flat_get' l k e he).1; have c2 := hE2 _ _ (flat_get' l k e he).2
      rw [← Nat.add_assoc] at c2
      have HT := Lib.hid (take_snoc_get l k e he)
      clear hE hE2 he
      obtain ⟨e1, e2⟩ := e
      go_wp2_with (at_builtin; refine wpList_append_sl _ rfl _ _ 72 rfl 78 k0 _ 2 16 Try.underlying72 I2.out.1 I2.out.2.1 I2.out.2.2.1 I2.out.2.2.2 rfl (by decide) _ k (flat (l.take k)) rfl (by exact (A.out.own.alloc _).alloc _) _ 1 (flat [(e1, e2)]) rfl (by exact RdSl.newAt _ _ _ 2 1 _ (by simp) rfl) (flat_one _) (by unfold maxLen; omega) (by omega) ?_)
      intro v1 w1 o1 g1 b1 n1
      have A1 := Lib.hid (A.out.next (below_twice wr _ _) o1 g1 b1 (by omega)); clear o1 g1 b1 n1
      go_wp2_with fail
      go_roundw
      case rel => exact ⟨k + 1, by omega, by go_num, A1.out.congr rfl (by rw [HT.out, flat_append])⟩
      case measure => simp [intOf]; omega
    · obtain rfl : k = n := by omega
      go_wp2_with fail
      go_ret
      exact ⟨_, rfl, A.out.congr rfl (by rw [List.take_of_length_le (by rw [HN.out]; omega)])⟩
end
end Go.Proofs.Ytkoijmoendepgaa
