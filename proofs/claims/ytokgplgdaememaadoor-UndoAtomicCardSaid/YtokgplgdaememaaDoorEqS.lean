/- slices.Equal of words and writes; the reference's Same. -/
import Derived.Test.YtokgplgdaememaaDoorGen
import Derived.Test.YtokgplgdaememaaDoorMemA
namespace Go.Proofs.YtokgplgdaememaaDoor
open Go.RowKit
attribute [local go_sem ↓] Go.wp_at_zero Go.wp_at_succ
section
variable {w : World}
set_option maxRecDepth 100000 in
set_option maxHeartbeats 1000000 in
theorem equalU_any (u v : Value) (xs ys : List Int) (hx : RdSl w 1 u xs.length (intsU xs)) (hy : RdSl w 1 v ys.length (intsU ys)) (hl : xs.length ≤ 4611686018) (_hl2 : ys.length ≤ 4611686018) :
    Calls Tryd.prog 31 #[u, v] w fun r w' => r = .returned (.bool (decide (xs = ys))) ∧ Below w.heap.size w w' := by
  obtain ⟨_, a, ca, rfl, hca, ha⟩ := hx
  obtain ⟨_, b, cb, rfl, hcb, hb⟩ := hy
  have HA := Lib.hid ha; have HB := Lib.hid hb; clear ha hb
  by_cases hlen : xs.length = ys.length
  · have hne : ((xs.length : Int) != (ys.length : Int)) = false := by simp; omega
    have Hlen := Lib.hid hlen
    go_enter Tryd.func31, Tryd.ntmps31
    clear hlen
    go_wp2_with fail
    go_loopw [13] (fun i wr => ∃ k : Nat, k ≤ xs.length ∧ i = .int .i64 k ∧ xs.take k = ys.take k ∧ ∃ q, wr = w.drewN q) (fun i _ => xs.length - (intOf i).toNat)
    case atStart => exact ⟨0, Nat.zero_le _, rfl, rfl, 0, rfl⟩
    case round =>
      obtain ⟨k, hk, rfl, heq, q, rfl⟩ := hrel
      have Heq := Lib.hid heq; clear heq
      by_cases hlt : k < xs.length
      · obtain ⟨x, hx⟩ : ∃ x, xs[k]? = some x := ⟨_, List.getElem?_eq_getElem hlt⟩
        obtain ⟨y, hy⟩ : ∃ y, ys[k]? = some y := ⟨_, List.getElem?_eq_getElem (by rw [← Hlen.out]; exact hlt)⟩
        obtain ⟨ba, oa, rfl, hca'⟩ := rd_at HA.out (intsU_get xs k x hx)
        obtain ⟨bb, ob, rfl, hcb'⟩ := rd_at HB.out (intsU_get ys k y hy)
        have e1 := hca' _ _ (intsU_get xs k x hx)
        have e2 := hcb' _ _ (intsU_get ys k y hy)
        have hlt2 : (k : Int) < ys.length := by have := Hlen.out; omega
        have hlt1 : (k : Int) < xs.length := by omega
        have Hx := Lib.hid hx; have Hy := Lib.hid hy
        clear hca' hcb' hx hy
        go_wp2_with fail
        go_quiet (fail)
        by_cases hxy : x = y
        · have hb : (x != y) = false := by simp [hxy]
          have Hxy := Lib.hid hxy; clear hxy
          go_wp2_with fail
          go_roundw
          case rel => exact ⟨k + 1, by omega, by go_num, by rw [List.take_add_one, List.take_add_one, Hx.out, Hy.out, Heq.out, Hxy.out], _, rfl⟩
          case measure => simp [intOf]; omega
        · have hb : (x != y) = true := by simp [hxy]
          have Hd : Hid (decide (xs = ys) = false) := by
            show decide (xs = ys) = false
            simp; intro h; apply hxy
            have h1 := Hx.out; rw [h, Hy.out] at h1; exact (Option.some.inj h1).symm
          clear hxy
          go_wp2_with fail
          go_ret
          exact ⟨ret_bool Hd.out.symm, ⟨rfl, rfl, rfl, Nat.le_refl _, fun _ _ => rfl⟩⟩
      · have Hd : Hid (decide (xs = ys) = true) := by
          show decide (xs = ys) = true
          have h1 := Heq.out
          rw [List.take_of_length_le (by omega), List.take_of_length_le (by have := Hlen.out; omega)] at h1
          simp [h1]
        go_wp2_with fail
        go_ret
        exact ⟨ret_bool Hd.out.symm, ⟨rfl, rfl, rfl, Nat.le_refl _, fun _ _ => rfl⟩⟩
  · have hne : ((xs.length : Int) != (ys.length : Int)) = true := by simp; omega
    have hd : decide (xs = ys) = false := by simp; intro h; exact hlen (by rw [h])
    have Hd := Lib.hid hd; clear hd hlen
    go_enter Tryd.func31, Tryd.ntmps31
    go_wp2_with fail
    go_ret
    exact ⟨ret_bool Hd.out.symm, Below.refl _ _⟩
theorem equalU_same (u v : Value) (xs ys : List Int) (he : xs = ys) (hx : RdSl w 1 u xs.length (intsU xs)) (hy : RdSl w 1 v ys.length (intsU ys)) (hl : xs.length ≤ 100000) :
    Calls Tryd.prog 31 #[u, v] w fun r w' => r = .returned (.bool true) ∧ Below w.heap.size w w' := by
  subst he
  have := equalU_any u v xs xs hx hy (by omega) (by omega)
  rwa [show decide (xs = xs) = true by simp] at this
set_option maxRecDepth 100000 in
set_option maxHeartbeats 2000000 in
theorem equalRW_any (u v : Value) (xs ys : List (Nat × Int)) (hx : RdSl w 2 u xs.length (flat xs)) (hy : RdSl w 2 v ys.length (flat ys)) (hl : xs.length ≤ 100000) (hl2 : ys.length ≤ 100000) :
    Calls Tryd.prog 26 #[u, v] w fun r w' => r = .returned (.bool (decide (xs = ys))) ∧ Below w.heap.size w w' := by
  obtain ⟨_, a, ca, rfl, hca, ha⟩ := hx
  obtain ⟨_, b, cb, rfl, hcb, hb⟩ := hy
  have HA := Lib.hid ha; have HB := Lib.hid hb; clear ha hb
  by_cases hne : xs.length = ys.length
  · have hbn : ((xs.length : Int) != (ys.length : Int)) = false := by simp; omega
    generalize hn1 : xs.length = n at *
    generalize hn2 : ys.length = m at *
    have HN := Lib.hid (And.intro hn1 hn2)
    clear hn1 hn2
    subst hne
    have hbn : ((n : Int) != (n : Int)) = false := by simp
    go_enter Tryd.func26, Tryd.ntmps26
    go_wp2_with fail
    go_loopw [13] (fun i wr => ∃ k : Nat, k ≤ n ∧ i = .int .i64 k ∧ xs.take k = ys.take k ∧ Qt w wr) (fun i _ => n - (intOf i).toNat)
    case atStart => exact ⟨0, by omega, rfl, rfl, Qt.refl w⟩
    case round =>
      obtain ⟨k, hk, rfl, heq, q⟩ := hrel
      obtain ⟨nq, rfl⟩ := q
      have HE := Lib.hid heq; clear heq
      by_cases hlt : k < n
      · obtain ⟨e, he⟩ : ∃ e, xs[k]? = some e := ⟨_, List.getElem?_eq_getElem (by rw [HN.out.1]; exact hlt)⟩
        obtain ⟨f, hf⟩ : ∃ e, ys[k]? = some e := ⟨_, List.getElem?_eq_getElem (by rw [HN.out.2]; exact hlt)⟩
        obtain ⟨g1, o1, rfl, hc1⟩ := rd_at HA.out (flat_get' xs k e he).1
        obtain ⟨g2, o2, rfl, hc2⟩ := rd_at HB.out (flat_get' ys k f hf).1
        have c1 := hc1 _ _ (flat_get' xs k e he).1; have c2 := hc1 _ _ (flat_get' xs k e he).2
        have d1 := hc2 _ _ (flat_get' ys k f hf).1; have d2 := hc2 _ _ (flat_get' ys k f hf).2
        rw [← Nat.add_assoc] at c2 d2
        have HEF := Lib.hid (And.intro he hf)
        have hk' : (k : Int) < n := by omega
        clear hc1 hc2 he hf
        obtain ⟨e1, e2⟩ := e
        obtain ⟨f1, f2⟩ := f
        by_cases h1 : e1 = f1
        · have hb1 : ((e1 : Int) == (f1 : Int)) = true := by simp; omega
          by_cases h2 : e2 = f2
          · have hb2 : (e2 == f2) = true := by simpa using h2
            have HQ := Lib.hid (And.intro h1 h2); clear h1 h2
            go_wp2_with fail
            go_quiet (fail)
            go_wp2_with fail
            go_roundw
            case rel => exact ⟨k + 1, by omega, by go_num, by rw [take_snoc_get _ _ _ HEF.out.1, take_snoc_get _ _ _ HEF.out.2, HE.out, HQ.out.1, HQ.out.2], ⟨_, rfl⟩⟩
            case measure => simp [intOf]; omega
          · have hb2 : (e2 == f2) = false := by simpa using h2
            have HQ := Lib.hid h2; clear h1 h2
            go_wp2_with fail
            go_quiet (fail)
            go_wp2_with fail
            go_ret
            exact ⟨ret_bool (by simp; intro h; rw [h, HEF.out.2] at HEF; exact absurd (by have := HEF.out.1; simp at this; exact this.2.symm) HQ.out), ((Qt.drewN w _).trans (Qt.drewN _ _)).below⟩
        · have hb1 : ((e1 : Int) == (f1 : Int)) = false := by simp; omega
          have HQ := Lib.hid h1; clear h1
          go_wp2_with fail
          go_quiet (fail)
          go_wp2_with fail
          go_ret
          exact ⟨ret_bool (by simp; intro h; rw [h, HEF.out.2] at HEF; exact absurd (by have := HEF.out.1; simp at this; exact this.1.symm) HQ.out), ((Qt.drewN w _).trans (Qt.drewN _ _)).below⟩
      · go_wp2_with fail
        go_ret
        exact ⟨ret_bool (by have := HE.out; rw [List.take_of_length_le (by rw [HN.out.1]; omega), List.take_of_length_le (by rw [HN.out.2]; omega)] at this; simp [this]), (Qt.drewN w nq).below⟩
  · have hbn : ((xs.length : Int) != (ys.length : Int)) = true := by simp; omega
    have HD : Hid (decide (xs = ys) = false) := by show decide (xs = ys) = false; simp; exact fun h => hne (by rw [h])
    generalize hn1 : xs.length = n at *
    generalize hn2 : ys.length = m at *
    clear hn1 hn2
    go_enter Tryd.func26, Tryd.ntmps26
    go_wp2_with fail
    go_ret
    exact ⟨ret_bool HD.out.symm, Below.refl _ _⟩
theorem equalRW_same (u v : Value) (xs : List (Nat × Int)) (hx : RdSl w 2 u xs.length (flat xs)) (hy : RdSl w 2 v xs.length (flat xs)) (hl : xs.length ≤ 100000) :
    Calls Tryd.prog 26 #[u, v] w fun r w' => r = .returned (.bool true) ∧ Below w.heap.size w w' := by
  have := equalRW_any u v xs xs hx hy hl hl
  rwa [show decide (xs = xs) = true by simp] at this
set_option maxRecDepth 100000 in
set_option maxHeartbeats 2000000 in
theorem equalW_any (u v : Value) (xs ys : List (Nat × Int)) (hx : RdSl w 2 u xs.length (flat xs)) (hy : RdSl w 2 v ys.length (flat ys)) (hl : xs.length ≤ 100000) (hl2 : ys.length ≤ 100000) :
    Calls Tryd.prog 53 #[u, v] w fun r w' => r = .returned (.bool (decide (xs = ys))) ∧ Below w.heap.size w w' := by
  obtain ⟨_, a, ca, rfl, hca, ha⟩ := hx
  obtain ⟨_, b, cb, rfl, hcb, hb⟩ := hy
  have HA := Lib.hid ha; have HB := Lib.hid hb; clear ha hb
  by_cases hne : xs.length = ys.length
  · have hbn : ((xs.length : Int) != (ys.length : Int)) = false := by simp; omega
    generalize hn1 : xs.length = n at *
    generalize hn2 : ys.length = m at *
    have HN := Lib.hid (And.intro hn1 hn2)
    clear hn1 hn2
    subst hne
    have hbn : ((n : Int) != (n : Int)) = false := by simp
    go_enter Tryd.func53, Tryd.ntmps53
    go_wp2_with fail
    go_loopw [13] (fun i wr => ∃ k : Nat, k ≤ n ∧ i = .int .i64 k ∧ xs.take k = ys.take k ∧ Qt w wr) (fun i _ => n - (intOf i).toNat)
    case atStart => exact ⟨0, by omega, rfl, rfl, Qt.refl w⟩
    case round =>
      obtain ⟨k, hk, rfl, heq, q⟩ := hrel
      obtain ⟨nq, rfl⟩ := q
      have HE := Lib.hid heq; clear heq
      by_cases hlt : k < n
      · obtain ⟨e, he⟩ : ∃ e, xs[k]? = some e := ⟨_, List.getElem?_eq_getElem (by rw [HN.out.1]; exact hlt)⟩
        obtain ⟨f, hf⟩ : ∃ e, ys[k]? = some e := ⟨_, List.getElem?_eq_getElem (by rw [HN.out.2]; exact hlt)⟩
        obtain ⟨g1, o1, rfl, hc1⟩ := rd_at HA.out (flat_get' xs k e he).1
        obtain ⟨g2, o2, rfl, hc2⟩ := rd_at HB.out (flat_get' ys k f hf).1
        have c1 := hc1 _ _ (flat_get' xs k e he).1; have c2 := hc1 _ _ (flat_get' xs k e he).2
        have d1 := hc2 _ _ (flat_get' ys k f hf).1; have d2 := hc2 _ _ (flat_get' ys k f hf).2
        rw [← Nat.add_assoc] at c2 d2
        have HEF := Lib.hid (And.intro he hf)
        have hk' : (k : Int) < n := by omega
        clear hc1 hc2 he hf
        obtain ⟨e1, e2⟩ := e
        obtain ⟨f1, f2⟩ := f
        by_cases h1 : e1 = f1
        · have hb1 : ((e1 : Int) == (f1 : Int)) = true := by simp; omega
          by_cases h2 : e2 = f2
          · have hb2 : (e2 == f2) = true := by simpa using h2
            have HQ := Lib.hid (And.intro h1 h2); clear h1 h2
            go_wp2_with fail
            go_quiet (fail)
            go_wp2_with fail
            go_roundw
            case rel => exact ⟨k + 1, by omega, by go_num, by rw [take_snoc_get _ _ _ HEF.out.1, take_snoc_get _ _ _ HEF.out.2, HE.out, HQ.out.1, HQ.out.2], ⟨_, rfl⟩⟩
            case measure => simp [intOf]; omega
          · have hb2 : (e2 == f2) = false := by simpa using h2
            have HQ := Lib.hid h2; clear h1 h2
            go_wp2_with fail
            go_quiet (fail)
            go_wp2_with fail
            go_ret
            exact ⟨ret_bool (by simp; intro h; rw [h, HEF.out.2] at HEF; exact absurd (by have := HEF.out.1; simp at this; exact this.2.symm) HQ.out), ((Qt.drewN w _).trans (Qt.drewN _ _)).below⟩
        · have hb1 : ((e1 : Int) == (f1 : Int)) = false := by simp; omega
          have HQ := Lib.hid h1; clear h1
          go_wp2_with fail
          go_quiet (fail)
          go_wp2_with fail
          go_ret
          exact ⟨ret_bool (by simp; intro h; rw [h, HEF.out.2] at HEF; exact absurd (by have := HEF.out.1; simp at this; exact this.1.symm) HQ.out), ((Qt.drewN w _).trans (Qt.drewN _ _)).below⟩
      · go_wp2_with fail
        go_ret
        exact ⟨ret_bool (by have := HE.out; rw [List.take_of_length_le (by rw [HN.out.1]; omega), List.take_of_length_le (by rw [HN.out.2]; omega)] at this; simp [this]), (Qt.drewN w nq).below⟩
  · have hbn : ((xs.length : Int) != (ys.length : Int)) = true := by simp; omega
    have HD : Hid (decide (xs = ys) = false) := by show decide (xs = ys) = false; simp; exact fun h => hne (by rw [h])
    generalize hn1 : xs.length = n at *
    generalize hn2 : ys.length = m at *
    clear hn1 hn2
    go_enter Tryd.func53, Tryd.ntmps53
    go_wp2_with fail
    go_ret
    exact ⟨ret_bool HD.out.symm, Below.refl _ _⟩
theorem equalW_same (u v : Value) (xs : List (Nat × Int)) (hx : RdSl w 2 u xs.length (flat xs)) (hy : RdSl w 2 v xs.length (flat xs)) (hl : xs.length ≤ 100000) :
    Calls Tryd.prog 53 #[u, v] w fun r w' => r = .returned (.bool true) ∧ Below w.heap.size w w' := by
  have := equalW_any u v xs xs hx hy hl hl
  rwa [show decide (xs = xs) = true by simp] at this
set_option maxRecDepth 100000 in
set_option maxHeartbeats 2000000 in
/-- Same of two programs that are equal. -/
theorem r10Same_same (u v : Value) (l : List (Nat × Nat × Int)) (hx : RdSl w 3 u l.length (instrC l)) (hy : RdSl w 3 v l.length (instrC l)) (hl : l.length ≤ 100000) :
    Calls Tryd.prog 33 #[u, v] w fun r w' => r = .returned (.bool true) ∧ Below w.heap.size w w' := by
  obtain ⟨_, a, ca, rfl, hca, ha⟩ := hx
  obtain ⟨_, b, cb, rfl, hcb, hb⟩ := hy
  have HA := Lib.hid ha; have HB := Lib.hid hb; clear ha hb
  generalize hn1 : l.length = n at *
  have HN := Lib.hid hn1
  clear hn1
  have hbn : ((n : Int) != (n : Int)) = false := by simp
  go_enter Tryd.func33, Tryd.ntmps33
  go_wp2_with fail
  go_loopw [13] (fun i wr => ∃ k : Nat, k ≤ n ∧ i = .int .i64 k ∧ Qt w wr) (fun i _ => n - (intOf i).toNat)
  case atStart => exact ⟨0, by omega, rfl, Qt.refl w⟩
  case round =>
    obtain ⟨k, hk, rfl, q⟩ := hrel
    obtain ⟨nq, rfl⟩ := q
    by_cases hlt : k < n
    · obtain ⟨e, he⟩ : ∃ e, l[k]? = some e := ⟨_, List.getElem?_eq_getElem (by rw [HN.out]; exact hlt)⟩
      have hg := instrC_get l k e he
      obtain ⟨g1, o1, rfl, hc1⟩ := rd_at HA.out hg.1
      obtain ⟨g2, o2, rfl, hc2⟩ := rd_at HB.out hg.1
      have c1 := hc1 _ _ hg.1; have c2 := hc1 _ _ hg.2.1; have c3 := hc1 _ _ hg.2.2
      have d1 := hc2 _ _ hg.1; have d2 := hc2 _ _ hg.2.1; have d3 := hc2 _ _ hg.2.2
      rw [← Nat.add_assoc] at c2 d2 c3 d3
      have hk' : (k : Int) < n := by omega
      clear hc1 hc2 he hg
      obtain ⟨e1, e2, e3⟩ := e
      simp only at c1 c2 c3 d1 d2 d3
      have q1 : ((e1 : Int) == (e1 : Int)) = true := by simp
      have q2 : ((e2 : Int) == (e2 : Int)) = true := by simp
      have q3 : (e3 == e3) = true := by simp
      go_wp2_with fail
      go_quiet (fail)
      go_wp2_with fail
      go_roundw
      case rel => exact ⟨k + 1, by omega, by go_num, ⟨_, rfl⟩⟩
      case measure => simp [intOf]; omega
    · go_wp2_with fail
      go_ret
      exact ⟨rfl, (Qt.drewN w nq).below⟩
end
section
variable {w : World}
set_option maxRecDepth 100000 in
set_option maxHeartbeats 2000000 in
theorem equalProg_same (u v : Value) (l : List (Nat × Nat × Int)) (hx : RdSl w 3 u l.length (instrC l)) (hy : RdSl w 3 v l.length (instrC l)) (hl : l.length ≤ 100000) :
    Calls Tryd.prog 52 #[u, v] w fun r w' => r = .returned (.bool true) ∧ Below w.heap.size w w' := by
  obtain ⟨_, a, ca, rfl, hca, ha⟩ := hx
  obtain ⟨_, b, cb, rfl, hcb, hb⟩ := hy
  have HA := Lib.hid ha; have HB := Lib.hid hb; clear ha hb
  generalize hn1 : l.length = n at *
  have HN := Lib.hid hn1
  clear hn1
  have hbn : ((n : Int) != (n : Int)) = false := by simp
  go_enter Tryd.func52, Tryd.ntmps52
  go_wp2_with fail
  go_loopw [13] (fun i wr => ∃ k : Nat, k ≤ n ∧ i = .int .i64 k ∧ Qt w wr) (fun i _ => n - (intOf i).toNat)
  case atStart => exact ⟨0, by omega, rfl, Qt.refl w⟩
  case round =>
    obtain ⟨k, hk, rfl, q⟩ := hrel
    obtain ⟨nq, rfl⟩ := q
    by_cases hlt : k < n
    · obtain ⟨e, he⟩ : ∃ e, l[k]? = some e := ⟨_, List.getElem?_eq_getElem (by rw [HN.out]; exact hlt)⟩
      have hg := instrC_get l k e he
      obtain ⟨g1, o1, rfl, hc1⟩ := rd_at HA.out hg.1
      obtain ⟨g2, o2, rfl, hc2⟩ := rd_at HB.out hg.1
      have c1 := hc1 _ _ hg.1; have c2 := hc1 _ _ hg.2.1; have c3 := hc1 _ _ hg.2.2
      have d1 := hc2 _ _ hg.1; have d2 := hc2 _ _ hg.2.1; have d3 := hc2 _ _ hg.2.2
      rw [← Nat.add_assoc] at c2 d2 c3 d3
      have hk' : (k : Int) < n := by omega
      clear hc1 hc2 he hg
      obtain ⟨e1, e2, e3⟩ := e
      simp only at c1 c2 c3 d1 d2 d3
      have q1 : ((e1 : Int) == (e1 : Int)) = true := by simp
      have q2 : ((e2 : Int) == (e2 : Int)) = true := by simp
      have q3 : (e3 == e3) = true := by simp
      go_wp2_with fail
      go_quiet (fail)
      go_wp2_with fail
      go_roundw
      case rel => exact ⟨k + 1, by omega, by go_num, ⟨_, rfl⟩⟩
      case measure => simp [intOf]; omega
    · go_wp2_with fail
      go_ret
      exact ⟨rfl, (Qt.drewN w nq).below⟩
end
end Go.Proofs.YtokgplgdaememaaDoor
