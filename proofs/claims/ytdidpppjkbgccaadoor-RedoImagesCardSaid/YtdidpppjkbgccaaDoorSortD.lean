/- The walks of the quicksort's two partitions. -/
import Derived.Test.YtdidpppjkbgccaaDoorSortC
import Derived.Deep.CutRange
import Derived.Deep.CutBlock
namespace Go.Proofs.YtdidpppjkbgccaaDoor
open Go.RowKit

section
variable {w : World} {g o c a b : Nat} {xs ys zs : List Int} {wr : World}
/-- While a row is parted by its first element x: what lies ahead of i goes left (L), what lies behind j does not. -/
structure PtSt (w : World) (g o c : Nat) (xs : List Int) (a b : Nat) (L : Int → Int → Prop) (x : Int) (i j : Nat) (ys : List Int) (wr : World) : Prop where
  mix : MixSt w g o c xs a b ys wr
  left : ∀ q, a < q → q < i → L (at0 ys q) x
  right : ∀ q, j < q → q < b → ¬ L (at0 ys q) x
  piv : at0 ys a = x
variable {L : Int → Int → Prop} {x : Int} {i j : Nat}
theorem PtSt.drewN (h : PtSt w g o c xs a b L x i j ys wr) (n : Nat) : PtSt w g o c xs a b L x i j ys (wr.drewN n) := ⟨h.mix.drewN n, h.left, h.right, h.piv⟩
theorem PtSt.up (h : PtSt w g o c xs a b L x i j ys wr) (hl : L (at0 ys i) x) : PtSt w g o c xs a b L x (i + 1) j ys wr :=
  ⟨h.mix, fun q h1 h2 => by by_cases e : q = i; exact e ▸ hl; exact h.left q h1 (by omega), h.right, h.piv⟩
theorem PtSt.down (h : PtSt w g o c xs a b L x i j ys wr) (hj : 0 < j) (hl : ¬ L (at0 ys j) x) : PtSt w g o c xs a b L x i (j - 1) ys wr :=
  ⟨h.mix, h.left, fun q h1 h2 => by by_cases e : q = j; exact e ▸ hl; exact h.right q (by omega) h2, h.piv⟩
theorem PtSt.swap (h : PtSt w g o c xs a b L x i j ys wr) (hai : a < i) (hij : i < j) (hjb : j < b) (hb : b ≤ xs.length) (h1 : ¬ L (at0 ys i) x) (h2 : L (at0 ys j) x) :
    PtSt w g o c xs a b L x (i + 1) (j - 1) (swp ys i j) ((wr.setCell ⟨g, o + i, none⟩ (.int .u64 (at0 ys j))).setCell ⟨g, o + j, none⟩ (.int .u64 (at0 ys i))).drew := by
  have hl := h.mix.len
  have e := fun q => at0_swp ys i j q (by omega) (by omega)
  refine ⟨h.mix.swap i j (by omega) (by omega) (by omega) hjb hb, fun q h3 h4 => ?_, fun q h3 h4 => ?_, ?_⟩
  · rw [e]
    by_cases e1 : q = i
    · rw [if_neg (by omega), if_pos e1]; exact h2
    · rw [if_neg (by omega), if_neg e1]; exact h.left q h3 (by omega)
  · rw [e]
    by_cases e1 : q = j
    · rw [if_pos e1]; exact h1
    · rw [if_neg e1, if_neg (by omega)]; exact h.right q (by omega) h4
  · rw [e, if_neg (by omega), if_neg (by omega)]; exact h.piv
/-- The pivot goes between what is less and what is not. -/
theorem PtSt.stop (h : PtSt w g o c xs a b (· < ·) x i j ys wr) (hij : i = j + 1) (haj : a ≤ j) (hjb : j < b) (_hai : a < i) (hb : b ≤ xs.length) :
    MixSt w g o c xs a b (swp ys j a) ((wr.setCell ⟨g, o + j, none⟩ (.int .u64 (at0 ys a))).setCell ⟨g, o + a, none⟩ (.int .u64 (at0 ys j))).drew ∧ Parted (swp ys j a) a j b := by
  have hl := h.mix.len
  have e := fun q => at0_swp ys j a q (by omega) (by omega)
  refine ⟨h.mix.swap j a haj hjb (Nat.le_refl _) (by omega) hb, haj, hjb, fun q h1 h2 => ?_, fun q h1 h2 => ?_⟩
  · rw [e, e, if_neg (show ¬ j = a by omega), if_pos rfl, h.piv]
    by_cases eq : q = a
    · rw [if_pos eq]; exact Int.le_of_lt (h.left j (by omega) (by omega))
    · rw [if_neg eq, if_neg (by omega)]; exact Int.le_of_lt (h.left q (by omega) (by omega))
  · rw [e q, if_neg (by omega), if_neg (by omega), e j]
    have h3 : x ≤ at0 ys q := by have := h.right q h1 h2; omega
    by_cases ea : j = a
    · rw [if_pos ea, ea, h.piv]; exact h3
    · rw [if_neg ea, if_pos rfl, h.piv]; exact h3
theorem PtSt.start {p : Nat} (h : MixSt w g o c xs a b (swp xs a p) wr) (hp : p < xs.length) (ha : a < xs.length) : PtSt w g o c xs a b L (at0 xs p) (a + 1) (b - 1) (swp xs a p) wr :=
  ⟨h, fun q h1 h2 => by omega, fun q h1 h2 => by omega, by
    rw [at0_swp xs a p a ha hp]
    by_cases e : a = p
    · rw [if_pos e, e]
    · rw [if_neg e, if_pos rfl]⟩
set_option maxRecDepth 100000 in
set_option maxHeartbeats 8000000 in
theorem partitionEqual_any (h : WrU w g o c xs) (p : Nat) (hp : a ≤ p ∧ p < b) (hb : b ≤ xs.length) (hs : xs.length ≤ 100000) :
    Calls Tryd.prog 79 #[.slice (some ⟨g, o, none⟩) xs.length c, .int .i64 a, .int .i64 b, .int .i64 p] w fun r w' => ∃ k : Nat, r = .returned (.int .i64 k) ∧ ∃ ys, MixSt w g o c xs a b ys w' ∧ PartedEq ys a k b (at0 xs p) := by
  have hm := h.le
  unfold maxLen at hm
  have c1 := h.cell a (by omega); have c2 := h.cell p (by omega)
  have f1 := h.frozen (o + a); have f2 := h.frozen (o + p)
  have hg := h.lt
  have H := Lib.hid (MixSt.refl h a b)
  have HP := Lib.hid hp; have HB := Lib.hid hb; clear h
  generalize hn : xs.length = m at *
  have HN := Lib.hid hn; clear hn
  have b1 : (a : Int) < m := by omega
  have b2 : (p : Int) < m := by omega
  go_enter Tryd.func79, Tryd.ntmps79
  go_upto_region 1 with fail
  go_cut [] (fun wx => MixSt w g o c xs a b (swp xs a p) wx)
  case first =>
    by_cases hap : p = a
    · subst hap
      go_region
      all_goals go_wp2_with fail
      all_goals go_meet
      all_goals exact H.out.swap p p (by omega) (by omega) (by omega) (by omega) (by rw [HN.out]; omega)
    · have hne : ¬ o + p = o + a := by omega
      go_region
      all_goals go_wp2_with fail
      all_goals go_meet
      all_goals exact H.out.swap a p (by omega) (by omega) (by omega) (by omega) (by rw [HN.out]; omega)
  case rest =>
    generalize hx : at0 xs p = x at *
    have HX := Lib.hid hx; clear hx
    have M1 : Hid (PtSt w g o c xs a b (· ≤ ·) x (a + 1) (b - 1) (swp xs a p) wc) := Lib.hid (by rw [← HX.out]; exact PtSt.start hcut (by rw [HN.out]; omega) (by rw [HN.out]; omega))
    clear hcut c1 c2 f1 f2
    go_wp2_with fail
    go_loopw [9, 10] (fun u v wr => ∃ i j : Nat, a < i ∧ i ≤ j + 1 ∧ j < b ∧ u = .int .i64 i ∧ v = .int .i64 j ∧ ∃ ys, PtSt w g o c xs a b (· ≤ ·) x i j ys wr) (fun u _ _ => b + 1 - (intOf u).toNat)
    case atStart => exact ⟨a + 1, b - 1, by omega, by omega, by omega, by go_num, by rw [show ((b - 1 : Nat) : Int) = (b : Int) - 1 by omega], _, M1.out⟩
    case round =>
      obtain ⟨i, j, h1, h2, h3, rfl, rfl, ys, hP⟩ := hrel
      have P := Lib.hid hP; clear hP M1
      go_upto_block 2 with fail
      go_cut [9] from 29 to 45 (fun u wx => ∃ k : Nat, i ≤ k ∧ k ≤ j + 1 ∧ u = .int .i64 k ∧ PtSt w g o c xs a b (· ≤ ·) x k j ys wx ∧ (k ≤ j → ¬ at0 ys k ≤ x))
      case first =>
        go_wp2_with fail
        go_loopw [9] (fun u wx => ∃ k : Nat, i ≤ k ∧ k ≤ j + 1 ∧ u = .int .i64 k ∧ PtSt w g o c xs a b (· ≤ ·) x k j ys wx) (fun u _ => b + 1 - (intOf u).toNat)
        case atStart => exact ⟨i, by omega, by omega, rfl, P.out⟩
        case round =>
          clear P
          obtain ⟨k, k1, k2, rfl, hP⟩ := hrel
          have hyl : ys.length = m := by rw [hP.mix.len, HN.out]
          have P := Lib.hid hP
          by_cases hkj : k ≤ j
          · have hkj' : (k : Int) ≤ j := by omega
            have d1 := hP.mix.own.cell a (by omega); have d2 := hP.mix.own.cell k (by omega)
            rw [hP.piv] at d1
            have g1 : (k : Int) < m := by omega
            clear hP hyl
            by_cases hl : x < at0 ys k
            · have hd : decide (x < at0 ys k) = true := by simpa using hl
              have LQ := Lib.hid (less_is _ _ _ hd); have HL := Lib.hid hl; clear hd hl
              go_wp2_with fail
              go_quiet ((go_at_call 78; exact Calls.quiet_of_same (LQ.out _)))
              go_wp2_with fail
              go_meet
              exact ⟨k, k1, k2, rfl, P.out.drewN _, fun _ => by have := HL.out; omega⟩
            · have hd : decide (x < at0 ys k) = false := by simpa using hl
              have LQ := Lib.hid (less_is _ _ _ hd); have HL := Lib.hid hl; clear hd hl
              go_wp2_with fail
              go_quiet ((go_at_call 78; exact Calls.quiet_of_same (LQ.out _)))
              go_wp2_with fail
              go_roundw
              case rel => exact ⟨k + 1, by omega, by omega, by go_num, (P.out.drewN _).up (by have := HL.out; omega)⟩
              case measure => simp [intOf]; omega
          · have hkj' : decide ((k : Int) ≤ j) = false := by simp; omega
            clear hP hyl
            go_wp2_with fail
            go_quiet (fail)
            go_wp2_with fail
            go_meet
            exact ⟨k, k1, k2, rfl, P.out.drewN _, fun h => absurd h hkj⟩
      case rest =>
        clear P
        obtain ⟨k, k1, k2, rfl, p1, p2⟩ := hcut
        have P := Lib.hid p1; have PI := Lib.hid p2; clear p1 p2
        go_upto_block 4 with fail
        go_cut [10] from 46 to 61 (fun u wx => ∃ l : Nat, k ≤ l + 1 ∧ l ≤ j ∧ u = .int .i64 l ∧ PtSt w g o c xs a b (· ≤ ·) x k l ys wx ∧ (k ≤ l → at0 ys l ≤ x))
        case first =>
          go_wp2_with fail
          go_loopw [10] (fun u wx => ∃ l : Nat, k ≤ l + 1 ∧ l ≤ j ∧ u = .int .i64 l ∧ PtSt w g o c xs a b (· ≤ ·) x k l ys wx) (fun u _ => (intOf u).toNat)
          case atStart => exact ⟨j, by omega, by omega, rfl, P.out⟩
          case round =>
            clear P
            obtain ⟨l, l1, l2, rfl, hP⟩ := hrel
            have hyl : ys.length = m := by rw [hP.mix.len, HN.out]
            have P := Lib.hid hP
            by_cases hkj : k ≤ l
            · have hkj' : (k : Int) ≤ l := by omega
              have d1 := hP.mix.own.cell a (by omega); have d2 := hP.mix.own.cell l (by omega)
              rw [hP.piv] at d1
              have g1 : (l : Int) < m := by omega
              clear hP hyl
              by_cases hl : x < at0 ys l
              · have hd : decide (x < at0 ys l) = true := by simpa using hl
                have LQ := Lib.hid (less_is _ _ _ hd); have HL := Lib.hid hl; clear hd hl
                go_wp2_with fail
                go_quiet ((go_at_call 78; exact Calls.quiet_of_same (LQ.out _)))
                go_wp2_with fail
                go_roundw
                case rel => exact ⟨l - 1, by omega, by omega, by rw [show ((l - 1 : Nat) : Int) = (l : Int) - 1 by omega], (P.out.drewN _).down (by omega) (by have := HL.out; omega)⟩
                case measure => simp [intOf]; omega
              · have hd : decide (x < at0 ys l) = false := by simpa using hl
                have LQ := Lib.hid (less_is _ _ _ hd); have HL := Lib.hid hl; clear hd hl
                go_wp2_with fail
                go_quiet ((go_at_call 78; exact Calls.quiet_of_same (LQ.out _)))
                go_wp2_with fail
                go_meet
                exact ⟨l, l1, l2, rfl, P.out.drewN _, fun _ => by have := HL.out; omega⟩
            · have hkj' : decide ((k : Int) ≤ l) = false := by simp; omega
              clear hP hyl
              go_wp2_with fail
              go_quiet (fail)
              go_wp2_with fail
              go_meet
              exact ⟨l, l1, l2, rfl, P.out.drewN _, fun h => absurd h hkj⟩
        case rest =>
          clear P
          obtain ⟨l, l1, l2, rfl, p1, p2⟩ := hcut
          have P := Lib.hid p1; have PD := Lib.hid p2; clear p1 p2
          have P0 := P.out
          have hyl : ys.length = m := by rw [P0.mix.len, HN.out]
          by_cases hkl : l < k
          · have hkl' : (l : Int) < k := by omega
            clear P0 hyl
            go_wp2_with fail
            go_ret
            exact ⟨k, rfl, ys, P.out.mix, by omega, by omega, fun q q1 q2 => by
              rw [HX.out]
              by_cases e : q = a
              · rw [e, P.out.piv]; exact Int.le_refl _
              · exact P.out.left q (by omega) q2⟩
          · have hkl' : ¬ (l : Int) < k := by omega
            have hlt : k < l := by
              have e1 := PI.out (by omega); have e2 := PD.out (by omega)
              by_cases e : k = l
              · subst e; exact absurd e2 e1
              · omega
            have d1 := P0.mix.own.cell k (by omega); have d2 := P0.mix.own.cell l (by omega)
            have f1 := P0.mix.own.frozen (o + k); have f2 := P0.mix.own.frozen (o + l)
            have hgz := P0.mix.own.lt
            have hne : ¬ o + l = o + k := by omega
            have g1 : (k : Int) < m := by omega
            have g2 : (l : Int) < m := by omega
            clear P0 hyl
            go_wp2_with fail
            go_region
            all_goals go_wp2_with fail
            all_goals
              go_roundw
              case rel => exact ⟨k + 1, l - 1, by omega, by omega, by omega, by go_num, by rw [show ((l - 1 : Nat) : Int) = (l : Int) - 1 by omega], _, P.out.swap (by omega) hlt (by omega) (by rw [HN.out]; exact hb) (by have := PI.out (by omega); omega) (by have := PD.out (by omega); omega)⟩
              case measure => simp [intOf]; omega
set_option maxRecDepth 100000 in
set_option maxHeartbeats 8000000 in
theorem partition_any (h : WrU w g o c xs) (p : Nat) (hp : a ≤ p ∧ p < b) (hb : b ≤ xs.length) (hs : xs.length ≤ 100000) :
    Calls Tryd.prog 80 #[.slice (some ⟨g, o, none⟩) xs.length c, .int .i64 a, .int .i64 b, .int .i64 p] w fun r w' => ∃ (k : Nat) (t : Bool), r = .returned (.tuple #[.int .i64 k, .bool t]) ∧ ∃ ys, MixSt w g o c xs a b ys w' ∧ Parted ys a k b := by
  have hm := h.le
  unfold maxLen at hm
  have c1 := h.cell a (by omega); have c2 := h.cell p (by omega)
  have f1 := h.frozen (o + a); have f2 := h.frozen (o + p)
  have hg := h.lt
  have H := Lib.hid (MixSt.refl h a b)
  have HP := Lib.hid hp; have HB := Lib.hid hb; clear h
  generalize hn : xs.length = m at *
  have HN := Lib.hid hn; clear hn
  have b1 : (a : Int) < m := by omega
  have b2 : (p : Int) < m := by omega
  go_enter Tryd.func80, Tryd.ntmps80
  go_upto_region 1 with fail
  go_cut [] (fun wx => MixSt w g o c xs a b (swp xs a p) wx)
  case first =>
    by_cases hap : p = a
    · subst hap
      go_region
      all_goals go_wp2_with fail
      all_goals go_meet
      all_goals exact H.out.swap p p (by omega) (by omega) (by omega) (by omega) (by rw [HN.out]; omega)
    · have hne : ¬ o + p = o + a := by omega
      go_region
      all_goals go_wp2_with fail
      all_goals go_meet
      all_goals exact H.out.swap a p (by omega) (by omega) (by omega) (by omega) (by rw [HN.out]; omega)
  case rest =>
    generalize hx : at0 xs p = x at *
    have HX := Lib.hid hx; clear hx
    have P : Hid (PtSt w g o c xs a b (· < ·) x (a + 1) (b - 1) (swp xs a p) wc) := Lib.hid (by rw [← HX.out]; exact PtSt.start hcut (by rw [HN.out]; omega) (by rw [HN.out]; omega))
    clear hcut c1 c2 f1 f2
    generalize swp xs a p = ys at *
    obtain ⟨i, hi⟩ : ∃ i, a + 1 = i := ⟨_, rfl⟩
    obtain ⟨j, hj⟩ : ∃ j, b - 1 = j := ⟨_, rfl⟩
    rw [hi, hj] at P
    have q6 : (a : Int) + 1 = i := by omega
    have q7 : (b : Int) - 1 = j := by omega
    have h1 : a < i := by omega
    have h2 : i ≤ j + 1 := by omega
    have h3 : j < b := by omega
    clear hi hj
    go_upto_block 0 with fail
    go_cut [10] from 30 to 45 (fun u wx => ∃ k : Nat, i ≤ k ∧ k ≤ j + 1 ∧ u = .int .i64 k ∧ PtSt w g o c xs a b (· < ·) x k j ys wx ∧ (k ≤ j → ¬ at0 ys k < x))
    case first =>
      go_wp2_with fail
      go_loopw [10] (fun u wx => ∃ k : Nat, i ≤ k ∧ k ≤ j + 1 ∧ u = .int .i64 k ∧ PtSt w g o c xs a b (· < ·) x k j ys wx) (fun u _ => b + 1 - (intOf u).toNat)
      case atStart => exact ⟨i, by omega, by omega, rfl, P.out⟩
      case round =>
        clear P
        obtain ⟨k, k1, k2, rfl, hP⟩ := hrel
        have hyl : ys.length = m := by rw [hP.mix.len, HN.out]
        have P := Lib.hid hP
        by_cases hkj : k ≤ j
        · have hkj' : (k : Int) ≤ j := by omega
          have d1 := hP.mix.own.cell a (by omega); have d2 := hP.mix.own.cell k (by omega)
          rw [hP.piv] at d1
          have g1 : (k : Int) < m := by omega
          clear hP hyl
          by_cases hl : at0 ys k < x
          · have hd : decide (at0 ys k < x) = true := by simpa using hl
            have LQ := Lib.hid (less_is _ _ _ hd); have HL := Lib.hid hl; clear hd hl
            go_wp2_with fail
            go_quiet ((go_at_call 78; exact Calls.quiet_of_same (LQ.out _)))
            go_wp2_with fail
            go_roundw
            case rel => exact ⟨k + 1, by omega, by omega, by go_num, (P.out.drewN _).up HL.out⟩
            case measure => simp [intOf]; omega
          · have hd : decide (at0 ys k < x) = false := by simpa using hl
            have LQ := Lib.hid (less_is _ _ _ hd); have HL := Lib.hid hl; clear hd hl
            go_wp2_with fail
            go_quiet ((go_at_call 78; exact Calls.quiet_of_same (LQ.out _)))
            go_wp2_with fail
            go_meet
            exact ⟨k, k1, k2, rfl, P.out.drewN _, fun _ => by have := HL.out; omega⟩
        · have hkj' : decide ((k : Int) ≤ j) = false := by simp; omega
          clear hP hyl
          go_wp2_with fail
          go_quiet (fail)
          go_wp2_with fail
          go_meet
          exact ⟨k, k1, k2, rfl, P.out.drewN _, fun h => absurd h hkj⟩
    case rest =>
      clear P
      obtain ⟨k, k1, k2, rfl, p1, p2⟩ := hcut
      have P := Lib.hid p1; have PI := Lib.hid p2; clear p1 p2
      go_upto_block 2 with fail
      go_cut [11] from 46 to 62 (fun u wx => ∃ l : Nat, k ≤ l + 1 ∧ l ≤ j ∧ u = .int .i64 l ∧ PtSt w g o c xs a b (· < ·) x k l ys wx ∧ (k ≤ l → at0 ys l < x))
      case first =>
        go_wp2_with fail
        go_loopw [11] (fun u wx => ∃ l : Nat, k ≤ l + 1 ∧ l ≤ j ∧ u = .int .i64 l ∧ PtSt w g o c xs a b (· < ·) x k l ys wx) (fun u _ => (intOf u).toNat)
        case atStart => exact ⟨j, by omega, by omega, rfl, P.out⟩
        case round =>
          clear P
          obtain ⟨l, l1, l2, rfl, hP⟩ := hrel
          have hyl : ys.length = m := by rw [hP.mix.len, HN.out]
          have P := Lib.hid hP
          by_cases hkj : k ≤ l
          · have hkj' : (k : Int) ≤ l := by omega
            have d1 := hP.mix.own.cell a (by omega); have d2 := hP.mix.own.cell l (by omega)
            rw [hP.piv] at d1
            have g1 : (l : Int) < m := by omega
            clear hP hyl
            by_cases hl : at0 ys l < x
            · have hd : decide (at0 ys l < x) = true := by simpa using hl
              have LQ := Lib.hid (less_is _ _ _ hd); have HL := Lib.hid hl; clear hd hl
              go_wp2_with fail
              go_quiet ((go_at_call 78; exact Calls.quiet_of_same (LQ.out _)))
              go_wp2_with fail
              go_meet
              exact ⟨l, l1, l2, rfl, P.out.drewN _, fun _ => by have := HL.out; omega⟩
            · have hd : decide (at0 ys l < x) = false := by simpa using hl
              have LQ := Lib.hid (less_is _ _ _ hd); have HL := Lib.hid hl; clear hd hl
              go_wp2_with fail
              go_quiet ((go_at_call 78; exact Calls.quiet_of_same (LQ.out _)))
              go_wp2_with fail
              go_roundw
              case rel => exact ⟨l - 1, by omega, by omega, by rw [show ((l - 1 : Nat) : Int) = (l : Int) - 1 by omega], (P.out.drewN _).down (by omega) (by have := HL.out; omega)⟩
              case measure => simp [intOf]; omega
          · have hkj' : decide ((k : Int) ≤ l) = false := by simp; omega
            clear hP hyl
            go_wp2_with fail
            go_quiet (fail)
            go_wp2_with fail
            go_meet
            exact ⟨l, l1, l2, rfl, P.out.drewN _, fun h => absurd h hkj⟩
      case rest =>
        clear P
        obtain ⟨l, l1, l2, rfl, p1, p2⟩ := hcut
        have P := Lib.hid p1; have PD := Lib.hid p2; clear p1 p2
        have P0 := P.out
        have hyl : ys.length = m := by rw [P0.mix.len, HN.out]
        by_cases hkl : l < k
        · have hkl' : (l : Int) < k := by omega
          have d1 := P0.mix.own.cell l (by omega); have d2 := P0.mix.own.cell a (by omega)
          have f1 := P0.mix.own.frozen (o + l); have f2 := P0.mix.own.frozen (o + a)
          have hgz := P0.mix.own.lt
          have g1 : (l : Int) < m := by omega
          have PE := Lib.hid (P0.stop (show k = l + 1 by omega) (by omega) (by omega) (by omega) (by rw [HN.out]; exact hb))
          clear P0 hyl
          by_cases hla : l = a
          · subst hla
            go_wp2_with fail
            go_region
            all_goals go_wp2_with fail
            all_goals go_ret2
            all_goals exact ⟨l, true, rfl, _, PE.out.1, PE.out.2⟩
          · have hne : ¬ o + a = o + l := by omega
            go_wp2_with fail
            go_region
            all_goals go_wp2_with fail
            all_goals go_ret2
            all_goals exact ⟨l, true, rfl, _, PE.out.1, PE.out.2⟩
        · have hkl' : ¬ (l : Int) < k := by omega
          have hlt : k < l := by
            have e1 := PI.out (by omega); have e2 := PD.out (by omega)
            by_cases e : k = l
            · subst e; exact absurd e2 e1
            · omega
          have d1 := P0.mix.own.cell k (by omega); have d2 := P0.mix.own.cell l (by omega)
          have f1 := P0.mix.own.frozen (o + k); have f2 := P0.mix.own.frozen (o + l)
          have hgz := P0.mix.own.lt
          have hne : ¬ o + l = o + k := by omega
          have g1 : (k : Int) < m := by omega
          have g2 : (l : Int) < m := by omega
          have PS := Lib.hid (P0.swap (by omega) hlt (by omega) (by rw [HN.out]; exact hb) (by have := PI.out (by omega); omega) (by have := PD.out (by omega); omega))
          clear P0 hyl
          go_wp2_with fail
          go_region
          all_goals go_wp2_with fail
          go_loopw [10, 11] (fun u v wr => ∃ i j : Nat, a < i ∧ i ≤ j + 1 ∧ j < b ∧ u = .int .i64 i ∧ v = .int .i64 j ∧ ∃ ys, PtSt w g o c xs a b (· < ·) x i j ys wr) (fun u _ _ => b + 1 - (intOf u).toNat)
          case atStart => exact ⟨k + 1, l - 1, by omega, by omega, by omega, by go_num, by rw [show ((l - 1 : Nat) : Int) = (l : Int) - 1 by omega], _, PS.out⟩
          case round =>
            clear P PI PD PS h1 h2 h3 k1 k2 l1 l2 hkl hkl' hlt d1 d2 f1 f2 hgz hne g1 g2 q6 q7
            obtain ⟨i, j, h1, h2, h3, rfl, rfl, ys, hP⟩ := hrel
            have P := Lib.hid hP; clear hP
            go_upto_block 6 with fail
            go_cut [10] from 99 to 114 (fun u wx => ∃ k : Nat, i ≤ k ∧ k ≤ j + 1 ∧ u = .int .i64 k ∧ PtSt w g o c xs a b (· < ·) x k j ys wx ∧ (k ≤ j → ¬ at0 ys k < x))
            case first =>
              go_wp2_with fail
              go_loopw [10] (fun u wx => ∃ k : Nat, i ≤ k ∧ k ≤ j + 1 ∧ u = .int .i64 k ∧ PtSt w g o c xs a b (· < ·) x k j ys wx) (fun u _ => b + 1 - (intOf u).toNat)
              case atStart => exact ⟨i, by omega, by omega, rfl, P.out⟩
              case round =>
                clear P
                obtain ⟨k, k1, k2, rfl, hP⟩ := hrel
                have hyl : ys.length = m := by rw [hP.mix.len, HN.out]
                have P := Lib.hid hP
                by_cases hkj : k ≤ j
                · have hkj' : (k : Int) ≤ j := by omega
                  have d1 := hP.mix.own.cell a (by omega); have d2 := hP.mix.own.cell k (by omega)
                  rw [hP.piv] at d1
                  have g1 : (k : Int) < m := by omega
                  clear hP hyl
                  by_cases hl : at0 ys k < x
                  · have hd : decide (at0 ys k < x) = true := by simpa using hl
                    have LQ := Lib.hid (less_is _ _ _ hd); have HL := Lib.hid hl; clear hd hl
                    go_wp2_with fail
                    go_quiet ((go_at_call 78; exact Calls.quiet_of_same (LQ.out _)))
                    go_wp2_with fail
                    go_roundw
                    case rel => exact ⟨k + 1, by omega, by omega, by go_num, (P.out.drewN _).up HL.out⟩
                    case measure => simp [intOf]; omega
                  · have hd : decide (at0 ys k < x) = false := by simpa using hl
                    have LQ := Lib.hid (less_is _ _ _ hd); have HL := Lib.hid hl; clear hd hl
                    go_wp2_with fail
                    go_quiet ((go_at_call 78; exact Calls.quiet_of_same (LQ.out _)))
                    go_wp2_with fail
                    go_meet
                    exact ⟨k, k1, k2, rfl, P.out.drewN _, fun _ => by have := HL.out; omega⟩
                · have hkj' : decide ((k : Int) ≤ j) = false := by simp; omega
                  clear hP hyl
                  go_wp2_with fail
                  go_quiet (fail)
                  go_wp2_with fail
                  go_meet
                  exact ⟨k, k1, k2, rfl, P.out.drewN _, fun h => absurd h hkj⟩
            case rest =>
              clear P
              obtain ⟨k, k1, k2, rfl, p1, p2⟩ := hcut
              have P := Lib.hid p1; have PI := Lib.hid p2; clear p1 p2
              go_upto_block 8 with fail
              go_cut [11] from 115 to 131 (fun u wx => ∃ l : Nat, k ≤ l + 1 ∧ l ≤ j ∧ u = .int .i64 l ∧ PtSt w g o c xs a b (· < ·) x k l ys wx ∧ (k ≤ l → at0 ys l < x))
              case first =>
                go_wp2_with fail
                go_loopw [11] (fun u wx => ∃ l : Nat, k ≤ l + 1 ∧ l ≤ j ∧ u = .int .i64 l ∧ PtSt w g o c xs a b (· < ·) x k l ys wx) (fun u _ => (intOf u).toNat)
                case atStart => exact ⟨j, by omega, by omega, rfl, P.out⟩
                case round =>
                  clear P
                  obtain ⟨l, l1, l2, rfl, hP⟩ := hrel
                  have hyl : ys.length = m := by rw [hP.mix.len, HN.out]
                  have P := Lib.hid hP
                  by_cases hkj : k ≤ l
                  · have hkj' : (k : Int) ≤ l := by omega
                    have d1 := hP.mix.own.cell a (by omega); have d2 := hP.mix.own.cell l (by omega)
                    rw [hP.piv] at d1
                    have g1 : (l : Int) < m := by omega
                    clear hP hyl
                    by_cases hl : at0 ys l < x
                    · have hd : decide (at0 ys l < x) = true := by simpa using hl
                      have LQ := Lib.hid (less_is _ _ _ hd); have HL := Lib.hid hl; clear hd hl
                      go_wp2_with fail
                      go_quiet ((go_at_call 78; exact Calls.quiet_of_same (LQ.out _)))
                      go_wp2_with fail
                      go_meet
                      exact ⟨l, l1, l2, rfl, P.out.drewN _, fun _ => by have := HL.out; omega⟩
                    · have hd : decide (at0 ys l < x) = false := by simpa using hl
                      have LQ := Lib.hid (less_is _ _ _ hd); have HL := Lib.hid hl; clear hd hl
                      go_wp2_with fail
                      go_quiet ((go_at_call 78; exact Calls.quiet_of_same (LQ.out _)))
                      go_wp2_with fail
                      go_roundw
                      case rel => exact ⟨l - 1, by omega, by omega, by rw [show ((l - 1 : Nat) : Int) = (l : Int) - 1 by omega], (P.out.drewN _).down (by omega) (by have := HL.out; omega)⟩
                      case measure => simp [intOf]; omega
                  · have hkj' : decide ((k : Int) ≤ l) = false := by simp; omega
                    clear hP hyl
                    go_wp2_with fail
                    go_quiet (fail)
                    go_wp2_with fail
                    go_meet
                    exact ⟨l, l1, l2, rfl, P.out.drewN _, fun h => absurd h hkj⟩
              case rest =>
                clear P
                obtain ⟨l, l1, l2, rfl, p1, p2⟩ := hcut
                have P := Lib.hid p1; have PD := Lib.hid p2; clear p1 p2
                have P0 := P.out
                have hyl : ys.length = m := by rw [P0.mix.len, HN.out]
                by_cases hkl : l < k
                · have hkl' : (l : Int) < k := by omega
                  have d1 := P0.mix.own.cell l (by omega); have d2 := P0.mix.own.cell a (by omega)
                  have f1 := P0.mix.own.frozen (o + l); have f2 := P0.mix.own.frozen (o + a)
                  have hgz := P0.mix.own.lt
                  have g1 : (l : Int) < m := by omega
                  have PE := Lib.hid (P0.stop (show k = l + 1 by omega) (by omega) (by omega) (by omega) (by rw [HN.out]; exact hb))
                  clear P0 hyl
                  by_cases hla : l = a
                  · subst hla
                    go_wp2_with fail
                    go_region
                    all_goals go_wp2_with fail
                    all_goals go_ret2
                    all_goals exact ⟨l, false, rfl, _, PE.out.1, PE.out.2⟩
                  · have hne : ¬ o + a = o + l := by omega
                    go_wp2_with fail
                    go_region
                    all_goals go_wp2_with fail
                    all_goals go_ret2
                    all_goals exact ⟨l, false, rfl, _, PE.out.1, PE.out.2⟩
                · have hkl' : ¬ (l : Int) < k := by omega
                  have hlt : k < l := by
                    have e1 := PI.out (by omega); have e2 := PD.out (by omega)
                    by_cases e : k = l
                    · subst e; exact absurd e2 e1
                    · omega
                  have d1 := P0.mix.own.cell k (by omega); have d2 := P0.mix.own.cell l (by omega)
                  have f1 := P0.mix.own.frozen (o + k); have f2 := P0.mix.own.frozen (o + l)
                  have hgz := P0.mix.own.lt
                  have hne : ¬ o + l = o + k := by omega
                  have g1 : (k : Int) < m := by omega
                  have g2 : (l : Int) < m := by omega
                  have PS := Lib.hid (P0.swap (by omega) hlt (by omega) (by rw [HN.out]; exact hb) (by have := PI.out (by omega); omega) (by have := PD.out (by omega); omega))
                  clear P0 hyl
                  go_wp2_with fail
                  go_region
                  all_goals go_wp2_with fail
                  all_goals
                    go_roundw
                    case rel => exact ⟨k + 1, l - 1, by omega, by omega, by omega, by go_num, by rw [show ((l - 1 : Nat) : Int) = (l : Int) - 1 by omega], _, PS.out⟩
                    case measure => simp [intOf]; omega
end
end Go.Proofs.YtdidpppjkbgccaaDoor
