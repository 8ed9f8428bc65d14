/- The walks of the partial insertion sort and of the quicksort. -/
import Derived.Test.YtdidpppjkbgccaaDoorSortD
namespace Go.Proofs.YtdidpppjkbgccaaDoor
open Go.RowKit

section
variable {w : World} {g o c a b : Nat} {xs ys zs : List Int} {wr : World}
theorem LowB.mix (h : LowB xs a b) (hm : Mixed xs ys a b) (hb : b ≤ xs.length) : LowB ys a b := fun q h1 h2 h3 => by
  rw [hm.out (a - 1) (.inl (by omega))]
  exact hm.all hb (P := fun y => at0 xs (a - 1) ≤ y) (fun r h4 h5 => h r h4 h5 h3) q h1 h2
theorem asc_one (l : List Int) (a : Nat) : ascOn l a (a + 1) := fun p q h1 h2 h3 => by omega
theorem asc_next {l : List Int} {a i : Nat} (h : ascOn l a i) (hi : a < i) (hl : at0 l (i - 1) ≤ at0 l i) : ascOn l a (i + 1) := fun p q h1 h2 h3 => by
  by_cases e : q = i
  · subst e
    by_cases e2 : p = q - 1
    · rw [e2]; exact hl
    · exact Int.le_trans (h p (q - 1) h1 (by omega) (by omega)) hl
  · exact h p q h1 h2 (by omega)
theorem asc_same {l m : List Int} {a i : Nat} (h : ascOn l a i) (he : ∀ p, p < i → at0 m p = at0 l p) : ascOn m a i := fun p q h1 h2 h3 => by
  rw [he p (by omega), he q h3]; exact h p q h1 h2 h3
/-- Sorted up to i. -/
structure PiSt (w : World) (g o c : Nat) (xs : List Int) (a b i : Nat) (ys : List Int) (wr : World) : Prop where
  mix : MixSt w g o c xs a b ys wr
  asc : ascOn ys a i
theorem PiSt.drewN {i : Nat} (h : PiSt w g o c xs a b i ys wr) (n : Nat) : PiSt w g o c xs a b i ys (wr.drewN n) := ⟨h.mix.drewN n, h.asc⟩
/-- What the partial sort says. -/
def PiPost (w : World) (g o c : Nat) (xs : List Int) (a b : Nat) (r : Ending) (w' : World) : Prop := ∃ t : Bool, r = .returned (.bool t) ∧ ∃ ys, MixSt w g o c xs a b ys w' ∧ (t = true → ascOn ys a b)
/-- While the smaller one goes down. -/
structure ShSt (w : World) (g o c : Nat) (xs : List Int) (a b k j : Nat) (ys : List Int) (wr : World) : Prop where
  mix : MixSt w g o c xs a b ys wr
  ins : insInv ys a (k - 1) j
theorem ShSt.drewN {k j : Nat} (h : ShSt w g o c xs a b k j ys wr) (n : Nat) : ShSt w g o c xs a b k j ys (wr.drewN n) := ⟨h.mix.drewN n, h.ins⟩
theorem ShSt.start {k : Nat} (h : PiSt w g o c xs a b k ys wr) (hk : a + 1 < k) (hkb : k < b) (hb : b ≤ xs.length) :
    ShSt w g o c xs a b k (k - 1) (swp ys k (k - 1)) ((wr.setCell ⟨g, o + k, none⟩ (.int .u64 (at0 ys (k - 1)))).setCell ⟨g, o + (k - 1), none⟩ (.int .u64 (at0 ys k))).drew := by
  have hl := h.mix.len
  refine ⟨h.mix.swap k (k - 1) (by omega) hkb (by omega) (by omega) hb, insInv_start _ _ _ ?_⟩
  exact asc_same (fun p q h1 h2 h3 => h.asc p q h1 h2 (by omega)) (fun p hp => by rw [at0_swp ys k (k - 1) p (by omega) (by omega), if_neg (by omega), if_neg (by omega)])
theorem PiSt.swap0 {k : Nat} (h : PiSt w g o c xs a b k ys wr) (hk : a + 1 = k) (hkb : k < b) (hb : b ≤ xs.length) :
    PiSt w g o c xs a b k (swp ys k (k - 1)) ((wr.setCell ⟨g, o + k, none⟩ (.int .u64 (at0 ys (k - 1)))).setCell ⟨g, o + (k - 1), none⟩ (.int .u64 (at0 ys k))).drew :=
  ⟨h.mix.swap k (k - 1) (by omega) hkb (by omega) (by omega) hb, by rw [← hk]; exact asc_one _ _⟩
theorem PiSt.swapR {k j : Nat} (h : PiSt w g o c xs a b k ys wr) (hk : a < k) (hj : k < j) (hjb : j < b) (hb : b ≤ xs.length) :
    PiSt w g o c xs a b k (swp ys j (j - 1)) ((wr.setCell ⟨g, o + j, none⟩ (.int .u64 (at0 ys (j - 1)))).setCell ⟨g, o + (j - 1), none⟩ (.int .u64 (at0 ys j))).drew := by
  have hl := h.mix.len
  exact ⟨h.mix.swap j (j - 1) (by omega) hjb (by omega) (by omega) hb, asc_same h.asc (fun p hp => by rw [at0_swp ys j (j - 1) p (by omega) (by omega), if_neg (by omega), if_neg (by omega)])⟩
theorem ShSt.swap {k j : Nat} (h : ShSt w g o c xs a b k j ys wr) (haj : a < j) (hjk : j + 1 ≤ k) (hkb : k < b) (hb : b ≤ xs.length) (hl : at0 ys j < at0 ys (j - 1)) :
    ShSt w g o c xs a b k (j - 1) (swp ys j (j - 1)) ((wr.setCell ⟨g, o + j, none⟩ (.int .u64 (at0 ys (j - 1)))).setCell ⟨g, o + (j - 1), none⟩ (.int .u64 (at0 ys j))).drew := by
  have hlen := h.mix.len
  exact ⟨h.mix.swap j (j - 1) (by omega) (by omega) (by omega) (by omega) hb, insInv_step ys a (k - 1) j h.ins haj (by omega) (by omega) hl⟩
theorem ShSt.stop {k j : Nat} (h : ShSt w g o c xs a b k j ys wr) (haj : a ≤ j) (hjk : j + 1 ≤ k) (hj : j = a ∨ at0 ys (j - 1) ≤ at0 ys j) : PiSt w g o c xs a b k ys wr :=
  ⟨h.mix, by have := insInv_end ys a (k - 1) j h.ins haj (by omega) hj; rwa [show k - 1 + 1 = k by omega] at this⟩
set_option maxRecDepth 100000 in
set_option maxHeartbeats 8000000 in
theorem partialInsertion_any (h : WrU w g o c xs) (hab : a < b) (hb : b ≤ xs.length) (hs : xs.length ≤ 100000) (hlow : LowB xs a b) :
    Calls Tryd.prog 77 #[.slice (some ⟨g, o, none⟩) xs.length c, .int .i64 a, .int .i64 b] w (PiPost w g o c xs a b) := by
  have hm := h.le
  unfold maxLen at hm
  have H := Lib.hid (MixSt.refl h a b)
  have HB := Lib.hid hb; have HLO := Lib.hid hlow; clear h hlow
  generalize hn : xs.length = m at *
  have HN := Lib.hid hn; clear hn
  go_enter Tryd.func77, Tryd.ntmps77
  go_wp2_with fail
  go_loopw [7, 8] (fun u v wr => ∃ i n : Nat, a < i ∧ i ≤ b ∧ n ≤ 5 ∧ u = .int .i64 i ∧ v = .int .i64 n ∧ ∃ ys, PiSt w g o c xs a b i ys wr) (fun _ v _ => 5 - (intOf v).toNat)
  case atStart => exact ⟨a + 1, 0, by omega, by omega, by omega, by go_num, rfl, xs, H.out, asc_one _ _⟩
  case round =>
    obtain ⟨i, n, h1, h2, h3, rfl, rfl, ys, hP⟩ := hrel
    have P := Lib.hid hP; clear hP H
    by_cases hn5 : n < 5
    · have hn5' : (n : Int) < 5 := by omega
      go_upto_block 2 with fail
      go_cut [7] from 17 to 34 (fun u wx => ∃ k : Nat, i ≤ k ∧ k ≤ b ∧ u = .int .i64 k ∧ PiSt w g o c xs a b k ys wx ∧ (k < b → at0 ys k < at0 ys (k - 1)))
      case first =>
        go_wp2_with fail
        go_loopw [7] (fun u wx => ∃ k : Nat, i ≤ k ∧ k ≤ b ∧ u = .int .i64 k ∧ PiSt w g o c xs a b k ys wx) (fun u _ => b + 1 - (intOf u).toNat)
        case atStart => exact ⟨i, by omega, by omega, rfl, P.out⟩
        case round =>
          clear P
          obtain ⟨k, k1, k2, rfl, hP⟩ := hrel
          have hyl : ys.length = m := by rw [hP.mix.len, HN.out]
          have P := Lib.hid hP
          by_cases hkb : k < b
          · have hkb' : (k : Int) < b := by omega
            have d1 := hP.mix.own.cell k (by omega); have d2 := hP.mix.own.cell (k - 1) (by omega)
            have g1 : (k : Int) < m := by omega
            have g2 : (k : Int) - 1 < m := by omega
            have g3 : IntKind.i64.wrap ((k : Int) - 1) = (k : Int) - 1 := IntWalk.i64_in _ (by omega)
            have g4 : ((k : Int) - 1).toNat = k - 1 := by omega
            have g5 : (0 : Int) ≤ (k : Int) - 1 := by omega
            have g6 : (1 : Int) ≤ (k : Int) := by omega
            clear hP hyl
            by_cases hl : at0 ys k < at0 ys (k - 1)
            · have hd : decide (at0 ys k < at0 ys (k - 1)) = true := by simpa using hl
              have LQ := Lib.hid (less_is _ _ _ hd); have HL := Lib.hid hl; clear hd hl
              go_wp2_with fail
              go_quiet ((go_at_call 78; exact Calls.quiet_of_same (LQ.out _)))
              go_wp2_with fail
              go_meet
              exact ⟨k, k1, k2, rfl, P.out.drewN _, fun _ => HL.out⟩
            · have hd : decide (at0 ys k < at0 ys (k - 1)) = false := by simpa using hl
              have LQ := Lib.hid (less_is _ _ _ hd); have HL := Lib.hid hl; clear hd hl
              go_wp2_with fail
              go_quiet ((go_at_call 78; exact Calls.quiet_of_same (LQ.out _)))
              go_wp2_with fail
              go_roundw
              case rel => exact ⟨k + 1, by omega, by omega, by go_num, (P.out.drewN _).mix, asc_next P.out.asc (by omega) (by have := HL.out; omega)⟩
              case measure => simp [intOf]; omega
          · have hkb' : decide ((k : Int) < b) = false := by simp; omega
            clear hP hyl
            go_wp2_with fail
            go_quiet (fail)
            go_wp2_with fail
            go_meet
            exact ⟨k, k1, k2, rfl, P.out.drewN _, fun h => absurd h hkb⟩
      case rest =>
        clear P
        obtain ⟨k, k1, k2, rfl, p1, p2⟩ := hcut
        have P := Lib.hid p1; have PI := Lib.hid p2; clear p2
        have hyl : ys.length = m := by rw [p1.mix.len, HN.out]
        by_cases hkb : k = b
        · subst hkb
          clear p1 hyl
          go_wp2_with fail
          go_ret
          exact ⟨true, rfl, ys, P.out.mix, fun _ => P.out.asc⟩
        · have hkb' : ((k : Int) == b) = false := by simp; omega
          by_cases h50 : b < a + 50
          · have h50' : (b : Int) - a < 50 := by omega
            clear p1 hyl
            go_wp2_with fail
            go_ret
            exact ⟨false, rfl, ys, P.out.mix, fun h => by cases h⟩
          · have h50' : ¬ (b : Int) - a < 50 := by omega
            have d1 := p1.mix.own.cell k (by omega); have d2 := p1.mix.own.cell (k - 1) (by omega)
            have f1 := p1.mix.own.frozen (o + k); have f2 := p1.mix.own.frozen (o + (k - 1))
            have hgz := p1.mix.own.lt
            have hne : ¬ o + (k - 1) = o + k := by omega
            have g1 : (k : Int) < m := by omega
            have g2 : (k : Int) - 1 < m := by omega
            have g3 : IntKind.i64.wrap ((k : Int) - 1) = (k : Int) - 1 := IntWalk.i64_in _ (by omega)
            have g4 : ((k : Int) - 1).toNat = k - 1 := by omega
            have g5 : (0 : Int) ≤ (k : Int) - 1 := by omega
            have g6 : (1 : Int) ≤ (k : Int) := by omega
            clear p1 hyl
            have PS0 := Lib.hid (fun hk1 => P.out.swap0 hk1 (by omega) (by rw [HN.out]; exact hb))
            have PS1 := Lib.hid (fun hk1 => ShSt.start P.out hk1 (by omega) (by rw [HN.out]; exact hb))
            go_wp2_with fail
            go_region
            go_upto_if 61 with fail
            clear d1 d2 f1 f2 hgz hne g1 g2 g3 g4 g5 g6
            go_cut [9] from 61 to 94 (fun _ wx => ∃ zs, PiSt w g o c xs a b k zs wx)
            case first =>
              by_cases hk1 : a + 1 = k
              · have hk1' : ¬ (2 : Int) ≤ (k : Int) - a := by omega
                go_wp2_with fail
                go_meet
                exact ⟨_, PS0.out hk1⟩
              · have hk1' : (2 : Int) ≤ (k : Int) - a := by omega
                have PS := Lib.hid (PS1.out (by omega))
                go_wp2_with fail
                go_loopw [9] (fun u wx => ∃ j : Nat, a ≤ j ∧ j + 1 ≤ k ∧ u = .int .i64 j ∧ ∃ zs, ShSt w g o c xs a b k j zs wx) (fun u _ => (intOf u).toNat)
                case atStart => exact ⟨k - 1, by omega, by omega, by rw [show ((k - 1 : Nat) : Int) = (k : Int) - 1 by omega], _, PS.out⟩
                case round =>
                  clear PS PS0 PS1
                  obtain ⟨j, j1, j2, rfl, zs, hS⟩ := hrel
                  have hzl : zs.length = m := by rw [hS.mix.len, HN.out]
                  have S := Lib.hid hS
                  have LB := Lib.hid (HLO.out.mix hS.mix.mix (by rw [HN.out]; exact hb))
                  by_cases hj0 : j = 0
                  · subst hj0
                    clear hS hzl
                    go_wp2_with fail
                    go_meet
                    exact ⟨_, S.out.stop j1 j2 (.inl (by omega))⟩
                  · have hj0' : (1 : Int) ≤ j := by omega
                    have d1 := hS.mix.own.cell j (by omega); have d2 := hS.mix.own.cell (j - 1) (by omega)
                    have f1 := hS.mix.own.frozen (o + j); have f2 := hS.mix.own.frozen (o + (j - 1))
                    have hgz := hS.mix.own.lt
                    have hne : ¬ o + (j - 1) = o + j := by omega
                    have g1 : (j : Int) < m := by omega
                    have g2 : (j : Int) - 1 < m := by omega
                    have g3 : IntKind.i64.wrap ((j : Int) - 1) = (j : Int) - 1 := IntWalk.i64_in _ (by omega)
                    have g4 : ((j : Int) - 1).toNat = j - 1 := by omega
                    have g5 : (0 : Int) ≤ (j : Int) - 1 := by omega
                    clear hS hzl
                    by_cases hl : at0 zs j < at0 zs (j - 1)
                    · have hja : a < j := by
                        rcases Nat.lt_or_ge a j with h | h
                        · exact h
                        · have hja : j = a := by omega
                          subst hja
                          have := LB.out j (Nat.le_refl _) (by omega) (by omega)
                          omega
                      have hd : decide (at0 zs j < at0 zs (j - 1)) = true := by simpa using hl
                      have LQ := Lib.hid (less_is _ _ _ hd); have HL := Lib.hid hl; clear hd hl
                      go_wp2_with fail
                      go_quiet ((go_at_call 78; exact Calls.quiet_of_same (LQ.out _)))
                      go_wp2_with fail
                      obtain ⟨wq, hwq⟩ : ∃ wq, wr.drewN nq = wq := ⟨_, rfl⟩
                      rw [hwq]
                      have S2 : Hid (ShSt w g o c xs a b k j zs wq) := Lib.hid (by rw [← hwq]; exact S.out.drewN _)
                      clear hwq d1 d2 f1 f2 hgz
                      have d1 := S2.out.mix.own.cell j (by rw [S2.out.mix.len, HN.out]; omega); have d2 := S2.out.mix.own.cell (j - 1) (by rw [S2.out.mix.len, HN.out]; omega)
                      have f1 := S2.out.mix.own.frozen (o + j); have f2 := S2.out.mix.own.frozen (o + (j - 1))
                      have hgz := S2.out.mix.own.lt
                      go_region
                      all_goals go_wp2_with fail
                      all_goals
                        go_roundw
                        case rel => exact ⟨j - 1, by omega, by omega, by rw [show ((j - 1 : Nat) : Int) = (j : Int) - 1 by omega], _, S2.out.swap hja j2 (by omega) (by rw [HN.out]; exact hb) HL.out⟩
                        case measure => simp [intOf]; omega
                    · have hd : decide (at0 zs j < at0 zs (j - 1)) = false := by simpa using hl
                      have LQ := Lib.hid (less_is _ _ _ hd); have HL := Lib.hid hl; clear hd hl
                      go_wp2_with fail
                      go_quiet ((go_at_call 78; exact Calls.quiet_of_same (LQ.out _)))
                      go_wp2_with fail
                      go_meet
                      exact ⟨_, (S.out.drewN _).stop j1 j2 (.inr (by have := HL.out; omega))⟩
            case rest =>
              clear P PS0 PS1
              obtain ⟨zs, p1⟩ := hcut
              have P := Lib.hid p1; clear p1
              by_cases hk2 : b < k + 2
              · have hk2' : ¬ (2 : Int) ≤ (b : Int) - k := by omega
                go_wp2_with fail
                go_roundw
                case rel => exact ⟨k, n + 1, by omega, k2, by omega, rfl, by go_num, _, P.out⟩
                case measure => simp [intOf]; omega
              · have hk2' : (2 : Int) ≤ (b : Int) - k := by omega
                go_wp2_with fail
                go_loopw [10] (fun u wx => ∃ j : Nat, k < j ∧ j ≤ b ∧ u = .int .i64 j ∧ ∃ zs, PiSt w g o c xs a b k zs wx) (fun u _ => b - (intOf u).toNat)
                case atStart => exact ⟨k + 1, by omega, by omega, by go_num, _, P.out⟩
                case round =>
                  clear P
                  obtain ⟨j, j1, j2, rfl, zs, hS⟩ := hrel
                  have hzl : zs.length = m := by rw [hS.mix.len, HN.out]
                  have S := Lib.hid hS
                  by_cases hjb : j < b
                  · have hjb' : (j : Int) < b := by omega
                    have d1 := hS.mix.own.cell j (by omega); have d2 := hS.mix.own.cell (j - 1) (by omega)
                    have f1 := hS.mix.own.frozen (o + j); have f2 := hS.mix.own.frozen (o + (j - 1))
                    have hgz := hS.mix.own.lt
                    have hne : ¬ o + (j - 1) = o + j := by omega
                    have g1 : (j : Int) < m := by omega
                    have g2 : (j : Int) - 1 < m := by omega
                    have g3 : IntKind.i64.wrap ((j : Int) - 1) = (j : Int) - 1 := IntWalk.i64_in _ (by omega)
                    have g4 : ((j : Int) - 1).toNat = j - 1 := by omega
                    have g5 : (0 : Int) ≤ (j : Int) - 1 := by omega
                    have g6 : (1 : Int) ≤ (j : Int) := by omega
                    clear hS hzl
                    by_cases hl : at0 zs j < at0 zs (j - 1)
                    · have hd : decide (at0 zs j < at0 zs (j - 1)) = true := by simpa using hl
                      have LQ := Lib.hid (less_is _ _ _ hd); have HL := Lib.hid hl; clear hd hl
                      go_wp2_with fail
                      go_quiet ((go_at_call 78; exact Calls.quiet_of_same (LQ.out _)))
                      go_wp2_with fail
                      obtain ⟨wq, hwq⟩ : ∃ wq, wr.drewN nq = wq := ⟨_, rfl⟩
                      rw [hwq]
                      have S2 : Hid (PiSt w g o c xs a b k zs wq) := Lib.hid (by rw [← hwq]; exact S.out.drewN _)
                      clear hwq d1 d2 f1 f2 hgz
                      have d1 := S2.out.mix.own.cell j (by rw [S2.out.mix.len, HN.out]; omega); have d2 := S2.out.mix.own.cell (j - 1) (by rw [S2.out.mix.len, HN.out]; omega)
                      have f1 := S2.out.mix.own.frozen (o + j); have f2 := S2.out.mix.own.frozen (o + (j - 1))
                      have hgz := S2.out.mix.own.lt
                      go_region
                      all_goals go_wp2_with fail
                      all_goals
                        go_roundw
                        case rel => exact ⟨j + 1, by omega, by omega, by go_num, _, S2.out.swapR (by omega) j1 hjb (by rw [HN.out]; exact hb)⟩
                        case measure => simp [intOf]; omega
                    · have hd : decide (at0 zs j < at0 zs (j - 1)) = false := by simpa using hl
                      have LQ := Lib.hid (less_is _ _ _ hd); have HL := Lib.hid hl; clear hd hl
                      go_wp2_with fail
                      go_quiet ((go_at_call 78; exact Calls.quiet_of_same (LQ.out _)))
                      go_wp2_with fail
                      go_roundw
                      case rel => exact ⟨k, n + 1, by omega, k2, by omega, rfl, by go_num, _, S.out.drewN _⟩
                      case measure => simp [intOf]; omega
                  · have hjb' : ¬ (j : Int) < b := by omega
                    clear hS hzl
                    go_wp2_with fail
                    go_roundw
                    case rel => exact ⟨k, n + 1, by omega, k2, by omega, rfl, by go_num, _, S.out⟩
                    case measure => simp [intOf]; omega
    · have hn5' : ¬ (n : Int) < 5 := by omega
      go_wp2_with fail
      go_ret
      exact ⟨false, rfl, ys, P.out.mix, fun h => by cases h⟩
end
end Go.Proofs.YtdidpppjkbgccaaDoor
