/- The walk of the quicksort, and slices.Sort of any number of words. -/
import Derived.Test.YtdidpppjkbgccaaDoorSortE
namespace Go.Proofs.YtdidpppjkbgccaaDoor
open Go.RowKit

section
variable {w : World} {g o c a b : Nat} {xs ys zs : List Int} {wr : World}
/-- Between two rounds: what lies outside of [a', b') is in order. -/
structure PqSt (w : World) (g o c : Nat) (xs : List Int) (a b a' b' : Nat) (ys : List Int) (wr : World) : Prop where
  mix : MixSt w g o c xs a b ys wr
  sand : Sand ys a a' b' b
variable {a' b' : Nat}
theorem PqSt.sub {w2 : World} (h : PqSt w g o c xs a b a' b' ys wr) (k : MixSt wr g o c ys a' b' zs w2) (ha : a ≤ a') (hb' : b' ≤ b) (hb : b ≤ xs.length) : PqSt w g o c xs a b a' b' zs w2 :=
  ⟨h.mix.trans (k.mono ha hb'), h.sand.mix ha hb' k.mix (by rw [h.mix.len]; omega)⟩
theorem PqSt.later {w2 : World} (h : PqSt w g o c xs a b a' b' ys wr) (k : Upd (fun _ => False) wr w2) : PqSt w g o c xs a b a' b' ys w2 := ⟨h.mix.later k, h.sand⟩
theorem PqSt.drewN (h : PqSt w g o c xs a b a' b' ys wr) (n : Nat) : PqSt w g o c xs a b a' b' ys (wr.drewN n) := ⟨h.mix.drewN n, h.sand⟩
theorem PqSt.done {w2 : World} (h : PqSt w g o c xs a b a' b' ys wr) (k : SortPost wr g o c ys a' b' w2) (ha : a ≤ a') (hb' : b' ≤ b) (hb : b ≤ xs.length) : SortPost w g o c xs a b w2 := by
  obtain ⟨zs, m1, s1, o1, u1⟩ := k
  have h2 := h.sub (zs := zs) (w2 := w2) ⟨m1, o1, u1⟩ ha hb' hb
  exact ⟨zs, h2.mix.mix, h2.sand.done s1, h2.mix.own, h2.mix.upd⟩
theorem insertion_at {m : Nat} (h : WrU w g o c xs) (hl : xs.length = m) (hab : a ≤ b) (hb : b ≤ m) (hs : m ≤ 100000) :
    Calls Tryd.prog 72 #[.slice (some ⟨g, o, none⟩) m c, .int .i64 a, .int .i64 b] w fun r w' => r = .returned (.tuple #[]) ∧ SortPost w g o c xs a b w' := by
  subst hl; exact insertion_any g o c a b xs h hab hb (by omega)
theorem heapSort_at {m : Nat} (h : WrU w g o c xs) (hl : xs.length = m) (hab : a < b) (hb : b ≤ m) (hs : m ≤ 100000) :
    Calls Tryd.prog 73 #[.slice (some ⟨g, o, none⟩) m c, .int .i64 a, .int .i64 b] w fun r w' => r = .returned (.tuple #[]) ∧ SortPost w g o c xs a b w' := by
  subst hl; exact heapSort_any h hab hb hs
theorem break_at {m : Nat} (h : WrU w g o c xs) (hl : xs.length = m) (hab : a + 8 ≤ b) (hb : b ≤ m) (hs : m ≤ 100000) :
    Calls Tryd.prog 74 #[.slice (some ⟨g, o, none⟩) m c, .int .i64 a, .int .i64 b] w fun r w' => r = .returned (.tuple #[]) ∧ ∃ ys, MixSt w g o c xs a b ys w' := by
  subst hl; exact breakPatterns_any h hab hb hs
theorem reverse_at {m : Nat} (h : WrU w g o c xs) (hl : xs.length = m) (hab : a < b) (hb : b ≤ m) (hs : m ≤ 100000) :
    Calls Tryd.prog 76 #[.slice (some ⟨g, o, none⟩) m c, .int .i64 a, .int .i64 b] w fun r w' => r = .returned (.tuple #[]) ∧ ∃ ys, MixSt w g o c xs a b ys w' := by
  subst hl; exact reverse_any h hab hb (by omega)
theorem choose_at {m : Nat} (h : WrU w g o c xs) (hl : xs.length = m) (hab : a + 8 ≤ b) (hb : b ≤ m) (hs : m ≤ 100000) :
    Calls Tryd.prog 75 #[.slice (some ⟨g, o, none⟩) m c, .int .i64 a, .int .i64 b] w fun r w' => ∃ (x : Nat) (y : Int), r = .returned (.tuple #[.int .i64 x, .int .i64 y]) ∧ (a ≤ x ∧ x < b) ∧ (y = 0 ∨ y = 1 ∨ y = 2) ∧ Upd (fun _ => False) w w' := by
  subst hl; exact choosePivot_any h hab hb hs
theorem partial_at {m : Nat} (h : WrU w g o c xs) (hl : xs.length = m) (hab : a < b) (hb : b ≤ m) (hs : m ≤ 100000) (hlow : LowB xs a b) :
    Calls Tryd.prog 77 #[.slice (some ⟨g, o, none⟩) m c, .int .i64 a, .int .i64 b] w (PiPost w g o c xs a b) := by
  subst hl; exact partialInsertion_any h hab hb hs hlow
theorem partEq_at {m : Nat} (h : WrU w g o c xs) (hl : xs.length = m) (p : Nat) (hp : a ≤ p ∧ p < b) (hb : b ≤ m) (hs : m ≤ 100000) :
    Calls Tryd.prog 79 #[.slice (some ⟨g, o, none⟩) m c, .int .i64 a, .int .i64 b, .int .i64 p] w fun r w' => ∃ k : Nat, r = .returned (.int .i64 k) ∧ ∃ ys, MixSt w g o c xs a b ys w' ∧ PartedEq ys a k b (at0 xs p) := by
  subst hl; exact partitionEqual_any h p hp hb hs
theorem part_at {m : Nat} (h : WrU w g o c xs) (hl : xs.length = m) (p : Nat) (hp : a ≤ p ∧ p < b) (hb : b ≤ m) (hs : m ≤ 100000) :
    Calls Tryd.prog 80 #[.slice (some ⟨g, o, none⟩) m c, .int .i64 a, .int .i64 b, .int .i64 p] w fun r w' => ∃ (k : Nat) (t : Bool), r = .returned (.tuple #[.int .i64 k, .bool t]) ∧ ∃ ys, MixSt w g o c xs a b ys w' ∧ Parted ys a k b := by
  subst hl; exact partition_any h p hp hb hs
set_option maxRecDepth 100000 in
set_option maxHeartbeats 8000000 in
theorem pdq_any (n : Nat) : ∀ {w : World} {xs : List Int} {a b : Nat} (lim : Nat), b - a = n → WrU w g o c xs → a ≤ b → b ≤ xs.length → xs.length ≤ 100000 → lim ≤ 64 → LowB xs a b →
    Calls Tryd.prog 68 #[.slice (some ⟨g, o, none⟩) xs.length c, .int .i64 a, .int .i64 b, .int .i64 lim] w fun r w' => r = .returned (.tuple #[]) ∧ SortPost w g o c xs a b w' := by
  induction n using Nat.strongRecOn with
  | ind n ih =>
  intro w xs a b lim hn0 h hab hb hs hlim hlow
  have HIH := Lib.hid ih; clear ih
  have hm := h.le
  unfold maxLen at hm
  have H : Hid (PqSt w g o c xs a b a b xs w) := Lib.hid ⟨MixSt.refl h a b, Sand.start hlow⟩
  have HB := Lib.hid hb; have HN0 := Lib.hid hn0; clear h hlow hn0
  generalize hn : xs.length = m at *
  have HN := Lib.hid hn; clear hn
  go_enter Tryd.func68, Tryd.ntmps68
  go_wp2_with fail
  go_loopw [1, 2, 3, 8, 9] (fun u v z s t wr => ∃ (a' b' l : Nat) (t1 t2 : Bool), a ≤ a' ∧ a' ≤ b' ∧ b' ≤ b ∧ l ≤ 64 ∧ u = .int .i64 a' ∧ v = .int .i64 b' ∧ z = .int .i64 l ∧ s = .bool t1 ∧ t = .bool t2 ∧ ∃ ys, PqSt w g o c xs a b a' b' ys wr) (fun u v _ _ _ _ => (intOf v - intOf u).toNat)
  case atStart => exact ⟨a, b, lim, true, true, Nat.le_refl _, hab, Nat.le_refl _, hlim, rfl, rfl, rfl, rfl, rfl, xs, H.out⟩
  case round =>
    obtain ⟨a', b', l, t1, t2, ha, hab', hb', hl, rfl, rfl, rfl, rfl, rfl, ys, hP⟩ := hrel
    have P := Lib.hid hP; clear hP H
    have HBX : Hid (b ≤ xs.length) := Lib.hid (by rw [HN.out]; exact hb)
    have YL : Hid (ys.length = m) := Lib.hid (by rw [P.out.mix.len, HN.out])
    by_cases h12 : b' ≤ a' + 12
    · have h12' : (b' : Int) - a' ≤ 12 := by omega
      go_wp2_with fail
      (with_reducible refine (insertion_at P.out.mix.own YL.out hab' (by omega) hs).mono ?_)
      rintro e w1 ⟨rfl, hp⟩
      have HQ := Lib.hid (P.out.done hp ha hb' HBX.out); clear hp
      go_wp2_with fail
      (try simp only [Exit.inBlock, Exit.then]); refine bodyPost_ret (results_none rfl _ _ _) rfl ?_
      exact ⟨rfl, HQ.out⟩
    · have h12' : ¬ (b' : Int) - a' ≤ 12 := by omega
      by_cases hl0 : l = 0
      · subst hl0
        go_wp2_with fail
        (with_reducible refine (heapSort_at P.out.mix.own YL.out (by omega) (by omega) hs).mono ?_)
        rintro e w1 ⟨rfl, hp⟩
        have HQ := Lib.hid (P.out.done hp ha hb' HBX.out); clear hp
        go_wp2_with fail
        (try simp only [Exit.inBlock, Exit.then]); refine bodyPost_ret (results_none rfl _ _ _) rfl ?_
        exact ⟨rfl, HQ.out⟩
      · have hl0' : ((l : Int) == 0) = false := by simp; omega
        go_upto_if 35 with fail
        go_cut [3] from 35 to 41 (fun u wx => ∃ l' : Nat, l' ≤ 64 ∧ u = .int .i64 l' ∧ ∃ ys, PqSt w g o c xs a b a' b' ys wx)
        case first =>
          cases t1
          · go_wp2_with fail
            (with_reducible refine (break_at P.out.mix.own YL.out (by omega) (by omega) hs).mono ?_)
            rintro e w1 ⟨rfl, zs, hp⟩
            have HQ := Lib.hid (P.out.sub hp ha hb' HBX.out); clear hp
            go_wp2_with fail
            go_meet
            exact ⟨l - 1, by omega, by rw [show ((l - 1 : Nat) : Int) = (l : Int) - 1 by omega], _, HQ.out⟩
          · go_wp2_with fail
            go_meet
            exact ⟨l, hl, rfl, _, P.out⟩
        case rest =>
          clear P YL hl0 hl0'
          obtain ⟨l', hl', rfl, ys, hP⟩ := hcut
          have P := Lib.hid hP; clear hP
          have YL : Hid (ys.length = m) := Lib.hid (by rw [P.out.mix.len, HN.out])
          go_wp2_with fail
          (with_reducible refine (choose_at P.out.mix.own YL.out (by omega) (by omega) hs).mono ?_)
          rintro e w2 ⟨p, y, rfl, hp, hy, hU⟩
          have P2 := Lib.hid (P.out.later hU); clear hU P
          go_upto_if 50 with fail
          go_cut [11, 12] from 50 to 60 (fun u v wx => ∃ (p' : Nat) (y' : Int), u = .int .i64 p' ∧ v = .int .i64 y' ∧ (a' ≤ p' ∧ p' < b') ∧ (y' = 0 ∨ y' = 1) ∧ ∃ ys, PqSt w g o c xs a b a' b' ys wx)
          case first =>
            rcases hy with rfl | rfl | rfl
            · go_wp2_with fail
              go_meet
              exact ⟨p, 0, rfl, rfl, hp, .inl rfl, _, P2.out⟩
            · go_wp2_with fail
              go_meet
              exact ⟨p, 1, rfl, rfl, hp, .inr rfl, _, P2.out⟩
            · go_wp2_with fail
              (with_reducible refine (reverse_at P2.out.mix.own YL.out (by omega) (by omega) hs).mono ?_)
              rintro e w3 ⟨rfl, zs, hq⟩
              have P3 := Lib.hid (P2.out.sub hq ha hb' HBX.out); clear hq
              go_wp2_with fail
              go_meet
              exact ⟨b' - 1 - (p - a'), 1, by rw [show ((b' - 1 - (p - a') : Nat) : Int) = (b' : Int) - 1 - ((p : Int) - a') by omega], rfl, by omega, .inr rfl, _, P3.out⟩
          case rest =>
            clear P2 YL hy hp
            obtain ⟨p, y, rfl, rfl, hp, hy, ys, hP⟩ := hcut
            have P := Lib.hid hP; clear hP
            have YL : Hid (ys.length = m) := Lib.hid (by rw [P.out.mix.len, HN.out])
            obtain ⟨wd, hwd⟩ : ∃ x : World, x = wc := ⟨_, rfl⟩
            subst hwd
            go_upto_region 15 with fail
            go_cut [68] from 61 to 67 (fun t wx => t = .bool (t1 && t2 && (y == 1)) ∧ wd = wx)
            case first =>
              rcases hy with rfl | rfl <;> cases t1 <;> cases t2
              all_goals go_wp2_with fail
              all_goals go_meet
              all_goals exact ⟨rfl, rfl⟩
            obtain ⟨hc1, rfl⟩ := hcut
            subst hc1
            generalize (t1 && t2 && (y == 1)) = tt
            go_upto_if 68 with fail
            go_cut [] from 68 to 72 (fun wx => ∃ ys, PqSt w g o c xs a b a' b' ys wx)
            case first =>
              cases tt
              · go_wp2_with fail
                go_meet
                exact ⟨_, P.out⟩
              · go_wp2_with fail
                (with_reducible refine (partial_at P.out.mix.own YL.out (by omega) (by omega) hs (P.out.sand.low ha hb')).mono ?_)
                rintro e w3 ⟨t, rfl, zs, hq, hqs⟩
                have P3 := Lib.hid (P.out.sub hq ha hb' HBX.out)
                have HQ := Lib.hid (And.intro hq hqs); clear hq hqs
                cases t
                · go_wp2_with fail
                  go_meet
                  exact ⟨_, P3.out⟩
                · go_wp2_with fail
                  (try simp only [Exit.inBlock, Exit.then]); refine bodyPost_ret (results_none rfl _ _ _) rfl ?_
                  exact ⟨rfl, zs, P3.out.mix.mix, P3.out.sand.done (by first | exact HQ.out.2 rfl | exact HQ.out.2 trivial), P3.out.mix.own, P3.out.mix.upd⟩
            case rest =>
              clear P YL hy
              obtain ⟨ys, hP⟩ := hcut
              have P := Lib.hid hP
              have YL : Hid (ys.length = m) := Lib.hid (by rw [P.out.mix.len, HN.out])
              have hyl := YL.out
              have c2 := hP.mix.own.cell p (by omega)
              have b2 : (p : Int) < m := by omega
              have hgz := hP.mix.own.lt
              by_cases ha0 : a' = 0
              · have ha0' : decide ((0 : Int) < a') = false := by simp; omega
                have ha0n : ¬ 0 < a' := by omega
                clear ha0
                clear hP hyl
                go_wp2_with fail
                go_quiet (fail)
                go_wp2_with fail
                (with_reducible refine (part_at (P.out.drewN _).mix.own YL.out p hp (by omega) hs).mono ?_)
                rintro e w3 ⟨k, t, rfl, zs, hq, hqe⟩
                have P3 := Lib.hid ((P.out.drewN _).sub hq ha hb' HBX.out)
                have QE := Lib.hid hqe; have hk1 := hqe.1; have hk2 := hqe.2.1; clear hq hqe
                have YL3 : Hid (zs.length = m) := Lib.hid (by rw [P3.out.mix.len, HN.out])
                by_cases hlr : k - a' < b' - k
                · have hlr' : (k : Int) - a' < (b' : Int) - k := by omega
                  have hpq := HIH.out (k - a') (by have := HN0.out; omega) l' rfl P3.out.mix.own hk1 (by rw [YL3.out]; omega) (by rw [YL3.out]; exact hs) hl' (P3.out.sand.lowL QE.out ha hb')
                  rw [YL3.out] at hpq
                  have HPQ := Lib.hid hpq; clear hpq
                  go_wp2_with fail
                  (with_reducible refine HPQ.out.mono ?_)
                  rintro e w4 ⟨rfl, us, m4, s4, o4, u4⟩
                  have P4 : Hid (PqSt w g o c xs a b (k + 1) b' us w4) := Lib.hid ⟨P3.out.mix.trans (MixSt.mono ⟨m4, o4, u4⟩ ha (by omega)), P3.out.sand.left ha hb' QE.out m4 s4 (by rw [YL3.out]; omega)⟩
                  clear m4 s4 o4 u4
                  go_wp2_with fail
                  go_roundw
                  case rel => exact ⟨k + 1, b', l', _, t, by omega, by omega, hb', hl', by go_num, rfl, rfl, rfl, rfl, us, P4.out⟩
                  case measure => simp [intOf]; omega
                · have hlr' : ¬ (k : Int) - a' < (b' : Int) - k := by omega
                  have hpq := HIH.out (b' - (k + 1)) (by have := HN0.out; omega) l' rfl P3.out.mix.own (by omega) (by rw [YL3.out]; omega) (by rw [YL3.out]; exact hs) hl' QE.out.lowR
                  rw [YL3.out, show ((k + 1 : Nat) : Int) = (k : Int) + 1 by omega] at hpq
                  have HPQ := Lib.hid hpq; clear hpq
                  go_wp2_with fail
                  (with_reducible refine HPQ.out.mono ?_)
                  rintro e w4 ⟨rfl, us, m4, s4, o4, u4⟩
                  have P4 : Hid (PqSt w g o c xs a b a' k us w4) := Lib.hid ⟨P3.out.mix.trans (MixSt.mono ⟨m4, o4, u4⟩ (by omega) hb'), P3.out.sand.right ha hb' QE.out m4 s4 (by rw [YL3.out]; omega)⟩
                  clear m4 s4 o4 u4
                  go_wp2_with fail
                  go_roundw
                  case rel => exact ⟨a', k, l', _, t, ha, hk1, by omega, hl', rfl, rfl, rfl, rfl, rfl, us, P4.out⟩
                  case measure => simp [intOf]; omega
              · have ha0' : 0 < a' := by omega
                have c1 := hP.mix.own.cell (a' - 1) (by omega)
                have g2 : (a' : Int) - 1 < m := by omega
                have g3 : IntKind.i64.wrap ((a' : Int) - 1) = (a' : Int) - 1 := IntWalk.i64_in _ (by omega)
                have g4 : ((a' : Int) - 1).toNat = a' - 1 := by omega
                have g5 : (0 : Int) ≤ (a' : Int) - 1 := by omega
                have g6 : (1 : Int) ≤ (a' : Int) := by omega
                clear hP hyl
                by_cases hl : at0 ys (a' - 1) < at0 ys p
                · have hd : decide (at0 ys (a' - 1) < at0 ys p) = true := by simpa using hl
                  have LQ := Lib.hid (less_is _ _ _ hd); clear hd hl
                  go_wp2_with fail
                  go_quiet ((go_at_call 78; exact Calls.quiet_of_same (LQ.out _)))
                  go_wp2_with fail
                  (with_reducible refine (part_at (P.out.drewN _).mix.own YL.out p hp (by omega) hs).mono ?_)
                  rintro e w3 ⟨k, t, rfl, zs, hq, hqe⟩
                  have P3 := Lib.hid ((P.out.drewN _).sub hq ha hb' HBX.out)
                  have QE := Lib.hid hqe; have hk1 := hqe.1; have hk2 := hqe.2.1; clear hq hqe
                  have YL3 : Hid (zs.length = m) := Lib.hid (by rw [P3.out.mix.len, HN.out])
                  by_cases hlr : k - a' < b' - k
                  · have hlr' : (k : Int) - a' < (b' : Int) - k := by omega
                    have hpq := HIH.out (k - a') (by have := HN0.out; omega) l' rfl P3.out.mix.own hk1 (by rw [YL3.out]; omega) (by rw [YL3.out]; exact hs) hl' (P3.out.sand.lowL QE.out ha hb')
                    rw [YL3.out] at hpq
                    have HPQ := Lib.hid hpq; clear hpq
                    go_wp2_with fail
                    (with_reducible refine HPQ.out.mono ?_)
                    rintro e w4 ⟨rfl, us, m4, s4, o4, u4⟩
                    have P4 : Hid (PqSt w g o c xs a b (k + 1) b' us w4) := Lib.hid ⟨P3.out.mix.trans (MixSt.mono ⟨m4, o4, u4⟩ ha (by omega)), P3.out.sand.left ha hb' QE.out m4 s4 (by rw [YL3.out]; omega)⟩
                    clear m4 s4 o4 u4
                    go_wp2_with fail
                    go_roundw
                    case rel => exact ⟨k + 1, b', l', _, t, by omega, by omega, hb', hl', by go_num, rfl, rfl, rfl, rfl, us, P4.out⟩
                    case measure => simp [intOf]; omega
                  · have hlr' : ¬ (k : Int) - a' < (b' : Int) - k := by omega
                    have hpq := HIH.out (b' - (k + 1)) (by have := HN0.out; omega) l' rfl P3.out.mix.own (by omega) (by rw [YL3.out]; omega) (by rw [YL3.out]; exact hs) hl' QE.out.lowR
                    rw [YL3.out, show ((k + 1 : Nat) : Int) = (k : Int) + 1 by omega] at hpq
                    have HPQ := Lib.hid hpq; clear hpq
                    go_wp2_with fail
                    (with_reducible refine HPQ.out.mono ?_)
                    rintro e w4 ⟨rfl, us, m4, s4, o4, u4⟩
                    have P4 : Hid (PqSt w g o c xs a b a' k us w4) := Lib.hid ⟨P3.out.mix.trans (MixSt.mono ⟨m4, o4, u4⟩ (by omega) hb'), P3.out.sand.right ha hb' QE.out m4 s4 (by rw [YL3.out]; omega)⟩
                    clear m4 s4 o4 u4
                    go_wp2_with fail
                    go_roundw
                    case rel => exact ⟨a', k, l', _, t, ha, hk1, by omega, hl', rfl, rfl, rfl, rfl, rfl, us, P4.out⟩
                    case measure => simp [intOf]; omega
                · have hd : decide (at0 ys (a' - 1) < at0 ys p) = false := by simpa using hl
                  have LQ := Lib.hid (less_is _ _ _ hd); have HL := Lib.hid hl; clear hd hl
                  go_wp2_with fail
                  go_quiet ((go_at_call 78; exact Calls.quiet_of_same (LQ.out _)))
                  go_wp2_with fail
                  (with_reducible refine (partEq_at (P.out.drewN _).mix.own YL.out p hp (by omega) hs).mono ?_)
                  rintro e w3 ⟨k, rfl, zs, hq, hqe⟩
                  have P3 : Hid (PqSt w g o c xs a b k b' zs w3) := Lib.hid ⟨((P.out.drewN _).sub hq ha hb' HBX.out).mix, P.out.sand.eq ha hb' hq.mix hqe (by have := HL.out; omega) (by omega) (by rw [YL.out]; omega)⟩
                  have hk := And.intro hqe.1 hqe.2.1
                  clear hq hqe
                  go_wp2_with fail
                  go_roundw
                  case rel => exact ⟨k, b', l', t1, t2, by omega, by omega, hb', hl', rfl, rfl, rfl, rfl, rfl, zs, P3.out⟩
                  case measure => simp [intOf]; omega
theorem bitsLen_any (n : Nat) (hn : n ≤ 100000) : Calls Tryd.prog 69 #[.int .u64 n] w fun r w' => ∃ k : Nat, r = .returned (.int .i64 k) ∧ k ≤ 64 ∧ w = w' :=
  (Tryd.bits_Len n w (by omega) (by omega)).mono fun _ _ h => ⟨_, h.1, by have := Lib.bitLen_le n 64 (by omega) (by omega); simpa using this, h.2.symm⟩
set_option maxRecDepth 100000 in
set_option maxHeartbeats 2000000 in
theorem sort_any (h : WrU w g o c xs) (hs : xs.length ≤ 100000) :
    Calls Tryd.prog 62 #[.slice (some ⟨g, o, none⟩) xs.length c] w fun r w' => r = .returned (.tuple #[]) ∧ SortPost w g o c xs 0 xs.length w' := by
  have hp := fun lim hl => pdq_any (g := g) (o := o) (c := c) (w := w) (xs := xs) (a := 0) (b := xs.length) xs.length lim (by omega) h (by omega) (Nat.le_refl _) hs hl (fun q h1 h2 h3 => by omega)
  rw [show ((0 : Nat) : Int) = 0 from rfl] at hp
  have HP := Lib.hid hp; clear hp
  have HL := Lib.hid (bitsLen_any (w := w) xs.length hs)
  clear h
  generalize hn : xs.length = n at *
  clear hn
  go_enter Tryd.func62, Tryd.ntmps62
  go_wp2_with fail
  (with_reducible refine HL.out.mono ?_)
  rintro e w' ⟨k, rfl, hk, rfl⟩
  go_wp2_with fail
  (with_reducible refine (HP.out k hk).mono ?_)
  rintro e w1 ⟨rfl, hp⟩
  have HQ := Lib.hid hp; clear hp
  go_wp2_with fail
  go_end0
  exact ⟨rfl, HQ.out⟩
/-- slices.Sort of the words that a slice owns. -/
theorem sortU_own (sv : Value) (xs : List Int) (h : OwnSl w 42 1 sv xs.length (intsU xs)) (hs : xs.length ≤ 100000) :
    Calls Tryd.prog 62 #[sv] w fun r w' => r = .returned (.tuple #[]) ∧ ∃ ys, Mixed xs ys 0 xs.length ∧ ascOn ys 0 xs.length ∧ OwnSl w' 42 1 sv xs.length (intsU ys) ∧ Upd (fun k => sv.ownBlock = some k) w w' := by
  rcases h.2 with ⟨rfl, hn⟩ | ⟨g, o, cap, cur, rfl, _⟩
  · have hx : xs = [] := List.eq_nil_of_length_eq_zero hn
    subst hx
    exact sort_nil.mono fun r w' ⟨h1, h2⟩ => ⟨h1, [], Mixed.refl _ _ _, fun p q _ _ h3 => by simp at h3, by subst h2; exact h, by subst h2; exact Upd.refl _ _⟩
  · refine (sort_any (g := g) (o := o) (c := cap) (xs := xs) h hs).mono fun r w' ⟨h1, ys, h2, h3, h4, h5⟩ => ⟨h1, ys, h2, h3, ?_, h5.mono (fun i _ hi => by rw [hi]; rfl)⟩
    have : WrU w' g o cap ys := h4
    unfold WrU at this
    rw [h2.len] at this
    exact this
end
end Go.Proofs.YtdidpppjkbgccaaDoor
