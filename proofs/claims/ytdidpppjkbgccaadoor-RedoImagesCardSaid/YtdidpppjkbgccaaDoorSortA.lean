/- The walks of cmp.Less, insertion sort, and slices.Sort of at most twelve words. -/
import Derived.Test.YtdidpppjkbgccaaDoorLinesM
import Derived.Test.YtdidpppjkbgccaaDoorGen
import Derived.Test.YtdidpppjkbgccaaDoorShelf
import Derived.RegionTactic
import Derived.BigRegion
namespace Go.Proofs.YtdidpppjkbgccaaDoor
open Go.RowKit

section
variable {w : World}
/-- The slice's cells can be read and written: block g from o on. -/
def WrU (w : World) (g o c : Nat) (xs : List Int) : Prop := OwnSl w 42 1 (.slice (some ⟨g, o, none⟩) xs.length c) xs.length (intsU xs)
theorem WrU.cell {g o c : Nat} {xs : List Int} (h : WrU w g o c xs) (i : Nat) (hi : i < xs.length) : w.cell? ⟨g, o + i, none⟩ = some (.int .u64 (at0 xs i)) := by
  obtain ⟨_, a, c', e, _, h2⟩ := OwnSl.rd h
  cases e
  have hx : (intsU xs)[i]? = some (.int .u64 (at0 xs i)) := by simp [intsU, at0, List.getD, hi]
  rcases h2 with h2 | ⟨b, o', e, h3⟩
  · rw [h2] at hx; simp at hx
  · cases e; exact h3 i _ hx
theorem WrU.blk {g o c : Nat} {xs : List Int} (h : WrU w g o c xs) : ∃ cur, Blk w g cur 42 := by
  rcases h.2 with ⟨e, _⟩ | ⟨g', o', cap, cur, e, hb, _⟩
  · cases e
  · cases e; exact ⟨cur, hb⟩
theorem WrU.frozen {g o c : Nat} {xs : List Int} (h : WrU w g o c xs) (i : Nat) : w.frozen? ⟨g, i, none⟩ = false := by obtain ⟨cur, hb⟩ := h.blk; exact hb.frozen i
theorem WrU.lt {g o c : Nat} {xs : List Int} (h : WrU w g o c xs) : g < w.heap.size := by obtain ⟨cur, hb⟩ := h.blk; exact hb.lt
theorem WrU.le {g o c : Nat} {xs : List Int} (h : WrU w g o c xs) : xs.length ≤ c ∧ xs.length ≤ maxLen := by
  rcases h.2 with ⟨e, _⟩ | ⟨g', o', cap, cur, e, hb, h1, h2, _⟩
  · cases e
  · cases e; exact ⟨h1, Nat.le_trans h1 h2⟩
theorem WrU.set {g o c : Nat} {xs : List Int} (h : WrU w g o c xs) (i : Nat) (_hi : i < xs.length) (x : Int) : WrU (w.setCell ⟨g, o + i, none⟩ (.int .u64 x)) g o c (xs.set i x) := by
  rcases h.2 with ⟨e, _⟩ | ⟨g', o', cap, cur, e, hb, h1, h2, h3, h4⟩
  · cases e
  · cases e
    refine ⟨by simp [intsU], .inr ⟨g, o, c, cur.setIfInBounds (o + i) (.int .u64 x), by rw [List.length_set], hb.set (o + i) _, by rw [List.length_set]; exact h1, h2, by simpa using h3, ?_⟩⟩
    rw [List.length_set, Array.toList_setIfInBounds, List.drop_set, if_neg (by omega), List.take_set, h4, show o + i - o = i by omega, intsU, intsU, List.map_set]
theorem WrU.drew {g o c : Nat} {xs : List Int} (h : WrU w g o c xs) : WrU w.drew g o c xs := OwnSl.drew h
theorem WrU.drewN {g o c : Nat} {xs : List Int} (h : WrU w g o c xs) (n : Nat) : WrU (w.drewN n) g o c xs := OwnSl.kept h (fun _ _ => rfl)

set_option maxHeartbeats 400000 in
theorem less_any (x y : Int) : Calls Tryd.prog 78 #[.int .u64 x, .int .u64 y] w fun r w' => r = .returned (.bool (decide (x < y))) ∧ w = w' := by
  have h1 : (x != x) = false := by simp
  go_enter Tryd.func78, Tryd.ntmps78
  go_wp2
  go_ret
  exact ⟨rfl, rfl⟩

theorem less_is (x y : Int) (b : Bool) (hb : decide (x < y) = b) (wx : World) : Calls Tryd.prog 78 #[.int .u64 x, .int .u64 y] wx fun r w' => r = .returned (.bool b) ∧ w' = wx := by
  have := less_any (w := wx) x y
  rw [hb] at this
  exact this.mono fun _ _ h => ⟨h.1, h.2.symm⟩
theorem WrU.upd {w' : World} {g o c : Nat} {xs : List Int} (h : WrU w g o c xs) {S : Nat → Prop} (hu : Upd S w w') (hS : ¬ S g) : WrU w' g o c xs := OwnSl.upd h hu (fun k hk => by simp [Value.ownBlock] at hk; subst hk; exact hS)
/-- Sorted between a and b; nothing else has changed. -/
def SortPost (w : World) (g o c : Nat) (xs : List Int) (a b : Nat) (w' : World) : Prop := ∃ ys, Mixed xs ys a b ∧ ascOn ys a b ∧ WrU w' g o c ys ∧ Upd (fun k => k = g) w w'

/-- Between two rounds. -/
def InsMid (w : World) (g o c : Nat) (xs : List Int) (a b i : Nat) (wr : World) : Prop := ∃ ys, Mixed xs ys a b ∧ ascOn ys a i ∧ WrU wr g o c ys ∧ Upd (fun k => k = g) w wr
def InsMid2 (w : World) (g o c : Nat) (xs : List Int) (a b i j : Nat) (wr : World) : Prop := ∃ ys, Mixed xs ys a b ∧ insInv ys a i j ∧ WrU wr g o c ys ∧ Upd (fun k => k = g) w wr

theorem insMid_drew {g o c a b k j : Nat} {xs zs : List Int} {wr wq : World} {nq : Nat} (h : Mixed xs zs a b ∧ insInv zs a k j ∧ WrU wr g o c zs ∧ Upd (fun k => k = g) w wr) (hq : wr.drewN nq = wq) :
    Mixed xs zs a b ∧ insInv zs a k j ∧ WrU wq g o c zs ∧ Upd (fun k => k = g) w wq := by
  subst hq
  exact ⟨h.1, h.2.1, h.2.2.1.drewN _, ⟨h.2.2.2.os, h.2.2.2.tape, h.2.2.2.output, h.2.2.2.size, h.2.2.2.block⟩⟩
theorem insMid_next {g o c a b k j : Nat} {xs zs : List Int} {wq : World} (h : Mixed xs zs a b ∧ insInv zs a k j ∧ WrU wq g o c zs ∧ Upd (fun k => k = g) w wq) (hk : k < b) (h1 : a ≤ j) (h2 : j ≤ k) (h3 : j = a ∨ at0 zs (j - 1) ≤ at0 zs j) :
    InsMid w g o c xs a b (min (k + 1) b) wq := ⟨zs, h.1, by rw [show min (k + 1) b = k + 1 by omega]; exact insInv_end zs a k j h.2.1 h1 h2 h3, h.2.2.1, h.2.2.2⟩
theorem insMid_swap {g o c a b k j : Nat} {xs zs : List Int} {wq wx : World} (h : Mixed xs zs a b ∧ insInv zs a k j ∧ WrU wq g o c zs ∧ Upd (fun k => k = g) w wq) (h1 : a < j) (h2 : j ≤ k) (h3 : k < zs.length) (hkb : k < b) (hlt : at0 zs j < at0 zs (j - 1))
    (hx : wx = ((wq.setCell ⟨g, o + j, none⟩ (.int .u64 (at0 zs (j - 1)))).setCell ⟨g, o + (j - 1), none⟩ (.int .u64 (at0 zs j))).drew) : InsMid2 w g o c xs a b k (j - 1) wx := by
  subst hx
  refine ⟨swp zs j (j - 1), h.1.trans (swp_mixed zs j (j - 1) a b (by omega) (by omega) (by omega) (by omega) (by omega) (by omega)), insInv_step zs a k j h.2.1 h1 h2 h3 hlt, ?_,
    (h.2.2.2.setCell (p := ⟨g, o + j, none⟩) (fun _ => rfl) _).setCell (p := ⟨g, o + (j - 1), none⟩) (fun _ => rfl) _ |>.drew⟩
  exact ((h.2.2.1.set j (by omega) _).set (j - 1) (by rw [List.length_set]; omega) _).drew
set_option maxRecDepth 100000 in
set_option maxHeartbeats 2000000 in
theorem insertion_any (g o c a b : Nat) (xs : List Int) (h : WrU w g o c xs) (hab : a ≤ b) (hb : b ≤ xs.length) (hs : xs.length ≤ 4611686018) :
    Calls Tryd.prog 72 #[.slice (some ⟨g, o, none⟩) xs.length c, .int .i64 a, .int .i64 b] w fun r w' => r = .returned (.tuple #[]) ∧ SortPost w g o c xs a b w' := by
  have hm := h.le
  unfold maxLen at hm
  have H := Lib.hid h; clear h
  generalize hn : xs.length = n at *
  have HN := Lib.hid hn; clear hn
  go_enter Tryd.func72, Tryd.ntmps72
  go_wp2_with fail
  go_loopw [6, 7] (fun i _ wr => ∃ k : Nat, a < k ∧ (k ≤ b ∨ k = a + 1) ∧ i = .int .i64 k ∧ InsMid w g o c xs a b (min k b) wr) (fun i _ _ => b + 1 - (intOf i).toNat)
  case atStart => exact ⟨a + 1, by omega, .inr rfl, by go_num, xs, Mixed.refl _ _ _, fun p q h1 h2 h3 => by omega, H.out, Upd.refl _ _⟩
  case round =>
    obtain ⟨k, hk1, hk2, rfl, ys, m1, a1, w1, u1⟩ := hrel
    have M := Lib.hid (And.intro m1 (And.intro a1 (And.intro w1 u1))); clear m1 a1 w1 u1
    by_cases hlt : k < b
    · obtain ⟨wo, hwo⟩ : ∃ wo : World, wo = wr := ⟨_, rfl⟩
      subst hwo
      go_wp2_with fail
      go_loopw [7] (fun x wr => ∃ j : Nat, a ≤ j ∧ j ≤ k ∧ x = .int .i64 j ∧ InsMid2 w g o c xs a b k j wr) (fun x _ => (intOf x).toNat)
      case atStart => exact ⟨k, by omega, Nat.le_refl _, rfl, ys, M.out.1, insInv_start ys a k (by have := M.out.2.1; rw [show min k b = k by omega] at this; exact this), M.out.2.2.1, M.out.2.2.2⟩
      case round =>
        obtain ⟨j, hj1, hj2, rfl, zs, m2, i2, w2, u2⟩ := hrel
        have hzl : zs.length = n := by rw [m2.len, HN.out]
        have Z := Lib.hid (And.intro m2 (And.intro i2 (And.intro w2 u2)))
        have HZL := Lib.hid hzl
        clear M
        by_cases hja : a < j
        · have g1 : (a : Int) < j := by omega
          have c1 := w2.cell j (by omega)
          have c2 := w2.cell (j - 1) (by omega)
          have hgs := w2.lt
          have f1 := w2.frozen (o + j); have f2 := w2.frozen (o + (j - 1))
          have hi1 : IntKind.i64.wrap ((j : Int) - 1) = (j : Int) - 1 := IntWalk.i64_in _ (by omega)
          have hi2 : ((j : Int) - 1).toNat = j - 1 := by omega
          have hi3 : (0 : Int) ≤ (j : Int) - 1 := by omega
          have hi4 : (1 : Int) ≤ (j : Int) := by omega
          have hi5 : (j : Int) < n := by omega
          have hi6 : (j : Int) - 1 < n := by omega
          clear m2 i2 w2 u2 hzl
          by_cases hl : at0 zs j < at0 zs (j - 1)
          all_goals have HLT := Lib.hid hl
          · have hd : decide (at0 zs j < at0 zs (j - 1)) = true := by simpa using hl
            have LQ := Lib.hid (less_is _ _ _ hd); clear hd hl
            go_wp2_with fail
            go_quiet ((go_at_call 78; exact Calls.quiet_of_same (LQ.out _)))
            go_wp2_with fail
            obtain ⟨wq, hwq⟩ : ∃ wq, wr.drewN nq = wq := ⟨_, rfl⟩
            rw [hwq]
            have Zq := Lib.hid (insMid_drew Z.out hwq)
            have d1 := Zq.out.2.2.1.cell j (by rw [HZL.out]; omega); have d2 := Zq.out.2.2.1.cell (j - 1) (by rw [HZL.out]; omega)
            have e1 := Zq.out.2.2.1.frozen (o + j); have e2 := Zq.out.2.2.1.frozen (o + (j - 1))
            have hgq := Zq.out.2.2.1.lt
            have hne : ¬ o + (j - 1) = o + j := by omega
            clear c1 c2 f1 f2 hgs Z LQ hwq
            go_region
            all_goals go_wp2_with fail
            all_goals
              go_roundw
              case rel => exact ⟨j - 1, by omega, by omega, by go_num, insMid_swap Zq.out (by omega) (by omega) (by rw [HZL.out]; omega) (by omega) HLT.out rfl⟩
              case measure => simp [intOf]; omega
          · have hd : decide (at0 zs j < at0 zs (j - 1)) = false := by simpa using hl
            have LQ := Lib.hid (less_is _ _ _ hd); clear hd hl
            go_wp2_with fail
            go_quiet ((go_at_call 78; exact Calls.quiet_of_same (LQ.out _)))
            go_wp2_with fail
            go_roundw
            case rel => exact ⟨k + 1, by omega, by omega, by go_num, insMid_next (insMid_drew Z.out rfl) (by omega) hj1 hj2 (.inr (by have := HLT.out; omega))⟩
            case measure => simp [intOf]; omega
        · have g1 : decide ((a : Int) < j) = false := by simp; omega
          clear m2 i2 w2 u2 hzl
          go_wp2_with fail
          go_quiet (fail)
          go_wp2_with fail
          go_roundw
          case rel => exact ⟨k + 1, by omega, by omega, by go_num, insMid_next (insMid_drew Z.out rfl) (by omega) hj1 hj2 (.inl (by omega))⟩
          case measure => simp [intOf]; omega
    · go_wp2_with fail
      go_end0
      refine ⟨rfl, ys, M.out.1, ?_, M.out.2.2.1, M.out.2.2.2⟩
      have := M.out.2.1
      rw [show min k b = b by omega] at this
      exact this

theorem bitsLen_small (n : Nat) (hn : n < 256) : Calls Tryd.prog 69 #[.int .u64 n] w fun r w' => ∃ k : Int, r = .returned (.int .i64 k) ∧ w = w' :=
  (Tryd.bits_Len n w (by omega) (by omega)).mono fun _ _ h => ⟨_, h.1, h.2.symm⟩

set_option maxRecDepth 100000 in
set_option maxHeartbeats 2000000 in
theorem pdq_small (g o c : Nat) (xs : List Int) (h : WrU w g o c xs) (h12 : xs.length ≤ 12) (lim : Int) :
    Calls Tryd.prog 68 #[.slice (some ⟨g, o, none⟩) xs.length c, .int .i64 0, .int .i64 xs.length, .int .i64 lim] w fun r w' => r = .returned (.tuple #[]) ∧ SortPost w g o c xs 0 xs.length w' := by
  have hI := insertion_any g o c 0 xs.length xs h (by omega) (Nat.le_refl _) (by omega)
  rw [show ((0 : Nat) : Int) = 0 from rfl] at hI
  have HI := Lib.hid hI; clear hI h
  generalize hn : xs.length = n at *
  clear hn
  have hl : (n : Int) ≤ 12 := by omega
  go_enter Tryd.func68, Tryd.ntmps68
  go_wp2_with fail
  go_loopw [1, 2] (fun x y wr => x = .int .i64 0 ∧ y = .int .i64 n ∧ w = wr) (fun _ _ _ => 0)
  case atStart => exact ⟨rfl, rfl, rfl⟩
  case round =>
    obtain ⟨rfl, rfl, rfl⟩ := hrel
    go_wp2_with fail
    (with_reducible refine HI.out.mono ?_)
    rintro e w1 ⟨rfl, hp⟩
    have HQ := Lib.hid hp; clear hp
    go_wp2_with fail
    (try simp only [Exit.inBlock, Exit.then]); refine bodyPost_ret (results_none rfl _ _ _) rfl ?_
    exact ⟨rfl, HQ.out⟩

set_option maxRecDepth 100000 in
set_option maxHeartbeats 2000000 in
theorem sort_small (g o c : Nat) (xs : List Int) (h : WrU w g o c xs) (h12 : xs.length ≤ 12) :
    Calls Tryd.prog 62 #[.slice (some ⟨g, o, none⟩) xs.length c] w fun r w' => r = .returned (.tuple #[]) ∧ SortPost w g o c xs 0 xs.length w' := by
  have HP := Lib.hid (fun lim => pdq_small g o c xs h h12 lim)
  have HL := Lib.hid (bitsLen_small (w := w) xs.length (by omega))
  clear h
  generalize hn : xs.length = n at *
  clear hn
  go_enter Tryd.func62, Tryd.ntmps62
  go_wp2_with fail
  (with_reducible refine HL.out.mono ?_)
  rintro e w' ⟨k, rfl, rfl⟩
  go_wp2_with fail
  (with_reducible refine (HP.out _).mono ?_)
  rintro e w1 ⟨rfl, hp⟩
  have HQ := Lib.hid hp; clear hp
  go_wp2_with fail
  go_end0
  exact ⟨rfl, HQ.out⟩

set_option maxRecDepth 100000 in
set_option maxHeartbeats 1000000 in
theorem insertion_nil : Calls Tryd.prog 72 #[.slice none 0 0, .int .i64 0, .int .i64 0] w fun r w' => r = .returned (.tuple #[]) ∧ w = w' := by
  go_enter Tryd.func72, Tryd.ntmps72
  go_wp2_with fail
  go_loop [6] (fun i => i = .int .i64 1) (fun _ => 0)
  case atStart => rfl
  case round =>
    subst hrel
    go_wp2_with fail
    go_end0
    exact ⟨rfl, rfl⟩
set_option maxRecDepth 100000 in
set_option maxHeartbeats 1000000 in
theorem pdq_nil (lim : Int) : Calls Tryd.prog 68 #[.slice none 0 0, .int .i64 0, .int .i64 0, .int .i64 lim] w fun r w' => r = .returned (.tuple #[]) ∧ w = w' := by
  have HI := Lib.hid (insertion_nil (w := w))
  go_enter Tryd.func68, Tryd.ntmps68
  go_wp2_with fail
  go_loopw [1, 2] (fun x y wr => x = .int .i64 0 ∧ y = .int .i64 0 ∧ w = wr) (fun _ _ _ => 0)
  case atStart => exact ⟨rfl, rfl, rfl⟩
  case round =>
    obtain ⟨rfl, rfl, rfl⟩ := hrel
    go_wp2_with fail
    (with_reducible refine HI.out.mono ?_)
    rintro e w1 ⟨rfl, rfl⟩
    go_wp2_with fail
    (try simp only [Exit.inBlock, Exit.then]); refine bodyPost_ret (results_none rfl _ _ _) rfl ?_
    exact ⟨rfl, rfl⟩
set_option maxRecDepth 100000 in
set_option maxHeartbeats 1000000 in
theorem sort_nil : Calls Tryd.prog 62 #[.slice none 0 0] w fun r w' => r = .returned (.tuple #[]) ∧ w = w' := by
  have HP := Lib.hid (fun lim => pdq_nil (w := w) lim)
  have hL := bitsLen_small (w := w) 0 (by omega)
  rw [show ((0 : Nat) : Int) = 0 from rfl] at hL
  have HL := Lib.hid hL; clear hL
  go_enter Tryd.func62, Tryd.ntmps62
  go_wp2_with fail
  (with_reducible refine HL.out.mono ?_)
  rintro e w' ⟨k, rfl, rfl⟩
  go_wp2_with fail
  (with_reducible refine (HP.out _).mono ?_)
  rintro e w1 ⟨rfl, rfl⟩
  go_wp2_with fail
  go_end0
  exact ⟨rfl, rfl⟩

/-- slices.Sort of at most twelve words that a slice owns. -/
theorem sort_own (sv : Value) (xs : List Int) (h : OwnSl w 42 1 sv xs.length (intsU xs)) (h12 : xs.length ≤ 12) :
    Calls Tryd.prog 62 #[sv] w fun r w' => r = .returned (.tuple #[]) ∧ ∃ ys, Mixed xs ys 0 xs.length ∧ ascOn ys 0 xs.length ∧ OwnSl w' 42 1 sv xs.length (intsU ys) ∧ Upd (fun k => sv.ownBlock = some k) w w' := by
  rcases h.2 with ⟨rfl, hn⟩ | ⟨g, o, cap, cur, rfl, _⟩
  · have hx : xs = [] := List.eq_nil_of_length_eq_zero hn
    subst hx
    exact sort_nil.mono fun r w' ⟨h1, h2⟩ => ⟨h1, [], Mixed.refl _ _ _, fun p q _ _ h3 => by simp at h3, by subst h2; exact h, by subst h2; exact Upd.refl _ _⟩
  · refine (sort_small g o cap xs h h12).mono fun r w' ⟨h1, ys, h2, h3, h4, h5⟩ => ⟨h1, ys, h2, h3, ?_, h5.mono (fun i _ hi => by rw [hi]; rfl)⟩
    have : WrU w' g o cap ys := h4
    unfold WrU at this
    rw [h2.len] at this
    exact this
end
end Go.Proofs.YtdidpppjkbgccaaDoor
