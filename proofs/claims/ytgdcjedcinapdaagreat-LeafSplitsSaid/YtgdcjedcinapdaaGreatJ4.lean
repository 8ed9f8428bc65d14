/- The walks of cmp.Less, insertion sort, and slices.Sort of at most twelve words. -/
import Derived.Test.YtgdcjedcinapdaaGreatJ1
import Derived.Test.YtgdcjedcinapdaaGreatJ3
import Derived.Test.YtgdcjedcinapdaaGreatShelf
import Derived.RegionTactic
import Derived.BigRegion
import Derived.Deep.CutBlock
namespace Go.Proofs.YtgdcjedcinapdaaGreat
open Go.RowKit

section
variable {w : World}
/-- The slice's cells can be read and written: block g from o on. -/
def WrU (w : World) (g o c : Nat) (xs : List Int) : Prop := OwnSl w 28 1 (.slice (some ⟨g, o, none⟩) xs.length c) xs.length (intsU xs)
theorem WrU.cell {g o c : Nat} {xs : List Int} (h : WrU w g o c xs) (i : Nat) (hi : i < xs.length) : w.cell? ⟨g, o + i, none⟩ = some (.int .u64 (at0 xs i)) := by
  obtain ⟨_, a, c', e, _, h2⟩ := OwnSl.rd h
  cases e
  have hx : (intsU xs)[i]? = some (.int .u64 (at0 xs i)) := by simp [intsU, at0, List.getD, hi]
  rcases h2 with h2 | ⟨b, o', e, h3⟩
  · rw [h2] at hx; simp at hx
  · cases e; exact h3 i _ hx
theorem WrU.blk {g o c : Nat} {xs : List Int} (h : WrU w g o c xs) : ∃ cur, Blk w g cur 28 := by
  rcases h.2 with ⟨e, _⟩ | ⟨g', o', cap, cur, e, hb, _⟩
  · cases e
  · cases e; exact ⟨cur, hb⟩
theorem WrU.frozen {g o c : Nat} {xs : List Int} (h : WrU w g o c xs) (i : Nat) : w.frozen? ⟨g, i, none⟩ = false := by obtain ⟨cur, hb⟩ := h.blk; exact hb.frozen i
theorem WrU.lt {g o c : Nat} {xs : List Int} (h : WrU w g o c xs) : g < w.heap.size := by obtain ⟨cur, hb⟩ := h.blk; exact hb.lt
theorem WrU.le {g o c : Nat} {xs : List Int} (h : WrU w g o c xs) : xs.length ≤ c ∧ xs.length ≤ maxLen := by
  rcases h.2 with ⟨e, _⟩ | ⟨g', o', cap, cur, e, hb, h1, h2, _⟩
  · cases e
  · cases e; exact ⟨h1, Nat.le_trans h1 h2⟩
theorem WrU.set {g o c : Nat} {xs : List Int} (h : WrU w g o c xs) (i : Nat) (_hi : i < xs.length) (x : Int) : WrU (w.setCell ⟨g, o + i, none⟩ (.int .u64 x)) g o c (xs.set i x) := by
  rcases h.2 with ⟨e, _⟩ | ⟨g', o', cap, cur, e, hb, h1, h2, h3, h4⟩
  · cases e
  · cases e
    refine ⟨by simp [intsU], .inr ⟨g, o, c, cur.setIfInBounds (o + i) (.int .u64 x), by rw [List.length_set], hb.set (o + i) _, by rw [List.length_set]; exact h1, h2, by simpa using h3, ?_⟩⟩
    rw [List.length_set, Array.toList_setIfInBounds, List.drop_set, if_neg (by omega), List.take_set, h4, show o + i - o = i by omega, intsU, intsU, List.map_set]
theorem WrU.drew {g o c : Nat} {xs : List Int} (h : WrU w g o c xs) : WrU w.drew g o c xs := OwnSl.drew h
theorem WrU.drewN {g o c : Nat} {xs : List Int} (h : WrU w g o c xs) (n : Nat) : WrU (w.drewN n) g o c xs := OwnSl.kept h (fun _ _ => rfl)

set_option maxHeartbeats 400000 in
theorem less_any (x y : Int) : Calls Tryz.prog 129 #[.int .u64 x, .int .u64 y] w fun r w' => r = .returned (.bool (decide (x < y))) ∧ w = w' := by
  have h1 : (x != x) = false := by simp
  go_enter Tryz.func129, Tryz.ntmps129
  go_wp2
  go_ret
  exact ⟨rfl, rfl⟩

theorem less_is (x y : Int) (b : Bool) (hb : decide (x < y) = b) (wx : World) : Calls Tryz.prog 129 #[.int .u64 x, .int .u64 y] wx fun r w' => r = .returned (.bool b) ∧ w' = wx := by
  have := less_any (w := wx) x y
  rw [hb] at this
  exact this.mono fun _ _ h => ⟨h.1, h.2.symm⟩
theorem WrU.upd {w' : World} {g o c : Nat} {xs : List Int} (h : WrU w g o c xs) {S : Nat → Prop} (hu : Upd S w w') (hS : ¬ S g) : WrU w' g o c xs := OwnSl.upd h hu (fun k hk => by simp [Value.ownBlock] at hk; subst hk; exact hS)
/-- Sorted between a and b; nothing else has changed. -/
def SortPost (w : World) (g o c : Nat) (xs : List Int) (a b : Nat) (w' : World) : Prop := ∃ ys, Mixed xs ys a b ∧ ascOn ys a b ∧ WrU w' g o c ys ∧ Upd (fun k => k = g) w w'

/-- Between two rounds. -/
def InsMid (w : World) (g o c : Nat) (xs : List Int) (a b i : Nat) (wr : World) : Prop := ∃ ys, Mixed xs ys a b ∧ ascOn ys a i ∧ WrU wr g o c ys ∧ Upd (fun k => k = g) w wr
def InsMid2 (w : World) (g o c : Nat) (xs : List Int) (a b i j : Nat) (wr : World) : Prop := ∃ ys, Mixed xs ys a b ∧ insInv ys a i j ∧ WrU wr g o c ys ∧ Upd (fun k => k = g) w wr

theorem insMid_drew {g o c a b k j : Nat} {xs zs : List Int} {wr wq : World} {nq : Nat} (h : Mixed xs zs a b ∧ insInv zs a k j ∧ WrU wr g o c zs ∧ Upd (fun k => k = g) w wr) (hq : wr.drewN nq = wq) :
    Mixed xs zs a b ∧ insInv zs a k j ∧ WrU wq g o c zs ∧ Upd (fun k => k = g) w wq := by
  subst hq
  exact ⟨h.1, h.2.1, h.2.2.1.drewN _, ⟨h.2.2.2.os, h.2.2.2.tape, h.2.2.2.output, h.2.2.2.size, h.2.2.2.block⟩⟩
theorem insMid_next {g o c a b k j : Nat} {xs zs : List Int} {wq : World} (h : Mixed xs zs a b ∧ insInv zs a k j ∧ WrU wq g o c zs ∧ Upd (fun k => k = g) w wq) (hk : k < b) (h1 : a ≤ j) (h2 : j ≤ k) (h3 : j = a ∨ at0 zs (j - 1) ≤ at0 zs j) :
    InsMid w g o c xs a b (min (k + 1) b) wq := ⟨zs, h.1, by rw [show min (k + 1) b = k + 1 by omega]; exact insInv_end zs a k j h.2.1 h1 h2 h3, h.2.2.1, h.2.2.2⟩
theorem insMid_swap {g o c a b k j : Nat} {xs zs : List Int} {wq wx : World} (h : Mixed xs zs a b ∧ insInv zs a k j ∧ WrU wq g o c zs ∧ Upd (fun k => k = g) w wq) (h1 : a < j) (h2 : j ≤ k) (h3 : k < zs.length) (hkb : k < b) (hlt : at0 zs j < at0 zs (j - 1))
    (hx : wx = ((wq.setCell ⟨g, o + j, none⟩ (.int .u64 (at0 zs (j - 1)))).setCell ⟨g, o + (j - 1), none⟩ (.int .u64 (at0 zs j))).drew) : InsMid2 w g o c xs a b k (j - 1) wx := by
  subst hx
  refine ⟨swp zs j (j - 1), h.1.trans (swp_mixed zs j (j - 1) a b (by omega) (by omega) (by omega) (by omega) (by omega) (by omega)), insInv_step zs a k j h.2.1 h1 h2 h3 hlt, ?_,
    (h.2.2.2.setCell (p := ⟨g, o + j, none⟩) (fun _ => rfl) _).setCell (p := ⟨g, o + (j - 1), none⟩) (fun _ => rfl) _ |>.drew⟩
  exact ((h.2.2.1.set j (by omega) _).set (j - 1) (by rw [List.length_set]; omega) _).drew
set_option maxRecDepth 100000 in
set_option maxHeartbeats 2000000 in
theorem insertion_any (g o c a b : Nat) (xs : List Int) (h : WrU w g o c xs) (hab : a ≤ b) (hb : b ≤ xs.length) (hs : xs.length ≤ 4611686018) :
    Calls Tryz.prog 123 #[.slice (some ⟨g, o, none⟩) xs.length c, .int .i64 a, .int .i64 b] w fun r w' => r = .returned (.tuple #[]) ∧ SortPost w g o c xs a b w' := by
  have hm := h.le
  unfold maxLen at hm
  have H := Lib.hid h; clear h
  generalize hn : xs.length = n at *
  have HN := Lib.hid hn; clear hn
  go_enter Tryz.func123, Tryz.ntmps123
  go_wp2_with fail
  go_loopw [6, 7] (fun i _ wr => ∃ k : Nat, a < k ∧ (k ≤ b ∨ k = a + 1) ∧ i = .int .i64 k ∧ InsMid w g o c xs a b (min k b) wr) (fun i _ _ => b + 1 - (intOf i).toNat)
  case atStart => exact ⟨a + 1, by omega, .inr rfl, by go_num, xs, Mixed.refl _ _ _, fun p q h1 h2 h3 => by omega, H.out, Upd.refl _ _⟩
  case round =>
    obtain ⟨k, hk1, hk2, rfl, ys, m1, a1, w1, u1⟩ := hrel
    have M := Lib.hid (And.intro m1 (And.intro a1 (And.intro w1 u1))); clear m1 a1 w1 u1
    by_cases hlt : k < b
    · obtain ⟨wo, hwo⟩ : ∃ wo : World, wo = wr := ⟨_, rfl⟩
      subst hwo
      go_wp2_with fail
      go_loopw [7] (fun x wr => ∃ j : Nat, a ≤ j ∧ j ≤ k ∧ x = .int .i64 j ∧ InsMid2 w g o c xs a b k j wr) (fun x _ => (intOf x).toNat)
      case atStart => exact ⟨k, by omega, Nat.le_refl _, rfl, ys, M.out.1, insInv_start ys a k (by have := M.out.2.1; rw [show min k b = k by omega] at this; exact this), M.out.2.2.1, M.out.2.2.2⟩
      case round =>
        obtain ⟨j, hj1, hj2, rfl, zs, m2, i2, w2, u2⟩ := hrel
        have hzl : zs.length = n := by rw [m2.len, HN.out]
        have Z := Lib.hid (And.intro m2 (And.intro i2 (And.intro w2 u2)))
        have HZL := Lib.hid hzl
        clear M
        by_cases hja : a < j
        · have g1 : (a : Int) < j := by omega
          have c1 := w2.cell j (by omega)
          have c2 := w2.cell (j - 1) (by omega)
          have hgs := w2.lt
          have f1 := w2.frozen (o + j); have f2 := w2.frozen (o + (j - 1))
          have hi1 : IntKind.i64.wrap ((j : Int) - 1) = (j : Int) - 1 := IntWalk.i64_in _ (by omega)
          have hi2 : ((j : Int) - 1).toNat = j - 1 := by omega
          have hi3 : (0 : Int) ≤ (j : Int) - 1 := by omega
          have hi4 : (1 : Int) ≤ (j : Int) := by omega
          have hi5 : (j : Int) < n := by omega
          have hi6 : (j : Int) - 1 < n := by omega
          clear m2 i2 w2 u2 hzl
          by_cases hl : at0 zs j < at0 zs (j - 1)
          all_goals have HLT := Lib.hid hl
          · have hd : decide (at0 zs j < at0 zs (j - 1)) = true := by simpa using hl
            have LQ := Lib.hid (less_is _ _ _ hd); clear hd hl
            go_wp2_with fail
            go_quiet ((go_at_call 129; exact Calls.quiet_of_same (LQ.out _)))
            go_wp2_with fail
            obtain ⟨wq, hwq⟩ : ∃ wq, wr.drewN nq = wq := ⟨_, rfl⟩
            rw [hwq]
            have Zq := Lib.hid (insMid_drew Z.out hwq)
            have d1 := Zq.out.2.2.1.cell j (by rw [HZL.out]; omega); have d2 := Zq.out.2.2.1.cell (j - 1) (by rw [HZL.out]; omega)
            have e1 := Zq.out.2.2.1.frozen (o + j); have e2 := Zq.out.2.2.1.frozen (o + (j - 1))
            have hgq := Zq.out.2.2.1.lt
            have hne : ¬ o + (j - 1) = o + j := by omega
            clear c1 c2 f1 f2 hgs Z LQ hwq
            go_region
            all_goals go_wp2_with fail
            all_goals
              go_roundw
              case rel => exact ⟨j - 1, by omega, by omega, by go_num, insMid_swap Zq.out (by omega) (by omega) (by rw [HZL.out]; omega) (by omega) HLT.out rfl⟩
              case measure => simp [intOf]; omega
          · have hd : decide (at0 zs j < at0 zs (j - 1)) = false := by simpa using hl
            have LQ := Lib.hid (less_is _ _ _ hd); clear hd hl
            go_wp2_with fail
            go_quiet ((go_at_call 129; exact Calls.quiet_of_same (LQ.out _)))
            go_wp2_with fail
            go_roundw
            case rel => exact ⟨k + 1, by omega, by omega, by go_num, insMid_next (insMid_drew Z.out rfl) (by omega) hj1 hj2 (.inr (by have := HLT.out; omega))⟩
            case measure => simp [intOf]; omega
        · have g1 : decide ((a : Int) < j) = false := by simp; omega
          clear m2 i2 w2 u2 hzl
          go_wp2_with fail
          go_quiet (fail)
          go_wp2_with fail
          go_roundw
          case rel => exact ⟨k + 1, by omega, by omega, by go_num, insMid_next (insMid_drew Z.out rfl) (by omega) hj1 hj2 (.inl (by omega))⟩
          case measure => simp [intOf]; omega
    · go_wp2_with fail
      go_end0
      refine ⟨rfl, ys, M.out.1, ?_, M.out.2.2.1, M.out.2.2.2⟩
      have := M.out.2.1
      rw [show min k b = b by omega] at this
      exact this

theorem bitsLen_small (n : Nat) (hn : n < 256) : Calls Tryz.prog 114 #[.int .u64 n] w fun r w' => ∃ k : Int, r = .returned (.int .i64 k) ∧ w = w' :=
  (Tryz.bits_Len n w (by omega) (by omega)).mono fun _ _ h => ⟨_, h.1, h.2.symm⟩

set_option maxRecDepth 100000 in
set_option maxHeartbeats 2000000 in
theorem pdq_small (g o c : Nat) (xs : List Int) (h : WrU w g o c xs) (h12 : xs.length ≤ 12) (lim : Int) :
    Calls Tryz.prog 113 #[.slice (some ⟨g, o, none⟩) xs.length c, .int .i64 0, .int .i64 xs.length, .int .i64 lim] w fun r w' => r = .returned (.tuple #[]) ∧ SortPost w g o c xs 0 xs.length w' := by
  have hI := insertion_any g o c 0 xs.length xs h (by omega) (Nat.le_refl _) (by omega)
  rw [show ((0 : Nat) : Int) = 0 from rfl] at hI
  have HI := Lib.hid hI; clear hI h
  generalize hn : xs.length = n at *
  clear hn
  have hl : (n : Int) ≤ 12 := by omega
  go_enter Tryz.func113, Tryz.ntmps113
  go_wp2_with fail
  go_loopw [1, 2] (fun x y wr => x = .int .i64 0 ∧ y = .int .i64 n ∧ w = wr) (fun _ _ _ => 0)
  case atStart => exact ⟨rfl, rfl, rfl⟩
  case round =>
    obtain ⟨rfl, rfl, rfl⟩ := hrel
    go_wp2_with fail
    (with_reducible refine HI.out.mono ?_)
    rintro e w1 ⟨rfl, hp⟩
    have HQ := Lib.hid hp; clear hp
    go_wp2_with fail
    (try simp only [Exit.inBlock, Exit.then]); refine bodyPost_ret (results_none rfl _ _ _) rfl ?_
    exact ⟨rfl, HQ.out⟩

set_option maxRecDepth 100000 in
set_option maxHeartbeats 2000000 in
theorem sort_small (g o c : Nat) (xs : List Int) (h : WrU w g o c xs) (h12 : xs.length ≤ 12) :
    Calls Tryz.prog 89 #[.slice (some ⟨g, o, none⟩) xs.length c] w fun r w' => r = .returned (.tuple #[]) ∧ SortPost w g o c xs 0 xs.length w' := by
  have HP := Lib.hid (fun lim => pdq_small g o c xs h h12 lim)
  have HL := Lib.hid (bitsLen_small (w := w) xs.length (by omega))
  clear h
  generalize hn : xs.length = n at *
  clear hn
  go_enter Tryz.func89, Tryz.ntmps89
  go_wp2_with fail
  (with_reducible refine HL.out.mono ?_)
  rintro e w' ⟨k, rfl, rfl⟩
  go_wp2_with fail
  (with_reducible refine (HP.out _).mono ?_)
  rintro e w1 ⟨rfl, hp⟩
  have HQ := Lib.hid hp; clear hp
  go_wp2_with fail
  go_end0
  exact ⟨rfl, HQ.out⟩

set_option maxRecDepth 100000 in
set_option maxHeartbeats 1000000 in
theorem insertion_nil : Calls Tryz.prog 123 #[.slice none 0 0, .int .i64 0, .int .i64 0] w fun r w' => r = .returned (.tuple #[]) ∧ w = w' := by
  go_enter Tryz.func123, Tryz.ntmps123
  go_wp2_with fail
  go_loop [6] (fun i => i = .int .i64 1) (fun _ => 0)
  case atStart => rfl
  case round =>
    subst hrel
    go_wp2_with fail
    go_end0
    exact ⟨rfl, rfl⟩
set_option maxRecDepth 100000 in
set_option maxHeartbeats 1000000 in
theorem pdq_nil (lim : Int) : Calls Tryz.prog 113 #[.slice none 0 0, .int .i64 0, .int .i64 0, .int .i64 lim] w fun r w' => r = .returned (.tuple #[]) ∧ w = w' := by
  have HI := Lib.hid (insertion_nil (w := w))
  go_enter Tryz.func113, Tryz.ntmps113
  go_wp2_with fail
  go_loopw [1, 2] (fun x y wr => x = .int .i64 0 ∧ y = .int .i64 0 ∧ w = wr) (fun _ _ _ => 0)
  case atStart => exact ⟨rfl, rfl, rfl⟩
  case round =>
    obtain ⟨rfl, rfl, rfl⟩ := hrel
    go_wp2_with fail
    (with_reducible refine HI.out.mono ?_)
    rintro e w1 ⟨rfl, rfl⟩
    go_wp2_with fail
    (try simp only [Exit.inBlock, Exit.then]); refine bodyPost_ret (results_none rfl _ _ _) rfl ?_
    exact ⟨rfl, rfl⟩
set_option maxRecDepth 100000 in
set_option maxHeartbeats 1000000 in
theorem sort_nil : Calls Tryz.prog 89 #[.slice none 0 0] w fun r w' => r = .returned (.tuple #[]) ∧ w = w' := by
  have HP := Lib.hid (fun lim => pdq_nil (w := w) lim)
  have hL := bitsLen_small (w := w) 0 (by omega)
  rw [show ((0 : Nat) : Int) = 0 from rfl] at hL
  have HL := Lib.hid hL; clear hL
  go_enter Tryz.func89, Tryz.ntmps89
  go_wp2_with fail
  (with_reducible refine HL.out.mono ?_)
  rintro e w' ⟨k, rfl, rfl⟩
  go_wp2_with fail
  (with_reducible refine (HP.out _).mono ?_)
  rintro e w1 ⟨rfl, rfl⟩
  go_wp2_with fail
  go_end0
  exact ⟨rfl, rfl⟩

/-- slices.Sort of at most twelve words that a slice owns. -/
theorem sort_own (sv : Value) (xs : List Int) (h : OwnSl w 28 1 sv xs.length (intsU xs)) (h12 : xs.length ≤ 12) :
    Calls Tryz.prog 89 #[sv] w fun r w' => r = .returned (.tuple #[]) ∧ ∃ ys, Mixed xs ys 0 xs.length ∧ ascOn ys 0 xs.length ∧ OwnSl w' 28 1 sv xs.length (intsU ys) ∧ Upd (fun k => sv.ownBlock = some k) w w' := by
  rcases h.2 with ⟨rfl, hn⟩ | ⟨g, o, cap, cur, rfl, _⟩
  · have hx : xs = [] := List.eq_nil_of_length_eq_zero hn
    subst hx
    exact sort_nil.mono fun r w' ⟨h1, h2⟩ => ⟨h1, [], Mixed.refl _ _ _, fun p q _ _ h3 => by simp at h3, by subst h2; exact h, by subst h2; exact Upd.refl _ _⟩
  · refine (sort_small g o cap xs h h12).mono fun r w' ⟨h1, ys, h2, h3, h4, h5⟩ => ⟨h1, ys, h2, h3, ?_, h5.mono (fun i _ hi => by rw [hi]; rfl)⟩
    have : WrU w' g o cap ys := h4
    unfold WrU at this
    rw [h2.len] at this
    exact this
end
end Go.Proofs.YtgdcjedcinapdaaGreat

/- The walks of leaf.Encode and the reference's Encode. -/
namespace Go.Proofs.YtgdcjedcinapdaaGreat
open Go.RowKit

/-- Entry i stops the encoding. -/
def badAt (ks : List Int) (high : Int) (b : Bool) (i : Nat) : Prop := (0 < i ∧ ks.getD i 0 ≤ ks.getD (i - 1) 0) ∨ (b = true ∧ high ≤ ks.getD i 0)
def encOk (ks vs : List Int) (high : Int) (b : Bool) : Prop := ks.length = vs.length ∧ ks.length ≤ 12 ∧ ∀ i, i < ks.length → ¬ badAt ks high b i
/-- The entries' words when k entries are in. -/
def encF (ks vs : List Int) (k i : Nat) : Int := if 4 ≤ i ∧ i < 4 + k then ks.getD (i - 4) 0 else if 16 ≤ i ∧ i < 16 + k then vs.getD (i - 16) 0 else 0
def encW (ks vs : List Int) (next high : Int) (b : Bool) (i : Nat) : Int :=
  if i = 0 then (ordN (List.range ks.length) 0 : Nat) else if i = 1 then next else if i = 2 then (if b then high else 0) else if i = 3 then (if b then 1 else 0) else encF ks vs ks.length i

theorem encF_step (ks vs : List Int) (k i : Nat) (x y : Int) (hx : ks[k]? = some x) (hy : vs[k]? = some y) (hk : k < 12) : encF ks vs (k + 1) i = if i = 16 + k then y else if i = 4 + k then x else encF ks vs k i := by
  unfold encF
  by_cases e1 : i = 16 + k
  · rw [if_pos e1, if_neg (by omega), if_pos (by omega), show i - 16 = k from by omega]
    simp [List.getD, hy]
  · rw [if_neg e1]
    by_cases e2 : i = 4 + k
    · rw [if_pos e2, if_pos (by omega), show i - 4 = k from by omega]
      simp [List.getD, hx]
    · rw [if_neg e2]
      by_cases e3 : 4 ≤ i ∧ i < 4 + k
      · rw [if_pos e3, if_pos (by omega)]
      · rw [if_neg e3, if_neg (by omega)]
        by_cases e4 : 16 ≤ i ∧ i < 16 + k
        · rw [if_pos e4, if_pos (by omega)]
        · rw [if_neg e4, if_neg (by omega)]

theorem infoInt : (Tryz.prog.info? 3).map (fun i => (i.zero, i.size, i.bytes)) = some (some (.int .i64 0), 1, 8) := by kernel_rfl

section
variable {w : World}

theorem mk28 (wx : World) : (Instr.makeSlice 23 (.int .i64 28) (.int .i64 28)).run Tryz.prog wx = .ok (.slice (some ⟨wx.heap.size, 0, none⟩) 28 28) (wx.alloc (.cells (madeCells #[.int .u64 0] 28) 28)) := by
  obtain ⟨i0, hi, hz0, hz1, hz2⟩ := info_parts infoU64
  have := run_make (P := Tryz.prog) wx 23 28 i0 _ Tryz.underlying23 hi hz0 .i64 .i64 28 28 (by omega) (by omega) (by rw [hz2]; decide) (by decide)
  rw [hz1] at this
  exact this
theorem mkInts (wx : World) (n : Nat) (hn : n ≤ 1000) : (Instr.makeSlice 113 (.int .i64 n) (.int .i64 n)).run Tryz.prog wx = .ok (.slice (some ⟨wx.heap.size, 0, none⟩) n n) (wx.alloc (.cells (madeCells #[.int .i64 0] n) 3)) := by
  obtain ⟨i0, hi, hz0, hz1, hz2⟩ := info_parts infoInt
  have := run_make (P := Tryz.prog) wx 113 3 i0 _ Tryz.underlying113 hi hz0 .i64 .i64 n n (by omega) (by omega) (by rw [hz2]; omega) (by omega)
  rw [hz1] at this
  simpa [Value.cells] using this
theorem row_zeros (w : World) (t : TypeId) (k : IntKind) (n : Nat) : Row (w.alloc (.cells (madeCells #[.int k 0] n) t)) w.heap.size n t (fun _ => .int k 0) :=
  Row.new w _ t _ _ (fun i hi => by simp [madeCells, hi, Nat.mod_one])

/-- Where the two new rows stand in a round of Encode. -/
def EncMid (w : World) (ks vs : List Int) (k : Nat) (wr : World) : Prop :=
  Row wr w.heap.size 28 28 (fun i => .int .u64 (encF ks vs k i)) ∧ Row wr (w.heap.size + 1) ks.length 3 (fun i => .int .i64 (if i < k then i else 0 : Nat)) ∧ Below w.heap.size w wr

theorem enc_mid0 (ks vs : List Int) : EncMid w ks vs 0 ((w.alloc (.cells (madeCells #[.int .u64 0] 28) 28)).alloc (.cells (madeCells #[.int .i64 0] ks.length) 3)) := by
  refine ⟨((row_zeros w 28 .u64 28).alloc _).congr (fun i _ => ?_), ?_, ((Below.refl _ _).alloc (Nat.le_refl _) _).alloc (by simp) _⟩
  · unfold encF; rw [if_neg (by omega), if_neg (by omega)]
  · have := row_zeros (w.alloc (.cells (madeCells #[.int .u64 0] 28) 28)) 3 .i64 ks.length
    rw [World.size_alloc] at this
    exact this.congr (fun i _ => by simp)
theorem enc_step {ks vs : List Int} {k : Nat} {wr : World} (h : EncMid w ks vs k wr) {x y : Int} (hx : ks[k]? = some x) (hy : vs[k]? = some y) (hk : k < ks.length) (h12 : ks.length ≤ 12) :
    EncMid w ks vs (k + 1) (((wr.setCell ⟨w.heap.size + 1, k, none⟩ (.int .i64 k)).setCell ⟨w.heap.size, 4 + k, none⟩ (.int .u64 x)).setCell ⟨w.heap.size, 16 + k, none⟩ (.int .u64 y)) := by
  obtain ⟨h1, h2, h3⟩ := h
  refine ⟨?_, ?_, ?_⟩
  · refine (((h1.other (a := ⟨w.heap.size + 1, k, none⟩) (by simp) _).set (4 + k) (.int .u64 x)).set (16 + k) (.int .u64 y)).congr (fun i _ => ?_)
    rw [encF_step ks vs k i x y hx hy (by omega)]
    by_cases e1 : i = 16 + k
    · rw [if_pos e1, if_pos e1]
    · rw [if_neg e1, if_neg e1]
      by_cases e2 : i = 4 + k
      · rw [if_pos e2, if_pos e2]
      · rw [if_neg e2, if_neg e2]
  · refine (((h2.set k (.int .i64 k)).other (a := ⟨w.heap.size, 4 + k, none⟩) (by simp) _).other (a := ⟨w.heap.size, 16 + k, none⟩) (by simp) _).congr (fun i _ => ?_)
    by_cases e : i = k
    · subst e; simp
    · rw [if_neg e]
      by_cases e2 : i < k
      · rw [if_pos e2, if_pos (by omega)]
      · rw [if_neg e2, if_neg (by omega)]
  · exact ((h3.setCell (p := ⟨w.heap.size + 1, k, none⟩) (by simp) _).setCell (p := ⟨w.heap.size, 4 + k, none⟩) (by simp) _).setCell (p := ⟨w.heap.size, 16 + k, none⟩) (by simp) _

/-- What a successful encoding leaves. -/
def Encoded (w : World) (ks vs : List Int) (next high : Int) (b : Bool) (r : Ending) (w' : World) : Prop :=
  ∃ g, r = .returned (.tuple #[.slice (some ⟨g, 0, none⟩) 28 28, .int .i64 0]) ∧ Row w' g 28 28 (fun i => .int .u64 (encW ks vs next high b i)) ∧ w.heap.size ≤ g ∧ Below w.heap.size w w'
def Refused (w : World) (r : Ending) (w' : World) : Prop := r = .returned (.tuple #[.slice none 0 0, .int .i64 1]) ∧ Below w.heap.size w w'

theorem enc_slots {ks vs : List Int} {wr : World} (h : EncMid w ks vs ks.length wr) : RdSl wr 1 (.slice (some ⟨w.heap.size + 1, 0, none⟩) ks.length ks.length) (List.range ks.length).length (natsI (List.range ks.length)) := by
  refine ⟨by simp [natsI], _, _, by rw [List.length_range], by simp, .inr ⟨_, 0, rfl, fun j u hu => ?_⟩⟩
  have hj : j < ks.length := by
    rcases Nat.lt_or_ge j ks.length with h | h
    · exact h
    · simp [natsI, List.getElem?_eq_none (show (List.range ks.length).length ≤ j by simpa using h)] at hu
  simp [natsI, List.getElem?_range hj] at hu
  subst hu
  rw [Nat.zero_add, h.2.1.cell hj]; simp [hj]

theorem enc_end {ks vs : List Int} {wr : World} (h : Row wr w.heap.size 28 28 (fun i => .int .u64 (encF ks vs ks.length i)) ∧ Below w.heap.size w wr) (_h12 : ks.length ≤ 12) (next high : Int) (b : Bool) (wx : World)
    (hx : wx = if b then ((((wr.setCell ⟨w.heap.size, 0, none⟩ (.int .u64 (ordN (List.range ks.length) 0 : Nat))).setCell ⟨w.heap.size, 1, none⟩ (.int .u64 next)).setCell ⟨w.heap.size, 2, none⟩ (.int .u64 high)).setCell ⟨w.heap.size, 3, none⟩ (.int .u64 1))
      else ((wr.setCell ⟨w.heap.size, 0, none⟩ (.int .u64 (ordN (List.range ks.length) 0 : Nat))).setCell ⟨w.heap.size, 1, none⟩ (.int .u64 next))) :
    Encoded w ks vs next high b (.returned (.tuple #[.slice (some ⟨w.heap.size, 0, none⟩) 28 28, .int .i64 0])) wx := by
  obtain ⟨h1, h3⟩ := h
  have hf : ∀ i, i < 4 → encF ks vs ks.length i = 0 := fun i hi => by unfold encF; rw [if_neg (by omega), if_neg (by omega)]
  cases b
  · rw [if_neg (by simp)] at hx
    subst hx
    refine ⟨_, rfl, ((h1.set 0 _).set 1 _).congr (fun i _ => ?_), Nat.le_refl _, (h3.setCell (p := ⟨w.heap.size, 0, none⟩) (by simp) _).setCell (p := ⟨w.heap.size, 1, none⟩) (by simp) _⟩
    unfold encW
    by_cases e1 : i = 1
    · simp [e1]
    · by_cases e0 : i = 0
      · simp [e0]
      · rw [if_neg e1, if_neg e0, if_neg e0, if_neg e1]
        by_cases e2 : i = 2
        · subst e2; simp [hf]
        · by_cases e3 : i = 3
          · subst e3; simp [hf]
          · rw [if_neg e2, if_neg e3]
  · rw [if_pos rfl] at hx
    subst hx
    refine ⟨_, rfl, ((((h1.set 0 _).set 1 _).set 2 _).set 3 _).congr (fun i _ => ?_), Nat.le_refl _, (((h3.setCell (p := ⟨w.heap.size, 0, none⟩) (by simp) _).setCell (p := ⟨w.heap.size, 1, none⟩) (by simp) _).setCell (p := ⟨w.heap.size, 2, none⟩) (by simp) _).setCell (p := ⟨w.heap.size, 3, none⟩) (by simp) _⟩
    unfold encW
    by_cases e3 : i = 3
    · simp [e3]
    · by_cases e2 : i = 2
      · simp [e2]
      · by_cases e1 : i = 1
        · simp [e1]
        · by_cases e0 : i = 0
          · simp [e0]
          · rw [if_neg e3, if_neg e2, if_neg e1, if_neg e0, if_neg e0, if_neg e1, if_neg e2, if_neg e3]

def EncPost (w : World) (ks vs : List Int) (next high : Int) (b : Bool) (r : Ending) (w' : World) : Prop :=
  ((∀ i, i < ks.length → ¬ badAt ks high b i) → Encoded w ks vs next high b r w') ∧ ((¬ ∀ i, i < ks.length → ¬ badAt ks high b i) → Refused w r w')

set_option maxRecDepth 100000 in
set_option maxHeartbeats 2000000 in
theorem encode_any (kv vv : Value) (ks vs : List Int) (next high : Int) (b : Bool) (hk : RdSl w 1 kv ks.length (intsU ks)) (hv : RdSl w 1 vv vs.length (intsU vs)) (hl : ks.length = vs.length) (h12 : ks.length ≤ 12) :
    Calls Tryz.prog 47 #[kv, vv, .int .u64 next, .int .u64 high, .bool b] w (EncPost w ks vs next high b) := by
  obtain ⟨_, ka, kc, rfl, hkc, hka⟩ := hk
  obtain ⟨_, va, vc, rfl, hvc, hva⟩ := hv
  have hne : ((ks.length : Int) != (vs.length : Int)) = false := by simp; omega
  have h12' : ¬ (12 : Int) < ks.length := by omega
  have h1 := fun (wx : World) => mk28 wx
  have h2 := fun (wx : World) => mkInts wx ks.length (by omega)
  have HK := Lib.hid hka; have HV := Lib.hid hva; have HL := Lib.hid hl; clear hka hva hl
  go_enter Tryz.func47, Tryz.ntmps47
  go_wp2_with fail
  clear h1 h2
  have hm0 := Lib.hid (enc_mid0 (w := w) ks vs)
  go_loopw [32] (fun i wr => ∃ k : Nat, k ≤ ks.length ∧ i = .int .i64 k ∧ (∀ i, i < k → ¬ badAt ks high b i) ∧ EncMid w ks vs k wr) (fun i _ => ks.length - (intOf i).toNat)
  case atStart => exact ⟨0, Nat.zero_le _, rfl, fun i hi => absurd hi (Nat.not_lt_zero _), hm0.out⟩
  case round =>
    obtain ⟨k, hk, rfl, hgood, hmid⟩ := hrel
    have HG := Lib.hid hgood; have HM := Lib.hid hmid; clear hgood hmid hm0
    have hold : ∀ bb o u, w.cell? ⟨bb, o, none⟩ = some u → wr.cell? ⟨bb, o, none⟩ = some u := fun bb o u h => (HM.out.2.2.cell (World.block_lt_of_cell? w _ h)).trans h
    by_cases hlt : k < ks.length
    · obtain ⟨x, hx⟩ : ∃ x, ks[k]? = some x := ⟨_, List.getElem?_eq_getElem hlt⟩
      obtain ⟨y, hy⟩ : ∃ y, vs[k]? = some y := ⟨_, List.getElem?_eq_getElem (by rw [← HL.out]; exact hlt)⟩
      obtain ⟨kb, ko, rfl, hkc'⟩ := rd_at HK.out (intsU_get ks k x hx)
      obtain ⟨vb, vo, rfl, hvc'⟩ := rd_at HV.out (intsU_get vs k y hy)
      have hv1 : vb ≠ w.heap.size + 1 := by have := World.block_lt_of_cell? w _ (hvc' _ _ (intsU_get vs k y hy)); simp only at this; omega
      have e1 := hold _ _ _ (hkc' _ _ (intsU_get ks k x hx))
      have e2 := hold _ _ _ (hvc' _ _ (intsU_get vs k y hy))
      have hlv : (k : Int) < vs.length := by have := HL.out; omega
      have hlk : (k : Int) < ks.length := by omega
      have xD : ks.getD k 0 = x := by simp [List.getD, hx]
      have s1 : wr.cell? ⟨w.heap.size + 1, k, none⟩ = some (.int .i64 ((if k < k then k else 0 : Nat) : Int)) := HM.out.2.1.cell hlt
      have s2 := HM.out.2.1.frozen k
      have w1 : wr.cell? ⟨w.heap.size, 4 + k, none⟩ = some (.int .u64 (encF ks vs k (4 + k))) := HM.out.1.cell (by omega)
      have w2 : wr.cell? ⟨w.heap.size, 16 + k, none⟩ = some (.int .u64 (encF ks vs k (16 + k))) := HM.out.1.cell (by omega)
      have w3 := HM.out.1.frozen (4 + k)
      have w4 := HM.out.1.frozen (16 + k)
      have M1 := Lib.hid (enc_step HM.out hx hy hlt h12)
      have XD := Lib.hid xD
      have HB : Hid (badAt ks high b k → ¬ ∀ i, i < ks.length → ¬ badAt ks high b i) := fun h1 h2 => h2 k hlt h1
      have hgn : ¬ badAt ks high b k → ∀ i, i < k + 1 → ¬ badAt ks high b i := fun h i hi => by
        rcases Nat.lt_succ_iff_lt_or_eq.1 hi with h' | h'
        · exact HG.out i h'
        · rw [h']; exact h
      have HN := Lib.hid hgn
      have HW := Lib.hid HM.out.2.2
      rcases Nat.eq_zero_or_pos k with hk0 | hk0
      · subst hk0
        clear hold hkc' hvc' hx hy xD hgn
        simp only [Nat.add_zero] at e1 e2 w1 w2 w3 w4
        rw [show ((0 : Nat) : Int) = 0 from rfl]
        by_cases hb2 : b = true ∧ high ≤ x
        · have Hbad : Hid (badAt ks high b 0) := by show badAt ks high b 0; exact .inr ⟨hb2.1, by rw [XD.out]; exact hb2.2⟩
          obtain ⟨rfl, hb3⟩ := hb2
          go_wp2_with fail
          go_ret2
          exact ⟨fun h => absurd h (HB.out Hbad.out), fun _ => ⟨rfl, HW.out⟩⟩
        · have Hng : Hid (¬ badAt ks high b 0) := by
            show ¬ badAt ks high b 0
            rintro (⟨h, _⟩ | ⟨h, h'⟩)
            · omega
            · rw [XD.out] at h'; exact hb2 ⟨h, h'⟩
          cases b
          · clear hb2
            go_wp2_with fail
            go_roundw
            case rel => exact ⟨1, by omega, by go_num, HN.out Hng.out, M1.out⟩
            case measure => simp [intOf]; omega
          · have hb3 : ¬ high ≤ x := fun h => hb2 ⟨rfl, h⟩
            clear hb2
            go_wp2_with fail
            go_roundw
            case rel => exact ⟨1, by omega, by go_num, HN.out Hng.out, M1.out⟩
            case measure => simp [intOf]; omega
      · obtain ⟨m, rfl⟩ : ∃ m, k = m + 1 := ⟨k - 1, by omega⟩
        obtain ⟨z, hz⟩ : ∃ z, ks[m]? = some z := ⟨_, List.getElem?_eq_getElem (by omega)⟩
        have e3 := hold _ _ _ (hkc' _ _ (intsU_get ks m z hz))
        have ZD : Hid (ks.getD m 0 = z) := by show ks.getD m 0 = z; simp [List.getD, hz]
        clear hold hkc' hvc' hx hy hz xD hgn
        by_cases hb1 : x ≤ z
        · have Hbad : Hid (badAt ks high b (m + 1)) := by show badAt ks high b (m + 1); exact .inl ⟨by omega, by rw [XD.out, Nat.add_sub_cancel, ZD.out]; exact hb1⟩
          go_wp2_with fail
          all_goals
            go_ret2
            exact ⟨fun h => absurd h (HB.out Hbad.out), fun _ => ⟨rfl, HW.out⟩⟩
        · by_cases hb2 : b = true ∧ high ≤ x
          · have Hbad : Hid (badAt ks high b (m + 1)) := by show badAt ks high b (m + 1); exact .inr ⟨hb2.1, by rw [XD.out]; exact hb2.2⟩
            obtain ⟨rfl, hb3⟩ := hb2
            go_wp2_with fail
            go_ret2
            exact ⟨fun h => absurd h (HB.out Hbad.out), fun _ => ⟨rfl, HW.out⟩⟩
          · have Hng : Hid (¬ badAt ks high b (m + 1)) := by
              show ¬ badAt ks high b (m + 1)
              rintro (⟨_, h⟩ | ⟨h, h'⟩)
              · rw [XD.out, Nat.add_sub_cancel, ZD.out] at h; exact hb1 h
              · rw [XD.out] at h'; exact hb2 ⟨h, h'⟩
            cases b
            · clear hb2
              go_wp2_with fail
              go_roundw
              case rel => exact ⟨m + 1 + 1, by omega, by go_num, HN.out Hng.out, M1.out⟩
              case measure => simp [intOf]; omega
            · have hb3 : ¬ high ≤ x := fun h => hb2 ⟨rfl, h⟩
              clear hb2
              go_wp2_with fail
              go_roundw
              case rel => exact ⟨m + 1 + 1, by omega, by go_num, HN.out Hng.out, M1.out⟩
              case measure => simp [intOf]; omega
    · obtain rfl : k = ks.length := by omega
      have z0 : wr.cell? ⟨w.heap.size, 0, none⟩ = some (.int .u64 (encF ks vs ks.length 0)) := HM.out.1.cell (by omega)
      have z1 : wr.cell? ⟨w.heap.size, 1, none⟩ = some (.int .u64 (encF ks vs ks.length 1)) := HM.out.1.cell (by omega)
      have z2 : wr.cell? ⟨w.heap.size, 2, none⟩ = some (.int .u64 (encF ks vs ks.length 2)) := HM.out.1.cell (by omega)
      have z3 : wr.cell? ⟨w.heap.size, 3, none⟩ = some (.int .u64 (encF ks vs ks.length 3)) := HM.out.1.cell (by omega)
      have f0 := HM.out.1.frozen 0; have f1 := HM.out.1.frozen 1; have f2 := HM.out.1.frozen 2; have f3 := HM.out.1.frozen 3
      have ho := order_any _ _ 0 (enc_slots HM.out) (by simpa using h12) (fun s hs => by simp at hs; omega) (by omega)
      rw [show ((0 : Nat) : Int) = 0 from rfl] at ho
      have HO := Lib.hid ho; clear ho
      clear hold
      cases b
      · go_wp2_with (go_at_call 71; (with_reducible refine HO.out.mono ?_); rintro e w' ⟨rfl, rfl⟩)
        go_ret2
        exact ⟨fun _ => enc_end ⟨HM.out.1, HM.out.2.2⟩ h12 next high false _ rfl, fun h => absurd HG.out h⟩
      · go_wp2_with (go_at_call 71; (with_reducible refine HO.out.mono ?_); rintro e w' ⟨rfl, rfl⟩)
        go_ret2
        exact ⟨fun _ => enc_end ⟨HM.out.1, HM.out.2.2⟩ h12 next high true _ rfl, fun h => absurd HG.out h⟩
end
end Go.Proofs.YtgdcjedcinapdaaGreat

/- Pointers, and the entries of a node's content. -/
namespace Go.Proofs.YtgdcjedcinapdaaGreat
open Go.RowKit

/-- Nothing but the count of draws has moved. -/
def Qt (w w' : World) : Prop := ∃ n, w' = w.drewN n
theorem Qt.refl (w : World) : Qt w w := ⟨0, rfl⟩
theorem Qt.below {w w' : World} (h : Qt w w') : Below w.heap.size w w' := by obtain ⟨n, rfl⟩ := h; exact ⟨rfl, rfl, rfl, Nat.le_refl _, fun _ _ => rfl⟩

structure IsCont (w : World) (cb : Nat) (W : Nat → Int) (slots : List Nat) (ch : Nat) : Prop where
  words : ∀ i, i < 28 → w.cell? ⟨cb, i, none⟩ = some (.int .u64 (W i))
  sl : ∃ sv, w.cell? ⟨cb, 28, none⟩ = some sv ∧ RdSl w 1 sv slots.length (natsI slots)
  ch : w.cell? ⟨cb, 29, none⟩ = some (.int .u64 ch)
  lt12 : ∀ s ∈ slots, s < 12
  len : slots.length ≤ 12
  ty : ∃ c, Blk w cb c 135
  ty2 : ∀ sv, w.cell? ⟨cb, 28, none⟩ = some sv → ∀ g, sv.ownBlock = some g → ∃ c, Blk w g c 3

theorem RdSl.drewN {w : World} {size : Nat} {v : Value} {n : Nat} {xs : List Value} (h : RdSl w size v n xs) (q : Nat) : RdSl (w.drewN q) size v n xs := h.kept (fun _ _ _ => rfl)
theorem IsCont.drewN {w : World} {cb : Nat} {W : Nat → Int} {slots : List Nat} {ch : Nat} (h : IsCont w cb W slots ch) (q : Nat) : IsCont (w.drewN q) cb W slots ch :=
  ⟨h.words, by obtain ⟨sv, h1, h2⟩ := h.sl; exact ⟨sv, h1, h2.drewN q⟩, h.ch, h.lt12, h.len, h.ty, h.ty2⟩

theorem Qt.trans {a b c : World} (h : Qt a b) (k : Qt b c) : Qt a c := by
  obtain ⟨n, rfl⟩ := h; obtain ⟨m, rfl⟩ := k; exact ⟨n + m, by rw [World.drewN_drewN]⟩
theorem Qt.drewN (w : World) (n : Nat) : Qt w (w.drewN n) := ⟨n, rfl⟩
theorem IsCont.qt {w w' : World} {cb : Nat} {W : Nat → Int} {slots : List Nat} {ch : Nat} (h : IsCont w cb W slots ch) (q : Qt w w') : IsCont w' cb W slots ch := by obtain ⟨n, rfl⟩ := q; exact h.drewN n

def ptrOff (p : Nat) : Nat := p % 4294967296 * 8
def ptrN (off : Nat) : Nat := off / 8 + 4294967296 + 562949953421312

theorem ptr_or (off : Nat) (ho : off ≤ 34359738360) : bits .or .u64 (bits .or .u64 ((off : Int) / 8) 4294967296) 562949953421312 = (ptrN off : Nat) := by
  rw [show ((off : Int) / 8) = ((off / 8 : Nat) : Int) from by omega, show (4294967296 : Int) = ((4294967296 : Nat) : Int) from rfl, show (562949953421312 : Int) = ((562949953421312 : Nat) : Int) from rfl]
  rw [u64_or_nat _ _ (by omega) (by omega), Nat.or_comm, nat_join 32 4294967296 (off / 8) (by decide) (by omega)]
  rw [u64_or_nat _ _ (by omega) (by omega), Nat.or_comm, nat_join 48 562949953421312 (4294967296 + off / 8) (by decide) (by omega)]
  unfold ptrN; congr 1; omega

theorem ret_two {k k' : IntKind} {a b a' b' : Int} (h : a = b) (h' : a' = b') : Ending.returned (.tuple #[.int k a, .int k' a']) = .returned (.tuple #[.int k b, .int k' b']) := by rw [h, h']
theorem ret_ib {k : IntKind} {a b : Int} {x y : Bool} (h : a = b) (h' : x = y) : Ending.returned (.tuple #[.int k a, .bool x]) = .returned (.tuple #[.int k b, .bool y]) := by rw [h, h']

section
variable {w : World}

set_option maxRecDepth 100000 in
set_option maxHeartbeats 1000000 in
theorem ptrOff_any (p : Nat) (_hp : p < 18446744073709551616) : Calls Tryz.prog 103 #[.int .u64 p] w fun r w' => r = .returned (.int .u64 (ptrOff p)) ∧ w = w' := by
  go_enter Tryz.func103, Tryz.ntmps103
  go_wp2
  go_ret
  exact ⟨ret_int (by unfold ptrOff; omega), rfl⟩

set_option maxRecDepth 100000 in
set_option maxHeartbeats 1000000 in
theorem make_any (off : Nat) (h0 : 0 < off) (h8 : off % 8 = 0) (ho : off ≤ 34359738360) :
    Calls Tryz.prog 53 #[.int .u64 off, .int .u16 1, .int .u8 2] w fun r w' => r = .returned (.tuple #[.int .u64 (ptrN off), .int .i64 0]) ∧ w = w' := by
  have b1 : ((off : Int) == 0) = false := by simp; omega
  have b2 : ((off : Int) % 8 != 0) = false := by simp; omega
  have b3 : ¬ (34359738360 : Int) < off := by omega
  go_enter Tryz.func53, Tryz.ntmps53
  go_wp2
  go_ret2
  exact ⟨ret_two (ptr_or off ho) rfl, rfl⟩

set_option maxRecDepth 100000 in
set_option maxHeartbeats 1000000 in
theorem pointer_any (off : Nat) (h0 : 0 < off) (h8 : off % 8 = 0) (ho : off ≤ 34359738360) :
    Calls Tryz.prog 43 #[.int .u64 off] w fun r w' => r = .returned (.int .u64 (ptrN off)) ∧ w = w' := by
  have HM := Lib.hid (make_any (w := w) off h0 h8 ho)
  go_enter Tryz.func43, Tryz.ntmps43
  go_wp2_with (go_at_call 53; (with_reducible refine HM.out.mono ?_); rintro e w' ⟨rfl, rfl⟩)
  go_ret
  exact ⟨rfl, rfl⟩

set_option maxRecDepth 100000 in
set_option maxHeartbeats 1000000 in
theorem at_any (m : Value) (p : Int) (hm : m = .nilIface ∨ ∃ t a, m = .iface t (.pointer (some a))) :
    Calls Tryz.prog 42 #[m, .int .u64 p] w fun r w' => r = .returned (.agg #[m, .int .u64 p]) ∧ Below w.heap.size w w' := by
  rcases hm with rfl | ⟨t, a, rfl⟩
  all_goals
    go_enter Tryz.func42, Tryz.ntmps42
    go_wp2
    refine bodyPost_ret (v := .agg #[_, .int .u64 p]) (by simp [results, Tryz.results42, go_sem]) rfl ⟨rfl, ?_⟩
    exact (Below.refl _ _).alloc (Nat.le_refl _) _

set_option maxRecDepth 100000 in
set_option maxHeartbeats 1000000 in
theorem key_any {cb : Nat} {W : Nat → Int} {slots : List Nat} {ch : Nat} (h : IsCont w cb W slots ch) (i s : Nat) (hi : slots[i]? = some s) :
    Calls Tryz.prog 74 #[.pointer (some ⟨cb, 0, none⟩), .int .i64 i] w fun r w' => r = .returned (.int .u64 (W (4 + s))) ∧ Qt w w' := by
  have hs := h.lt12 s (List.mem_of_getElem? hi)
  have hil : i < slots.length := by
    rcases Nat.lt_or_ge i slots.length with h | h
    · exact h
    · rw [List.getElem?_eq_none h] at hi; cases hi
  obtain ⟨sv, c28, hrd⟩ := h.sl
  have hv : (natsI slots)[i]? = some (.int .i64 s) := by simp [natsI, hi]
  obtain ⟨_, a, c, rfl, hc, ha⟩ := hrd
  obtain ⟨sb, so, rfl, hcell⟩ := rd_at ha hv
  have c1 := hcell _ _ hv
  have c2 := h.words (4 + s) (by omega)
  have b1 : (i : Int) < slots.length := by omega
  have b2 : (4 : Int) + s < 28 := by omega
  clear ha hcell hv h hi
  go_enter Tryz.func74, Tryz.ntmps74
  go_wp2_with fail
  go_quiet (fail)
  go_wp2_with fail
  go_ret
  exact ⟨rfl, _, rfl⟩

set_option maxRecDepth 100000 in
set_option maxHeartbeats 1000000 in
theorem value_any {cb : Nat} {W : Nat → Int} {slots : List Nat} {ch : Nat} (h : IsCont w cb W slots ch) (i s : Nat) (hi : slots[i]? = some s) :
    Calls Tryz.prog 66 #[.pointer (some ⟨cb, 0, none⟩), .int .i64 i] w fun r w' => r = .returned (.int .u64 (W (16 + s))) ∧ Qt w w' := by
  have hs := h.lt12 s (List.mem_of_getElem? hi)
  have hil : i < slots.length := by
    rcases Nat.lt_or_ge i slots.length with h | h
    · exact h
    · rw [List.getElem?_eq_none h] at hi; cases hi
  obtain ⟨sv, c28, hrd⟩ := h.sl
  have hv : (natsI slots)[i]? = some (.int .i64 s) := by simp [natsI, hi]
  obtain ⟨_, a, c, rfl, hc, ha⟩ := hrd
  obtain ⟨sb, so, rfl, hcell⟩ := rd_at ha hv
  have c1 := hcell _ _ hv
  have c2 := h.words (16 + s) (by omega)
  have b1 : (i : Int) < slots.length := by omega
  have b2 : (16 : Int) + s < 28 := by omega
  clear ha hcell hv h hi
  go_enter Tryz.func66, Tryz.ntmps66
  go_wp2_with fail
  go_quiet (fail)
  go_wp2_with fail
  go_ret
  exact ⟨rfl, _, rfl⟩

/-- The first entry whose key is at least k. -/
def findIdx (W : Nat → Int) (k : Int) : List Nat → Nat
  | [] => 0
  | s :: l => if W (4 + s) < k then findIdx W k l + 1 else 0
theorem findIdx_le (W : Nat → Int) (k : Int) (l : List Nat) : findIdx W k l ≤ l.length := by
  induction l with
  | nil => simp [findIdx]
  | cons s l ih => simp only [findIdx, List.length_cons]; split <;> omega
theorem findIdx_eq (W : Nat → Int) (k : Int) : ∀ (l : List Nat) (i : Nat), i ≤ l.length → (∀ j s, j < i → l[j]? = some s → W (4 + s) < k) → (∀ s, l[i]? = some s → ¬ W (4 + s) < k) → findIdx W k l = i := by
  intro l
  induction l with
  | nil => intro i hi _ _; simp at hi; subst hi; rfl
  | cons s l ih =>
    intro i hi h1 h2
    cases i with
    | zero => simp only [findIdx]; rw [if_neg (h2 s (by simp))]
    | succ i =>
      simp only [findIdx]
      rw [if_pos (h1 0 s (by omega) (by simp)), ih i (by simpa using hi) (fun j t hj ht => h1 (j + 1) t (by omega) (by simpa using ht)) (fun t ht => h2 t (by simpa using ht))]
/-- Does the entry found have that key? -/
def foundB (W : Nat → Int) (k : Int) (l : List Nat) : Bool := match l[findIdx W k l]? with | some s => W (4 + s) == k | none => false

set_option maxRecDepth 100000 in
set_option maxHeartbeats 1000000 in
theorem find_any {cb : Nat} {W : Nat → Int} {slots : List Nat} {ch : Nat} (h : IsCont w cb W slots ch) (k : Int) :
    Calls Tryz.prog 65 #[.pointer (some ⟨cb, 0, none⟩), .int .u64 k] w fun r w' => r = .returned (.tuple #[.int .i64 (findIdx W k slots), .bool (foundB W k slots)]) ∧ Qt w w' := by
  obtain ⟨sv, c28, hrd⟩ := h.sl
  have hlen := h.len
  obtain ⟨_, a, c, rfl, hc, ha⟩ := hrd
  have H := Lib.hid h; clear h ha
  go_enter Tryz.func65, Tryz.ntmps65
  go_wp2_with fail
  go_loopw [6] (fun x wr => ∃ i : Nat, i ≤ slots.length ∧ x = .int .i64 i ∧ (∀ j s, j < i → slots[j]? = some s → W (4 + s) < k) ∧ ∃ q, wr = w.drewN q) (fun x _ => slots.length - (intOf x).toNat)
  case atStart => exact ⟨0, Nat.zero_le _, rfl, fun j _ hj => absurd hj (Nat.not_lt_zero _), 0, rfl⟩
  case round =>
    obtain ⟨i, hi, rfl, hlow, q, rfl⟩ := hrel
    have HL := Lib.hid hlow; clear hlow
    by_cases hlt : i < slots.length
    · obtain ⟨s, hs⟩ : ∃ s, slots[i]? = some s := ⟨_, List.getElem?_eq_getElem hlt⟩
      have b1 : (i : Int) < slots.length := by omega
      have HK := Lib.hid (key_any (H.out.drewN q) i s hs)
      have HS := Lib.hid hs; clear hs
      by_cases hk : W (4 + s) < k
      · go_wp2_with (go_at_call 74; (with_reducible refine HK.out.mono ?_); rintro e w' ⟨rfl, q', rfl⟩)
        go_roundw
        case rel =>
          refine ⟨i + 1, by omega, by go_num, fun j t hj ht => ?_, _, rfl⟩
          rcases Nat.lt_succ_iff_lt_or_eq.1 hj with h' | h'
          · exact HL.out j t h' ht
          · rw [h', HS.out] at ht; cases ht; exact hk
        case measure => simp [intOf]; omega
      · have Hf : Hid (findIdx W k slots = i) := findIdx_eq W k slots i hi HL.out (fun t ht => by rw [HS.out] at ht; cases ht; exact hk)
        have Hb : Hid (foundB W k slots = (W (4 + s) == k)) := by show foundB W k slots = _; unfold foundB; rw [Hf.out, HS.out]
        have HK2 := Lib.hid (fun q => key_any (H.out.drewN q) i s HS.out)
        clear HK
        go_wp2_with (go_at_call 74; (with_reducible refine (HK2.out _).mono ?_); rintro e w' ⟨rfl, q', rfl⟩)
        go_ret2
        exact ⟨ret_ib (by rw [Hf.out]) Hb.out.symm, _, rfl⟩
    · obtain rfl : i = slots.length := by omega
      have Hf : Hid (findIdx W k slots = slots.length) := findIdx_eq W k slots _ (Nat.le_refl _) HL.out (fun t ht => by rw [List.getElem?_eq_none (Nat.le_refl _)] at ht; cases ht)
      have Hb : Hid (foundB W k slots = false) := by show foundB W k slots = _; unfold foundB; rw [Hf.out, List.getElem?_eq_none (Nat.le_refl _)]
      go_wp2_with fail
      go_ret2
      exact ⟨ret_ib (by rw [Hf.out]) Hb.out.symm, _, rfl⟩
end
end Go.Proofs.YtgdcjedcinapdaaGreat

/- slices.Index, slices.Contains; the node's keys and slots as the law draws them. -/
namespace Go.Proofs.YtgdcjedcinapdaaGreat
open Go.RowKit

def intsK (k : IntKind) (l : List Int) : List Value := l.map fun s => Value.int k s
theorem intsK_get (k : IntKind) (l : List Int) (i : Nat) (x : Int) (h : l[i]? = some x) : (intsK k l)[i]? = some (.int k x) := by simp [intsK, h]

section
variable {w : World}
set_option maxRecDepth 100000 in
set_option maxHeartbeats 1000000 in
theorem index1 (sv : Value) (xs : List Int) (x : Int) (h : RdSl w 1 sv xs.length (intsK .u64 xs)) (hl : xs.length ≤ 4611686018) :
    Calls Tryz.prog 117 #[sv, .int .u64 x] w fun r w' => ∃ k : Int, r = .returned (.int .i64 k) ∧ (0 ≤ k ↔ x ∈ xs) ∧ w = w' := by
  obtain ⟨_, a, c, rfl, hc, ha⟩ := h
  have HA := Lib.hid ha; clear ha
  generalize hn : xs.length = n at *
  have HN := Lib.hid hn; clear hn
  go_enter Tryz.func117, Tryz.ntmps117
  go_wp2_with fail
  go_loop [8] (fun i => ∃ k : Nat, k ≤ n ∧ i = .int .i64 k ∧ x ∉ xs.take k) (fun i => n - (intOf i).toNat)
  case atStart => exact ⟨0, by omega, rfl, by simp⟩
  case round =>
    obtain ⟨k, hk, rfl, hnot⟩ := hrel
    have HX := Lib.hid hnot; clear hnot
    by_cases hlt : k < n
    · obtain ⟨y, hy⟩ : ∃ y, xs[k]? = some y := ⟨_, List.getElem?_eq_getElem (by rw [HN.out]; exact hlt)⟩
      obtain ⟨b, o, rfl, hcl⟩ := rd_at HA.out (intsK_get .u64 xs k y hy)
      have c1 := hcl k _ (intsK_get .u64 xs k y hy)
      have HY := Lib.hid hy
      clear hcl hy
      by_cases e : x = y
      · have hb : (x == y) = true := by simpa using e
        have HE := Lib.hid e; clear e
        go_wp2_with fail
        go_ret
        exact ⟨k, rfl, ⟨fun _ => by rw [HE.out]; exact List.mem_of_getElem? HY.out, fun _ => by omega⟩, rfl⟩
      · have hb : (x == y) = false := by simpa using e
        have HE := Lib.hid e; clear e
        go_wp2_with fail
        go_round
        case rel => exact ⟨k + 1, by omega, by go_num, by rw [List.take_add_one, HY.out]; simp only [Option.toList, List.mem_append, List.mem_singleton]; exact fun h => h.elim HX.out HE.out⟩
        case measure => simp [intOf]; omega
    · go_wp2_with fail
      go_ret
      exact ⟨-1, rfl, ⟨fun h => by omega, fun h => absurd h (by have := HX.out; rwa [List.take_of_length_le (by rw [HN.out]; omega)] at this)⟩, rfl⟩
set_option maxRecDepth 100000 in
set_option maxHeartbeats 1000000 in
theorem contains1 (sv : Value) (xs : List Int) (x : Int) (h : RdSl w 1 sv xs.length (intsK .u64 xs)) (hl : xs.length ≤ 4611686018) :
    Calls Tryz.prog 93 #[sv, .int .u64 x] w fun r w' => r = .returned (.bool (decide (x ∈ xs))) ∧ w = w' := by
  have H := Lib.hid (index1 sv xs x h hl); clear h
  go_enter Tryz.func93, Tryz.ntmps93
  go_wp2_with fail
  (with_reducible refine H.out.mono ?_)
  rintro e w' ⟨k, rfl, hk, rfl⟩
  have HK := Lib.hid hk; clear hk H
  go_wp2_with fail
  go_ret
  exact ⟨ret_bool (by rw [decide_eq_decide]; exact HK.out), rfl⟩
set_option maxRecDepth 100000 in
set_option maxHeartbeats 1000000 in
theorem index2 (sv : Value) (xs : List Int) (x : Int) (h : RdSl w 1 sv xs.length (intsK .i64 xs)) (hl : xs.length ≤ 4611686018) :
    Calls Tryz.prog 118 #[sv, .int .i64 x] w fun r w' => ∃ k : Int, r = .returned (.int .i64 k) ∧ (0 ≤ k ↔ x ∈ xs) ∧ w = w' := by
  obtain ⟨_, a, c, rfl, hc, ha⟩ := h
  have HA := Lib.hid ha; clear ha
  generalize hn : xs.length = n at *
  have HN := Lib.hid hn; clear hn
  go_enter Tryz.func118, Tryz.ntmps118
  go_wp2_with fail
  go_loop [8] (fun i => ∃ k : Nat, k ≤ n ∧ i = .int .i64 k ∧ x ∉ xs.take k) (fun i => n - (intOf i).toNat)
  case atStart => exact ⟨0, by omega, rfl, by simp⟩
  case round =>
    obtain ⟨k, hk, rfl, hnot⟩ := hrel
    have HX := Lib.hid hnot; clear hnot
    by_cases hlt : k < n
    · obtain ⟨y, hy⟩ : ∃ y, xs[k]? = some y := ⟨_, List.getElem?_eq_getElem (by rw [HN.out]; exact hlt)⟩
      obtain ⟨b, o, rfl, hcl⟩ := rd_at HA.out (intsK_get .i64 xs k y hy)
      have c1 := hcl k _ (intsK_get .i64 xs k y hy)
      have HY := Lib.hid hy
      clear hcl hy
      by_cases e : x = y
      · have hb : (x == y) = true := by simpa using e
        have HE := Lib.hid e; clear e
        go_wp2_with fail
        go_ret
        exact ⟨k, rfl, ⟨fun _ => by rw [HE.out]; exact List.mem_of_getElem? HY.out, fun _ => by omega⟩, rfl⟩
      · have hb : (x == y) = false := by simpa using e
        have HE := Lib.hid e; clear e
        go_wp2_with fail
        go_round
        case rel => exact ⟨k + 1, by omega, by go_num, by rw [List.take_add_one, HY.out]; simp only [Option.toList, List.mem_append, List.mem_singleton]; exact fun h => h.elim HX.out HE.out⟩
        case measure => simp [intOf]; omega
    · go_wp2_with fail
      go_ret
      exact ⟨-1, rfl, ⟨fun h => by omega, fun h => absurd h (by have := HX.out; rwa [List.take_of_length_le (by rw [HN.out]; omega)] at this)⟩, rfl⟩
set_option maxRecDepth 100000 in
set_option maxHeartbeats 1000000 in
theorem contains2 (sv : Value) (xs : List Int) (x : Int) (h : RdSl w 1 sv xs.length (intsK .i64 xs)) (hl : xs.length ≤ 4611686018) :
    Calls Tryz.prog 94 #[sv, .int .i64 x] w fun r w' => r = .returned (.bool (decide (x ∈ xs))) ∧ w = w' := by
  have H := Lib.hid (index2 sv xs x h hl); clear h
  go_enter Tryz.func94, Tryz.ntmps94
  go_wp2_with fail
  (with_reducible refine H.out.mono ?_)
  rintro e w' ⟨k, rfl, hk, rfl⟩
  have HK := Lib.hid hk; clear hk H
  go_wp2_with fail
  go_ret
  exact ⟨ret_bool (by rw [decide_eq_decide]; exact HK.out), rfl⟩
end
end Go.Proofs.YtgdcjedcinapdaaGreat

/- The walk of leaf.parse. -/
namespace Go.Proofs.YtgdcjedcinapdaaGreat
open Go.RowKit

def nib (x i : Nat) : Nat := x / 2 ^ (4 + 4 * i) % 16
theorem nib_lt (x i : Nat) : nib x i < 16 := Nat.mod_lt _ (by omega)
/-- Digit i of a permutation with n entries is as it must be. -/
def goodNib (x n i : Nat) : Prop := (n ≤ i → nib x i = 0) ∧ (i < n → nib x i < 12 ∧ ∀ j, j < i → nib x j ≠ nib x i)
def parseOk (x : Nat) : Prop := x % 16 ≤ 12 ∧ ∀ i, i < 12 → goodNib x (x % 16) i
def slotsN (x n : Nat) : List Nat := (List.range n).map (nib x)
def seenB (x m j : Nat) : Bool := (List.range m).any (fun i => nib x i == j)
theorem slotsN_succ (x n : Nat) : slotsN x (n + 1) = slotsN x n ++ [nib x n] := by simp [slotsN, List.range_succ]
theorem seenB_succ (x m j : Nat) : seenB x (m + 1) j = (if j = nib x m then true else seenB x m j) := by
  simp only [seenB, List.range_succ, List.any_append, List.any_cons, List.any_nil, Bool.or_false]
  by_cases e : j = nib x m
  · subst e; simp
  · rw [if_neg e, show (nib x m == j) = false from by simp; exact fun h => e h.symm]; simp
theorem seenB_iff (x m j : Nat) : seenB x m j = true ↔ ∃ i, i < m ∧ nib x i = j := by simp [seenB]
theorem natsI_snoc (l : List Nat) (s : Nat) : natsI (l ++ [s]) = natsI l ++ [.int .i64 s] := by simp [natsI]

def ParsePost (w : World) (x : Nat) (r : Ending) (w' : World) : Prop :=
  Below w.heap.size w w' ∧ ((parseOk x ∧ ∃ sv, r = .returned (.tuple #[sv, .bool true]) ∧ OwnSl w' 3 1 sv (x % 16) (natsI (slotsN x (x % 16))) ∧ ∀ g, sv.ownBlock = some g → w.heap.size ≤ g) ∨
    (¬ parseOk x ∧ r = .returned (.tuple #[.slice none 0 0, .bool false])))

/-- m slots are collected. -/
def ParseMid (w : World) (x m : Nat) (lv : Value) (wr : World) : Prop :=
  Row wr w.heap.size 16 195 (fun j => .bool (seenB x m j)) ∧ OwnSl wr 3 1 lv m (natsI (slotsN x m)) ∧ (∀ g, lv.ownBlock = some g → w.heap.size < g) ∧ Below w.heap.size w wr

theorem parse_step {w : World} {x m : Nat} {lv v' : Value} {wr wz w1 : World} (h : ParseMid w x m lv wr) {s : Nat} (hs : s = nib x m) {c : Array Value} {q : Nat} {kk : Int}
    (hz : wz = (wr.setCell ⟨w.heap.size, s, none⟩ (.bool true)).alloc (.cells c 3)) (hkk : kk = s) (o1 : OwnSl w1 3 1 v' (m + 1) (natsI (slotsN x m) ++ [.int .i64 kk])) (g1 : wz.grownBy w1 lv.ownBlock)
    (b1 : slAddr v' = slAddr lv ∨ slAddr v' = some ⟨q, 0, none⟩) (hq : wr.heap.size ≤ q) : ParseMid w x (m + 1) v' w1 := by
  subst hkk
  obtain ⟨h1, h2, h3, h4⟩ := h
  have hb : Below w.heap.size w wz := by
    rw [hz]; exact (h4.setCell (p := ⟨w.heap.size, s, none⟩) (by simp) _).alloc (by have := h4.size; simp [World.setCell]; exact this) _
  have hr : Row wz w.heap.size 16 195 (fun j => .bool (seenB x (m + 1) j)) := by
    rw [hz]
    refine ((h1.set s (.bool true)).alloc _).congr (fun i _ => ?_)
    rw [seenB_succ, ← hs]
    by_cases e : i = s
    · rw [if_pos e, if_pos e]
    · rw [if_neg e, if_neg e]
  have hlt := hr.lt
  refine ⟨?_, by rw [slotsN_succ, natsI_snoc, ← hs]; exact o1, fun g hg => ?_, hb.grown g1 hb.size (fun g hg => by have := h3 g hg; omega)⟩
  · obtain ⟨c, p1, p2⟩ := hr
    exact ⟨c, (g1.block _ hlt (fun e => by have := h3 _ e.symm; omega)).trans p1, p2⟩
  · rcases b1 with b1 | b1
    · rw [ownBlock_addr, b1, ← ownBlock_addr] at hg; exact h3 g hg
    · rw [ownBlock_addr, b1] at hg; cases hg; show w.heap.size < q; have := h1.lt; omega

section
variable {w : World}

set_option maxRecDepth 100000 in
set_option maxHeartbeats 2000000 in
theorem parse_any (x : Nat) (hx : x < 18446744073709551616) : Calls Tryz.prog 104 #[.int .u64 x] w (ParsePost w x) := by
  have hand : bits .and .u64 (x : Int) 15 = ((x % 16 : Nat) : Int) := by
    rw [show (15 : Int) = ((15 : Nat) : Int) from rfl, u64_and_nat _ _ hx (by decide), nat_mask4]
  obtain ⟨i0, hi, hz0, hz1, hz2⟩ := info_parts infoInt
  have I := Lib.hid (And.intro hi (And.intro hz0 (And.intro hz1 hz2))); clear hi hz0 hz1 hz2
  obtain ⟨n, hne⟩ : ∃ n, n = x % 16 := ⟨_, rfl⟩
  rw [← hne] at hand
  have HN := Lib.hid hne
  have hn16 : n < 16 := by omega
  clear hne
  by_cases hn : n ≤ 12
  · have hn' : ¬ (12 : Int) < n := by omega
    go_enter Tryz.func104, Tryz.ntmps104
    go_wp2_with fail
    have hm0 : ParseMid w x 0 (.slice none 0 0) (w.alloc (.cells #[.bool false, .bool false, .bool false, .bool false, .bool false, .bool false, .bool false, .bool false, .bool false, .bool false, .bool false, .bool false, .bool false, .bool false, .bool false, .bool false] 195)) := by
      refine ⟨Row.new w _ _ _ _ (fun j hj => ?_), OwnSl.nil _ _ _, fun g hg => by simp [Value.ownBlock] at hg, (Below.refl _ _).alloc (Nat.le_refl _) _⟩
      obtain rfl | rfl | rfl | rfl | rfl | rfl | rfl | rfl | rfl | rfl | rfl | rfl | rfl | rfl | rfl | rfl : j = 0 ∨ j = 1 ∨ j = 2 ∨ j = 3 ∨ j = 4 ∨ j = 5 ∨ j = 6 ∨ j = 7 ∨ j = 8 ∨ j = 9 ∨ j = 10 ∨ j = 11 ∨ j = 12 ∨ j = 13 ∨ j = 14 ∨ j = 15 := by omega
      all_goals rfl
    have HM0 := Lib.hid hm0; clear hm0
    go_loopw [5, 14] (fun lv i wr => ∃ k : Nat, k ≤ 12 ∧ i = .int .i64 k ∧ (∀ i, i < k → goodNib x n i) ∧ ParseMid w x (min k n) lv wr) (fun _ i _ => 12 - (intOf i).toNat)
    case atStart => exact ⟨0, Nat.zero_le _, rfl, fun i hi => absurd hi (Nat.not_lt_zero _), by rw [Nat.zero_min]; exact HM0.out⟩
    case round =>
      obtain ⟨k, hk, rfl, hgood, hmid⟩ := hrel
      have HG := Lib.hid hgood; clear hgood HM0
      have hbelow := Lib.hid hmid.2.2.2
      by_cases hlt : k < 12
      · obtain ⟨s, hs⟩ : ∃ s, s = nib x k := ⟨_, rfl⟩
        have hs16 : s < 16 := by rw [hs]; exact nib_lt x k
        have hsh : bits .and .u64 ((x : Int) / 2 ^ (4 + 4 * k)) 15 = (s : Int) := by
          have hd : ((x : Int) / 2 ^ (4 + 4 * k)) = ((x / 2 ^ (4 + 4 * k) : Nat) : Int) := by simp
          rw [hd, show (15 : Int) = ((15 : Nat) : Int) from rfl, u64_and_nat _ _ (Nat.lt_of_le_of_lt (Nat.div_le_self _ _) hx) (by decide), nat_mask4, hs]; rfl
        have HS := Lib.hid hs; clear hs
        have hbad : ¬ goodNib x n k → ¬ parseOk x := fun h h2 => h (by have := h2.2 k hlt; rw [← HN.out] at this; exact this)
        have HB := Lib.hid hbad
        have hnext : goodNib x n k → ∀ i, i < k + 1 → goodNib x n i := fun h i hi => by
          rcases Nat.lt_succ_iff_lt_or_eq.1 hi with h' | h'
          · exact HG.out i h'
          · rw [h']; exact h
        have HX := Lib.hid hnext
        clear hbad hnext
        by_cases hkn : n ≤ k
        · have hkn' : (n : Int) ≤ k := by omega
          rw [Nat.min_eq_right hkn] at hmid
          obtain ⟨la, lc, hlv⟩ := hmid.2.1.slice
          subst hlv
          have HM := Lib.hid hmid; clear hmid
          by_cases hz : s = 0
          · have hz' : ((s : Int) != 0) = false := by simp; omega
            have Hg : Hid (goodNib x n k) := ⟨fun _ => by rw [← HS.out]; exact hz, fun h => absurd h (by omega)⟩
            have HZ := Lib.hid hz; clear hz
            go_wp2_with fail
            go_roundw
            case rel => exact ⟨k + 1, by omega, by go_num, HX.out Hg.out, by rw [Nat.min_eq_right (by omega)]; exact HM.out⟩
            case measure => simp [intOf]; omega
          · have hz' : ((s : Int) != 0) = true := by simp; omega
            have Hg : Hid (¬ parseOk x) := HB.out (fun h => hz (by rw [HS.out]; exact h.1 hkn))
            clear hz
            go_wp2_with fail
            go_ret2
            exact ⟨hbelow.out, .inr ⟨Hg.out, rfl⟩⟩
        · have hkn' : ¬ (n : Int) ≤ k := by omega
          rw [Nat.min_eq_left (by omega)] at hmid
          obtain ⟨la, lc, hlv⟩ := hmid.2.1.slice
          subst hlv
          have HM := Lib.hid hmid; clear hmid
          by_cases h12 : 12 ≤ s
          · have h12' : (12 : Int) ≤ s := by omega
            have Hg : Hid (¬ parseOk x) := HB.out (fun h => by have := (h.2 (by omega)).1; rw [← HS.out] at this; omega)
            go_wp2_with fail
            go_ret2
            exact ⟨hbelow.out, .inr ⟨Hg.out, rfl⟩⟩
          · have h12' : ¬ (12 : Int) ≤ s := by omega
            have hs16' : (s : Int) < 16 := by omega
            have c1 : wr.cell? ⟨w.heap.size, s, none⟩ = some (.bool (seenB x k s)) := HM.out.1.cell hs16
            have f1 := HM.out.1.frozen s
            have hsn : seenB x k s = true ∨ seenB x k s = false := by cases seenB x k s <;> simp
            rcases hsn with hsn | hsn
            · rw [hsn] at c1
              have Hg : Hid (¬ parseOk x) := HB.out (fun h => by
                obtain ⟨j, hj, he⟩ := (seenB_iff x k s).1 hsn
                exact (h.2 (by omega)).2 j hj (by rw [he, HS.out]))
              clear hsn
              go_wp2_with fail
              go_ret2
              exact ⟨hbelow.out, .inr ⟨Hg.out, rfl⟩⟩
            · rw [hsn] at c1
              have Hg : Hid (goodNib x n k) := ⟨fun h => absurd h (by omega), fun _ => ⟨by rw [← HS.out]; omega, fun j hj he => by
                have : seenB x k s = true := (seenB_iff x k s).2 ⟨j, hj, by rw [he, HS.out]⟩
                rw [hsn] at this; cases this⟩⟩
              have ho2 : ∀ g, (Value.slice la k lc).ownBlock = some g → g ≠ w.heap.size := fun g hg => by have := HM.out.2.2.1 g hg; omega
              have HO2 := Lib.hid ho2
              clear hsn ho2
              go_wp2_with (at_builtin; refine wpList_append_sl _ rfl _ _ 113 rfl 3 i0 _ 1 8 Tryz.underlying113 I.out.1 I.out.2.1 I.out.2.2.1 I.out.2.2.2 rfl (by decide) _ k (natsI (slotsN x k)) rfl (by exact (HM.out.2.1.other (a := ⟨w.heap.size, s, none⟩) (fun g hg => HO2.out g hg) _).alloc _) _ 1 _ rfl (RdSl.newAt _ _ _ 1 1 _ (by simp [World.setCell]) rfl) (one_int _ _) (by unfold maxLen; omega) (by omega) ?_)
              intro v' w1 o1 g1 b1 n1
              have M1 := Lib.hid (parse_step HM.out HS.out rfl rfl o1 g1 b1 (by omega))
              clear o1 g1 b1 n1
              go_wp2_with fail
              go_roundw
              case rel => exact ⟨k + 1, by omega, by go_num, HX.out Hg.out, by rw [Nat.min_eq_left (by omega)]; exact M1.out⟩
              case measure => simp [intOf]; omega
      · obtain rfl : k = 12 := by omega
        rw [Nat.min_eq_right hn] at hmid
        have HM := Lib.hid hmid; clear hmid
        go_wp2_with fail
        go_ret2
        exact ⟨hbelow.out, .inl ⟨⟨by rw [← HN.out]; exact hn, by rw [← HN.out]; exact HG.out⟩, _, rfl, by rw [← HN.out]; exact HM.out.2.1, fun g hg => Nat.le_of_lt (HM.out.2.2.1 g hg)⟩⟩
  · have hn' : (12 : Int) < n := by omega
    go_enter Tryz.func104, Tryz.ntmps104
    go_wp2_with fail
    go_ret2
    exact ⟨Below.refl _ _, .inr ⟨fun h => hn (by rw [HN.out]; exact h.1), rfl⟩⟩
end
end Go.Proofs.YtgdcjedcinapdaaGreat

/- The walks of a pointer's validity and of content.valid. -/
namespace Go.Proofs.YtgdcjedcinapdaaGreat
open Go.RowKit

def ptrGen (p : Nat) : Nat := p / 4294967296 % 65536
def ptrKind (p : Nat) : Nat := p / 281474976710656 % 256
def ptrFormed (p : Nat) : Bool := decide (p / 72057594037927936 = 0 ∧ ptrOff p ≠ 0 ∧ ptrGen p ≠ 0 ∧ ptrKind p ≠ 0 ∧ ptrKind p ≤ 127)
def ptrValid (p size : Nat) : Bool := ptrFormed p && decide (ptrOff p < size)

section
variable {w : World}

set_option maxRecDepth 100000 in
set_option maxHeartbeats 1000000 in
theorem gen_any (p : Nat) (_hp : p < 18446744073709551616) : Calls Tryz.prog 141 #[.int .u64 p] w fun r w' => r = .returned (.int .u16 (ptrGen p)) ∧ w = w' := by
  go_enter Tryz.func141, Tryz.ntmps141
  go_wp2
  go_ret
  refine ⟨ret_int ?_, rfl⟩
  unfold ptrGen
  first | omega | (rw [IntKind.wrap_u16]; omega)

set_option maxRecDepth 100000 in
set_option maxHeartbeats 1000000 in
theorem kind_any (p : Nat) (_hp : p < 18446744073709551616) : Calls Tryz.prog 142 #[.int .u64 p] w fun r w' => r = .returned (.int .u8 (ptrKind p)) ∧ w = w' := by
  go_enter Tryz.func142, Tryz.ntmps142
  go_wp2
  go_ret
  refine ⟨ret_int ?_, rfl⟩
  unfold ptrKind
  first | omega | (rw [IntKind.wrap_u8']; omega)

set_option maxRecDepth 100000 in
set_option maxHeartbeats 1000000 in
theorem formed_any (p : Nat) (hp : p < 18446744073709551616) : Calls Tryz.prog 134 #[.int .u64 p] w fun r w' => r = .returned (.bool (ptrFormed p)) ∧ w = w' := by
  have HO := Lib.hid (ptrOff_any (w := w) p hp); have HG := Lib.hid (gen_any (w := w) p hp); have HK := Lib.hid (kind_any (w := w) p hp)
  obtain ⟨t, ht⟩ : ∃ t, t = p / 72057594037927936 := ⟨_, rfl⟩
  have hsh : ((p : Int) / 72057594037927936) = (t : Int) := by omega
  have key : ∀ b : Bool, (b = true ↔ (t = 0 ∧ ptrOff p ≠ 0 ∧ ptrGen p ≠ 0 ∧ ptrKind p ≠ 0 ∧ ptrKind p ≤ 127)) → b = ptrFormed p := by
    intro b hb
    unfold ptrFormed
    rw [← ht, Bool.eq_iff_iff, hb, decide_eq_true_iff]
  have KEY := Lib.hid key
  clear key ht
  generalize ptrOff p = o at *
  generalize ptrGen p = g at *
  generalize ptrKind p = k at *
  by_cases h1 : t = 0
  · have b1 : ((t : Int) == 0) = true := by simp; omega
    by_cases h2 : o = 0
    · have b2 : ((o : Int) != 0) = false := by simp; omega
      go_enter Tryz.func134, Tryz.ntmps134
      go_wp2_with (first | (go_at_call 103; (with_reducible refine HO.out.mono ?_); rintro e w' ⟨rfl, rfl⟩))
      go_ret
      exact ⟨ret_bool (KEY.out _ (by simp [h2])), rfl⟩
    · have b2 : ((o : Int) != 0) = true := by simp; omega
      by_cases h3 : g = 0
      · have b3 : ((g : Int) != 0) = false := by simp; omega
        go_enter Tryz.func134, Tryz.ntmps134
        go_wp2_with (first | (go_at_call 103; (with_reducible refine HO.out.mono ?_); rintro e w' ⟨rfl, rfl⟩) | (go_at_call 141; (with_reducible refine HG.out.mono ?_); rintro e w' ⟨rfl, rfl⟩))
        go_ret
        exact ⟨ret_bool (KEY.out _ (by simp [h3])), rfl⟩
      · have b3 : ((g : Int) != 0) = true := by simp; omega
        by_cases h4 : k = 0
        · have b4 : ((k : Int) != 0) = false := by simp; omega
          go_enter Tryz.func134, Tryz.ntmps134
          go_wp2_with (first | (go_at_call 103; (with_reducible refine HO.out.mono ?_); rintro e w' ⟨rfl, rfl⟩) | (go_at_call 141; (with_reducible refine HG.out.mono ?_); rintro e w' ⟨rfl, rfl⟩) | (go_at_call 142; (with_reducible refine HK.out.mono ?_); rintro e w' ⟨rfl, rfl⟩))
          go_ret
          exact ⟨ret_bool (KEY.out _ (by simp [h4])), rfl⟩
        · have b4 : ((k : Int) != 0) = true := by simp; omega
          go_enter Tryz.func134, Tryz.ntmps134
          go_wp2_with (first | (go_at_call 103; (with_reducible refine HO.out.mono ?_); rintro e w' ⟨rfl, rfl⟩) | (go_at_call 141; (with_reducible refine HG.out.mono ?_); rintro e w' ⟨rfl, rfl⟩) | (go_at_call 142; (with_reducible refine HK.out.mono ?_); rintro e w' ⟨rfl, rfl⟩))
          go_ret
          exact ⟨ret_bool (KEY.out _ (by simp [h1, h2, h3, h4]; omega)), rfl⟩
  · have b1 : ((t : Int) == 0) = false := by simp; omega
    go_enter Tryz.func134, Tryz.ntmps134
    go_wp2_with fail
    go_ret
    exact ⟨ret_bool (KEY.out _ (by simp [h1])), rfl⟩

set_option maxRecDepth 100000 in
set_option maxHeartbeats 1000000 in
theorem ptrValid_any (p size : Nat) (hp : p < 18446744073709551616) : Calls Tryz.prog 121 #[.int .u64 p, .int .u64 size] w fun r w' => r = .returned (.bool (ptrValid p size)) ∧ w = w' := by
  have HO := Lib.hid (ptrOff_any (w := w) p hp); have HF := Lib.hid (formed_any (w := w) p hp)
  have Hv : Hid (ptrValid p size = (ptrFormed p && decide (ptrOff p < size))) := rfl
  generalize ptrFormed p = b at *
  generalize ptrOff p = o at *
  cases b
  · go_enter Tryz.func121, Tryz.ntmps121
    go_wp2_with (first | (go_at_call 134; (with_reducible refine HF.out.mono ?_); rintro e w' ⟨rfl, rfl⟩))
    go_ret
    exact ⟨ret_bool (by rw [Hv.out]; rfl), rfl⟩
  · go_enter Tryz.func121, Tryz.ntmps121
    go_wp2_with (first | (go_at_call 134; (with_reducible refine HF.out.mono ?_); rintro e w' ⟨rfl, rfl⟩) | (go_at_call 103; (with_reducible refine HO.out.mono ?_); rintro e w' ⟨rfl, rfl⟩))
    go_ret
    exact ⟨ret_bool (by rw [Hv.out]; rfl), rfl⟩

/-- The key of entry i. -/
def keyAt (W : Nat → Int) (slots : List Nat) (i : Nat) : Int := W (4 + slots.getD i 0)
def ascC (W : Nat → Int) (slots : List Nat) (n : Nat) : Prop := ∀ i, 0 < i → i < n → keyAt W slots (i - 1) < keyAt W slots i
def validC (W : Nat → Int) (slots : List Nat) (size : Nat) : Prop :=
  ascC W slots slots.length ∧ (W 3 = 0 ∧ W 2 = 0 ∨ W 3 = 1 ∧ (0 < slots.length → keyAt W slots (slots.length - 1) < W 2)) ∧ (W 1 = 0 ∨ ptrValid (W 1).toNat size = true)

def BoolPost (w : World) (p : Prop) (r : Ending) (w' : World) : Prop := ∃ b : Bool, r = .returned (.bool b) ∧ (b = true ↔ p) ∧ Qt w w'

theorem key_at {cb : Nat} {W : Nat → Int} {slots : List Nat} {ch : Nat} (h : IsCont w cb W slots ch) (i : Nat) (hi : i < slots.length) :
    Calls Tryz.prog 74 #[.pointer (some ⟨cb, 0, none⟩), .int .i64 i] w fun r w' => r = .returned (.int .u64 (keyAt W slots i)) ∧ Qt w w' := by
  obtain ⟨s, hs⟩ : ∃ s, slots[i]? = some s := ⟨_, List.getElem?_eq_getElem hi⟩
  have := key_any h i s hs
  unfold keyAt
  simp only [List.getD, hs, Option.getD_some]
  exact this

set_option maxRecDepth 100000 in
set_option maxHeartbeats 2000000 in
theorem valid_any {cb : Nat} {W : Nat → Int} {slots : List Nat} {ch : Nat} (h : IsCont w cb W slots ch) (size : Nat) (hW : ∀ i, i < 28 → 0 ≤ W i ∧ W i < 18446744073709551616) :
    Calls Tryz.prog 105 #[.pointer (some ⟨cb, 0, none⟩), .int .u64 size] w (BoolPost w (validC W slots size)) := by
  obtain ⟨sv, c28, hrd⟩ := h.sl
  have hlen := h.len
  obtain ⟨_, a, c, rfl, hc, ha⟩ := hrd
  obtain ⟨n, hN⟩ : ∃ n, n = slots.length := ⟨_, rfl⟩
  have HN := Lib.hid hN
  rw [← hN] at c28 hc hlen
  clear hN
  have c1 := h.words 1 (by omega); have c2 := h.words 2 (by omega); have c3 := h.words 3 (by omega)
  have H := Lib.hid h; have HW := Lib.hid hW; have C28 := Lib.hid c28; clear h ha hW
  go_enter Tryz.func105, Tryz.ntmps105
  go_wp2_with fail
  go_loopw [13] (fun x wr => ∃ i : Nat, i ≤ n ∧ x = .int .i64 i ∧ ascC W slots i ∧ Qt w wr) (fun x _ => n - (intOf x).toNat)
  case atStart => exact ⟨0, Nat.zero_le _, rfl, fun i _ hi => absurd hi (Nat.not_lt_zero _), Qt.refl _⟩
  case round =>
    obtain ⟨i, hi, rfl, hasc, hq⟩ := hrel
    have HA := Lib.hid hasc; have HQ := Lib.hid hq; clear hasc hq c1 c2 c3 c28
    have HC := Lib.hid (H.out.qt HQ.out)
    by_cases hlt : i < n
    · have b1 : (i : Int) < n := by omega
      cases i with
      | zero =>
        rw [show ((0 : Nat) : Int) = 0 from rfl]
        go_wp2_with fail
        go_roundw
        case rel => exact ⟨1, by omega, by go_num, fun j hj hj1 => by omega, HQ.out⟩
        case measure => simp [intOf]; omega
      | succ m =>
        have hK1 := key_at HC.out (m + 1) (by rw [← HN.out]; exact hlt)
        rw [show ((m + 1 : Nat) : Int) = (m : Int) + 1 from by omega] at hK1
        have HK1 := Lib.hid hK1; clear hK1
        have HF : Hid (ascC W slots (m + 1 + 1) ↔ keyAt W slots m < keyAt W slots (m + 1)) := by
          show ascC W slots (m + 1 + 1) ↔ _
          constructor
          · intro h; have := h (m + 1) (by omega) (by omega); rw [Nat.add_sub_cancel] at this; omega
          · intro h j hj hj1
            rcases Nat.lt_succ_iff_lt_or_eq.1 hj1 with h' | h'
            · exact HA.out j hj h'
            · rw [h', Nat.add_sub_cancel]; omega
        go_wp2_with fail
        (with_reducible refine HK1.out.mono ?_)
        rintro e w1 ⟨rfl, q1⟩
        have HK2 := Lib.hid (key_at (HC.out.qt q1) m (by rw [← HN.out]; omega))
        have Q1 := Lib.hid q1; clear q1
        go_wp2_with fail
        (with_reducible refine HK2.out.mono ?_)
        rintro e w2 ⟨rfl, q2⟩
        have Q2 := Lib.hid ((HQ.out.trans Q1.out).trans q2); clear q2
        by_cases hk : keyAt W slots (m + 1) ≤ keyAt W slots m
        · have Hn : Hid (¬ validC W slots size) := fun h => absurd (HF.out.1 (fun j hj hj1 => h.1 j hj (by rw [← HN.out]; omega))) (by omega)
          go_wp2_with fail
          go_ret
          exact ⟨false, rfl, by simp; exact Hn.out, Q2.out⟩
        · have Hn := Lib.hid (HF.out.2 (by omega))
          go_wp2_with fail
          go_roundw
          case rel => exact ⟨m + 1 + 1, by omega, by go_num, Hn.out, Q2.out⟩
          case measure => simp [intOf]; omega
    · obtain rfl : i = n := by omega
      rw [HN.out] at HA
      have c28 : wr.cell? ⟨cb, 28, none⟩ = some (.slice a i c) := by obtain ⟨q, rfl⟩ := HQ.out; exact C28.out
      have c1 := HC.out.words 1 (by omega); have c2 := HC.out.words 2 (by omega); have c3 := HC.out.words 3 (by omega)
      clear hlt
      by_cases h30 : W 3 = 0
      · have e30 : (W 3 == 0) = true := by simp [h30]
        by_cases h20 : W 2 = 0
        · have e20 : (W 2 != 0) = false := by simp [h20]
          have Hm : Hid (W 3 = 0 ∧ W 2 = 0 ∨ W 3 = 1 ∧ (0 < slots.length → keyAt W slots (slots.length - 1) < W 2)) := .inl ⟨h30, h20⟩
          clear h30 h20
          by_cases h1 : W 1 = 0
          · have e1 : (W 1 == 0) = true := by simp [h1]
            have Hv : Hid (validC W slots size) := ⟨HA.out, Hm.out, .inl h1⟩
            clear h1
            go_wp2_with fail
            go_ret
            exact ⟨true, rfl, by simp; exact Hv.out, HQ.out⟩
          · have e1 : (W 1 == 0) = false := by simp [h1]
            have Hv : Hid (ptrValid (W 1).toNat size = true ↔ validC W slots size) := ⟨fun h => ⟨HA.out, Hm.out, .inr h⟩, fun h => h.2.2.resolve_left h1⟩
            clear h1
            go_wp2_with fail
            have hc := ptrValid_any (w := wr) (W 1).toNat size (by have := HW.out 1 (by omega); omega)
            rw [show (((W 1).toNat : Nat) : Int) = W 1 from by have := HW.out 1 (by omega); omega] at hc
            (with_reducible refine hc.mono ?_)
            rintro e w9 ⟨rfl, rfl⟩
            clear hc
            go_wp2_with fail
            go_ret
            exact ⟨_, rfl, Hv.out, HQ.out⟩
        · have e20 : (W 2 != 0) = true := by simp [h20]
          have Hn : Hid (¬ validC W slots size) := fun h => by rcases h.2.1 with h' | h' <;> omega
          clear h30 h20
          go_wp2_with fail
          go_ret
          exact ⟨false, rfl, by simp; exact Hn.out, HQ.out⟩
      · have e30 : (W 3 == 0) = false := by simp [h30]
        by_cases h31 : W 3 = 1
        · have e31 : (W 3 == 1) = true := by simp [h31]
          by_cases hn0 : i = 0
          · have Hm : Hid (W 3 = 0 ∧ W 2 = 0 ∨ W 3 = 1 ∧ (0 < slots.length → keyAt W slots (slots.length - 1) < W 2)) := .inr ⟨h31, fun h => by rw [← HN.out] at h; omega⟩
            have hd : decide ((0 : Int) < i) = false := by rw [decide_eq_false_iff_not]; omega
            have hd2 : decide (0 < i) = false := by rw [decide_eq_false_iff_not]; omega
            clear h30 h31 hn0
            go_wp2_with fail
            go_quiet (fail)
            obtain ⟨w2, hw2⟩ : ∃ w2, w2 = wr.drewN nq := ⟨_, rfl⟩
            rw [← hw2]
            have Q2 : Hid (Qt w w2) := HQ.out.trans ⟨_, hw2⟩
            have c1' : w2.cell? ⟨cb, 1, none⟩ = some (.int .u64 (W 1)) := by rw [hw2]; exact c1
            clear hw2 c1 c2 c3 c28 HQ HC
            by_cases h1 : W 1 = 0
            · have e1 : (W 1 == 0) = true := by simp [h1]
              have Hv : Hid (validC W slots size) := ⟨HA.out, Hm.out, .inl h1⟩
              clear h1
              go_wp2_with fail
              go_ret
              exact ⟨true, rfl, by simp; exact Hv.out, Q2.out⟩
            · have e1 : (W 1 == 0) = false := by simp [h1]
              have Hv : Hid (ptrValid (W 1).toNat size = true ↔ validC W slots size) := ⟨fun h => ⟨HA.out, Hm.out, .inr h⟩, fun h => h.2.2.resolve_left h1⟩
              clear h1
              go_wp2_with fail
              have hc := ptrValid_any (w := w2) (W 1).toNat size (by have := HW.out 1 (by omega); omega)
              rw [show (((W 1).toNat : Nat) : Int) = W 1 from by have := HW.out 1 (by omega); omega] at hc
              (with_reducible refine hc.mono ?_)
              rintro e w9 ⟨rfl, rfl⟩
              clear hc
              go_wp2_with fail
              go_ret
              exact ⟨_, rfl, Hv.out, Q2.out⟩
          · have hd : (0 : Int) < i := by omega
            have hd2 : 0 < i := by omega
            have hkk : ∀ wx, Qt wr wx → Calls Tryz.prog 74 #[.pointer (some ⟨cb, 0, none⟩), .int .i64 ((i : Int) - 1)] wx fun r w' => r = .returned (.int .u64 (keyAt W slots (slots.length - 1))) ∧ Qt wx w' := by
              intro wx hx
              have := key_at (HC.out.qt hx) (i - 1) (by rw [← HN.out]; omega)
              rw [show ((i - 1 : Nat) : Int) = (i : Int) - 1 from by omega] at this
              rw [← HN.out]; exact this
            have HKK := Lib.hid hkk
            have Hv2 : Hid (W 3 = 1) := h31
            clear h30 h31 hn0 hkk
            have hw1 : IntKind.i64.wrap ((i : Int) - 1) = (i : Int) - 1 := IntWalk.i64_in _ (by omega)
            go_wp2_with fail
            go_quiet ((go_at_call 74; exact Calls.quiet_of (HKK.out _ (Qt.drewN _ _))))
            clear hw1
            obtain ⟨w2, hw2⟩ : ∃ w2, w2 = wr.drewN nq := ⟨_, rfl⟩
            rw [← hw2]
            have Q2 : Hid (Qt w w2) := HQ.out.trans ⟨_, hw2⟩
            have c1' : w2.cell? ⟨cb, 1, none⟩ = some (.int .u64 (W 1)) := by rw [hw2]; exact c1
            clear hw2 c1 c2 c3 c28 HQ HC
            by_cases hk : W 2 ≤ keyAt W slots (slots.length - 1)
            · have Hn : Hid (¬ validC W slots size) := fun h => by
                have h1 := Hv2.out
                rcases h.2.1 with h' | h'
                · omega
                · have := h'.2 (by rw [← HN.out]; omega); omega
              go_wp2_with fail
              go_ret
              exact ⟨false, rfl, by simp; exact Hn.out, Q2.out⟩
            · have Hm : Hid (W 3 = 0 ∧ W 2 = 0 ∨ W 3 = 1 ∧ (0 < slots.length → keyAt W slots (slots.length - 1) < W 2)) := .inr ⟨Hv2.out, fun _ => by omega⟩
              by_cases h1 : W 1 = 0
              · have e1 : (W 1 == 0) = true := by simp [h1]
                have Hv : Hid (validC W slots size) := ⟨HA.out, Hm.out, .inl h1⟩
                clear h1
                go_wp2_with fail
                go_ret
                exact ⟨true, rfl, by simp; exact Hv.out, Q2.out⟩
              · have e1 : (W 1 == 0) = false := by simp [h1]
                have Hv : Hid (ptrValid (W 1).toNat size = true ↔ validC W slots size) := ⟨fun h => ⟨HA.out, Hm.out, .inr h⟩, fun h => h.2.2.resolve_left h1⟩
                clear h1
                go_wp2_with fail
                have hc := ptrValid_any (w := w2) (W 1).toNat size (by have := HW.out 1 (by omega); omega)
                rw [show (((W 1).toNat : Nat) : Int) = W 1 from by have := HW.out 1 (by omega); omega] at hc
                (with_reducible refine hc.mono ?_)
                rintro e w9 ⟨rfl, rfl⟩
                clear hc
                go_wp2_with fail
                go_ret
                exact ⟨_, rfl, Hv.out, Q2.out⟩
        · have e31 : (W 3 == 1) = false := by simp [h31]
          have Hn : Hid (¬ validC W slots size) := fun h => by rcases h.2.1 with h' | h' <;> omega
          clear h30 h31
          go_wp2_with fail
          go_ret
          exact ⟨false, rfl, by simp; exact Hn.out, HQ.out⟩
end
end Go.Proofs.YtgdcjedcinapdaaGreat

/- The walk of Leaf.read. -/
namespace Go.Proofs.YtgdcjedcinapdaaGreat
open Go.RowKit

section
variable {w : World} {v : DV} {own : Nat → Option Role} {D : Dev}

set_option maxHeartbeats 400000 in
theorem load_ok (h : IsDev w v own D) {j : Nat} (hj : j < 8) (off : Nat) (hoff : D.off = false) (hw : off % 8 = 0) (hl : off < 64 * D.n) :
    Calls Tryz.prog 82 #[.pointer (some ⟨v.tb j, 0, none⟩), .int .u64 off] w fun r w' => r = .returned (.int .u64 (D.cur (off / 8))) ∧ w = w' := by
  have c0 : w.cell? ⟨v.tb j, 0, none⟩ = some (.pointer (some ⟨v.db, 0, none⟩)) := (h.thr j hj).cell rfl
  have c1 : w.cell? ⟨v.db, 1, none⟩ = some (.slice (some ⟨v.cb, 0, none⟩) (8 * D.n) v.cc) := h.dev.cell rfl
  have hn := h.wf.le
  have h2 : D.wordB off = true := by simp [Dev.wordB, hw, hl]
  have ck : w.cell? ⟨v.cb, off / 8, none⟩ = some (.int .u64 (D.cur (off / 8))) := cur_at h (by omega)
  have hw : ((off : Int) / 8) < (8 * D.n : Nat) := by omega
  have H := Lib.hid h; have H2 := Lib.hid h2; have Ho := Lib.hid hoff; clear h h2 hoff
  go_enter Tryz.func82, Tryz.ntmps82
  go_wp2_with (first | (go_at_call 96; refine (word_any H.out hj off).mono ?_; rintro e w' ⟨rfl, rfl⟩; rw [H2.out]) | (go_at_call 108; refine (on_yes H.out hj Ho.out).mono ?_; rintro e w' ⟨rfl, rfl⟩))
  go_ret
  exact ⟨rfl, rfl⟩

def leafV (v : DV) (j p : Nat) : Value := .agg #[.iface 76 (.pointer (some ⟨v.tb j, 0, none⟩)), .int .u64 p]

set_option maxRecDepth 100000 in
set_option maxHeartbeats 1000000 in
theorem leafAt_any (m : Value) (p i : Nat) (hp : p < 18446744073709551616) (hi : i < 1000) (hm : m = .nilIface ∨ ∃ t a, m = .iface t (.pointer (some a))) :
    Calls Tryz.prog 68 #[.agg #[m, .int .u64 p], .int .i64 i] w fun r w' => r = .returned (.int .u64 (ptrOff p + 8 * i : Nat)) ∧ w.alloc (.cells #[m, .int .u64 p] 35) = w' := by
  have hb : ptrOff p ≤ 34359738360 := by unfold ptrOff; omega
  have HO := Lib.hid (ptrOff_any (w := w.alloc (.cells #[m, .int .u64 p] 35)) p hp)
  generalize ptrOff p = o at *
  rcases hm with rfl | ⟨t, a, rfl⟩
  all_goals
    go_enter Tryz.func68, Tryz.ntmps68
    go_wp2_with (go_at_call 103; (with_reducible refine HO.out.mono ?_); rintro e w' ⟨rfl, rfl⟩)
    go_ret
    exact ⟨ret_int (by omega), rfl⟩

theorem meth_Size (a : Addr) (w : World) : (method 332 76 (.pointer (some a)) "Size").run Tryz.prog w = .ok (164, .pointer (some a)) w := by kernel_rfl
theorem meth_Err (a : Addr) (w : World) : (method 332 76 (.pointer (some a)) "Err").run Tryz.prog w = .ok (163, .pointer (some a)) w := by kernel_rfl
theorem meth_Load (a : Addr) (w : World) : (method 332 76 (.pointer (some a)) "Load").run Tryz.prog w = .ok (82, .pointer (some a)) w := by kernel_rfl
theorem meth_Store (a : Addr) (w : World) : (method 332 76 (.pointer (some a)) "Store").run Tryz.prog w = .ok (54, .pointer (some a)) w := by kernel_rfl
theorem meth_Flush (a : Addr) (w : World) : (method 332 76 (.pointer (some a)) "Flush").run Tryz.prog w = .ok (55, .pointer (some a)) w := by kernel_rfl
theorem meth_Fence (a : Addr) (w : World) : (method 332 76 (.pointer (some a)) "Fence").run Tryz.prog w = .ok (56, .pointer (some a)) w := by kernel_rfl

/-- k words of the node are read. -/
def RMid (w : World) (v : DV) (own : Nat → Option Role) (D : Dev) (j p k : Nat) (wr : World) : Prop :=
  IsDev wr v own D ∧ Blk wr w.heap.size #[.iface 76 (.pointer (some ⟨v.tb j, 0, none⟩)), .int .u64 p] 35 ∧
  Row wr (w.heap.size + 1) 30 135 (fun i => if i < 28 then .int .u64 (if i < k then D.cur (ptrOff p / 8 + i) else 0) else if i = 28 then .slice none 0 0 else .int .u64 0) ∧ Below w.heap.size w wr

theorem rmid_start (h : IsDev w v own D) (j p : Nat) : RMid w v own D j p 0 ((w.alloc (.cells #[.iface 76 (.pointer (some ⟨v.tb j, 0, none⟩)), .int .u64 p] 35)).alloc (.cells #[.int .u64 0, .int .u64 0, .int .u64 0, .int .u64 0, .int .u64 0, .int .u64 0, .int .u64 0, .int .u64 0, .int .u64 0, .int .u64 0, .int .u64 0, .int .u64 0, .int .u64 0, .int .u64 0, .int .u64 0, .int .u64 0, .int .u64 0, .int .u64 0, .int .u64 0, .int .u64 0, .int .u64 0, .int .u64 0, .int .u64 0, .int .u64 0, .int .u64 0, .int .u64 0, .int .u64 0, .int .u64 0, .slice none 0 0, .int .u64 0] 135)) := by
  refine ⟨(h.alloc _).alloc _, (Blk.new w _ _).alloc _, ?_, ((Below.refl _ _).alloc (Nat.le_refl _) _).alloc (by simp) _⟩
  have := Row.new (w.alloc (.cells #[.iface 76 (.pointer (some ⟨v.tb j, 0, none⟩)), .int .u64 p] 35)) #[.int .u64 0, .int .u64 0, .int .u64 0, .int .u64 0, .int .u64 0, .int .u64 0, .int .u64 0, .int .u64 0, .int .u64 0, .int .u64 0, .int .u64 0, .int .u64 0, .int .u64 0, .int .u64 0, .int .u64 0, .int .u64 0, .int .u64 0, .int .u64 0, .int .u64 0, .int .u64 0, .int .u64 0, .int .u64 0, .int .u64 0, .int .u64 0, .int .u64 0, .int .u64 0, .int .u64 0, .int .u64 0, .slice none 0 0, .int .u64 0] 135 30 (fun i => if i < 28 then .int .u64 (if i < 0 then D.cur (ptrOff p / 8 + i) else 0) else if i = 28 then .slice none 0 0 else .int .u64 0) (fun i hi => by
    by_cases h1 : i < 28
    · rw [if_pos h1, if_neg (Nat.not_lt_zero _)]
      have : i = 0 ∨ i = 1 ∨ i = 2 ∨ i = 3 ∨ i = 4 ∨ i = 5 ∨ i = 6 ∨ i = 7 ∨ i = 8 ∨ i = 9 ∨ i = 10 ∨ i = 11 ∨ i = 12 ∨ i = 13 ∨ i = 14 ∨ i = 15 ∨ i = 16 ∨ i = 17 ∨ i = 18 ∨ i = 19 ∨ i = 20 ∨ i = 21 ∨ i = 22 ∨ i = 23 ∨ i = 24 ∨ i = 25 ∨ i = 26 ∨ i = 27 := by omega
      rcases this with rfl | rfl | rfl | rfl | rfl | rfl | rfl | rfl | rfl | rfl | rfl | rfl | rfl | rfl | rfl | rfl | rfl | rfl | rfl | rfl | rfl | rfl | rfl | rfl | rfl | rfl | rfl | rfl <;> rfl
    · rw [if_neg h1]
      have : i = 28 ∨ i = 29 := by omega
      rcases this with rfl | rfl <;> rfl)
  rw [World.size_alloc] at this
  exact this

theorem rmid_step {j p k : Nat} {wr wx : World} (h : RMid w v own D j p k wr) (hk : k < 28) {q : Nat} (hx : wx = ((wr.setCell ⟨w.heap.size + 1, k, none⟩ (.int .u64 (D.cur q))).alloc (.cells #[.iface 76 (.pointer (some ⟨v.tb j, 0, none⟩)), .int .u64 p] 35)).drew) (hq : q = ptrOff p / 8 + k)
    (hown : own (w.heap.size + 1) = none) : RMid w v own D j p (k + 1) wx := by
  subst hx hq
  obtain ⟨h1, h2, h3, h4⟩ := h
  refine ⟨?_, ?_, ?_, ?_⟩
  · refine ((h1.kept (w' := wr.setCell ⟨w.heap.size + 1, k, none⟩ (.int .u64 (D.cur (ptrOff p / 8 + k)))) (by simp [World.setCell]) (fun b hb => Below.heap_setCell _ _ _ _ (fun e => ?_))).alloc _).drew
    have e' : b = w.heap.size + 1 := e
    rw [e', hown] at hb; exact hb rfl
  · exact (h2.other (a := ⟨w.heap.size + 1, k, none⟩) (by show w.heap.size ≠ w.heap.size + 1; omega) _).alloc _
  · refine ((h3.set k _).alloc _).congr (fun i hi => ?_)
    by_cases e : i = k
    · subst e; rw [if_pos rfl, if_pos hk, if_pos (Nat.lt_succ_self _)]
    · rw [if_neg e]
      by_cases e1 : i < 28
      · rw [if_pos e1, if_pos e1]
        by_cases e2 : i < k
        · rw [if_pos e2, if_pos (by omega)]
        · rw [if_neg e2, if_neg (by omega)]
      · rw [if_neg e1, if_neg e1]
  · exact ((h4.setCell (p := ⟨w.heap.size + 1, k, none⟩) (by show w.heap.size ≤ w.heap.size + 1; omega) _).alloc (by have := h4.size; simp [World.setCell]; exact this) _).drew

/-- What Leaf.read leaves where the words can be read. -/
def ReadPost (w : World) (W : Nat → Int) (size : Nat) (r : Ending) (w' : World) : Prop :=
  Below w.heap.size w w' ∧
  (((parseOk (W 0).toNat ∧ validC W (slotsN (W 0).toNat ((W 0).toNat % 16)) size) ∧ ∃ cb, r = .returned (.tuple #[.pointer (some ⟨cb, 0, none⟩), .int .i64 0]) ∧ w.heap.size ≤ cb ∧
      IsCont w' cb W (slotsN (W 0).toNat ((W 0).toNat % 16)) ((W 0).toNat / 4503599627370496)) ∨
   (¬ (parseOk (W 0).toNat ∧ validC W (slotsN (W 0).toNat ((W 0).toNat % 16)) size) ∧ r = .returned (.tuple #[.pointer none, .int .i64 11])))

theorem read_cont {j p x0 : Nat} {wr w1 : World} (h : RMid w v own D j p 28 wr) (hb : Below wr.heap.size wr w1) {sv : Value} (ho : OwnSl w1 3 1 sv (x0 % 16) (natsI (slotsN x0 (x0 % 16)))) (hg : ∀ g, sv.ownBlock = some g → wr.heap.size ≤ g)
    (hok : parseOk x0) {wx : World} {c : Int} (hx : wx = (w1.setCell ⟨w.heap.size + 1, 28, none⟩ sv).setCell ⟨w.heap.size + 1, 29, none⟩ (.int .u64 c)) (_hx0 : D.cur (ptrOff p / 8) = x0) (hc : c = (x0 : Int) / 4503599627370496) :
    IsCont wx (w.heap.size + 1) (fun i => D.cur (ptrOff p / 8 + i)) (slotsN x0 (x0 % 16)) (x0 / 4503599627370496) := by
  subst hx hc
  obtain ⟨h1, h2, h3, h4⟩ := h
  have hlt := h3.lt
  have hr := h3.below hb
  have hr2 := (hr.set 28 sv).set 29 (.int .u64 ((x0 : Int) / 4503599627370496))
  have hne : ∀ g, sv.ownBlock = some g → g ≠ w.heap.size + 1 := fun g hg' => by have := hg g hg'; omega
  have hsl := (ho.other (a := ⟨w.heap.size + 1, 28, none⟩) hne sv).other (a := ⟨w.heap.size + 1, 29, none⟩) hne (.int .u64 ((x0 : Int) / 4503599627370496))
  have hc28 := hr2.cell (i := 28) (by omega)
  rw [if_neg (by omega), if_pos rfl] at hc28
  refine ⟨fun i hi => ?_, ⟨sv, ?_, ?_⟩, ?_, ?_, ?_, by obtain ⟨c, hc, _⟩ := hr2; exact ⟨c, hc⟩, fun sv' hsv g hg => ?_⟩
  · rw [hr2.cell (by omega), if_neg (by omega), if_neg (by omega), if_pos hi, if_pos hi]
  · rw [hr2.cell (by omega)]; simp
  · have hl : (slotsN x0 (x0 % 16)).length = x0 % 16 := by simp [slotsN]
    rw [hl]
    have hne : ∀ g, sv.ownBlock = some g → g ≠ w.heap.size + 1 := fun g hg' => by have := hg g hg'; omega
    exact ((ho.other (a := ⟨w.heap.size + 1, 28, none⟩) hne _).other (a := ⟨w.heap.size + 1, 29, none⟩) hne _).rd
  · rw [hr2.cell (by omega), if_pos rfl]; congr 2
  · intro s hs
    simp only [slotsN, List.mem_map, List.mem_range] at hs
    obtain ⟨i, hi, rfl⟩ := hs
    exact ((hok.2 i (by have := hok.1; omega)).2 hi).1
  · simp [slotsN]; exact hok.1
  · rw [hc28] at hsv
    cases hsv
    rcases hsl.2 with ⟨rfl, _⟩ | ⟨g', o, cap, cur, rfl, hg', _⟩
    · simp [Value.ownBlock] at hg
    · simp [Value.ownBlock] at hg; subst hg; exact ⟨cur, hg'⟩

theorem read_end {j p : Nat} {wr w1 w2 wx : World} (h : RMid w v own D j p 28 wr) (hb : Below wr.heap.size wr w1) {sv u : Value} (hq : Qt wx w2) (hx : wx = (w1.setCell ⟨w.heap.size + 1, 28, none⟩ sv).setCell ⟨w.heap.size + 1, 29, none⟩ u) : Below w.heap.size w w2 := by
  subst hx
  have h1 : Below w.heap.size w w1 := h.2.2.2.trans (hb.mono h.2.2.2.size)
  have h2 := (h1.setCell (p := ⟨w.heap.size + 1, 28, none⟩) (by show w.heap.size ≤ w.heap.size + 1; omega) sv).setCell (p := ⟨w.heap.size + 1, 29, none⟩) (by show w.heap.size ≤ w.heap.size + 1; omega) u
  obtain ⟨n, rfl⟩ := hq
  exact ⟨h2.os, h2.tape, h2.output, h2.size, h2.block⟩

set_option maxRecDepth 100000 in
set_option maxHeartbeats 2000000 in
theorem read_good (h : IsDev w v own D) {j : Nat} (hj : j < 8) (p : Nat) (hp : p < 18446744073709551616) (hp0 : 0 < p) (ho : D.off = false) (he : D.err j = 0) (hr : ptrOff p + 224 ≤ 64 * D.n)
    (hW : ∀ i, i < 28 → 0 ≤ D.cur (ptrOff p / 8 + i) ∧ D.cur (ptrOff p / 8 + i) < 18446744073709551616) :
    Calls Tryz.prog 62 #[leafV v j p] w (ReadPost w (fun i => D.cur (ptrOff p / 8 + i)) (D.n * 64)) := by
  have hn := h.wf.le
  obtain ⟨x0, hx00⟩ : ∃ x0 : Nat, D.cur (ptrOff p / 8) = x0 := ⟨(D.cur (ptrOff p / 8)).toNat, by have := hW 0 (by omega); simp only [Nat.add_zero] at this; omega⟩
  have hx0 : x0 < 18446744073709551616 := by have := hW 0 (by omega); simp only [Nat.add_zero] at this; omega
  have HX := Lib.hid hx00; have HW := Lib.hid hW; clear hx00 hW
  have hp0' : ((p : Int) == 0) = false := by simp; omega
  have h1 : ¬ ((D.n : Int) * 64 < 224) := by omega
  have h2 : ¬ ((D.n : Int) * 64 - 224 < (ptrOff p : Int)) := by omega
  have hm1 := meth_Size ⟨v.tb j, 0, none⟩; have hm2 := meth_Err ⟨v.tb j, 0, none⟩; have hm3 := meth_Load ⟨v.tb j, 0, none⟩
  have H := Lib.hid h; have HO := Lib.hid ho; have HE := Lib.hid he; clear h ho he
  have HP := Lib.hid (fun wx => ptrOff_any (w := wx) p hp)
  have herr : ∀ wx, IsDev wx v own D → Calls Tryz.prog 163 #[.pointer (some ⟨v.tb j, 0, none⟩)] wx fun r w' => r = .returned (.int .i64 0) ∧ wx = w' := fun wx hx => by have := err_any hx hj; rw [HE.out] at this; exact this
  have HR := Lib.hid herr; clear herr
  unfold leafV
  go_enter Tryz.func62, Tryz.ntmps62
  go_wp2_with fail
  (with_reducible refine (thrSize_any (H.out.alloc _) hj).mono ?_)
  rintro e w' ⟨rfl, rfl⟩
  go_wp2_with fail
  (with_reducible refine (HP.out _).mono ?_)
  rintro e w' ⟨rfl, rfl⟩
  go_wp2_with fail
  (with_reducible refine (HR.out _ (H.out.alloc _)).mono ?_)
  rintro e w' ⟨rfl, rfl⟩
  go_wp2_with fail
  have M0 := Lib.hid (rmid_start H.out j p)
  have Hown : Hid (own (w.heap.size + 1) = none) := by
    show own (w.heap.size + 1) = none
    cases ho : own (w.heap.size + 1) with
    | none => rfl
    | some r => have := H.out.lt (w.heap.size + 1) (by rw [ho]; simp); omega
  go_loopw [40] (fun x wr => ∃ k : Nat, k ≤ 28 ∧ x = .int .i64 k ∧ RMid w v own D j p k wr) (fun x _ => 28 - (intOf x).toNat)
  case atStart => exact ⟨0, by omega, rfl, M0.out⟩
  case round =>
    obtain ⟨k, hk, rfl, hmid⟩ := hrel
    have HM := Lib.hid hmid
    by_cases hlt : k < 28
    · have c0 : wr.cell? ⟨w.heap.size, 0, none⟩ = some (.iface 76 (.pointer (some ⟨v.tb j, 0, none⟩))) := hmid.2.1.cell rfl
      have c1 : wr.cell? ⟨w.heap.size, 1, none⟩ = some (.int .u64 p) := hmid.2.1.cell rfl
      have c2 : ∃ u, wr.cell? ⟨w.heap.size + 1, k, none⟩ = some u := ⟨_, hmid.2.2.1.cell (by omega)⟩
      have f2 := hmid.2.2.1.frozen k
      have s0 : w.heap.size < wr.heap.size := hmid.2.1.lt
      have s1 : w.heap.size + 1 < wr.heap.size := hmid.2.2.1.lt
      have hk28 : (k : Int) < 28 := by omega
      obtain ⟨u2, c2⟩ := c2
      have HD := Lib.hid hmid.1
      clear hmid
      have HL := Lib.hid (fun wx (hx : IsDev wx v own D) => load_ok hx hj (ptrOff p + 8 * k) HO.out (by unfold ptrOff; omega) (by omega))
      have HQ : Hid ((ptrOff p + 8 * k) / 8 = ptrOff p / 8 + k) := by show (ptrOff p + 8 * k) / 8 = _; unfold ptrOff; omega
      go_upto_block 1 with fail
      go_cut [] (fun wx => RMid w v own D j p (k + 1) wx)
      case first =>
        go_wp2_with fail
        go_region_with (first | (go_at_call 68; refine (leafAt_any _ p k hp (by omega) (.inr ⟨_, _, rfl⟩)).mono ?_; rintro e w' ⟨rfl, rfl⟩) | (go_at_call 82; refine (HL.out _ ?hd).mono ?_; (case hd => first | exact (HD.out.alloc _).drew | exact HD.out.drew); rintro e w' ⟨rfl, rfl⟩))
        all_goals go_wp2_with fail
        all_goals go_meet
        all_goals exact rmid_step HM.out hlt rfl HQ.out Hown.out
      case rest =>
        have HM1 := Lib.hid hcut
        clear hcut c0 c1 c2 f2
        go_wp2_with fail
        go_roundw
        case rel => exact ⟨k + 1, by omega, by go_num, HM1.out⟩
        case measure => simp [intOf]; omega
    · obtain rfl : k = 28 := by omega
      rw [show ((28 : Nat) : Int) = 28 from rfl]
      have c0 : wr.cell? ⟨w.heap.size, 0, none⟩ = some (.iface 76 (.pointer (some ⟨v.tb j, 0, none⟩))) := hmid.2.1.cell rfl
      have c2 : wr.cell? ⟨w.heap.size + 1, 0, none⟩ = some (.int .u64 x0) := by rw [hmid.2.2.1.cell (by omega)]; simp [HX.out]
      have HD := Lib.hid hmid.1
      clear hmid hlt
      go_wp2_with fail
      (with_reducible refine (HR.out _ HD.out).mono ?_)
      rintro e w' ⟨rfl, rfl⟩
      go_wp2_with fail
      (with_reducible refine (parse_any x0 hx0).mono ?_)
      rintro e w1 hpp
      have hbl := hpp.1
      have s1 : w.heap.size + 1 < wr.heap.size := HM.out.2.2.1.lt
      have r1 := HM.out.2.2.1
      have d0 : w1.cell? ⟨w.heap.size + 1, 0, none⟩ = some (.int .u64 x0) := (hbl.cell (p := ⟨w.heap.size + 1, 0, none⟩) s1).trans c2
      have d28 : w1.cell? ⟨w.heap.size + 1, 28, none⟩ = some (.slice none 0 0) := (hbl.cell (p := ⟨w.heap.size + 1, 28, none⟩) s1).trans (by rw [r1.cell (by omega)]; simp)
      have d29 : w1.cell? ⟨w.heap.size + 1, 29, none⟩ = some (.int .u64 0) := (hbl.cell (p := ⟨w.heap.size + 1, 29, none⟩) s1).trans (by rw [r1.cell (by omega)]; simp)
      have f28 : w1.frozen? ⟨w.heap.size + 1, 28, none⟩ = false := (hbl.frozen (p := ⟨w.heap.size + 1, 28, none⟩) s1).trans (r1.frozen 28)
      have f29 : w1.frozen? ⟨w.heap.size + 1, 29, none⟩ = false := (hbl.frozen (p := ⟨w.heap.size + 1, 29, none⟩) s1).trans (r1.frozen 29)
      have HB := Lib.hid hbl
      clear hbl r1 c0 c2
      rcases hpp.2 with ⟨hok, sv, rfl, ho, hg⟩ | ⟨hbad, rfl⟩
      · obtain ⟨sa, sc, hsv⟩ := ho.slice
        subst hsv
        have HOK := Lib.hid hok; have HS := Lib.hid (And.intro ho hg)
        clear hok ho hg hpp
        go_wp2_with fail
        have hcont := read_cont HM.out HB.out HS.out.1 HS.out.2 HOK.out rfl HX.out rfl
        have hv := valid_any hcont (D.n * 64) HW.out
        rw [show ((D.n * 64 : Nat) : Int) = (D.n : Int) * 64 from by omega] at hv
        have HC := Lib.hid hcont; clear hcont
        (with_reducible refine hv.mono ?_)
        rintro e w2 ⟨b, rfl, hb, hq⟩
        have HF := Lib.hid (read_end HM.out HB.out hq rfl)
        have HC2 := Lib.hid (HC.out.qt hq)
        have HVB := Lib.hid hb
        clear hv hq hb
        cases b
        · go_wp2_with fail
          go_ret2
          refine ⟨HF.out, .inr ⟨?_, rfl⟩⟩
          simp only [Nat.add_zero]
          rw [HX.out, Int.toNat_natCast]; exact fun h => Bool.false_ne_true (HVB.out.2 h.2)
        · go_wp2_with fail
          go_ret2
          refine ⟨HF.out, .inl ?_⟩
          simp only [Nat.add_zero]
          rw [HX.out, Int.toNat_natCast]
          exact ⟨⟨HOK.out, HVB.out.1 trivial⟩, _, rfl, Nat.le_succ _, HC2.out⟩
      · have HN : Hid (¬ (parseOk (D.cur (ptrOff p / 8)).toNat ∧ validC (fun i => D.cur (ptrOff p / 8 + i)) (slotsN (D.cur (ptrOff p / 8)).toNat ((D.cur (ptrOff p / 8)).toNat % 16)) (D.n * 64))) := by
          show ¬ _
          rw [HX.out, Int.toNat_natCast]; exact fun h => hbad h.1
        clear hbad hpp
        go_wp2_with fail
        go_ret2
        exact ⟨read_end HM.out HB.out (Qt.refl _) rfl, .inr ⟨HN.out, rfl⟩⟩
end
end Go.Proofs.YtgdcjedcinapdaaGreat
