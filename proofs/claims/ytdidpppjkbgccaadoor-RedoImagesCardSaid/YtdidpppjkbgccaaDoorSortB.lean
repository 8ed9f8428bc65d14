/- The walks of the quicksort's small functions: reversal, the breaking of patterns, the choice of a pivot. -/
import Derived.Test.YtdidpppjkbgccaaDoorSortA
import Derived.Test.YtdidpppjkbgccaaDoorSortP
import Derived.Laws.Closers25b
import Derived.Laws.Bits64b
import Derived.Lib.ItoaNum
namespace Go.Proofs.YtdidpppjkbgccaaDoor
open Go.RowKit

section
variable {w : World}
/-- Between two places the slice is mixed; nothing else has changed. -/
structure MixSt (w : World) (g o c : Nat) (xs : List Int) (a b : Nat) (ys : List Int) (wr : World) : Prop where
  mix : Mixed xs ys a b
  own : WrU wr g o c ys
  upd : Upd (fun k => k = g) w wr
variable {g o c a b : Nat} {xs ys zs : List Int} {wr : World}
theorem MixSt.refl (h : WrU w g o c xs) (a b : Nat) : MixSt w g o c xs a b xs w := ⟨Mixed.refl _ _ _, h, Upd.refl _ _⟩
theorem MixSt.len (h : MixSt w g o c xs a b ys wr) : ys.length = xs.length := h.mix.len
theorem MixSt.drew (h : MixSt w g o c xs a b ys wr) : MixSt w g o c xs a b ys wr.drew := ⟨h.mix, h.own.drew, h.upd.drew⟩
theorem MixSt.drewN (h : MixSt w g o c xs a b ys wr) (n : Nat) : MixSt w g o c xs a b ys (wr.drewN n) := ⟨h.mix, h.own.drewN n, ⟨h.upd.os, h.upd.tape, h.upd.output, h.upd.size, h.upd.block⟩⟩
theorem MixSt.swap (h : MixSt w g o c xs a b ys wr) (i j : Nat) (h1 : a ≤ i) (h2 : i < b) (h3 : a ≤ j) (h4 : j < b) (hb : b ≤ xs.length) :
    MixSt w g o c xs a b (swp ys i j) ((wr.setCell ⟨g, o + i, none⟩ (.int .u64 (at0 ys j))).setCell ⟨g, o + j, none⟩ (.int .u64 (at0 ys i))).drew := by
  have hl := h.len
  refine ⟨h.mix.trans (swp_mixed ys i j a b (by omega) (by omega) h1 h2 h3 h4), ?_, ((h.upd.setCell (p := ⟨g, o + i, none⟩) (fun _ => rfl) _).setCell (p := ⟨g, o + j, none⟩) (fun _ => rfl) _).drew⟩
  exact ((h.own.set i (by omega) _).set j (by rw [List.length_set]; omega) _).drew
theorem MixSt.trans {w1 w2 : World} (h : MixSt w g o c xs a b ys w1) (k : MixSt w1 g o c ys a b zs w2) : MixSt w g o c xs a b zs w2 := ⟨h.mix.trans k.mix, k.own, h.upd.trans k.upd (fun _ _ h => h)⟩
theorem MixSt.mono {a' b' : Nat} (h : MixSt w g o c xs a b ys wr) (h1 : a' ≤ a) (h2 : b ≤ b') : MixSt w g o c xs a' b' ys wr := ⟨h.mix.mono h1 h2, h.own, h.upd⟩
theorem MixSt.later {w1 : World} (h : MixSt w g o c xs a b ys wr) (hb : Upd (fun _ => False) wr w1) : MixSt w g o c xs a b ys w1 := ⟨h.mix, h.own.upd hb (fun f => f), h.upd.trans hb (fun _ _ f => f.elim)⟩
theorem swp_self (l : List Int) (i : Nat) (hi : i < l.length) : swp l i i = l := list_eq_at0 (swp_length l i i) fun k _ => by
  rw [at0_swp l i i k hi hi]; by_cases e : k = i
  · rw [if_pos e, e]
  · rw [if_neg e, if_neg e]

set_option maxRecDepth 100000 in
set_option maxHeartbeats 2000000 in
theorem reverse_any (h : WrU w g o c xs) (hab : a < b) (hb : b ≤ xs.length) (hs : xs.length ≤ 4611686018) :
    Calls Tryd.prog 76 #[.slice (some ⟨g, o, none⟩) xs.length c, .int .i64 a, .int .i64 b] w fun r w' => r = .returned (.tuple #[]) ∧ ∃ ys, MixSt w g o c xs a b ys w' := by
  have hm := h.le
  unfold maxLen at hm
  have H := Lib.hid (MixSt.refl h a b); clear h
  generalize hn : xs.length = n at *
  have HN := Lib.hid hn; clear hn
  go_enter Tryd.func76, Tryd.ntmps76
  go_wp2_with fail
  go_loopw [6, 7] (fun x y wr => ∃ i j : Nat, a ≤ i ∧ i ≤ b ∧ j < b ∧ a ≤ j + 1 ∧ x = .int .i64 i ∧ y = .int .i64 j ∧ ∃ ys, MixSt w g o c xs a b ys wr) (fun x _ _ => b - (intOf x).toNat)
  case atStart => exact ⟨a, b - 1, by omega, by omega, by omega, by omega, rfl, by rw [show ((b - 1 : Nat) : Int) = (b : Int) - 1 by omega], xs, H.out⟩
  case round =>
    obtain ⟨i, j, hi1, hi2, hj1, hj2, rfl, rfl, ys, hM⟩ := hrel
    have hyl : ys.length = n := by rw [hM.len, HN.out]
    have M := Lib.hid hM
    by_cases hlt : i < j
    · have hlt' : (i : Int) < j := by omega
      have c1 := hM.own.cell i (by omega); have c2 := hM.own.cell j (by omega)
      have f1 := hM.own.frozen (o + i); have f2 := hM.own.frozen (o + j)
      have hg := hM.own.lt
      have hne : ¬ o + j = o + i := by omega
      clear hM hyl H
      go_wp2_with fail
      go_region
      all_goals go_wp2_with fail
      all_goals
        go_roundw
        case rel => exact ⟨i + 1, j - 1, by omega, by omega, by omega, by omega, by go_num, by rw [show ((j - 1 : Nat) : Int) = (j : Int) - 1 by omega], _, M.out.swap i j (by omega) (by omega) (by omega) hj1 (by rw [HN.out]; exact hb)⟩
        case measure => simp [intOf]; omega
    · clear hM hyl H
      go_wp2_with fail
      go_end0
      exact ⟨rfl, ys, M.out⟩

set_option maxRecDepth 100000 in
set_option maxHeartbeats 2000000 in
theorem xorNext_any (q t : Nat) (x : Int) (h : Blk w q #[.int .u64 x] t) :
    Calls Tryd.prog 85 #[.pointer (some ⟨q, 0, none⟩)] w fun r w' => ∃ y z : Int, r = .returned (.int .u64 y) ∧ 0 ≤ y ∧ y ≤ 18446744073709551615 ∧ Blk w' q #[.int .u64 z] t ∧ Upd (fun k => k = q) w w' := by
  have c0 : w.cell? ⟨q, 0, none⟩ = some (.int .u64 x) := h.cell rfl
  have f0 := h.frozen 0
  have B0 := Lib.hid h
  have U0 := Lib.hid (Upd.refl (fun k => k = q) w); clear h
  go_enter Tryd.func85, Tryd.ntmps85
  go_wp2_with fail
  all_goals go_region
  all_goals go_wp2_with fail
  all_goals
    have X := Lib.hid (And.intro (Go.bits_lo_u64 .xor x (IntKind.u64.wrap (x * 8192))) (Go.bits_hi_u64 .xor x (IntKind.u64.wrap (x * 8192))))
    generalize bits BinOp.xor IntKind.u64 x (IntKind.u64.wrap (x * 8192)) = x1 at *
    have B1 := Lib.hid ((B0.out.set 0 (.int .u64 x1)).drew)
    have U1 := Lib.hid ((U0.out.setCell (p := ⟨q, 0, none⟩) (fun _ => rfl) (.int .u64 x1)).drew)
    generalize ((w.setCell ⟨q, 0, none⟩ (.int .u64 x1)).drew) = w1 at *
    clear c0 f0
    have c1 : w1.cell? ⟨q, 0, none⟩ = some (.int .u64 x1) := B1.out.cell rfl
    have f1 := B1.out.frozen 0
  all_goals go_region
  all_goals go_wp2_with fail
  all_goals
    have X := Lib.hid (And.intro (Go.bits_lo_u64 .xor x1 (x1 / 128)) (Go.bits_hi_u64 .xor x1 (x1 / 128)))
    generalize bits BinOp.xor IntKind.u64 x1 (x1 / 128) = x2 at *
    have B2 := Lib.hid ((B1.out.set 0 (.int .u64 x2)).drew)
    have U2 := Lib.hid ((U1.out.setCell (p := ⟨q, 0, none⟩) (fun _ => rfl) (.int .u64 x2)).drew)
    generalize ((w1.setCell ⟨q, 0, none⟩ (.int .u64 x2)).drew) = w2 at *
    clear c1 f1
    have c2 : w2.cell? ⟨q, 0, none⟩ = some (.int .u64 x2) := B2.out.cell rfl
    have f2 := B2.out.frozen 0
  all_goals go_region
  all_goals go_wp2_with fail
  all_goals
    have X := Lib.hid (And.intro (Go.bits_lo_u64 .xor x2 (IntKind.u64.wrap (x2 * 131072))) (Go.bits_hi_u64 .xor x2 (IntKind.u64.wrap (x2 * 131072))))
    generalize bits BinOp.xor IntKind.u64 x2 (IntKind.u64.wrap (x2 * 131072)) = x3 at *
    have B3 := Lib.hid ((B2.out.set 0 (.int .u64 x3)).drew)
    have U3 := Lib.hid ((U2.out.setCell (p := ⟨q, 0, none⟩) (fun _ => rfl) (.int .u64 x3)).drew)
    generalize ((w2.setCell ⟨q, 0, none⟩ (.int .u64 x3)).drew) = w3 at *
    clear c2 f2
    have c3 : w3.cell? ⟨q, 0, none⟩ = some (.int .u64 x3) := B3.out.cell rfl
    have f3 := B3.out.frozen 0
  all_goals go_ret
  all_goals exact ⟨_, _, rfl, X.out.1, X.out.2, B3.out, U3.out⟩

theorem pow_len (n : Nat) (h0 : 0 < n) (hn : n ≤ 100000) : ∃ m : Nat, IntKind.u64.wrap (2 ^ min (Lib.bitLen n) 64) = m ∧ n < m ∧ m ≤ 2 * n := by
  have hb := Lib.bitLenAux_bounds 64 n (by omega) (by omega)
  have e : Lib.bitLen n = Lib.bitLenAux 64 n := rfl
  rw [e]
  generalize Lib.bitLenAux 64 n = L at *
  obtain ⟨h1, h2, h3⟩ := hb
  have h4 : 2 ^ L = 2 * 2 ^ (L - 1) := by
    obtain ⟨k, rfl⟩ : ∃ k, L = k + 1 := ⟨L - 1, by omega⟩
    rw [Nat.pow_succ]; simp; omega
  have hL : L ≤ 64 := by
    rcases Nat.lt_or_ge 64 L with h | h
    · have : 2 ^ 64 ≤ 2 ^ (L - 1) := Nat.pow_le_pow_right (by omega) (by omega)
      omega
    · exact h
  refine ⟨2 ^ L, ?_, h3, by omega⟩
  rw [Nat.min_eq_left hL]
  have h5 : ((2 : Int) ^ L) = ((2 ^ L : Nat) : Int) := by simp
  rw [h5]
  exact IntWalk.u64_in _ (by omega)
set_option maxRecDepth 100000 in
set_option maxHeartbeats 2000000 in
theorem nextPow_any (n : Nat) (h0 : 0 < n) (hn : n ≤ 100000) : Calls Tryd.prog 84 #[.int .i64 n] w fun r w' => ∃ m : Nat, r = .returned (.int .u64 m) ∧ n < m ∧ m ≤ 2 * n ∧ w = w' := by
  have hb := Lib.hid (pow_len n h0 hn)
  have HL := Lib.hid (Tryd.bits_Len n w (by omega) (by omega))
  go_enter Tryd.func84, Tryd.ntmps84
  go_wp2_with fail
  (with_reducible refine HL.out.mono ?_)
  rintro e w' ⟨rfl, rfl⟩
  go_wp2_with fail
  go_ret
  obtain ⟨m, h1, h2, h3⟩ := hb.out
  exact ⟨m, by rw [← h1]; rfl, h2, h3, rfl⟩

set_option maxRecDepth 100000 in
set_option maxHeartbeats 2000000 in
theorem breakPatterns_any (h : WrU w g o c xs) (hab : a + 8 ≤ b) (hb : b ≤ xs.length) (hs : xs.length ≤ 100000) :
    Calls Tryd.prog 74 #[.slice (some ⟨g, o, none⟩) xs.length c, .int .i64 a, .int .i64 b] w fun r w' => r = .returned (.tuple #[]) ∧ ∃ ys, MixSt w g o c xs a b ys w' := by
  have hm := h.le
  unfold maxLen at hm
  have hgs := h.lt
  have H := Lib.hid (MixSt.refl h a b); clear h
  generalize hn : xs.length = n at *
  have HN := Lib.hid hn; clear hn
  obtain ⟨l, hl⟩ : ∃ l : Nat, b = a + l := ⟨b - a, by omega⟩
  subst hl
  have hl8 : (8 : Int) ≤ l := by omega
  have hq : (a : Int) + l - a = l := by omega
  have HP := Lib.hid (fun wx => nextPow_any (w := wx) l (by omega) (by omega))
  have HX := Lib.hid (fun wx q t x (hx : Blk wx q #[.int .u64 x] t) => xorNext_any q t x hx)
  have hq4 : ((l : Int) / 4 * 2) = ((l / 4 * 2 : Nat) : Int) := by omega
  generalize hd : l / 4 * 2 = d at *
  have hd1 : 4 ≤ d ∧ 2 * d ≤ l ∧ l ≤ 2 * d + 6 := by omega
  clear hd
  go_enter Tryd.func74, Tryd.ntmps74
  go_wp2_with fail
  (with_reducible refine (HP.out _).mono ?_)
  rintro e w1 ⟨m, rfl, hm1, hm2, rfl⟩
  go_wp2_with fail
  go_loopw [9] (fun x wr => ∃ k : Nat, a + d ≤ k + 1 ∧ k ≤ a + d + 2 ∧ x = .int .i64 k ∧ (∃ y, Blk wr w.heap.size #[.int .u64 y] 155) ∧ ∃ ys, MixSt w g o c xs a (a + l) ys wr) (fun x _ => a + d + 3 - (intOf x).toNat)
  case atStart => exact ⟨a + d - 1, by omega, by omega, by rw [show ((a + d - 1 : Nat) : Int) = (a : Int) + d - 1 by omega], ⟨_, Blk.new w _ _⟩, xs, H.out.later ((Upd.refl _ _).alloc _)⟩
  case round =>
    obtain ⟨k, hk1, hk2, rfl, ⟨y, hy⟩, ys, hM⟩ := hrel
    have hyl : ys.length = n := by rw [hM.len, HN.out]
    have M := Lib.hid hM; have Y := Lib.hid hy
    clear hM hy
    by_cases hlt : k ≤ a + d + 1
    · have hlt' : (k : Int) ≤ a + d + 1 := by omega
      go_wp2_with fail
      (with_reducible refine (HX.out _ _ _ _ Y.out).mono ?_)
      rintro e w1 ⟨y1, z1, rfl, hy1, hy2, hB, hU⟩
      obtain ⟨yn, rfl⟩ : ∃ yn : Nat, y1 = yn := ⟨y1.toNat, by omega⟩
      obtain ⟨r, hr, hr2⟩ : ∃ r : Nat, bits .and .u64 (yn : Int) ((m : Int) - 1) = r ∧ r < m := ⟨yn &&& (m - 1), by
        have := bits_and_u64_nat yn (m - 1) (by omega) (by omega)
        rwa [show ((m - 1 : Nat) : Int) = (m : Int) - 1 by omega] at this, by have := @Nat.and_le_right yn (m - 1); omega⟩
      have M1 : Hid (MixSt w g o c xs a (a + l) ys w1) := ⟨M.out.mix, M.out.own.upd hU (fun e => by omega), M.out.upd.trans hU (fun i h1 h2 => by omega)⟩
      have Y1 := Lib.hid hB
      clear hB hU hy1 hy2 M Y H
      by_cases hrl : r < l
      · have hrl' : ¬ (l : Int) ≤ r := by omega
        have c1 := M1.out.own.cell k (by omega); have c2 := M1.out.own.cell (a + r) (by omega)
        have hg := M1.out.own.lt
        by_cases he : k = a + r
        · subst he
          have f1 := M1.out.own.frozen (o + (a + r))
          go_wp2_with fail
          go_region
          all_goals go_wp2_with fail
          all_goals
            go_roundw
            case rel => exact ⟨a + r + 1, by omega, by omega, by go_num, ⟨_, ((Y1.out.other (by simp; omega) _).other (by simp; omega) _).drew⟩, _, M1.out.swap (a + r) (a + r) (by omega) (by omega) (by omega) (by omega) (by rw [HN.out]; exact hb)⟩
            case measure => simp [intOf]; omega
        · have f1 := M1.out.own.frozen (o + k); have f2 := M1.out.own.frozen (o + (a + r))
          have hne : ¬ o + (a + r) = o + k := by omega
          go_wp2_with fail
          go_region
          all_goals go_wp2_with fail
          all_goals
            go_roundw
            case rel => exact ⟨k + 1, by omega, by omega, by go_num, ⟨_, ((Y1.out.other (by simp; omega) _).other (by simp; omega) _).drew⟩, _, M1.out.swap k (a + r) (by omega) (by omega) (by omega) (by omega) (by rw [HN.out]; exact hb)⟩
            case measure => simp [intOf]; omega
      · obtain ⟨q, hs0⟩ : ∃ q, q = r := ⟨r, rfl⟩; rw [← hs0] at hr hr2 hrl; clear hs0 r; obtain ⟨r, hs0⟩ : ∃ r, q = l + r := ⟨q - l, by omega⟩; subst hs0; have hrl' : (l : Int) ≤ (l : Int) + r := (by omega); have hsl : r < l := (by omega); have hq2 : (l : Int) + r - l = r := (by omega); clear hrl
        have c1 := M1.out.own.cell k (by omega); have c2 := M1.out.own.cell (a + r) (by omega)
        have hg := M1.out.own.lt
        by_cases he : k = a + r
        · subst he
          have f1 := M1.out.own.frozen (o + (a + r))
          go_wp2_with fail
          go_region
          all_goals go_wp2_with fail
          all_goals
            go_roundw
            case rel => exact ⟨a + r + 1, by omega, by omega, by go_num, ⟨_, ((Y1.out.other (by simp; omega) _).other (by simp; omega) _).drew⟩, _, M1.out.swap (a + r) (a + r) (by omega) (by omega) (by omega) (by omega) (by rw [HN.out]; exact hb)⟩
            case measure => simp [intOf]; omega
        · have f1 := M1.out.own.frozen (o + k); have f2 := M1.out.own.frozen (o + (a + r))
          have hne : ¬ o + (a + r) = o + k := by omega
          go_wp2_with fail
          go_region
          all_goals go_wp2_with fail
          all_goals
            go_roundw
            case rel => exact ⟨k + 1, by omega, by omega, by go_num, ⟨_, ((Y1.out.other (by simp; omega) _).other (by simp; omega) _).drew⟩, _, M1.out.swap k (a + r) (by omega) (by omega) (by omega) (by omega) (by rw [HN.out]; exact hb)⟩
            case measure => simp [intOf]; omega
    · have hlt' : ¬ (k : Int) ≤ a + d + 1 := by omega
      go_wp2_with fail
      go_end0
      exact ⟨rfl, ys, M.out⟩

/-- While a pivot is sought: the slice is as it was, and block q counts the exchanges. -/
structure PivSt (w : World) (g o c : Nat) (xs : List Int) (q : Nat) (m : Int) (wr : World) : Prop where
  own : WrU wr g o c xs
  ne : q ≠ g
  cnt : ∃ s : Int, 0 ≤ s ∧ s ≤ m ∧ Blk wr q #[.int .i64 s] 3
  upd : Upd (fun k => k = q) w wr
theorem PivSt.mono {q : Nat} {m m' : Int} (h : PivSt w g o c xs q m wr) (hm : m ≤ m') : PivSt w g o c xs q m' wr := by
  obtain ⟨h1, h2, ⟨s, h3, h4, h5⟩, h6⟩ := h; exact ⟨h1, h2, ⟨s, h3, by omega, h5⟩, h6⟩
theorem PivSt.drewN {q : Nat} {m : Int} (h : PivSt w g o c xs q m wr) (n : Nat) : PivSt w g o c xs q m (wr.drewN n) :=
  ⟨h.own.drewN n, h.ne, let ⟨s, h1, h2, h3⟩ := h.cnt; ⟨s, h1, h2, h3⟩, ⟨h.upd.os, h.upd.tape, h.upd.output, h.upd.size, h.upd.block⟩⟩
theorem PivSt.inc {q : Nat} {m s : Int} (h : PivSt w g o c xs q m wr) (h1 : 0 ≤ s) (h2 : s ≤ m) : PivSt w g o c xs q (m + 1) (wr.setCell ⟨q, 0, none⟩ (.int .i64 (s + 1))) := by
  obtain ⟨s', h3, h4, h5⟩ := h.cnt
  refine ⟨OwnSl.other h.own (fun k hk => by simp [Value.ownBlock] at hk; subst hk; exact fun e => h.ne e.symm) _, h.ne, ⟨s + 1, by omega, by omega, h5.set 0 _⟩, h.upd.setCell (fun _ => rfl) _⟩
set_option maxRecDepth 100000 in
set_option maxHeartbeats 2000000 in
theorem order2_any {q : Nat} {m : Int} (h : PivSt w g o c xs q m wr) (hm : m ≤ 100) (lo hi i j : Nat) (hi1 : lo ≤ i ∧ i < hi) (hj1 : lo ≤ j ∧ j < hi) (hh : hi ≤ xs.length) (_hs : xs.length ≤ 100000) :
    Calls Tryd.prog 89 #[.slice (some ⟨g, o, none⟩) xs.length c, .int .i64 i, .int .i64 j, .pointer (some ⟨q, 0, none⟩)] wr fun r w' => ∃ x y : Nat, r = .returned (.tuple #[.int .i64 x, .int .i64 y]) ∧ (lo ≤ x ∧ x < hi) ∧ (lo ≤ y ∧ y < hi) ∧ PivSt w g o c xs q (m + 1) w' := by
  have hle := h.own.le
  unfold maxLen at hle
  have c1 := h.own.cell i (by omega); have c2 := h.own.cell j (by omega)
  obtain ⟨s, s1, s2, s3⟩ := h.cnt
  have c3 : wr.cell? ⟨q, 0, none⟩ = some (.int .i64 s) := s3.cell rfl
  have f3 := s3.frozen 0
  have H := Lib.hid h; clear h s3
  generalize hn : xs.length = n at *
  clear hn
  have g1 : (i : Int) < n := by omega
  have g2 : (j : Int) < n := by omega
  by_cases hl : at0 xs j < at0 xs i
  · have hd : decide (at0 xs j < at0 xs i) = true := by simpa using hl
    have LQ := Lib.hid (less_is _ _ _ hd); clear hd hl
    go_enter Tryd.func89, Tryd.ntmps89
    go_wp2_with fail
    go_quiet ((go_at_call 78; exact Calls.quiet_of_same (LQ.out _)))
    go_wp2_with fail
    go_ret2
    exact ⟨j, i, rfl, hj1, hi1, (H.out.drewN _).inc s1 s2⟩
  · have hd : decide (at0 xs j < at0 xs i) = false := by simpa using hl
    have LQ := Lib.hid (less_is _ _ _ hd); clear hd hl
    go_enter Tryd.func89, Tryd.ntmps89
    go_wp2_with fail
    go_quiet ((go_at_call 78; exact Calls.quiet_of_same (LQ.out _)))
    go_wp2_with fail
    go_ret2
    exact ⟨i, j, rfl, hi1, hj1, (H.out.drewN _).mono (by omega)⟩
set_option maxRecDepth 100000 in
set_option maxHeartbeats 2000000 in
theorem median_any {q : Nat} {m : Int} (h : PivSt w g o c xs q m wr) (hm : m ≤ 90) (lo hi i j k : Nat) (hi1 : lo ≤ i ∧ i < hi) (hj1 : lo ≤ j ∧ j < hi) (hk1 : lo ≤ k ∧ k < hi) (hh : hi ≤ xs.length) (hs : xs.length ≤ 100000) :
    Calls Tryd.prog 87 #[.slice (some ⟨g, o, none⟩) xs.length c, .int .i64 i, .int .i64 j, .int .i64 k, .pointer (some ⟨q, 0, none⟩)] wr fun r w' => ∃ x : Nat, r = .returned (.int .i64 x) ∧ (lo ≤ x ∧ x < hi) ∧ PivSt w g o c xs q (m + 3) w' := by
  have HO := Lib.hid (fun wx (m' : Int) (i' j' : Nat) (hx : PivSt w g o c xs q m' wx) (hm' : m' ≤ 100) h1 h2 => order2_any hx hm' lo hi i' j' h1 h2 hh hs)
  have H := Lib.hid h; clear h
  generalize xs.length = n at *
  go_enter Tryd.func87, Tryd.ntmps87
  go_wp2_with fail
  (with_reducible refine (HO.out _ _ i j H.out (by omega) hi1 hj1).mono ?_)
  rintro e w1 ⟨x1, y1, rfl, hx1, hy1, p1⟩
  have P1 := Lib.hid p1; clear p1
  go_wp2_with fail
  (with_reducible refine (HO.out _ _ y1 k P1.out (by omega) hy1 hk1).mono ?_)
  rintro e w2 ⟨x2, y2, rfl, hx2, hy2, p2⟩
  have P2 := Lib.hid p2; clear p2
  go_wp2_with fail
  (with_reducible refine (HO.out _ _ x1 x2 P2.out (by omega) hx1 hx2).mono ?_)
  rintro e w3 ⟨x3, y3, rfl, hx3, hy3, p3⟩
  have P3 := Lib.hid p3; clear p3
  go_wp2_with fail
  go_ret
  exact ⟨y3, rfl, hy3, P3.out.mono (by omega)⟩
set_option maxRecDepth 100000 in
set_option maxHeartbeats 2000000 in
theorem medianAdjacent_any {q : Nat} {m : Int} (h : PivSt w g o c xs q m wr) (hm : m ≤ 90) (lo hi i : Nat) (hi1 : lo < i ∧ i + 1 < hi) (hh : hi ≤ xs.length) (hs : xs.length ≤ 100000) :
    Calls Tryd.prog 86 #[.slice (some ⟨g, o, none⟩) xs.length c, .int .i64 i, .pointer (some ⟨q, 0, none⟩)] wr fun r w' => ∃ x : Nat, r = .returned (.int .i64 x) ∧ (lo ≤ x ∧ x < hi) ∧ PivSt w g o c xs q (m + 3) w' := by
  have hM := median_any h hm lo hi (i - 1) i (i + 1) (by omega) (by omega) (by omega) hh hs
  rw [show ((i - 1 : Nat) : Int) = (i : Int) - 1 by omega, show ((i + 1 : Nat) : Int) = (i : Int) + 1 by omega] at hM
  have HM := Lib.hid hM; clear h hM
  generalize xs.length = n at *
  go_enter Tryd.func86, Tryd.ntmps86
  go_wp2_with fail
  (with_reducible refine HM.out.mono ?_)
  rintro e w1 ⟨x1, rfl, hx1, p1⟩
  have P1 := Lib.hid p1; clear p1
  go_wp2_with fail
  go_ret
  exact ⟨x1, rfl, hx1, P1.out⟩
theorem PivSt.start (h : WrU w g o c xs) : PivSt w g o c xs w.heap.size 0 (w.alloc (.cells #[.int .i64 0] 3)) :=
  ⟨h.upd (S := fun _ => False) ((Upd.refl _ _).alloc _) (fun f => f), by have := h.lt; omega, ⟨0, by omega, by omega, Blk.new _ _ _⟩, (Upd.refl _ _).alloc _⟩
set_option maxRecDepth 100000 in
set_option maxHeartbeats 4000000 in
theorem choosePivot_any (h : WrU w g o c xs) (hab : a + 8 ≤ b) (hb : b ≤ xs.length) (hs : xs.length ≤ 100000) :
    Calls Tryd.prog 75 #[.slice (some ⟨g, o, none⟩) xs.length c, .int .i64 a, .int .i64 b] w fun r w' => ∃ (x : Nat) (y : Int), r = .returned (.tuple #[.int .i64 x, .int .i64 y]) ∧ (a ≤ x ∧ x < b) ∧ (y = 0 ∨ y = 1 ∨ y = 2) ∧ Upd (fun _ => False) w w' := by
  have HA := Lib.hid (fun wx (m' : Int) (i' : Nat) (hx : PivSt w g o c xs w.heap.size m' wx) (hm' : m' ≤ 90) h1 => medianAdjacent_any hx hm' a b i' h1 hb hs)
  have HM := Lib.hid (fun wx (m' : Int) (i' j' k' : Nat) (hx : PivSt w g o c xs w.heap.size m' wx) (hm' : m' ≤ 90) h1 h2 h3 => median_any hx hm' a b i' j' k' h1 h2 h3 hb hs)
  have H := Lib.hid (PivSt.start h)
  have hgs := h.lt
  clear h
  generalize xs.length = n at *
  obtain ⟨l, hl⟩ : ∃ l : Nat, b = a + l := ⟨b - a, by omega⟩
  subst hl
  have hl8 : (8 : Int) ≤ l := by omega
  have hq : (a : Int) + l - a = l := by omega
  have hq4 : ((l : Int) / 4) = ((l / 4 : Nat) : Int) := by omega
  generalize hd : l / 4 = d at *
  have hd1 : 2 ≤ d ∧ 4 * d ≤ l ∧ l ≤ 4 * d + 3 := by omega
  clear hd
  have e1 : (a : Int) + d = ((a + d : Nat) : Int) := by omega
  have e2 : (a : Int) + (d : Int) * 2 = ((a + d * 2 : Nat) : Int) := by omega
  have e3 : (a : Int) + (d : Int) * 3 = ((a + d * 3 : Nat) : Int) := by omega
  generalize ha1 : a + d = a1 at *
  generalize ha2 : a + d * 2 = a2 at *
  generalize ha3 : a + d * 3 = a3 at *
  have hr1 : a < a1 ∧ a1 + 1 < a + l := by omega
  have hr2 : a < a2 ∧ a2 + 1 < a + l := by omega
  have hr3 : a < a3 ∧ a3 + 1 < a + l := by omega
  clear ha1 ha2 ha3
  by_cases h50 : 50 ≤ l
  · have h50' : (50 : Int) ≤ l := by omega
    go_enter Tryd.func75, Tryd.ntmps75
    go_wp2_with fail
    (with_reducible refine (HA.out _ _ a1 H.out (by omega) hr1).mono ?_)
    rintro e w1 ⟨x1, rfl, hx1, p1⟩
    have P1 := Lib.hid p1; clear p1
    go_wp2_with fail
    (with_reducible refine (HA.out _ _ a2 P1.out (by omega) hr2).mono ?_)
    rintro e w2 ⟨x2, rfl, hx2, p2⟩
    have P2 := Lib.hid p2; clear p2
    go_wp2_with fail
    (with_reducible refine (HA.out _ _ a3 P2.out (by omega) hr3).mono ?_)
    rintro e w3 ⟨x3, rfl, hx3, p3⟩
    have P3 := Lib.hid p3; clear p3
    go_wp2_with fail
    (with_reducible refine (HM.out _ _ x1 x2 x3 P3.out (by omega) hx1 hx2 hx3).mono ?_)
    rintro e w4 ⟨x4, rfl, hx4, p4⟩
    have P4 := Lib.hid p4; clear p4
    obtain ⟨s, s1, s2, s3⟩ := P4.out.cnt
    have c4 : w4.cell? ⟨w.heap.size, 0, none⟩ = some (.int .i64 s) := s3.cell rfl
    clear s3
    have hU : Hid (Upd (fun _ => False) w w4) := P4.out.upd.mono (fun i h1 h2 => by omega)
    by_cases hs0 : s = 0
    · subst hs0
      go_wp2_with fail
      go_ret2
      exact ⟨x4, 1, rfl, hx4, by omega, hU.out⟩
    · by_cases hs12 : s = 12
      · subst hs12
        go_wp2_with fail
        go_ret2
        exact ⟨x4, 2, rfl, hx4, by omega, hU.out⟩
      · have n0 : (s == 0) = false := by simpa using hs0
        have n12 : (s == 12) = false := by simpa using hs12
        clear hs0 hs12
        go_wp2_with fail
        go_ret2
        exact ⟨x4, 0, rfl, hx4, by omega, hU.out⟩
  · have h50' : ¬ (50 : Int) ≤ l := by omega
    go_enter Tryd.func75, Tryd.ntmps75
    go_wp2_with fail
    (with_reducible refine (HM.out _ _ a1 a2 a3 H.out (by omega) (by omega) (by omega) (by omega)).mono ?_)
    rintro e w4 ⟨x4, rfl, hx4, p4⟩
    have P4 := Lib.hid p4; clear p4
    obtain ⟨s, s1, s2, s3⟩ := P4.out.cnt
    have c4 : w4.cell? ⟨w.heap.size, 0, none⟩ = some (.int .i64 s) := s3.cell rfl
    clear s3
    have hU : Hid (Upd (fun _ => False) w w4) := P4.out.upd.mono (fun i h1 h2 => by omega)
    by_cases hs0 : s = 0
    · subst hs0
      go_wp2_with fail
      go_ret2
      exact ⟨x4, 1, rfl, hx4, by omega, hU.out⟩
    · by_cases hs12 : s = 12
      · subst hs12
        go_wp2_with fail
        go_ret2
        exact ⟨x4, 2, rfl, hx4, by omega, hU.out⟩
      · have n0 : (s == 0) = false := by simpa using hs0
        have n12 : (s == 12) = false := by simpa using hs12
        clear hs0 hs12
        go_wp2_with fail
        go_ret2
        exact ⟨x4, 0, rfl, hx4, by omega, hU.out⟩
end
end Go.Proofs.YtdidpppjkbgccaaDoor
