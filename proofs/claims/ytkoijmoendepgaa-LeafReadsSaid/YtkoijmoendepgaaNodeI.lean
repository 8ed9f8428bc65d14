/- get of the law: the words at an offset. -/
import Derived.Test.YtkoijmoendepgaaNodeG
namespace Go.Proofs.Ytkoijmoendepgaa
open Go.RowKit

section
variable {w : World} {v : DV} {own : Nat → Option Role} {D : Dev}
theorem thread3_any (h : IsDev w v own D) : Calls Try.prog 14 #[.pointer (some ⟨v.db, 0, none⟩), .int .i64 3] w fun r w' => r = .returned (.pointer (some ⟨v.tb 3, 0, none⟩)) ∧ w = w' := thread_any h (j := 3) (by omega)
theorem loadAt_ok (h : IsDev w v own D) {j : Nat} (hj : j < 8) (off k : Nat) (o : Int) (ho : o = ((off + 8 * k : Nat) : Int)) (hoff : D.off = false) (hw : off % 8 = 0) (hl : off + 8 * k < 64 * D.n) :
    Calls Try.prog 69 #[.pointer (some ⟨v.tb j, 0, none⟩), .int .u64 o] w fun r w' => r = .returned (.int .u64 (D.cur (off / 8 + k))) ∧ w = w' := by
  subst ho
  have := load_ok h hj (off + 8 * k) hoff (by omega) hl
  rw [show (off + 8 * k) / 8 = off / 8 + k by omega] at this
  exact this
def getL (f : Nat → Int) (k : Nat) : List Int := (List.range k).map f
set_option maxRecDepth 100000 in
set_option maxHeartbeats 2000000 in
theorem getW_any (h : IsDev w v own D) (off : Nat) (hoff : D.off = false) (h8 : off % 8 = 0) (hl : off + 224 ≤ 64 * D.n) :
    Calls Try.prog 34 #[.pointer (some ⟨v.db, 0, none⟩), .int .u64 off] w fun r w' => ∃ sv, r = .returned sv ∧ Acc w w.heap.size w' 23 1 sv 28 (intsU (getL (fun i => D.cur (off / 8 + i)) 28)) := by
  have hn := h.wf.le
  have H := Lib.hid h; have HO := Lib.hid hoff; clear h hoff
  obtain ⟨i0, hi0, hz0, hz1, hz2⟩ := info_parts infoU64
  have I := Lib.hid (And.intro hi0 (And.intro hz0 (And.intro hz1 hz2))); clear hi0 hz0 hz1 hz2
  go_enter Try.func34, Try.ntmps34
  go_wp2_with fail
  go_loopw [5, 7] (fun ov y wr => ∃ k : Nat, k ≤ 28 ∧ y = .int .u64 k ∧ Acc w w.heap.size wr 23 1 ov k (intsU (getL (fun i => D.cur (off / 8 + i)) k))) (fun _ y _ => 28 - (intOf y).toNat)
  case atStart => exact ⟨0, by omega, rfl, Acc.nil w _ _ _ _ (Below.refl _ _) (Nat.le_refl _)⟩
  case round =>
    obtain ⟨k, hk, rfl, ha⟩ := hrel
    obtain ⟨la, lc, rfl⟩ := ha.slice
    have A := Lib.hid ha; clear ha
    by_cases hlt : k < 28
    · have hd := H.out.below A.out.bel
      have HT := Lib.hid (thread3_any hd)
      have HL := Lib.hid (loadAt_ok hd (j := 3) (by omega) off k ((off : Int) + 8 * (k : Int)) (by omega) HO.out h8 (by omega))
      clear hd
      go_wp2_with fail
      (with_reducible refine HT.out.mono ?_)
      rintro e w' ⟨rfl, rfl⟩
      go_wp2_with fail
      (with_reducible refine HL.out.mono ?_)
      rintro e w' ⟨rfl, rfl⟩
      go_wp2_with (at_builtin; refine wpList_append_sl _ rfl _ _ 22 rfl 23 i0 _ 1 8 Try.underlying22 I.out.1 I.out.2.1 I.out.2.2.1 I.out.2.2.2 rfl (by decide) _ k (intsU (getL (fun i => D.cur (off / 8 + i)) k)) rfl (by exact A.out.own.alloc _) _ 1 _ rfl (by exact RdSl.newAt _ _ _ 1 1 _ rfl rfl) (one_int _ _) (by unfold maxLen; omega) (by omega) ?_)
      intro v1 w1 o1 g1 b1 n1
      have A1 := Lib.hid (A.out.next (below_alloc _ _) o1 g1 b1 (by simp)); clear o1 g1 b1 n1
      go_wp2_with fail
      go_roundw
      case rel => exact ⟨k + 1, by omega, by go_num, A1.out.congr rfl (by simp [intsU, getL, List.range_succ])⟩
      case measure => simp [intOf]; omega
    · obtain rfl : k = 28 := by omega
      rw [show ((28 : Nat) : Int) = 28 from rfl]
      go_wp2_with fail
      go_ret
      exact ⟨_, rfl, A.out⟩
end
end Go.Proofs.Ytkoijmoendepgaa
