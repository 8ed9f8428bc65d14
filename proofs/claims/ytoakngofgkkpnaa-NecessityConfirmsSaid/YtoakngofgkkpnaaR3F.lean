/- The walks of the reference's device: Dirty, Content. -/
import Derived.Test.YtoakngofgkkpnaaR3E
import Derived.Test.YtoakngofgkkpnaaNecM
namespace Go.Proofs.Ytoakngofgkkpnaa
open Go.RowKit
attribute [local go_sem ↓] Go.wp_at_zero Go.wp_at_succ

/-- The first p bytes of some words. -/
def bytesL (F : Nat → Int) (p : Nat) : List Value := (List.range p).map fun i => .int .u8 (byteAt F i)
theorem bytesL_succ (F : Nat → Int) (p : Nat) : bytesL F (p + 1) = bytesL F p ++ [.int .u8 (byteAt F p)] := by simp [bytesL, List.range_succ]
theorem w8_index (F : Nat → Int) (j : Nat) (hj : j < 8) (wx : World) : (Instr.index 83 (.agg (w8 F)) (.int .i64 (j : Int))).run Try.prog wx = .ok (.int .u64 (F j)) wx := by
  obtain rfl | rfl | rfl | rfl | rfl | rfl | rfl | rfl : j = 0 ∨ j = 1 ∨ j = 2 ∨ j = 3 ∨ j = 4 ∨ j = 5 ∨ j = 6 ∨ j = 7 := by omega
  all_goals kernel_rfl
theorem byte_of (F : Nat → Int) (k j b : Nat) (_hj : j < 8) (hb : b < 8) : F (8 * k + j) / 256 ^ b % 256 = byteAt F (64 * k + 8 * j + b) := by
  unfold byteAt
  rw [show (64 * k + 8 * j + b) / 8 = 8 * k + j by omega, show (64 * k + 8 * j + b) % 8 = b by omega, Nat.mul_comm b 8, Int.pow_mul]
  rfl
section
variable {w : World} {D : Dev} {rb lb : Nat} {hv : Nat → Value} {nv : Value} {ns : List (Nat × Nat)}
set_option maxRecDepth 100000 in
set_option maxHeartbeats 4000000 in
theorem r3Dirty_any (h : R3 w D rb lb hv nv ns) :
    Calls Try.prog 32 #[.pointer (some ⟨rb, 0, none⟩)] w fun r w' => ∃ sv, r = .returned sv ∧ Acc w w.heap.size w' 3 1 sv D.dirtyL.length (natsI D.dirtyL) := by
  have hn := h.up.wf.le
  obtain ⟨i0, hi0, hz0, hz1, hz2⟩ := info_parts infoInt
  have I := Lib.hid (And.intro hi0 (And.intro hz0 (And.intro hz1 hz2))); clear hi0 hz0 hz1 hz2
  have H := Lib.hid h
  have HF := Lib.hid (filt_len D)
  have HS : Hid (∀ k sv wr, DirtyAt w D k sv wr → (D.hist k).length = 0 → DirtyAt w D (k + 1) sv wr) := Lib.hid (fun k sv wr h1 h2 => dirty_skip h1 h2)
  have HE := Lib.hid (fun k sv wr h1 h2 => dirty_add (w := w) (D := D) (k := k) (sv := sv) (wr := wr) h1 h2)
  have HK : Hid (∀ k sv wr wz, DirtyAt w D k sv wr → Below wr.heap.size wr wz → DirtyAt w D k sv wz) := fun k sv wr wz h1 h2 => ⟨h1.acc.keep h2⟩
  unfold Dev.dirtyL
  have c0 : w.cell? ⟨rb, 0, none⟩ = some (.slice (some ⟨lb, 0, none⟩) D.n D.n) := h.dev.cell rfl
  have A0 : Hid (DirtyAt w D 0 (.slice (some ⟨w.heap.size, 0, none⟩) 0 0) (w.alloc (.cells #[] 3))) := ⟨(acc_empty w 3 1).congr rfl rfl⟩
  have hrb := h.dev.lt
  obtain ⟨n, hN⟩ : ∃ n, D.n = n := ⟨_, rfl⟩
  have HN := Lib.hid hN
  rw [hN] at hn c0 ⊢
  clear h hN
  go_enter Try.func32, Try.ntmps32
  go_wp2_with fail
  go_loopw [3, 12] (fun sv y wr => ∃ k : Nat, k ≤ n ∧ y = .int .i64 k ∧ DirtyAt w D k sv wr) (fun _ y _ => n - (intOf y).toNat)
  case atStart => exact ⟨0, by omega, rfl, A0.out⟩
  case round =>
    clear A0
    obtain ⟨k, hk, rfl, ha⟩ := hrel
    obtain ⟨la, lc, hsv⟩ := ha.acc.slice
    subst hsv
    have A := Lib.hid ha; clear ha
    have R := Lib.hid (H.out.keep A.out.acc.bel)
    by_cases hlt : k < n
    · have hlt' : (k : Int) < n := by omega
      have hkn : k < D.n := by rw [HN.out]; exact hlt
      obtain ⟨cw, c8, c9⟩ := R.out.at hkn
      have hh1 := (H.out.hist k hkn).1
      obtain ⟨ha, q, hc, hve, hqe⟩ : ∃ ha q hc, hv k = .slice ha q hc ∧ q = (D.hist k).length := by obtain ⟨_, a, c, e, _, _⟩ := hh1; exact ⟨a, _, c, e, rfl⟩
      rw [hve] at c8
      have hcn := H.out.up.wf.cnt k hkn
      obtain ⟨F, hF⟩ : ∃ F : Nat → Int, ∀ j, D.pers (8 * k + j) = F j := ⟨fun j => D.pers (8 * k + j), fun _ => rfl⟩
      have k0 := cw 0 (by omega); have k1 := cw 1 (by omega); have k2 := cw 2 (by omega); have k3 := cw 3 (by omega); have k4 := cw 4 (by omega); have k5 := cw 5 (by omega); have k6 := cw 6 (by omega); have k7 := cw 7 (by omega)
      rw [hF] at k0 k1 k2 k3 k4 k5 k6 k7
      rw [Nat.add_zero] at k0
      obtain ⟨dn, hdn⟩ : ∃ dn, D.done k = dn := ⟨_, rfl⟩
      rw [hdn] at c9
      have hf := HF.out k
      have HS1 := Lib.hid (fun wz hb => HS.out k _ _ (HK.out _ _ _ wz A.out hb))
      have HE1 := Lib.hid (HE.out k)
      rw [← hqe] at HS1 HE1
      clear cw hF hdn hve hqe hh1 hcn
      by_cases hq : 0 < q
      · have hq' : (0 : Int) < q := by omega
        have A2 := Lib.hid A.out.acc
        have HE2 := Lib.hid (fun sv wr => HE1.out sv wr hq)
        generalize hL : (List.range k).filter (fun l => decide (0 < (D.hist l).length)) = L at *
        clear hL A HS1
        go_wp2_with (at_builtin; refine wpList_append_sl _ rfl _ _ 41 rfl 3 i0 _ 1 8 Try.underlying41 I.out.1 I.out.2.1 I.out.2.2.1 I.out.2.2.2 rfl (by decide) _ L.length (natsI L) rfl (by exact (A2.out.own.alloc _).alloc _) _ 1 _ rfl (by exact RdSl.newAt _ _ _ 1 1 _ (by simp) rfl) (one_int _ _) (by unfold maxLen; omega) (by omega) ?_)
        intro v1 w1 o1 g1 b1 n1
        have A1 := Lib.hid (A2.out.next (below_twice _ _ _) o1 g1 b1 (by first | simp | omega)); clear o1 g1 b1 n1
        go_wp2_with fail
        go_roundw
        case rel => exact ⟨k + 1, by omega, by go_num, HE2.out _ _ A1.out⟩
        case measure => simp [intOf]; omega
      · have hq' : ¬ (0 : Int) < q := by omega
        go_wp2_with fail
        go_roundw
        case rel => exact ⟨k + 1, by omega, by go_num, HS1.out _ (below_alloc _ _) (by omega)⟩
        case measure => simp [intOf]; omega
    · obtain rfl : k = n := by omega
      go_wp2_with fail
      go_ret
      exact ⟨_, rfl, A.out.acc⟩
end
end Go.Proofs.Ytoakngofgkkpnaa
