/- The reference of layer 31: Run, Pairs, and its bucket's cells. -/
import Derived.Test.YtpkilmnppdbnkaaBkO
namespace Go.Proofs.Ytpkilmnppdbnkaa
open Go.RowKit

theorem refC_wd (C : Nat → Int) (off i : Nat) (hi : i < 16) : (refC C off)[1 + i]? = some (.int .u64 (C (off / 8 + i))) := by
  obtain rfl | rfl | rfl | rfl | rfl | rfl | rfl | rfl | rfl | rfl | rfl | rfl | rfl | rfl | rfl | rfl : i = 0 ∨ i = 1 ∨ i = 2 ∨ i = 3 ∨ i = 4 ∨ i = 5 ∨ i = 6 ∨ i = 7 ∨ i = 8 ∨ i = 9 ∨ i = 10 ∨ i = 11 ∨ i = 12 ∨ i = 13 ∨ i = 14 ∨ i = 15 := by omega
  all_goals rfl
theorem refC_ok {C : Nat → Int} {off : Nat} (hb : ∀ i, 0 ≤ C i ∧ C i < 18446744073709551616) (hl : off + 128 ≤ 18446744073709551615) : RefB (refC C off) C off :=
  ⟨rfl, rfl, fun i hi => refC_wd C off i hi, by simp [refC, Value.oneCell'], hb, hl⟩
set_option maxRecDepth 100000 in
theorem refC_set (C : Nat → Int) (off : Nat) (i : Nat) (hi : i < 16) (x : Int) : (refC C off).setIfInBounds (1 + i) (.int .u64 x) = refC (fun j => if off / 8 + i = j then x else C j) off := by
  obtain rfl | rfl | rfl | rfl | rfl | rfl | rfl | rfl | rfl | rfl | rfl | rfl | rfl | rfl | rfl | rfl : i = 0 ∨ i = 1 ∨ i = 2 ∨ i = 3 ∨ i = 4 ∨ i = 5 ∨ i = 6 ∨ i = 7 ∨ i = 8 ∨ i = 9 ∨ i = 10 ∨ i = 11 ∨ i = 12 ∨ i = 13 ∨ i = 14 ∨ i = 15 := by omega
  all_goals simp [refC]
theorem refC_congr {C C' : Nat → Int} {off : Nat} (h : ∀ i, i < 16 → C (off / 8 + i) = C' (off / 8 + i)) : refC C off = refC C' off := by
  unfold refC
  have h0 := h 0 (by omega)
  rw [Nat.add_zero] at h0
  rw [h0, h 1 (by omega), h 2 (by omega), h 3 (by omega), h 4 (by omega), h 5 (by omega), h 6 (by omega), h 7 (by omega), h 8 (by omega), h 9 (by omega), h 10 (by omega), h 11 (by omega), h 12 (by omega), h 13 (by omega), h 14 (by omega), h 15 (by omega)]
/-- Run's two boxes: the words so far, the result. -/
structure RnAt (w : World) (C : Nat → Int) (off : Nat) (wx : World) : Prop where
  b : Blk wx w.heap.size (refC C off) 32
  r : Blk wx (w.heap.size + 1) Z17 32
  bel : Below w.heap.size w wx
  sz : w.heap.size + 2 ≤ wx.heap.size
theorem RnAt.next {w : World} {C : Nat → Int} {off : Nat} {wx wy : World} (h : RnAt w C off wx) (hb : Below wx.heap.size wx wy) : RnAt w C off wy := ⟨h.b.below hb, h.r.below hb, h.bel.trans (hb.mono h.bel.size), Nat.le_trans h.sz hb.size⟩
theorem RnAt.start (w : World) (C : Nat → Int) (off : Nat) : RnAt w C off ((w.alloc (.cells (refC C off) 32)).alloc (.cells Z17 32)) := by
  refine ⟨(Blk.new w _ _).alloc _, ?_, below_twice w _ _, by simp⟩
  have := Blk.new (w.alloc (.cells (refC C off) 32)) Z17 32
  rwa [World.size_alloc] at this
theorem RnAt.set {w : World} {C : Nat → Int} {off : Nat} {wx : World} (h : RnAt w C off wx) (i : Nat) (hi : i < 16) (x : Int) : RnAt w (fun j => if off / 8 + i = j then x else C j) off (wx.setCell ⟨w.heap.size, 1 + i, none⟩ (.int .u64 x)) :=
  ⟨by have := h.b.set (1 + i) (.int .u64 x); rw [refC_set C off i hi x] at this; exact this, h.r.other (by simp) _, h.bel.setCell (Nat.le_refl _) _, by simpa [World.setCell] using h.sz⟩
theorem lookI_snoc (l : List (Nat × Nat × Int)) (e : Nat × Nat × Int) (C : Nat → Int) : lookI (l ++ [e]) C = if e.1 = 1 then fun i => if e.2.1 / 8 = i then e.2.2 else lookI l C i else lookI l C := by
  rw [lookI_append, lookI_cons, lookI_nil]
section
variable {w : World}
set_option maxRecDepth 100000 in
set_option maxHeartbeats 8000000 in
theorem r31Run_any (C : Nat → Int) (off : Nat) (h8 : off % 8 = 0) (_hl : off + 128 < 18446744073709551616) (sv : Value) (l : List (Nat × Nat × Int)) (hs : RdSl w 3 sv l.length (instrC l)) (hi : InB off l) (hn : l.length ≤ 100000) :
    Calls Try.prog 52 #[.agg (refC C off), sv] w fun r w' => r = .returned (.agg (refC (lookI l C) off)) ∧ Below w.heap.size w w' := by
  obtain ⟨_, a, ca, rfl, hca, ha⟩ := hs
  have HA := Lib.hid ha; have HI := Lib.hid hi
  clear ha hi
  have R0 := Lib.hid (RnAt.start w C off)
  have HIN : Hid (∀ C' : Nat → Int, (Try.prog.info? 32).map (·.size) = some (refC C' off).size) := fun C' => by show _ = some 17; kernel_rfl
  have HON : Hid (∀ C' : Nat → Int, (refC C' off).all (·.oneCell') = true) := fun C' => by simp [refC, Value.oneCell']
  have HSZ : Hid (∀ C' : Nat → Int, Z17.size = (refC C' off).size) := fun C' => rfl
  have HA0 : Hid (∀ C' : Nat → Int, (refC C' off)[0]? = some (.int .u64 off)) := fun C' => rfl
  have HK : Hid (lookI (l.take 0) C = C) := rfl
  generalize hn1 : l.length = n at *
  have HN := Lib.hid hn1
  clear hn1
  go_enter Try.func52, Try.ntmps52
  go_wp2_with fail
  go_loopw [9] (fun i wr => ∃ k : Nat, k ≤ n ∧ i = .int .i64 k ∧ RnAt w (lookI (l.take k) C) off wr) (fun i _ => n - (intOf i).toNat)
  case atStart => exact ⟨0, by omega, rfl, R0.out⟩
  case round =>
    obtain ⟨k, hk, rfl, hr⟩ := hrel
    have R1 := Lib.hid hr
    clear hr R0
    by_cases hlt : k < n
    · have hk' : (k : Int) < n := by omega
      obtain ⟨e, he⟩ : ∃ e, l[k]? = some e := ⟨_, List.getElem?_eq_getElem (by rw [HN.out]; exact hlt)⟩
      have hg := instrC_get l k e he
      obtain ⟨eb, eo, rfl, hcell⟩ := rd_at HA.out hg.1
      have hb := R1.out.bel
      have c1 := (hb.cell (p := ⟨eb, eo + k * 3, none⟩) (World.block_lt_of_cell? w _ (hcell _ _ hg.1))).trans (hcell _ _ hg.1)
      have c2 := (hb.cell (p := ⟨eb, eo + (k * 3 + 1), none⟩) (World.block_lt_of_cell? w _ (hcell _ _ hg.2.1))).trans (hcell _ _ hg.2.1)
      have c3 := (hb.cell (p := ⟨eb, eo + (k * 3 + 2), none⟩) (World.block_lt_of_cell? w _ (hcell _ _ hg.2.2))).trans (hcell _ _ hg.2.2)
      rw [← Nat.add_assoc] at c2 c3
      have hin := HI.out e (List.mem_of_getElem? he)
      have HT : Hid (lookI (l.take (k + 1)) C = if e.1 = 1 then fun i => if e.2.1 / 8 = i then e.2.2 else lookI (l.take k) C i else lookI (l.take k) C) := by
        show lookI (l.take (k + 1)) C = _
        rw [take_snocI l k e he, lookI_snoc]
      clear hcell he hg hb
      obtain ⟨e1, e2, e3⟩ := e
      simp only at c1 c2 c3 hin
      have R2 := Lib.hid (R1.out.next (below_alloc wr (.cells #[.int .u8 e1, .int .u64 e2, .int .u64 e3] 121)))
      by_cases h1 : e1 = 1
      · obtain ⟨_, _, h3⟩ := hin
        obtain ⟨i, hi16, he2⟩ := h3 h1
        have b1 : ((e1 : Int) == 1) = true := by simp; omega
        have HT2 : Hid (lookI (l.take (k + 1)) C = fun j => if off / 8 + i = j then e3 else lookI (l.take k) C j) := by
          show lookI (l.take (k + 1)) C = _
          rw [HT.out, if_pos h1]
          funext j
          simp only
          rw [show e2 / 8 = off / 8 + i by omega]
        have d0 := R2.out.b.cell (i := 0) (v := .int .u64 off) rfl
        have d1 := R2.out.b.cell (i := 1 + i) (refC_wd _ off i hi16)
        have f1 := R2.out.b.frozen (1 + i)
        have g1 : IntKind.u64.wrap ((e2 : Int) - (off : Int)) = 8 * (i : Int) := (IntWalk.u64_in _ (by omega)).trans (by omega)
        have g2 : (8 * (i : Int)) / 8 = (i : Int) := by omega
        have g3 : (i : Int) < 16 := by omega
        clear HT h3 R1 h1 he2
        go_wp2_with fail
        go_roundw
        case rel => exact ⟨k + 1, by omega, by go_num, by rw [HT2.out]; exact R2.out.set i hi16 e3⟩
        case measure => simp [intOf]; omega
      · have b1 : ((e1 : Int) == 1) = false := by simp; omega
        have HT2 : Hid (lookI (l.take (k + 1)) C = lookI (l.take k) C) := by
          show lookI (l.take (k + 1)) C = _
          rw [HT.out, if_neg h1]
        clear HT h1 R1 hin
        go_wp2_with fail
        go_roundw
        case rel => exact ⟨k + 1, by omega, by go_num, by rw [HT2.out]; exact R2.out⟩
        case measure => simp [intOf]; omega
    · obtain rfl : k = n := by omega
      have HK2 : Hid (lookI (l.take k) C = lookI l C) := by
        show lookI (l.take k) C = lookI l C
        rw [List.take_of_length_le (by rw [HN.out]; omega)]
      rw [HK2.out] at R1
      obtain ⟨A2, hA2⟩ : ∃ A, refC (lookI l C) off = A := ⟨_, rfl⟩
      have BB := Lib.hid (below_setRow R1.out.bel (show w.heap.size ≤ w.heap.size + 1 by omega) A2)
      have RB : Hid (Blk wr w.heap.size A2 32) := hA2 ▸ R1.out.b
      have RR := Lib.hid R1.out.r
      have NN : Hid (Blk (wr.setRow (w.heap.size + 1) A2) (w.heap.size + 1) A2 32) := setRow_heap _ _ Z17 _ 32 (0, 0) R1.out.r
      have HI2 : Hid ((Try.prog.info? 32).map (·.size) = some A2.size) := hA2 ▸ HIN.out (lookI l C)
      have HO2 : Hid (A2.all (·.oneCell') = true) := hA2 ▸ HON.out (lookI l C)
      have HS2 : Hid (Z17.size = A2.size) := hA2 ▸ HSZ.out (lookI l C)
      have HAA := Lib.hid hA2
      clear HA0 HON HSZ HIN R1 hA2 HK2
      go_wp2_with (first | (refine wpList_load_row rfl 32 (.tmp 2) rfl w.heap.size rfl 32 A2 (0, 0) _ RB.out Try.underlying32 rfl HI2.out ?_) | (refine wpList_store_row rfl 32 (.tmp 4) (.tmp 27) rfl (w.heap.size + 1) A2 rfl rfl 32 Z17 RR.out HI2.out HS2.out HO2.out ?_))
      refine bodyPost_ret (v := .agg A2) (results_cell_row Try.results52 _ _ (w.heap.size + 1) 32 A2 (0, 0) _ rfl NN.out Try.underlying32 rfl HI2.out) rfl ⟨by rw [HAA.out], BB.out⟩
end
end Go.Proofs.Ytpkilmnppdbnkaa
