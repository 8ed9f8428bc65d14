/- The reference of layer 31: Put. -/
import Derived.Test.YtpkilmnppdbnkaaBkS
namespace Go.Proofs.Ytpkilmnppdbnkaa
open Go.RowKit

theorem setF_mod (w sh wd v : Nat) : setF w sh wd (v % 2 ^ wd) = setF w sh wd v := by unfold setF; rw [Nat.mod_mod]
/-- The offsets of the first i words that lie outside of the header's line. -/
def othL (off a i : Nat) : List Nat := ([a, a + 8].take i).filter fun o => !(o / 64 == off / 64)
theorem othL_bd (off a i : Nat) (ha : a + 8 < 18446744073709551616) : ∀ o ∈ othL off a i, o < 18446744073709551616 := fun o ho => by
  have := List.mem_of_mem_take (List.mem_filter.1 ho).1
  simp at this
  omega
theorem othL_len (off a i : Nat) : (othL off a i).length ≤ 2 := by
  refine Nat.le_trans (List.length_filter_le _ _) ?_
  rw [List.length_take]
  exact Nat.min_le_right _ _
theorem othL_one (off a : Nat) : othL off a 1 = if a / 64 = off / 64 then [] else [a] := by
  unfold othL
  by_cases h : a / 64 = off / 64 <;> simp [h]
theorem othL_two (off a : Nat) : othL off a 2 = othL off a 1 ++ if (a + 8) / 64 = off / 64 then [] else [a + 8] := by
  unfold othL
  by_cases h : a / 64 = off / 64 <;> by_cases h2 : (a + 8) / 64 = off / 64 <;> simp [h, h2]
section
variable {w : World} {A : Array Value} {C : Nat → Int} {off : Nat}
theorem prg_newR (wx : World) (l : List (Nat × Nat × Int)) (hl : l.length ≤ 1000) (n : Nat) (hn : n = l.length) : Acc wx wx.heap.size (wx.alloc (.cells (instrC l).toArray 121)) 121 3 (.slice (some ⟨wx.heap.size, 0, none⟩) n n) n (instrC l) := by
  subst hn
  have h := OwnSl.new wx (instrC l).toArray 121 3 l.length l.length (by simp [instrC_length]) (Nat.le_refl _) (by unfold maxLen; omega)
  rw [List.take_of_length_le (by simp [instrC_length])] at h
  exact ⟨h, fun g hg => by simp [Value.ownBlock] at hg; omega, below_alloc _ _, by simp⟩
theorem natsU_one31 (l : List Nat) : ∀ u ∈ natsU l, u.oneCell' = true := by intro u hu; simp [natsU] at hu; obtain ⟨s, _, rfl⟩ := hu; rfl
set_option maxRecDepth 100000 in
set_option maxHeartbeats 4000000 in
theorem r31Put_full (h : RefB A C off) (k : Nat) (x : Int) (hf : fstK (rfB C off k) 7 = -1) (hr : freI (bkH C off) = -1) : Calls Try.prog 26 #[.agg A, .int .u64 k, .int .u64 x] w (ProgR w [] 4) := by
  have HF := Lib.hid (fun wx => hf ▸ r31Find_any (w := wx) h k)
  have HR := Lib.hid (fun wx => hr ▸ r31Free_any (w := wx) h)
  have X0 := Lib.hid (Bx1.start w A 32)
  have HIN := Lib.hid h.info
  clear h hf hr
  go_enter Try.func26, Try.ntmps26
  go_wp2_with (refine wpList_load_row rfl 32 (.tmp 3) rfl w.heap.size rfl 32 A (0, 0) _ X0.out.blk Try.underlying32 rfl HIN.out ?_)
  (with_reducible refine (HF.out _).mono ?_)
  rintro e w1 ⟨rfl, b1⟩
  have X1 := Lib.hid (X0.out.next b1)
  clear b1 X0
  go_wp2_with (refine wpList_load_row rfl 32 (.tmp 3) rfl w.heap.size rfl 32 A (0, 0) _ X1.out.blk Try.underlying32 rfl HIN.out ?_)
  (with_reducible refine (HR.out _).mono ?_)
  rintro e w2 ⟨rfl, b2⟩
  have X2 := Lib.hid (X1.out.next b2)
  clear b2 X1
  go_wp2_with fail
  go_ret2
  exact ⟨_, rfl, Acc.nil _ _ _ _ _ X2.out.bel X2.out.bel.size⟩
set_option maxRecDepth 100000 in
set_option maxHeartbeats 4000000 in
theorem r31Put_rep (h : RefB A C off) (k : Nat) (x : Int) (s : Nat) (hs : s < 7) (hf : fstK (rfB C off k) 7 = (s : Nat)) : Calls Try.prog 26 #[.agg A, .int .u64 k, .int .u64 x] w (ProgR w (bkRep off s x) 0) := by
  have HF := Lib.hid (fun wx => hf ▸ r31Find_any (w := wx) h k)
  have hl := h.hl
  have hat := fun wx => r31at_any (w := wx) h (3 + 2 * s) (by omega)
  rw [show off + 8 * (3 + 2 * s) = bkKey off s + 8 by unfold bkKey; omega, show ((3 + 2 * s : Nat) : Int) = 3 + 2 * (s : Int) by omega] at hat
  have HAT := Lib.hid hat
  have hkb : bkKey off s + 8 < 18446744073709551616 := by unfold bkKey; omega
  have HS := Lib.hid (fun wx sv hs => r10Stores_any (w := wx) sv [(bkKey off s + 8, x)] hs (by simp) (by simp; omega))
  have X0 := Lib.hid (Bx1.start w A 32)
  have HIN := Lib.hid h.info
  have g0 : IntKind.i64.wrap (2 * (s : Int)) = 2 * (s : Int) := IntWalk.i64_in _ (by omega)
  have g2 : IntKind.i64.wrap (3 + 2 * (s : Int)) = 3 + 2 * (s : Int) := IntWalk.i64_in _ (by omega)
  unfold bkRep
  generalize bkKey off s + 8 = kb at *
  clear h hf hat hl
  go_enter Try.func26, Try.ntmps26
  go_wp2_with (refine wpList_load_row rfl 32 (.tmp 3) rfl w.heap.size rfl 32 A (0, 0) _ X0.out.blk Try.underlying32 rfl HIN.out ?_)
  (with_reducible refine (HF.out _).mono ?_)
  rintro e w1 ⟨rfl, b1⟩
  have X1 := Lib.hid (X0.out.next b1)
  clear b1 X0
  go_wp2_with (refine wpList_load_row rfl 32 (.tmp 3) rfl w.heap.size rfl 32 A (0, 0) _ X1.out.blk Try.underlying32 rfl HIN.out ?_)
  (with_reducible refine (HAT.out _).mono ?_)
  rintro e w2 ⟨rfl, b2⟩
  have X2 := Lib.hid (X1.out.next b2)
  clear b2 X1
  have HRD : Hid (RdSl (w2.alloc (.cells #[.int .u64 kb, .int .u64 x] 117)) 2 (.slice (some ⟨w2.heap.size, 0, none⟩) 1 1) [(kb, x)].length (flat [(kb, x)])) :=
    RdSl.newAt w2 #[.int .u64 kb, .int .u64 x] 117 2 1 w2.heap.size rfl rfl
  go_wp2_with fail
  (with_reducible refine (HS.out _ _ HRD.out).mono ?_)
  rintro e w3 ⟨ov, rfl, ha⟩
  have A2 := Lib.hid (Acc.mid (_wz := w) (X2.out.bel.trans ((below_alloc _ _).mono X2.out.bel.size)) ha)
  obtain ⟨oa, oc, rfl⟩ := ha.slice
  clear ha
  go_wp2_with fail
  go_ret2
  exact ⟨_, rfl, A2.out⟩
set_option maxRecDepth 100000 in
set_option maxHeartbeats 8000000 in
theorem r31Put_new (h : RefB A C off) (k : Nat) (hk : k < 18446744073709551616) (x : Int) (hf : fstK (rfB C off k) 7 = -1) (s : Nat) (hs : s < 7) (hr : freI (bkH C off) = (s : Nat)) :
    Calls Try.prog 26 #[.agg A, .int .u64 k, .int .u64 x] w (ProgR w (bkNew off s k x (markN (bkH C off) s k)) 0) := by
  obtain ⟨i0, hi0, hz0, hz1, hz2⟩ := info_parts infoRI
  have I := Lib.hid (And.intro hi0 (And.intro hz0 (And.intro hz1 hz2))); clear hi0 hz0 hz1 hz2
  obtain ⟨j0, hi0, hz0, hz1, hz2⟩ := info_parts infoU64
  have J := Lib.hid (And.intro hi0 (And.intro hz0 (And.intro hz1 hz2))); clear hi0 hz0 hz1 hz2
  have HF := Lib.hid (fun wx => hf ▸ r31Find_any (w := wx) h k)
  have HR := Lib.hid (fun wx => hr ▸ r31Free_any (w := wx) h)
  have hl := h.hl
  have hat1 := fun wx => r31at_any (w := wx) h (2 + 2 * s) (by omega)
  rw [show off + 8 * (2 + 2 * s) = bkKey off s by unfold bkKey; omega, show ((2 + 2 * s : Nat) : Int) = 2 + 2 * (s : Int) by omega] at hat1
  have hat2 := fun wx => r31at_any (w := wx) h (3 + 2 * s) (by omega)
  rw [show off + 8 * (3 + 2 * s) = bkKey off s + 8 by unfold bkKey; omega, show ((3 + 2 * s : Nat) : Int) = 3 + 2 * (s : Int) by omega, show ((bkKey off s + 8 : Nat) : Int) = (bkKey off s : Int) + 8 by omega] at hat2
  have HAT1 := Lib.hid hat1; have HAT2 := Lib.hid hat2
  have hkb : bkKey off s + 8 < 18446744073709551616 := by unfold bkKey; omega
  have h1 : setF (bkH C off) s 1 1 < 18446744073709551616 := setF_lt (n := 64) h.hb (by omega)
  have hs1 := fun wx => r01SetField_any (w := wx) (bkH C off) s 1 1 h.hb (by omega) (by omega) (by omega)
  rw [show ((1 : Nat) : Int) = 1 from rfl] at hs1
  have HS1 := Lib.hid hs1
  have HMX := Lib.hid (fun wx => r01Mix_any (w := wx) k hk)
  have hs2 := fun wx => r01SetField_any (w := wx) (setF (bkH C off) s 1 1) (8 + 8 * s) 8 (mixN k % 256) h1 (by omega) (by omega) (by omega)
  rw [show ((8 + 8 * s : Nat) : Int) = 8 + 8 * (s : Int) by omega, show ((8 : Nat) : Int) = 8 from rfl, show (256 : Nat) = 2 ^ 8 from rfl, setF_mod, show ((mixN k % 2 ^ 8 : Nat) : Int) = (mixN k : Int) % 256 by omega] at hs2
  rw [show setF (setF (bkH C off) s 1 1) (8 + 8 * s) 8 (mixN k) = markN (bkH C off) s k from rfl] at hs2
  have HS2 := Lib.hid hs2
  have HH := Lib.hid (fun wx => r31header_any (w := wx) h ((markN (bkH C off) s k : Nat) : Int))
  have HC1 : Hid (∀ wx, Bx1 w A 32 wx → wx.cell? ⟨w.heap.size, 1, none⟩ = some (.int .u64 (bkH C off : Nat))) := fun wx hx => by
    have := hx.blk.cell (i := 1) (h.wd 0 (by omega))
    rw [Nat.add_zero, h.hd] at this
    exact this
  have HC0 : Hid (∀ wx, Bx1 w A 32 wx → wx.cell? ⟨w.heap.size, 0, none⟩ = some (.int .u64 off)) := fun wx hx => hx.blk.cell (i := 0) h.a0
  have HFL := Lib.hid (fun wx sv hsv => r10Flushes_any (w := wx) sv (othL off (bkKey off s) 2) hsv (by have := othL_len off (bkKey off s) 2; omega) (othL_bd off (bkKey off s) 2 hkb))
  have hfl : (flushL (othL off (bkKey off s) 2)).length ≤ 3 := by have := flushL_len (othL off (bkKey off s) 2); have := othL_len off (bkKey off s) 2; omega
  have HE : Hid (bkNew off s k x (markN (bkH C off) s k) = ([(1, bkKey off s, (k : Int)), (1, bkKey off s + 8, x)] ++ flushL (othL off (bkKey off s) 2)) ++ storesL [(off, ((markN (bkH C off) s k : Nat) : Int))]) := rfl
  rw [HE.out]
  clear HE
  have HOL := Lib.hid (othL_len off (bkKey off s))
  have HO1 := Lib.hid (othL_one off (bkKey off s)); have HO2 := Lib.hid (othL_two off (bkKey off s)); have HO0 : Hid (othL off (bkKey off s) 0 = []) := rfl
  have hmx := mixN_lt k
  have X0 := Lib.hid (Bx1.start w A 32)
  have HIN := Lib.hid h.info
  have g0 : IntKind.i64.wrap (2 * (s : Int)) = 2 * (s : Int) := IntWalk.i64_in _ (by omega)
  have g1 : IntKind.i64.wrap (2 + 2 * (s : Int)) = 2 + 2 * (s : Int) := IntWalk.i64_in _ (by omega)
  have g2 : IntKind.i64.wrap (3 + 2 * (s : Int)) = 3 + 2 * (s : Int) := IntWalk.i64_in _ (by omega)
  have g3 : IntKind.i64.wrap (8 * (s : Int)) = 8 * (s : Int) := IntWalk.i64_in _ (by omega)
  have g4 : IntKind.i64.wrap (8 + 8 * (s : Int)) = 8 + 8 * (s : Int) := IntWalk.i64_in _ (by omega)
  generalize othL off (bkKey off s) = oth at *
  generalize markN (bkH C off) s k = mk at *
  generalize mixN k = mx at *
  generalize setF (bkH C off) s 1 1 = f1 at *
  generalize bkH C off = hdr at *
  generalize bkKey off s = bk at *
  clear h hf hr hat1 hat2 h1 hs1 hs2
  go_enter Try.func26, Try.ntmps26
  go_wp2_with (refine wpList_load_row rfl 32 (.tmp 3) rfl w.heap.size rfl 32 A (0, 0) _ X0.out.blk Try.underlying32 rfl HIN.out ?_)
  (with_reducible refine (HF.out _).mono ?_)
  rintro e w1 ⟨rfl, b1⟩
  have X1 := Lib.hid (X0.out.next b1)
  clear b1 X0
  go_wp2_with (refine wpList_load_row rfl 32 (.tmp 3) rfl w.heap.size rfl 32 A (0, 0) _ X1.out.blk Try.underlying32 rfl HIN.out ?_)
  (with_reducible refine (HR.out _).mono ?_)
  rintro e w2 ⟨rfl, b2⟩
  have X2 := Lib.hid (X1.out.next b2)
  clear b2 X1
  go_wp2_with fail
  have X4 := Lib.hid (X2.out.next ((Below.refl _ _).drew))
  clear X2
  refine wp_region_held (S := (fun wx => Bx1 w A 32 wx)) (by kernel_rfl) ?_
  change wpAnyH _ _ _ _ _ _ _ _ (World.drew _)
  refine wpAnyH_take (i := 0) (v := .agg A) rfl (by kernel_rfl) (by kernel_rfl) (by kernel_rfl) (fun _ _ _ h => h) (Or.inl ⟨by kernel_rfl, fun wx hx => exec_load_row 32 (.tmp 3) rfl w.heap.size rfl 32 A (0, 0) _ hx.blk Try.underlying32 rfl HIN.out⟩) X4.out ?_
  refine wpAnyH_take (i := 5) (v := .agg A) rfl (by kernel_rfl) (by kernel_rfl) (by kernel_rfl) (fun _ _ _ h => h) (Or.inl ⟨by kernel_rfl, fun wx hx => exec_load_row 32 (.tmp 3) rfl w.heap.size rfl 32 A (0, 0) _ hx.blk Try.underlying32 rfl HIN.out⟩) X4.out ?_
  refine wpAnyH_take (i := 1) (v := .int .i64 s) rfl (by kernel_rfl) (by kernel_rfl) (by kernel_rfl) (fun _ _ _ h => h) (Or.inl ⟨by kernel_rfl, fun w _ => by go_simp⟩) X4.out ?_
  refine wpAnyH_take (i := 2) (v := .int .i64 (2 * (s : Int))) rfl (by kernel_rfl) (by kernel_rfl) (by kernel_rfl) (fun _ _ _ h => h) (Or.inl ⟨by kernel_rfl, fun w _ => by go_simp⟩) X4.out ?_
  refine wpAnyH_take (i := 3) (v := .int .i64 (2 + 2 * (s : Int))) rfl (by kernel_rfl) (by kernel_rfl) (by kernel_rfl) (fun _ _ _ h => h) (Or.inl ⟨by kernel_rfl, fun w _ => by go_simp⟩) X4.out ?_
  refine wpAnyH_take (i := 6) (v := .int .i64 s) rfl (by kernel_rfl) (by kernel_rfl) (by kernel_rfl) (fun _ _ _ h => h) (Or.inl ⟨by kernel_rfl, fun w _ => by go_simp⟩) X4.out ?_
  refine wpAnyH_take (i := 7) (v := .int .i64 (2 * (s : Int))) rfl (by kernel_rfl) (by kernel_rfl) (by kernel_rfl) (fun _ _ _ h => h) (Or.inl ⟨by kernel_rfl, fun w _ => by go_simp⟩) X4.out ?_
  refine wpAnyH_take (i := 8) (v := .int .i64 (3 + 2 * (s : Int))) rfl (by kernel_rfl) (by kernel_rfl) (by kernel_rfl) (fun _ _ _ h => h) (Or.inl ⟨by kernel_rfl, fun w _ => by go_simp⟩) X4.out ?_
  refine wpAnyH_one (i := 4) (by kernel_rfl) rfl rfl (fun K hK => ?_)
  go_simp
  (with_reducible refine (HAT1.out _).mono ?_)
  rintro e w3 ⟨rfl, b3⟩
  have X5 := Lib.hid (X4.out.next b3)
  clear b3
  go_simp
  refine hK _ _ ⟨X5.out, ?_⟩
  clear hK K
  refine wpAnyH_one (i := 9) (by kernel_rfl) rfl rfl (fun K hK => ?_)
  go_simp
  (with_reducible refine (HAT2.out _).mono ?_)
  rintro e w4 ⟨rfl, b4⟩
  have X6 := Lib.hid (X5.out.next b4)
  clear b4
  go_simp
  refine hK _ _ ⟨X6.out, ?_⟩
  clear hK K
  refine wpAnyH_one (i := 10) (by kernel_rfl) rfl rfl (fun K hK => ?_)
  go_simp
  refine hK _ _ ⟨X6.out, ?_⟩
  clear hK K
  refine wpAnyH_one (i := 11) (by kernel_rfl) rfl rfl (fun K hK => ?_)
  go_simp
  refine hK _ _ ⟨X6.out, ?_⟩
  clear hK K
  refine wpAnyH_done (by kernel_rfl) ?_ _
  clear X4 X5 HAT1 HAT2 HF HR
  have A0 : Hid (Acc w4 w4.heap.size (w4.alloc (.cells #[.int .u8 1, .int .u64 bk, .int .u64 k, .int .u8 1, .int .u64 ((bk : Int) + 8), .int .u64 x] 121)) 121 3 (.slice (some ⟨w4.heap.size, 0, none⟩) 2 2) 2 (instrC [(1, bk, (k : Int)), (1, bk + 8, x)])) := prg_newR w4 [(1, bk, (k : Int)), (1, bk + 8, x)] (by simp) 2 rfl
  go_wp2_with fail
  have KB : Hid (Blk ((w4.alloc (.cells #[.int .u8 1, .int .u64 bk, .int .u64 k, .int .u8 1, .int .u64 ((bk : Int) + 8), .int .u64 x] 121)).alloc (.cells #[.int .u64 bk, .int .u64 ((bk : Int) + 8)] 27)) (w4.heap.size + 1) #[.int .u64 bk, .int .u64 ((bk : Int) + 8)] 27) := by
    show Blk _ _ _ _
    have := Blk.new (w4.alloc (.cells #[.int .u8 1, .int .u64 bk, .int .u64 k, .int .u8 1, .int .u64 ((bk : Int) + 8), .int .u64 x] 121)) #[.int .u64 bk, .int .u64 ((bk : Int) + 8)] 27
    rwa [World.size_alloc] at this
  have X7 : Hid (Bx1 w A 32 ((w4.alloc (.cells #[.int .u8 1, .int .u64 bk, .int .u64 k, .int .u8 1, .int .u64 ((bk : Int) + 8), .int .u64 x] 121)).alloc (.cells #[.int .u64 bk, .int .u64 ((bk : Int) + 8)] 27))) := X6.out.next (below_twice _ _ _)
  have A7 : Hid (Acc w4 w4.heap.size ((w4.alloc (.cells #[.int .u8 1, .int .u64 bk, .int .u64 k, .int .u8 1, .int .u64 ((bk : Int) + 8), .int .u64 x] 121)).alloc (.cells #[.int .u64 bk, .int .u64 ((bk : Int) + 8)] 27)) 121 3 (.slice (some ⟨w4.heap.size, 0, none⟩) 2 2) 2 (instrC [(1, bk, (k : Int)), (1, bk + 8, x)])) := A0.out.keep (below_alloc _ _)
  clear A0
  generalize ((w4.alloc (.cells #[.int .u8 1, .int .u64 bk, .int .u64 k, .int .u8 1, .int .u64 ((bk : Int) + 8), .int .u64 x] 121)).alloc (.cells #[.int .u64 bk, .int .u64 ((bk : Int) + 8)] 27)) = w7 at *
  go_loopw [13, 56] (fun pv y wr => ∃ i : Nat, i ≤ 2 ∧ y = .int .i64 i ∧ Acc w7 w7.heap.size wr 27 1 pv (oth i).length (natsU (oth i))) (fun _ y _ => 2 - (intOf y).toNat)
  case atStart => exact ⟨0, by omega, rfl, by rw [HO0.out]; exact Acc.nil _ _ _ _ _ (Below.refl _ _) (Nat.le_refl _)⟩
  case round =>
    obtain ⟨i, hi, rfl, hacc⟩ := hrel
    have B1 := Lib.hid hacc
    obtain ⟨pa, pc, rfl⟩ := hacc.slice
    clear hacc
    obtain rfl | rfl | rfl : i = 0 ∨ i = 1 ∨ i = 2 := by omega
    · have hol := HOL.out 0
      have cE : wr.cell? ⟨w4.heap.size + 1, 0, none⟩ = some (.int .u64 (bk : Int)) := (KB.out.below B1.out.bel).cell rfl
      have c0 := HC0.out wr (X7.out.next B1.out.bel)
      by_cases e : bk / 64 = off / 64
      · have hq : (((bk : Int) : Int) / 64 != (off : Int) / 64) = false := by simp; omega
        have hn : oth 1 = oth 0 := by rw [HO1.out, if_pos e]; exact HO0.out.symm
        have HN := Lib.hid hn
        clear e hn
        go_wp2_with fail
        go_roundw
        case rel => exact ⟨1, by omega, rfl, by rw [HN.out]; exact B1.out⟩
        case measure => simp [intOf]
      · have hq : (((bk : Int) : Int) / 64 != (off : Int) / 64) = true := by simp; omega
        have hn : oth 1 = oth 0 ++ [bk] := by rw [HO1.out, if_neg e]; rw [HO0.out]; rfl
        have HN := Lib.hid hn
        clear e hn
        go_wp2_with (at_builtin; refine wpList_append_sl _ rfl _ _ 105 rfl 27 j0 _ 1 8 Try.underlying105 J.out.1 J.out.2.1 J.out.2.2.1 J.out.2.2.2 rfl (by decide) _ _ _ rfl (by exact (B1.out.own.alloc _)) _ 1 (natsU [bk]) rfl (by exact RdSl.newAt _ #[.int .u64 (bk : Int)] _ 1 1 _ rfl rfl) (natsU_one31 _) (by unfold maxLen; omega) (by omega) ?_)
        intro v1 w8 o1 g1' b1 n1
        have B2 : Hid (Acc w7 w7.heap.size w8 27 1 v1 (oth 1).length (natsU (oth 1))) := by
          show Acc w7 w7.heap.size w8 27 1 v1 (oth 1).length (natsU (oth 1))
          have := B1.out.next (m := 1) (below_alloc _ _) o1 g1' b1 (by simp)
          rw [HN.out, List.length_append]
          simpa [natsU] using this
        clear o1 g1' b1 n1
        go_wp2_with fail
        go_roundw
        case rel => exact ⟨1, by omega, rfl, B2.out⟩
        case measure => simp [intOf]
    · have hol := HOL.out 1
      have cE : wr.cell? ⟨w4.heap.size + 1, 1, none⟩ = some (.int .u64 ((bk : Int) + 8)) := (KB.out.below B1.out.bel).cell rfl
      have c0 := HC0.out wr (X7.out.next B1.out.bel)
      by_cases e : (bk + 8) / 64 = off / 64
      · have hq : ((((bk : Int) + 8) : Int) / 64 != (off : Int) / 64) = false := by simp; omega
        have hn : oth 2 = oth 1 := by rw [HO2.out, if_pos e]; simp
        have HN := Lib.hid hn
        clear e hn
        go_wp2_with fail
        go_roundw
        case rel => exact ⟨2, by omega, rfl, by rw [HN.out]; exact B1.out⟩
        case measure => simp [intOf]
      · have hq : ((((bk : Int) + 8) : Int) / 64 != (off : Int) / 64) = true := by simp; omega
        have hn : oth 2 = oth 1 ++ [(bk + 8)] := by rw [HO2.out, if_neg e]
        have HN := Lib.hid hn
        clear e hn
        go_wp2_with (at_builtin; refine wpList_append_sl _ rfl _ _ 105 rfl 27 j0 _ 1 8 Try.underlying105 J.out.1 J.out.2.1 J.out.2.2.1 J.out.2.2.2 rfl (by decide) _ _ _ rfl (by exact (B1.out.own.alloc _)) _ 1 (natsU [(bk + 8)]) rfl (by exact RdSl.newAt _ #[.int .u64 ((bk : Int) + 8)] _ 1 1 _ rfl rfl) (natsU_one31 _) (by unfold maxLen; omega) (by omega) ?_)
        intro v1 w8 o1 g1' b1 n1
        have B2 : Hid (Acc w7 w7.heap.size w8 27 1 v1 (oth 2).length (natsU (oth 2))) := by
          show Acc w7 w7.heap.size w8 27 1 v1 (oth 2).length (natsU (oth 2))
          have := B1.out.next (m := 1) (below_alloc _ _) o1 g1' b1 (by simp)
          rw [HN.out, List.length_append]
          simpa [natsU] using this
        clear o1 g1' b1 n1
        go_wp2_with fail
        go_roundw
        case rel => exact ⟨2, by omega, rfl, B2.out⟩
        case measure => simp [intOf]
    · have RD := Lib.hid B1.out.rd
      go_wp2_with fail
      (with_reducible refine (HFL.out _ _ RD.out).mono ?_)
      rintro e w9 ⟨fv, rfl, hf⟩
      have F9 := Lib.hid hf
      have A9 := Lib.hid (A7.out.keep (B1.out.bel.trans (hf.bel.mono B1.out.bel.size)))
      obtain ⟨fa, fc, rfl⟩ := hf.slice
      clear hf RD
      generalize flushL (oth 2) = fl at *
      go_wp2_with ((at_builtin; refine wpList_append_sl _ rfl _ _ 67 rfl 121 i0 _ 3 24 Try.underlying67 I.out.1 I.out.2.1 I.out.2.2.1 I.out.2.2.2 rfl (by decide) _ _ _ rfl (by exact A9.out.own) _ _ _ rfl (by exact F9.out.rd) (instrC_one _) (by unfold maxLen; omega) (by omega) ?_))
      intro v1 w10 o1 g1' b1 n1
      obtain ⟨va1, vc1, hv1⟩ := o1.slice
      subst hv1
      have A10 := Lib.hid (A9.out.next (m := fl.length) (Below.refl _ _) o1 g1' b1 (Nat.le_refl _))
      clear o1 g1' b1 n1 F9 A9
      have X10 := Lib.hid (X6.out.next A10.out.bel)
      have c1 := HC1.out w10 X10.out
      go_wp2_with fail
      (with_reducible refine (HS1.out _).mono ?_)
      rintro e w' ⟨rfl, rfl⟩
      go_wp2_with fail
      (with_reducible refine (HMX.out _).mono ?_)
      rintro e w' ⟨rfl, rfl⟩
      go_wp2_with fail
      (with_reducible refine (HS2.out _).mono ?_)
      rintro e w' ⟨rfl, rfl⟩
      clear c1
      go_wp2_with (refine wpList_load_row rfl 32 (.tmp 3) rfl w.heap.size rfl 32 A (0, 0) _ X10.out.blk Try.underlying32 rfl HIN.out ?_)
      (with_reducible refine (HH.out _).mono ?_)
      rintro e w11 ⟨hv, rfl, hh⟩
      have H11 := Lib.hid hh
      have A11 := Lib.hid (A10.out.keep hh.bel)
      obtain ⟨ha, hc, rfl⟩ := hh.slice
      clear hh
      have hst : (storesL [(off, (mk : Int))]).length ≤ 3 := Nat.le_refl 3
      generalize storesL [(off, (mk : Int))] = sl at *
      go_wp2_with (at_builtin; refine wpList_append_sl _ rfl _ _ 67 rfl 121 i0 _ 3 24 Try.underlying67 I.out.1 I.out.2.1 I.out.2.2.1 I.out.2.2.2 rfl (by decide) _ _ _ rfl (by exact A11.out.own) _ _ _ rfl (by exact H11.out.rd) (instrC_one _) (by unfold maxLen; omega) (by omega) ?_)
      intro v2 w12 o1 g1' b1 n1
      obtain ⟨va2, vc2, hv2⟩ := o1.slice
      subst hv2
      have A12 := Lib.hid (A11.out.next (m := sl.length) (Below.refl _ _) o1 g1' b1 (Nat.le_refl _))
      clear o1 g1' b1 n1 H11 A11
      go_wp2_with fail
      go_ret2
      refine ⟨_, rfl, ?_⟩
      have := Acc.mid (_wz := w) X6.out.bel A12.out
      rw [← instrC_append, ← instrC_append] at this
      exact this.congr (by simp; omega) rfl
theorem r31Put_any (h : RefB A C off) (k : Nat) (hk : k < 18446744073709551616) (x : Int) : Calls Try.prog 26 #[.agg A, .int .u64 k, .int .u64 x] w (ProgR w (putL C off k x) (putE C off k)) := by
  unfold putL putE
  rcases fnd_cases C off k with ⟨e, _⟩ | ⟨s, e, hs, _⟩
  · rw [e, if_neg (show ¬ (0:Int) ≤ -1 by decide), if_neg (show ¬ (0:Int) ≤ -1 by decide)]
    rcases fre_cases (bkH C off) with ⟨e2, _⟩ | ⟨s, e2, hs, _⟩
    · rw [e2, if_neg (show ¬ (0:Int) ≤ -1 by decide), if_neg (show ¬ (0:Int) ≤ -1 by decide)]
      exact r31Put_full h k x e e2
    · rw [e2, if_pos (show (0:Int) ≤ (s : Nat) by omega), if_pos (show (0:Int) ≤ (s : Nat) by omega)]
      exact r31Put_new h k hk x e s hs e2
  · rw [e, if_pos (show (0:Int) ≤ (s : Nat) by omega), if_pos (show (0:Int) ≤ (s : Nat) by omega)]
    exact r31Put_rep h k x s hs e
theorem r31Delete_any (h : RefB A C off) (k : Nat) : Calls Try.prog 27 #[.agg A, .int .u64 k] w (ProgR w (delL C off k) (delE C off k)) := by
  unfold delL delE
  rcases fnd_cases C off k with ⟨e, _⟩ | ⟨s, e, hs, _⟩
  · rw [e, if_neg (show ¬ (0:Int) ≤ -1 by decide), if_neg (show ¬ (0:Int) ≤ -1 by decide)]
    exact r31Delete_none h k e
  · rw [e, if_pos (show (0:Int) ≤ (s : Nat) by omega), if_pos (show (0:Int) ≤ (s : Nat) by omega)]
    exact r31Delete_some h k s hs e
end
end Go.Proofs.Ytpkilmnppdbnkaa
