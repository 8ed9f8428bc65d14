/- The reference of layer 15: Program. -/
import Derived.Test.YtfigngoojphffaaDoorRdoY
namespace Go.Proofs.YtfigngoojphffaaDoor
open Go.RowKit Go.Maps
attribute [local go_sem ↓] Go.wp_at_zero Go.wp_at_succ

/-- Words as writes, from base on. -/
def planI (b : Nat) : List Nat → List (Nat × Int)
  | [] => []
  | x :: l => (b, (x : Int)) :: planI (b + 8) l
theorem planI_snoc (l : List Nat) (x : Nat) : ∀ b, planI b (l ++ [x]) = planI b l ++ [(b + 8 * l.length, (x : Int))] := by
  induction l with
  | nil => intro b; rfl
  | cons y l ih => intro b; simp only [List.cons_append, planI, ih, List.length_cons]; rw [show b + 8 + 8 * l.length = b + 8 * (l.length + 1) by omega]
theorem planI_len (l : List Nat) : ∀ b, (planI b l).length = l.length := by
  induction l with
  | nil => intro b; rfl
  | cons y l ih => intro b; simp [planI, ih]
theorem planI_ent (W : List (Nat × Int)) (h : ∀ e ∈ W, 0 ≤ e.2) : ∀ b, planI b (entW W) = planWs b W := by
  induction W with
  | nil => intro b; rfl
  | cons e l ih =>
    intro b
    have he := h e (by simp)
    show planI b (e.1 :: e.2.toNat :: entW l) = _
    simp only [planI, planWs]
    rw [ih (fun e he => h e (List.mem_cons_of_mem _ he)), Int.toNat_of_nonneg he]
/-- The box of a log lies where it was laid. -/
structure Lg (w : World) (b : Nat) : Prop where
  c0 : w.cell? ⟨b, 0, none⟩ = some (.int .u64 320)
  c1 : w.cell? ⟨b, 1, none⟩ = some (.int .u64 1984)
  c2 : w.cell? ⟨b, 2, none⟩ = some (.int .u64 2560)
theorem Lg.lt {w : World} {b : Nat} (h : Lg w b) : b < w.heap.size := World.block_lt_of_cell? w _ h.c0
theorem Lg.acc {w0 w : World} {b : Nat} (h : Lg w0 b) (hb : Below w0.heap.size w0 w) : Lg w b := ⟨cell_bel hb h.c0, cell_bel hb h.c1, cell_bel hb h.c2⟩
theorem Lg.new (w : World) : Lg (w.alloc (.cells #[.int .u64 320, .int .u64 1984, .int .u64 2560] 42)) w.heap.size := ⟨(Blk.new w _ _).cell rfl, (Blk.new w _ _).cell rfl, (Blk.new w _ _).cell rfl⟩
section
variable {w : World}
set_option maxRecDepth 100000 in
set_option maxHeartbeats 8000000 in
theorem r15Program_any (sv : Value) (l : List (Nat × Int)) (hs : RdSl w 2 sv l.length (flat l)) (hl : l.length ≤ 1000) (hb : ∀ e ∈ l, e.1 < 18446744073709551616 ∧ 0 ≤ e.2 ∧ e.2 < 18446744073709551616) :
    Calls Tryd.prog 18 #[.agg #[.int .u64 320, .int .u64 1984, .int .u64 2560], sv] w fun r w' => ∃ ov, r = .returned ov ∧ Acc w w.heap.size w' 49 3 ov (rPlanP 320 (lastL l)).length (instrC (rPlanP 320 (lastL l))) := by
  obtain ⟨k0, hi0, hz0, hz1, hz2⟩ := info_parts infoRI
  have I2 := Lib.hid (And.intro hi0 (And.intro hz0 (And.intro hz1 hz2))); clear hi0 hz0 hz1 hz2
  obtain ⟨k1, hi0, hz0, hz1, hz2⟩ := info_parts infoRW
  have I3 := Lib.hid (And.intro hi0 (And.intro hz0 (And.intro hz1 hz2))); clear hi0 hz0 hz1 hz2
  have L0 := Lib.hid (Lg.new w)
  have BX := Lib.hid (below_alloc w (.cells #[.int .u64 320, .int .u64 1984, .int .u64 2560] 42))
  have HWR := Lib.hid (r15Writes_any (w := (w.alloc (.cells #[.int .u64 320, .int .u64 1984, .int .u64 2560] 42))) sv l (hs.alloc _) (by omega))
  obtain ⟨_, sa, sc, rfl, hsc, _⟩ := hs
  have hWb : ∀ e ∈ lastL l, e.1 < 18446744073709551616 ∧ 0 ≤ e.2 ∧ e.2 < 18446744073709551616 := fun e he => hb e (lastL_mem _ e he)
  have hWl := lastL_len l
  generalize lastL l = W at *
  have HEN := Lib.hid (fun (wx : World) (u : Value) (h : RdSl wx 2 u W.length (flat W)) => r15entries_any u W h (by omega) (fun e he => (hWb e he).2.1))
  have HCM := Lib.hid (fun (wx : World) (u : Value) (h : RdSl wx 2 u W.length (flat W)) => r15Commit_any u W h (by omega) hWb)
  have HSW := Lib.hid (fun (wx : World) (u : Value) (h : RdSl wx 2 u W.length (flat W)) => r10Stores_any u W h (by omega) (fun e he => (hWb e he).1))
  have HPI := Lib.hid (planI_ent W (fun e he => (hWb e he).2.1) 384)
  have hpw := planWs_bd W 384
  have HSP := Lib.hid (fun (wx : World) (u : Value) (h : RdSl wx 2 u (planWs 384 W).length (flat (planWs 384 W))) => r10Stores_any u (planWs 384 W) h (by rw [planWs_len]; omega) (fun e he => by have := hpw e he; omega))
  have HSC := Lib.hid (fun (wx : World) (x : Int) => r10Stores_any (w := wx.alloc (.cells #[.int .u64 320, .int .u64 x] 68)) (.slice (some ⟨wx.heap.size, 0, none⟩) 1 1) [(320, x)] (RdSl.new wx #[.int .u64 320, .int .u64 x] 68 2 1 rfl) (by simp) (fun e he => by simp at he; subst he; simp))
  have HLE := Lib.hid (entW_len W)
  have HS1 := Lib.hid (storesL_len W); have HS2 := Lib.hid (storesL_len (planWs 384 W)); have HS3 := Lib.hid (planWs_len W 384); have HS4 := Lib.hid (fun x => storesL_len [(320, x)])
  generalize hcm : cmtN W = cm at *
  have HCN := Lib.hid hcm
  generalize hn : l.length = n at *
  generalize hm : W.length = m at *
  have HM := Lib.hid hm
  clear hb hWb hpw hcm hn hm
  go_enter Tryd.func18, Tryd.ntmps18
  go_wp2_with fail
  (with_reducible refine HWR.out.mono ?_)
  rintro e w1 ⟨ov, rfl, a1⟩
  obtain ⟨wa, wc, hov⟩ := a1.slice
  subst hov
  have B1 := Lib.hid (BX.out.trans (a1.bel.mono BX.out.size))
  have L1 := Lib.hid (L0.out.acc a1.bel)
  have R1 := Lib.hid a1.rd
  clear a1 HWR L0 BX
  by_cases h0 : m = 0
  · have hb0 : ((m : Int) == 0) = true := by simp; omega
    have HW : Hid (W = []) := List.length_eq_zero_iff.1 (by rw [HM.out]; exact h0)
    clear h0
    go_wp2_with fail
    go_ret
    exact ⟨_, rfl, by rw [HW.out]; exact Acc.nil w _ _ _ _ B1.out B1.out.size⟩
  have hb0 : ((m : Int) == 0) = false := by simp; omega
  have HNE : Hid (W ≠ []) := fun h => h0 (by rw [← HM.out, h]; rfl)
  clear h0
  go_wp2_with fail
  (with_reducible refine (HEN.out _ _ R1.out).mono ?_)
  rintro e w2 ⟨ov, rfl, a2⟩
  obtain ⟨ea, ec, hov⟩ := a2.slice
  subst hov
  have B2 := Lib.hid (B1.out.trans (a2.bel.mono B1.out.size))
  have L2 := Lib.hid (L1.out.acc a2.bel)
  have R2 := Lib.hid (R1.out.below a2.bel)
  have E2 := Lib.hid a2.rd
  clear a2 B1 L1 R1
  go_wp2_with fail
  go_loopw [5, 17] (fun ov y wr => ∃ k : Nat, k ≤ 2 * m ∧ y = .int .i64 k ∧ Acc w2 w2.heap.size wr 68 2 ov k (flat (planI 384 ((entW W).take k)))) (fun _ y _ => 2 * m - (intOf y).toNat)
  case atStart => exact ⟨0, by omega, rfl, Acc.nil w2 _ _ _ _ (Below.refl _ _) (Nat.le_refl _)⟩
  case round =>
    obtain ⟨k, hk, rfl, ha⟩ := hrel
    obtain ⟨oa, oc, hov⟩ := ha.slice
    subst hov
    have A := Lib.hid ha; clear ha
    have L3 := Lib.hid (L2.out.acc A.out.bel)
    have c0 := L3.out.c0
    by_cases hlt : k < 2 * m
    · have hk' : (k : Int) < ((2 * m : Nat) : Int) := by omega
      obtain ⟨x, hx⟩ : ∃ x, (entW W)[k]? = some x := ⟨_, List.getElem?_eq_getElem (by rw [HLE.out]; exact hlt)⟩
      obtain ⟨_, a', c', e', _, hE⟩ := E2.out.below A.out.bel
      cases e'
      have hg : (natsU (entW W))[k]? = some (.int .u64 (x : Nat)) := by simp [natsU, hx]
      obtain ⟨eb, eo, rfl, hE2⟩ := rd_at hE hg
      have d1 := hE2 _ _ hg
      obtain ⟨t, ht⟩ : ∃ t, 384 + 8 * k = t := ⟨_, rfl⟩
      have htI : (384 : Int) + 8 * (k : Int) = (t : Int) := by omega
      have htb : t < 18446744073709551616 := by omega
      have HT : Hid (planI 384 ((entW W).take (k + 1)) = planI 384 ((entW W).take k) ++ [(t, (x : Int))]) := by
        show _ = _
        have hl : ((entW W).take k).length = k := by rw [List.length_take, HLE.out]; omega
        rw [take_snoc_get (entW W) k x hx, planI_snoc, hl, ht]
      clear hE hE2 hg hx ht
      go_wp2_with (at_builtin; refine wpList_append_sl _ rfl _ _ 31 rfl 68 k1 _ 2 16 Tryd.underlying31 I3.out.1 I3.out.2.1 I3.out.2.2.1 I3.out.2.2.2 rfl (by decide) _ k (flat (planI 384 ((entW W).take k))) rfl (by exact A.out.own.alloc _) _ 1 (flat [(t, (x : Int))]) rfl (by exact RdSl.newAt _ _ _ 2 1 _ (by simp) rfl) (flat_one _) (by unfold maxLen; omega) (by omega) ?_)
      intro v1 w4 o1 g1 b1 n1
      have A4 := Lib.hid (A.out.next (below_alloc _ _) o1 g1 b1 (by simp)); clear o1 g1 b1 n1
      go_wp2_with fail
      go_roundw
      case rel => exact ⟨k + 1, by omega, by go_num, A4.out.congr rfl (by rw [HT.out, flat_append])⟩
      case measure => simp [intOf]; omega
    · obtain rfl : k = 2 * m := by omega
      have hF : (entW W).take (2 * m) = entW W := List.take_of_length_le (by rw [HLE.out]; omega)
      rw [hF, HPI.out] at A
      clear hF
      have A' := Lib.hid (A.out.congr HS3.out.symm rfl)
      have B3 := Lib.hid (B2.out.trans (A.out.bel.mono B2.out.size))
      have R3 := Lib.hid (R2.out.below A.out.bel)
      have HST := Lib.hid (HSP.out wr _ A'.out.rd)
      have hp1 := HS2.out
      have hs1 := HS4.out (cm : Int)
      have hs2 := HS1.out
      have hs3 := HS4.out 0
      rw [HS3.out] at hp1
      have hpa : (storesL (planWs 384 W)).length ≤ 5000 := by omega
      have hpb : (storesL [(320, (cm : Int))]).length ≤ 5000 := by simp only [List.length_singleton] at hs1; omega
      have hpc : (storesL W).length ≤ 5000 := by omega
      have hpd : (storesL [(320, (0 : Int))]).length ≤ 5000 := by simp only [List.length_singleton] at hs3; omega
      clear hp1 hs1 hs2 hs3
      have HPL : Hid (rPlanP 320 W = (storesL (planWs 384 W) ++ storesL [(320, (cm : Int))]) ++ (storesL W ++ storesL [(320, 0)])) := by
        show _ = _
        unfold rPlanP rFinP
        rw [if_neg HNE.out, HCN.out]
      have HSB := Lib.hid (HSC.out · (cm : Int)); have HS0 := Lib.hid (HSC.out · 0)
      clear A' A HSC HS4 HS1 HS2 HS3 HSP c0 L2 R2 B2 E2
      generalize storesL (planWs 384 W) = P1 at *
      generalize storesL [(320, (cm : Int))] = P2 at *
      generalize storesL W = P3 at *
      generalize storesL [(320, (0 : Int))] = P4 at *
      go_wp2_with fail
      (with_reducible refine HST.out.mono ?_)
      rintro e w5 ⟨ov, rfl, a5⟩
      obtain ⟨pa, pc, hov⟩ := a5.slice
      subst hov
      have A5 := Lib.hid a5
      have L5 := Lib.hid (L3.out.acc a5.bel)
      have R5 := Lib.hid (R3.out.below a5.bel)
      clear a5 HST
      have c0 : w5.drew.cell? ⟨w.heap.size, 0, none⟩ = some (.int .u64 320) := L5.out.c0
      generalize hp : P1.length = p1 at *
      generalize hq : P2.length = p2 at *
      generalize hr : P3.length = p3 at *
      generalize ht : P4.length = p4 at *
      have HLN : Hid (((P1 ++ P2) ++ (P3 ++ P4)).length = p1 + p2 + p3 + p4) := by show _ = _; simp only [List.length_append]; omega
      clear hp hq hr ht
      go_upto_region 11 with fail
      go_cut [8] from 37 to 45 (fun ov wx => Acc wr wr.heap.size wx 49 3 ov (p1 + p2) (instrC (P1 ++ P2)))
      case first =>
        go_region_law (first | (go_simp; go_at_call 56; (with_reducible refine (HCM.out _ _ R5.out.drew).mono ?_); rintro e w6 ⟨rfl, b6⟩; have B6 := Lib.hid (bdrew b6); have A6 := Lib.hid (A5.out.keep B6.out); have z6 := (L5.out.acc B6.out).c0; clear b6) | (go_simp; go_at_call 55; (with_reducible refine (HSB.out w6).mono ?_); rintro e w7 ⟨sv7, rfl, a7⟩; obtain ⟨sa7, sc7, hsv7⟩ := a7.slice; subst hsv7; have B7 := Lib.hid ((below_alloc w6 _).trans (a7.bel.mono (by simp))); have A7 := Lib.hid (A6.out.keep B7.out); have S7 := Lib.hid a7.rd; clear a7) | (refine step_append_sl rfl (.tmp 37) (.tmp 44) 44 rfl 49 k0 _ 3 24 Tryd.underlying44 I2.out.1 I2.out.2.1 I2.out.2.2.1 I2.out.2.2.2 rfl (by decide) (.slice pa p1 pc) p1 (instrC P1) rfl (by exact A7.out.own) _ p2 (instrC P2) rfl (by exact S7.out) (instrC_one _) (by unfold maxLen; omega) (by omega) ?_; intro v8 w8 o8 g8 b8; have A8 := Lib.hid (A7.out.next (Below.refl _ _) o8 g8 b8 (Nat.le_refl _)); clear o8 g8 b8))
        all_goals go_wp2_with fail
        all_goals go_meet
        all_goals exact A8.out.congr rfl (by rw [instrC_append])
      case rest =>
        rename World => w8
        obtain ⟨ga, gc, hgv⟩ := hcut.slice
        subst hgv
        have A8 := Lib.hid hcut; clear hcut
        have R8 := Lib.hid (R3.out.below A8.out.bel)
        clear c0 A5 L5 R5
        go_wp2_with fail
        (with_reducible refine (HSW.out _ _ R8.out).mono ?_)
        rintro e w9 ⟨ov9, rfl, a9⟩
        obtain ⟨ha, hc, hov⟩ := a9.slice
        subst hov
        have A9 := Lib.hid (A8.out.keep a9.bel); have S9 := Lib.hid a9.rd
        clear a9 A8 R8
        go_wp2_with (at_builtin; refine wpList_append_sl _ rfl _ _ 44 rfl 49 k0 _ 3 24 Tryd.underlying44 I2.out.1 I2.out.2.1 I2.out.2.2.1 I2.out.2.2.2 rfl (by decide) _ (p1 + p2) (instrC (P1 ++ P2)) rfl (by exact A9.out.own) _ p3 (instrC P3) rfl (by exact S9.out) (instrC_one _) (by unfold maxLen; omega) (by omega) ?_)
        intro v10 w10 o1 g1 b1 n1
        have A10 := Lib.hid (A9.out.next (Below.refl _ _) o1 g1 b1 (Nat.le_refl _)); clear o1 g1 b1 n1 A9 S9
        obtain ⟨ia, ic, hiv⟩ := A10.out.slice
        subst hiv
        have L10 := Lib.hid (L3.out.acc A10.out.bel)
        have c0 := L10.out.c0
        go_wp2_with fail
        (with_reducible refine (HS0.out _).mono ?_)
        rintro e w11 ⟨ov11, rfl, a11⟩
        obtain ⟨ja, jc, hov⟩ := a11.slice
        subst hov
        have A11 := Lib.hid (A10.out.keep ((below_alloc w10 _).trans (a11.bel.mono (by simp)))); have S11 := Lib.hid a11.rd
        clear a11 A10 c0 L10
        go_wp2_with (at_builtin; refine wpList_append_sl _ rfl _ _ 44 rfl 49 k0 _ 3 24 Tryd.underlying44 I2.out.1 I2.out.2.1 I2.out.2.2.1 I2.out.2.2.2 rfl (by decide) _ (p1 + p2 + p3) (instrC (P1 ++ P2) ++ instrC P3) rfl (by exact A11.out.own) _ p4 (instrC P4) rfl (by exact S11.out) (instrC_one _) (by unfold maxLen; omega) (by omega) ?_)
        intro v12 w12 o1 g1 b1 n1
        have o1' : OwnSl w12 49 3 v12 (p1 + p2 + p3 + p4) ((instrC (P1 ++ P2) ++ instrC P3) ++ instrC P4) := by rw [List.append_assoc]; exact o1
        have A12 := Lib.hid (A11.out.next (Below.refl _ _) o1' g1 b1 (Nat.le_refl _)); clear o1'; clear o1 g1 b1 n1 A11 S11
        go_wp2_with fail
        go_ret
        exact ⟨_, rfl, by rw [HPL.out, HLN.out]; exact (A12.out.congr rfl (by rw [← instrC_append, ← instrC_append, List.append_assoc])).deeper B3.out⟩
end
end Go.Proofs.YtfigngoojphffaaDoor
