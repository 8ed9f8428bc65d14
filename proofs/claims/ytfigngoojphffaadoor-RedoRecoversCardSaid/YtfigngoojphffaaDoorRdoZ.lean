/- The walk of RedoPlans. -/
import Derived.Test.YtfigngoojphffaaDoorRdoF
import Derived.Test.YtfigngoojphffaaDoorRdoN
import Derived.Test.YtfigngoojphffaaDoorEqR
import Derived.Test.YtfigngoojphffaaDoorDevK
namespace Go.Proofs.YtfigngoojphffaaDoor
open Go.RowKit Go.Maps
attribute [local go_sem ↓] Go.wp_at_zero Go.wp_at_succ

theorem RCl.dirty {D : Dev} {C : Nat → Int} {x : Nat} (h : RCl D C x) : D.dirtyL = [] := by
  unfold Dev.dirtyL
  rw [List.filter_eq_nil_iff]
  intro l _
  rw [h.grp.hst.hist l]; simp
theorem wrL_bd {l : List (Nat × Int)} (h : ∀ e ∈ l, e.1 < 256 ∧ 0 ≤ e.2 ∧ e.2 < 18446744073709551616) : ∀ e ∈ wrL l, e.1 < 18446744073709551616 ∧ 0 ≤ e.2 ∧ e.2 < 18446744073709551616 := fun e he => by
  unfold wrL at he
  obtain ⟨x, hx, rfl⟩ := List.mem_map.1 he
  have := h x hx
  have h2 := offR_lt x.1 this.1
  simp only
  omega
section
variable {w1 wc wd : World} {v : DV} {lb y : Nat} {D : Dev} {C : Nat → Int} {own : Nat → Option Role}
theorem dirty15 (h : IsDev wc v own D) (hc : RCl D C y) : Calls Tryd.prog 19 #[.pointer (some ⟨v.db, 0, none⟩)] wc fun r w' => ∃ a c, r = .returned (.slice a 0 c) ∧ Below wc.heap.size wc w' := by
  refine (dirty_any h).mono ?_
  rintro r w' ⟨sv, rfl, ha⟩
  rw [hc.dirty] at ha
  obtain ⟨a, c, rfl⟩ := ha.slice
  exact ⟨a, c, rfl, ha.bel⟩
/-- Plan of any writes on a clean device with an idle log. -/
theorem plan15 (h : RSt w1 v own D lb 0 320 1664 wc) (hN : Nib wc) (hc : RCl D C y) (hC : C 40 = 0) (u : Value) (l : List (Nat × Int)) (hl : l.length ≤ 1000) (hb : ∀ e ∈ l, e.1 < 18446744073709551616 ∧ 0 ≤ e.2 ∧ e.2 < 18446744073709551616) (hu : RdSl wc 2 u l.length (flat l)) :
    Calls Tryd.prog 14 #[.pointer (some ⟨lb, 0, none⟩), u] wc fun r w' => (chkR l ≠ 0 ∧ ErrNil wc (chkR l) r w') ∨
      (chkR l = 0 ∧ ∃ ov, r = .returned (.tuple #[ov, .int .i64 0]) ∧ Acc wc wc.heap.size w' 47 3 ov (rPlanP 320 (lastL l)).length (instrC (rPlanP 320 (lastL l)))) := by
  by_cases hg : ∀ e ∈ l, rAllowB 2560 320 1664 e.1 = true
  · have hP := rdPlan_live hN h.log hc.grp.on.off hc.grp.on.err hc.vb u l hu hl hb (by rw [hc.grp.on.n]; exact hg)
    rw [hc.cur] at hP
    refine hP.mono ?_
    rw [chkR_good hg]
    rintro r w' (⟨h1, h2⟩ | ⟨_, h1, _⟩ | ⟨h1, _, h2⟩)
    · rw [if_pos h1]; exact .inl ⟨by omega, h2⟩
    · exact absurd hC h1
    · rw [if_neg h1]; exact .inr ⟨rfl, h2⟩
  · have hbad : ∃ e ∈ l, rAllowB 2560 320 1664 e.1 = false := by
      apply Classical.byContradiction
      intro hn
      apply hg
      intro e he
      cases hh : rAllowB 2560 320 1664 e.1
      · exact absurd ⟨e, he, hh⟩ hn
      · rfl
    obtain ⟨e, he, h2⟩ := hbad
    have hP := rdPlan_bad h.log u l hu hl (fun e he => (hb e he).1) ⟨e, he, by rw [hc.grp.on.n]; exact h2⟩
    rw [chkR_bad he h2]
    exact hP.mono fun r w' h => .inl ⟨by omega, h⟩
end
section
variable {w : World}
set_option maxRecDepth 100000 in
set_option maxHeartbeats 16000000 in
theorem redoPlans_any (hN : Nib w) (hW : Wr w) (sv : Value) (l : List (Nat × Int)) (hs : RdSl w 2 sv l.length (pairC l)) (hb : ∀ e ∈ l, e.1 < 256 ∧ 0 ≤ e.2 ∧ e.2 < 18446744073709551616) (_hl : l.length ≤ maxLen) :
    Calls Tryd.prog 3 #[sv] w fun r w' => r = .returned (.bool true) ∧ Below w.heap.size w w' := by
  have HNB := Lib.hid hN; have HWR := Lib.hid hW; clear hN hW
  have HS := Lib.hid hs; have HB := Lib.hid hb
  obtain ⟨_, sa, sc, rfl, hsc, _⟩ := hs
  have HWB := Lib.hid (wrL_bd hb)
  obtain ⟨i0, hi0, hz0, hz1, hz2⟩ := info_parts infoRI
  have I2 := Lib.hid (And.intro hi0 (And.intro hz0 (And.intro hz1 hz2))); clear hi0 hz0 hz1 hz2 hb
  have HWL := Lib.hid (wrL_len l)
  obtain ⟨n, hn⟩ : ∃ n, l.length = n := ⟨_, rfl⟩
  have HLN := Lib.hid hn
  rw [hn] at hsc HWL HS
  rw [hn]
  clear hn _hl
  by_cases h120 : 120 < n
  · have h120' : (120 : Int) < n := by omega
    go_enter Tryd.func3, Tryd.ntmps3
    go_wp2_with fail
    (with_reducible refine (awake15 HNB.out).mono ?_)
    rintro e w1 ⟨rfl, b1⟩
    go_wp2_with fail
    go_ret
    exact ⟨rfl, b1⟩
  have h120' : ¬ (120 : Int) < n := by omega
  go_enter Tryd.func3, Tryd.ntmps3
  go_wp2_with fail
  (with_reducible refine (awake15 HNB.out).mono ?_)
  rintro e w1 ⟨rfl, b1⟩
  have B1 := Lib.hid b1; clear b1
  go_wp2_with fail
  (with_reducible refine made15.mono ?_)
  rintro e w2 ⟨v, own, lb, rfl, l2⟩
  have L2 := Lib.hid l2; clear l2
  go_wp2_with fail
  (with_reducible refine (current15 L2.out.log.dev D15_rcl.1).mono ?_)
  rintro e w3 ⟨rfl, r3, b3⟩
  have L3 := Lib.hid (L2.out.next b3); clear b3 L2
  have y1 := conv_row (w := w3) (g := w2.heap.size) (c := 2560) (a := 0) (n := 2560) (f := C15) r3 (by omega)
  generalize hstr : strB C15 0 2560 = str at *
  have HSTR := Lib.hid hstr
  have HWT := Lib.hid (l15writes_any (w := w3) (.slice sa n sc) l (by rw [HLN.out]; exact HS.out.below (B1.out.trans (L3.out.bel.mono B1.out.size))) (fun e he => (HB.out e he).1) (by rw [HLN.out]; omega))
  clear r3 hstr
  go_wp2_with fail
  (with_reducible refine HWT.out.mono ?_)
  rintro e w4 ⟨u4, v4, rfl, p4⟩
  rw [HWL.out] at p4
  obtain ⟨ua, uc, hu4⟩ := p4.a.slice
  subst hu4
  obtain ⟨va, vc, hv4⟩ := p4.b.slice
  subst hv4
  have L4 := Lib.hid (L3.out.next p4.a.bel)
  have U4 := Lib.hid p4.a.rd; have V4 := Lib.hid p4.b.rd
  clear p4 HWT L3 HB HS y1
  generalize wrL l = W at *
  have HPL := Lib.hid (fun (wx : World) (h : RSt w1 v own D15 lb 0 320 1664 wx) (hu : RdSl wx 2 (.slice ua n uc) n (flat W)) => plan15 h (HNB.out.below (B1.out.trans (h.bel.mono B1.out.size))) D15_rcl.1 C15_40 (.slice ua n uc) W (by rw [HWL.out]; omega) HWB.out (by rw [HWL.out]; exact hu))
  have HCK := Lib.hid (fun (wx : World) (hu : RdSl wx 2 (.slice va n vc) n (flat W)) => r15Check_any (.slice va n vc) W (by rw [HWL.out]; exact hu) (by rw [HWL.out]; omega) (fun e he => (HWB.out e he).1))
  go_wp2_with fail
  (with_reducible refine (HPL.out _ L4.out U4.out).mono ?_)
  rintro e w5 (⟨hc, rfl, b5⟩ | ⟨hc, ov, rfl, a5⟩)
  · have L5 := Lib.hid (L4.out.next b5); have U5 := Lib.hid (U4.out.below b5); have V5 := Lib.hid (V4.out.below b5)
    clear b5 L4 U4 V4
    generalize chkR W = c at *
    have hcn : (c != 0) = true := by simpa using hc
    have hce : (c == c) = true := by simp
    have HC := Lib.hid hc; clear hc
    have W5 := Lib.hid (HWR.out.below (B1.out.trans (L5.out.bel.mono B1.out.size)))
    have g0 := W5.out.c0; have g1 := W5.out.c1; have g2 := W5.out.c2
    go_wp2_with fail
    (with_reducible refine (HCK.out _ V5.out).mono ?_)
    rintro e w6 ⟨rfl, b6⟩
    have L6 := Lib.hid (L5.out.next b6); have U6 := Lib.hid (U5.out.below b6)
    clear b6 L5 U5 V5 W5 g0 g1 g2
    have HCE := Lib.hid (rdCommit_err (.slice ua n uc) HC.out ((HPL.out _ L6.out U6.out).mono fun r w' h => h.elim (fun h => h.2) (fun h => absurd h.1 HC.out)))
    go_wp2_with fail
    (with_reducible refine HCE.out.mono ?_)
    rintro e w7 ⟨rfl, b7⟩
    have L7 := Lib.hid (L6.out.next b7); clear b7 L6 U6 HCE
    go_wp2_with fail
    (with_reducible refine (current15 L7.out.log.dev D15_rcl.1).mono ?_)
    rintro e w8 ⟨rfl, r8, b8⟩
    have L8 := Lib.hid (L7.out.next b8); clear b8 L7
    have y1 := conv_row (w := w8) (g := w7.heap.size) (c := 2560) (a := 0) (n := 2560) (f := C15) r8 (by omega)
    rw [HSTR.out] at y1
    clear r8
    have hbl := bl_true (x := str) rfl
    go_wp2_with fail
    go_ret
    exact ⟨rfl, B1.out.trans (L8.out.bel.mono B1.out.size)⟩
  · obtain ⟨oa, oc, hov⟩ := a5.slice
    subst hov
    have hwl := lastL_len W
    rw [HWL.out] at hwl
    have hpl := rPlanP_len 320 (lastL W)
    have HPG := Lib.hid (fun (wx : World) (hu : RdSl wx 2 (.slice va n vc) n (flat W)) => r15Program_any (.slice va n vc) W (by rw [HWL.out]; exact hu) (by rw [HWL.out]; omega) HWB.out)
    have L5 := Lib.hid (L4.out.next a5.bel); have V5 := Lib.hid (V4.out.below a5.bel); have P5 := Lib.hid a5.rd
    rw [hc] at HCK
    have W5 := Lib.hid (HWR.out.below (B1.out.trans (L5.out.bel.mono B1.out.size)))
    have g0 := W5.out.c0; have g1 := W5.out.c1; have g2 := W5.out.c2
    clear a5 L4 U4 V4 hc HPL
    generalize rPlanP 320 (lastL W) = P at *
    obtain ⟨m, hm⟩ : ∃ m, P.length = m := ⟨_, rfl⟩
    rw [hm] at P5 HPG hpl
    rw [hm]
    have HM := Lib.hid hm; clear hm
    have hm' : m ≤ 800 := by omega
    clear hpl hwl
    go_wp2_with fail
    (with_reducible refine (HCK.out _ V5.out).mono ?_)
    rintro e w6 ⟨rfl, b6⟩
    have L6 := Lib.hid (L5.out.next b6); have V6 := Lib.hid (V5.out.below b6); have P6 := Lib.hid (P5.out.below b6)
    clear b6 L5 V5 P5 W5 g0 g1 g2 HCK
    go_wp2_with fail
    go_loopw [11, 66] (fun ov y wr => ∃ k : Nat, k ≤ m ∧ y = .int .i64 k ∧ Acc w6 w6.heap.size wr 49 3 ov k (instrC (P.take k))) (fun _ y _ => m - (intOf y).toNat)
    case atStart => exact ⟨0, by omega, rfl, Acc.nil w6 _ _ _ _ (Below.refl _ _) (Nat.le_refl _)⟩
    case round =>
      obtain ⟨k, hk, rfl, ha⟩ := hrel
      obtain ⟨ka, kc, rfl⟩ := ha.slice
      have A := Lib.hid ha; clear ha
      by_cases hlt2 : k < m
      · have hk' : (k : Int) < m := by omega
        obtain ⟨e, he⟩ : ∃ e, P[k]? = some e := ⟨_, List.getElem?_eq_getElem (by rw [HM.out]; exact hlt2)⟩
        obtain ⟨_, a', c', e', _, hE⟩ := P6.out.below A.out.bel
        cases e'
        have hg := instrC_get P k e he
        obtain ⟨eb, eo, rfl, hE2⟩ := rd_at hE hg.1
        have c1 := hE2 _ _ hg.1; have c2 := hE2 _ _ hg.2.1; have c3 := hE2 _ _ hg.2.2
        rw [← Nat.add_assoc] at c2 c3
        have HT := Lib.hid (take_snocI P k e he)
        clear hE hE2 he hg
        obtain ⟨e1, e2, e3⟩ := e
        go_wp2_with (at_builtin; refine wpList_append_sl _ rfl _ _ 44 rfl 49 i0 _ 3 24 Tryd.underlying44 I2.out.1 I2.out.2.1 I2.out.2.2.1 I2.out.2.2.2 rfl (by decide) _ k (instrC (P.take k)) rfl (by exact (A.out.own.alloc _).alloc _) _ 1 (instrC [(e1, e2, e3)]) rfl (by exact RdSl.newAt _ _ _ 3 1 _ (by simp) rfl) (instrC_one _) (by unfold maxLen; omega) (by omega) ?_)
        intro v1 wz o1 g1 b1 n1
        have A1 := Lib.hid (A.out.next (below_twice wr _ _) o1 g1 b1 (by omega)); clear o1 g1 b1 n1
        go_wp2_with fail
        go_roundw
        case rel => exact ⟨k + 1, by omega, by go_num, A1.out.congr rfl (by rw [HT.out, instrC_append])⟩
        case measure => simp [intOf]; omega
      · obtain rfl : k = m := by omega
        have hQ : P.take k = P := List.take_of_length_le (by rw [HM.out]; omega)
        rw [hQ] at A
        clear hQ
        have L7 := Lib.hid (L6.out.next A.out.bel); have V7 := Lib.hid (V6.out.below A.out.bel); have G7 := Lib.hid A.out.rd
        have W7 := Lib.hid (HWR.out.below (B1.out.trans (L7.out.bel.mono B1.out.size)))
        have g0 := W7.out.c0; have g1 := W7.out.c1; have g2 := W7.out.c2
        clear A
        go_wp2_with fail
        (with_reducible refine (HPG.out _ V7.out).mono ?_)
        rintro e w8 ⟨ov, rfl, a8⟩
        obtain ⟨za, zc, hz⟩ := a8.slice
        subst hz
        have L8 := Lib.hid (L7.out.next a8.bel)
        have HSM := Lib.hid (r10Same_same (w := w8) (.slice ka k kc) (.slice za k zc) P (by rw [HM.out]; exact G7.out.below a8.bel) (by rw [HM.out]; exact a8.rd) (by rw [HM.out]; omega))
        clear a8 G7 V7 L7 W7 g0 g1 g2
        go_wp2_with fail
        (with_reducible refine HSM.out.mono ?_)
        rintro e w9 ⟨rfl, b9⟩
        have L9 := Lib.hid (L8.out.next b9); clear b9 L8 HSM
        go_wp2_with fail
        (with_reducible refine (current15 L9.out.log.dev D15_rcl.1).mono ?_)
        rintro e w10 ⟨rfl, r10, b10⟩
        have L10 := Lib.hid (L9.out.next b10); clear b10
        have y1 := conv_row (w := w10) (g := w9.heap.size) (c := 2560) (a := 0) (n := 2560) (f := C15) r10 (by omega)
        rw [HSTR.out] at y1
        clear r10 L9
        have hbl := bl_true (x := str) rfl
        go_wp2_with fail
        (with_reducible refine (dirty15 L10.out.log.dev D15_rcl.1).mono ?_)
        rintro e w11 ⟨da, dc, rfl, b11⟩
        have L11 := Lib.hid (L10.out.next b11); clear b11
        go_wp2_with fail
        go_ret
        exact ⟨rfl, B1.out.trans (L11.out.bel.mono B1.out.size)⟩
end
end Go.Proofs.YtfigngoojphffaaDoor
