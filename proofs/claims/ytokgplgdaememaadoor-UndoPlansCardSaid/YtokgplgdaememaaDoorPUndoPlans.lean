/- The walk of UndoPlans. -/
import Derived.Test.YtokgplgdaememaaDoorUndH
import Derived.Test.YtokgplgdaememaaDoorOpenF
import Derived.Test.YtokgplgdaememaaDoorCardU
import Derived.Test.YtokgplgdaememaaDoorCards
import Derived.Lib.SmallJoins
import Derived.SevenTiedAt
namespace Go.Proofs.YtokgplgdaememaaDoor
open Go.RowKit Go.Maps
attribute [local go_sem ↓] Go.wp_at_zero Go.wp_at_succ

section
variable {w : World}
theorem Wh.all {wx : World} (h : Wh wx) : wx.cell? ⟨0, 0, none⟩ = some (.int .u64 192) ∧ wx.cell? ⟨0, 1, none⟩ = some (.int .u64 512) ∧ wx.cell? ⟨0, 2, none⟩ = some (.int .u64 1536) := ⟨h.c0, h.c1, h.c2⟩
theorem Wh.drew {wx : World} (h : Wh wx) : Wh wx.drew := h.below ((Below.refl _ _).drew)
set_option maxRecDepth 100000 in
set_option maxHeartbeats 16000000 in
theorem undoPlans_any (h : Wh w) (bv sv : Value) (bl l : List Nat) (hbs : RdSl w 1 bv bl.length (natsB bl)) (hbb : ∀ n ∈ bl, n < 256) (hbl : bl.length ≤ maxLen) (hs : RdSl w 1 sv l.length (natsB l)) (hb : ∀ n ∈ l, n < 256) (hl : l.length ≤ maxLen) :
    Calls Tryd.prog 5 #[bv, sv] w fun r w' => r = .returned (.bool true) ∧ Below w.heap.size w w' := by
  have HW := Lib.hid h; clear h
  have HOB := Lib.hid (fun (wx : World) (hx : Below w.heap.size w wx) => l16offsets_any (w := wx) _ bl true (hbs.below hx) hbb hbl)
  have HOF := Lib.hid (fun (wx : World) (hx : Below w.heap.size w wx) => l16offsets_any (w := wx) _ l false (hs.below hx) hb hl)
  have hfl := offsL_len bl true; have hft := offsL_lt bl true hbb; have hfg := offsL_good bl
  have hol := offsL_len l false; have hot := offsL_lt l false hb
  obtain ⟨_, sa, sc, rfl, hsc, _⟩ := hs
  obtain ⟨_, ba, bc, rfl, hbc, _⟩ := hbs
  generalize offsL bl true = first at *
  generalize offsL l false = offs at *
  have HC1 := Lib.hid (savD_cl D0_cl first hft)
  have HSV0 := Lib.hid (fun (w0 wc : World) (v : DV) (own : Nat → Option Role) (lb : Nat) (hx : LSt w0 v own D0 lb 0 192 5 wc) (fv : Value) (hr : RdSl wc 1 fv first.length (natsU first)) => save_lv hx D0_cl.lv (by omega) fv first hr hfl hft hfg)
  have HCK0 := Lib.hid (fun (wx : World) (u : Value) (hu : WIn wx u W0) (fv : Value) (hr : RdSl wx 1 fv first.length (natsU first)) => r16Check_any hu fv first hr (by omega))
  have hc0 := check_good (C := W0) hfg
  rw [← D0_cur] at hc0
  rw [← hc0] at HSV0
  rw [D0_cur] at HSV0
  obtain ⟨c0, hc0e⟩ : ∃ c0, checkN W0 first = c0 := ⟨_, rfl⟩
  rw [hc0e] at HSV0 HCK0
  have hcc0 : (c0 != c0) = false := by simp
  clear hc0 hc0e
  generalize savD D0 first = D at *
  have HPL := Lib.hid (fun (wc : World) (v : DV) (own : Nat → Option Role) (lb : Nat) (hx : LogAt wc v own D lb 0 192 5) (fv : Value) (hr : RdSl wc 1 fv offs.length (natsU offs)) => plan_lv hx HC1.out.lv fv offs hr hol hot)
  have HSV := Lib.hid (fun (w0 wc : World) (v : DV) (own : Nat → Option Role) (lb : Nat) (hx : LSt w0 v own D lb 0 192 5 wc) (fv : Value) (hr : RdSl wc 1 fv offs.length (natsU offs)) (hg : ∀ o ∈ offs, allowedB 1536 192 5 o = true) => save_lv hx HC1.out.lv (by omega) fv offs hr hol hot hg)
  have HCK := Lib.hid (fun (wx : World) (u : Value) (hu : WIn wx u D.cur) (fv : Value) (hr : RdSl wx 1 fv offs.length (natsU offs)) => r16Check_any hu fv offs hr (by omega))
  have HRS : Hid (∀ (wx : World) (u : Value) (_ : WIn wx u D.cur) (fv : Value) (_ : RdSl wx 1 fv offs.length (natsU offs)) (_ : ∀ o ∈ offs, allowedB 1536 192 5 o = true), Calls Tryd.prog 24 #[.agg #[.int .u64 192, .int .u64 512, .int .u64 1536], u, fv] wx (RPost wx (planP 192 (sN D.cur) (fL D.cur offs)))) := fun wx u hu fv hr hg => r16Save_any hu fv offs hr (by omega) hg
  have HCG := Lib.hid (fun (hg : ∀ o ∈ offs, allowedB 1536 192 5 o = true) => check_good (C := D.cur) hg)
  have HPLN : Hid ((planP 192 (sN D.cur) (fL D.cur offs)).length ≤ 100) := by have h1 := planP_len 192 (sN D.cur) (fL D.cur offs); have h2 := fL_len D.cur offs; show (planP 192 (sN D.cur) (fL D.cur offs)).length ≤ 100; omega
  generalize hci : checkN D.cur offs = c at *
  clear hci hft hfg hot hbb hb
  go_enter Tryd.func5, Tryd.ntmps5
  go_wp2_with fail
  (with_reducible refine awake16.mono ?_)
  rintro e w1 ⟨rfl, b1⟩
  have B1 := Lib.hid b1
  have W1 := Lib.hid (HW.out.below b1); clear b1
  go_wp2_with fail
  (with_reducible refine (made16 W1.out).mono ?_)
  rintro e w2 ⟨v, own, lb, rfl, l2⟩
  have L2 := Lib.hid l2; clear l2
  go_wp2_with fail
  (with_reducible refine (HOB.out _ (B1.out.trans (L2.out.bel.mono B1.out.size))).mono ?_)
  rintro e w3 ⟨ov, rfl, a3⟩
  obtain ⟨fa, fc, hov⟩ := a3.slice
  subst hov
  have L3 := Lib.hid (L2.out.next a3.bel)
  have L2' := L2
  have A3 := Lib.hid a3; clear a3 L2 HOB
  generalize first.length = fn at *
  go_wp2_with fail
  (with_reducible refine (HSV0.out _ _ _ _ _ L3.out _ A3.out.rd).mono ?_)
  rintro e w4 ⟨own4, rfl, l4, m4⟩
  have L4 := Lib.hid l4
  have K4 := Lib.hid ((Kp.of L2'.out A3.out).step m4)
  clear l4 m4 HSV0 L3 A3 L2'
  have W4 := Lib.hid (W1.out.below L4.out.bel)
  have XD : Hid (w4.drew.cell? ⟨0, 0, none⟩ = some (.int .u64 192) ∧ w4.drew.cell? ⟨0, 1, none⟩ = some (.int .u64 512) ∧ w4.drew.cell? ⟨0, 2, none⟩ = some (.int .u64 1536)) := W4.out.all
  have HF0 := Lib.hid (first0_any W4.out.drew)
  go_upto_region 6 with fail
  go_cut [31] from 25 to 31 (fun y wx => y = .bool false ∧ Below w4.heap.size w4 wx)
  case first =>
    go_region_held3 (fun wx => wx.cell? ⟨0, 0, none⟩ = some (.int .u64 192) ∧ wx.cell? ⟨0, 1, none⟩ = some (.int .u64 512) ∧ wx.cell? ⟨0, 2, none⟩ = some (.int .u64 1536)) (first | (with_reducible exact X7.out) | (with_reducible exact X6.out) | (with_reducible exact X5.out) | (with_reducible exact XD.out)) (first | (go_at_call 29; (with_reducible refine HF0.out.mono ?_); rintro e w5 ⟨g5, rfl, r5, n5, b5⟩; have B5 := Lib.hid (bdrew b5); have X5 := Lib.hid ((W4.out.below (bdrew b5)).all); have HW5 := Lib.hid (words24 (w := w5) W0_bd r5); clear r5 b5) | (go_at_call 19; (with_reducible refine HW5.out.mono ?_); rintro e w6 ⟨rfl, d6⟩; have B6 := Lib.hid (B5.out.trans (d6.bel.mono B5.out.size)); have X6 := Lib.hid ((W4.out.below B6.out).all); have HC6 := Lib.hid (HCK0.out w6 _ (d6.win W0_bd) _ (K4.out.next B6.out).rd); clear d6) | (go_at_call 22; (with_reducible refine HC6.out.mono ?_); rintro e w7 ⟨rfl, b7⟩; have B7 := Lib.hid (B6.out.trans (b7.mono B6.out.size)); have X7 := Lib.hid ((W4.out.below B7.out).all); clear b7))
    all_goals go_wp2_with fail
    all_goals go_meet
    all_goals exact ⟨rfl, B7.out⟩
  case rest =>
    obtain ⟨rfl, hb5⟩ := hcut
    have L5 := Lib.hid (L4.out.next hb5)
    clear hb5 HF0 XD W4 K4 L4 HCK0
    go_wp2_with fail
    (with_reducible refine (current24 L5.out.dev HC1.out.lv).mono ?_)
    rintro e w6 ⟨rfl, r6, b6⟩
    have R6 := Lib.hid r6
    have L6 := Lib.hid (L5.out.next b6); clear r6 b6 L5
    go_wp2_with fail
    (with_reducible refine (words24 HC1.out.lv.vb.cur R6.out).mono ?_)
    rintro e w7 ⟨rfl, d7⟩
    have K7 := Lib.hid (Kp.wd L6.out d7)
    have L7 := Lib.hid (L6.out.next d7.bel); clear d7 L6 R6
    generalize w6.heap.size = gw at *
    go_wp2_with fail
    (with_reducible refine (HOF.out _ (B1.out.trans (L7.out.bel.mono B1.out.size))).mono ?_)
    rintro e w8 ⟨ov, rfl, a8⟩
    obtain ⟨oa, oc, hov⟩ := a8.slice
    subst hov
    have K8 := Lib.hid (K7.out.next a8.bel)
    have O8 := Lib.hid (Kp.of L7.out a8)
    have L8 := Lib.hid (L7.out.next a8.bel); clear a8 L7 K7 HOF
    generalize offs.length = n at *
    go_wp2_with fail
    (with_reducible refine (HPL.out _ _ _ _ L8.out.log _ O8.out.rd).mono ?_)
    rintro e w9 (⟨hc, rfl, b9⟩ | ⟨hc, hg, pv, rfl, a9⟩)
    · have BB := b9
      have K9 := Lib.hid (K8.out.next BB)
      have O9 := Lib.hid (O8.out.next BB)
      have L9 := Lib.hid (L8.out.next BB)
      have hcc : (c == c) = true := by simp
      have hcn : (c != 0) = true := by simpa using hc
      have HNE := Lib.hid hc
      have HSE := Lib.hid (fun (wc : World) (own : Nat → Option Role) (hx : LogAt wc v own D lb 0 192 5) (fv : Value) (hr : RdSl wc 1 fv n (natsU offs)) => uSave_err fv HNE.out ((HPL.out wc v own lb hx fv hr).mono fun r w' hh => hh.elim (·.2) (fun hh => absurd hh.1 HNE.out)))
      clear BB b9 hc HPL HSV HRS
      go_wp2_with fail
      (with_reducible refine (current24 L9.out.dev HC1.out.lv).mono ?_)
      rintro e w10 ⟨rfl, r10, b10⟩
      have R10 := Lib.hid r10; have B10 := Lib.hid b10; clear r10 b10
      go_wp2_with fail
      (with_reducible refine (words24 HC1.out.lv.vb.cur R10.out).mono ?_)
      rintro e w11 ⟨rfl, d11⟩
      have D11 := Lib.hid d11.rd
      have B11 := Lib.hid (B10.out.trans (d11.bel.mono B10.out.size)); clear d11 R10
      go_wp2_with fail
      (with_reducible refine (eqW D11.out (K9.out.next B11.out).rd).mono ?_)
      rintro e w12 ⟨rfl, b12⟩
      have B12 := Lib.hid (B11.out.trans (b12.mono B11.out.size)); clear b12 D11
      go_wp2_with fail
      (with_reducible refine (dirty24 (L9.out.next B12.out).dev HC1.out).mono ?_)
      rintro e w13 ⟨da, dc, rfl, b13⟩
      have B13 := Lib.hid (B12.out.trans (b13.mono B12.out.size)); clear b13
      have L13 := Lib.hid (L9.out.next B13.out); have K13 := Lib.hid (K9.out.next B13.out); have O13 := Lib.hid (O9.out.next B13.out)
      obtain ⟨g0, g1, g2⟩ := (W1.out.below L13.out.bel).all
      go_wp2_with fail
      (with_reducible refine (HCK.out _ _ (K13.out.win HC1.out.lv.vb.cur) _ O13.out.rd).mono ?_)
      rintro e w14 ⟨rfl, b14⟩
      have L14 := Lib.hid (L13.out.next b14); have K14 := Lib.hid (K13.out.next b14); have O14 := Lib.hid (O13.out.next b14)
      clear b14 L13 K13 O13 L9 K9 O9 B10 B11 B12 B13 g0 g1 g2
      go_wp2_with fail
      (with_reducible refine (HSE.out _ _ L14.out.log _ O14.out.rd).mono ?_)
      rintro e w15 ⟨rfl, b15⟩
      have L15 := Lib.hid (L14.out.next b15); have K15 := Lib.hid (K14.out.next b15); clear b15 L14 K14 O14
      go_wp2_with fail
      (with_reducible refine (current24 L15.out.dev HC1.out.lv).mono ?_)
      rintro e w16 ⟨rfl, r16, b16⟩
      have R16 := Lib.hid r16; have B16 := Lib.hid b16; clear r16 b16
      go_wp2_with fail
      (with_reducible refine (words24 HC1.out.lv.vb.cur R16.out).mono ?_)
      rintro e w17 ⟨rfl, d17⟩
      have D17 := Lib.hid d17.rd
      have B17 := Lib.hid (B16.out.trans (d17.bel.mono B16.out.size)); clear d17 R16
      go_wp2_with fail
      (with_reducible refine (eqW D17.out (K15.out.next B17.out).rd).mono ?_)
      rintro e w18 ⟨rfl, b18⟩
      have L18 := Lib.hid (L15.out.next (B17.out.trans (b18.mono B17.out.size))); clear b18
      go_wp2_with fail
      go_ret
      exact ⟨rfl, B1.out.trans (L18.out.bel.mono B1.out.size)⟩
    · have BB := a9.bel
      have K9 := Lib.hid (K8.out.next BB)
      have O9 := Lib.hid (O8.out.next BB)
      have L9 := Lib.hid (L8.out.next BB)
      obtain ⟨pa, pc, hpv⟩ := a9.slice
      subst hpv
      have P9 := Lib.hid a9.rd
      subst hc
      have HGD := Lib.hid hg
      have hif := HCG.out hg
      have HIF := Lib.hid hif
      clear BB a9 hg hif
      generalize planP 192 (sN D.cur) (fL D.cur offs) = P at *
      generalize hpn : P.length = pn at *
      have HPN := Lib.hid hpn; clear hpn
      have hpl : pn ≤ 100 := HPLN.out
      go_wp2_with fail
      (with_reducible refine (current24 L9.out.dev HC1.out.lv).mono ?_)
      rintro e w10 ⟨rfl, r10, b10⟩
      have R10 := Lib.hid r10; have B10 := Lib.hid b10; clear r10 b10
      go_wp2_with fail
      (with_reducible refine (words24 HC1.out.lv.vb.cur R10.out).mono ?_)
      rintro e w11 ⟨rfl, d11⟩
      have D11 := Lib.hid d11.rd
      have B11 := Lib.hid (B10.out.trans (d11.bel.mono B10.out.size)); clear d11 R10
      go_wp2_with fail
      (with_reducible refine (eqW D11.out (K9.out.next B11.out).rd).mono ?_)
      rintro e w12 ⟨rfl, b12⟩
      have B12 := Lib.hid (B11.out.trans (b12.mono B11.out.size)); clear b12 D11
      go_wp2_with fail
      (with_reducible refine (dirty24 (L9.out.next B12.out).dev HC1.out).mono ?_)
      rintro e w13 ⟨da, dc, rfl, b13⟩
      have B13 := Lib.hid (B12.out.trans (b13.mono B12.out.size)); clear b13
      have L13 := Lib.hid (L9.out.next B13.out); have K13 := Lib.hid (K9.out.next B13.out); have O13 := Lib.hid (O9.out.next B13.out)
      obtain ⟨g0, g1, g2⟩ := (W1.out.below L13.out.bel).all
      go_wp2_with fail
      (with_reducible refine (HCK.out _ _ (K13.out.win HC1.out.lv.vb.cur) _ O13.out.rd).mono ?_)
      rintro e w14 ⟨rfl, b14⟩
      have L14 := Lib.hid (L13.out.next b14); have K14 := Lib.hid (K13.out.next b14); have O14 := Lib.hid (O13.out.next b14)
      have P14 := Lib.hid (P9.out.below (B13.out.trans (b14.mono B13.out.size)))
      clear b14 L13 K13 O13 L9 K9 O9 B10 B11 B12 B13 g0 g1 g2
      have W14 := Lib.hid (W1.out.below L14.out.bel)
      have XD : Hid (w14.drew.cell? ⟨0, 0, none⟩ = some (.int .u64 192) ∧ w14.drew.cell? ⟨0, 1, none⟩ = some (.int .u64 512) ∧ w14.drew.cell? ⟨0, 2, none⟩ = some (.int .u64 1536)) := W14.out.all
      have HPG := Lib.hid (program16_any (w := w14.drew) (.slice pa pn pc) P (by rw [HPN.out]; exact P14.out.drew) (by rw [HPN.out]; omega))
      rw [HPN.out] at HPG
      go_wp2_with fail
      go_region_held3 (fun wx => wx.cell? ⟨0, 0, none⟩ = some (.int .u64 192) ∧ wx.cell? ⟨0, 1, none⟩ = some (.int .u64 512) ∧ wx.cell? ⟨0, 2, none⟩ = some (.int .u64 1536)) (first | (with_reducible exact X18.out) | (with_reducible exact X17.out) | (with_reducible exact X16.out) | (with_reducible exact X15.out) | (with_reducible exact XD.out)) (first | (go_at_call 34; (with_reducible refine HPG.out.mono ?_); rintro e w15 ⟨v15, rfl, a15⟩; obtain ⟨a15a, a15c, hv15⟩ := a15.slice; subst hv15; have A15 := Lib.hid a15; have B15 := Lib.hid (bdrew a15.bel); have X15 := Lib.hid ((W14.out.below B15.out).all); have HR15 := Lib.hid (HRS.out w15 _ ((K14.out.next B15.out).win HC1.out.lv.vb.cur) _ (O14.out.next B15.out).rd HGD.out); clear a15) | (go_at_call 24; (with_reducible refine HR15.out.mono ?_); rintro e w16 ⟨v16, rfl, a16⟩; rw [HPN.out] at a16; obtain ⟨a16a, a16c, hv16⟩ := a16.slice; subst hv16; have B16 := Lib.hid (B15.out.trans (a16.bel.mono B15.out.size)); have X16 := Lib.hid ((W14.out.below B16.out).all); have HS16 := Lib.hid (r10Same_same (w := w16) (.slice a15a pn a15c) (.slice a16a pn a16c) P (by rw [HPN.out]; exact (A15.out.keep a16.bel).rd) (by rw [HPN.out]; exact a16.rd) (by rw [HPN.out]; omega)); clear a16) | (go_at_call 33; (with_reducible refine HS16.out.mono ?_); rintro e w17 ⟨rfl, b17⟩; have B17 := Lib.hid (B16.out.trans (b17.mono B16.out.size)); have X17 := Lib.hid ((W14.out.below B17.out).all); have hv17 := HSV.out _ w17 _ _ _ (L14.out.next B17.out) _ (O14.out.next B17.out).rd HGD.out; rw [← HIF.out] at hv17; have HV17 := Lib.hid hv17; clear b17 hv17) | (go_at_call 21; (with_reducible refine HV17.out.mono ?_); rintro e w18 ⟨own18, rfl, l18, m18⟩; have L18 := Lib.hid l18; have X18 := Lib.hid ((W1.out.below l18.bel).all); clear l18 m18))
      all_goals go_wp2_with fail
      all_goals go_ret
      all_goals exact ⟨rfl, B1.out.trans (L18.out.bel.mono B1.out.size)⟩
end
end Go.Proofs.YtokgplgdaememaaDoor

/- UndoPlans returns true for every input, over the listed variable as the program's text lays it: Plan returns exactly the specified program or error, also with words that are saved already, and changes nothing; Save has the same error. No condition besides. -/
namespace Go.Proofs.YtokgplgdaememaaDoor
open Go.ChangeShapes Go.WideShapes Go.ChangeAt Go.RowKit Go.Joins

set_option maxRecDepth 100000 in
theorem undoPlans_lifted (os : Os) (started : os.Started) (H : Type) (enc : TypeId × Value → H) :
    ReturnsInHanded {} Tryd.checked os 5 .any (fun w args => (Rows.undoPlansSpec.pre enc Tryd.prog Tryd.f5 Rows.undoPlansRow.domain false w args ∧ laidMetH Tryd.prog laidU w) ∧ sizedMet enc Tryd.prog Tryd.f5 (OpenSpec.ofChange Rows.undoPlansSpec) false w args)
      (Rows.undoPlansSpec.post enc Tryd.prog Tryd.f5 false true false false) := by
  refine returnsInHanded_of_change_and (C := Tryd.checked) (X := fun w _ => laidMetH Tryd.prog laidU w) (fun _ _ _ hh h => h.of_heap hh) own_knob started (by kernel_rfl) Tryd.func5
    (ChangeSpec.witness_shaped (enc := enc) (C := Tryd.checked) (os := os) (X := fun w _ => laidMetH Tryd.prog laidU w) false (World.laidAll Tryd.prog os laidU) #[.slice none 0 0, .slice none 0 0] 8 (World.laidAll_os _ _ _)
      (World.shaped_of_ZipB (by kernel_rfl) (by kernel_rfl)) (by kernel_rfl) (by kernel_rfl) (by kernel_rfl)
      (by rw [MakeChecks.laidMetH_plain _ _ _ (by kernel_rfl)]; exact laidMet_laidAll _ (by kernel_rfl) (by kernel_rfl))) ?_
  intro W base args ds gs before hval0 hW _ _ hL _
  have hval : ∀ (j : Nat) t v, Tryd.f5.params[j]? = some t → args[j]? = some v → Value.okWide Tryd.prog W .any base t v := hval0
  have hW' := hW
  have HWH := wh_of_laid hL
  obtain ⟨p, q, hA0, hV, rfl, hfz, hnd⟩ := hW
  have hA : DataW.TrodAll enc Tryd.prog W 0 (fun _ => true) true Tryd.f5.params.toList args.toList ds p := hA0
  rw [Tryd.params5] at hA hval
  clear hA0 hval0
  obtain ⟨v0, vs0, d0, ds0, p0, q0, hargs, rfl, rfl, h0, r0⟩ := trodAll_cons hA
  obtain ⟨v1, vs1, d1, ds1, p1, q1, hargs1, rfl, rfl, h1, r1⟩ := trodAll_cons r0
  obtain ⟨rfl, rfl, rfl⟩ := trodAll_nil r1
  obtain rfl : args = #[v0, v1] := by cases args; simp_all
  obtain ⟨l0, hs0, hb0, hl0⟩ := open_bytesN (hval 0 41 v0 rfl rfl) h0
  obtain ⟨l1, hs1, hb1, hl1⟩ := open_bytesN (hval 1 41 v1 rfl rfl) h1
  refine (undoPlans_any HWH v0 v1 l0 l1 hs0 hb0 hl0 hs1 hb1 hl1).mono fun e W' ⟨he, hg⟩ => ?_
  subst he
  refine ⟨_, rfl, law_post hW' rfl (by kernel_rfl) rfl ?_ hg⟩
  rw [Tryd.params5]
  intro t ht
  have hall : ([41, 41].all fun t => Tryd.prog.readableRec t && decide (t < Tryd.prog.types.size)) = true := by kernel_rfl
  have := List.all_eq_true.1 hall t ht
  simpa using this

theorem undoPlans_row : Rows.UndoPlansSaid :=
  OpenClaim.holds_of_wide 5 Tryd.f5 rfl rfl rfl rfl rfl rfl rfl ⟨rfl, rfl, rfl, rfl, rfl⟩ rfl rfl rfl rfl rfl (by kernel_rfl) Tryd.func5 (by kernel_rfl)
    (of_decide_eq_true (by kernel_rfl)) (by unfold Func.isWrapper; first | (rw [if_pos (by decide +kernel)]; kernel_rfl) | (rw [if_neg (by decide +kernel)]; exact ⟨rfl, rfl⟩))
    (fun os started H enc _ => undoPlans_lifted os started H enc)
theorem undoPlans_holds : Rows.UndoPlansCardSaid :=
  Claim7.holds_tied_plain_at .later [] [.data] true (true, "5d02ff41f4c91551bdde88e9d7154ed27509754a1175b7e710bd6818def5a27d") false undoPlans_row (fun _ h => by cases h) (by kernel_rfl) (fun _ h => by cases h) undoPlans_row_tie rfl ⟨rfl, rfl⟩ (by kernel_rfl) rfl
    (fun f fn hf hfn => by
      obtain rfl : f = 5 := Option.some.inj ((show Tryd.prog.funcNamed "bedrock/bedrocklaw16.UndoPlans" = some 5 by kernel_rfl).symm.trans hf) |>.symm
      obtain rfl : fn = Tryd.f5 := (Option.some.inj (Tryd.func5.symm.trans hfn)).symm
      exact ⟨by kernel_rfl, fun j t ht => by
        rw [Tryd.params5] at ht
        have hm : t ∈ [41, 41] := by simpa using Array.mem_of_getElem? ht
        have hall : ([41, 41].all fun u => !Tryd.prog.wantsStandIn u) = true := by kernel_rfl
        exact (show Tryd.prog.wantsStandIn t = false by simpa using List.all_eq_true.1 hall t hm)⟩)
    (by kernel_rfl)
#print axioms undoPlans_holds
end Go.Proofs.YtokgplgdaememaaDoor
