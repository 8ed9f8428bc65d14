/- The walk of UndoCommits. -/
import Derived.Test.YtokgplgdaememaaDoorUndH
import Derived.Test.YtokgplgdaememaaDoorOpenF
import Derived.Test.YtokgplgdaememaaDoorCardU
import Derived.Test.YtokgplgdaememaaDoorCards
import Derived.Lib.SmallJoins
import Derived.SevenTiedAt
namespace Go.Proofs.YtokgplgdaememaaDoor
open Go.RowKit Go.Maps
attribute [local go_sem ↓] Go.wp_at_zero Go.wp_at_succ

/-- What is kept through the stores. -/
structure Sw (w : World) (v : DV) (lb : Nat) (y : Nat) (ov bv : Value) (on : Nat) (S : List (Nat × Int)) (os xs : List Value) (D : Dev) (own : Nat → Option Role) (wc : World) : Prop where
  st : LSt w v own D lb 0 192 5 wc
  cm : Cm D y
  sv : savedL D.cur 192 5 = S
  ko : Kp own wc 1 ov on os
  kb : Kp own wc 2 bv 1 xs
section
variable {w : World}
set_option maxRecDepth 100000 in
set_option maxHeartbeats 64000000 in
theorem undoCommits_any (h : Wh w) (sv cv : Value) (n : Nat) (xs : List Value) (cs : List Int) (hs : RdSl w 2 sv n xs) (hl : n ≤ maxLen) (hA : ∀ i, i < n → ActAt w xs i)
    (hc : RdSl w 1 cv cs.length (cs.map fun x => .int .u8 x)) (hcb : ∀ x ∈ cs, 0 ≤ x ∧ x < 256) (hcl : cs.length ≤ maxLen) :
    Calls Tryd.prog 8 #[sv, cv] w fun r w' => r = .returned (.bool true) ∧ Below w.heap.size w w' := by
  have HW := Lib.hid h; have HS := Lib.hid hs; have HA := Lib.hid hA; clear h hA
  have HCS := Lib.hid (And.intro hc (And.intro hcb hcl))
  obtain ⟨_, sa, sc, rfl, hsc, _⟩ := hs
  obtain ⟨_, ca, cc, rfl, hcc, _⟩ := hc
  generalize hcn : cs.length = cn at *
  have HCN := Lib.hid hcn
  clear hcb hcl hcn
  go_enter Tryd.func8, Tryd.ntmps8
  go_wp2_with fail
  (with_reducible refine awake16.mono ?_)
  rintro e w1 ⟨rfl, b1⟩
  have B1 := Lib.hid b1
  have W1 := Lib.hid (HW.out.below b1); clear b1
  go_wp2_with fail
  (with_reducible refine (made16 W1.out).mono ?_)
  rintro e w2 ⟨v, own, lb, rfl, l2⟩
  have L2 := Lib.hid l2; clear l2
  go_wp2_with fail
  go_loopw [24] (fun y wr => ∃ (k : Nat) (D : Dev) (own : Nat → Option Role), k ≤ n ∧ k ≤ 6 ∧ y = .int .i64 k ∧ LSt w1 v own D lb 0 192 5 wr ∧ Cm D (200 * k)) (fun y _ => n - (intOf y).toNat)
  case atStart => exact ⟨0, D0, own, by omega, by omega, rfl, L2.out, D0_cm⟩
  case round =>
    clear L2
    obtain ⟨k, D, ownr, hk, hk8, rfl, lr, hcm⟩ := hrel
    have LZ := Lib.hid lr; have CM := Lib.hid hcm; clear lr hcm
    by_cases hlt : k < n
    · have hlt' : (k : Int) < n := by omega
      obtain ⟨wv, l, x, hx1, hx2, hxb, hwv, hlb, hll⟩ := HA.out k hlt
      have hwv2 := hwv
      obtain ⟨_, wa, wc, hwe, _, _⟩ := hwv2
      subst hwe
      obtain ⟨_, a', c', e', _, hE⟩ := HS.out.below (B1.out.trans (LZ.out.bel.mono B1.out.size))
      cases e'
      obtain ⟨eb, eo, rfl, hE2⟩ := rd_at hE hx1
      have c1 := hE2 _ _ hx1; have c2 := hE2 _ _ hx2
      rw [← Nat.add_assoc] at c2
      have HX := Lib.hid hxb
      clear hE hE2 hx1 hx2 hxb
      by_cases h8 : k = 6
      · have hb8 : ((k : Int) == 6) = true := by simp; omega
        clear hlb hll hwv h8
        have LA := Lib.hid (LZ.out.alloc (.cells #[.slice wa l.length wc, .int .u64 x] 43))
        clear LZ
        have CL := Lib.hid CM.out.commit
        have hvl := validL_len 1536 192 5 (savedL D.cur 192 5); have hsl := savedL_le D.cur
        have HPC := Lib.hid (fun (wx : World) (hx : LogAt wx v ownr D lb 0 192 5) => uPlanCommit_any hx _ _ (load24 hx CM.out.lv) (saved_vin CM.out.lv.vb.cur) hvl)
        have HCO := Lib.hid (fun (wx : World) (hx : LogAt wx v ownr D lb 0 192 5) => uCommit_any hx _ _ (load24 hx CM.out.lv) (saved_vin CM.out.lv.vb.cur) hvl (by have := CM.out.lv.exec; omega))
        have HRC : Hid (∀ (wx : World) (u : Value) (_ : WIn wx u D.cur), Calls Tryd.prog 43 #[.agg #[.int .u64 192, .int .u64 512, .int .u64 1536], u] wx (RPost wx (commitP 192 (savedL D.cur 192 5) (validL 1536 192 5 (savedL D.cur 192 5))))) := fun wx u hu => r16Commit_any hu
        have HPL : Hid ((commitP 192 (savedL D.cur 192 5) (validL 1536 192 5 (savedL D.cur 192 5))).length ≤ 100) := by
          show (commitP 192 (savedL D.cur 192 5) (validL 1536 192 5 (savedL D.cur 192 5))).length ≤ 100
          unfold commitP
          split
          · simp
          · have a1 := flushL_len ((validL 1536 192 5 (savedL D.cur 192 5)).map (·.1)); have a2 := store1_len 192 0
            rw [List.length_map] at a1
            rw [List.length_append]; omega
        generalize commitP 192 (savedL D.cur 192 5) (validL 1536 192 5 (savedL D.cur 192 5)) = P at *
        generalize D.run 0 P = DC at *
        rw [CL.out.1.lv.on.err] at HCO
        have HS0 := Lib.hid (saved0 (C := DC.cur) (by rw [CL.out.2]; rfl))
        clear hvl hsl
        go_wp2_with fail
        generalize wr.alloc (.cells #[.slice wa l.length wc, .int .u64 x] 43) = wz at *
        (with_reducible refine (current24 LA.out.dev CM.out.lv).mono ?_)
        rintro e z1 ⟨rfl, r1, b1⟩
        have R1 := Lib.hid r1; have M1 := Lib.hid (LA.out.next b1); clear r1 b1 LA
        go_wp2_with fail
        (with_reducible refine (words24 CM.out.lv.vb.cur R1.out).mono ?_)
        rintro e z2 ⟨rfl, d2⟩
        have KC := Lib.hid (Kp.wd M1.out d2); have RC := Lib.hid d2.row
        have HGN : Hid (w1.heap.size ≤ z1.heap.size ∧ lb < z1.heap.size) := ⟨M1.out.bel.size, M1.out.log.blk.lt⟩
        have M2 := Lib.hid (M1.out.next d2.bel); clear d2 R1 M1
        generalize z1.heap.size = gw at *
        go_wp2_with fail
        (with_reducible refine (HPC.out _ M2.out.log).mono ?_)
        rintro e z3 ⟨pv, rfl, a3⟩
        obtain ⟨pa, pc, hpv⟩ := a3.slice
        subst hpv
        have P3 := Lib.hid a3.rd
        have M3 := Lib.hid (M2.out.next a3.bel); have KC3 := Lib.hid (KC.out.next a3.bel); have RC3 := Lib.hid (RC.out.below a3.bel); clear a3 M2 KC RC HPC
        generalize hpn : P.length = pn at *
        have HPN := Lib.hid hpn; clear hpn
        have hpl : pn ≤ 100 := HPL.out
        have W3 := Lib.hid (W1.out.below M3.out.bel)
        have XD : Hid (z3.drew.cell? ⟨0, 0, none⟩ = some (.int .u64 192) ∧ z3.drew.cell? ⟨0, 1, none⟩ = some (.int .u64 512) ∧ z3.drew.cell? ⟨0, 2, none⟩ = some (.int .u64 1536)) := W3.out.all'
        have HPG := Lib.hid (program16_any (w := z3.drew) (.slice pa pn pc) P (by rw [HPN.out]; exact P3.out.drew) (by rw [HPN.out]; omega))
        rw [HPN.out] at HPG
        go_wp2_with fail
        go_region_held3 (fun wx => wx.cell? ⟨0, 0, none⟩ = some (.int .u64 192) ∧ wx.cell? ⟨0, 1, none⟩ = some (.int .u64 512) ∧ wx.cell? ⟨0, 2, none⟩ = some (.int .u64 1536)) (first | (with_reducible exact X11.out) | (with_reducible exact X10.out) | (with_reducible exact X9.out) | (with_reducible exact X8.out) | (with_reducible exact X7.out) | (with_reducible exact X6.out) | (with_reducible exact X5.out) | (with_reducible exact X4.out) | (with_reducible exact XD.out)) (first | (go_at_call 34; (with_reducible refine HPG.out.mono ?_); rintro e z4 ⟨v4, rfl, a4⟩; obtain ⟨a4a, a4c, hv4⟩ := a4.slice; subst hv4; have A4 := Lib.hid a4; have B4 := Lib.hid (bdrew a4.bel); have X4 := Lib.hid ((W3.out.below B4.out).all'); have HR4 := Lib.hid (HRC.out z4 _ ((KC3.out.next B4.out).win CM.out.lv.vb.cur)); clear a4) | (go_at_call 43; (with_reducible refine HR4.out.mono ?_); rintro e z5 ⟨v5, rfl, a5⟩; rw [HPN.out] at a5; obtain ⟨a5a, a5c, hv5⟩ := a5.slice; subst hv5; have B5 := Lib.hid (B4.out.trans (a5.bel.mono B4.out.size)); have X5 := Lib.hid ((W3.out.below B5.out).all'); have HS5 := Lib.hid (r10Same_same (w := z5) (.slice a4a pn a4c) (.slice a5a pn a5c) P (by rw [HPN.out]; exact (A4.out.keep a5.bel).rd) (by rw [HPN.out]; exact a5.rd) (by rw [HPN.out]; omega)); clear a5) | (go_at_call 33; (with_reducible refine HS5.out.mono ?_); rintro e z6 ⟨rfl, b6⟩; have B6 := Lib.hid (B5.out.trans (b6.mono B5.out.size)); have X6 := Lib.hid ((W3.out.below B6.out).all'); have HC6 := Lib.hid (current24 (M3.out.next B6.out).dev CM.out.lv); clear b6) | (go_at_call 20; (with_reducible refine HC6.out.mono ?_); rintro e z7 ⟨rfl, r7, b7⟩; have B7 := Lib.hid (B6.out.trans (b7.mono B6.out.size)); have X7 := Lib.hid ((W3.out.below B7.out).all'); have HW7 := Lib.hid (words24 CM.out.lv.vb.cur r7); clear b7 r7) | (go_at_call 19; (with_reducible refine HW7.out.mono ?_); rintro e z8 ⟨rfl, d8⟩; have B8 := Lib.hid (B7.out.trans (d8.bel.mono B7.out.size)); have X8 := Lib.hid ((W3.out.below B8.out).all'); have HE8 := Lib.hid (eqW d8.rd (KC3.out.next B8.out).rd); clear d8) | (go_at_call 31; (with_reducible refine HE8.out.mono ?_); rintro e z9 ⟨rfl, b9⟩; have B9 := Lib.hid (B8.out.trans (b9.mono B8.out.size)); have X9 := Lib.hid ((W3.out.below B9.out).all'); have M9 := Lib.hid (M3.out.next B9.out); have HC9 := Lib.hid (HCO.out _ M9.out.log); clear b9) | (go_at_call 40; (with_reducible refine HC9.out.mono ?_); rintro e z10 ⟨rfl, p10⟩; obtain ⟨own10, l10, m10⟩ := M9.out.stepM (D' := DC) (by rw [CL.out.1.lv.on.n, CM.out.lv.on.n]) p10; have M10 := Lib.hid l10; have KC10 := Lib.hid ((KC3.out.next B9.out).step m10); have RC10 := Lib.hid ((RC3.out.below B9.out).upd m10.upd (by simpa using ((KC3.out.next B9.out).fr _ rfl).1)); have X10 := Lib.hid ((W1.out.below l10.bel).all'); have HS10 := Lib.hid (saved_none l10.log CL.out.1.lv.on.off CL.out.1.lv.vb HS0.out); clear p10 l10 m10) | (go_at_call 28; (with_reducible refine HS10.out.mono ?_); rintro e z11 ⟨v11a, v11c, rfl, b11⟩; have M11 := Lib.hid (M10.out.next b11); have KC11 := Lib.hid (KC10.out.next b11); have RC11 := Lib.hid (RC10.out.below b11); have X11 := Lib.hid ((W1.out.below M11.out.bel).all'); clear b11))
        all_goals
          obtain ⟨g0, g1, g2⟩ := X11.out
          have hcell := RC11.out.cell (i := 24) (by omega)
          have hfro := RC11.out.frozen 24
          clear X4 X5 X6 X7 X8 X9 X10 B4 B5 B6 B7 B8 B9 A4 HR4 HS5 HC6 HW7 HE8 HC9 HS10 M3 M9 M10 KC3 RC3 KC10 RC10 W3 XD HPG HRC HCO P3
          go_wp2_with fail
          have MZ := Lib.hid (M11.out.poke (Upd.set1 z11 gw 24 (.int .u64 0)) (KC11.out.fr _ rfl).1 (by have := HGN.out; omega) HGN.out.1)
          have RZ : Hid (Row (z11.setCell ⟨gw, 24, none⟩ (.int .u64 0)) gw 192 35 (fun i => .int .u64 (DC.cur i))) := (RC11.out.set 24 (.int .u64 0)).congr (fun i _ => by rw [CL.out.2]; by_cases e : i = 24 <;> simp [e])
          have HCH := Lib.hid (fun (wx : World) (hb : Below w1.heap.size w1 wx) => (HCS.out.1.below (B1.out.trans (hb.mono B1.out.size))))
          have HEX : Hid (DC.exec < 4611686018427387904) := by have := CL.out.1.lv.exec; show DC.exec < 4611686018427387904; omega
          (with_reducible refine (image24 MZ.out.dev CL.out.1 _ cs (by rw [HCN.out]; exact HCH.out _ MZ.out.bel) HCS.out.2.1 (by rw [HCN.out]; exact HCS.out.2.2) HEX.out).mono ?_)
          rintro e y1 ⟨gi, rfl, r1, b1⟩
          have R1 := Lib.hid r1
          have MY := Lib.hid (MZ.out.next b1); have RY := Lib.hid (RZ.out.below b1); clear r1 b1 MZ RZ hcell hfro g0 g1 g2 X11 M11 KC11 RC11
          go_wp2_with fail
          (with_reducible refine (words24 CL.out.1.lv.vb.cur R1.out).mono ?_)
          rintro e y2 ⟨rfl, d2⟩
          have D2 := Lib.hid d2.rd
          have MY2 := Lib.hid (MY.out.next d2.bel); have RY2 := Lib.hid (RY.out.below d2.bel); clear d2 MY RY R1
          go_wp2_with fail
          (with_reducible refine (eqW D2.out (row_rd RY2.out (Nat.le_refl _))).mono ?_)
          rintro e y3 ⟨rfl, b3⟩
          have MY3 := Lib.hid (MY2.out.next b3); clear b3 MY2 RY2 D2
          go_wp2_with fail
          (with_reducible refine (crash24 MY3.out.dev CL.out.1 _ cs (by rw [HCN.out]; exact HCH.out _ MY3.out.bel) HCS.out.2.1 (by rw [HCN.out]; exact HCS.out.2.2) HEX.out).mono ?_)
          rintro e y4 ⟨v4, own4, rfl, d4, b4⟩
          have D4 := Lib.hid d4
          have MY4 := Lib.hid (MY3.out.next b4); clear d4 b4 MY3
          go_wp2_with fail
          (with_reducible refine (thread0_any D4.out).mono ?_)
          rintro e w' ⟨rfl, rfl⟩
          go_wp2_with fail
          (with_reducible refine (look_fresh D4.out CL.out.1.lv.vb.cur HS0.out).mono ?_)
          rintro e y5 ⟨s5a, s5c, rfl, b5⟩
          have MY5 := Lib.hid (MY4.out.next b5); clear b5 MY4 D4
          go_wp2_with fail
          go_ret
          exact ⟨rfl, B1.out.trans (MY5.out.bel.mono B1.out.size)⟩
      · have hb8 : ((k : Int) == 6) = false := by simp; omega
        have HOB := Lib.hid (fun (wx : World) (hx : Below w.heap.size w wx) => l16offsets_any (w := wx) _ l true (hwv.below hx) hlb hll)
        have hfl := offsL_len l true; have hft := offsL_lt l true hlb; have hfg := offsL_good l
        clear hlb hll hwv
        generalize offsL l true = offs at *
        have HSV := Lib.hid (fun (wc : World) (own : Nat → Option Role) (hx : LSt w1 v own D lb 0 192 5 wc) (fv : Value) (hr : RdSl wc 1 fv offs.length (natsU offs)) => save_lv hx CM.out.lv (by omega) fv offs hr hfl hft hfg)
        have HCV := Lib.hid (fun hf => CM.out.save offs hft hfg hf)
        have HDN : Hid (16 < sN D.cur + (fL D.cur offs).length → savD D offs = D) := fun hf => by unfold savD; rw [if_pos hf]
        obtain ⟨c, hcd⟩ : ∃ c : Int, (if 16 < sN D.cur + (fL D.cur offs).length then (4 : Int) else 0) = c := ⟨_, rfl⟩
        have hcv : (c = 4 ∧ 16 < sN D.cur + (fL D.cur offs).length) ∨ (c = 0 ∧ ¬ 16 < sN D.cur + (fL D.cur offs).length) := by
          rw [← hcd]; split
          · rename_i h; exact .inl ⟨rfl, h⟩
          · rename_i h; exact .inr ⟨rfl, h⟩
        rw [hcd] at HSV
        clear hcd hft hfg
        generalize savD D offs = D1 at *
        generalize hm : offs.length = m at *
        have HM := Lib.hid hm; clear hm
        have LB := Lib.hid (LZ.out.alloc (.cells #[.slice wa l.length wc, .int .u64 x] 43))
        have KB := Lib.hid (Kp.boxed LZ.out (.slice wa l.length wc) (.int .u64 x) 43)
        go_wp2_with fail
        (with_reducible refine (HOB.out _ (B1.out.trans (LB.out.bel.mono B1.out.size))).mono ?_)
        rintro e w5 ⟨ov, rfl, a5⟩
        obtain ⟨oa, oc, hov⟩ := a5.slice
        subst hov
        have KO := Lib.hid (Kp.of LB.out a5)
        have L5 := Lib.hid (LB.out.next a5.bel)
        have KB5 := Lib.hid (KB.out.next a5.bel); clear a5 LZ LB KB HOB
        generalize wr.heap.size = pb at *
        go_wp2_with fail
        (with_reducible refine (HSV.out _ _ L5.out _ KO.out.rd).mono ?_)
        rintro e w8 ⟨own8, rfl, l8, m8⟩
        have L8 := Lib.hid l8
        have KO8 := Lib.hid (KO.out.step m8); have KB8 := Lib.hid (KB5.out.step m8)
        clear l8 m8 L5 KO KB5 HSV
        rcases hcv with ⟨hc4, hfull⟩ | ⟨hc0, hfit⟩
        · subst hc4
          have hDD := HDN.out hfull
          rw [hDD] at L8
          clear HCV HDN hfull hDD
          go_wp2_with fail
          go_roundw
          case rel => exact ⟨k + 1, D, own8, by omega, by omega, by go_num, L8.out, CM.out.mono (by omega)⟩
          case measure => simp [intOf]; omega
        · subst hc0
          obtain ⟨hcm1, hsv1, hmem1⟩ := HCV.out hfit
          have CM1 := Lib.hid hcm1; have HME := Lib.hid hmem1
          clear HCV HDN hfit hcm1 hsv1 hmem1
          generalize hS1 : savedL D1.cur 192 5 = S1 at *
          have SW0 : Hid (Sw w1 v lb (200 * k + 100) (.slice oa m oc) (.slice (some ⟨pb, 0, none⟩) 1 1) m S1 (natsU offs) [.slice wa l.length wc, .int .u64 x] D1 own8 w8) := ⟨L8.out, CM1.out, hS1, KO8.out, KB8.out⟩
          clear hS1 L8 KO8 KB8 CM1
          go_wp2_with fail
          go_loopw [40] (fun y wq => ∃ (b : Nat) (D3 : Dev) (own3 : Nat → Option Role), b ≤ m ∧ y = .int .i64 b ∧ Sw w1 v lb (200 * k + 100 + b) (.slice oa m oc) (.slice (some ⟨pb, 0, none⟩) 1 1) m S1 (natsU offs) [.slice wa l.length wc, .int .u64 x] D3 own3 wq) (fun y _ => m - (intOf y).toNat)
          case atStart => exact ⟨0, D1, own8, by omega, rfl, SW0.out⟩
          case round =>
            obtain ⟨b, D3, own3, hb, rfl, hsv⟩ := hrel
            have SWq := Lib.hid hsv; clear hsv
            by_cases hlt3 : b < m
            · have hb' : (b : Int) < m := by omega
              obtain ⟨o, ho⟩ : ∃ o, offs[b]? = some o := ⟨_, List.getElem?_eq_getElem (by rw [HM.out]; exact hlt3)⟩
              obtain ⟨_, a', c', e', _, hE⟩ := SWq.out.ko.rd
              cases e'
              obtain ⟨fb, fo, rfl, hE2⟩ := rd_at hE (natsU_get ho)
              have c1 := hE2 _ _ (natsU_get ho)
              have XD : Hid (wr.drew.cell? ⟨pb, 1, none⟩ = some (.int .u64 x)) := SWq.out.kb.two.2
              have hbw : IntKind.u64.wrap (b : Int) = (b : Int) := IntWalk.u64_in _ (by omega)
              have hyb := wrap_bd (x + (b : Int))
              obtain ⟨hst1, hst2, _⟩ := SWq.out.cm.store o (IntKind.u64.wrap (x + (b : Int))) (by rw [SWq.out.sv]; exact HME.out o (List.mem_of_getElem? ho)) hyb
              have HST := Lib.hid (And.intro hst1 hst2)
              have LD := Lib.hid (SWq.out.st.next ((Below.refl _ _).drew))
              have HSTO := Lib.hid (store_any LD.out.dev (j := 0) (by omega) o (IntKind.u64.wrap (x + (b : Int))) (by have := SWq.out.cm.lv.exec; omega))
              have HTH := Lib.hid (thread0_any LD.out.dev)
              clear hE hE2 ho hst1 hst2 hyb
              generalize hy : IntKind.u64.wrap (x + (b : Int)) = y at *
              go_wp2_with fail
              go_region_held3 (fun wx => wx.cell? ⟨pb, 1, none⟩ = some (.int .u64 x)) (first | (with_reducible exact X4.out) | (with_reducible exact XD.out)) (first | (go_at_call 15; (with_reducible refine HTH.out.mono ?_); rintro e w' ⟨rfl, rfl⟩) | (go_at_call 25; (with_reducible refine HSTO.out.mono ?_); rintro e w13 ⟨rfl, p13⟩; obtain ⟨own4, l13, m13⟩ := LD.out.stepM (D' := D3.store 0 o y) (by rw [HST.out.1.lv.on.n, SWq.out.cm.lv.on.n]) p13; have SW2 : Hid (Sw w1 v lb (200 * k + 100 + (b + 1)) (.slice (some ⟨fb, fo, none⟩) m oc) (.slice (some ⟨pb, 0, none⟩) 1 1) m S1 (natsU offs) [.slice wa l.length wc, .int .u64 x] (D3.store 0 o y) own4 w13) := ⟨l13, HST.out.1, by rw [HST.out.2, SWq.out.sv], (SWq.out.ko.next ((Below.refl _ _).drew)).step m13, (SWq.out.kb.next ((Below.refl _ _).drew)).step m13⟩; have X4 := Lib.hid SW2.out.kb.two.2; clear p13 l13 m13))
              all_goals go_wp2_with fail
              all_goals
                go_roundw
                case rel => exact ⟨b + 1, _, own4, by omega, by go_num, SW2.out⟩
                case measure => simp [intOf]; omega
            · obtain rfl : b = m := by omega
              have L9 := Lib.hid SWq.out.st; have C9 := Lib.hid (SWq.out.cm.mono (y := 200 * (k + 1)) (by omega))
              clear SWq SW0
              go_wp2_with fail
              go_roundw
              case rel => exact ⟨k + 1, D3, own3, by omega, by omega, by go_num, L9.out, C9.out⟩
              case measure => simp [intOf]; omega
    · obtain rfl : k = n := by omega
      have LA := Lib.hid LZ.out
      clear LZ
      have CL := Lib.hid CM.out.commit
      have hvl := validL_len 1536 192 5 (savedL D.cur 192 5); have hsl := savedL_le D.cur
      have HPC := Lib.hid (fun (wx : World) (hx : LogAt wx v ownr D lb 0 192 5) => uPlanCommit_any hx _ _ (load24 hx CM.out.lv) (saved_vin CM.out.lv.vb.cur) hvl)
      have HCO := Lib.hid (fun (wx : World) (hx : LogAt wx v ownr D lb 0 192 5) => uCommit_any hx _ _ (load24 hx CM.out.lv) (saved_vin CM.out.lv.vb.cur) hvl (by have := CM.out.lv.exec; omega))
      have HRC : Hid (∀ (wx : World) (u : Value) (_ : WIn wx u D.cur), Calls Tryd.prog 43 #[.agg #[.int .u64 192, .int .u64 512, .int .u64 1536], u] wx (RPost wx (commitP 192 (savedL D.cur 192 5) (validL 1536 192 5 (savedL D.cur 192 5))))) := fun wx u hu => r16Commit_any hu
      have HPL : Hid ((commitP 192 (savedL D.cur 192 5) (validL 1536 192 5 (savedL D.cur 192 5))).length ≤ 100) := by
        show (commitP 192 (savedL D.cur 192 5) (validL 1536 192 5 (savedL D.cur 192 5))).length ≤ 100
        unfold commitP
        split
        · simp
        · have a1 := flushL_len ((validL 1536 192 5 (savedL D.cur 192 5)).map (·.1)); have a2 := store1_len 192 0
          rw [List.length_map] at a1
          rw [List.length_append]; omega
      generalize commitP 192 (savedL D.cur 192 5) (validL 1536 192 5 (savedL D.cur 192 5)) = P at *
      generalize D.run 0 P = DC at *
      rw [CL.out.1.lv.on.err] at HCO
      have HS0 := Lib.hid (saved0 (C := DC.cur) (by rw [CL.out.2]; rfl))
      clear hvl hsl
      go_wp2_with fail
      (with_reducible refine (current24 LA.out.dev CM.out.lv).mono ?_)
      rintro e z1 ⟨rfl, r1, b1⟩
      have R1 := Lib.hid r1; have M1 := Lib.hid (LA.out.next b1); clear r1 b1 LA
      go_wp2_with fail
      (with_reducible refine (words24 CM.out.lv.vb.cur R1.out).mono ?_)
      rintro e z2 ⟨rfl, d2⟩
      have KC := Lib.hid (Kp.wd M1.out d2); have RC := Lib.hid d2.row
      have HGN : Hid (w1.heap.size ≤ z1.heap.size ∧ lb < z1.heap.size) := ⟨M1.out.bel.size, M1.out.log.blk.lt⟩
      have M2 := Lib.hid (M1.out.next d2.bel); clear d2 R1 M1
      generalize z1.heap.size = gw at *
      go_wp2_with fail
      (with_reducible refine (HPC.out _ M2.out.log).mono ?_)
      rintro e z3 ⟨pv, rfl, a3⟩
      obtain ⟨pa, pc, hpv⟩ := a3.slice
      subst hpv
      have P3 := Lib.hid a3.rd
      have M3 := Lib.hid (M2.out.next a3.bel); have KC3 := Lib.hid (KC.out.next a3.bel); have RC3 := Lib.hid (RC.out.below a3.bel); clear a3 M2 KC RC HPC
      generalize hpn : P.length = pn at *
      have HPN := Lib.hid hpn; clear hpn
      have hpl : pn ≤ 100 := HPL.out
      have W3 := Lib.hid (W1.out.below M3.out.bel)
      have XD : Hid (z3.drew.cell? ⟨0, 0, none⟩ = some (.int .u64 192) ∧ z3.drew.cell? ⟨0, 1, none⟩ = some (.int .u64 512) ∧ z3.drew.cell? ⟨0, 2, none⟩ = some (.int .u64 1536)) := W3.out.all'
      have HPG := Lib.hid (program16_any (w := z3.drew) (.slice pa pn pc) P (by rw [HPN.out]; exact P3.out.drew) (by rw [HPN.out]; omega))
      rw [HPN.out] at HPG
      go_wp2_with fail
      go_region_held3 (fun wx => wx.cell? ⟨0, 0, none⟩ = some (.int .u64 192) ∧ wx.cell? ⟨0, 1, none⟩ = some (.int .u64 512) ∧ wx.cell? ⟨0, 2, none⟩ = some (.int .u64 1536)) (first | (with_reducible exact X11.out) | (with_reducible exact X10.out) | (with_reducible exact X9.out) | (with_reducible exact X8.out) | (with_reducible exact X7.out) | (with_reducible exact X6.out) | (with_reducible exact X5.out) | (with_reducible exact X4.out) | (with_reducible exact XD.out)) (first | (go_at_call 34; (with_reducible refine HPG.out.mono ?_); rintro e z4 ⟨v4, rfl, a4⟩; obtain ⟨a4a, a4c, hv4⟩ := a4.slice; subst hv4; have A4 := Lib.hid a4; have B4 := Lib.hid (bdrew a4.bel); have X4 := Lib.hid ((W3.out.below B4.out).all'); have HR4 := Lib.hid (HRC.out z4 _ ((KC3.out.next B4.out).win CM.out.lv.vb.cur)); clear a4) | (go_at_call 43; (with_reducible refine HR4.out.mono ?_); rintro e z5 ⟨v5, rfl, a5⟩; rw [HPN.out] at a5; obtain ⟨a5a, a5c, hv5⟩ := a5.slice; subst hv5; have B5 := Lib.hid (B4.out.trans (a5.bel.mono B4.out.size)); have X5 := Lib.hid ((W3.out.below B5.out).all'); have HS5 := Lib.hid (r10Same_same (w := z5) (.slice a4a pn a4c) (.slice a5a pn a5c) P (by rw [HPN.out]; exact (A4.out.keep a5.bel).rd) (by rw [HPN.out]; exact a5.rd) (by rw [HPN.out]; omega)); clear a5) | (go_at_call 33; (with_reducible refine HS5.out.mono ?_); rintro e z6 ⟨rfl, b6⟩; have B6 := Lib.hid (B5.out.trans (b6.mono B5.out.size)); have X6 := Lib.hid ((W3.out.below B6.out).all'); have HC6 := Lib.hid (current24 (M3.out.next B6.out).dev CM.out.lv); clear b6) | (go_at_call 20; (with_reducible refine HC6.out.mono ?_); rintro e z7 ⟨rfl, r7, b7⟩; have B7 := Lib.hid (B6.out.trans (b7.mono B6.out.size)); have X7 := Lib.hid ((W3.out.below B7.out).all'); have HW7 := Lib.hid (words24 CM.out.lv.vb.cur r7); clear b7 r7) | (go_at_call 19; (with_reducible refine HW7.out.mono ?_); rintro e z8 ⟨rfl, d8⟩; have B8 := Lib.hid (B7.out.trans (d8.bel.mono B7.out.size)); have X8 := Lib.hid ((W3.out.below B8.out).all'); have HE8 := Lib.hid (eqW d8.rd (KC3.out.next B8.out).rd); clear d8) | (go_at_call 31; (with_reducible refine HE8.out.mono ?_); rintro e z9 ⟨rfl, b9⟩; have B9 := Lib.hid (B8.out.trans (b9.mono B8.out.size)); have X9 := Lib.hid ((W3.out.below B9.out).all'); have M9 := Lib.hid (M3.out.next B9.out); have HC9 := Lib.hid (HCO.out _ M9.out.log); clear b9) | (go_at_call 40; (with_reducible refine HC9.out.mono ?_); rintro e z10 ⟨rfl, p10⟩; obtain ⟨own10, l10, m10⟩ := M9.out.stepM (D' := DC) (by rw [CL.out.1.lv.on.n, CM.out.lv.on.n]) p10; have M10 := Lib.hid l10; have KC10 := Lib.hid ((KC3.out.next B9.out).step m10); have RC10 := Lib.hid ((RC3.out.below B9.out).upd m10.upd (by simpa using ((KC3.out.next B9.out).fr _ rfl).1)); have X10 := Lib.hid ((W1.out.below l10.bel).all'); have HS10 := Lib.hid (saved_none l10.log CL.out.1.lv.on.off CL.out.1.lv.vb HS0.out); clear p10 l10 m10) | (go_at_call 28; (with_reducible refine HS10.out.mono ?_); rintro e z11 ⟨v11a, v11c, rfl, b11⟩; have M11 := Lib.hid (M10.out.next b11); have KC11 := Lib.hid (KC10.out.next b11); have RC11 := Lib.hid (RC10.out.below b11); have X11 := Lib.hid ((W1.out.below M11.out.bel).all'); clear b11))
      all_goals
        obtain ⟨g0, g1, g2⟩ := X11.out
        have hcell := RC11.out.cell (i := 24) (by omega)
        have hfro := RC11.out.frozen 24
        clear X4 X5 X6 X7 X8 X9 X10 B4 B5 B6 B7 B8 B9 A4 HR4 HS5 HC6 HW7 HE8 HC9 HS10 M3 M9 M10 KC3 RC3 KC10 RC10 W3 XD HPG HRC HCO P3
        go_wp2_with fail
        have MZ := Lib.hid (M11.out.poke (Upd.set1 z11 gw 24 (.int .u64 0)) (KC11.out.fr _ rfl).1 (by have := HGN.out; omega) HGN.out.1)
        have RZ : Hid (Row (z11.setCell ⟨gw, 24, none⟩ (.int .u64 0)) gw 192 35 (fun i => .int .u64 (DC.cur i))) := (RC11.out.set 24 (.int .u64 0)).congr (fun i _ => by rw [CL.out.2]; by_cases e : i = 24 <;> simp [e])
        have HCH := Lib.hid (fun (wx : World) (hb : Below w1.heap.size w1 wx) => (HCS.out.1.below (B1.out.trans (hb.mono B1.out.size))))
        have HEX : Hid (DC.exec < 4611686018427387904) := by have := CL.out.1.lv.exec; show DC.exec < 4611686018427387904; omega
        (with_reducible refine (image24 MZ.out.dev CL.out.1 _ cs (by rw [HCN.out]; exact HCH.out _ MZ.out.bel) HCS.out.2.1 (by rw [HCN.out]; exact HCS.out.2.2) HEX.out).mono ?_)
        rintro e y1 ⟨gi, rfl, r1, b1⟩
        have R1 := Lib.hid r1
        have MY := Lib.hid (MZ.out.next b1); have RY := Lib.hid (RZ.out.below b1); clear r1 b1 MZ RZ hcell hfro g0 g1 g2 X11 M11 KC11 RC11
        go_wp2_with fail
        (with_reducible refine (words24 CL.out.1.lv.vb.cur R1.out).mono ?_)
        rintro e y2 ⟨rfl, d2⟩
        have D2 := Lib.hid d2.rd
        have MY2 := Lib.hid (MY.out.next d2.bel); have RY2 := Lib.hid (RY.out.below d2.bel); clear d2 MY RY R1
        go_wp2_with fail
        (with_reducible refine (eqW D2.out (row_rd RY2.out (Nat.le_refl _))).mono ?_)
        rintro e y3 ⟨rfl, b3⟩
        have MY3 := Lib.hid (MY2.out.next b3); clear b3 MY2 RY2 D2
        go_wp2_with fail
        (with_reducible refine (crash24 MY3.out.dev CL.out.1 _ cs (by rw [HCN.out]; exact HCH.out _ MY3.out.bel) HCS.out.2.1 (by rw [HCN.out]; exact HCS.out.2.2) HEX.out).mono ?_)
        rintro e y4 ⟨v4, own4, rfl, d4, b4⟩
        have D4 := Lib.hid d4
        have MY4 := Lib.hid (MY3.out.next b4); clear d4 b4 MY3
        go_wp2_with fail
        (with_reducible refine (thread0_any D4.out).mono ?_)
        rintro e w' ⟨rfl, rfl⟩
        go_wp2_with fail
        (with_reducible refine (look_fresh D4.out CL.out.1.lv.vb.cur HS0.out).mono ?_)
        rintro e y5 ⟨s5a, s5c, rfl, b5⟩
        have MY5 := Lib.hid (MY4.out.next b5); clear b5 MY4 D4
        go_wp2_with fail
        go_ret
        exact ⟨rfl, B1.out.trans (MY5.out.bel.mono B1.out.size)⟩
end
end Go.Proofs.YtokgplgdaememaaDoor

/- UndoCommits returns true for every input, over the listed variable as the program's text lays it: PlanCommit is exactly the specified program; after Commit returned OK every image has the new values and an empty log. No condition besides. -/
namespace Go.Proofs.YtokgplgdaememaaDoor
open Go.ChangeShapes Go.WideShapes Go.ChangeAt Go.RowKit Go.Joins

set_option maxRecDepth 100000 in
theorem undoCommits_lifted (os : Os) (started : os.Started) (H : Type) (enc : TypeId × Value → H) :
    ReturnsInHanded {} Tryd.checked os 8 .any (fun w args => (Rows.undoCommitsSpec.pre enc Tryd.prog Tryd.f8 Rows.undoCommitsRow.domain false w args ∧ laidMetH Tryd.prog laidU w) ∧ sizedMet enc Tryd.prog Tryd.f8 (OpenSpec.ofChange Rows.undoCommitsSpec) false w args)
      (Rows.undoCommitsSpec.post enc Tryd.prog Tryd.f8 false true false false) := by
  refine returnsInHanded_of_change_and (C := Tryd.checked) (X := fun w _ => laidMetH Tryd.prog laidU w) (fun _ _ _ hh h => h.of_heap hh) own_knob started (by kernel_rfl) Tryd.func8
    (ChangeSpec.witness_shaped (enc := enc) (C := Tryd.checked) (os := os) (X := fun w _ => laidMetH Tryd.prog laidU w) false (World.laidAll Tryd.prog os laidU) #[.slice none 0 0, .slice none 0 0] 8 (World.laidAll_os _ _ _)
      (World.shaped_of_ZipB (by kernel_rfl) (by kernel_rfl)) (by kernel_rfl) (by kernel_rfl) (by kernel_rfl)
      (by rw [MakeChecks.laidMetH_plain _ _ _ (by kernel_rfl)]; exact laidMet_laidAll _ (by kernel_rfl) (by kernel_rfl))) ?_
  intro W base args ds gs before hval0 hW _ _ hL _
  have hval : ∀ (j : Nat) t v, Tryd.f8.params[j]? = some t → args[j]? = some v → Value.okWide Tryd.prog W .any base t v := hval0
  have hW' := hW
  have HWH := wh_of_laid hL
  obtain ⟨p, q, hA0, hV, rfl, hfz, hnd⟩ := hW
  have hA : DataW.TrodAll enc Tryd.prog W 0 (fun _ => true) true Tryd.f8.params.toList args.toList ds p := hA0
  rw [Tryd.params8] at hA hval
  clear hA0 hval0
  obtain ⟨v0, vs0, d0, ds0, p0, q0, hargs, rfl, rfl, h0, r0⟩ := trodAll_cons hA
  obtain ⟨v1, vs1, d1, ds1, p1, q1, hargs1, rfl, rfl, h1, r1⟩ := trodAll_cons r0
  obtain ⟨rfl, rfl, rfl⟩ := trodAll_nil r1
  obtain rfl : args = #[v0, v1] := by cases args; simp_all
  obtain ⟨n, xs, hs, hn, hac⟩ := open_acts (hval 0 40 v0 rfl rfl) h0
  obtain ⟨l1, hs1, hb1, hl1⟩ := open_bytesN (hval 1 41 v1 rfl rfl) h1
  have hml : (l1.map fun (n : Nat) => (n : Int)).length = l1.length := by simp
  have hmc : ((l1.map fun (n : Nat) => (n : Int)).map fun x => Value.int .u8 x) = natsB l1 := by simp [natsB]
  refine (undoCommits_any HWH v0 v1 n xs (l1.map fun (n : Nat) => (n : Int)) hs hn hac (by rw [hml, hmc]; exact hs1) (fun x hx => by obtain ⟨m, hm, rfl⟩ := List.mem_map.1 hx; have := hb1 m hm; omega) (by rw [hml]; exact hl1)).mono fun e W' ⟨he, hg⟩ => ?_
  subst he
  refine ⟨_, rfl, law_post hW' rfl (by kernel_rfl) rfl ?_ hg⟩
  rw [Tryd.params8]
  intro t ht
  have hall : ([40, 41].all fun t => Tryd.prog.readableRec t && decide (t < Tryd.prog.types.size)) = true := by kernel_rfl
  have := List.all_eq_true.1 hall t ht
  simpa using this

theorem undoCommits_row : Rows.UndoCommitsSaid :=
  OpenClaim.holds_of_wide 8 Tryd.f8 rfl rfl rfl rfl rfl rfl rfl ⟨rfl, rfl, rfl, rfl, rfl⟩ rfl rfl rfl rfl rfl (by kernel_rfl) Tryd.func8 (by kernel_rfl)
    (of_decide_eq_true (by kernel_rfl)) (by unfold Func.isWrapper; first | (rw [if_pos (by decide +kernel)]; kernel_rfl) | (rw [if_neg (by decide +kernel)]; exact ⟨rfl, rfl⟩))
    (fun os started H enc _ => undoCommits_lifted os started H enc)
theorem undoCommits_holds : Rows.UndoCommitsCardSaid :=
  Claim7.holds_tied_plain_at .later [] [.data] true (true, "5d02ff41f4c91551bdde88e9d7154ed27509754a1175b7e710bd6818def5a27d") false undoCommits_row (fun _ h => by cases h) (by kernel_rfl) (fun _ h => by cases h) undoCommits_row_tie rfl ⟨rfl, rfl⟩ (by kernel_rfl) rfl
    (fun f fn hf hfn => by
      obtain rfl : f = 8 := Option.some.inj ((show Tryd.prog.funcNamed "bedrock/bedrocklaw16.UndoCommits" = some 8 by kernel_rfl).symm.trans hf) |>.symm
      obtain rfl : fn = Tryd.f8 := (Option.some.inj (Tryd.func8.symm.trans hfn)).symm
      exact ⟨by kernel_rfl, fun j t ht => by
        rw [Tryd.params8] at ht
        have hm : t ∈ [40, 41] := by simpa using Array.mem_of_getElem? ht
        have hall : ([40, 41].all fun u => !Tryd.prog.wantsStandIn u) = true := by kernel_rfl
        exact (show Tryd.prog.wantsStandIn t = false by simpa using List.all_eq_true.1 hall t hm)⟩)
    (by kernel_rfl)
#print axioms undoCommits_holds
end Go.Proofs.YtokgplgdaememaaDoor
