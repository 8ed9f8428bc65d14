/- The walk of UndoSaves. -/
import Derived.Test.YtokgplgdaememaaDoorUndH
import Derived.Test.YtokgplgdaememaaDoorOpenF
import Derived.Test.YtokgplgdaememaaDoorCardU
import Derived.Test.YtokgplgdaememaaDoorCards
import Derived.Lib.SmallJoins
import Derived.SevenTiedAt
namespace Go.Proofs.YtokgplgdaememaaDoor
open Go.RowKit Go.Maps
attribute [local go_sem ↓] Go.wp_at_zero Go.wp_at_succ

theorem Kp.two {own : Nat → Option Role} {wc : World} {b : Nat} {u z : Value} (h : Kp own wc 2 (.slice (some ⟨b, 0, none⟩) 1 1) 1 [u, z]) : wc.cell? ⟨b, 0, none⟩ = some u ∧ wc.cell? ⟨b, 1, none⟩ = some z := by
  obtain ⟨_, a, c, e, _, h2⟩ := h.rd
  cases e
  rcases h2 with h2 | ⟨b', o', e, h2⟩
  · cases h2
  · cases e
    exact ⟨h2 0 _ rfl, h2 1 _ rfl⟩
theorem Kp.boxed {w wc : World} {v : DV} {own : Nat → Option Role} {D : Dev} {lb j off n : Nat} (h : LSt w v own D lb j off n wc) (u z : Value) (t : TypeId) :
    Kp own (wc.alloc (.cells #[u, z] t)) 2 (.slice (some ⟨wc.heap.size, 0, none⟩) 1 1) 1 [u, z] := ⟨RdSl.new wc _ t 2 1 rfl, fun k hk => by
  simp [Value.ownBlock] at hk; subst hk
  refine ⟨?_, by simp⟩
  cases ho : own wc.heap.size with
  | none => rfl
  | some r => have := h.log.dev.lt wc.heap.size (by rw [ho]; simp); omega⟩
theorem Kp.poke {own : Nat → Option Role} {wc w1 : World} {s g m : Nat} {sv : Value} {xs : List Value} (h : Kp own wc s sv m xs) (hu : Upd (fun k => k = g) wc w1) (hg : sv.ownBlock ≠ some g) : Kp own w1 s sv m xs :=
  ⟨h.rd.upd hu (fun k hk e => hg (by rw [hk, e])), fun k hk => ⟨(h.fr k hk).1, Nat.lt_of_lt_of_le (h.fr k hk).2 hu.size⟩⟩
theorem Kp.acc {w wc w3 : World} {v : DV} {own : Nat → Option Role} {D : Dev} {lb j off n e s m : Nat} {sv : Value} {xs : List Value} (h : LSt w v own D lb j off n wc) (a : Acc wc wc.heap.size w3 e s sv m xs) : Kp own w3 s sv m xs := Kp.of h a
/-- What is kept through the stores. -/
structure Sv (w : World) (v : DV) (lb : Nat) (C : Nat → Int) (y : Nat) (ov wv bv : Value) (on : Nat) (S : List (Nat × Int)) (os xs : List Value) (D : Dev) (own : Nat → Option Role) (wc : World) : Prop where
  st : LSt w v own D lb 0 192 5 wc
  lv : Lv D 0 24 y
  cur : ∀ i, 24 ≤ i → i < 64 → D.cur i = C i
  ko : Kp own wc 1 ov on os
  kw : Kp own wc 2 wv S.length (flat S)
  kb : Kp own wc 2 bv 1 xs
section
variable {w : World}
set_option maxRecDepth 100000 in
set_option maxHeartbeats 32000000 in
theorem undoSaves_any (h : Wh w) (sv : Value) (n : Nat) (xs : List Value) (hs : RdSl w 2 sv n xs) (hl : n ≤ maxLen) (hA : ∀ i, i < n → ActAt w xs i) :
    Calls Tryd.prog 4 #[sv] w fun r w' => r = .returned (.bool true) ∧ Below w.heap.size w w' := by
  have HW := Lib.hid h; have HS := Lib.hid hs; have HA := Lib.hid hA; clear h hA
  have HML : Hid (maxLen = maxLen) := rfl
  obtain ⟨_, sa, sc, rfl, hsc, _⟩ := hs
  have HCAP := Lib.hid (fun (wc : World) (v : DV) (own : Nat → Option Role) (D : Dev) (lb : Nat) (hx : LogAt wc v own D lb 0 192 5) => ucap_any hx)
  go_enter Tryd.func4, Tryd.ntmps4
  go_wp2_with fail
  (with_reducible refine awake16.mono ?_)
  rintro e w1 ⟨rfl, b1⟩
  have B1 := Lib.hid b1
  have W1 := Lib.hid (HW.out.below b1); clear b1
  go_wp2_with fail
  (with_reducible refine (made16 W1.out).mono ?_)
  rintro e w2 ⟨v, own, lb, rfl, l2⟩
  have L2 := Lib.hid l2; clear l2
  go_wp2_with fail
  (with_reducible refine (thread0_any L2.out.dev).mono ?_)
  rintro e w' ⟨rfl, rfl⟩
  go_wp2_with fail
  go_loopw [28] (fun y wr => ∃ (k : Nat) (D : Dev) (own : Nat → Option Role), k ≤ n ∧ k ≤ 8 ∧ y = .int .i64 k ∧ LSt w1 v own D lb 0 192 5 wr ∧ Lv D 0 24 (200 * k)) (fun y _ => n - (intOf y).toNat)
  case atStart => exact ⟨0, D0, own, by omega, by omega, rfl, L2.out, D0_cl.lv⟩
  case round =>
    clear L2
    obtain ⟨k, D, ownr, hk, hk8, rfl, lr, hlv⟩ := hrel
    have L := Lib.hid lr; have LV := Lib.hid hlv; clear lr hlv
    by_cases hlt : k < n
    · have hlt' : (k : Int) < n := by omega
      obtain ⟨wv, l, x, hx1, hx2, hxb, hwv, hlb, hll⟩ := HA.out k hlt
      have hwv2 := hwv
      obtain ⟨_, wa, wc, hwe, _, _⟩ := hwv2
      subst hwe
      obtain ⟨_, a', c', e', _, hE⟩ := HS.out.below (B1.out.trans (L.out.bel.mono B1.out.size))
      cases e'
      obtain ⟨eb, eo, rfl, hE2⟩ := rd_at hE hx1
      have c1 := hE2 _ _ hx1; have c2 := hE2 _ _ hx2
      rw [← Nat.add_assoc] at c2
      have HX := Lib.hid hxb
      clear hE hE2 hx1 hx2 hxb
      by_cases h8 : k = 8
      · have hb8 : ((k : Int) == 8) = true := by simp; omega
        clear hlb hll hwv h8
        go_wp2_with fail
        (with_reducible refine (HCAP.out _ _ _ _ _ ((L.out.alloc _).log)).mono ?_)
        rintro e w' ⟨rfl, rfl⟩
        go_wp2_with fail
        go_ret
        exact ⟨rfl, B1.out.trans ((L.out.alloc _).bel.mono B1.out.size)⟩
      · have hb8 : ((k : Int) == 8) = false := by simp; omega
        have HOB := Lib.hid (fun (wx : World) (hx : Below w.heap.size w wx) => l16offsets_any (w := wx) _ l true (hwv.below hx) hlb hll)
        have hfl := offsL_len l true; have hft := offsL_lt l true hlb; have hfg := offsL_good l
        clear hlb hll hwv
        generalize offsL l true = offs at *
        have HSV := Lib.hid (fun (wc : World) (own : Nat → Option Role) (hx : LSt w1 v own D lb 0 192 5 wc) (fv : Value) (hr : RdSl wc 1 fv offs.length (natsU offs)) => save_lv hx LV.out (by omega) fv offs hr hfl hft hfg)
        have HCK := Lib.hid (fun (wx : World) (u : Value) (hu : WIn wx u D.cur) (fv : Value) (hr : RdSl wx 1 fv offs.length (natsU offs)) => r16Check_any hu fv offs hr (by omega))
        have HRS : Hid (∀ (wx : World) (u : Value) (_ : WIn wx u D.cur) (fv : Value) (_ : RdSl wx 1 fv offs.length (natsU offs)), Calls Tryd.prog 24 #[.agg #[.int .u64 192, .int .u64 512, .int .u64 1536], u, fv] wx (RPost wx (planP 192 (sN D.cur) (fL D.cur offs)))) := fun wx u hu fv hr => r16Save_any hu fv offs hr (by omega) hfg
        have HLV := Lib.hid (savD_lv LV.out offs hft)
        have hc0 := check_good (C := D.cur) hfg
        have HAP := Lib.hid (fun hf => appL_save LV.out offs hft hf)
        have HOK : Hid (¬ 16 < sN D.cur + (fL D.cur offs).length → ∀ e ∈ planP 192 (sN D.cur) (fL D.cur offs), e.1 = 1 → e.2.1 < 1536) := by
          intro hf e he h1
          rw [plan_groups] at he
          rcases okP_groupsX (plan_fit hf) e he with ⟨_, _, h2⟩ | ⟨h2, _⟩ | h2
          · omega
          · omega
          · rw [h2] at h1; cases h1
        have HPL : Hid ((planP 192 (sN D.cur) (fL D.cur offs)).length ≤ 100) := by have h1 := planP_len 192 (sN D.cur) (fL D.cur offs); have h2 := fL_len D.cur offs; show (planP 192 (sN D.cur) (fL D.cur offs)).length ≤ 100; omega
        have HDN : Hid (16 < sN D.cur + (fL D.cur offs).length → savD D offs = D) := fun hf => by unfold savD; rw [if_pos hf]
        have HFG := Lib.hid (fun o ho => allowed_out (hfg o ho))
        rw [← hc0] at HSV
        obtain ⟨c, hcd⟩ : ∃ c, checkN D.cur offs = c := ⟨_, rfl⟩
        have hcv : (c = 4 ∧ 16 < sN D.cur + (fL D.cur offs).length) ∨ (c = 0 ∧ ¬ 16 < sN D.cur + (fL D.cur offs).length) := by
          rw [← hcd, hc0]; split
          · rename_i h; exact .inl ⟨rfl, h⟩
          · rename_i h; exact .inr ⟨rfl, h⟩
        rw [hcd] at HSV HCK
        have hcc : (c != c) = false := by simp
        clear hc0 hcd hft hfg
        generalize savD D offs = D1 at *
        generalize planP 192 (sN D.cur) (fL D.cur offs) = P at *
        generalize hm : offs.length = m at *
        have HM := Lib.hid hm; clear hm
        have LB := Lib.hid (L.out.alloc (.cells #[.slice wa l.length wc, .int .u64 x] 43))
        have KB := Lib.hid (Kp.boxed L.out (.slice wa l.length wc) (.int .u64 x) 43)
        go_wp2_with fail
        (with_reducible refine (HOB.out _ (B1.out.trans (LB.out.bel.mono B1.out.size))).mono ?_)
        rintro e w5 ⟨ov, rfl, a5⟩
        obtain ⟨oa, oc, hov⟩ := a5.slice
        subst hov
        have KO := Lib.hid (Kp.of LB.out a5)
        have L5 := Lib.hid (LB.out.next a5.bel)
        have KB5 := Lib.hid (KB.out.next a5.bel); clear a5 L LB KB HOB
        generalize wr.heap.size = pb at *
        go_wp2_with fail
        (with_reducible refine (current24 L5.out.dev LV.out).mono ?_)
        rintro e w6 ⟨rfl, r6, b6⟩
        have R6 := Lib.hid r6; have B6 := Lib.hid b6; clear r6 b6
        go_wp2_with fail
        (with_reducible refine (words24 LV.out.vb.cur R6.out).mono ?_)
        rintro e w7 ⟨rfl, d7⟩
        have L6 := Lib.hid (L5.out.next B6.out)
        have KC := Lib.hid (Kp.wd L6.out d7)
        have RW7 := Lib.hid d7.row
        have HGN : Hid (w1.heap.size ≤ w6.heap.size ∧ lb < w6.heap.size ∧ ownr w6.heap.size = none ∧ pb < w6.heap.size) := ⟨L6.out.bel.size, L6.out.log.blk.lt, (KC.out.fr _ rfl).1, ((KB5.out.next B6.out).fr _ rfl).2⟩
        have HON : Hid ((Value.slice oa m oc).ownBlock ≠ some w6.heap.size) := fun e => by have := ((KO.out.next B6.out).fr _ e).2; omega
        have L7 := Lib.hid (L6.out.next d7.bel)
        have KO7 := Lib.hid ((KO.out.next B6.out).next d7.bel)
        have KB7 := Lib.hid ((KB5.out.next B6.out).next d7.bel)
        clear d7 L5 L6 R6 B6 KO KB5
        generalize w6.heap.size = gw at *
        go_wp2_with fail
        (with_reducible refine (HSV.out _ _ L7.out _ KO7.out.rd).mono ?_)
        rintro e w8 ⟨own8, rfl, l8, m8⟩
        have L8 := Lib.hid l8
        have HG8 : Hid (own8 gw = none) := (KC.out.step m8).fr _ rfl |>.1
        have RW8 := Lib.hid (RW7.out.upd m8.upd (by simpa using (KC.out.fr _ rfl).1))
        have KO8 := Lib.hid (KO7.out.step m8); have KB8 := Lib.hid (KB7.out.step m8); have KC8 := Lib.hid (KC.out.step m8)
        clear l8 m8 L7 KO7 KB7 KC RW7 HSV
        obtain ⟨g0, g1, g2⟩ := (W1.out.below L8.out.bel).all'
        go_wp2_with fail
        (with_reducible refine (HCK.out _ _ (KC8.out.win LV.out.vb.cur) _ KO8.out.rd).mono ?_)
        rintro e w9 ⟨rfl, b9⟩
        have L9 := Lib.hid (L8.out.next b9); have KO9 := Lib.hid (KO8.out.next b9); have KB9 := Lib.hid (KB8.out.next b9); have KC9 := Lib.hid (KC8.out.next b9); have RW9 := Lib.hid (RW8.out.below b9)
        clear b9 L8 KO8 KB8 KC8 RW8 g0 g1 g2
        obtain ⟨g0, g1, g2⟩ := (W1.out.below L9.out.bel).all'
        go_wp2_with fail
        (with_reducible refine (r16Saved_any (KC9.out.win LV.out.vb.cur)).mono ?_)
        rintro e w10 ⟨v10, rfl, a10⟩
        obtain ⟨s10a, s10c, hv10⟩ := a10.slice
        subst hv10
        have KW := Lib.hid (Kp.of L9.out a10)
        have L10 := Lib.hid (L9.out.next a10.bel); have KO10 := Lib.hid (KO9.out.next a10.bel); have KB10 := Lib.hid (KB9.out.next a10.bel); have KC10 := Lib.hid (KC9.out.next a10.bel); have RW10 := Lib.hid (RW9.out.below a10.bel)
        clear a10 L9 KO9 KB9 KC9 RW9 g0 g1 g2
        rcases hcv with ⟨hc4, hfull⟩ | ⟨hc0, hfit⟩
        · subst hc4
          have hDD := HDN.out hfull
          rw [hDD] at L10
          clear HOK HAP HDN HRS HCK hfull hDD RW10 KC10 KO10 KB10
          have HSQ : Hid ((savedL D.cur 192 5).length ≤ 16) := by show (savedL D.cur 192 5).length ≤ 16; unfold savedL; rw [entsL_len]; exact cntL_le _ _ _
          have HS0 := Lib.hid (fun (wx : World) (lb : Nat) (j : Nat) (hx : LogAt wx v own8 D lb j 192 5) => uSaved_any hx LV.out.on.off LV.out.vb)
          have HLK := Lib.hid (fun (wx : World) (hx : IsDev wx v own8 D) => look24 hx LV.out.on.n (j := 2) (by omega) LV.out.on.off LV.out.vb)
          have HOP := Lib.hid (fun (wx : World) (hx : IsDev wx v own8 D) => open24 hx LV.out.on.n (j := 1) (by omega))
          have HTD := Lib.hid (fun (wx : World) (u : Value) (hx : RdSl wx 2 u (savedL D.cur 192 5).length (flat (savedL D.cur 192 5))) (hlt : ∀ k, u.ownBlock = some k → k < wx.heap.size) => told16_any u _ hx (by have := HSQ.out; omega) hlt)
          have HEQ := Lib.hid (fun (wx : World) (u z : Value) (hx : RdSl wx 2 u (savedL D.cur 192 5).length (flat (savedL D.cur 192 5))) (hz : RdSl wx 2 z (savedL D.cur 192 5).length (flat (savedL D.cur 192 5))) => equalRW_same u z _ hx hz (by have := HSQ.out; omega))
          generalize savedL D.cur 192 5 = SS at *
          generalize hss : SS.length = ss at *
          clear hss
          go_wp2_with fail
          (with_reducible refine (thread1_any L10.out.dev).mono ?_)
          rintro e w' ⟨rfl, rfl⟩
          go_wp2_with fail
          (with_reducible refine (HOP.out _ L10.out.dev).mono ?_)
          rintro e y1 ⟨rfl, g1, b1⟩
          have Y1 := Lib.hid (L10.out.next b1); have G1 := Lib.hid g1; have V1 := Lib.hid (KW.out.next b1); clear g1 b1
          generalize (w10).heap.size = l2 at *
          go_wp2_with fail
          (with_reducible refine (HS0.out _ _ _ Y1.out.log).mono ?_)
          rintro e y2 ⟨s2, rfl, a2⟩
          obtain ⟨s2a, s2c, hs2⟩ := a2.slice
          subst hs2
          have A2 := Lib.hid a2
          have Y2 := Lib.hid (Y1.out.next a2.bel); have G2 := Lib.hid (G1.out.below a2.bel); have V2 := Lib.hid (V1.out.next a2.bel); clear a2 Y1 G1 V1
          go_wp2_with fail
          (with_reducible refine (HTD.out _ _ A2.out.rd (fun k hk => A2.out.own.lt k hk)).mono ?_)
          rintro e y3 ⟨s3, rfl, a3⟩
          obtain ⟨s3a, s3c, hs3⟩ := a3.slice
          subst hs3
          have A3 := Lib.hid a3
          have Y3 := Lib.hid (Y2.out.next a3.bel); have G3 := Lib.hid (G2.out.below a3.bel); have V3 := Lib.hid (V2.out.next a3.bel); clear a3 Y2 G2 V2 A2
          go_wp2_with fail
          (with_reducible refine (HEQ.out _ _ _ A3.out.rd V3.out.rd).mono ?_)
          rintro e y4 ⟨rfl, b4⟩
          have Y4 := Lib.hid (Y3.out.next b4); have G4 := Lib.hid (G3.out.below b4); have V4 := Lib.hid (V3.out.next b4); clear b4 Y3 G3 V3 A3
          go_wp2_with fail
          (with_reducible refine (HS0.out _ _ _ G4.out).mono ?_)
          rintro e y2 ⟨s2, rfl, a2⟩
          obtain ⟨s2a, s2c, hs2⟩ := a2.slice
          subst hs2
          have A2 := Lib.hid a2
          have Y2 := Lib.hid (Y4.out.next a2.bel); have V2 := Lib.hid (V4.out.next a2.bel); clear a2 Y4 G4 V4
          go_wp2_with fail
          (with_reducible refine (HTD.out _ _ A2.out.rd (fun k hk => A2.out.own.lt k hk)).mono ?_)
          rintro e y3 ⟨s3, rfl, a3⟩
          obtain ⟨s3a, s3c, hs3⟩ := a3.slice
          subst hs3
          have A3 := Lib.hid a3
          have Y3 := Lib.hid (Y2.out.next a3.bel); have V3 := Lib.hid (V2.out.next a3.bel); clear a3 Y2 V2 A2
          go_wp2_with fail
          (with_reducible refine (HEQ.out _ _ _ A3.out.rd V3.out.rd).mono ?_)
          rintro e y4 ⟨rfl, b4⟩
          have Y4 := Lib.hid (Y3.out.next b4); have V4 := Lib.hid (V3.out.next b4); clear b4 Y3 V3 A3
          go_wp2_with fail
          (with_reducible refine (thread2_any Y4.out.dev).mono ?_)
          rintro e w' ⟨rfl, rfl⟩
          go_wp2_with fail
          (with_reducible refine (HLK.out _ Y4.out.dev).mono ?_)
          rintro e y2 ⟨s2, rfl, a2⟩
          obtain ⟨s2a, s2c, hs2⟩ := a2.slice
          subst hs2
          have A2 := Lib.hid a2
          have Y2 := Lib.hid (Y4.out.next a2.bel); have V2 := Lib.hid (V4.out.next a2.bel); clear a2 Y4 V4
          go_wp2_with fail
          (with_reducible refine (HTD.out _ _ A2.out.rd (fun k hk => A2.out.own.lt k hk)).mono ?_)
          rintro e y3 ⟨s3, rfl, a3⟩
          obtain ⟨s3a, s3c, hs3⟩ := a3.slice
          subst hs3
          have A3 := Lib.hid a3
          have Y3 := Lib.hid (Y2.out.next a3.bel); have V3 := Lib.hid (V2.out.next a3.bel); clear a3 Y2 V2 A2
          go_wp2_with fail
          (with_reducible refine (HEQ.out _ _ _ A3.out.rd V3.out.rd).mono ?_)
          rintro e y4 ⟨rfl, b4⟩
          have Y4 := Lib.hid (Y3.out.next b4); clear b4 Y3 V3 A3
          go_wp2_with fail
          go_roundw
          case rel => exact ⟨k + 1, D, own8, by omega, by omega, by go_num, Y4.out, LV.out.mono (by omega)⟩
          case measure => simp [intOf]; omega
        · subst hc0
          obtain ⟨g0, g1, g2⟩ := (W1.out.below L10.out.bel).all'
          have HAP2 := Lib.hid (HAP.out hfit); have HOK2 := Lib.hid (HOK.out hfit)
          clear HAP HOK HDN HCK hfit
          go_wp2_with fail
          (with_reducible refine (HRS.out _ _ (KC10.out.win LV.out.vb.cur) _ KO10.out.rd).mono ?_)
          rintro e w11 ⟨v11, rfl, a11⟩
          obtain ⟨pa, pc, hv11⟩ := a11.slice
          subst hv11
          have KP := Lib.hid (Kp.of L10.out a11)
          have HPB2 : Hid ((Value.slice pa P.length pc).ownBlock ≠ some gw) := fun e => by have h1 := a11.new _ e; have h2 := RW10.out.lt; omega
          have L11 := Lib.hid (L10.out.next a11.bel); have KO11 := Lib.hid (KO10.out.next a11.bel); have KB11 := Lib.hid (KB10.out.next a11.bel); have RW11 := Lib.hid (RW10.out.below a11.bel)
          clear a11 L10 KO10 KB10 RW10 KC10 KW HRS g0 g1 g2
          generalize hpn : P.length = pn at *
          have HPN := Lib.hid hpn; clear hpn
          have hpl := HPL.out
          obtain ⟨wq0, hwq0⟩ : ∃ q : World, q = w11 := ⟨_, rfl⟩
          subst hwq0
          go_wp2_with fail
          go_loopw [60] (fun y wq => ∃ a : Nat, a ≤ pn ∧ y = .int .i64 a ∧ Upd (fun k => k = gw) wq0 wq ∧ Row wq gw 192 35 (fun i => .int .u64 (appL (P.take a) (D.cur i) i))) (fun y _ => pn - (intOf y).toNat)
          case atStart => exact ⟨0, by omega, rfl, Upd.refl _ _, RW11.out⟩
          case round =>
            obtain ⟨a, ha, rfl, hu, hrow⟩ := hrel
            have U := Lib.hid hu; have RQ := Lib.hid hrow; clear hu hrow
            by_cases hlt2 : a < pn
            · have ha' : (a : Int) < pn := by omega
              obtain ⟨e, he⟩ : ∃ e, P[a]? = some e := ⟨_, List.getElem?_eq_getElem (by rw [HPN.out]; exact hlt2)⟩
              obtain ⟨_, a', c', e', _, hE⟩ := (KP.out.poke U.out HPB2.out).rd
              cases e'
              have hg := instrC_get P a e he
              obtain ⟨fb, fo, rfl, hE2⟩ := rd_at hE hg.1
              have c1 := hE2 _ _ hg.1; have c2 := hE2 _ _ hg.2.1; have c3 := hE2 _ _ hg.2.2
              rw [← Nat.add_assoc] at c2 c3
              have HT := Lib.hid (take_snocI P a e he)
              have hok := HOK2.out e (List.mem_of_getElem? he)
              clear hE hE2 he hg
              obtain ⟨e1, e2, e3⟩ := e
              simp only at c1 c2 c3 hok
              by_cases h1 : e1 = 1
              · have hb1 : ((e1 : Int) == 1) = true := by simp; omega
                have h2 := hok h1
                obtain ⟨d, hd⟩ : ∃ d, e2 / 8 = d := ⟨_, rfl⟩
                have q1 : (e2 : Int) / 8 = (d : Int) := by omega
                have q2 : (e2 : Int).tdiv 8 = (d : Int) := by rw [Int.tdiv_eq_ediv_of_nonneg (by omega)]; omega
                have hdn : d < 192 := by omega
                have hdn' : (d : Int) < 192 := by omega
                have RA : Hid (Row (wr.alloc (.cells #[.int .u8 (e1 : Int), .int .u64 (e2 : Int), .int .u64 e3] 55)) gw 192 35 (fun i => .int .u64 (appL (P.take a) (D.cur i) i))) := RQ.out.alloc _
                have hcell := RA.out.cell hdn
                have hfro := RA.out.frozen d
                have HE1 : Hid (∀ i, appL (P.take (a + 1)) (D.cur i) i = if i = d then e3 else appL (P.take a) (D.cur i) i) := by
                  intro i
                  rw [HT.out, appL_snoc]
                  by_cases e : i = d
                  · rw [if_pos e, if_pos ⟨h1, by show e2 / 8 = i; omega⟩]
                  · rw [if_neg e, if_neg (fun h => e (by have h' : e2 / 8 = i := h.2; omega))]
                clear h1 hok h2 hd HT
                go_wp2_with fail
                go_roundw
                case rel => exact ⟨a + 1, by omega, by go_num, (U.out.alloc _).setCell (p := ⟨gw, d, none⟩) (fun _ => rfl) _, (RA.out.set d (.int .u64 e3)).congr (fun i _ => by rw [HE1.out]; by_cases e : i = d <;> simp [e])⟩
                case measure => simp [intOf]; omega
              · have hb1 : ((e1 : Int) == 1) = false := by simp; omega
                have HE1 : Hid (∀ i, appL (P.take (a + 1)) (D.cur i) i = appL (P.take a) (D.cur i) i) := by
                  intro i
                  rw [HT.out, appL_snoc, if_neg (fun h => h1 h.1)]
                clear h1 hok HT
                go_wp2_with fail
                go_roundw
                case rel => exact ⟨a + 1, by omega, by go_num, U.out.alloc _, (RQ.out.alloc _).congr (fun i _ => by rw [HE1.out])⟩
                case measure => simp [intOf]; omega
            · obtain rfl : a = pn := by omega
              have hPt : P.take a = P := List.take_of_length_le (by rw [HPN.out]; omega)
              have R1 : Hid (Row wr gw 192 35 (fun i => .int .u64 (D1.cur i))) := RQ.out.congr (fun i _ => by rw [hPt, HAP2.out])
              have LQ := Lib.hid (L11.out.poke U.out HG8.out (by have := HGN.out; omega) HGN.out.1)
              have KOQ := Lib.hid (KO11.out.poke U.out HON.out)
              have KBQ := Lib.hid (KB11.out.poke U.out (by simp [Value.ownBlock]; have := HGN.out; omega))
              have WI : Hid (WIn wr (.slice (some ⟨gw, 0, none⟩) 192 192) D1.cur) := ⟨row_rd R1.out (Nat.le_refl _), HLV.out.vb.cur⟩
              clear RQ U L11 KO11 KB11 RW11 hPt KP HPB2 R1 HOK2 HAP2
              obtain ⟨g0, g1, g2⟩ := (W1.out.below LQ.out.bel).all'
              go_wp2_with fail
              (with_reducible refine (r16Saved_any WI.out).mono ?_)
              rintro e w12 ⟨v12, rfl, a12⟩
              obtain ⟨s12a, s12c, hv12⟩ := a12.slice
              subst hv12
              have KW := Lib.hid (Kp.of LQ.out a12)
              have SV0 : Hid (Sv w1 v lb D1.cur (200 * k + 100) (.slice oa m oc) (.slice s12a (savedL D1.cur 192 5).length s12c) (.slice (some ⟨pb, 0, none⟩) 1 1) m (savedL D1.cur 192 5) (natsU offs) [.slice wa l.length wc, .int .u64 x] D1 own8 w12) :=
                ⟨LQ.out.next a12.bel, HLV.out, fun _ _ _ => rfl, KOQ.out.next a12.bel, KW.out, KBQ.out.next a12.bel⟩
              clear a12 KW LQ KOQ KBQ WI g0 g1 g2
              have HSC := Lib.hid (fun (C : Nat → Int) (h : ∀ i, 24 ≤ i → i < 64 → C i = D1.cur i) => savedL_congr h)
              generalize savedL D1.cur 192 5 = S1 at *
              generalize hsl : S1.length = sl at *
              have HSL := Lib.hid hsl; clear hsl
              go_wp2_with fail
              go_loopw [80] (fun y wq => ∃ (b : Nat) (D3 : Dev) (own3 : Nat → Option Role), b ≤ m ∧ y = .int .i64 b ∧ Sv w1 v lb D1.cur (200 * k + 100 + b) (.slice oa m oc) (.slice s12a S1.length s12c) (.slice (some ⟨pb, 0, none⟩) 1 1) m S1 (natsU offs) [.slice wa l.length wc, .int .u64 x] D3 own3 wq) (fun y _ => m - (intOf y).toNat)
              case atStart => exact ⟨0, D1, own8, by omega, rfl, by rw [HSL.out]; exact SV0.out⟩
              case round =>
                obtain ⟨b, D3, own3, hb, rfl, hsv⟩ := hrel
                have SVq := Lib.hid hsv; clear hsv
                by_cases hlt3 : b < m
                · have hb' : (b : Int) < m := by omega
                  obtain ⟨o, ho⟩ : ∃ o, offs[b]? = some o := ⟨_, List.getElem?_eq_getElem (by rw [HM.out]; exact hlt3)⟩
                  obtain ⟨_, a', c', e', _, hE⟩ := SVq.out.ko.rd
                  cases e'
                  obtain ⟨fb, fo, rfl, hE2⟩ := rd_at hE (natsU_get ho)
                  have c1 := hE2 _ _ (natsU_get ho)
                  obtain ⟨c2, c3⟩ := SVq.out.kb.two
                  have hof := HFG.out o (List.mem_of_getElem? ho)
                  obtain ⟨hst1, hst2⟩ := SVq.out.lv.store o x ⟨hof.1, hof.2.1⟩ HX.out
                  have HST := Lib.hid (And.intro hst1 hst2)
                  have HOF := Lib.hid hof
                  clear hE hE2 ho hst1 hst2 hof
                  go_wp2_with fail
                  (with_reducible refine (store_any SVq.out.st.dev (j := 0) (by omega) o x (by have := SVq.out.lv.exec; omega)).mono ?_)
                  rintro e w13 ⟨rfl, p13⟩
                  obtain ⟨own4, l13, m13⟩ := SVq.out.st.stepM (D' := D3.store 0 o x) (by rw [HST.out.1.on.n, SVq.out.lv.on.n]) p13
                  have SV2 : Hid (Sv w1 v lb D1.cur (200 * k + 100 + (b + 1)) _ (.slice s12a S1.length s12c) _ m S1 (natsU offs) [.slice wa l.length wc, .int .u64 x] (D3.store 0 o x) own4 w13) :=
                    ⟨l13, HST.out.1, fun i h1 h2 => by rw [HST.out.2, if_neg (by have := HOF.out; omega), SVq.out.cur i h1 h2], SVq.out.ko.step m13, SVq.out.kw.step m13, SVq.out.kb.step m13⟩
                  clear p13 l13 m13
                  go_wp2_with fail
                  go_roundw
                  case rel => exact ⟨b + 1, _, own4, by omega, by go_num, SV2.out⟩
                  case measure => simp [intOf]; omega
                · obtain rfl : b = m := by omega
                  have LVZ := Lib.hid SVq.out.lv; have LZ := Lib.hid SVq.out.st
                  have hsc := HSC.out D3.cur SVq.out.cur
                  have KWZ : Hid (Kp own3 wr 2 (.slice s12a S1.length s12c) S1.length (flat S1)) := SVq.out.kw
                  rw [← hsc] at KWZ
                  have HSL2 := Lib.hid (HSL.out)
                  rw [← hsc] at HSL2
                  clear SVq SV0 HSC
                  have HSQ : Hid ((savedL D3.cur 192 5).length ≤ 16) := by show (savedL D3.cur 192 5).length ≤ 16; unfold savedL; rw [entsL_len]; exact cntL_le _ _ _
                  have HS0 := Lib.hid (fun (wx : World) (lb : Nat) (j : Nat) (hx : LogAt wx v own3 D3 lb j 192 5) => uSaved_any hx LVZ.out.on.off LVZ.out.vb)
                  have HLK := Lib.hid (fun (wx : World) (hx : IsDev wx v own3 D3) => look24 hx LVZ.out.on.n (j := 2) (by omega) LVZ.out.on.off LVZ.out.vb)
                  have HOP := Lib.hid (fun (wx : World) (hx : IsDev wx v own3 D3) => open24 hx LVZ.out.on.n (j := 1) (by omega))
                  have HTD := Lib.hid (fun (wx : World) (u : Value) (hx : RdSl wx 2 u (savedL D3.cur 192 5).length (flat (savedL D3.cur 192 5))) (hlt : ∀ k, u.ownBlock = some k → k < wx.heap.size) => told16_any u _ hx (by have := HSQ.out; omega) hlt)
                  have HEQ := Lib.hid (fun (wx : World) (u z : Value) (hx : RdSl wx 2 u (savedL D3.cur 192 5).length (flat (savedL D3.cur 192 5))) (hz : RdSl wx 2 z (savedL D3.cur 192 5).length (flat (savedL D3.cur 192 5))) => equalRW_same u z _ hx hz (by have := HSQ.out; omega))
                  generalize savedL D3.cur 192 5 = SS at *
                  generalize hss : SS.length = ss at *
                  have e := HSL2.out; subst e; clear hss
                  go_wp2_with fail
                  (with_reducible refine (thread1_any LZ.out.dev).mono ?_)
                  rintro e w' ⟨rfl, rfl⟩
                  go_wp2_with fail
                  (with_reducible refine (HOP.out _ LZ.out.dev).mono ?_)
                  rintro e y1 ⟨rfl, g1, b1⟩
                  have Y1 := Lib.hid (LZ.out.next b1); have G1 := Lib.hid g1; have V1 := Lib.hid (KWZ.out.next b1); clear g1 b1
                  generalize (wr).heap.size = l2 at *
                  go_wp2_with fail
                  (with_reducible refine (HS0.out _ _ _ Y1.out.log).mono ?_)
                  rintro e y2 ⟨s2, rfl, a2⟩
                  obtain ⟨s2a, s2c, hs2⟩ := a2.slice
                  subst hs2
                  have A2 := Lib.hid a2
                  have Y2 := Lib.hid (Y1.out.next a2.bel); have G2 := Lib.hid (G1.out.below a2.bel); have V2 := Lib.hid (V1.out.next a2.bel); clear a2 Y1 G1 V1
                  go_wp2_with fail
                  (with_reducible refine (HTD.out _ _ A2.out.rd (fun k hk => A2.out.own.lt k hk)).mono ?_)
                  rintro e y3 ⟨s3, rfl, a3⟩
                  obtain ⟨s3a, s3c, hs3⟩ := a3.slice
                  subst hs3
                  have A3 := Lib.hid a3
                  have Y3 := Lib.hid (Y2.out.next a3.bel); have G3 := Lib.hid (G2.out.below a3.bel); have V3 := Lib.hid (V2.out.next a3.bel); clear a3 Y2 G2 V2 A2
                  go_wp2_with fail
                  (with_reducible refine (HEQ.out _ _ _ A3.out.rd V3.out.rd).mono ?_)
                  rintro e y4 ⟨rfl, b4⟩
                  have Y4 := Lib.hid (Y3.out.next b4); have G4 := Lib.hid (G3.out.below b4); have V4 := Lib.hid (V3.out.next b4); clear b4 Y3 G3 V3 A3
                  go_wp2_with fail
                  (with_reducible refine (HS0.out _ _ _ G4.out).mono ?_)
                  rintro e y2 ⟨s2, rfl, a2⟩
                  obtain ⟨s2a, s2c, hs2⟩ := a2.slice
                  subst hs2
                  have A2 := Lib.hid a2
                  have Y2 := Lib.hid (Y4.out.next a2.bel); have V2 := Lib.hid (V4.out.next a2.bel); clear a2 Y4 G4 V4
                  go_wp2_with fail
                  (with_reducible refine (HTD.out _ _ A2.out.rd (fun k hk => A2.out.own.lt k hk)).mono ?_)
                  rintro e y3 ⟨s3, rfl, a3⟩
                  obtain ⟨s3a, s3c, hs3⟩ := a3.slice
                  subst hs3
                  have A3 := Lib.hid a3
                  have Y3 := Lib.hid (Y2.out.next a3.bel); have V3 := Lib.hid (V2.out.next a3.bel); clear a3 Y2 V2 A2
                  go_wp2_with fail
                  (with_reducible refine (HEQ.out _ _ _ A3.out.rd V3.out.rd).mono ?_)
                  rintro e y4 ⟨rfl, b4⟩
                  have Y4 := Lib.hid (Y3.out.next b4); have V4 := Lib.hid (V3.out.next b4); clear b4 Y3 V3 A3
                  go_wp2_with fail
                  (with_reducible refine (thread2_any Y4.out.dev).mono ?_)
                  rintro e w' ⟨rfl, rfl⟩
                  go_wp2_with fail
                  (with_reducible refine (HLK.out _ Y4.out.dev).mono ?_)
                  rintro e y2 ⟨s2, rfl, a2⟩
                  obtain ⟨s2a, s2c, hs2⟩ := a2.slice
                  subst hs2
                  have A2 := Lib.hid a2
                  have Y2 := Lib.hid (Y4.out.next a2.bel); have V2 := Lib.hid (V4.out.next a2.bel); clear a2 Y4 V4
                  go_wp2_with fail
                  (with_reducible refine (HTD.out _ _ A2.out.rd (fun k hk => A2.out.own.lt k hk)).mono ?_)
                  rintro e y3 ⟨s3, rfl, a3⟩
                  obtain ⟨s3a, s3c, hs3⟩ := a3.slice
                  subst hs3
                  have A3 := Lib.hid a3
                  have Y3 := Lib.hid (Y2.out.next a3.bel); have V3 := Lib.hid (V2.out.next a3.bel); clear a3 Y2 V2 A2
                  go_wp2_with fail
                  (with_reducible refine (HEQ.out _ _ _ A3.out.rd V3.out.rd).mono ?_)
                  rintro e y4 ⟨rfl, b4⟩
                  have Y4 := Lib.hid (Y3.out.next b4); clear b4 Y3 V3 A3
                  go_wp2_with fail
                  go_roundw
                  case rel => exact ⟨k + 1, D3, own3, by omega, by omega, by go_num, Y4.out, LVZ.out.mono (by omega)⟩
                  case measure => simp [intOf]; omega
    · obtain rfl : k = n := by omega
      go_wp2_with fail
      (with_reducible refine (HCAP.out _ _ _ _ _ L.out.log).mono ?_)
      rintro e w' ⟨rfl, rfl⟩
      go_wp2_with fail
      go_ret
      exact ⟨rfl, B1.out.trans (L.out.bel.mono B1.out.size)⟩
end
end Go.Proofs.YtokgplgdaememaaDoor

/- UndoSaves returns true for every input, over the listed variable as the program's text lays it: after any sequence of Save and stores, exactly the words that were saved are saved, each with its value of that moment. No condition besides. -/
namespace Go.Proofs.YtokgplgdaememaaDoor
open Go.ChangeShapes Go.WideShapes Go.ChangeAt Go.RowKit Go.Joins

set_option maxRecDepth 100000 in
theorem undoSaves_lifted (os : Os) (started : os.Started) (H : Type) (enc : TypeId × Value → H) :
    ReturnsInHanded {} Tryd.checked os 4 .any (fun w args => (Rows.undoSavesSpec.pre enc Tryd.prog Tryd.f4 Rows.undoSavesRow.domain false w args ∧ laidMetH Tryd.prog laidU w) ∧ sizedMet enc Tryd.prog Tryd.f4 (OpenSpec.ofChange Rows.undoSavesSpec) false w args)
      (Rows.undoSavesSpec.post enc Tryd.prog Tryd.f4 false true false false) := by
  refine returnsInHanded_of_change_and (C := Tryd.checked) (X := fun w _ => laidMetH Tryd.prog laidU w) (fun _ _ _ hh h => h.of_heap hh) own_knob started (by kernel_rfl) Tryd.func4
    (ChangeSpec.witness_shaped (enc := enc) (C := Tryd.checked) (os := os) (X := fun w _ => laidMetH Tryd.prog laidU w) false (World.laidAll Tryd.prog os laidU) #[.slice none 0 0] 8 (World.laidAll_os _ _ _)
      (World.shaped_of_ZipB (by kernel_rfl) (by kernel_rfl)) (by kernel_rfl) (by kernel_rfl) (by kernel_rfl)
      (by rw [MakeChecks.laidMetH_plain _ _ _ (by kernel_rfl)]; exact laidMet_laidAll _ (by kernel_rfl) (by kernel_rfl))) ?_
  intro W base args ds gs before hval0 hW _ _ hL _
  have hval : ∀ (j : Nat) t v, Tryd.f4.params[j]? = some t → args[j]? = some v → Value.okWide Tryd.prog W .any base t v := hval0
  have hW' := hW
  have HWH := wh_of_laid hL
  obtain ⟨p, q, hA0, hV, rfl, hfz, hnd⟩ := hW
  have hA : DataW.TrodAll enc Tryd.prog W 0 (fun _ => true) true Tryd.f4.params.toList args.toList ds p := hA0
  rw [Tryd.params4] at hA hval
  clear hA0 hval0
  obtain ⟨v0, vs0, d0, ds0, p0, q0, hargs, rfl, rfl, h0, r0⟩ := trodAll_cons hA
  obtain ⟨rfl, rfl, rfl⟩ := trodAll_nil r0
  obtain rfl : args = #[v0] := by cases args; simp_all
  obtain ⟨n, xs, hs, hn, hac⟩ := open_acts (hval 0 40 v0 rfl rfl) h0
  refine (undoSaves_any HWH v0 n xs hs hn hac).mono fun e W' ⟨he, hg⟩ => ?_
  subst he
  refine ⟨_, rfl, law_post hW' rfl (by kernel_rfl) rfl ?_ hg⟩
  rw [Tryd.params4]
  intro t ht
  have hall : ([40].all fun t => Tryd.prog.readableRec t && decide (t < Tryd.prog.types.size)) = true := by kernel_rfl
  have := List.all_eq_true.1 hall t ht
  simpa using this

theorem undoSaves_row : Rows.UndoSavesSaid :=
  OpenClaim.holds_of_wide 4 Tryd.f4 rfl rfl rfl rfl rfl rfl rfl ⟨rfl, rfl, rfl, rfl, rfl⟩ rfl rfl rfl rfl rfl (by kernel_rfl) Tryd.func4 (by kernel_rfl)
    (of_decide_eq_true (by kernel_rfl)) (by unfold Func.isWrapper; first | (rw [if_pos (by decide +kernel)]; kernel_rfl) | (rw [if_neg (by decide +kernel)]; exact ⟨rfl, rfl⟩))
    (fun os started H enc _ => undoSaves_lifted os started H enc)
theorem undoSaves_holds : Rows.UndoSavesCardSaid :=
  Claim7.holds_tied_plain_at .later [] [.data] true (true, "5d02ff41f4c91551bdde88e9d7154ed27509754a1175b7e710bd6818def5a27d") false undoSaves_row (fun _ h => by cases h) (by kernel_rfl) (fun _ h => by cases h) undoSaves_row_tie rfl ⟨rfl, rfl⟩ (by kernel_rfl) rfl
    (fun f fn hf hfn => by
      obtain rfl : f = 4 := Option.some.inj ((show Tryd.prog.funcNamed "bedrock/bedrocklaw16.UndoSaves" = some 4 by kernel_rfl).symm.trans hf) |>.symm
      obtain rfl : fn = Tryd.f4 := (Option.some.inj (Tryd.func4.symm.trans hfn)).symm
      exact ⟨by kernel_rfl, fun j t ht => by
        rw [Tryd.params4] at ht
        have hm : t ∈ [40] := by simpa using Array.mem_of_getElem? ht
        have hall : ([40].all fun u => !Tryd.prog.wantsStandIn u) = true := by kernel_rfl
        exact (show Tryd.prog.wantsStandIn t = false by simpa using List.all_eq_true.1 hall t hm)⟩)
    (by kernel_rfl)
#print axioms undoSaves_holds
end Go.Proofs.YtokgplgdaememaaDoor
