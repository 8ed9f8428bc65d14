/- The walk of the reference's Actions. Printed by wip/genr14act.py. -/
import Derived.Test.YtmfchlliechikaaGreatDoorRtR
import Derived.Test.YtmfchlliechikaaGreatDoorRtY
namespace Go.Proofs.YtmfchlliechikaaGreatDoor
open Go.RowKit Go.Maps
attribute [local go_sem ↓] Go.wp_at_zero Go.wp_at_succ

section
variable {w wx : World} {b off : Nat} {W : Nat → Nat}
theorem acc_pair (hb : Below w.heap.size w wx) (q : Nat) (X x : Int) (hX : X = (q : Nat)) : Acc w w.heap.size (wx.alloc (.cells #[.int .u64 X, .int .u64 x] 104)) 104 2 (.slice (some ⟨wx.heap.size, 0, none⟩) 1 1) 1 (flat [(q, x)]) := by
  subst hX
  exact ⟨by have := OwnSl.new wx #[.int .u64 q, .int .u64 x] 104 2 1 1 rfl (Nat.le_refl _) (by unfold maxLen; omega)
            simpa [flat] using this,
    fun g hg => by simp [Value.ownBlock] at hg; have := hb.size; omega, hb.trans ((below_alloc wx _).mono hb.size), Nat.le_trans hb.size (by simp)⟩
theorem acc_four (hb : Below w.heap.size w wx) (g : Nat) (hg : g = wx.heap.size) (q : Nat) (X0 X1 X2 X3 a c d e : Int) (h0 : X0 = (q : Nat)) (h1 : X1 = (q + 8 : Nat)) (h2 : X2 = (q + 16 : Nat)) (h3 : X3 = (q + 24 : Nat)) :
    Acc w w.heap.size (wx.alloc (.cells #[.int .u64 X0, .int .u64 a, .int .u64 X1, .int .u64 c, .int .u64 X2, .int .u64 d, .int .u64 X3, .int .u64 e] 104)) 104 2 (.slice (some ⟨g, 0, none⟩) 4 4) 4 (flat [(q, a), (q + 8, c), (q + 16, d), (q + 24, e)]) := by
  subst h0 h1 h2 h3 hg
  exact ⟨by have := OwnSl.new wx #[.int .u64 q, .int .u64 a, .int .u64 (q + 8 : Nat), .int .u64 c, .int .u64 (q + 16 : Nat), .int .u64 d, .int .u64 (q + 24 : Nat), .int .u64 e] 104 2 4 4 rfl (Nat.le_refl _) (by unfold maxLen; omega)
            simpa [flat] using this,
    fun g hg => by simp [Value.ownBlock] at hg; have := hb.size; omega, hb.trans ((below_alloc wx _).mono hb.size), Nat.le_trans hb.size (by simp)⟩
/-- What the reference's Actions answers. -/
def AcPR (w : World) (W : Nat → Nat) (off : Nat) (l : List UInt8) (p sz : Nat) (r : Ending) (w' : World) : Prop :=
  (errE W l p sz ≠ 0 ∧ r = .returned (.tuple #[.slice none 0 0, .int .i64 (errE W l p sz : Nat)]) ∧ Below w.heap.size w w') ∨
  (errE W l p sz = 0 ∧ ∃ ov, r = .returned (.tuple #[ov, .int .i64 0]) ∧ Acc w w.heap.size w' 104 2 ov (wrO off (wrE W l p)).length (flat (wrO off (wrE W l p))))
theorem AcPR.bad {l : List UInt8} {p sz k : Nat} {r : Ending} {w' : World} (he : errE W l p sz = k) (hk : k ≠ 0) (hr : r = .returned (.tuple #[.slice none 0 0, .int .i64 (k : Nat)])) (hb : Below w.heap.size w w') : AcPR w W off l p sz r w' :=
  .inl ⟨by rw [he]; exact hk, by rw [he]; exact hr, hb⟩
theorem AcPR.good {l : List UInt8} {p sz : Nat} {r : Ending} {w' : World} {n : Nat} {ws : List (Nat × Int)} {ov : Value} (he : errE W l p sz = 0) (hw : wrO off (wrE W l p) = ws) (hn : ws.length = n) (hr : r = .returned (.tuple #[ov, .int .i64 0])) (ha : Acc w w.heap.size w' 104 2 ov n (flat ws)) : AcPR w W off l p sz r w' :=
  .inr ⟨he, ov, hr, by rw [hw, hn]; exact ha⟩
theorem nmR_free (h : InvW W) (e : Nat) (he : e < 16) : (nmR W e).toList.isEmpty = !usedE W e := by
  rw [nmR_list]
  by_cases h3 : W (4 * e + 3) = 0
  · rw [if_pos h3]; unfold usedE; rw [h3]; rfl
  · rw [if_neg h3]
    have hu : usedE W e = true := by unfold usedE; simp [h3]
    rw [hu]
    have := (nameB_ok (h e he h3)).pos
    rw [Bool.not_true, Bool.eq_false_iff]
    intro hx
    rw [List.isEmpty_iff] at hx
    rw [hx] at this
    simp at this
set_option maxRecDepth 100000 in
set_option maxHeartbeats 8000000 in
theorem r14Actions_any (h : RfAt w b off W) (hI : InvW W) (ho : off ≤ 262144) (s : ByteArray) (p : Nat) (hp : p < 18446744073709551616) :
    Calls Tryz.prog 34 #[.pointer (some ⟨b, 0, none⟩), .string s, .int .u64 p, .int .u64 1280] w (AcPR w W off s.toList p 1280) := by
  have H := Lib.hid h
  have hnm := fun (wx : World) => r14Name_any (w := wx) s
  have hvl := fun (wx : World) => r14Pointer_any (w := wx) p hp
  have HF := Lib.hid (fun (wx : World) (hx : RfAt wx b off W) => r14Find_any hx hI s)
  have HIF := Lib.hid (infoR (nmR W) (ptR W) W)
  have HRG := Lib.hid (fun (wx : World) (hx : RfAt wx b off W) => hx.range)
  have HIX := Lib.hid (fun (e : Nat) (he : e < 16) (wx : World) => idxR (nmR W) (ptR W) W e he wx)
  have HFR := Lib.hid (fun (e : Nat) (he : e < 16) => nmR_free hI e he)
  have HC0 : Hid (∀ wx : World, RfAt wx b off W → wx.cell? ⟨b, 0, none⟩ = some (.int .u64 (off : Nat))) := fun wx hx => hx.blk.cell (by unfold rfA; rfl)
  have HE : Hid (errE W s.toList p 1280 = if nameB s.toList = false then 15 else if p ≠ 0 ∧ ptrB p 1280 = false then 1 else if p = 0 then (if findE W s.toList < 16 then 0 else 5) else if findE W s.toList < 16 then 0 else if freeE W < 16 then 0 else 4) := rfl
  have HV : Hid ((findE W s.toList < 16 ∧ fndV W s.toList = (findE W s.toList : Nat)) ∨ (findE W s.toList = 16 ∧ fndV W s.toList = -1)) := by
    unfold fndV
    have := firstI_le (fun e => usedE W e && nameE W e == s.toList) 16
    by_cases h : findE W s.toList < 16
    · exact .inl ⟨h, if_pos h⟩
    · exact .inr ⟨by unfold findE at *; omega, if_neg h⟩
  have HW0 : Hid (∀ i, findE W s.toList = i → p = 0 → wrO off (wrE W s.toList p) = [(off + 32 * i + 24, 0)]) := fun i hi h0 => by
    unfold wrE; rw [if_pos h0, hi]; simp only [wrO, List.map_cons, List.map_nil]; rw [show off + 8 * (4 * i + 3) = off + 32 * i + 24 by omega]; rfl
  have HW1 : Hid (∀ i, findE W s.toList = i → i < 16 → p ≠ 0 → wrO off (wrE W s.toList p) = [(off + 32 * i + 16, ((p : Nat) : Int))]) := fun i hi hlt h0 => by
    unfold wrE; rw [if_neg h0, hi, if_pos hlt]; simp only [wrO, List.map_cons, List.map_nil]; rw [show off + 8 * (4 * i + 2) = off + 32 * i + 16 by omega]
  have HW2 : Hid (∀ i, findE W s.toList = 16 → freeE W = i → p ≠ 0 → wrO off (wrE W s.toList p) = [(off + 32 * i, ((pk0 s.toList : Nat) : Int)), (off + 32 * i + 8, ((pk1 s.toList : Nat) : Int)), (off + 32 * i + 16, ((p : Nat) : Int)), (off + 32 * i + 24, ((tagN (pk0 s.toList) (pk1 s.toList) : Nat) : Int))]) := fun i hi hf h0 => by
    unfold wrE; rw [if_neg h0, hi, if_neg (by omega), hf]
    simp only [wrO, newW, List.map_cons, List.map_nil]
    rw [show off + 8 * (4 * i) = off + 32 * i by omega, show off + 8 * (4 * i + 1) = off + 32 * i + 8 by omega, show off + 8 * (4 * i + 2) = off + 32 * i + 16 by omega, show off + 8 * (4 * i + 3) = off + 32 * i + 24 by omega]
  have HFR1 : Hid (∀ e, e < 16 → (!usedE W e) = true → NoneB (fun e => !usedE W e) e → freeE W = e) := fun e he h1 h2 => firstI_hit he h1 h2
  have HFR2 : Hid (NoneB (fun e => !usedE W e) 16 → freeE W = 16) := fun h => firstI_none h
  obtain ⟨er, her⟩ : ∃ er, errE W s.toList p 1280 = er := ⟨_, rfl⟩
  have HER := Lib.hid her
  rw [her] at HE
  clear her
  generalize fndV W s.toList = rv at *
  generalize hres : findE W s.toList = res at *
  clear h hI hres
  cases hnb : nameB s.toList
  · rw [hnb] at hnm
    have HNM := Lib.hid hnm
    have HE2 : Hid (er = 15) := by show _ = _; rw [HE.out, if_pos hnb]
    go_enter Tryz.func34, Tryz.ntmps34
    go_wp2_with fail
    (with_reducible refine (HNM.out _).mono ?_)
    rintro r w' ⟨rfl, rfl⟩
    go_wp2_with fail
    go_ret2
    exact .bad (HER.out.trans HE2.out) (by decide) rfl (Below.refl _ _)
  · rw [hnb] at hnm
    have HNM := Lib.hid hnm
    have hn1 : ¬ nameB s.toList = false := by rw [hnb]; simp
    have HNO := Lib.hid (nameB_ok hnb)
    by_cases h0 : p = 0
    · have HE2 : Hid (er = if res < 16 then 0 else 5) := by show _ = _; rw [HE.out, if_neg hn1, if_neg (by simp [h0]), if_pos h0]
      have HW := Lib.hid (fun i hi => HW0.out i hi h0)
      have q1 : ((p : Int) != 0) = false := by simp [h0]
      have q2 : ((p : Int) == 0) = true := by simp [h0]
      clear h0 hn1 hvl HE
      go_enter Tryz.func34, Tryz.ntmps34
      go_wp2_with fail
      (with_reducible refine (HNM.out _).mono ?_)
      rintro r w' ⟨rfl, rfl⟩
      go_wp2_with fail
      (with_reducible refine (HF.out _ H.out).mono ?_)
      rintro r w3 ⟨rfl, b3⟩
      have R3 := Lib.hid (H.out.next b3)
      have B3 := Lib.hid b3
      have c0 := HC0.out _ R3.out
      clear b3 HF
      rcases HV.out with ⟨h1, rfl⟩ | ⟨rfl, rfl⟩
      · have hn : ¬ ((res : Nat) : Int) < 0 := by omega
        have HE3 : Hid (er = 0) := by show _ = _; rw [HE2.out, if_pos h1]
        have w1 : IntKind.u64.wrap (32 * (res : Int)) = 32 * (res : Int) := IntWalk.u64_in _ (by omega)
        have w2 : IntKind.u64.wrap ((off : Int) + 32 * (res : Int)) = (off : Int) + 32 * (res : Int) := IntWalk.u64_in _ (by omega)
        have w3' : IntKind.u64.wrap ((off : Int) + 32 * (res : Int) + 24) = (off : Int) + 32 * (res : Int) + 24 := IntWalk.u64_in _ (by omega)
        clear HV HE2
        go_wp2_with fail
        go_ret2
        exact .good (HER.out.trans HE3.out) (HW.out _ rfl) rfl rfl (acc_pair B3.out _ _ _ (by omega))
      · have HE3 : Hid (er = 5) := by show _ = _; rw [HE2.out, if_neg (by omega)]
        clear HV HE2
        go_wp2_with fail
        go_ret2
        exact .bad (HER.out.trans HE3.out) (by decide) rfl B3.out
    · have q1 : ((p : Int) != 0) = true := by simp; omega
      have q2 : ((p : Int) == 0) = false := by simp; omega
      cases hpv : ptrB p 1280
      · rw [hpv] at hvl
        have HVL := Lib.hid hvl
        have HE2 : Hid (er = 1) := by show _ = _; rw [HE.out, if_neg hn1, if_pos ⟨h0, hpv⟩]
        clear h0 hn1 hvl hpv HE
        go_enter Tryz.func34, Tryz.ntmps34
        go_wp2_with fail
        (with_reducible refine (HNM.out _).mono ?_)
        rintro r w' ⟨rfl, rfl⟩
        go_wp2_with fail
        (with_reducible refine (HVL.out _).mono ?_)
        rintro r w' ⟨rfl, rfl⟩
        go_wp2_with fail
        go_ret2
        exact .bad (HER.out.trans HE2.out) (by decide) rfl (Below.refl _ _)
      · rw [hpv] at hvl
        have HVL := Lib.hid hvl
        have HE2 : Hid (er = if res < 16 then 0 else if freeE W < 16 then 0 else 4) := by show _ = _; rw [HE.out, if_neg hn1, if_neg (by rw [hpv]; simp), if_neg h0]
        have HW := Lib.hid (fun i hi hlt => HW1.out i hi hlt h0)
        have HWF := Lib.hid (fun i hi hf => HW2.out i hi hf h0)
        clear h0 hn1 hvl hpv HE HW0 HW1 HW2
        go_enter Tryz.func34, Tryz.ntmps34
        go_wp2_with fail
        (with_reducible refine (HNM.out _).mono ?_)
        rintro r w' ⟨rfl, rfl⟩
        go_wp2_with fail
        (with_reducible refine (HVL.out _).mono ?_)
        rintro r w' ⟨rfl, rfl⟩
        go_wp2_with fail
        (with_reducible refine (HF.out _ H.out).mono ?_)
        rintro r w3 ⟨rfl, b3⟩
        have R3 := Lib.hid (H.out.next b3)
        have B3 := Lib.hid b3
        have c0 := HC0.out _ R3.out
        clear b3 HF
        rcases HV.out with ⟨h1, rfl⟩ | ⟨rfl, rfl⟩
        · have hn : ¬ ((res : Nat) : Int) < 0 := by omega
          have hn2 : ((res : Nat) : Int) ≥ 0 := by omega
          have HE3 : Hid (er = 0) := by show _ = _; rw [HE2.out, if_pos h1]
          have HW3 := Lib.hid (HW.out _ rfl h1)
          have w1 : IntKind.u64.wrap (32 * (res : Int)) = 32 * (res : Int) := IntWalk.u64_in _ (by omega)
          have w2 : IntKind.u64.wrap ((off : Int) + 32 * (res : Int)) = (off : Int) + 32 * (res : Int) := IntWalk.u64_in _ (by omega)
          have w3' : IntKind.u64.wrap ((off : Int) + 32 * (res : Int) + 16) = (off : Int) + 32 * (res : Int) + 16 := IntWalk.u64_in _ (by omega)
          clear HV HE2 HW
          go_wp2_with fail
          go_ret2
          exact .good (HER.out.trans HE3.out) HW3.out rfl rfl (acc_pair B3.out _ _ _ (by omega))
        · have HE3 : Hid (er = if freeE W < 16 then 0 else 4) := by show _ = _; rw [HE2.out, if_neg (by omega)]
          have HWF2 := Lib.hid (fun i hf => HWF.out i rfl hf)
          have HRG3 := Lib.hid (HRG.out _ R3.out)
          have HA : Hid (∃ L, rfL (nmR W) (ptR W) W = L) := ⟨_, rfl⟩
          obtain ⟨L, hL⟩ := HA.out
          rw [hL] at HRG3 HIF HIX
          have HTG := Lib.hid (fun wx : World => r14Tag_any (w := wx) s HNO.out.pos HNO.out.le p)
          generalize pk0 s.toList = y0 at *
          generalize pk1 s.toList = y1 at *
          generalize tagN y0 y1 = tg at *
          clear HV HE2 HW HWF hL HA HRG
          go_wp2_with (refine wpList_load_mid rfl 36 (.tmp 60) rfl b 1 rfl L _ HRG3.out Tryz.underlying36 rfl HIF.out ?_)
          go_loopw [11, 12, 13, 14, 62] (fun _ _ _ _ y wr => ∃ e : Nat, e ≤ 16 ∧ y = .int .i64 e ∧ Below w3.heap.size w3 wr ∧ NoneB (fun e => !usedE W e) e) (fun _ _ _ _ y _ => 16 - (intOf y).toNat)
          case atStart => exact ⟨0, by omega, rfl, Below.refl _ _, fun j hj => by omega⟩
          case round =>
            clear c0
            obtain ⟨e, he, rfl, hx, hno⟩ := hrel
            have X := Lib.hid hx; have NO := Lib.hid hno
            clear hx hno
            by_cases hlt : e < 16
            · have he' : (e : Int) < 16 := by omega
              have hix := fun wx => HIX.out e hlt wx
              have hfr := HFR.out e hlt
              unfold rfE at hix
              generalize nmR W e = es at *
              generalize ptR W e = pe at *
              generalize W (4 * e) = x0 at hix
              generalize W (4 * e + 1) = x1 at hix
              generalize W (4 * e + 2) = x2 at hix
              generalize W (4 * e + 3) = x3 at hix
              have FR := Lib.hid hfr
              have X1 := Lib.hid (X.out.trans ((below_alloc wr (.cells #[.string es, .int .u64 pe, .int .u64 x0, .int .u64 x1, .int .u64 x2, .int .u64 x3] 35)).mono X.out.size))
              have HF1 := Lib.hid (HFR1.out e hlt)
              have c0 := HC0.out _ (R3.out.next X1.out)
              have c00 := HC0.out _ (R3.out.next X.out)
              have hbs : b < wr.heap.size := (R3.out.next X.out).blk.lt
              clear hfr
              cases hq0 : es.toList.isEmpty
              · have NO2 : Hid (NoneB (fun e => !usedE W e) (e + 1)) := fun j hj => by
                  by_cases ej : j = e
                  · subst ej; exact FR.out.symm.trans hq0
                  · exact NO.out j (by omega)
                go_wp2_with fail
                go_roundw
                case rel => exact ⟨e + 1, by omega, by go_num, X1.out, NO2.out⟩
                case measure => simp [intOf]; omega
              · have HFE : Hid (freeE W = e) := HF1.out (FR.out.symm.trans hq0) NO.out
                have HE4 : Hid (er = 0) := by show _ = _; rw [HE3.out, HFE.out, if_pos hlt]
                have HW4 := Lib.hid (HWF2.out e HFE.out)
                have w1 : IntKind.u64.wrap (32 * (e : Int)) = 32 * (e : Int) := IntWalk.u64_in _ (by omega)
                have w2 : IntKind.u64.wrap ((off : Int) + 32 * (e : Int)) = (off : Int) + 32 * (e : Int) := IntWalk.u64_in _ (by omega)
                have w3' : IntKind.u64.wrap ((off : Int) + 32 * (e : Int) + 8) = (off : Int) + 32 * (e : Int) + 8 := IntWalk.u64_in _ (by omega)
                have w4' : IntKind.u64.wrap ((off : Int) + 32 * (e : Int) + 16) = (off : Int) + 32 * (e : Int) + 16 := IntWalk.u64_in _ (by omega)
                have w5' : IntKind.u64.wrap ((off : Int) + 32 * (e : Int) + 24) = (off : Int) + 32 * (e : Int) + 24 := IntWalk.u64_in _ (by omega)
                clear HFE
                go_wp2_with fail
                (with_reducible refine (HTG.out _).mono ?_)
                rintro r w5 ⟨rfl, b5⟩
                have B5 := Lib.hid (B3.out.trans ((X1.out.trans (b5.mono X1.out.size)).mono B3.out.size))
                clear b5 c0 c00
                go_wp2_with fail
                go_ret2
                refine .good (HER.out.trans HE4.out) HW4.out rfl rfl ?_
                refine acc_four (B5.out.trans ((below_alloc w5 (.cells #[.int .u64 y0, .int .u64 y1, .int .u64 p, .int .u64 tg] 33)).mono B5.out.size)) (w5.heap.size + 1) (by simp) _ _ _ _ _ _ _ _ _ ?_ ?_ ?_ ?_ <;> omega
            · obtain rfl : e = 16 := by omega
              have HE4 : Hid (er = 4) := by show _ = _; rw [HE3.out, HFR2.out NO.out, if_neg (by omega)]
              go_wp2_with fail
              go_ret2
              exact .bad (HER.out.trans HE4.out) (by decide) rfl (B3.out.trans (X.out.mono B3.out.size))
end
end Go.Proofs.YtmfchlliechikaaGreatDoor
