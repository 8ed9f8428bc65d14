/- The walk of Actions of package root. Printed by wip/genract.py. -/
import Derived.Test.YtmfchlliechikaaGreatDoorRtG
namespace Go.Proofs.YtmfchlliechikaaGreatDoor
open Go.RowKit Go.Maps
attribute [local go_sem ↓] Go.wp_at_zero Go.wp_at_succ

/-- The writes of words of a directory at an offset. -/
def wrO (off : Nat) (ws : List (Nat × Nat)) : List (Nat × Int) := ws.map fun e => (off + 8 * e.1, (e.2 : Nat))
section
variable {w wx : World} {v : DV} {own : Nat → Option Role} {D : Dev} {j b off : Nat} {W : Nat → Nat}
theorem acc_one (hb : Below w.heap.size w wx) (q : Nat) (x : Int) : Acc w w.heap.size (wx.alloc (.cells #[.int .u64 q, .int .u64 x] 103)) 103 2 (.slice (some ⟨wx.heap.size, 0, none⟩) 1 1) 1 (flat [(q, x)]) :=
  ⟨by have := OwnSl.new wx #[.int .u64 q, .int .u64 x] 103 2 1 1 rfl (Nat.le_refl _) (by unfold maxLen; omega)
      simpa [flat] using this,
    fun g hg => by simp [Value.ownBlock] at hg; have := hb.size; omega, hb.trans ((below_alloc wx _).mono hb.size), Nat.le_trans hb.size (by simp)⟩
/-- The box of all entries. -/
structure AxB (w : World) (g : Nat) (A : Array Value) (wx : World) : Prop where
  blk : Blk wx g A 122
  bel : Below w.heap.size w wx
theorem AxB.next {g : Nat} {A : Array Value} {wy : World} (h : AxB w g A wx) (hb : Below wx.heap.size wx wy) : AxB w g A wy := ⟨h.blk.below hb, h.bel.trans (hb.mono h.bel.size)⟩
/-- What Actions answers. -/
def AcPost (w : World) (W : Nat → Nat) (off : Nat) (l : List UInt8) (p sz : Nat) (r : Ending) (w' : World) : Prop :=
  (errE W l p sz ≠ 0 ∧ r = .returned (.tuple #[.slice none 0 0, .int .i64 (errE W l p sz : Nat)]) ∧ Below w.heap.size w w') ∨
  (errE W l p sz = 0 ∧ ∃ ov, r = .returned (.tuple #[ov, .int .i64 0]) ∧ Acc w w.heap.size w' 103 2 ov (wrO off (wrE W l p)).length (flat (wrO off (wrE W l p))))
theorem AcPost.bad {l : List UInt8} {p sz k : Nat} {r : Ending} {w' : World} (he : errE W l p sz = k) (hk : k ≠ 0) (hr : r = .returned (.tuple #[.slice none 0 0, .int .i64 (k : Nat)])) (hb : Below w.heap.size w w') : AcPost w W off l p sz r w' :=
  .inl ⟨by rw [he]; exact hk, by rw [he]; exact hr, hb⟩
theorem AcPost.good {l : List UInt8} {p sz : Nat} {r : Ending} {w' : World} {n : Nat} {ws : List (Nat × Int)} {ov : Value} (he : errE W l p sz = 0) (hw : wrO off (wrE W l p) = ws) (hn : ws.length = n) (hr : r = .returned (.tuple #[ov, .int .i64 0])) (ha : Acc w w.heap.size w' 103 2 ov n (flat ws)) : AcPost w W off l p sz r w' :=
  .inr ⟨he, ov, hr, by rw [hw, hn]; exact ha⟩
set_option maxRecDepth 100000 in
set_option maxHeartbeats 8000000 in
theorem rtActions_any (h : DOn w v own D j b off W) (hN : Nib w) (s : ByteArray) (p : Nat) (hp : p < 18446744073709551616) :
    Calls Tryz.prog 27 #[.pointer (some ⟨b, 0, none⟩), .string s, .int .u64 p] w (AcPost w W off s.toList p (64 * D.n)) := by
  obtain ⟨sz, hsz⟩ : ∃ sz, 64 * D.n = sz := ⟨_, rfl⟩
  rw [hsz]
  have H := Lib.hid h; have HNB := Lib.hid hN
  have hms := meth_Size ⟨v.tb j, 0, none⟩
  have hnm := fun (wx : World) => rtName_any (w := wx) s
  have hnl := fun (wx : World) => PtrNil_any (w := wx) p
  have hvl := fun (wx : World) => ptrValid_any (w := wx) p sz hp
  rw [ptrValid_B] at hvl
  have hszz := fun (wx : World) (hx : IsDev wx v own D) => thrSize_any hx h.hj
  rw [show ((D.n : Int) * 64) = ((sz : Nat) : Int) by omega] at hszz
  have HSIZE := Lib.hid hszz
  have HF := Lib.hid (fun wx => rtfind_any (w := wx) W h.wat.bd s)
  have HIA := Lib.hid (info16n W); have HSZ : Hid (64 = (wsN W).size) := (wsN_size W).symm
  have HOA2 : Hid ((wsN W).all (·.oneCell') = true) := wsA_one _
  have HLD := Lib.hid (fun wx (hx : DOn wx v own D j b off W) => hx.load)
  have HIX := Lib.hid (fun (e : Nat) (he : e < 16) (wx : World) => idx16 W e he wx)
  have HAT := Lib.hid (fun (wx : World) (hx : DOn wx v own D j b off W) (e k : Nat) (he : e < 16) (hk : k < 4) => hx.at' e k he hk)
  have HFL := Lib.hid (fun (wx : World) (hx : DOn wx v own D j b off W) (hn : Nib wx) (e : Nat) (he : e < 16) h1 h2 => rtfill_any hx hn e he s h1 h2 p hp)
  have hob := h.le
  have hbs : b < w.heap.size := h.dir.blk.lt
  have HE : Hid (errE W s.toList p sz = if nameB s.toList = false then 15 else if p ≠ 0 ∧ ptrB p sz = false then 1 else if p = 0 then (if findE W s.toList < 16 then 0 else 5) else if findE W s.toList < 16 then 0 else if freeE W < 16 then 0 else 4) := rfl
  have HV : Hid ((findE W s.toList < 16 ∧ fndV W s.toList = (findE W s.toList : Nat)) ∨ (findE W s.toList = 16 ∧ fndV W s.toList = -1)) := by
    unfold fndV
    have := firstI_le (fun e => usedE W e && nameE W e == s.toList) 16
    by_cases h : findE W s.toList < 16
    · exact .inl ⟨h, if_pos h⟩
    · exact .inr ⟨by unfold findE at *; omega, if_neg h⟩
  have HW0 : Hid (∀ i, findE W s.toList = i → p = 0 → wrO off (wrE W s.toList p) = [(off + 32 * i + 24, 0)]) := fun i hi h0 => by
    unfold wrE; rw [if_pos h0, hi]; simp only [wrO, List.map_cons, List.map_nil]; rw [show off + 8 * (4 * i + 3) = off + 32 * i + 24 by omega]; rfl
  have HW1 : Hid (∀ i, findE W s.toList = i → i < 16 → p ≠ 0 → wrO off (wrE W s.toList p) = [(off + 32 * i + 16, ((p : Nat) : Int))]) := fun i hi hlt h0 => by
    unfold wrE; rw [if_neg h0, hi, if_pos hlt]; simp only [wrO, List.map_cons, List.map_nil]; rw [show off + 8 * (4 * i + 2) = off + 32 * i + 16 by omega]
  have HW2 : Hid (∀ i, findE W s.toList = 16 → freeE W = i → p ≠ 0 → wrO off (wrE W s.toList p) = fillL (off + 32 * i) (pk0 s.toList) (pk1 s.toList) p (tagN (pk0 s.toList) (pk1 s.toList))) := fun i hi hf h0 => by
    unfold wrE; rw [if_neg h0, hi, if_neg (by omega), hf]
    simp only [wrO, newW, fillL, List.map_cons, List.map_nil]
    rw [show off + 8 * (4 * i) = off + 32 * i by omega, show off + 8 * (4 * i + 1) = off + 32 * i + 8 by omega, show off + 8 * (4 * i + 2) = off + 32 * i + 16 by omega, show off + 8 * (4 * i + 3) = off + 32 * i + 24 by omega]
  have HUS : Hid (∀ e, (!usedE W e) = (W (4 * e + 3) == 0)) := fun e => by unfold usedE; cases h : W (4 * e + 3) == 0 <;> simp_all
  have HFR1 : Hid (∀ e, e < 16 → (!usedE W e) = true → NoneB (fun e => !usedE W e) e → freeE W = e) := fun e he h1 h2 => firstI_hit he h1 h2
  have HFR2 : Hid (NoneB (fun e => !usedE W e) 16 → freeE W = 16) := fun h => firstI_none h
  obtain ⟨er, her⟩ : ∃ er, errE W s.toList p sz = er := ⟨_, rfl⟩
  have HER := Lib.hid her
  rw [her] at HE
  clear her hsz
  generalize fndV W s.toList = rv at *
  generalize hres : findE W s.toList = res at *
  generalize wsN W = A at *
  clear h hN hszz hres
  have c0 := H.out.dir.blk.cell (i := 0) (v := .iface 42 (.pointer (some ⟨v.tb j, 0, none⟩))) rfl
  cases hnb : nameB s.toList
  · rw [hnb] at hnm
    have HNM := Lib.hid hnm
    have HE2 : Hid (er = 15) := by show _ = _; rw [HE.out, if_pos hnb]
    go_enter Tryz.func27, Tryz.ntmps27
    go_wp2_with fail
    (with_reducible refine (H.out.has).mono ?_)
    rintro r w' ⟨rfl, rfl⟩
    go_wp2_with fail
    (with_reducible refine (HNM.out _).mono ?_)
    rintro r w' ⟨rfl, rfl⟩
    go_wp2_with fail
    go_ret2
    exact .bad (HER.out.trans HE2.out) (by decide) rfl (Below.refl _ _)
  · rw [hnb] at hnm
    have HNM := Lib.hid hnm
    have hn1 : ¬ nameB s.toList = false := by rw [hnb]; simp
    have HNO := Lib.hid (nameB_ok hnb)
    by_cases h0 : p = 0
    · have hq : (p == 0) = true := by simp [h0]
      rw [hq] at hnl
      have HNL := Lib.hid hnl
      have HE2 : Hid (er = if res < 16 then 0 else 5) := by show _ = _; rw [HE.out, if_neg hn1, if_neg (by simp [h0]), if_pos h0]
      have HW := Lib.hid (fun i hi => HW0.out i hi h0)
      clear h0 hq hn1 hvl hnl HE
      go_enter Tryz.func27, Tryz.ntmps27
      go_wp2_with fail
      (with_reducible refine (H.out.has).mono ?_)
      rintro r w' ⟨rfl, rfl⟩
      go_wp2_with fail
      (with_reducible refine (HNM.out _).mono ?_)
      rintro r w' ⟨rfl, rfl⟩
      go_wp2_with fail
      (with_reducible refine (HNL.out _).mono ?_)
      rintro r w' ⟨rfl, rfl⟩
      go_wp2_with fail
      (with_reducible refine (HLD.out _ H.out).mono ?_)
      rintro r w1 ⟨rfl, b1⟩
      have hbs1 : b < w1.heap.size := Nat.lt_of_lt_of_le hbs b1.size
      have B1 := Lib.hid b1
      clear b1 c0
      go_wp2_with (first | (refine wpList_store_row rfl 122 (.tmp 8) (.tmp 34) rfl w1.heap.size A rfl rfl 122 _ (Blk.new w1 _ _) HIA.out HSZ.out HOA2.out ?_; obtain ⟨w2, hw2, k2, b2⟩ := wsn_alloc w1 _ A; rw [hw2]; have X2 : Hid (AxB w w1.heap.size A w2) := ⟨k2, B1.out.trans (b2.mono B1.out.size)⟩; clear hw2 k2 b2) | (refine wpList_load_row rfl 122 (.tmp 8) rfl w1.heap.size rfl 122 A (0, 0) _ X2.out.blk Tryz.underlying122 rfl HIA.out ?_))
      (with_reducible refine (HF.out _).mono ?_)
      rintro r w3 ⟨rfl, b3⟩
      have X3 := Lib.hid (X2.out.next b3)
      clear b3 X2 HF HLD
      generalize w1.heap.size = g at *
      rcases HV.out with ⟨h1, rfl⟩ | ⟨rfl, rfl⟩
      · have hn : ¬ ((res : Nat) : Int) < 0 := by omega
        have HE3 : Hid (er = 0) := by show _ = _; rw [HE2.out, if_pos h1]
        have hat := HAT.out _ (H.out.next X3.out.bel) res 3 h1 (by omega)
        obtain ⟨q, hq⟩ : ∃ q, off + 32 * res + 8 * 3 = q := ⟨_, rfl⟩
        rw [hq, show ((3 : Nat) : Int) = 3 from rfl] at hat
        have HAT2 := Lib.hid hat
        have HQ : Hid (off + 32 * res + 24 = q) := hq
        clear h1 hat hq HV HE2
        go_wp2_with fail
        (with_reducible refine (HNL.out _).mono ?_)
        rintro r w' ⟨rfl, rfl⟩
        go_wp2_with fail
        (with_reducible refine HAT2.out.mono ?_)
        rintro r w' ⟨rfl, rfl⟩
        go_wp2_with fail
        go_ret2
        exact .good (HER.out.trans HE3.out) (HW.out _ rfl) rfl rfl (by rw [HQ.out]; exact acc_one X3.out.bel q 0)
      · have HE3 : Hid (er = 5) := by show _ = _; rw [HE2.out, if_neg (by omega)]
        clear HV HE2
        go_wp2_with fail
        (with_reducible refine (HNL.out _).mono ?_)
        rintro r w' ⟨rfl, rfl⟩
        go_wp2_with fail
        go_ret2
        exact .bad (HER.out.trans HE3.out) (by decide) rfl X3.out.bel
    · have hq : (p == 0) = false := by simp [h0]
      rw [hq] at hnl
      have HNL := Lib.hid hnl
      cases hpv : ptrB p sz
      · rw [hpv] at hvl
        have HVL := Lib.hid hvl
        have HE2 : Hid (er = 1) := by show _ = _; rw [HE.out, if_neg hn1, if_pos ⟨h0, hpv⟩]
        clear h0 hq hn1 hvl hnl hpv HE
        go_enter Tryz.func27, Tryz.ntmps27
        go_wp2_with fail
        (with_reducible refine (H.out.has).mono ?_)
        rintro r w' ⟨rfl, rfl⟩
        go_wp2_with fail
        (with_reducible refine (HNM.out _).mono ?_)
        rintro r w' ⟨rfl, rfl⟩
        go_wp2_with fail
        (with_reducible refine (HNL.out _).mono ?_)
        rintro r w' ⟨rfl, rfl⟩
        go_wp2_with fail
        (with_reducible refine (HSIZE.out _ H.out.dev).mono ?_)
        rintro r w' ⟨rfl, rfl⟩
        go_wp2_with fail
        (with_reducible refine (HVL.out _).mono ?_)
        rintro r w' ⟨rfl, rfl⟩
        go_wp2_with fail
        go_ret2
        exact .bad (HER.out.trans HE2.out) (by decide) rfl (Below.refl _ _)
      · rw [hpv] at hvl
        have HVL := Lib.hid hvl
        have HE2 : Hid (er = if res < 16 then 0 else if freeE W < 16 then 0 else 4) := by show _ = _; rw [HE.out, if_neg hn1, if_neg (by rw [hpv]; simp), if_neg h0]
        have HW := Lib.hid (fun i hi hlt => HW1.out i hi hlt h0)
        have HWF := Lib.hid (fun i hi hf => HW2.out i hi hf h0)
        clear h0 hq hn1 hvl hnl hpv HE HW0 HW1 HW2
        go_enter Tryz.func27, Tryz.ntmps27
        go_wp2_with fail
        (with_reducible refine (H.out.has).mono ?_)
        rintro r w' ⟨rfl, rfl⟩
        go_wp2_with fail
        (with_reducible refine (HNM.out _).mono ?_)
        rintro r w' ⟨rfl, rfl⟩
        go_wp2_with fail
        (with_reducible refine (HNL.out _).mono ?_)
        rintro r w' ⟨rfl, rfl⟩
        go_wp2_with fail
        (with_reducible refine (HSIZE.out _ H.out.dev).mono ?_)
        rintro r w' ⟨rfl, rfl⟩
        go_wp2_with fail
        (with_reducible refine (HVL.out _).mono ?_)
        rintro r w' ⟨rfl, rfl⟩
        go_wp2_with fail
        (with_reducible refine (HLD.out _ H.out).mono ?_)
        rintro r w1 ⟨rfl, b1⟩
        have hbs1 : b < w1.heap.size := Nat.lt_of_lt_of_le hbs b1.size
        have B1 := Lib.hid b1
        clear b1 c0
        go_wp2_with (first | (refine wpList_store_row rfl 122 (.tmp 8) (.tmp 34) rfl w1.heap.size A rfl rfl 122 _ (Blk.new w1 _ _) HIA.out HSZ.out HOA2.out ?_; obtain ⟨w2, hw2, k2, b2⟩ := wsn_alloc w1 _ A; rw [hw2]; have X2 : Hid (AxB w w1.heap.size A w2) := ⟨k2, B1.out.trans (b2.mono B1.out.size)⟩; clear hw2 k2 b2) | (refine wpList_load_row rfl 122 (.tmp 8) rfl w1.heap.size rfl 122 A (0, 0) _ X2.out.blk Tryz.underlying122 rfl HIA.out ?_))
        (with_reducible refine (HF.out _).mono ?_)
        rintro r w3 ⟨rfl, b3⟩
        have X3 := Lib.hid (X2.out.next b3)
        clear b3 X2 HF HLD
        generalize w1.heap.size = g at *
        rcases HV.out with ⟨h1, rfl⟩ | ⟨rfl, rfl⟩
        · have hn : ¬ ((res : Nat) : Int) < 0 := by omega
          have hn2 : ((res : Nat) : Int) ≥ 0 := by omega
          have HE3 : Hid (er = 0) := by show _ = _; rw [HE2.out, if_pos h1]
          have hat := HAT.out _ (H.out.next X3.out.bel) res 2 h1 (by omega)
          obtain ⟨q, hq⟩ : ∃ q, off + 32 * res + 8 * 2 = q := ⟨_, rfl⟩
          rw [hq, show ((2 : Nat) : Int) = 2 from rfl] at hat
          have HAT2 := Lib.hid hat
          have HQ : Hid (off + 32 * res + 16 = q) := hq
          have HW3 := Lib.hid (HW.out _ rfl h1)
          clear h1 hat hq HV HE2 HW
          go_wp2_with fail
          (with_reducible refine (HNL.out _).mono ?_)
          rintro r w' ⟨rfl, rfl⟩
          go_wp2_with fail
          (with_reducible refine HAT2.out.mono ?_)
          rintro r w' ⟨rfl, rfl⟩
          go_wp2_with fail
          go_ret2
          exact .good (HER.out.trans HE3.out) HW3.out rfl rfl (by rw [HQ.out]; exact acc_one X3.out.bel q p)
        · have HE3 : Hid (er = if freeE W < 16 then 0 else 4) := by show _ = _; rw [HE2.out, if_neg (by omega)]
          clear HV HE2
          go_wp2_with fail
          (with_reducible refine (HNL.out _).mono ?_)
          rintro r w' ⟨rfl, rfl⟩
          go_wp2_with fail
          (with_reducible refine (HNL.out _).mono ?_)
          rintro r w' ⟨rfl, rfl⟩
          go_wp2_with (refine wpList_load_row rfl 122 (.tmp 8) rfl g rfl 122 A (0, 0) _ X3.out.blk Tryz.underlying122 rfl HIA.out ?_)
          go_loopw [11, 12, 67] (fun _ _ y wr => ∃ e : Nat, e ≤ 16 ∧ y = .int .i64 e ∧ AxB w g A wr ∧ NoneB (fun e => !usedE W e) e) (fun _ _ y _ => 16 - (intOf y).toNat)
          case atStart => exact ⟨0, by omega, rfl, X3.out, fun j hj => by omega⟩
          case round =>
            clear X3
            obtain ⟨e, he, rfl, hx, hno⟩ := hrel
            have X := Lib.hid hx; have NO := Lib.hid hno
            clear hx hno
            by_cases hlt : e < 16
            · have he' : (e : Int) < 16 := by omega
              have hix := fun wx => HIX.out e hlt wx
              have hu := HUS.out e
              obtain ⟨x0, hx0⟩ : ∃ x, W (4 * e) = x := ⟨_, rfl⟩
              obtain ⟨x1, hx1⟩ : ∃ x, W (4 * e + 1) = x := ⟨_, rfl⟩
              obtain ⟨x2, hx2⟩ : ∃ x, W (4 * e + 2) = x := ⟨_, rfl⟩
              obtain ⟨x3, hx3⟩ : ∃ x, W (4 * e + 3) = x := ⟨_, rfl⟩
              rw [hx0, hx1, hx2, hx3] at hix
              rw [hx3] at hu
              have X1 := Lib.hid (X.out.next (below_alloc wr (.cells #[.int .u64 x0, .int .u64 x1, .int .u64 x2, .int .u64 x3] 121)))
              have HU := Lib.hid hu
              clear hx0 hx1 hx2 hx3 hu
              by_cases h3 : x3 = 0
              · have hb3 : ((x3 : Int) == 0) = true := by simp; omega
                have HF3 : Hid (freeE W = e) := HFR1.out e hlt (by rw [HU.out]; simp [h3]) NO.out
                have HFC := Lib.hid (fun wx hx hn => HFL.out wx hx hn e hlt HNO.out.pos HNO.out.le)
                clear h3
                go_wp2_with fail
                (with_reducible refine (HFC.out _ (H.out.next X1.out.bel) (HNB.out.below X1.out.bel)).mono ?_)
                rintro r w5 ⟨ov, rfl, ha⟩
                obtain ⟨oa, oc, rfl⟩ := ha.slice
                have HA5 := Lib.hid (ha.deeper X1.out.bel)
                clear ha
                go_wp2_with fail
                go_ret2
                exact .good (by rw [HER.out, HE3.out, HF3.out, if_pos hlt]) (HWF.out e trivial HF3.out) rfl rfl HA5.out
              · have hb3 : ((x3 : Int) == 0) = false := by simp; omega
                have NO2 : Hid (NoneB (fun e => !usedE W e) (e + 1)) := fun j hj => by
                  by_cases ej : j = e
                  · subst ej; show (!usedE W j) = false; rw [HU.out]; simp [h3]
                  · exact NO.out j (by omega)
                clear h3
                go_wp2_with fail
                go_roundw
                case rel => exact ⟨e + 1, by omega, by go_num, X1.out, NO2.out⟩
                case measure => simp [intOf]; omega
            · obtain rfl : e = 16 := by omega
              have HE4 : Hid (er = 4) := by show _ = _; rw [HE3.out, HFR2.out NO.out, if_neg (by omega)]
              go_wp2_with fail
              go_ret2
              exact .bad (HER.out.trans HE4.out) (by decide) rfl X.out.bel
end
end Go.Proofs.YtmfchlliechikaaGreatDoor
