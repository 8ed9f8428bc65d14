/- The reference of layer 16: fresh, Check. -/
import Derived.Test.YtokgplgdaememaaDoorUndRA
import Derived.Deep.Cut
import Derived.Deep.CutRange
namespace Go.Proofs.YtokgplgdaememaaDoor
open Go.RowKit Go.Maps
attribute [local go_sem ↓] Go.wp_at_zero Go.wp_at_succ
section
variable {w : World} {sv : Value} {C : Nat → Int}
set_option maxRecDepth 100000 in
set_option maxHeartbeats 4000000 in
theorem r16fresh_any (h : WIn w sv C) (ov : Value) (offs : List Nat) (ho : RdSl w 1 ov offs.length (natsU offs)) (hl : offs.length ≤ 1000) (hin : ∀ o ∈ offs, o < 1536) :
    Calls Tryd.prog 59 #[.agg #[.int .u64 192, .int .u64 512, .int .u64 1536], sv, ov] w (WrPost w (freshL C ((savedL C 192 5).map (·.1)) offs)) := by
  have H := Lib.hid h; have HO := Lib.hid ho; have HI := Lib.hid hin; clear hin
  obtain ⟨sa, sc, hsv⟩ := h.slice
  have HS := Lib.hid (r16Saved_any (h.alloc (.cells #[.int .u64 192, .int .u64 512, .int .u64 1536] 37)))
  have HW := Lib.hid (fun wx (hx : WIn wx sv C) o ho => r16word_any hx o ho)
  obtain ⟨k0, hi0, hz0, hz1, hz2⟩ := info_parts infoRW
  have I2 := Lib.hid (And.intro hi0 (And.intro hz0 (And.intro hz1 hz2))); clear hi0 hz0 hz1 hz2
  have HSB : Hid ((savedL C 192 5).length ≤ 16) := by show (savedL C 192 5).length ≤ 16; unfold savedL; rw [entsL_len]; exact cntL_le C 192 5
  have HBD := Lib.hid h.bd
  generalize savedL C 192 5 = S at *
  obtain ⟨K0, hK0⟩ : ∃ K0, S.map (·.1) = K0 := ⟨_, rfl⟩
  rw [hK0]
  have HK0 := Lib.hid hK0; clear hK0
  obtain ⟨FF, hFF⟩ : ∃ FF, freshL C K0 offs = FF := ⟨_, rfl⟩
  rw [hFF]
  have HFF := Lib.hid hFF; clear hFF
  have HFL := Lib.hid (freshL_len C K0)
  clear h
  subst hsv
  obtain ⟨_, oa, oc, rfl, hoc, _⟩ := ho
  generalize hm : offs.length = m at *
  have HM := Lib.hid hm; clear hm
  go_enter Tryd.func59, Tryd.ntmps59
  go_wp2_with fail
  (with_reducible refine HS.out.mono ?_)
  rintro e w1 ⟨sv1, rfl, a1⟩
  obtain ⟨ta, tc, htv⟩ := a1.slice
  subst htv
  have A1 := Lib.hid a1
  have B1 := Lib.hid ((below_alloc w _).trans (a1.bel.mono (by simp))); clear a1 HS
  go_wp2_with fail
  go_loopw [8, 16] (fun fv y wr => ∃ (q : Nat) (F : List (Nat × Int)), q ≤ m ∧ y = .int .i64 q ∧ freshL C K0 (offs.take q) = F ∧ Acc w1 w1.heap.size wr 59 2 fv F.length (flat F)) (fun _ y _ => m - (intOf y).toNat)
  case atStart => exact ⟨0, [], by omega, rfl, rfl, Acc.nil w1 _ _ _ _ (Below.refl _ _) (Nat.le_refl _)⟩
  case round =>
    obtain ⟨q, F, hq, rfl, hFq, ha⟩ := hrel
    obtain ⟨fa, fc, hfv⟩ := ha.slice
    subst hfv
    have A := Lib.hid ha; have HFQ := Lib.hid hFq; clear ha hFq
    by_cases hlt : q < m
    · have hq' : (q : Int) < m := by omega
      obtain ⟨o, ho⟩ : ∃ o, offs[q]? = some o := ⟨_, List.getElem?_eq_getElem (by rw [HM.out]; exact hlt)⟩
      obtain ⟨_, a', c', e', _, hE⟩ := HO.out.below (B1.out.trans (A.out.bel.mono B1.out.size))
      cases e'
      obtain ⟨eb, eo, rfl, hE2⟩ := rd_at hE (natsU_get ho)
      have c1 := hE2 _ _ (natsU_get ho)
      have ho64 := HI.out o (List.mem_of_getElem? ho)
      have HFS : Hid (freshL C K0 (offs.take (q + 1)) = freshStep C K0 F o) := by show freshL C K0 (offs.take (q + 1)) = _; rw [take_snoc_get offs q o ho, freshL_snoc, HFQ.out]
      have hfl : F.length ≤ q := by have := HFL.out (offs.take q); rw [List.length_take, HFQ.out] at this; omega
      clear hE hE2 ho
      have HI1 := Lib.hid (fun wx (hb : Below wr.heap.size wr wx) => r16is_any (w := wx) (.slice ta S.length tc) S ((A1.out.keep (A.out.bel.trans (hb.mono A.out.bel.size))).rd) o (by have := HSB.out; omega))
      have HI2 := Lib.hid (fun wx (hb : Below wr.heap.size wr wx) => r16is_any (w := wx) (.slice fa F.length fc) F ((A.out.keep hb).rd) o (by omega))
      rw [HK0.out] at HI1
      by_cases h1 : o ∈ K0
      · have HX : Hid (freshStep C K0 F o = F) := by show freshStep C K0 F o = F; unfold freshStep; rw [if_pos (List.mem_append.2 (.inl h1))]
        rw [decide_eq_true h1] at HI1
        clear h1
        go_wp2_with fail
        (with_reducible refine (HI1.out _ (Below.refl _ _)).mono ?_)
        rintro e w2 ⟨rfl, b2⟩
        have A2 := Lib.hid (A.out.keep b2); clear b2
        go_wp2_with fail
        go_roundw
        case rel => exact ⟨q + 1, F, by omega, by go_num, by rw [HFS.out, HX.out], A2.out⟩
        case measure => simp [intOf]; omega
      · rw [decide_eq_false h1] at HI1
        by_cases h2 : o ∈ F.map (·.1)
        · have HX : Hid (freshStep C K0 F o = F) := by show freshStep C K0 F o = F; unfold freshStep; rw [if_pos (List.mem_append.2 (.inr h2))]
          rw [decide_eq_true h2] at HI2
          clear h1 h2
          go_wp2_with fail
          (with_reducible refine (HI1.out _ (Below.refl _ _)).mono ?_)
          rintro e w2 ⟨rfl, b2⟩
          have B2 := Lib.hid b2; clear b2
          go_wp2_with fail
          (with_reducible refine (HI2.out _ B2.out).mono ?_)
          rintro e w3 ⟨rfl, b3⟩
          have A2 := Lib.hid (A.out.keep (B2.out.trans (b3.mono B2.out.size))); clear b3
          go_wp2_with fail
          go_roundw
          case rel => exact ⟨q + 1, F, by omega, by go_num, by rw [HFS.out, HX.out], A2.out⟩
          case measure => simp [intOf]; omega
        · have HX : Hid (freshStep C K0 F o = F ++ [(o, ((C (o / 8)).toNat : Int))]) := by
            show freshStep C K0 F o = _
            unfold freshStep
            rw [if_neg (fun h => by rcases List.mem_append.1 h with h | h; exact h1 h; exact h2 h), Int.toNat_of_nonneg (HBD.out _).1]
          rw [decide_eq_false h2] at HI2
          have HW1 := Lib.hid (fun wx hx => HW.out wx hx o ho64)
          generalize (C (o / 8)).toNat = t at *
          clear h1 h2
          go_wp2_with fail
          (with_reducible refine (HI1.out _ (Below.refl _ _)).mono ?_)
          rintro e w2 ⟨rfl, b2⟩
          have B2 := Lib.hid b2; clear b2
          go_wp2_with fail
          (with_reducible refine (HI2.out _ B2.out).mono ?_)
          rintro e w3 ⟨rfl, b3⟩
          have A2 := Lib.hid (A.out.keep (B2.out.trans (b3.mono B2.out.size))); clear b3 B2
          have W2 := Lib.hid (H.out.below (B1.out.trans (A2.out.bel.mono B1.out.size)))
          go_wp2_with fail
          (with_reducible refine (HW1.out _ W2.out).mono ?_)
          rintro e w' ⟨rfl, rfl⟩
          go_wp2_with (at_builtin; refine wpList_append_sl _ rfl _ _ 50 rfl 59 k0 _ 2 16 Tryd.underlying50 I2.out.1 I2.out.2.1 I2.out.2.2.1 I2.out.2.2.2 rfl (by decide) _ F.length (flat F) rfl (by exact A2.out.own.alloc _) _ 1 (flat [(o, (t : Int))]) rfl (by exact RdSl.newAt _ _ _ 2 1 _ (by simp) rfl) (flat_one _) (by unfold maxLen; omega) (by omega) ?_)
          intro v1 w4 o1 g1 b1 n1
          have A4 := Lib.hid (A2.out.next (below_alloc w3 _) o1 g1 b1 (by omega)); clear o1 g1 b1 n1
          go_wp2_with fail
          go_roundw
          case rel => exact ⟨q + 1, F ++ [(o, (t : Int))], by omega, by go_num, by rw [HFS.out, HX.out], A4.out.congr (by simp) (by rw [flat_append])⟩
          case measure => simp [intOf]; omega
    · obtain rfl : q = m := by omega
      obtain rfl : F = FF := by rw [← HFQ.out, ← HFF.out, List.take_of_length_le (by rw [HM.out]; omega)]
      go_wp2_with fail
      go_ret
      exact ⟨_, rfl, A.out.deeper B1.out⟩
end
end Go.Proofs.YtokgplgdaememaaDoor

/- The reference of layer 16: Check, Save. -/
namespace Go.Proofs.YtokgplgdaememaaDoor
open Go.RowKit Go.Maps
attribute [local go_sem ↓] Go.wp_at_zero Go.wp_at_succ

/-- The box of where. -/
structure Bx (w : World) (b : Nat) : Prop where
  c0 : w.cell? ⟨b, 0, none⟩ = some (.int .u64 192)
  c1 : w.cell? ⟨b, 1, none⟩ = some (.int .u64 512)
  c2 : w.cell? ⟨b, 2, none⟩ = some (.int .u64 1536)
theorem Bx.below {w w1 : World} {b : Nat} (h : Bx w b) (hb : Below w.heap.size w w1) : Bx w1 b := ⟨cell_bel hb h.c0, cell_bel hb h.c1, cell_bel hb h.c2⟩
theorem Bx.new (w : World) : Bx (w.alloc (.cells #[.int .u64 192, .int .u64 512, .int .u64 1536] 37)) w.heap.size := ⟨(Blk.new w _ _).cell rfl, (Blk.new w _ _).cell rfl, (Blk.new w _ _).cell rfl⟩
theorem Bx.all {w : World} {b : Nat} (h : Bx w b) : w.cell? ⟨b, 0, none⟩ = some (.int .u64 192) ∧ w.cell? ⟨b, 1, none⟩ = some (.int .u64 512) ∧ w.cell? ⟨b, 2, none⟩ = some (.int .u64 1536) := ⟨h.c0, h.c1, h.c2⟩
def checkN (C : Nat → Int) (offs : List Nat) : Int := if offs.all (allowedB 1536 192 5) = true then (if 16 < (savedL C 192 5).length + (freshL C ((savedL C 192 5).map (·.1)) offs).length then 4 else 0) else 1
section
variable {w : World} {sv : Value} {C : Nat → Int}
set_option maxRecDepth 100000 in
set_option maxHeartbeats 4000000 in
theorem r16Check_bad (h : WIn w sv C) (ov : Value) (offs : List Nat) (ho : RdSl w 1 ov offs.length (natsU offs)) (hl : offs.length ≤ 1000) (hbad : ∃ o ∈ offs, allowedB 1536 192 5 o = false) :
    Calls Tryd.prog 22 #[.agg #[.int .u64 192, .int .u64 512, .int .u64 1536], sv, ov] w fun r w' => r = .returned (.int .i64 1) ∧ Below w.heap.size w w' := by
  have HO := Lib.hid ho; have HBD := Lib.hid hbad; clear hbad
  obtain ⟨sa, sc, hsv⟩ := h.slice
  subst hsv
  obtain ⟨_, oa, oc, rfl, hoc, _⟩ := ho
  generalize hm : offs.length = m at *
  have HM := Lib.hid hm; clear hm h
  have HWD := Lib.hid (fun (wx : World) (o : Nat) => r16Word_any (w := wx) o)
  go_enter Tryd.func22, Tryd.ntmps22
  go_wp2_with fail
  go_loopw [11] (fun y wr => ∃ k : Nat, k ≤ m ∧ y = .int .i64 k ∧ (∀ i o, i < k → offs[i]? = some o → allowedB 1536 192 5 o = true) ∧ Below (w.alloc (.cells #[.int .u64 192, .int .u64 512, .int .u64 1536] 37)).heap.size (w.alloc (.cells #[.int .u64 192, .int .u64 512, .int .u64 1536] 37)) wr) (fun y _ => m - (intOf y).toNat)
  case atStart => exact ⟨0, by omega, rfl, fun i o hi _ => by omega, Below.refl _ _⟩
  case round =>
    obtain ⟨k, hk, rfl, hgood, hb⟩ := hrel
    have HG := Lib.hid hgood; have B := Lib.hid hb; clear hgood hb
    by_cases hlt : k < m
    · have hk' : (k : Int) < m := by omega
      obtain ⟨o, ho⟩ : ∃ o, offs[k]? = some o := ⟨_, List.getElem?_eq_getElem (by rw [HM.out]; exact hlt)⟩
      obtain ⟨_, a', c', e', _, hE⟩ := (HO.out.alloc (.cells #[.int .u64 192, .int .u64 512, .int .u64 1536] 37)).below B.out
      cases e'
      obtain ⟨eb, eo, rfl, hE2⟩ := rd_at hE (natsU_get ho)
      have d1 := hE2 _ _ (natsU_get ho)
      obtain ⟨x0, x1, x2⟩ := ((Bx.new w).below B.out).all
      have HW1 := Lib.hid (fun wx => HWD.out wx o)
      have HK := Lib.hid ho
      clear hE hE2 ho
      cases hok : allowedB 1536 192 5 o
      · rw [hok] at HW1
        go_wp2_with fail
        (with_reducible refine (HW1.out _).mono ?_)
        rintro e w1 ⟨rfl, b1⟩
        have B1 := Lib.hid ((below_alloc w (.cells #[.int .u64 192, .int .u64 512, .int .u64 1536] 37)).trans ((B.out.trans (b1.mono B.out.size)).mono (by simp))); clear b1
        go_wp2_with fail
        go_ret
        exact ⟨rfl, B1.out⟩
      · rw [hok] at HW1
        have HOK := Lib.hid hok; clear hok
        go_wp2_with fail
        (with_reducible refine (HW1.out _).mono ?_)
        rintro e w1 ⟨rfl, b1⟩
        have B1 := Lib.hid (B.out.trans (b1.mono B.out.size)); clear b1
        go_wp2_with fail
        go_roundw
        case rel => exact ⟨k + 1, by omega, by go_num, fun i x hi hx => by
          by_cases e : i = k
          · subst e; rw [HK.out] at hx; cases hx; exact HOK.out
          · exact HG.out i x (by omega) hx, B1.out⟩
        case measure => simp [intOf]; omega
    · exfalso
      obtain ⟨o, ho, hbo⟩ := HBD.out
      obtain ⟨i, hi, hx⟩ := List.getElem_of_mem ho
      have := HG.out i o (by rw [HM.out] at hi; omega) (by rw [← hx]; exact List.getElem?_eq_getElem hi)
      rw [hbo] at this; cases this
set_option maxRecDepth 100000 in
set_option maxHeartbeats 4000000 in
theorem r16Check_good (h : WIn w sv C) (ov : Value) (offs : List Nat) (ho : RdSl w 1 ov offs.length (natsU offs)) (hl : offs.length ≤ 1000) (hgood : ∀ o ∈ offs, allowedB 1536 192 5 o = true) :
    Calls Tryd.prog 22 #[.agg #[.int .u64 192, .int .u64 512, .int .u64 1536], sv, ov] w fun r w' => r = .returned (.int .i64 (if 16 < (savedL C 192 5).length + (freshL C ((savedL C 192 5).map (·.1)) offs).length then 4 else 0)) ∧ Below w.heap.size w w' := by
  have H := Lib.hid h
  have HO := Lib.hid ho; have HG := Lib.hid hgood
  have HS := Lib.hid (fun wx (hx : WIn wx sv C) => r16Saved_any hx)
  have HF := Lib.hid (fun wx (hx : WIn wx sv C) ov (hr : RdSl wx 1 ov offs.length (natsU offs)) => r16fresh_any hx ov offs hr hl (fun o ho => (allowed_in (hgood o ho)).2))
  obtain ⟨sa, sc, hsv⟩ := h.slice
  subst hsv
  obtain ⟨_, oa, oc, rfl, hoc, _⟩ := ho
  have hsl : (savedL C 192 5).length ≤ 16 := by unfold savedL; rw [entsL_len]; exact cntL_le C 192 5
  have hfl := freshL_len C ((savedL C 192 5).map (·.1)) offs
  generalize freshL C ((savedL C 192 5).map (·.1)) offs = F at *
  generalize savedL C 192 5 = S at *
  generalize hm : offs.length = m at *
  have HM := Lib.hid hm; clear hm h hgood
  have HWD := Lib.hid (fun (wx : World) (o : Nat) => r16Word_any (w := wx) o)
  have HE : Hid (∀ b : Bool, b = decide ((16 : Int) < (S.length : Int) + (F.length : Int)) → (b = true ∧ (if 16 < S.length + F.length then (4 : Int) else 0) = 4) ∨ (b = false ∧ (if 16 < S.length + F.length then (4 : Int) else 0) = 0)) := by
    rintro b rfl
    by_cases e : 16 < S.length + F.length
    · exact .inl ⟨by simp; omega, if_pos e⟩
    · exact .inr ⟨by simp; omega, if_neg e⟩
  have HC := Lib.hid (fun wx : World => r16Capacity_any (w := wx))
  generalize hR : (if 16 < S.length + F.length then (4 : Int) else 0) = R at *
  clear hR
  have hw1 : IntKind.i64.wrap ((S.length : Int) + (F.length : Int)) = (S.length : Int) + (F.length : Int) := IntWalk.i64_in _ (by omega)
  go_enter Tryd.func22, Tryd.ntmps22
  go_wp2_with fail
  go_loopw [11] (fun y wr => ∃ k : Nat, k ≤ m ∧ y = .int .i64 k ∧ Below (w.alloc (.cells #[.int .u64 192, .int .u64 512, .int .u64 1536] 37)).heap.size (w.alloc (.cells #[.int .u64 192, .int .u64 512, .int .u64 1536] 37)) wr) (fun y _ => m - (intOf y).toNat)
  case atStart => exact ⟨0, by omega, rfl, Below.refl _ _⟩
  case round =>
    obtain ⟨k, hk, rfl, hb⟩ := hrel
    have B := Lib.hid hb; clear hb
    obtain ⟨x0, x1, x2⟩ := ((Bx.new w).below B.out).all
    have XB := Lib.hid ((Bx.new w).below B.out)
    by_cases hlt : k < m
    · have hk' : (k : Int) < m := by omega
      obtain ⟨o, ho⟩ : ∃ o, offs[k]? = some o := ⟨_, List.getElem?_eq_getElem (by rw [HM.out]; exact hlt)⟩
      obtain ⟨_, a', c', e', _, hE⟩ := (HO.out.alloc (.cells #[.int .u64 192, .int .u64 512, .int .u64 1536] 37)).below B.out
      cases e'
      obtain ⟨eb, eo, rfl, hE2⟩ := rd_at hE (natsU_get ho)
      have d1 := hE2 _ _ (natsU_get ho)
      have hW1 := fun wx => HWD.out wx o
      rw [HG.out o (List.mem_of_getElem? ho)] at hW1
      have HW1 := Lib.hid hW1
      clear hE hE2 ho hW1
      go_wp2_with fail
      (with_reducible refine (HW1.out _).mono ?_)
      rintro e w1 ⟨rfl, b1⟩
      have B1 := Lib.hid (B.out.trans (b1.mono B.out.size)); clear b1
      go_wp2_with fail
      go_roundw
      case rel => exact ⟨k + 1, by omega, by go_num, B1.out⟩
      case measure => simp [intOf]; omega
    · have BW : Hid (Below w.heap.size w wr) := (below_alloc w (.cells #[.int .u64 192, .int .u64 512, .int .u64 1536] 37)).trans (B.out.mono (by simp))
      have XD : Hid (wr.drew.cell? ⟨w.heap.size, 0, none⟩ = some (.int .u64 192) ∧ wr.drew.cell? ⟨w.heap.size, 1, none⟩ = some (.int .u64 512) ∧ wr.drew.cell? ⟨w.heap.size, 2, none⟩ = some (.int .u64 1536)) := XB.out.all
      have HS1 := Lib.hid (HS.out _ (H.out.below BW.out).drew)
      clear HS
      go_upto_region 7 with fail
      go_cut [32] from 20 to 32 (fun x wx => x = .bool (decide ((16 : Int) < (S.length : Int) + (F.length : Int))) ∧ Below w.heap.size w wx)
      case first =>
        go_region_held3 (fun wx => wx.cell? ⟨w.heap.size, 0, none⟩ = some (.int .u64 192) ∧ wx.cell? ⟨w.heap.size, 1, none⟩ = some (.int .u64 512) ∧ wx.cell? ⟨w.heap.size, 2, none⟩ = some (.int .u64 1536)) (first | (with_reducible exact X4.out) | (with_reducible exact X3.out) | (with_reducible exact X2.out) | (with_reducible exact XD.out)) (first | (go_at_call 23; (with_reducible refine HS1.out.mono ?_); rintro e w2 ⟨v2, rfl, a2⟩; obtain ⟨a2a, a2c, hv2⟩ := a2.slice; subst hv2; have B2 : Hid (Below w.heap.size w w2) := BW.out.trans ((bdrew a2.bel).mono BW.out.size); have XB2 := Lib.hid (XB.out.below (bdrew a2.bel)); have X2 := Lib.hid XB2.out.all; have HF1 := Lib.hid (HF.out w2 (H.out.below B2.out) _ (HO.out.below B2.out)); clear a2) | (go_at_call 59; (with_reducible refine HF1.out.mono ?_); rintro e w3 ⟨v3, rfl, a3⟩; obtain ⟨a3a, a3c, hv3⟩ := a3.slice; subst hv3; have B3 : Hid (Below w.heap.size w w3) := B2.out.trans (a3.bel.mono B2.out.size); have XB3 := Lib.hid (XB2.out.below a3.bel); have X3 := Lib.hid XB3.out.all; clear a3) | (go_at_call 60; (with_reducible refine (HC.out _).mono ?_); rintro e w4 ⟨rfl, b4⟩; have B4 : Hid (Below w.heap.size w w4) := B3.out.trans (b4.mono B3.out.size); have X4 := Lib.hid ((XB3.out.below b4).all); clear b4))
        all_goals go_wp2_with fail
        all_goals go_meet
        all_goals exact ⟨rfl, B4.out⟩
      case rest =>
        obtain ⟨rfl, hb2⟩ := hcut
        have B2 := Lib.hid hb2; clear hb2
        rcases HE.out _ rfl with ⟨hd, hr⟩ | ⟨hd, hr⟩
        · rw [hd]
          clear hd HE
          subst hr
          go_wp2_with fail
          go_ret
          exact ⟨rfl, B2.out⟩
        · rw [hd]
          clear hd HE
          subst hr
          go_wp2_with fail
          go_ret
          exact ⟨rfl, B2.out⟩
theorem r16Check_any (h : WIn w sv C) (ov : Value) (offs : List Nat) (ho : RdSl w 1 ov offs.length (natsU offs)) (hl : offs.length ≤ 1000) :
    Calls Tryd.prog 22 #[.agg #[.int .u64 192, .int .u64 512, .int .u64 1536], sv, ov] w fun r w' => r = .returned (.int .i64 (checkN C offs)) ∧ Below w.heap.size w w' := by
  unfold checkN
  by_cases hall : offs.all (allowedB 1536 192 5) = true
  · rw [if_pos hall]; exact r16Check_good h ov offs ho hl (fun o ho => List.all_eq_true.1 hall o ho)
  · rw [if_neg hall]
    refine r16Check_bad h ov offs ho hl ?_
    have : offs.all (allowedB 1536 192 5) = false := by simpa using hall
    obtain ⟨o, ho, hb⟩ := List.all_eq_false.1 this
    have hb2 : allowedB 1536 192 5 o = false := by simpa using hb
    exact ⟨o, ho, hb2⟩
end
end Go.Proofs.YtokgplgdaememaaDoor

/- The reference of layer 16: Save. -/
namespace Go.Proofs.YtokgplgdaememaaDoor
open Go.RowKit Go.Maps
attribute [local go_sem ↓] Go.wp_at_zero Go.wp_at_succ
section
variable {w : World} {sv : Value} {C : Nat → Int}
/-- A program of the reference. -/
def RPost (w : World) (P : List (Nat × Nat × Int)) (r : Ending) (w' : World) : Prop := ∃ ov, r = .returned ov ∧ Acc w w.heap.size w' 55 3 ov P.length (instrC P)
set_option maxRecDepth 100000 in
set_option maxHeartbeats 8000000 in
theorem r16Save_any (h : WIn w sv C) (ov : Value) (offs : List Nat) (ho : RdSl w 1 ov offs.length (natsU offs)) (hl : offs.length ≤ 1000) (hgood : ∀ o ∈ offs, allowedB 1536 192 5 o = true) :
    Calls Tryd.prog 24 #[.agg #[.int .u64 192, .int .u64 512, .int .u64 1536], sv, ov] w (RPost w (planP 192 (savedL C 192 5).length (freshL C ((savedL C 192 5).map (·.1)) offs))) := by
  have H := Lib.hid h
  have HO := Lib.hid ho; have HG := Lib.hid hgood
  have HS := Lib.hid (fun wx (hx : WIn wx sv C) => r16Saved_any hx)
  have HF := Lib.hid (fun wx (hx : WIn wx sv C) ov (hr : RdSl wx 1 ov offs.length (natsU offs)) => r16fresh_any hx ov offs hr hl (fun o ho => (allowed_in (hgood o ho)).2))
  obtain ⟨sa, sc, hsv⟩ := h.slice
  subst hsv
  obtain ⟨_, oa, oc, rfl, hoc, _⟩ := ho
  have hsl : (savedL C 192 5).length ≤ 16 := by unfold savedL; rw [entsL_len]; exact cntL_le C 192 5
  have hfl := freshL_len C ((savedL C 192 5).map (·.1)) offs
  obtain ⟨FF, hFF⟩ : ∃ FF, freshL C ((savedL C 192 5).map (·.1)) offs = FF := ⟨_, rfl⟩
  rw [hFF] at hfl ⊢ HF
  clear hFF
  generalize savedL C 192 5 = S at *
  generalize hm : offs.length = m at *
  generalize hs : S.length = s at *
  generalize hf : FF.length = f at *
  have HL := Lib.hid (And.intro hm (And.intro hs hf)); clear hm hs hf h hgood
  obtain ⟨k0, hi0, hz0, hz1, hz2⟩ := info_parts infoRW
  have I2 := Lib.hid (And.intro hi0 (And.intro hz0 (And.intro hz1 hz2))); clear hi0 hz0 hz1 hz2
  obtain ⟨k1, hi0, hz0, hz1, hz2⟩ := info_parts infoRI
  have I3 := Lib.hid (And.intro hi0 (And.intro hz0 (And.intro hz1 hz2))); clear hi0 hz0 hz1 hz2
  go_enter Tryd.func24, Tryd.ntmps24
  have X0 := Lib.hid (Bx.new w)
  obtain ⟨x0, x1, x2⟩ := X0.out.all
  go_wp2_with fail
  (with_reducible refine (HS.out _ (H.out.alloc _)).mono ?_)
  rintro e w1 ⟨v1, rfl, a1⟩
  obtain ⟨a1a, a1c, hv1⟩ := a1.slice
  subst hv1
  have B1 : Hid (Below w.heap.size w w1) := (below_alloc w _).trans (a1.bel.mono (by simp))
  have X1 := Lib.hid (X0.out.below a1.bel)
  clear a1 HS x0 x1 x2
  obtain ⟨x0, x1, x2⟩ := X1.out.all
  rw [HL.out.2.1]
  go_wp2_with fail
  (with_reducible refine (HF.out _ (H.out.below B1.out) _ (HO.out.below B1.out)).mono ?_)
  rintro e w2 ⟨v2, rfl, a2⟩
  obtain ⟨a2a, a2c, hv2⟩ := a2.slice
  subst hv2
  have A2 := Lib.hid a2
  have B2 : Hid (Below w.heap.size w w2) := B1.out.trans (a2.bel.mono B1.out.size)
  have X2 := Lib.hid (X1.out.below a2.bel)
  clear a2 HF x0 x1 x2 X1
  rw [HL.out.2.2]
  go_wp2_with fail
  go_loopw [7, 21] (fun pv y wr => ∃ a : Nat, a ≤ f ∧ y = .int .i64 a ∧ Acc w2 w2.heap.size wr 59 2 pv (2 * a) (flat (planWs (192 + 64 + 16 * s) (FF.take a)))) (fun _ y _ => f - (intOf y).toNat)
  case atStart => exact ⟨0, by omega, rfl, Acc.nil w2 _ _ _ _ (Below.refl _ _) (Nat.le_refl _)⟩
  case round =>
    obtain ⟨a, ha, rfl, hacc⟩ := hrel
    obtain ⟨pa, pc, hpv⟩ := hacc.slice
    subst hpv
    have A := Lib.hid hacc; clear hacc
    obtain ⟨x0, x1, x2⟩ := (X2.out.below A.out.bel).all
    by_cases hlt4 : a < f
    · have ha' : (a : Int) < f := by omega
      obtain ⟨e, he⟩ : ∃ e, FF[a]? = some e := ⟨_, List.getElem?_eq_getElem (by rw [HL.out.2.2]; exact hlt4)⟩
      obtain ⟨_, a', c', e', _, hE⟩ := A2.out.rd.below A.out.bel
      rw [HL.out.2.2] at e'
      cases e'
      have hg := flat_get' FF a e he
      obtain ⟨eb, eo, rfl, hE2⟩ := rd_at hE hg.1
      have c1 := hE2 _ _ hg.1; have c2 := hE2 _ _ hg.2
      rw [← Nat.add_assoc] at c2
      have HT := Lib.hid (take_snoc_get FF a e he)
      clear hE hE2 he hg
      obtain ⟨e1, e2⟩ := e
      simp only at c1 c2
      obtain ⟨y0, y1, y2⟩ := ((X2.out.below A.out.bel).below (below_alloc wr (.cells #[.int .u64 (e1 : Int), .int .u64 e2] 59))).all
      obtain ⟨t, ht⟩ : ∃ t, 256 + 16 * (s + a) = t := ⟨_, rfl⟩
      have et : (256 : Int) + ((s : Int) + a) * 16 = (t : Int) := by omega
      have et2 : (256 : Int) + 16 * ((s : Int) + a) = (t : Int) := by omega
      have HTT : Hid (planWs (192 + 64 + 16 * s) (FF.take (a + 1)) = planWs (192 + 64 + 16 * s) (FF.take a) ++ [(t, (e1 : Int)), (t + 8, e2)]) := by
        show planWs (192 + 64 + 16 * s) (FF.take (a + 1)) = _
        rw [HT.out, planWs_snoc, List.length_take, HL.out.2.2, show min a f = a by omega, show 192 + 64 + 16 * s + 16 * a = t by omega]
      have ht64 : t + 8 < 18446744073709551616 := by omega
      have E8 : Hid ((t : Int) + 8 = ((t + 8 : Nat) : Int)) := by show (t : Int) + 8 = _; omega
      clear ht
      have hlw := A.out.lt
      go_wp2_with (at_builtin; refine wpList_append_sl _ rfl _ _ 50 rfl 59 k0 _ 2 16 Tryd.underlying50 I2.out.1 I2.out.2.1 I2.out.2.2.1 I2.out.2.2.2 rfl (by decide) _ (2 * a) (flat (planWs (192 + 64 + 16 * s) (FF.take a))) rfl (by exact (A.out.own.alloc _).alloc _) _ 2 [.int .u64 (t : Int), .int .u64 (e1 : Int), .int .u64 ((t : Int) + 8), .int .u64 e2] rfl (by exact RdSl.newAt _ _ _ 2 2 _ (by simp) rfl) (by simp [Value.oneCell']) (by unfold maxLen; omega) (by omega) ?_)
      intro v3 w4 o1 g1 b1 n1
      have A3 := Lib.hid (A.out.next (below_twice wr _ _) o1 g1 b1 (by omega)); clear o1 g1 b1 n1
      go_wp2_with fail
      go_roundw
      case rel => exact ⟨a + 1, by omega, by go_num, A3.out.congr (by omega) (by rw [HTT.out, flat_append, E8.out]; rfl)⟩
      case measure => simp [intOf]; omega
    · obtain rfl : a = f := by omega
      have hFt : FF.take a = FF := List.take_of_length_le (by rw [HL.out.2.2]; omega)
      rw [hFt] at A
      clear hFt
      have BW : Hid (Below w.heap.size w wr) := B2.out.trans (A.out.bel.mono B2.out.size)
      have XW := Lib.hid (X2.out.below A.out.bel)
      by_cases hf0 : a = 0
      · have hb0 : (((2 * a : Nat) : Int) == 0) = true := by simp; omega
        have hFn : FF = [] := List.eq_nil_of_length_eq_zero (by rw [HL.out.2.2]; exact hf0)
        have HFN := Lib.hid hFn
        clear hf0 hFn
        go_wp2_with fail
        go_ret
        refine ⟨_, rfl, ?_⟩
        rw [HFN.out]
        exact Acc.nil w _ _ _ _ BW.out BW.out.size
      · have hb0 : (((2 * a : Nat) : Int) == 0) = false := by simp; omega
        have hlenW : (planWs (192 + 64 + 16 * s) FF).length = 2 * a := by rw [planWs_len, HL.out.2.2]
        have HST := Lib.hid (r10Stores_any (w := wr.drew) (.slice pa (2 * a) pc) (planWs (192 + 64 + 16 * s) FF) (by rw [hlenW]; exact A.out.rd.drew) (by rw [hlenW]; omega) (fun e he => by have := planWs_bd FF _ e he; rw [HL.out.2.2] at this; omega))
        have HP : Hid (planP 192 s FF = storesL (planWs (192 + 64 + 16 * s) FF) ++ storesL [(192, ((s + a : Nat) : Int))]) := by
          show planP 192 s FF = _
          unfold planP
          rw [if_neg (fun e => hf0 (by rw [← HL.out.2.2, e]; rfl)), HL.out.2.2]
        have hst1 := storesL_len (planWs (192 + 64 + 16 * s) FF)
        rw [hlenW] at hst1
        have hst2 := store1_len 192 ((s + a : Nat) : Int)
        have hsc := fun wx => r16count_any (w := wx) (s + a) (by omega)
        rw [show ((s + a : Nat) : Int) = (s : Int) + a by omega] at hsc HP hst2
        have HSC := Lib.hid hsc
        clear hsc hlenW hf0
        generalize storesL (planWs (192 + 64 + 16 * s) FF) = P1 at *
        generalize storesL [(192, (s : Int) + a)] = P2 at *
        have q1 : (((2 * a : Nat) : Int)).tdiv 2 = (a : Int) := by rw [Int.tdiv_eq_ediv_of_nonneg (by omega)]; omega
        have q2 : IntKind.i64.wrap (a : Int) = (a : Int) := IntWalk.i64_in _ (by omega)
        have q3 : IntKind.i64.wrap ((s : Int) + (a : Int)) = (s : Int) + (a : Int) := IntWalk.i64_in _ (by omega)
        have XD : Hid (wr.drew.cell? ⟨w.heap.size, 0, none⟩ = some (.int .u64 192) ∧ wr.drew.cell? ⟨w.heap.size, 1, none⟩ = some (.int .u64 512) ∧ wr.drew.cell? ⟨w.heap.size, 2, none⟩ = some (.int .u64 1536)) := XW.out.all
        go_wp2_with fail
        go_region_held3 (fun wx => wx.cell? ⟨w.heap.size, 0, none⟩ = some (.int .u64 192) ∧ wx.cell? ⟨w.heap.size, 1, none⟩ = some (.int .u64 512) ∧ wx.cell? ⟨w.heap.size, 2, none⟩ = some (.int .u64 1536)) (first | (with_reducible exact Y6.out) | (with_reducible exact Y5.out) | (with_reducible exact Y4.out) | (with_reducible exact XD.out)) (first | (go_at_call 62; (with_reducible refine HST.out.mono ?_); rintro e w4 ⟨v4, rfl, a4⟩; obtain ⟨a4a, a4c, hv4⟩ := a4.slice; subst hv4; have A4 := Lib.hid a4; have B4 : Hid (Below w.heap.size w w4) := BW.out.trans ((bdrew a4.bel).mono BW.out.size); have XB4 := Lib.hid (XW.out.below (bdrew a4.bel)); have Y4 := Lib.hid XB4.out.all; clear a4) | (go_at_call 63; (with_reducible refine (HSC.out _).mono ?_); rintro e w5 ⟨v5, rfl, a5⟩; obtain ⟨a5a, a5c, hv5⟩ := a5.slice; subst hv5; have A5 := Lib.hid a5; have A4' := Lib.hid (A4.out.keep a5.bel); have XB5 := Lib.hid (XB4.out.below a5.bel); have Y5 := Lib.hid XB5.out.all; clear a5) | (refine step_append_sl (w := w5) rfl (.tmp 52) (.tmp 59) 52 rfl 55 k1 _ 3 24 Tryd.underlying52 I3.out.1 I3.out.2.1 I3.out.2.2.1 I3.out.2.2.2 rfl (by decide) (.slice a4a P1.length a4c) P1.length (instrC P1) rfl (by exact A4'.out.own) _ P2.length (instrC P2) rfl (by exact A5.out.rd) (instrC_one _) (by unfold maxLen; omega) (by omega) ?_; intro v6 w6 o6 g6 b6; have A6 := Lib.hid (A4'.out.next (Below.refl _ _) o6 g6 b6 (Nat.le_refl _)); have Y6 := Lib.hid ((XW.out.below (bdrew A6.out.bel)).all); clear o6 g6 b6))
        all_goals go_wp2_with fail
        all_goals go_ret
        all_goals exact ⟨_, rfl, by rw [HP.out]; exact ⟨(A6.out.congr (by simp) (by rw [instrC_append])).own, fun g hg => Nat.le_trans BW.out.size (A6.out.new g hg), BW.out.trans ((bdrew A6.out.bel).mono BW.out.size), Nat.le_trans BW.out.size A6.out.lt⟩⟩
end
end Go.Proofs.YtokgplgdaememaaDoor

/- The reference of layer 16: valid, Commit. -/
namespace Go.Proofs.YtokgplgdaememaaDoor
open Go.RowKit Go.Maps
attribute [local go_sem ↓] Go.wp_at_zero Go.wp_at_succ
theorem saved_lt {C : Nat → Int} {off n : Nat} (hC : ∀ i, 0 ≤ C i ∧ C i < 18446744073709551616) : ∀ e ∈ savedL C off n, e.1 < 18446744073709551616 ∧ 0 ≤ e.2 ∧ e.2 < 18446744073709551616 := fun e he => by
  unfold savedL entsL at he
  obtain ⟨i, _, rfl⟩ := List.mem_map.1 he
  have h1 := hC (off / 8 + 8 + 2 * i); have h2 := hC (off / 8 + 9 + 2 * i)
  exact ⟨by simp only; omega, h2⟩
section
variable {w : World} {sv : Value} {C : Nat → Int}
set_option maxRecDepth 100000 in
set_option maxHeartbeats 4000000 in
theorem r16valid_any (h : WIn w sv C) : Calls Tryd.prog 76 #[.agg #[.int .u64 192, .int .u64 512, .int .u64 1536], sv] w (WrPost w (validL 1536 192 5 (savedL C 192 5))) := by
  have H := Lib.hid h
  have HS := Lib.hid (fun wx (hx : WIn wx sv C) => r16Saved_any hx)
  obtain ⟨sa, sc, hsv⟩ := h.slice
  subst hsv
  have hsl : (savedL C 192 5).length ≤ 16 := by unfold savedL; rw [entsL_len]; exact cntL_le C 192 5
  generalize savedL C 192 5 = S at *
  obtain ⟨VV, hVV⟩ : ∃ VV, validL 1536 192 5 S = VV := ⟨_, rfl⟩
  rw [hVV]
  have HVV := Lib.hid hVV; clear hVV
  have HVL := Lib.hid (fun k => validL_len 1536 192 5 (S.take k))
  generalize hs : S.length = s at *
  have HL := Lib.hid hs; clear hs h
  obtain ⟨k0, hi0, hz0, hz1, hz2⟩ := info_parts infoRW
  have I2 := Lib.hid (And.intro hi0 (And.intro hz0 (And.intro hz1 hz2))); clear hi0 hz0 hz1 hz2
  have HWD := Lib.hid (fun (wx : World) (o : Nat) => r16Word_any (w := wx) o)
  go_enter Tryd.func76, Tryd.ntmps76
  have X0 := Lib.hid (Bx.new w)
  obtain ⟨x0, x1, x2⟩ := X0.out.all
  go_wp2_with fail
  (with_reducible refine (HS.out _ (H.out.alloc _)).mono ?_)
  rintro e w1 ⟨v1, rfl, a1⟩
  obtain ⟨a1a, a1c, hv1⟩ := a1.slice
  subst hv1
  have A1 := Lib.hid a1
  have B1 : Hid (Below w.heap.size w w1) := (below_alloc w _).trans (a1.bel.mono (by simp))
  have X1 := Lib.hid (X0.out.below a1.bel)
  clear a1 HS x0 x1 x2
  rw [HL.out]
  go_wp2_with fail
  go_loopw [5, 12] (fun vv y wr => ∃ (i : Nat) (V : List (Nat × Int)), i ≤ s ∧ y = .int .i64 i ∧ validL 1536 192 5 (S.take i) = V ∧ Acc w1 w1.heap.size wr 59 2 vv V.length (flat V)) (fun _ y _ => s - (intOf y).toNat)
  case atStart => exact ⟨0, [], by omega, rfl, rfl, Acc.nil w1 _ _ _ _ (Below.refl _ _) (Nat.le_refl _)⟩
  case round =>
    obtain ⟨i, V, hi, rfl, hV, ha⟩ := hrel
    obtain ⟨va, vc, hvv⟩ := ha.slice
    subst hvv
    have A := Lib.hid ha; have HV := Lib.hid hV; clear ha hV
    obtain ⟨x0, x1, x2⟩ := (X1.out.below A.out.bel).all
    by_cases hlt : i < s
    · have hi' : (i : Int) < s := by omega
      obtain ⟨e, he⟩ : ∃ e, S[i]? = some e := ⟨_, List.getElem?_eq_getElem (by rw [HL.out]; exact hlt)⟩
      obtain ⟨_, a', c', e', _, hE⟩ := A1.out.rd.below A.out.bel
      rw [HL.out] at e'
      cases e'
      have hg := flat_get' S i e he
      obtain ⟨eb, eo, rfl, hE2⟩ := rd_at hE hg.1
      have c1 := hE2 _ _ hg.1; have c2 := hE2 _ _ hg.2
      rw [← Nat.add_assoc] at c2
      have HT := Lib.hid (take_snoc_get S i e he)
      have hvl : V.length ≤ 16 := by have := HVL.out i; rw [HV.out, List.length_take] at this; omega
      have hlw := A.out.lt
      clear hE hE2 he hg
      obtain ⟨e1, e2⟩ := e
      simp only at c1 c2
      obtain ⟨y0, y1, y2⟩ := ((X1.out.below A.out.bel).below (below_alloc wr (.cells #[.int .u64 (e1 : Int), .int .u64 e2] 59))).all
      have HA := Lib.hid (fun wx => HWD.out wx e1)
      cases hok : allowedB 1536 192 5 e1
      · rw [hok] at HA
        have HO : Hid (validL 1536 192 5 (S.take (i + 1)) = V) := by
          show validL 1536 192 5 (S.take (i + 1)) = V
          rw [HT.out, validL_snoc_no hok, HV.out]
        clear hok
        go_wp2_with fail
        (with_reducible refine (HA.out _).mono ?_)
        rintro e w2 ⟨rfl, b2⟩
        have A2 := Lib.hid (A.out.keep ((below_alloc wr _).trans (b2.mono (by simp)))); clear b2
        go_wp2_with fail
        go_roundw
        case rel => exact ⟨i + 1, V, by omega, by go_num, HO.out, A2.out⟩
        case measure => simp [intOf]; omega
      · rw [hok] at HA
        have HO : Hid (validL 1536 192 5 (S.take (i + 1)) = V ++ [(e1, e2)]) := by
          show validL 1536 192 5 (S.take (i + 1)) = V ++ [(e1, e2)]
          rw [HT.out, validL_snoc_yes (e := (e1, e2)) hok, HV.out]
        clear hok
        go_wp2_with fail
        (with_reducible refine (HA.out _).mono ?_)
        rintro e w2 ⟨rfl, b2⟩
        have f0 : w2.cell? ⟨wr.heap.size, 0, none⟩ = some (.int .u64 e1) := cell_bel b2 ((Blk.new wr _ 59).cell (i := 0) rfl)
        have f1 : w2.cell? ⟨wr.heap.size, 1, none⟩ = some (.int .u64 e2) := cell_bel b2 ((Blk.new wr _ 59).cell (i := 1) rfl)
        have A2 := Lib.hid (A.out.keep ((below_alloc wr _).trans (b2.mono (by simp)))); clear b2
        go_wp2_with (at_builtin; refine wpList_append_sl _ rfl _ _ 50 rfl 59 k0 _ 2 16 Tryd.underlying50 I2.out.1 I2.out.2.1 I2.out.2.2.1 I2.out.2.2.2 rfl (by decide) _ V.length (flat V) rfl (by exact A2.out.own.alloc _) _ 1 (flat [(e1, e2)]) rfl (by exact RdSl.newAt _ _ _ 2 1 _ (by simp) rfl) (flat_one _) (by unfold maxLen; omega) (by omega) ?_)
        intro v1 w3 o1 g1 b1 n1
        have A3 := Lib.hid (A2.out.next (below_alloc w2 _) o1 g1 b1 (by have := A2.out.lt; omega)); clear o1 g1 b1 n1
        go_wp2_with fail
        go_roundw
        case rel => exact ⟨i + 1, V ++ [(e1, e2)], by omega, by go_num, HO.out, A3.out.congr (by simp) (by rw [flat_append])⟩
        case measure => simp [intOf]; omega
    · obtain rfl : i = s := by omega
      obtain rfl : V = VV := by rw [← HV.out, ← HVV.out, List.take_of_length_le (by rw [HL.out]; omega)]
      go_wp2_with fail
      go_ret
      exact ⟨_, rfl, A.out.deeper B1.out⟩
set_option maxRecDepth 100000 in
set_option maxHeartbeats 8000000 in
theorem r16Commit_any (h : WIn w sv C) : Calls Tryd.prog 43 #[.agg #[.int .u64 192, .int .u64 512, .int .u64 1536], sv] w (RPost w (commitP 192 (savedL C 192 5) (validL 1536 192 5 (savedL C 192 5)))) := by
  have H := Lib.hid h
  have HS := Lib.hid (fun wx (hx : WIn wx sv C) => r16Saved_any hx)
  have HV := Lib.hid (fun wx (hx : WIn wx sv C) => r16valid_any hx)
  have hlt64 := saved_lt (off := 192) (n := 5) h.bd
  obtain ⟨sa, sc, hsv⟩ := h.slice
  subst hsv
  have hsl : (savedL C 192 5).length ≤ 16 := by unfold savedL; rw [entsL_len]; exact cntL_le C 192 5
  have hvl := validL_len 1536 192 5 (savedL C 192 5)
  have hvm : ∀ e ∈ validL 1536 192 5 (savedL C 192 5), e.1 < 18446744073709551616 := fun e he => (hlt64 e (List.mem_filter.1 he).1).1
  generalize validL 1536 192 5 (savedL C 192 5) = V at *
  generalize savedL C 192 5 = S at *
  clear hlt64
  generalize hs : S.length = s at *
  generalize hv : V.length = m at *
  have HL := Lib.hid (And.intro hs hv); clear hs hv h
  obtain ⟨i0, hi0, hz0, hz1, hz2⟩ := info_parts infoU64
  have I := Lib.hid (And.intro hi0 (And.intro hz0 (And.intro hz1 hz2))); clear hi0 hz0 hz1 hz2
  obtain ⟨k1, hi0, hz0, hz1, hz2⟩ := info_parts infoRI
  have I3 := Lib.hid (And.intro hi0 (And.intro hz0 (And.intro hz1 hz2))); clear hi0 hz0 hz1 hz2
  have X0 := Lib.hid (Bx.new w)
  by_cases hs0 : s = 0
  · have hSn : S = [] := List.eq_nil_of_length_eq_zero (by rw [HL.out.1]; exact hs0)
    have hb0 : ((s : Int) == 0) = true := by simp; omega
    have HC : Hid (commitP 192 S V = []) := by show commitP 192 S V = []; unfold commitP; rw [if_pos hSn]
    clear hs0 hSn
    go_enter Tryd.func43, Tryd.ntmps43
    obtain ⟨x0, x1, x2⟩ := X0.out.all
    go_wp2_with fail
    (with_reducible refine (HS.out _ (H.out.alloc _)).mono ?_)
    rintro e w1 ⟨v1, rfl, a1⟩
    obtain ⟨a1a, a1c, hv1⟩ := a1.slice
    subst hv1
    have B1 : Hid (Below w.heap.size w w1) := (below_alloc w _).trans (a1.bel.mono (by simp))
    clear a1 HS
    rw [HL.out.1]
    go_wp2_with fail
    go_ret
    exact ⟨_, rfl, by rw [HC.out]; exact Acc.nil w _ _ _ _ B1.out B1.out.size⟩
  · have hb0 : ((s : Int) == 0) = false := by simp; omega
    have HC : Hid (commitP 192 S V = flushL (V.map (·.1)) ++ storesL [(192, 0)]) := by
      show commitP 192 S V = _
      unfold commitP; rw [if_neg (fun e => hs0 (by rw [← HL.out.1, e]; rfl))]
    have h1 := store1_len 192 0
    have hfl := flushL_len (V.map (·.1))
    rw [List.length_map, HL.out.2] at hfl
    have hsc := fun wx => r16count_any (w := wx) 0 (by omega)
    rw [show ((0 : Nat) : Int) = 0 from rfl] at hsc
    have HSC := Lib.hid hsc
    have HFL := Lib.hid (fun wx fv hx => r10Flushes_any (w := wx) fv (V.map (·.1)) hx (by rw [List.length_map, HL.out.2]; omega) (fun o ho => by obtain ⟨e, he, rfl⟩ := List.mem_map.1 ho; exact hvm e he))
    have hml : (V.map (·.1)).length = m := by rw [List.length_map, HL.out.2]
    rw [hml] at HFL
    clear hsc hs0 hml
    generalize flushL (V.map (·.1)) = P1 at *
    generalize storesL [(192, (0 : Int))] = P2 at *
    go_enter Tryd.func43, Tryd.ntmps43
    obtain ⟨x0, x1, x2⟩ := X0.out.all
    go_wp2_with fail
    (with_reducible refine (HS.out _ (H.out.alloc _)).mono ?_)
    rintro e w1 ⟨v1, rfl, a1⟩
    obtain ⟨a1a, a1c, hv1⟩ := a1.slice
    subst hv1
    have B1 : Hid (Below w.heap.size w w1) := (below_alloc w _).trans (a1.bel.mono (by simp))
    have X1 := Lib.hid (X0.out.below a1.bel)
    clear a1 HS x0 x1 x2
    obtain ⟨x0, x1, x2⟩ := X1.out.all
    rw [HL.out.1]
    go_wp2_with fail
    (with_reducible refine (HV.out _ (H.out.below B1.out)).mono ?_)
    rintro e w2 ⟨v2, rfl, a2⟩
    obtain ⟨a2a, a2c, hv2⟩ := a2.slice
    subst hv2
    have A2 := Lib.hid a2
    have B2 : Hid (Below w.heap.size w w2) := B1.out.trans (a2.bel.mono B1.out.size)
    have X2 := Lib.hid (X1.out.below a2.bel)
    clear a2 HV x0 x1 x2 X1
    rw [HL.out.2]
    go_wp2_with fail
    go_loopw [5, 17] (fun fv y wr => ∃ a : Nat, a ≤ m ∧ y = .int .i64 a ∧ Acc w2 w2.heap.size wr 35 1 fv a (natsU ((V.take a).map (·.1)))) (fun _ y _ => m - (intOf y).toNat)
    case atStart => exact ⟨0, by omega, rfl, Acc.nil w2 _ _ _ _ (Below.refl _ _) (Nat.le_refl _)⟩
    case round =>
      obtain ⟨a, ha, rfl, hacc⟩ := hrel
      obtain ⟨pa, pc, hpv⟩ := hacc.slice
      subst hpv
      have A := Lib.hid hacc; clear hacc
      by_cases hlt4 : a < m
      · have ha' : (a : Int) < m := by omega
        obtain ⟨e, he⟩ : ∃ e, V[a]? = some e := ⟨_, List.getElem?_eq_getElem (by rw [HL.out.2]; exact hlt4)⟩
        obtain ⟨_, a', c', e', _, hE⟩ := A2.out.rd.below A.out.bel
        rw [HL.out.2] at e'
        cases e'
        have hg := flat_get' V a e he
        obtain ⟨eb, eo, rfl, hE2⟩ := rd_at hE hg.1
        have c1 := hE2 _ _ hg.1; have c2 := hE2 _ _ hg.2
        rw [← Nat.add_assoc] at c2
        have HT := Lib.hid (take_snoc_get V a e he)
        clear hE hE2 he hg
        obtain ⟨e1, e2⟩ := e
        simp only at c1 c2
        have hlw := A.out.lt
        go_wp2_with (at_builtin; refine wpList_append_sl _ rfl _ _ 44 rfl 35 i0 _ 1 8 Tryd.underlying44 I.out.1 I.out.2.1 I.out.2.2.1 I.out.2.2.2 rfl (by decide) _ a (natsU ((V.take a).map (·.1))) rfl (by exact (A.out.own.alloc _).alloc _) _ 1 (natsU [e1]) rfl (by exact RdSl.newAt _ _ _ 1 1 _ (by simp) rfl) (natsU_one _) (by unfold maxLen; omega) (by omega) ?_)
        intro v3 w4 o1 g1 b1 n1
        have o1' : OwnSl w4 35 1 v3 (a + 1) (natsU ((V.take a).map (·.1)) ++ natsU [e1]) := by rw [List.map_take]; exact o1
        have A3 := Lib.hid (A.out.next (below_twice wr _ _) o1' g1 b1 (by omega)); clear o1 o1' g1 b1 n1
        go_wp2_with fail
        go_roundw
        case rel => exact ⟨a + 1, by omega, by go_num, A3.out.congr rfl (by rw [HT.out, List.map_append]; simp [natsU])⟩
        case measure => simp [intOf]; omega
      · obtain rfl : a = m := by omega
        have hFt : V.take a = V := List.take_of_length_le (by rw [HL.out.2]; omega)
        rw [hFt] at A
        clear hFt
        have BW : Hid (Below w.heap.size w wr) := B2.out.trans (A.out.bel.mono B2.out.size)
        have XW := Lib.hid (X2.out.below A.out.bel)
        have HFL1 := Lib.hid (HFL.out wr.drew _ A.out.rd.drew)
        have XD : Hid (wr.drew.cell? ⟨w.heap.size, 0, none⟩ = some (.int .u64 192) ∧ wr.drew.cell? ⟨w.heap.size, 1, none⟩ = some (.int .u64 512) ∧ wr.drew.cell? ⟨w.heap.size, 2, none⟩ = some (.int .u64 1536)) := XW.out.all
        go_wp2_with fail
        go_region_held3 (fun wx => wx.cell? ⟨w.heap.size, 0, none⟩ = some (.int .u64 192) ∧ wx.cell? ⟨w.heap.size, 1, none⟩ = some (.int .u64 512) ∧ wx.cell? ⟨w.heap.size, 2, none⟩ = some (.int .u64 1536)) (first | (with_reducible exact Y6.out) | (with_reducible exact Y5.out) | (with_reducible exact Y4.out) | (with_reducible exact XD.out)) (first | (go_at_call 77; (with_reducible refine HFL1.out.mono ?_); rintro e w4 ⟨v4, rfl, a4⟩; obtain ⟨a4a, a4c, hv4⟩ := a4.slice; subst hv4; have A4 := Lib.hid a4; have XB4 := Lib.hid (XW.out.below (bdrew a4.bel)); have Y4 := Lib.hid XB4.out.all; clear a4) | (go_at_call 63; (with_reducible refine (HSC.out _).mono ?_); rintro e w5 ⟨v5, rfl, a5⟩; obtain ⟨a5a, a5c, hv5⟩ := a5.slice; subst hv5; have A5 := Lib.hid a5; have A4' := Lib.hid (A4.out.keep a5.bel); have XB5 := Lib.hid (XB4.out.below a5.bel); have Y5 := Lib.hid XB5.out.all; clear a5) | (refine step_append_sl (w := w5) rfl (.tmp 28) (.tmp 30) 52 rfl 55 k1 _ 3 24 Tryd.underlying52 I3.out.1 I3.out.2.1 I3.out.2.2.1 I3.out.2.2.2 rfl (by decide) (.slice a4a P1.length a4c) P1.length (instrC P1) rfl (by exact A4'.out.own) _ P2.length (instrC P2) rfl (by exact A5.out.rd) (instrC_one _) (by unfold maxLen; omega) (by omega) ?_; intro v6 w6 o6 g6 b6; have A6 := Lib.hid (A4'.out.next (Below.refl _ _) o6 g6 b6 (Nat.le_refl _)); have Y6 := Lib.hid ((XW.out.below (bdrew A6.out.bel)).all); clear o6 g6 b6))
        all_goals go_wp2_with fail
        all_goals go_ret
        all_goals exact ⟨_, rfl, by rw [HC.out]; exact ⟨(A6.out.congr (by simp) (by rw [instrC_append])).own, fun g hg => Nat.le_trans BW.out.size (A6.out.new g hg), BW.out.trans ((bdrew A6.out.bel).mono BW.out.size), Nat.le_trans BW.out.size A6.out.lt⟩⟩
end
end Go.Proofs.YtokgplgdaememaaDoor
