/- The walk of BucketPlans. Printed by wip/genplans.py. -/
import Derived.Test.YtpkilmnppdbnkaaBkY
namespace Go.Proofs.Ytpkilmnppdbnkaa
open Go.RowKit

section
variable {w : World}
set_option maxRecDepth 100000 in
set_option maxHeartbeats 16000000 in
theorem bucketPlans_any (b n : Nat) (hb : b < 256) (sv : Value) (xs : List Value) (hs : RdSl w 3 sv n xs) (hn : n ≤ maxLen) (hop : ∀ i, i < n → OpAt xs i) (po pk px : Nat) (hpo : po < 256) (hpk : pk < 18446744073709551616) (hpx : px < 18446744073709551616) :
    Calls Try.prog 6 #[.int .u8 b, sv, .agg #[.int .u8 po, .int .u64 pk, .int .u64 px]] w fun r w' => r = .returned (.bool true) ∧ Below w.heap.size w w' := by
  unfold maxLen at hn
  obtain ⟨_, a, ca, rfl, hca, ha⟩ := hs
  have HAA := Lib.hid ha; have HOP := Lib.hid hop
  clear ha hop
  have HAW := Lib.hid (fun wx => awake31 (w := wx))
  have HMD := Lib.hid (fun wx => made31 (w := wx) b hb)
  have h8 : 8 * (b % 17) % 8 = 0 := by omega
  have hl : 8 * (b % 17) + 128 ≤ 256 := by omega
  generalize 8 * (b % 17) = off at *
  go_enter Try.func6, Try.ntmps6
  go_wp2_with fail
  (with_reducible refine (HAW.out _).mono ?_)
  rintro e w1 ⟨rfl, b1⟩
  have OX1 : Hid (Blk w1 w.heap.size #[.int .u8 po, .int .u64 pk, .int .u64 px] 37) := (Blk.new w _ _).below b1
  have B1 : Hid (Below w.heap.size w w1) := (below_alloc w _).trans (b1.mono (by simp))
  have L1 : Hid (w.heap.size < w1.heap.size) := OX1.out.lt
  clear b1 HAW
  go_wp2_with fail
  (with_reducible refine (HMD.out _).mono ?_)
  rintro e w2 ⟨v, own, rfl, d, o, b2⟩
  have OX2 := Lib.hid (OX1.out.below b2)
  have OF2 : Hid (own w.heap.size = none) := (by
    cases e : own w.heap.size with
    | none => rfl
    | some r => have := o w.heap.size (by rw [e]; simp); have := L1.out; omega : own w.heap.size = none)
  have ON2 : Hid (w.heap.size ≠ w2.heap.size + 1) := (by have := OX2.out.lt; omega : w.heap.size ≠ w2.heap.size + 1)
  have S2 := Lib.hid (PlS.start (w := w) d (fun k hk => Nat.le_trans B1.out.size (o k hk)) (B1.out.trans (b2.mono B1.out.size)) h8 hl)
  have OX3 := Lib.hid (OX2.out.below (below_twice w2 (.cells #[.iface 56 (.pointer (some ⟨v.tb 0, 0, none⟩)), .int .u64 off] 29) (.cells (refC (fun _ => 0) off) 32)))
  clear d o b2 HMD B1 OX1 OX2 L1
  dsimp only [refC]
  go_wp2_with fail
  generalize hwv : World.alloc (World.alloc w2 _) _ = w3 at S2 OX3
  have hwv2 := hwv
  dsimp only [refC] at hwv2
  rw [hwv2]
  clear hwv hwv2
  generalize w2.heap.size = bl at *
  generalize hxb : bl + 1 = xb at *
  clear hxb
  go_loopw [31] (fun z wr => ∃ i : Nat, i ≤ n ∧ i ≤ 60 ∧ z = .int .i64 i ∧ ∃ own D C, PlS w v own D (9 * i) C off bl xb wr ∧ Blk wr w.heap.size #[.int .u8 po, .int .u64 pk, .int .u64 px] 37 ∧ own w.heap.size = none) (fun z _ => n - (intOf z).toNat)
  case atStart => exact ⟨0, by omega, by omega, rfl, _, _, _, S2.out, OX3.out, OF2.out⟩
  case round =>
    obtain ⟨i, hi, hi6, rfl, own, D, C, hs, hox, hof⟩ := hrel
    have R := Lib.hid hs; have OX := Lib.hid hox; have OF0 := Lib.hid hof
    clear hs S2 hox hof OX3 OF2
    by_cases hlt : i < n
    · have hi1 : (i : Int) < n := by omega
      obtain ⟨ab, aq, o, k, x, rfl, c0, c1, c2, b0, b1, b2⟩ := op_now HAA.out (HOP.out i hlt) R.out.bel
      by_cases h60 : i = 60
      · have hq : ((i : Int) == 60) = true := by simp; omega
        clear h60
        have R0 := Lib.hid (R.out.next (below_alloc wr (.cells #[.int .u8 o, .int .u64 k, .int .u64 x] 37)))
        have X0 := Lib.hid (OX.out.below (below_alloc wr (.cells #[.int .u8 o, .int .u64 k, .int .u64 x] 37)))
        have hcu := fun (wx : World) (h : BSt wx v own D 4 (9 * i) C off) => h.current
        have hpp := fun (wx : World) (h : BSt wx v own D 4 (9 * i) C off) => h.planPut pk hpk (px : Int)
        have hpd := fun (wx : World) (h : BSt wx v own D 4 (9 * i) C off) => h.planDel pk hpk
        have hrp := fun wx => r31Put_any (w := wx) (refC_ok (C := C) (off := off) R0.out.st.inv.bd (by omega)) pk hpk (px : Int)
        have hrd := fun wx => r31Delete_any (w := wx) (refC_ok (C := C) (off := off) R0.out.st.inv.bd (by omega)) pk
        have hl1 := putL_len C off pk (px : Int); have hl2 := delL_len C off pk
        obtain ⟨pl, hpl⟩ : ∃ l, putL C off pk px = l := ⟨_, rfl⟩
        obtain ⟨pe, hpe⟩ : ∃ l, putE C off pk = l := ⟨_, rfl⟩
        obtain ⟨dl, hdl⟩ : ∃ l, delL C off pk = l := ⟨_, rfl⟩
        obtain ⟨de, hde⟩ : ∃ l, delE C off pk = l := ⟨_, rfl⟩
        rw [hpl] at hpp hrp hl1; rw [hpe] at hpp hrp; rw [hdl] at hpd hrd hl2; rw [hde] at hpd hrd
        have HCU := Lib.hid hcu; have HTry := Lib.hid hpp; have HPD := Lib.hid hpd; have HRP := Lib.hid hrp; have HRD := Lib.hid hrd
        have HIN := Lib.hid (refC_info C off)
        have HPL := Lib.hid (fun wx u (l : List (Nat × Nat × Int)) (h : RdSl wx 3 u l.length (instrC l)) (hl : l.length ≤ 100000) => plain31_any u l h hl)
        have HSM := Lib.hid (fun wx u q (l : List (Nat × Nat × Int)) (h1 : RdSl wx 3 u l.length (instrC l)) (h2 : RdSl wx 3 q l.length (instrC l)) (hl : l.length ≤ 100000) => r10Same_same u q l h1 h2 hl)
        have qe1 : (pe == pe) = true := by simp
        have qe2 : (de == de) = true := by simp
        clear hcu hpp hpd hrp hrd hpl hpe hdl hde
        go_wp2_with fail
        (with_reducible refine (HCU.out _ R0.out.st).mono ?_)
        rintro e w20 ⟨rfl, row, b⟩
        have hcv := conv31 row
        obtain ⟨sb, hsb⟩ : ∃ s, str31 C = s := ⟨_, rfl⟩
        rw [hsb] at hcv
        (try simp only [World.size_alloc] at hcv)
        have R1 := Lib.hid (R0.out.next b); have X1 := Lib.hid (X0.out.below b)
        clear R0 X0
        clear b row
        have d0 := R1.out.bb.cell (i := 0) (v := .iface 56 (.pointer (some ⟨v.tb 0, 0, none⟩))) rfl
        have d1 := R1.out.bb.cell (i := 1) (v := .int .u64 off) rfl
        have d2 := X1.out.cell (i := 1) (v := .int .u64 pk) rfl
        have d3 := X1.out.cell (i := 2) (v := .int .u64 px) rfl
        go_wp2_with fail
        clear d0 d1 d2 d3 hcv
        (with_reducible refine (HTry.out _ R1.out.st).mono ?_)
        rintro e w21 ⟨pv, rfl, ha⟩
        have PV := Lib.hid ha.rd
        obtain ⟨pva, pvc, rfl⟩ := ha.slice
        have R2 := Lib.hid (R1.out.next ha.bel); have X2 := Lib.hid (X1.out.below ha.bel)
        clear R1 X1
        clear ha
        have d0 := R2.out.bb.cell (i := 0) (v := .iface 56 (.pointer (some ⟨v.tb 0, 0, none⟩))) rfl
        have d1 := R2.out.bb.cell (i := 1) (v := .int .u64 off) rfl
        have d2 := X2.out.cell (i := 1) (v := .int .u64 pk) rfl
        have d3 := X2.out.cell (i := 2) (v := .int .u64 px) rfl
        go_wp2_with fail
        clear d0 d1 d2 d3
        (with_reducible refine (HPD.out _ R2.out.st).mono ?_)
        rintro e w22 ⟨qv, rfl, ha⟩
        have QV := Lib.hid ha.rd
        obtain ⟨qva, qvc, rfl⟩ := ha.slice
        have R3 := Lib.hid (R2.out.next ha.bel); have X3 := Lib.hid (X2.out.below ha.bel)
        have PV := Lib.hid (PV.out.below ha.bel)
        clear R2 X2
        clear ha
        have d0 := R3.out.bb.cell (i := 0) (v := .iface 56 (.pointer (some ⟨v.tb 0, 0, none⟩))) rfl
        have d1 := R3.out.bb.cell (i := 1) (v := .int .u64 off) rfl
        have d2 := X3.out.cell (i := 1) (v := .int .u64 pk) rfl
        have d3 := X3.out.cell (i := 2) (v := .int .u64 px) rfl
        go_wp2_with (refine wpList_load_row rfl 32 (.tmp 9) rfl xb rfl 32 (refC C off) (0, 0) _ R3.out.xs Try.underlying32 rfl HIN.out ?_)
        clear d0 d1 d2 d3
        (with_reducible refine (HRP.out _).mono ?_)
        rintro e w23 ⟨rv, rfl, ha⟩
        have RV := Lib.hid ha.rd
        obtain ⟨rva, rvc, rfl⟩ := ha.slice
        have R4 := Lib.hid (R3.out.next ha.bel); have X4 := Lib.hid (X3.out.below ha.bel)
        have PV := Lib.hid (PV.out.below ha.bel)
        have QV := Lib.hid (QV.out.below ha.bel)
        clear R3 X3
        clear ha
        have d0 := R4.out.bb.cell (i := 0) (v := .iface 56 (.pointer (some ⟨v.tb 0, 0, none⟩))) rfl
        have d1 := R4.out.bb.cell (i := 1) (v := .int .u64 off) rfl
        have d2 := X4.out.cell (i := 1) (v := .int .u64 pk) rfl
        have d3 := X4.out.cell (i := 2) (v := .int .u64 px) rfl
        go_wp2_with (refine wpList_load_row rfl 32 (.tmp 9) rfl xb rfl 32 (refC C off) (0, 0) _ R4.out.xs Try.underlying32 rfl HIN.out ?_)
        clear d0 d1 d2 d3
        (with_reducible refine (HRD.out _).mono ?_)
        rintro e w24 ⟨tv, rfl, ha⟩
        have TV := Lib.hid ha.rd
        obtain ⟨tva, tvc, rfl⟩ := ha.slice
        have R5 := Lib.hid (R4.out.next ha.bel); have X5 := Lib.hid (X4.out.below ha.bel)
        have PV := Lib.hid (PV.out.below ha.bel)
        have QV := Lib.hid (QV.out.below ha.bel)
        have RV := Lib.hid (RV.out.below ha.bel)
        clear R4 X4
        clear ha
        go_wp2_with fail
        (with_reducible refine (HPL.out _ _ _ PV.out (by omega)).mono ?_)
        rintro e w25 ⟨ov, rfl, ha⟩
        have OV := Lib.hid ha.rd
        obtain ⟨ova, ovc, rfl⟩ := ha.slice
        have R6 := Lib.hid (R5.out.next ha.bel); have X6 := Lib.hid (X5.out.below ha.bel)
        have QV := Lib.hid (QV.out.below ha.bel)
        have RV := Lib.hid (RV.out.below ha.bel)
        have TV := Lib.hid (TV.out.below ha.bel)
        clear R5 X5
        clear ha
        go_wp2_with fail
        (with_reducible refine (HSM.out _ _ _ _ OV.out RV.out (by omega)).mono ?_)
        rintro e w26 ⟨rfl, b⟩
        have R7 := Lib.hid (R6.out.next b); have X7 := Lib.hid (X6.out.below b)
        have QV := Lib.hid (QV.out.below b)
        have TV := Lib.hid (TV.out.below b)
        clear R6 X6
        clear b OV RV PV
        go_wp2_with fail
        (with_reducible refine (HPL.out _ _ _ QV.out (by omega)).mono ?_)
        rintro e w27 ⟨ov, rfl, ha⟩
        have OV := Lib.hid ha.rd
        obtain ⟨ova2, ovc2, rfl⟩ := ha.slice
        have R8 := Lib.hid (R7.out.next ha.bel); have X8 := Lib.hid (X7.out.below ha.bel)
        have TV := Lib.hid (TV.out.below ha.bel)
        clear R7 X7
        clear ha
        go_wp2_with fail
        (with_reducible refine (HSM.out _ _ _ _ OV.out TV.out (by omega)).mono ?_)
        rintro e w28 ⟨rfl, b⟩
        have R9 := Lib.hid (R8.out.next b); have X9 := Lib.hid (X8.out.below b)
        clear R8 X8
        clear b OV TV QV
        go_wp2_with fail
        (with_reducible refine (HCU.out _ R9.out.st).mono ?_)
        rintro e w29 ⟨rfl, row, b⟩
        have hcv := conv31 row
        rw [hsb] at hcv
        have R10 := Lib.hid (R9.out.next b); have X10 := Lib.hid (X9.out.below b)
        clear R9 X9
        clear b row hsb
        have hsq : (sb.toList == sb.toList) = true := beq_self_eq_true _
        go_wp2_with fail
        go_ret
        exact ⟨rfl, R10.out.bel⟩
      · have hi7 : i < 60 := by omega
        have hq : ((i : Int) == 60) = false := by simp; omega
        have R4 := Lib.hid (R.out.next (below_alloc wr (.cells #[.int .u8 o, .int .u64 k, .int .u64 x] 37)))
        have OX4 := Lib.hid (OX.out.below (below_alloc wr (.cells #[.int .u8 o, .int .u64 k, .int .u64 x] 37)))
        have OB0 : Hid (Blk (wr.alloc (.cells #[.int .u8 o, .int .u64 k, .int .u64 x] 37)) wr.heap.size #[.int .u8 o, .int .u64 k, .int .u64 x] 37) := Blk.new wr _ _
        obtain ⟨y, hy9⟩ : ∃ y, y = 9 * i := ⟨_, rfl⟩
        rw [← hy9] at R4
        have hap := fun (wx : World) (h : BSt wx v own D 4 y C off) (hx : Blk wx xb (refC C off) 32) (hf : own xb = none) => apply31_any h hx hf (by omega) o k x b0 b1 b2
        obtain ⟨C', hC'⟩ : ∃ C', applyC C off o k x = C' := ⟨_, rfl⟩
        rw [hC'] at hap
        have HAP := Lib.hid hap
        have d0 := R4.out.bb.cell (i := 0) (v := .iface 56 (.pointer (some ⟨v.tb 0, 0, none⟩))) rfl
        have d1 := R4.out.bb.cell (i := 1) (v := .int .u64 off) rfl
        clear hap hC' h60 R
        go_wp2_with fail
        clear d0 d1
        (with_reducible refine (HAP.out _ R4.out.st R4.out.xs R4.out.fx).mono ?_)
        rintro e w5 hp
        obtain ⟨rfl, own', D', s5, hkeep⟩ := R4.out.step hp
        have S5 := Lib.hid s5
        have OX5 := Lib.hid (hkeep _ _ _ OX4.out OF0.out ON2.out)
        clear hp hkeep s5 R4 OB0
        go_wp2_with fail
        go_roundw
        case rel => exact ⟨i + 1, by omega, by omega, by go_num, own', D', C', S5.out.mono (by omega), OX5.out.1, OX5.out.2⟩
        case measure => simp [intOf]; omega
    · obtain rfl : i = n := by omega
      have R0 := Lib.hid R.out
      have X0 := Lib.hid OX.out
      have hcu := fun (wx : World) (h : BSt wx v own D 4 (9 * i) C off) => h.current
      have hpp := fun (wx : World) (h : BSt wx v own D 4 (9 * i) C off) => h.planPut pk hpk (px : Int)
      have hpd := fun (wx : World) (h : BSt wx v own D 4 (9 * i) C off) => h.planDel pk hpk
      have hrp := fun wx => r31Put_any (w := wx) (refC_ok (C := C) (off := off) R0.out.st.inv.bd (by omega)) pk hpk (px : Int)
      have hrd := fun wx => r31Delete_any (w := wx) (refC_ok (C := C) (off := off) R0.out.st.inv.bd (by omega)) pk
      have hl1 := putL_len C off pk (px : Int); have hl2 := delL_len C off pk
      obtain ⟨pl, hpl⟩ : ∃ l, putL C off pk px = l := ⟨_, rfl⟩
      obtain ⟨pe, hpe⟩ : ∃ l, putE C off pk = l := ⟨_, rfl⟩
      obtain ⟨dl, hdl⟩ : ∃ l, delL C off pk = l := ⟨_, rfl⟩
      obtain ⟨de, hde⟩ : ∃ l, delE C off pk = l := ⟨_, rfl⟩
      rw [hpl] at hpp hrp hl1; rw [hpe] at hpp hrp; rw [hdl] at hpd hrd hl2; rw [hde] at hpd hrd
      have HCU := Lib.hid hcu; have HTry := Lib.hid hpp; have HPD := Lib.hid hpd; have HRP := Lib.hid hrp; have HRD := Lib.hid hrd
      have HIN := Lib.hid (refC_info C off)
      have HPL := Lib.hid (fun wx u (l : List (Nat × Nat × Int)) (h : RdSl wx 3 u l.length (instrC l)) (hl : l.length ≤ 100000) => plain31_any u l h hl)
      have HSM := Lib.hid (fun wx u q (l : List (Nat × Nat × Int)) (h1 : RdSl wx 3 u l.length (instrC l)) (h2 : RdSl wx 3 q l.length (instrC l)) (hl : l.length ≤ 100000) => r10Same_same u q l h1 h2 hl)
      have qe1 : (pe == pe) = true := by simp
      have qe2 : (de == de) = true := by simp
      clear hcu hpp hpd hrp hrd hpl hpe hdl hde
      go_wp2_with fail
      (with_reducible refine (HCU.out _ R0.out.st).mono ?_)
      rintro e w20 ⟨rfl, row, b⟩
      have hcv := conv31 row
      obtain ⟨sb, hsb⟩ : ∃ s, str31 C = s := ⟨_, rfl⟩
      rw [hsb] at hcv
      (try simp only [World.size_alloc] at hcv)
      have R1 := Lib.hid (R0.out.next b); have X1 := Lib.hid (X0.out.below b)
      clear R0 X0
      clear b row
      have d0 := R1.out.bb.cell (i := 0) (v := .iface 56 (.pointer (some ⟨v.tb 0, 0, none⟩))) rfl
      have d1 := R1.out.bb.cell (i := 1) (v := .int .u64 off) rfl
      have d2 := X1.out.cell (i := 1) (v := .int .u64 pk) rfl
      have d3 := X1.out.cell (i := 2) (v := .int .u64 px) rfl
      go_wp2_with fail
      clear d0 d1 d2 d3 hcv
      (with_reducible refine (HTry.out _ R1.out.st).mono ?_)
      rintro e w21 ⟨pv, rfl, ha⟩
      have PV := Lib.hid ha.rd
      obtain ⟨pva, pvc, rfl⟩ := ha.slice
      have R2 := Lib.hid (R1.out.next ha.bel); have X2 := Lib.hid (X1.out.below ha.bel)
      clear R1 X1
      clear ha
      have d0 := R2.out.bb.cell (i := 0) (v := .iface 56 (.pointer (some ⟨v.tb 0, 0, none⟩))) rfl
      have d1 := R2.out.bb.cell (i := 1) (v := .int .u64 off) rfl
      have d2 := X2.out.cell (i := 1) (v := .int .u64 pk) rfl
      have d3 := X2.out.cell (i := 2) (v := .int .u64 px) rfl
      go_wp2_with fail
      clear d0 d1 d2 d3
      (with_reducible refine (HPD.out _ R2.out.st).mono ?_)
      rintro e w22 ⟨qv, rfl, ha⟩
      have QV := Lib.hid ha.rd
      obtain ⟨qva, qvc, rfl⟩ := ha.slice
      have R3 := Lib.hid (R2.out.next ha.bel); have X3 := Lib.hid (X2.out.below ha.bel)
      have PV := Lib.hid (PV.out.below ha.bel)
      clear R2 X2
      clear ha
      have d0 := R3.out.bb.cell (i := 0) (v := .iface 56 (.pointer (some ⟨v.tb 0, 0, none⟩))) rfl
      have d1 := R3.out.bb.cell (i := 1) (v := .int .u64 off) rfl
      have d2 := X3.out.cell (i := 1) (v := .int .u64 pk) rfl
      have d3 := X3.out.cell (i := 2) (v := .int .u64 px) rfl
      go_wp2_with (refine wpList_load_row rfl 32 (.tmp 9) rfl xb rfl 32 (refC C off) (0, 0) _ R3.out.xs Try.underlying32 rfl HIN.out ?_)
      clear d0 d1 d2 d3
      (with_reducible refine (HRP.out _).mono ?_)
      rintro e w23 ⟨rv, rfl, ha⟩
      have RV := Lib.hid ha.rd
      obtain ⟨rva, rvc, rfl⟩ := ha.slice
      have R4 := Lib.hid (R3.out.next ha.bel); have X4 := Lib.hid (X3.out.below ha.bel)
      have PV := Lib.hid (PV.out.below ha.bel)
      have QV := Lib.hid (QV.out.below ha.bel)
      clear R3 X3
      clear ha
      have d0 := R4.out.bb.cell (i := 0) (v := .iface 56 (.pointer (some ⟨v.tb 0, 0, none⟩))) rfl
      have d1 := R4.out.bb.cell (i := 1) (v := .int .u64 off) rfl
      have d2 := X4.out.cell (i := 1) (v := .int .u64 pk) rfl
      have d3 := X4.out.cell (i := 2) (v := .int .u64 px) rfl
      go_wp2_with (refine wpList_load_row rfl 32 (.tmp 9) rfl xb rfl 32 (refC C off) (0, 0) _ R4.out.xs Try.underlying32 rfl HIN.out ?_)
      clear d0 d1 d2 d3
      (with_reducible refine (HRD.out _).mono ?_)
      rintro e w24 ⟨tv, rfl, ha⟩
      have TV := Lib.hid ha.rd
      obtain ⟨tva, tvc, rfl⟩ := ha.slice
      have R5 := Lib.hid (R4.out.next ha.bel); have X5 := Lib.hid (X4.out.below ha.bel)
      have PV := Lib.hid (PV.out.below ha.bel)
      have QV := Lib.hid (QV.out.below ha.bel)
      have RV := Lib.hid (RV.out.below ha.bel)
      clear R4 X4
      clear ha
      go_wp2_with fail
      (with_reducible refine (HPL.out _ _ _ PV.out (by omega)).mono ?_)
      rintro e w25 ⟨ov, rfl, ha⟩
      have OV := Lib.hid ha.rd
      obtain ⟨ova, ovc, rfl⟩ := ha.slice
      have R6 := Lib.hid (R5.out.next ha.bel); have X6 := Lib.hid (X5.out.below ha.bel)
      have QV := Lib.hid (QV.out.below ha.bel)
      have RV := Lib.hid (RV.out.below ha.bel)
      have TV := Lib.hid (TV.out.below ha.bel)
      clear R5 X5
      clear ha
      go_wp2_with fail
      (with_reducible refine (HSM.out _ _ _ _ OV.out RV.out (by omega)).mono ?_)
      rintro e w26 ⟨rfl, b⟩
      have R7 := Lib.hid (R6.out.next b); have X7 := Lib.hid (X6.out.below b)
      have QV := Lib.hid (QV.out.below b)
      have TV := Lib.hid (TV.out.below b)
      clear R6 X6
      clear b OV RV PV
      go_wp2_with fail
      (with_reducible refine (HPL.out _ _ _ QV.out (by omega)).mono ?_)
      rintro e w27 ⟨ov, rfl, ha⟩
      have OV := Lib.hid ha.rd
      obtain ⟨ova2, ovc2, rfl⟩ := ha.slice
      have R8 := Lib.hid (R7.out.next ha.bel); have X8 := Lib.hid (X7.out.below ha.bel)
      have TV := Lib.hid (TV.out.below ha.bel)
      clear R7 X7
      clear ha
      go_wp2_with fail
      (with_reducible refine (HSM.out _ _ _ _ OV.out TV.out (by omega)).mono ?_)
      rintro e w28 ⟨rfl, b⟩
      have R9 := Lib.hid (R8.out.next b); have X9 := Lib.hid (X8.out.below b)
      clear R8 X8
      clear b OV TV QV
      go_wp2_with fail
      (with_reducible refine (HCU.out _ R9.out.st).mono ?_)
      rintro e w29 ⟨rfl, row, b⟩
      have hcv := conv31 row
      rw [hsb] at hcv
      have R10 := Lib.hid (R9.out.next b); have X10 := Lib.hid (X9.out.below b)
      clear R9 X9
      clear b row hsb
      have hsq : (sb.toList == sb.toList) = true := beq_self_eq_true _
      go_wp2_with fail
      go_ret
      exact ⟨rfl, R10.out.bel⟩
end
end Go.Proofs.Ytpkilmnppdbnkaa
