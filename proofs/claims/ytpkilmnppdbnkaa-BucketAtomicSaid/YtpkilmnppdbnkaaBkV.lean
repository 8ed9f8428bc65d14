/- The law's apply of a delete, of a get, of any call. -/
import Derived.Test.YtpkilmnppdbnkaaBkU
namespace Go.Proofs.Ytpkilmnppdbnkaa
open Go.RowKit
section
variable {w : World} {v : DV} {own : Nat → Option Role} {D : Dev} {y : Nat} {C : Nat → Int} {off xb : Nat}
set_option maxRecDepth 100000 in
set_option maxHeartbeats 16000000 in
theorem apply31_del (h : BSt w v own D 4 y C off) (hx : Blk w xb (refC C off) 32) (hf : own xb = none) (hy : y < 10000) (o k x : Nat) (ho : o < 256) (hk : k < 18446744073709551616) (_hxv : x < 18446744073709551616) (hm : o % 3 = 1) :
    Calls Try.prog 22 #[.pointer (some ⟨v.db, 0, none⟩), .agg #[.iface 56 (.pointer (some ⟨v.tb 0, 0, none⟩)), .int .u64 off], .pointer (some ⟨xb, 0, none⟩), .agg #[.int .u8 o, .int .u64 k, .int .u64 x]] w (ApPost w v own (y + 9) (delC C off k) off xb) := by
  have hl := h.hl
  have S0 : Hid (ApAt w v own own D y C C off xb #[.int .u8 o, .int .u64 k, .int .u64 x] ((w.alloc (.cells #[.iface 56 (.pointer (some ⟨v.tb 0, 0, none⟩)), .int .u64 off] 29)).alloc (.cells #[.int .u8 o, .int .u64 k, .int .u64 x] 37))) := ApAt.start h hx hf
  have HLT := Lib.hid h.dev.lt
  have G8 := Lib.hid h.h8
  have HRB := Lib.hid (refC_ok (C := C) (off := off) h.inv.bd (by omega))
  have HIN := Lib.hid (refC_info C off)
  have hm3 : (o : Int) % 3 = 1 := by omega
  have HRP := Lib.hid (fun wx => r31Delete_any (w := wx) HRB.out k)
  have HBP := Lib.hid (fun (wx : World) (hs : BSt wx v own D 4 y C off) => hs.del k hk (by omega))
  have HLK : Hid (lookI (delL C off k) C = delC C off k) := look_del C off k
  have HLN := Lib.hid (delL_len C off k); have HINB := Lib.hid (InB.del C off k (by omega))
  generalize delE C off k = pe at *
  generalize delL C off k = pl at *
  clear h hx hf hm
  go_enter Try.func22, Try.ntmps22
  have c0 := S0.out.b7.cell (i := 0) (v := .int .u8 o) rfl
  go_wp2_with fail
  clear c0
  have S1 := Lib.hid (S0.out.next ((Below.refl _ _).drew))
  clear S0
  refine wp_region_held (S := (fun wx => ApAt w v own own D y C C off xb #[.int .u8 o, .int .u64 k, .int .u64 x] wx)) (by kernel_rfl) ?_
  change wpAnyH _ _ _ _ _ _ _ _ (World.drew _)
  refine wpAnyH_take (i := 0) (v := .pointer (some ⟨xb, 0, none⟩)) rfl (by kernel_rfl) (by kernel_rfl) (by kernel_rfl) (fun _ _ _ h => h) (Or.inl ⟨by kernel_rfl, fun w _ => by go_simp⟩) S1.out ?_
  refine wpAnyH_take (i := 1) (v := .pointer (some ⟨xb, 0, none⟩)) rfl (by kernel_rfl) (by kernel_rfl) (by kernel_rfl) (fun _ _ _ h => h) (Or.inl ⟨by kernel_rfl, fun w _ => by go_simp⟩) S1.out ?_
  refine wpAnyH_take (i := 2) (v := .agg (refC C off)) rfl (by kernel_rfl) (by kernel_rfl) (by kernel_rfl) (fun _ _ _ h => h) (Or.inl ⟨by kernel_rfl, fun wx hx => exec_load_row 32 (.tmp 79) rfl xb rfl 32 (refC C off) (0, 0) _ hx.xs Try.underlying32 rfl HIN.out⟩) S1.out ?_
  refine wpAnyH_take (i := 3) (v := .pointer (some ⟨w.heap.size + 1, 1, none⟩)) rfl (by kernel_rfl) (by kernel_rfl) (by kernel_rfl) (fun _ _ _ h => h) (Or.inl ⟨by kernel_rfl, fun w _ => by go_simp⟩) S1.out ?_
  refine wpAnyH_take (i := 4) (v := .int .u64 k) rfl (by kernel_rfl) (by kernel_rfl) (by kernel_rfl) (fun _ _ _ h => h) (Or.inl ⟨by kernel_rfl, fun wx hx => (by have c := hx.b7.cell (i := 1) (v := .int .u64 k) rfl; go_simp)⟩) S1.out ?_
  refine wpAnyH_one (i := 5) (by kernel_rfl) rfl rfl (fun K hK => ?_)
  go_simp
  (with_reducible refine (HRP.out _).mono ?_)
  rintro e w4 ⟨pv, rfl, ha⟩
  have S2 := Lib.hid (S1.out.next ha.bel)
  go_simp
  refine hK _ _ ⟨S2.out, ?_⟩
  clear hK K
  refine wpAnyH_one (i := 6) (by kernel_rfl) rfl rfl (fun K hK => ?_)
  go_simp
  refine hK _ _ ⟨S2.out, ?_⟩
  clear hK K
  refine wpAnyH_take (i := 7) (v := pv) rfl (by kernel_rfl) (by kernel_rfl) (by kernel_rfl) (fun _ _ _ h => h) (Or.inl ⟨by kernel_rfl, fun w _ => by go_simp⟩) S2.out ?_
  refine wpAnyH_take (i := 8) (v := .int .i64 pe) rfl (by kernel_rfl) (by kernel_rfl) (by kernel_rfl) (fun _ _ _ h => h) (Or.inl ⟨by kernel_rfl, fun w _ => by go_simp⟩) S2.out ?_
  refine wpAnyH_one (i := 9) (by kernel_rfl) rfl rfl (fun K hK => ?_)
  go_simp
  refine hK _ _ ⟨S2.out, ?_⟩
  clear hK K
  refine wpAnyH_one (i := 10) (by kernel_rfl) rfl rfl (fun K hK => ?_)
  go_simp
  refine hK _ _ ⟨S2.out, ?_⟩
  clear hK K
  refine wpAnyH_done (by kernel_rfl) ?_ _
  have PA := Lib.hid ha
  obtain ⟨pa, pc, rfl⟩ := ha.slice
  clear ha
  have c0 := S2.out.b5.cell (i := 0) (v := .iface 56 (.pointer (some ⟨v.tb 0, 0, none⟩))) rfl
  have c1 := S2.out.b5.cell (i := 1) (v := .int .u64 off) rfl
  have c2 := S2.out.b7.cell (i := 1) (v := .int .u64 k) rfl
  have c3 := S2.out.b7.cell (i := 2) (v := .int .u64 x) rfl
  go_wp2_with fail
  clear c0 c1 c2 c3
  (with_reducible refine (HBP.out _ S2.out.st).mono ?_)
  rintro e w5 ⟨rfl, own2, D2, s2, o2, u2⟩
  have S3 := Lib.hid (S2.out.step s2 o2 u2)
  have PR := Lib.hid (PA.out.own.upd u2 (fun g hg => by have h1 := PA.out.new g hg; have h2 := S1.out.up.size; cases e : own g with | none => simp | some r => have := HLT.out g (by rw [e]; simp); omega)).rd
  clear s2 o2 u2
  have hrun := r31Run_any (w := w5) C off G8.out (by omega) (.slice pa pl.length pc) pl PR.out HINB.out (by have := HLN.out; omega)
  rw [HLK.out] at hrun
  have HRUN := Lib.hid hrun
  have HI1 := Lib.hid (refC_info C off); have HI2 := Lib.hid (refC_info (delC C off k) off); have HO2 := Lib.hid (refC_one (delC C off k) off); have HZ2 : Hid ((refC C off).size = (refC (delC C off k) off).size) := rfl
  clear hrun
  generalize delC C off k = C' at *
  go_wp2_with (refine wpList_load_row rfl 32 (.tmp 94) rfl xb rfl 32 (refC C off) (0, 0) _ S3.out.xs Try.underlying32 rfl HI1.out ?_)
  (with_reducible refine HRUN.out.mono ?_)
  rintro e w6 ⟨rfl, b6⟩
  have S4 := Lib.hid (S3.out.next b6)
  have S5 := Lib.hid S4.out.setX
  clear b6 S3
  have HW := Lib.hid (wds_range S5.out.xs); have HWI := Lib.hid (wds_info C' off); have HIX := Lib.hid (fun i hi wx => wds_index C' off i hi wx)
  go_wp2_with (first | (refine wpList_store_row rfl 32 (.tmp 98) (.tmp 97) rfl xb (refC C' off) rfl rfl 32 (refC C off) S4.out.xs HI2.out HZ2.out HO2.out ?_) | (refine wpList_load_mid rfl 30 (.tmp 101) rfl xb 1 rfl (wdsL C' off) _ HW.out Try.underlying30 rfl HWI.out ?_))
  generalize (wdsL C' off).toArray = AV at *
  generalize w6.setRow xb (refC C' off) = w7 at *
  clear S4 HW HWI HZ2 HO2 HI2 HI1 HRUN PR
  have HT1 := Lib.hid (fun wx (hx : IsDev wx v own2 D2) => thread1_any hx)
  have HL1 : Hid (∀ (wx : World) (i : Nat), i < 16 → IsDev wx v own2 D2 → Calls Try.prog 53 #[.pointer (some ⟨v.tb 1, 0, none⟩), .int .u64 ((off : Int) + 8 * (i : Int))] wx fun r w' => r = .returned (.int .u64 (C' (off / 8 + i))) ∧ wx = w') := fun wx i hi hx => by
    have hl := S5.out.st.ok.hl
    have h8 := S5.out.st.h8
    have hc := S5.out.st.cl.cur
    have := load_ok hx (j := 1) (by omega) (off + 8 * i) S5.out.st.ok.of (by omega) (by omega)
    rw [show (off + 8 * i) / 8 = off / 8 + i by omega, hc, show ((off + 8 * i : Nat) : Int) = (off : Int) + 8 * (i : Int) by omega] at this
    exact this
  have HDT := Lib.hid (fun wx (hx : IsDev wx v own2 D2) => dirty_any hx)
  have HDL := Lib.hid (clean_dirty S5.out.st.cl)
  go_loopw [103] (fun z wr => ∃ i : Nat, i ≤ 16 ∧ z = .int .i64 i ∧ ApAt w v own own2 D2 (y + 9) C' C' off xb #[.int .u8 o, .int .u64 k, .int .u64 x] wr) (fun z _ => 16 - (intOf z).toNat)
  case atStart => exact ⟨0, by omega, rfl, S5.out⟩
  case round =>
    obtain ⟨i, hi, rfl, hs⟩ := hrel
    have R := Lib.hid hs
    clear hs S5
    by_cases hlt : i < 16
    · have hi1 : (i : Int) < 16 := by omega
      have hix := HIX.out i hlt
      have HL2 := Lib.hid (fun wx hx => HL1.out wx i hlt hx)
      generalize hcv : C' (off / 8 + i) = cv at *
      clear hcv HIX HL1
      have R4 := Lib.hid (R.out.next ((Below.refl _ _).drew))
      by_cases h1 : i = 1
      · have hq : ((i : Int) != 1) = false := by simp; omega
        clear h1
        go_wp2_with fail
        refine wp_region_held (S := (fun wx => Blk wx xb (refC C' off) 32)) (by kernel_rfl) ?_
        change wpAnyH _ _ _ _ _ _ _ _ (World.drew _)
        refine wpAnyH_take (i := 0) (v := .int .i64 i) rfl (by kernel_rfl) (by kernel_rfl) (by kernel_rfl) (fun _ _ _ h => h) (Or.inl ⟨by kernel_rfl, fun w _ => by go_simp⟩) R4.out.xs ?_
        refine wpAnyH_take (i := 1) (v := .bool false) rfl (by kernel_rfl) (by kernel_rfl) (by kernel_rfl) (fun _ _ _ h => h) (Or.inl ⟨by kernel_rfl, fun w _ => by go_simp⟩) R4.out.xs ?_
        refine wpAnyH_take (i := 2) (v := .bool false) rfl (by kernel_rfl) (by kernel_rfl) (by kernel_rfl) (fun _ _ _ h => h) (Or.inl ⟨by kernel_rfl, fun w _ => by go_simp⟩) R4.out.xs ?_
        refine wpAnyH_take (i := 3) (v := undef) rfl (by kernel_rfl) (by kernel_rfl) (by kernel_rfl) (fun _ _ _ h => h) (Or.inr ⟨by kernel_rfl, rfl⟩) R4.out.xs ?_
        refine wpAnyH_take (i := 4) (v := undef) rfl (by kernel_rfl) (by kernel_rfl) (by kernel_rfl) (fun _ _ _ h => h) (Or.inr ⟨by kernel_rfl, rfl⟩) R4.out.xs ?_
        refine wpAnyH_take (i := 5) (v := undef) rfl (by kernel_rfl) (by kernel_rfl) (by kernel_rfl) (fun _ _ _ h => h) (Or.inr ⟨by kernel_rfl, rfl⟩) R4.out.xs ?_
        refine wpAnyH_take (i := 6) (v := undef) rfl (by kernel_rfl) (by kernel_rfl) (by kernel_rfl) (fun _ _ _ h => h) (Or.inr ⟨by kernel_rfl, rfl⟩) R4.out.xs ?_
        refine wpAnyH_take (i := 7) (v := undef) rfl (by kernel_rfl) (by kernel_rfl) (by kernel_rfl) (fun _ _ _ h => h) (Or.inr ⟨by kernel_rfl, rfl⟩) R4.out.xs ?_
        refine wpAnyH_take (i := 8) (v := undef) rfl (by kernel_rfl) (by kernel_rfl) (by kernel_rfl) (fun _ _ _ h => h) (Or.inr ⟨by kernel_rfl, rfl⟩) R4.out.xs ?_
        refine wpAnyH_take (i := 9) (v := undef) rfl (by kernel_rfl) (by kernel_rfl) (by kernel_rfl) (fun _ _ _ h => h) (Or.inr ⟨by kernel_rfl, rfl⟩) R4.out.xs ?_
        refine wpAnyH_take (i := 10) (v := undef) rfl (by kernel_rfl) (by kernel_rfl) (by kernel_rfl) (fun _ _ _ h => h) (Or.inr ⟨by kernel_rfl, rfl⟩) R4.out.xs ?_
        refine wpAnyH_take (i := 11) (v := undef) rfl (by kernel_rfl) (by kernel_rfl) (by kernel_rfl) (fun _ _ _ h => h) (Or.inr ⟨by kernel_rfl, rfl⟩) R4.out.xs ?_
        refine wpAnyH_take (i := 12) (v := undef) rfl (by kernel_rfl) (by kernel_rfl) (by kernel_rfl) (fun _ _ _ h => h) (Or.inr ⟨by kernel_rfl, rfl⟩) R4.out.xs ?_
        refine wpAnyH_take (i := 13) (v := undef) rfl (by kernel_rfl) (by kernel_rfl) (by kernel_rfl) (fun _ _ _ h => h) (Or.inr ⟨by kernel_rfl, rfl⟩) R4.out.xs ?_
        refine wpAnyH_take (i := 14) (v := undef) rfl (by kernel_rfl) (by kernel_rfl) (by kernel_rfl) (fun _ _ _ h => h) (Or.inr ⟨by kernel_rfl, rfl⟩) R4.out.xs ?_
        refine wpAnyH_take (i := 15) (v := undef) rfl (by kernel_rfl) (by kernel_rfl) (by kernel_rfl) (fun _ _ _ h => h) (Or.inr ⟨by kernel_rfl, rfl⟩) R4.out.xs ?_
        refine wpAnyH_one (i := 16) (by kernel_rfl) rfl rfl (fun K hK => ?_)
        go_simp
        refine hK _ _ ⟨R4.out.xs, ?_⟩
        clear hK K
        refine wpAnyH_done (by kernel_rfl) ?_ _
        go_wp2_with fail
        go_roundw
        case rel => exact ⟨i + 1, by omega, by go_num, R4.out⟩
        case measure => simp [intOf]; omega
      · have hq : ((i : Int) != 1) = true := by simp; omega
        have q1 : IntKind.u64.wrap (i : Int) = (i : Int) := IntWalk.u64_in _ (by omega)
        have q2 : IntKind.u64.wrap (8 * (i : Int)) = 8 * (i : Int) := IntWalk.u64_in _ (by omega)
        have q3 : IntKind.u64.wrap ((off : Int) + 8 * (i : Int)) = (off : Int) + 8 * (i : Int) := IntWalk.u64_in _ (by omega)
        clear h1
        go_wp2_with fail
        refine wp_region_held (S := (fun wx => Blk wx xb (refC C' off) 32)) (by kernel_rfl) ?_
        change wpAnyH _ _ _ _ _ _ _ _ (World.drew _)
        refine wpAnyH_take (i := 0) (v := .int .i64 i) rfl (by kernel_rfl) (by kernel_rfl) (by kernel_rfl) (fun _ _ _ h => h) (Or.inl ⟨by kernel_rfl, fun w _ => by go_simp⟩) R4.out.xs ?_
        refine wpAnyH_take (i := 1) (v := .bool true) rfl (by kernel_rfl) (by kernel_rfl) (by kernel_rfl) (fun _ _ _ h => h) (Or.inl ⟨by kernel_rfl, fun w _ => by go_simp⟩) R4.out.xs ?_
        refine wpAnyH_take (i := 2) (v := .bool true) rfl (by kernel_rfl) (by kernel_rfl) (by kernel_rfl) (fun _ _ _ h => h) (Or.inl ⟨by kernel_rfl, fun w _ => by go_simp⟩) R4.out.xs ?_
        refine wpAnyH_take (i := 3) (v := .pointer (some ⟨v.db, 0, none⟩)) rfl (by kernel_rfl) (by kernel_rfl) (by kernel_rfl) (fun _ _ _ h => h) (Or.inl ⟨by kernel_rfl, fun w _ => by go_simp⟩) R4.out.xs ?_
        refine wpAnyH_take (i := 5) (v := .pointer (some ⟨xb, 0, none⟩)) rfl (by kernel_rfl) (by kernel_rfl) (by kernel_rfl) (fun _ _ _ h => h) (Or.inl ⟨by kernel_rfl, fun w _ => by go_simp⟩) R4.out.xs ?_
        refine wpAnyH_take (i := 6) (v := .pointer (some ⟨xb, 0, none⟩)) rfl (by kernel_rfl) (by kernel_rfl) (by kernel_rfl) (fun _ _ _ h => h) (Or.inl ⟨by kernel_rfl, fun w _ => by go_simp⟩) R4.out.xs ?_
        refine wpAnyH_take (i := 7) (v := .pointer (some ⟨xb, 0, none⟩)) rfl (by kernel_rfl) (by kernel_rfl) (by kernel_rfl) (fun _ _ _ h => h) (Or.inl ⟨by kernel_rfl, fun w _ => by go_simp⟩) R4.out.xs ?_
        refine wpAnyH_take (i := 8) (v := .int .u64 off) rfl (by kernel_rfl) (by kernel_rfl) (by kernel_rfl) (fun _ _ _ h => h) (Or.inl ⟨by kernel_rfl, fun wx hx => (by have c := hx.cell (i := 0) (v := .int .u64 off) rfl; go_simp)⟩) R4.out.xs ?_
        refine wpAnyH_take (i := 9) (v := .int .i64 i) rfl (by kernel_rfl) (by kernel_rfl) (by kernel_rfl) (fun _ _ _ h => h) (Or.inl ⟨by kernel_rfl, fun w _ => by go_simp⟩) R4.out.xs ?_
        refine wpAnyH_take (i := 10) (v := .int .u64 i) rfl (by kernel_rfl) (by kernel_rfl) (by kernel_rfl) (fun _ _ _ h => h) (Or.inl ⟨by kernel_rfl, fun w _ => by go_simp⟩) R4.out.xs ?_
        refine wpAnyH_take (i := 11) (v := .int .u64 (8 * (i : Int))) rfl (by kernel_rfl) (by kernel_rfl) (by kernel_rfl) (fun _ _ _ h => h) (Or.inl ⟨by kernel_rfl, fun w _ => by go_simp⟩) R4.out.xs ?_
        refine wpAnyH_take (i := 12) (v := .int .u64 ((off : Int) + 8 * (i : Int))) rfl (by kernel_rfl) (by kernel_rfl) (by kernel_rfl) (fun _ _ _ h => h) (Or.inl ⟨by kernel_rfl, fun w _ => by go_simp⟩) R4.out.xs ?_
        refine wpAnyH_take (i := 14) (v := .int .u64 cv) rfl (by kernel_rfl) (by kernel_rfl) (by kernel_rfl) (fun _ _ _ h => h) (Or.inl ⟨by kernel_rfl, fun w _ => by go_simp⟩) R4.out.xs ?_
        refine wpAnyH_one (i := 4) (by kernel_rfl) rfl (by kernel_rfl) (fun K hK => ?_)
        go_simp
        (with_reducible refine (HT1.out _ R4.out.st.dev).mono ?_)
        rintro e w8 ⟨rfl, rfl⟩
        go_simp
        refine hK _ _ ⟨R4.out.xs, ?_⟩
        clear hK K
        refine wpAnyH_one (i := 13) (by kernel_rfl) rfl (by kernel_rfl) (fun K hK => ?_)
        go_simp
        (with_reducible refine (HL2.out _ R4.out.st.dev).mono ?_)
        rintro e w8 ⟨rfl, rfl⟩
        go_simp
        refine hK _ _ ⟨R4.out.xs, ?_⟩
        clear hK K
        refine wpAnyH_one (i := 15) (by kernel_rfl) rfl (by kernel_rfl) (fun K hK => ?_)
        go_simp
        refine hK _ _ ⟨R4.out.xs, ?_⟩
        clear hK K
        refine wpAnyH_one (i := 16) (by kernel_rfl) rfl rfl (fun K hK => ?_)
        go_simp
        refine hK _ _ ⟨R4.out.xs, ?_⟩
        clear hK K
        refine wpAnyH_done (by kernel_rfl) ?_ _
        go_wp2_with fail
        go_roundw
        case rel => exact ⟨i + 1, by omega, by go_num, R4.out⟩
        case measure => simp [intOf]; omega
    · obtain rfl : i = 16 := by omega
      go_wp2_with fail
      (with_reducible refine (HDT.out _ R.out.st.dev).mono ?_)
      rintro e w9 ⟨sv, rfl, hacc⟩
      have R9 := Lib.hid (R.out.next hacc.bel)
      rw [HDL.out] at hacc
      obtain ⟨sa, sc, rfl⟩ := hacc.slice
      clear hacc
      go_wp2_with fail
      go_ret
      exact R9.out.post
set_option maxRecDepth 100000 in
set_option maxHeartbeats 16000000 in
theorem apply31_get (h : BSt w v own D 4 y C off) (hx : Blk w xb (refC C off) 32) (hf : own xb = none) (_hy : y < 10000) (o k x : Nat) (ho : o < 256) (hk : k < 18446744073709551616) (_hxv : x < 18446744073709551616) (hm : o % 3 = 2) :
    Calls Try.prog 22 #[.pointer (some ⟨v.db, 0, none⟩), .agg #[.iface 56 (.pointer (some ⟨v.tb 0, 0, none⟩)), .int .u64 off], .pointer (some ⟨xb, 0, none⟩), .agg #[.int .u8 o, .int .u64 k, .int .u64 x]] w (ApPost w v own y C off xb) := by
  have hl := h.hl
  have S0 : Hid (ApAt w v own own D y C C off xb #[.int .u8 o, .int .u64 k, .int .u64 x] ((w.alloc (.cells #[.iface 56 (.pointer (some ⟨v.tb 0, 0, none⟩)), .int .u64 off] 29)).alloc (.cells #[.int .u8 o, .int .u64 k, .int .u64 x] 37))) := ApAt.start h hx hf
  have HRB := Lib.hid (refC_ok (C := C) (off := off) h.inv.bd (by omega))
  have HIN := Lib.hid (refC_info C off)
  have hm3 : (o : Int) % 3 = 2 := by omega
  have hgt := fun (wx : World) (hs : BSt wx v own D 4 y C off) => hs.get k hk
  have hfd := fun wx => r31Find_any (w := wx) HRB.out k
  unfold getV getE at hgt
  clear h hx hf hm
  rcases fnd_cases C off k with ⟨e, _⟩ | ⟨s, e, hs7, _⟩
  · simp only [e, if_neg (show ¬ (0:Int) ≤ -1 by decide)] at hgt hfd
    have HGT := Lib.hid hgt; have HFD := Lib.hid hfd
    clear hgt hfd e
    go_enter Try.func22, Try.ntmps22
    have c0 := S0.out.b7.cell (i := 0) (v := .int .u8 o) rfl
    have c1 := S0.out.b7.cell (i := 1) (v := .int .u64 k) rfl
    have c2 := S0.out.b5.cell (i := 0) (v := .iface 56 (.pointer (some ⟨v.tb 0, 0, none⟩))) rfl
    have c3 := S0.out.b5.cell (i := 1) (v := .int .u64 off) rfl
    go_wp2_with fail
    clear c0 c1 c2 c3
    (with_reducible refine (HGT.out _ S0.out.st).mono ?_)
    rintro e w1 ⟨rfl, b1⟩
    have S1 := Lib.hid (S0.out.next b1)
    clear b1 S0
    go_wp2_with fail
    have S2 := Lib.hid (S1.out.next ((Below.refl _ _).drew))
    clear S1
    refine wp_region_held (S := (fun wx => ApAt w v own own D y C C off xb #[.int .u8 o, .int .u64 k, .int .u64 x] wx)) (by kernel_rfl) ?_
    change wpAnyH _ _ _ _ _ _ _ _ (World.drew _)
    refine wpAnyH_take (i := 0) (v := .pointer (some ⟨xb, 0, none⟩)) rfl (by kernel_rfl) (by kernel_rfl) (by kernel_rfl) (fun _ _ _ h => h) (Or.inl ⟨by kernel_rfl, fun w _ => by go_simp⟩) S2.out ?_
    refine wpAnyH_take (i := 1) (v := .pointer (some ⟨xb, 0, none⟩)) rfl (by kernel_rfl) (by kernel_rfl) (by kernel_rfl) (fun _ _ _ h => h) (Or.inl ⟨by kernel_rfl, fun w _ => by go_simp⟩) S2.out ?_
    refine wpAnyH_take (i := 2) (v := .agg (refC C off)) rfl (by kernel_rfl) (by kernel_rfl) (by kernel_rfl) (fun _ _ _ h => h) (Or.inl ⟨by kernel_rfl, fun wx hx => exec_load_row 32 (.tmp 27) rfl xb rfl 32 (refC C off) (0, 0) _ hx.xs Try.underlying32 rfl HIN.out⟩) S2.out ?_
    refine wpAnyH_take (i := 3) (v := .pointer (some ⟨w.heap.size + 1, 1, none⟩)) rfl (by kernel_rfl) (by kernel_rfl) (by kernel_rfl) (fun _ _ _ h => h) (Or.inl ⟨by kernel_rfl, fun w _ => by go_simp⟩) S2.out ?_
    refine wpAnyH_take (i := 4) (v := .int .u64 k) rfl (by kernel_rfl) (by kernel_rfl) (by kernel_rfl) (fun _ _ _ h => h) (Or.inl ⟨by kernel_rfl, fun wx hx => (by have c := hx.b7.cell (i := 1) (v := .int .u64 k) rfl; go_simp)⟩) S2.out ?_
    refine wpAnyH_one (i := 5) (by kernel_rfl) rfl rfl (fun K hK => ?_)
    go_simp
    (with_reducible refine (HFD.out _).mono ?_)
    rintro e w4 ⟨rfl, b4⟩
    have S3 := Lib.hid (S2.out.next b4)
    go_simp
    refine hK _ _ ⟨S3.out, ?_⟩
    clear hK K
    refine wpAnyH_one (i := 6) (by kernel_rfl) rfl rfl (fun K hK => ?_)
    go_simp
    refine hK _ _ ⟨S3.out, ?_⟩
    clear hK K
    refine wpAnyH_done (by kernel_rfl) ?_ _
    go_wp2_with fail
    go_ret
    exact S3.out.post
  · simp only [e, if_pos (show (0:Int) ≤ (s : Nat) by omega)] at hgt hfd
    rw [show ((s : Int)).toNat = s by omega] at hgt
    have HGT := Lib.hid hgt; have HFD := Lib.hid hfd
    have HCV : Hid (∀ wx, Blk wx xb (refC C off) 32 → wx.cell? ⟨xb, 1 + (3 + 2 * s), none⟩ = some (.int .u64 (bkV C off s))) := fun wx hx => by
      have := hx.cell (i := 1 + (3 + 2 * s)) (refC_wd C off (3 + 2 * s) (by omega))
      rw [show off / 8 + (3 + 2 * s) = off / 8 + 3 + 2 * s by omega] at this
      exact this
    generalize bkV C off s = bv at *
    clear hgt hfd e
    go_enter Try.func22, Try.ntmps22
    have c0 := S0.out.b7.cell (i := 0) (v := .int .u8 o) rfl
    have c1 := S0.out.b7.cell (i := 1) (v := .int .u64 k) rfl
    have c2 := S0.out.b5.cell (i := 0) (v := .iface 56 (.pointer (some ⟨v.tb 0, 0, none⟩))) rfl
    have c3 := S0.out.b5.cell (i := 1) (v := .int .u64 off) rfl
    go_wp2_with fail
    clear c0 c1 c2 c3
    (with_reducible refine (HGT.out _ S0.out.st).mono ?_)
    rintro e w1 ⟨rfl, b1⟩
    have S1 := Lib.hid (S0.out.next b1)
    clear b1 S0
    go_wp2_with fail
    have S2 := Lib.hid (S1.out.next ((Below.refl _ _).drew))
    clear S1
    refine wp_region_held (S := (fun wx => ApAt w v own own D y C C off xb #[.int .u8 o, .int .u64 k, .int .u64 x] wx)) (by kernel_rfl) ?_
    change wpAnyH _ _ _ _ _ _ _ _ (World.drew _)
    refine wpAnyH_take (i := 0) (v := .pointer (some ⟨xb, 0, none⟩)) rfl (by kernel_rfl) (by kernel_rfl) (by kernel_rfl) (fun _ _ _ h => h) (Or.inl ⟨by kernel_rfl, fun w _ => by go_simp⟩) S2.out ?_
    refine wpAnyH_take (i := 1) (v := .pointer (some ⟨xb, 0, none⟩)) rfl (by kernel_rfl) (by kernel_rfl) (by kernel_rfl) (fun _ _ _ h => h) (Or.inl ⟨by kernel_rfl, fun w _ => by go_simp⟩) S2.out ?_
    refine wpAnyH_take (i := 2) (v := .agg (refC C off)) rfl (by kernel_rfl) (by kernel_rfl) (by kernel_rfl) (fun _ _ _ h => h) (Or.inl ⟨by kernel_rfl, fun wx hx => exec_load_row 32 (.tmp 27) rfl xb rfl 32 (refC C off) (0, 0) _ hx.xs Try.underlying32 rfl HIN.out⟩) S2.out ?_
    refine wpAnyH_take (i := 3) (v := .pointer (some ⟨w.heap.size + 1, 1, none⟩)) rfl (by kernel_rfl) (by kernel_rfl) (by kernel_rfl) (fun _ _ _ h => h) (Or.inl ⟨by kernel_rfl, fun w _ => by go_simp⟩) S2.out ?_
    refine wpAnyH_take (i := 4) (v := .int .u64 k) rfl (by kernel_rfl) (by kernel_rfl) (by kernel_rfl) (fun _ _ _ h => h) (Or.inl ⟨by kernel_rfl, fun wx hx => (by have c := hx.b7.cell (i := 1) (v := .int .u64 k) rfl; go_simp)⟩) S2.out ?_
    refine wpAnyH_one (i := 5) (by kernel_rfl) rfl rfl (fun K hK => ?_)
    go_simp
    (with_reducible refine (HFD.out _).mono ?_)
    rintro e w4 ⟨rfl, b4⟩
    have S3 := Lib.hid (S2.out.next b4)
    go_simp
    refine hK _ _ ⟨S3.out, ?_⟩
    clear hK K
    refine wpAnyH_one (i := 6) (by kernel_rfl) rfl rfl (fun K hK => ?_)
    go_simp
    refine hK _ _ ⟨S3.out, ?_⟩
    clear hK K
    refine wpAnyH_done (by kernel_rfl) ?_ _
    have cv := HCV.out _ S3.out.xs
    have g4 : (3 : Int) + 2 * (s : Int) < 16 := by omega
    go_wp2_with fail
    go_ret
    exact S3.out.post
theorem BSt.mono31 {n y' : Nat} (h : BSt w v own D n y C off) (hy : y ≤ y') : BSt w v own D n y' C off := ⟨h.dev, h.cl.mono hy, h.inv, h.h8, h.hl⟩
theorem apply31_any (h : BSt w v own D 4 y C off) (hx : Blk w xb (refC C off) 32) (hf : own xb = none) (hy : y < 10000) (o k x : Nat) (ho : o < 256) (hk : k < 18446744073709551616) (hxv : x < 18446744073709551616) :
    Calls Try.prog 22 #[.pointer (some ⟨v.db, 0, none⟩), .agg #[.iface 56 (.pointer (some ⟨v.tb 0, 0, none⟩)), .int .u64 off], .pointer (some ⟨xb, 0, none⟩), .agg #[.int .u8 o, .int .u64 k, .int .u64 x]] w (ApPost w v own (y + 9) (applyC C off o k x) off xb) := by
  unfold applyC
  by_cases h0 : o % 3 = 0
  · rw [if_pos h0]; exact apply31_put h hx hf hy o k x ho hk hxv h0
  · rw [if_neg h0]
    by_cases h1 : o % 3 = 1
    · rw [if_pos h1]; exact apply31_del h hx hf hy o k x ho hk hxv h1
    · rw [if_neg h1]
      refine (apply31_get h hx hf hy o k x ho hk hxv (by omega)).mono ?_
      rintro r w' ⟨e, own', D', s, b, f, o', u⟩
      exact ⟨e, own', D', s.mono31 (by omega), b, f, o', u⟩
end
end Go.Proofs.Ytpkilmnppdbnkaa
