/- The law's apply of layer 31. Printed by wip/genapply.py. -/
import Derived.Test.YtpkilmnppdbnkaaBkT
import Derived.Test.YtpkilmnppdbnkaaDevI
import Derived.Deep.MidRow
namespace Go.Proofs.Ytpkilmnppdbnkaa
open Go.RowKit

/-- The words behind a call. -/
def applyC (C : Nat → Int) (off o k : Nat) (x : Int) : Nat → Int := if o % 3 = 0 then putC C off k x else if o % 3 = 1 then delC C off k else C
/-- The sixteen words as values. -/
def wdsL (C : Nat → Int) (off : Nat) : List Value := (refC C off).toList.drop 1
theorem wds_range {w : World} {b off : Nat} {C : Nat → Int} {t : TypeId} (h : Blk w b (refC C off) t) : w.rangeAt b 1 (wdsL C off) := by
  intro j u hu
  refine h.cell ?_
  unfold wdsL at hu
  rw [List.getElem?_drop] at hu
  rw [← Array.getElem?_toList]
  exact hu
theorem wds_info (C : Nat → Int) (off : Nat) : (Try.prog.info? 30).map (·.size) = some (wdsL C off).length := by show _ = some 16; kernel_rfl
theorem wds_index (C : Nat → Int) (off i : Nat) (hi : i < 16) (wx : World) : (Instr.index 30 (.agg (wdsL C off).toArray) (.int .i64 (i : Int))).run Try.prog wx = .ok (.int .u64 (C (off / 8 + i))) wx := by
  obtain rfl | rfl | rfl | rfl | rfl | rfl | rfl | rfl | rfl | rfl | rfl | rfl | rfl | rfl | rfl | rfl : i = 0 ∨ i = 1 ∨ i = 2 ∨ i = 3 ∨ i = 4 ∨ i = 5 ∨ i = 6 ∨ i = 7 ∨ i = 8 ∨ i = 9 ∨ i = 10 ∨ i = 11 ∨ i = 12 ∨ i = 13 ∨ i = 14 ∨ i = 15 := by omega
  all_goals kernel_rfl
theorem refC_info (C : Nat → Int) (off : Nat) : (Try.prog.info? 32).map (·.size) = some (refC C off).size := by show _ = some 17; kernel_rfl
theorem refC_one (C : Nat → Int) (off : Nat) : (refC C off).all (·.oneCell') = true := by simp [refC, Value.oneCell']
theorem clean_dirty {D : Dev} {n x : Nat} {C : Nat → Int} (h : BCl D n C x) : D.dirtyL = [] := by
  unfold Dev.dirtyL
  rw [List.filter_eq_nil_iff]
  intro l _
  rw [h.hist]
  simp
/-- apply's state: the device's bucket is of words C, the reference's of words E. -/
structure ApAt (w : World) (v : DV) (own0 own : Nat → Option Role) (D : Dev) (y : Nat) (C E : Nat → Int) (off xb : Nat) (OPC : Array Value) (wx : World) : Prop where
  st : BSt wx v own D 4 y C off
  xs : Blk wx xb (refC E off) 32
  b5 : Blk wx w.heap.size #[.iface 56 (.pointer (some ⟨v.tb 0, 0, none⟩)), .int .u64 off] 29
  b7 : Blk wx (w.heap.size + 1) OPC 37
  f5 : own w.heap.size = none
  f7 : own (w.heap.size + 1) = none
  fx : own xb = none
  lt : xb < w.heap.size
  ow : ∀ k, k < w.heap.size → own k = own0 k
  up : Upd (fun k => own0 k ≠ none ∨ k = xb) w wx
section
variable {w wx wy : World} {v : DV} {own0 own own' : Nat → Option Role} {D D' : Dev} {y y' : Nat} {C C' E : Nat → Int} {off xb : Nat} {OPC : Array Value}
theorem ApAt.next (h : ApAt w v own0 own D y C E off xb OPC wx) (hb : Below wx.heap.size wx wy) : ApAt w v own0 own D y C E off xb OPC wy :=
  ⟨h.st.below hb, h.xs.below hb, h.b5.below hb, h.b7.below hb, h.f5, h.f7, h.fx, h.lt, h.ow, h.up.trans (Upd.of_below (S := fun _ => False) hb) (fun _ _ f => f.elim)⟩
theorem ApAt.step (h : ApAt w v own0 own D y C E off xb OPC wx) (hs : BSt wy v own' D' 4 y' C' off) (ho : ∀ k, k < wx.heap.size → own' k = own k) (hu : Upd (fun k => own k ≠ none) wx wy) : ApAt w v own0 own' D' y' C' E off xb OPC wy := by
  refine ⟨hs, h.xs.upd hu (by rw [h.fx]; simp), h.b5.upd hu (by rw [h.f5]; simp), h.b7.upd hu (by rw [h.f7]; simp), by rw [ho _ h.b5.lt]; exact h.f5, by rw [ho _ h.b7.lt]; exact h.f7, by rw [ho _ h.xs.lt]; exact h.fx, h.lt,
    fun k hk => by rw [ho k (Nat.lt_of_lt_of_le hk h.up.size)]; exact h.ow k hk, h.up.trans hu (fun k hk hk2 => ?_)⟩
  rw [h.ow k hk] at hk2
  exact .inl hk2
theorem ApAt.setX (h : ApAt w v own0 own D y C E off xb OPC wx) : ApAt w v own0 own D y C C off xb OPC (wx.setRow xb (refC C off)) := by
  have hl := h.lt
  have hu : Upd (fun k => k = xb) wx (wx.setRow xb (refC C off)) := ⟨rfl, rfl, rfl, by simp [World.setRow], fun k hk hne => setRow_other _ _ _ _ hne⟩
  refine ⟨⟨h.st.dev.upd hu (fun k hk e => ?_), h.st.cl, h.st.inv, h.st.h8, h.st.hl⟩, setRow_heap _ _ (refC E off) _ 32 (0, 0) h.xs, h.b5.upd hu (by omega), h.b7.upd hu (by omega), h.f5, h.f7, h.fx, h.lt, h.ow, h.up.trans hu (fun k _ e => .inr e)⟩
  rw [e, h.fx] at hk; exact hk rfl
theorem ApAt.start (hs : BSt w v own0 D 4 y C off) (hx : Blk w xb (refC C off) 32) (hf : own0 xb = none) : ApAt w v own0 own0 D y C C off xb OPC ((w.alloc (.cells #[.iface 56 (.pointer (some ⟨v.tb 0, 0, none⟩)), .int .u64 off] 29)).alloc (.cells OPC 37)) := by
  have hno : ∀ k, w.heap.size ≤ k → own0 k = none := fun k hk => by
    cases e : own0 k with
    | none => rfl
    | some r => have := hs.dev.lt k (by rw [e]; simp); omega
  refine ⟨hs.below (below_twice w _ _), hx.below (below_twice w _ _), (Blk.new w _ _).alloc _, ?_, hno _ (Nat.le_refl _), hno _ (by omega), hf, hx.lt, fun _ _ => rfl, Upd.of_below (below_twice w _ _)⟩
  have := Blk.new (w.alloc (.cells #[.iface 56 (.pointer (some ⟨v.tb 0, 0, none⟩)), .int .u64 off] 29)) OPC 37
  rwa [World.size_alloc] at this
end
/-- What apply leaves. -/
def ApPost (w : World) (v : DV) (own0 : Nat → Option Role) (y : Nat) (C' : Nat → Int) (off xb : Nat) (r : Ending) (w' : World) : Prop :=
  r = .returned (.bool true) ∧ ∃ own' D', BSt w' v own' D' 4 y C' off ∧ Blk w' xb (refC C' off) 32 ∧ own' xb = none ∧ (∀ k, k < w.heap.size → own' k = own0 k) ∧ Upd (fun k => own0 k ≠ none ∨ k = xb) w w'
theorem ApAt.post {w : World} {v : DV} {own0 own : Nat → Option Role} {D : Dev} {y : Nat} {C : Nat → Int} {off xb : Nat} {OPC : Array Value} {wx : World} (h : ApAt w v own0 own D y C C off xb OPC wx) : ApPost w v own0 y C off xb (.returned (.bool true)) wx :=
  ⟨rfl, own, D, h.st, h.xs, h.fx, h.ow, h.up⟩
section
variable {w : World} {v : DV} {own : Nat → Option Role} {D : Dev} {y : Nat} {C : Nat → Int} {off xb : Nat}
set_option maxRecDepth 100000 in
set_option maxHeartbeats 16000000 in
theorem apply31_put (h : BSt w v own D 4 y C off) (hx : Blk w xb (refC C off) 32) (hf : own xb = none) (hy : y < 10000) (o k x : Nat) (ho : o < 256) (hk : k < 18446744073709551616) (hxv : x < 18446744073709551616) (hm : o % 3 = 0) :
    Calls Try.prog 22 #[.pointer (some ⟨v.db, 0, none⟩), .agg #[.iface 56 (.pointer (some ⟨v.tb 0, 0, none⟩)), .int .u64 off], .pointer (some ⟨xb, 0, none⟩), .agg #[.int .u8 o, .int .u64 k, .int .u64 x]] w (ApPost w v own (y + 9) (putC C off k x) off xb) := by
  have hl := h.hl
  have S0 : Hid (ApAt w v own own D y C C off xb #[.int .u8 o, .int .u64 k, .int .u64 x] ((w.alloc (.cells #[.iface 56 (.pointer (some ⟨v.tb 0, 0, none⟩)), .int .u64 off] 29)).alloc (.cells #[.int .u8 o, .int .u64 k, .int .u64 x] 37))) := ApAt.start h hx hf
  have HLT := Lib.hid h.dev.lt
  have G8 := Lib.hid h.h8
  have HRB := Lib.hid (refC_ok (C := C) (off := off) h.inv.bd (by omega))
  have HIN := Lib.hid (refC_info C off)
  have hm3 : (o : Int) % 3 = 0 := by omega
  have HRP := Lib.hid (fun wx => r31Put_any (w := wx) HRB.out k hk (x : Int))
  have HBP := Lib.hid (fun (wx : World) (hs : BSt wx v own D 4 y C off) => hs.put k hk (x : Int) (by omega) (by omega))
  have HLK : Hid (lookI (putL C off k x) C = putC C off k x) := look_put C off k x
  have HLN := Lib.hid (putL_len C off k x); have HINB := Lib.hid (InB.put C off k (x : Int) (by omega))
  generalize putE C off k = pe at *
  generalize putL C off k x = pl at *
  clear h hx hf hm
  go_enter Try.func22, Try.ntmps22
  have c0 := S0.out.b7.cell (i := 0) (v := .int .u8 o) rfl
  go_wp2_with fail
  clear c0
  have S1 := Lib.hid (S0.out.next ((Below.refl _ _).drew))
  clear S0
  refine wp_region_held (S := (fun wx => ApAt w v own own D y C C off xb #[.int .u8 o, .int .u64 k, .int .u64 x] wx)) (by kernel_rfl) ?_
  change wpAnyH _ _ _ _ _ _ _ _ (World.drew _)
  refine wpAnyH_take (i := 0) (v := .pointer (some ⟨xb, 0, none⟩)) rfl (by kernel_rfl) (by kernel_rfl) (by kernel_rfl) (fun _ _ _ h => h) (Or.inl ⟨by kernel_rfl, fun w _ => by go_simp⟩) S1.out ?_
  refine wpAnyH_take (i := 1) (v := .pointer (some ⟨xb, 0, none⟩)) rfl (by kernel_rfl) (by kernel_rfl) (by kernel_rfl) (fun _ _ _ h => h) (Or.inl ⟨by kernel_rfl, fun w _ => by go_simp⟩) S1.out ?_
  refine wpAnyH_take (i := 2) (v := .agg (refC C off)) rfl (by kernel_rfl) (by kernel_rfl) (by kernel_rfl) (fun _ _ _ h => h) (Or.inl ⟨by kernel_rfl, fun wx hx => exec_load_row 32 (.tmp 58) rfl xb rfl 32 (refC C off) (0, 0) _ hx.xs Try.underlying32 rfl HIN.out⟩) S1.out ?_
  refine wpAnyH_take (i := 3) (v := .pointer (some ⟨w.heap.size + 1, 1, none⟩)) rfl (by kernel_rfl) (by kernel_rfl) (by kernel_rfl) (fun _ _ _ h => h) (Or.inl ⟨by kernel_rfl, fun w _ => by go_simp⟩) S1.out ?_
  refine wpAnyH_take (i := 4) (v := .int .u64 k) rfl (by kernel_rfl) (by kernel_rfl) (by kernel_rfl) (fun _ _ _ h => h) (Or.inl ⟨by kernel_rfl, fun wx hx => (by have c := hx.b7.cell (i := 1) (v := .int .u64 k) rfl; go_simp)⟩) S1.out ?_
  refine wpAnyH_take (i := 5) (v := .pointer (some ⟨w.heap.size + 1, 2, none⟩)) rfl (by kernel_rfl) (by kernel_rfl) (by kernel_rfl) (fun _ _ _ h => h) (Or.inl ⟨by kernel_rfl, fun w _ => by go_simp⟩) S1.out ?_
  refine wpAnyH_take (i := 6) (v := .int .u64 x) rfl (by kernel_rfl) (by kernel_rfl) (by kernel_rfl) (fun _ _ _ h => h) (Or.inl ⟨by kernel_rfl, fun wx hx => (by have c := hx.b7.cell (i := 2) (v := .int .u64 x) rfl; go_simp)⟩) S1.out ?_
  refine wpAnyH_one (i := 7) (by kernel_rfl) rfl rfl (fun K hK => ?_)
  go_simp
  (with_reducible refine (HRP.out _).mono ?_)
  rintro e w4 ⟨pv, rfl, ha⟩
  have S2 := Lib.hid (S1.out.next ha.bel)
  go_simp
  refine hK _ _ ⟨S2.out, ?_⟩
  clear hK K
  refine wpAnyH_one (i := 8) (by kernel_rfl) rfl rfl (fun K hK => ?_)
  go_simp
  refine hK _ _ ⟨S2.out, ?_⟩
  clear hK K
  refine wpAnyH_take (i := 9) (v := pv) rfl (by kernel_rfl) (by kernel_rfl) (by kernel_rfl) (fun _ _ _ h => h) (Or.inl ⟨by kernel_rfl, fun w _ => by go_simp⟩) S2.out ?_
  refine wpAnyH_take (i := 10) (v := .int .i64 pe) rfl (by kernel_rfl) (by kernel_rfl) (by kernel_rfl) (fun _ _ _ h => h) (Or.inl ⟨by kernel_rfl, fun w _ => by go_simp⟩) S2.out ?_
  refine wpAnyH_one (i := 11) (by kernel_rfl) rfl rfl (fun K hK => ?_)
  go_simp
  refine hK _ _ ⟨S2.out, ?_⟩
  clear hK K
  refine wpAnyH_one (i := 12) (by kernel_rfl) rfl rfl (fun K hK => ?_)
  go_simp
  refine hK _ _ ⟨S2.out, ?_⟩
  clear hK K
  refine wpAnyH_done (by kernel_rfl) ?_ _
  have PA := Lib.hid ha
  obtain ⟨pa, pc, rfl⟩ := ha.slice
  clear ha
  have c0 := S2.out.b5.cell (i := 0) (v := .iface 56 (.pointer (some ⟨v.tb 0, 0, none⟩))) rfl
  have c1 := S2.out.b5.cell (i := 1) (v := .int .u64 off) rfl
  have c2 := S2.out.b7.cell (i := 1) (v := .int .u64 k) rfl
  have c3 := S2.out.b7.cell (i := 2) (v := .int .u64 x) rfl
  go_wp2_with fail
  clear c0 c1 c2 c3
  (with_reducible refine (HBP.out _ S2.out.st).mono ?_)
  rintro e w5 ⟨rfl, own2, D2, s2, o2, u2⟩
  have S3 := Lib.hid (S2.out.step s2 o2 u2)
  have PR := Lib.hid (PA.out.own.upd u2 (fun g hg => by have h1 := PA.out.new g hg; have h2 := S1.out.up.size; cases e : own g with | none => simp | some r => have := HLT.out g (by rw [e]; simp); omega)).rd
  clear s2 o2 u2
  have hrun := r31Run_any (w := w5) C off G8.out (by omega) (.slice pa pl.length pc) pl PR.out HINB.out (by have := HLN.out; omega)
  rw [HLK.out] at hrun
  have HRUN := Lib.hid hrun
  have HI1 := Lib.hid (refC_info C off); have HI2 := Lib.hid (refC_info (putC C off k x) off); have HO2 := Lib.hid (refC_one (putC C off k x) off); have HZ2 : Hid ((refC C off).size = (refC (putC C off k x) off).size) := rfl
  clear hrun
  generalize putC C off k x = C' at *
  go_wp2_with (refine wpList_load_row rfl 32 (.tmp 94) rfl xb rfl 32 (refC C off) (0, 0) _ S3.out.xs Try.underlying32 rfl HI1.out ?_)
  (with_reducible refine HRUN.out.mono ?_)
  rintro e w6 ⟨rfl, b6⟩
  have S4 := Lib.hid (S3.out.next b6)
  have S5 := Lib.hid S4.out.setX
  clear b6 S3
  have HW := Lib.hid (wds_range S5.out.xs); have HWI := Lib.hid (wds_info C' off); have HIX := Lib.hid (fun i hi wx => wds_index C' off i hi wx)
  go_wp2_with (first | (refine wpList_store_row rfl 32 (.tmp 98) (.tmp 97) rfl xb (refC C' off) rfl rfl 32 (refC C off) S4.out.xs HI2.out HZ2.out HO2.out ?_) | (refine wpList_load_mid rfl 30 (.tmp 101) rfl xb 1 rfl (wdsL C' off) _ HW.out Try.underlying30 rfl HWI.out ?_))
  generalize (wdsL C' off).toArray = AV at *
  generalize w6.setRow xb (refC C' off) = w7 at *
  clear S4 HW HWI HZ2 HO2 HI2 HI1 HRUN PR
  have HT1 := Lib.hid (fun wx (hx : IsDev wx v own2 D2) => thread1_any hx)
  have HL1 : Hid (∀ (wx : World) (i : Nat), i < 16 → IsDev wx v own2 D2 → Calls Try.prog 53 #[.pointer (some ⟨v.tb 1, 0, none⟩), .int .u64 ((off : Int) + 8 * (i : Int))] wx fun r w' => r = .returned (.int .u64 (C' (off / 8 + i))) ∧ wx = w') := fun wx i hi hx => by
    have hl := S5.out.st.ok.hl
    have h8 := S5.out.st.h8
    have hc := S5.out.st.cl.cur
    have := load_ok hx (j := 1) (by omega) (off + 8 * i) S5.out.st.ok.of (by omega) (by omega)
    rw [show (off + 8 * i) / 8 = off / 8 + i by omega, hc, show ((off + 8 * i : Nat) : Int) = (off : Int) + 8 * (i : Int) by omega] at this
    exact this
  have HDT := Lib.hid (fun wx (hx : IsDev wx v own2 D2) => dirty_any hx)
  have HDL := Lib.hid (clean_dirty S5.out.st.cl)
  go_loopw [103] (fun z wr => ∃ i : Nat, i ≤ 16 ∧ z = .int .i64 i ∧ ApAt w v own own2 D2 (y + 9) C' C' off xb #[.int .u8 o, .int .u64 k, .int .u64 x] wr) (fun z _ => 16 - (intOf z).toNat)
  case atStart => exact ⟨0, by omega, rfl, S5.out⟩
  case round =>
    obtain ⟨i, hi, rfl, hs⟩ := hrel
    have R := Lib.hid hs
    clear hs S5
    by_cases hlt : i < 16
    · have hi1 : (i : Int) < 16 := by omega
      have hix := HIX.out i hlt
      have HL2 := Lib.hid (fun wx hx => HL1.out wx i hlt hx)
      generalize hcv : C' (off / 8 + i) = cv at *
      clear hcv HIX HL1
      have R4 := Lib.hid (R.out.next ((Below.refl _ _).drew))
      by_cases h1 : i = 1
      · have hq : ((i : Int) != 1) = false := by simp; omega
        clear h1
        go_wp2_with fail
        refine wp_region_held (S := (fun wx => Blk wx xb (refC C' off) 32)) (by kernel_rfl) ?_
        change wpAnyH _ _ _ _ _ _ _ _ (World.drew _)
        refine wpAnyH_take (i := 0) (v := .int .i64 i) rfl (by kernel_rfl) (by kernel_rfl) (by kernel_rfl) (fun _ _ _ h => h) (Or.inl ⟨by kernel_rfl, fun w _ => by go_simp⟩) R4.out.xs ?_
        refine wpAnyH_take (i := 1) (v := .bool false) rfl (by kernel_rfl) (by kernel_rfl) (by kernel_rfl) (fun _ _ _ h => h) (Or.inl ⟨by kernel_rfl, fun w _ => by go_simp⟩) R4.out.xs ?_
        refine wpAnyH_take (i := 2) (v := .bool false) rfl (by kernel_rfl) (by kernel_rfl) (by kernel_rfl) (fun _ _ _ h => h) (Or.inl ⟨by kernel_rfl, fun w _ => by go_simp⟩) R4.out.xs ?_
        refine wpAnyH_take (i := 3) (v := undef) rfl (by kernel_rfl) (by kernel_rfl) (by kernel_rfl) (fun _ _ _ h => h) (Or.inr ⟨by kernel_rfl, rfl⟩) R4.out.xs ?_
        refine wpAnyH_take (i := 4) (v := undef) rfl (by kernel_rfl) (by kernel_rfl) (by kernel_rfl) (fun _ _ _ h => h) (Or.inr ⟨by kernel_rfl, rfl⟩) R4.out.xs ?_
        refine wpAnyH_take (i := 5) (v := undef) rfl (by kernel_rfl) (by kernel_rfl) (by kernel_rfl) (fun _ _ _ h => h) (Or.inr ⟨by kernel_rfl, rfl⟩) R4.out.xs ?_
        refine wpAnyH_take (i := 6) (v := undef) rfl (by kernel_rfl) (by kernel_rfl) (by kernel_rfl) (fun _ _ _ h => h) (Or.inr ⟨by kernel_rfl, rfl⟩) R4.out.xs ?_
        refine wpAnyH_take (i := 7) (v := undef) rfl (by kernel_rfl) (by kernel_rfl) (by kernel_rfl) (fun _ _ _ h => h) (Or.inr ⟨by kernel_rfl, rfl⟩) R4.out.xs ?_
        refine wpAnyH_take (i := 8) (v := undef) rfl (by kernel_rfl) (by kernel_rfl) (by kernel_rfl) (fun _ _ _ h => h) (Or.inr ⟨by kernel_rfl, rfl⟩) R4.out.xs ?_
        refine wpAnyH_take (i := 9) (v := undef) rfl (by kernel_rfl) (by kernel_rfl) (by kernel_rfl) (fun _ _ _ h => h) (Or.inr ⟨by kernel_rfl, rfl⟩) R4.out.xs ?_
        refine wpAnyH_take (i := 10) (v := undef) rfl (by kernel_rfl) (by kernel_rfl) (by kernel_rfl) (fun _ _ _ h => h) (Or.inr ⟨by kernel_rfl, rfl⟩) R4.out.xs ?_
        refine wpAnyH_take (i := 11) (v := undef) rfl (by kernel_rfl) (by kernel_rfl) (by kernel_rfl) (fun _ _ _ h => h) (Or.inr ⟨by kernel_rfl, rfl⟩) R4.out.xs ?_
        refine wpAnyH_take (i := 12) (v := undef) rfl (by kernel_rfl) (by kernel_rfl) (by kernel_rfl) (fun _ _ _ h => h) (Or.inr ⟨by kernel_rfl, rfl⟩) R4.out.xs ?_
        refine wpAnyH_take (i := 13) (v := undef) rfl (by kernel_rfl) (by kernel_rfl) (by kernel_rfl) (fun _ _ _ h => h) (Or.inr ⟨by kernel_rfl, rfl⟩) R4.out.xs ?_
        refine wpAnyH_take (i := 14) (v := undef) rfl (by kernel_rfl) (by kernel_rfl) (by kernel_rfl) (fun _ _ _ h => h) (Or.inr ⟨by kernel_rfl, rfl⟩) R4.out.xs ?_
        refine wpAnyH_take (i := 15) (v := undef) rfl (by kernel_rfl) (by kernel_rfl) (by kernel_rfl) (fun _ _ _ h => h) (Or.inr ⟨by kernel_rfl, rfl⟩) R4.out.xs ?_
        refine wpAnyH_one (i := 16) (by kernel_rfl) rfl rfl (fun K hK => ?_)
        go_simp
        refine hK _ _ ⟨R4.out.xs, ?_⟩
        clear hK K
        refine wpAnyH_done (by kernel_rfl) ?_ _
        go_wp2_with fail
        go_roundw
        case rel => exact ⟨i + 1, by omega, by go_num, R4.out⟩
        case measure => simp [intOf]; omega
      · have hq : ((i : Int) != 1) = true := by simp; omega
        have q1 : IntKind.u64.wrap (i : Int) = (i : Int) := IntWalk.u64_in _ (by omega)
        have q2 : IntKind.u64.wrap (8 * (i : Int)) = 8 * (i : Int) := IntWalk.u64_in _ (by omega)
        have q3 : IntKind.u64.wrap ((off : Int) + 8 * (i : Int)) = (off : Int) + 8 * (i : Int) := IntWalk.u64_in _ (by omega)
        clear h1
        go_wp2_with fail
        refine wp_region_held (S := (fun wx => Blk wx xb (refC C' off) 32)) (by kernel_rfl) ?_
        change wpAnyH _ _ _ _ _ _ _ _ (World.drew _)
        refine wpAnyH_take (i := 0) (v := .int .i64 i) rfl (by kernel_rfl) (by kernel_rfl) (by kernel_rfl) (fun _ _ _ h => h) (Or.inl ⟨by kernel_rfl, fun w _ => by go_simp⟩) R4.out.xs ?_
        refine wpAnyH_take (i := 1) (v := .bool true) rfl (by kernel_rfl) (by kernel_rfl) (by kernel_rfl) (fun _ _ _ h => h) (Or.inl ⟨by kernel_rfl, fun w _ => by go_simp⟩) R4.out.xs ?_
        refine wpAnyH_take (i := 2) (v := .bool true) rfl (by kernel_rfl) (by kernel_rfl) (by kernel_rfl) (fun _ _ _ h => h) (Or.inl ⟨by kernel_rfl, fun w _ => by go_simp⟩) R4.out.xs ?_
        refine wpAnyH_take (i := 3) (v := .pointer (some ⟨v.db, 0, none⟩)) rfl (by kernel_rfl) (by kernel_rfl) (by kernel_rfl) (fun _ _ _ h => h) (Or.inl ⟨by kernel_rfl, fun w _ => by go_simp⟩) R4.out.xs ?_
        refine wpAnyH_take (i := 5) (v := .pointer (some ⟨xb, 0, none⟩)) rfl (by kernel_rfl) (by kernel_rfl) (by kernel_rfl) (fun _ _ _ h => h) (Or.inl ⟨by kernel_rfl, fun w _ => by go_simp⟩) R4.out.xs ?_
        refine wpAnyH_take (i := 6) (v := .pointer (some ⟨xb, 0, none⟩)) rfl (by kernel_rfl) (by kernel_rfl) (by kernel_rfl) (fun _ _ _ h => h) (Or.inl ⟨by kernel_rfl, fun w _ => by go_simp⟩) R4.out.xs ?_
        refine wpAnyH_take (i := 7) (v := .pointer (some ⟨xb, 0, none⟩)) rfl (by kernel_rfl) (by kernel_rfl) (by kernel_rfl) (fun _ _ _ h => h) (Or.inl ⟨by kernel_rfl, fun w _ => by go_simp⟩) R4.out.xs ?_
        refine wpAnyH_take (i := 8) (v := .int .u64 off) rfl (by kernel_rfl) (by kernel_rfl) (by kernel_rfl) (fun _ _ _ h => h) (Or.inl ⟨by kernel_rfl, fun wx hx => (by have c := hx.cell (i := 0) (v := .int .u64 off) rfl; go_simp)⟩) R4.out.xs ?_
        refine wpAnyH_take (i := 9) (v := .int .i64 i) rfl (by kernel_rfl) (by kernel_rfl) (by kernel_rfl) (fun _ _ _ h => h) (Or.inl ⟨by kernel_rfl, fun w _ => by go_simp⟩) R4.out.xs ?_
        refine wpAnyH_take (i := 10) (v := .int .u64 i) rfl (by kernel_rfl) (by kernel_rfl) (by kernel_rfl) (fun _ _ _ h => h) (Or.inl ⟨by kernel_rfl, fun w _ => by go_simp⟩) R4.out.xs ?_
        refine wpAnyH_take (i := 11) (v := .int .u64 (8 * (i : Int))) rfl (by kernel_rfl) (by kernel_rfl) (by kernel_rfl) (fun _ _ _ h => h) (Or.inl ⟨by kernel_rfl, fun w _ => by go_simp⟩) R4.out.xs ?_
        refine wpAnyH_take (i := 12) (v := .int .u64 ((off : Int) + 8 * (i : Int))) rfl (by kernel_rfl) (by kernel_rfl) (by kernel_rfl) (fun _ _ _ h => h) (Or.inl ⟨by kernel_rfl, fun w _ => by go_simp⟩) R4.out.xs ?_
        refine wpAnyH_take (i := 14) (v := .int .u64 cv) rfl (by kernel_rfl) (by kernel_rfl) (by kernel_rfl) (fun _ _ _ h => h) (Or.inl ⟨by kernel_rfl, fun w _ => by go_simp⟩) R4.out.xs ?_
        refine wpAnyH_one (i := 4) (by kernel_rfl) rfl (by kernel_rfl) (fun K hK => ?_)
        go_simp
        (with_reducible refine (HT1.out _ R4.out.st.dev).mono ?_)
        rintro e w8 ⟨rfl, rfl⟩
        go_simp
        refine hK _ _ ⟨R4.out.xs, ?_⟩
        clear hK K
        refine wpAnyH_one (i := 13) (by kernel_rfl) rfl (by kernel_rfl) (fun K hK => ?_)
        go_simp
        (with_reducible refine (HL2.out _ R4.out.st.dev).mono ?_)
        rintro e w8 ⟨rfl, rfl⟩
        go_simp
        refine hK _ _ ⟨R4.out.xs, ?_⟩
        clear hK K
        refine wpAnyH_one (i := 15) (by kernel_rfl) rfl (by kernel_rfl) (fun K hK => ?_)
        go_simp
        refine hK _ _ ⟨R4.out.xs, ?_⟩
        clear hK K
        refine wpAnyH_one (i := 16) (by kernel_rfl) rfl rfl (fun K hK => ?_)
        go_simp
        refine hK _ _ ⟨R4.out.xs, ?_⟩
        clear hK K
        refine wpAnyH_done (by kernel_rfl) ?_ _
        go_wp2_with fail
        go_roundw
        case rel => exact ⟨i + 1, by omega, by go_num, R4.out⟩
        case measure => simp [intOf]; omega
    · obtain rfl : i = 16 := by omega
      go_wp2_with fail
      (with_reducible refine (HDT.out _ R.out.st.dev).mono ?_)
      rintro e w9 ⟨sv, rfl, hacc⟩
      have R9 := Lib.hid (R.out.next hacc.bel)
      rw [HDL.out] at hacc
      obtain ⟨sa, sc, rfl⟩ := hacc.slice
      clear hacc
      go_wp2_with fail
      go_ret
      exact R9.out.post
end
end Go.Proofs.Ytpkilmnppdbnkaa
