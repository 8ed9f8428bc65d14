/- The walks of a bucket's check, keyAt, find, Get on a device that is on. -/
import Derived.Test.YtpkilmnppdbnkaaBkA
import Derived.Test.YtpkilmnppdbnkaaMemA
import Derived.Test.YtpkilmnppdbnkaaGen
import Derived.Test.YtpkilmnppdbnkaaHeldM
import Derived.Deep.RegionHeld3
namespace Go.Proofs.Ytpkilmnppdbnkaa
open Go.RowKit

theorem nilB_Load (a : Addr) (w : World) : (nilAhead 282 56 (.pointer (some a)) "Load").run Try.prog w = .ok (some false) w := by kernel_rfl
theorem infoBk : (Try.prog.info? 29).map (·.size) = some 2 := by kernel_rfl
/-- A call's first box, and what lies below the call. -/
structure Bx1 (w : World) (c : Array Value) (t : TypeId) (wx : World) : Prop where
  blk : Blk wx w.heap.size c t
  bel : Below w.heap.size w wx
theorem Bx1.start (w : World) (c : Array Value) (t : TypeId) : Bx1 w c t (w.alloc (.cells c t)) := ⟨Blk.new w c t, below_alloc w _⟩
theorem Bx1.next {w wx wy : World} {c : Array Value} {t : TypeId} (h : Bx1 w c t wx) (hb : Below wx.heap.size wx wy) : Bx1 w c t wy := ⟨h.blk.below hb, h.bel.trans (hb.mono h.bel.size)⟩
theorem exec_load_cell {o : Oper} {ev : Operand → Value} {w : World} (ty : TypeId) (x : Operand) (ho : o.op = .load ty x)
    (a : Addr) (hx : ev x = .pointer (some a)) (u : Value) (hc : w.cell? a = some u) (hd : (isAgg ty).run Try.prog w = .ok false w) : (execOp ev o).run Try.prog w = .ok (.value u) w := by
  unfold execOp
  simp only [ho, hx, Instr.loadAt, Instr.sureAddr, Sem.run_bind, Sem.run_pure, Result.andThen_ok, loadVar, hd]
  simp [go_sem, hc]
theorem aggMem (w : World) : (isAgg 26).run Try.prog w = .ok false w := by kernel_rfl
section
variable {w : World} {v : DV} {own : Nat → Option Role} {D : Dev}
theorem keyAt_any (off s : Nat) (hs : s < 7) (hl : off + 128 ≤ 18446744073709551616) : Calls Try.prog 39 #[.agg #[.iface 56 (.pointer (some ⟨v.tb 0, 0, none⟩)), .int .u64 off], .int .i64 s] w fun r w' => r = .returned (.int .u64 (bkKey off s : Nat)) ∧ Below w.heap.size w w' := by
  have hb := below_alloc w (.cells #[.iface 56 (.pointer (some ⟨v.tb 0, 0, none⟩)), .int .u64 off] 29)
  have HB := Lib.hid hb
  have he : ((bkKey off s : Nat) : Int) = (off : Int) + 16 * ((s : Int) + 1) := by unfold bkKey; omega
  have e1 : IntKind.u64.wrap ((s : Int) + 1) = (s : Int) + 1 := IntWalk.u64_in _ (by omega)
  have e2 : IntKind.u64.wrap (16 * ((s : Int) + 1)) = 16 * ((s : Int) + 1) := IntWalk.u64_in _ (by omega)
  have e3 : IntKind.u64.wrap ((off : Int) + 16 * ((s : Int) + 1)) = (off : Int) + 16 * ((s : Int) + 1) := IntWalk.u64_in _ (by omega)
  rw [he]
  clear hb he
  go_enter Try.func39, Try.ntmps39
  go_wp2_with fail
  go_ret
  exact ⟨rfl, HB.out⟩
theorem check31_ok (h : IsDev w v own D) (off : Nat) (h8 : off % 8 = 0) (hl : off + 128 ≤ 64 * D.n) : Calls Try.prog 40 #[.agg #[.iface 56 (.pointer (some ⟨v.tb 0, 0, none⟩)), .int .u64 off]] w fun r w' => r = .returned (.int .i64 (D.err 0)) ∧ Below w.heap.size w w' := by
  have hm1 := meth_Size ⟨v.tb 0, 0, none⟩; have hm2 := meth_Err ⟨v.tb 0, 0, none⟩
  have H := Lib.hid h
  have HT := Lib.hid (fun wx (hx : IsDev wx v own D) => thrSize_any hx (j := 0) (by omega))
  have HER := Lib.hid (fun wx (hx : IsDev wx v own D) => err_any hx (j := 0) (by omega))
  have HB := Lib.hid (below_alloc w (.cells #[.iface 56 (.pointer (some ⟨v.tb 0, 0, none⟩)), .int .u64 off] 29))
  have hn := h.wf.le
  have e1 : (off : Int) % 8 = 0 := by omega
  have e2 : ¬ (D.n : Int) * 64 < 128 := by omega
  have e3 : IntKind.u64.wrap ((D.n : Int) * 64 - 128) = (D.n : Int) * 64 - 128 := IntWalk.u64_in _ (by omega)
  have e4 : ¬ (D.n : Int) * 64 - 128 < (off : Int) := by omega
  clear h
  go_enter Try.func40, Try.ntmps40
  go_wp2_with fail
  (with_reducible refine (HT.out _ (H.out.alloc _)).mono ?_)
  rintro e w' ⟨rfl, rfl⟩
  go_wp2_with fail
  (with_reducible refine (HER.out _ (H.out.alloc _)).mono ?_)
  rintro e w' ⟨rfl, rfl⟩
  go_wp2_with fail
  go_ret
  exact ⟨rfl, HB.out⟩
set_option maxRecDepth 100000 in
set_option maxHeartbeats 8000000 in
theorem find31_ok (h : IsDev w v own D) (hvb : D.VB) (hof : D.off = false) (he : D.err 0 = 0) (off k : Nat) (hk : k < 18446744073709551616) (h8 : off % 8 = 0) (hl : off + 128 ≤ 64 * D.n) :
    Calls Try.prog 38 #[.agg #[.iface 56 (.pointer (some ⟨v.tb 0, 0, none⟩)), .int .u64 off], .int .u64 k] w fun r w' => r = .returned (.tuple #[.int .u64 (bkH D.cur off : Nat), .int .i64 (fndI D.cur off k), .int .i64 0]) ∧ Below w.heap.size w w' := by
  have hm1 := meth_Load ⟨v.tb 0, 0, none⟩; have hn1 := nilB_Load ⟨v.tb 0, 0, none⟩; have hm2 := meth_Err ⟨v.tb 0, 0, none⟩
  have H := Lib.hid h
  have hck := fun wx (hx : IsDev wx v own D) => check31_ok hx off h8 hl
  rw [he] at hck
  have HCK := Lib.hid hck
  have hn := h.wf.le
  have hld := fun wx (hx : IsDev wx v own D) => load_ok hx (j := 0) (by omega) off hof h8 (by omega)
  have hhd : D.cur (off / 8) = ((bkH D.cur off : Nat) : Int) := by unfold bkH; have := hvb.cur (off / 8); omega
  have hhb : bkH D.cur off < 18446744073709551616 := by unfold bkH; have := hvb.cur (off / 8); omega
  rw [hhd] at hld
  have HLD := Lib.hid hld
  have her := fun wx (hx : IsDev wx v own D) => err_any hx (j := 0) (by omega)
  rw [he] at her
  have HER := Lib.hid her
  have HMT := Lib.hid (fun (wx : World) (s : Nat) (hs : s < 7) => matches_any (w := wx) (bkH D.cur off) s k hhb hs hk)
  have HKA := Lib.hid (fun (wx : World) (s : Nat) (hs : s < 7) => keyAt_any (w := wx) (v := v) off s hs (by omega))
  have HLK := Lib.hid (fun (wx : World) (hx : IsDev wx v own D) (s : Nat) (hs : s < 7) => (show Calls Try.prog 53 #[.pointer (some ⟨v.tb 0, 0, none⟩), .int .u64 (bkKey off s : Nat)] wx fun r w' => r = .returned (.int .u64 (bkK D.cur off s)) ∧ wx = w' from by
    have := load_ok hx (j := 0) (by omega) (bkKey off s) hof (by unfold bkKey; omega) (by unfold bkKey; omega)
    rw [show bkKey off s / 8 = off / 8 + 2 + 2 * s by unfold bkKey; omega] at this
    exact this))
  have HMB : Hid (∀ s, matB D.cur off k s = ((usedB (bkH D.cur off) s && (fpN (bkH D.cur off) s == mixN k % 256)) && bkK D.cur off s == (k : Int))) := fun s => rfl
  have HFI : Hid (fndI D.cur off k = fstK (matB D.cur off k) 7) := rfl
  have HKB := Lib.hid (fun s => hvb.cur (off / 8 + 2 + 2 * s))
  have hkb : Hid (∀ s, 0 ≤ bkK D.cur off s ∧ bkK D.cur off s < 18446744073709551616) := fun s => HKB.out s
  generalize bkH D.cur off = hd at *
  generalize matB D.cur off k = mt at *
  generalize fndI D.cur off k = fi at *
  generalize hkk : bkK D.cur off = kk at *
  have X0 := Lib.hid (Bx1.start w #[.iface 56 (.pointer (some ⟨v.tb 0, 0, none⟩)), .int .u64 off] 29)
  clear h hck hld her hvb hkk HKB hhd
  go_enter Try.func38, Try.ntmps38
  go_wp2_with fail
  (with_reducible refine (HCK.out _ (H.out.below X0.out.bel)).mono ?_)
  rintro e w1 ⟨rfl, b1⟩
  have X1 := Lib.hid (X0.out.next b1)
  have c0 := X1.out.blk.cell (i := 0) (v := .iface 56 (.pointer (some ⟨v.tb 0, 0, none⟩))) rfl
  have c1 := X1.out.blk.cell (i := 1) (v := .int .u64 off) rfl
  clear b1 X0 HCK
  go_wp2_with fail
  (with_reducible refine (HLD.out _ (H.out.below X1.out.bel)).mono ?_)
  rintro e w' ⟨rfl, rfl⟩
  clear c0 c1 HLD
  go_wp2_with fail
  go_loopw [9, 10] (fun f y wr => ∃ s : Nat, s ≤ 7 ∧ y = .int .i64 s ∧ f = .int .i64 (fstK mt s) ∧ Bx1 w #[.iface 56 (.pointer (some ⟨v.tb 0, 0, none⟩)), .int .u64 off] 29 wr) (fun _ y _ => 7 - (intOf y).toNat)
  case atStart => exact ⟨0, by omega, rfl, rfl, X1.out⟩
  case round =>
    obtain ⟨s, hs, rfl, rfl, hx⟩ := hrel
    have X := Lib.hid hx
    clear hx X1
    have c0 := X.out.blk.cell (i := 0) (v := .iface 56 (.pointer (some ⟨v.tb 0, 0, none⟩))) rfl
    have c1 := X.out.blk.cell (i := 1) (v := .int .u64 off) rfl
    by_cases hlt : s < 7
    · by_cases hf : fstK mt s < 0
      · have hs1 : (s : Int) < 7 := by omega
        have hfe : fstK mt (s + 1) = if mt s then (s : Int) else fstK mt s := by
          rcases fstK_bd mt s with ⟨h1, _⟩
          show (if 0 ≤ fstK mt s then fstK mt s else if mt s then (s : Int) else -1) = _
          rw [if_neg (by omega), show fstK mt s = -1 by omega]
        have hbd := (fstK_bd mt s).1
        have HM := Lib.hid (fun wx => HMT.out wx s hlt)
        have HK := Lib.hid (fun wx => HKA.out wx s hlt)
        have HL := Lib.hid (fun wx hx => HLK.out wx hx s hlt)
        have hms := HMB.out s
        have hkk := hkb.out s
        generalize kk s = ks at *
        generalize (usedB hd s && (fpN hd s == mixN k % 256)) = mb at *
        have HFE := Lib.hid hfe
        have HMS := Lib.hid hms
        clear hfe hms HMT HKA HLK HMB hkb HFI
        generalize fstK mt s = fs at *
        go_wp2_with fail
        have X4 := Lib.hid (X.out.next ((Below.refl _ _).drew))
        clear c0 c1 X
        refine wp_region_held (S := (fun wx => Bx1 w #[.iface 56 (.pointer (some ⟨v.tb 0, 0, none⟩)), .int .u64 off] 29 wx)) (by kernel_rfl) ?_
        change wpAnyH _ _ _ _ _ _ _ _ (World.drew _)
        refine wpAnyH_take (i := 0) (v := .int .u64 (hd : Nat)) rfl (by kernel_rfl) (by kernel_rfl) (by kernel_rfl) (fun _ _ _ h => h) (Or.inl ⟨by kernel_rfl, fun w _ => by go_simp⟩) X4.out ?_
        refine wpAnyH_take (i := 1) (v := .int .i64 s) rfl (by kernel_rfl) (by kernel_rfl) (by kernel_rfl) (fun _ _ _ h => h) (Or.inl ⟨by kernel_rfl, fun w _ => by go_simp⟩) X4.out ?_
        refine wpAnyH_take (i := 2) (v := .int .u64 (k : Nat)) rfl (by kernel_rfl) (by kernel_rfl) (by kernel_rfl) (fun _ _ _ h => h) (Or.inl ⟨by kernel_rfl, fun w _ => by go_simp⟩) X4.out ?_
        refine wpAnyH_one (i := 3) (by kernel_rfl) rfl rfl (fun K hK => ?_)
        go_simp
        (with_reducible refine (HM.out _).mono ?_)
        rintro e w5 ⟨rfl, rfl⟩
        go_simp
        refine hK _ _ ⟨X4.out, ?_⟩
        clear hK K
        refine wpAnyH_one (i := 4) (by kernel_rfl) rfl rfl (fun K hK => ?_)
        go_simp
        refine hK _ _ ⟨X4.out, ?_⟩
        clear hK K
        cases mb
        case false =>
          refine wpAnyH_take (i := 5) (v := undef) rfl (by kernel_rfl) (by kernel_rfl) (by kernel_rfl) (fun _ _ _ h => h) (Or.inr ⟨by kernel_rfl, rfl⟩) X4.out ?_
          refine wpAnyH_take (i := 6) (v := undef) rfl (by kernel_rfl) (by kernel_rfl) (by kernel_rfl) (fun _ _ _ h => h) (Or.inr ⟨by kernel_rfl, rfl⟩) X4.out ?_
          refine wpAnyH_take (i := 7) (v := undef) rfl (by kernel_rfl) (by kernel_rfl) (by kernel_rfl) (fun _ _ _ h => h) (Or.inr ⟨by kernel_rfl, rfl⟩) X4.out ?_
          refine wpAnyH_take (i := 8) (v := undef) rfl (by kernel_rfl) (by kernel_rfl) (by kernel_rfl) (fun _ _ _ h => h) (Or.inr ⟨by kernel_rfl, rfl⟩) X4.out ?_
          refine wpAnyH_take (i := 9) (v := undef) rfl (by kernel_rfl) (by kernel_rfl) (by kernel_rfl) (fun _ _ _ h => h) (Or.inr ⟨by kernel_rfl, rfl⟩) X4.out ?_
          refine wpAnyH_take (i := 10) (v := undef) rfl (by kernel_rfl) (by kernel_rfl) (by kernel_rfl) (fun _ _ _ h => h) (Or.inr ⟨by kernel_rfl, rfl⟩) X4.out ?_
          refine wpAnyH_take (i := 11) (v := undef) rfl (by kernel_rfl) (by kernel_rfl) (by kernel_rfl) (fun _ _ _ h => h) (Or.inr ⟨by kernel_rfl, rfl⟩) X4.out ?_
          refine wpAnyH_take (i := 12) (v := undef) rfl (by kernel_rfl) (by kernel_rfl) (by kernel_rfl) (fun _ _ _ h => h) (Or.inr ⟨by kernel_rfl, rfl⟩) X4.out ?_
          refine wpAnyH_take (i := 13) (v := undef) rfl (by kernel_rfl) (by kernel_rfl) (by kernel_rfl) (fun _ _ _ h => h) (Or.inr ⟨by kernel_rfl, rfl⟩) X4.out ?_
          refine wpAnyH_take (i := 14) (v := undef) rfl (by kernel_rfl) (by kernel_rfl) (by kernel_rfl) (fun _ _ _ h => h) (Or.inr ⟨by kernel_rfl, rfl⟩) X4.out ?_
          refine wpAnyH_one (i := 15) (by kernel_rfl) rfl rfl (fun K hK => ?_)
          go_simp
          refine hK _ _ ⟨X4.out, ?_⟩
          clear hK K
          refine wpAnyH_done (by kernel_rfl) ?_ _
          have hfe := HFE.out
          rw [HMS.out] at hfe
          simp only [Bool.false_and, Bool.false_eq_true, if_false] at hfe
          have HF2 := Lib.hid hfe
          clear hfe
          go_wp2_with fail
          go_roundw
          case rel => exact ⟨s + 1, by omega, by go_num, by rw [HF2.out], X4.out⟩
          case measure => simp [intOf]; omega
        case true =>
          refine wpAnyH_take (i := 5) (v := .pointer (some ⟨w.heap.size, 0, none⟩)) rfl (by kernel_rfl) (by kernel_rfl) (by kernel_rfl) (fun _ _ _ h => h) (Or.inl ⟨by kernel_rfl, fun w _ => by go_simp⟩) X4.out ?_
          refine wpAnyH_take (i := 8) (v := .int .i64 s) rfl (by kernel_rfl) (by kernel_rfl) (by kernel_rfl) (fun _ _ _ h => h) (Or.inl ⟨by kernel_rfl, fun w _ => by go_simp⟩) X4.out ?_
          refine wpAnyH_take (i := 13) (v := .int .u64 (k : Nat)) rfl (by kernel_rfl) (by kernel_rfl) (by kernel_rfl) (fun _ _ _ h => h) (Or.inl ⟨by kernel_rfl, fun w _ => by go_simp⟩) X4.out ?_
          refine wpAnyH_take (i := 6) (v := .iface 56 (.pointer (some ⟨v.tb 0, 0, none⟩))) rfl (by kernel_rfl) (by kernel_rfl) (by kernel_rfl) (fun _ _ _ h => h) (Or.inl ⟨by kernel_rfl, fun wx hx => exec_load_cell 26 (.tmp 34) rfl ⟨w.heap.size, 0, none⟩ rfl _ (hx.blk.cell (i := 0) (v := .iface 56 (.pointer (some ⟨v.tb 0, 0, none⟩))) rfl) (aggMem _)⟩) X4.out ?_
          refine wpAnyH_take (i := 7) (v := .agg #[.iface 56 (.pointer (some ⟨v.tb 0, 0, none⟩)), .int .u64 off]) rfl (by kernel_rfl) (by kernel_rfl) (by kernel_rfl) (fun _ _ _ h => h) (Or.inl ⟨by kernel_rfl, fun wx hx => exec_load_row 29 (.tmp 2) rfl w.heap.size rfl 29 #[.iface 56 (.pointer (some ⟨v.tb 0, 0, none⟩)), .int .u64 off] (0, 0) _ hx.blk Try.underlying29 rfl infoBk⟩) X4.out ?_
          refine wpAnyH_take (i := 10) (v := .iface 56 (.pointer (some ⟨v.tb 0, 0, none⟩))) rfl (by kernel_rfl) (by kernel_rfl) (by kernel_rfl) (fun _ _ _ h => h) (Or.inl ⟨by kernel_rfl, fun w _ => by go_simp⟩) X4.out ?_
          refine wpAnyH_take (i := 11) (v := .iface 56 (.pointer (some ⟨v.tb 0, 0, none⟩))) rfl (by kernel_rfl) (by kernel_rfl) (by kernel_rfl) (fun _ _ _ h => h) (Or.inl ⟨by kernel_rfl, fun w _ => by go_simp⟩) X4.out ?_
          refine wpAnyH_one (i := 9) (by kernel_rfl) rfl rfl (fun K hK => ?_)
          go_simp
          (with_reducible refine (HK.out _).mono ?_)
          rintro e w6 ⟨rfl, b6⟩
          have X6 := Lib.hid (X4.out.next b6)
          go_simp
          refine hK _ _ ⟨X6.out, ?_⟩
          clear hK K
          refine wpAnyH_one (i := 12) (by kernel_rfl) rfl rfl (fun K hK => ?_)
          go_simp
          (with_reducible refine (HL.out _ (H.out.below X6.out.bel)).mono ?_)
          rintro e w7 ⟨rfl, rfl⟩
          go_simp
          refine hK _ _ ⟨X6.out, ?_⟩
          clear hK K
          refine wpAnyH_one (i := 14) (by kernel_rfl) rfl rfl (fun K hK => ?_)
          go_simp
          refine hK _ _ ⟨X6.out, ?_⟩
          clear hK K
          refine wpAnyH_one (i := 15) (by kernel_rfl) rfl rfl (fun K hK => ?_)
          go_simp
          refine hK _ _ ⟨X6.out, ?_⟩
          clear hK K
          refine wpAnyH_done (by kernel_rfl) ?_ _
          by_cases he : ks = (k : Int)
          · have hb : (ks == (k : Int)) = true := by simpa using he
            have hfe := HFE.out
            rw [HMS.out, hb] at hfe
            simp only [Bool.true_and, if_true] at hfe
            have HF2 := Lib.hid hfe
            clear hfe he
            go_wp2_with fail
            go_roundw
            case rel => exact ⟨s + 1, by omega, by go_num, by rw [HF2.out], X6.out⟩
            case measure => simp [intOf]; omega
          · have hb : (ks == (k : Int)) = false := by simpa using he
            have hfe := HFE.out
            rw [HMS.out, hb] at hfe
            simp only [Bool.true_and, Bool.false_eq_true, if_false] at hfe
            have HF2 := Lib.hid hfe
            clear hfe he
            go_wp2_with fail
            go_roundw
            case rel => exact ⟨s + 1, by omega, by go_num, by rw [HF2.out], X6.out⟩
            case measure => simp [intOf]; omega
      · have hs1 : (s : Int) < 7 := by omega
        have hfi : fstK mt 7 = fstK mt s := fstK_stay (by omega) 7 (by omega)
        rw [hfi] at HFI
        have HF2 := Lib.hid HFI.out
        clear hfi HFI
        generalize fstK mt s = fs at *
        go_wp2_with fail
        (with_reducible refine (HER.out _ (H.out.below X.out.bel)).mono ?_)
        rintro e w' ⟨rfl, rfl⟩
        go_wp2_with fail
        go_ret3
        exact ⟨by simp [HF2.out], X.out.bel⟩
    · obtain rfl : s = 7 := by omega
      have HF2 := Lib.hid HFI.out
      clear HFI
      generalize fstK mt 7 = fs at *
      go_wp2_with fail
      (with_reducible refine (HER.out _ (H.out.below X.out.bel)).mono ?_)
      rintro e w' ⟨rfl, rfl⟩
      go_wp2_with fail
      go_ret3
      exact ⟨by simp [HF2.out], X.out.bel⟩
end
end Go.Proofs.Ytpkilmnppdbnkaa
