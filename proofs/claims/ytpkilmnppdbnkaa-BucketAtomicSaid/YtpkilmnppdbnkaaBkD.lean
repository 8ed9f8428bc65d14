/- The walks of a bucket's calls on a device that is on: Get, Count, the plans, Put, Delete. -/
import Derived.Test.YtpkilmnppdbnkaaBkC
namespace Go.Proofs.Ytpkilmnppdbnkaa
open Go.RowKit

/-- The bucket's words can be read. -/
structure BOk (D : Dev) (off : Nat) : Prop where
  vb : D.VB
  of : D.off = false
  er : D.err 0 = 0
  h8 : off % 8 = 0
  hl : off + 128 ≤ 64 * D.n
theorem aggU64 (w : World) : (isAgg 27).run Try.prog w = .ok false w := by kernel_rfl
section
variable {w : World} {v : DV} {own : Nat → Option Role} {D : Dev} {off : Nat}
theorem BOk.bd (h : BOk D off) : bkH D.cur off < 18446744073709551616 := by have := h.vb.cur (off / 8); unfold bkH; omega
theorem BOk.find (hb : BOk D off) (h : IsDev w v own D) (k : Nat) (hk : k < 18446744073709551616) :
    Calls Try.prog 38 #[.agg #[.iface 56 (.pointer (some ⟨v.tb 0, 0, none⟩)), .int .u64 off], .int .u64 k] w fun r w' => r = .returned (.tuple #[.int .u64 (bkH D.cur off : Nat), .int .i64 (fndI D.cur off k), .int .i64 0]) ∧ Below w.heap.size w w' :=
  find31_ok h hb.vb hb.of hb.er off k hk hb.h8 hb.hl
theorem BOk.loadV (hb : BOk D off) (h : IsDev w v own D) (s : Nat) (hs : s < 7) : Calls Try.prog 53 #[.pointer (some ⟨v.tb 0, 0, none⟩), .int .u64 ((bkKey off s : Nat) + 8 : Int)] w fun r w' => r = .returned (.int .u64 (bkV D.cur off s)) ∧ w = w' := by
  have hl := hb.hl; have h8 := hb.h8
  have := load_ok h (j := 0) (by omega) (bkKey off s + 8) hb.of (by unfold bkKey; omega) (by unfold bkKey; omega)
  rw [show (bkKey off s + 8) / 8 = off / 8 + 3 + 2 * s by unfold bkKey; omega] at this
  exact this
theorem BOk.err (hb : BOk D off) (h : IsDev w v own D) : Calls Try.prog 113 #[.pointer (some ⟨v.tb 0, 0, none⟩)] w fun r w' => r = .returned (.int .i64 0) ∧ w = w' := by
  have := err_any h (j := 0) (by omega); rw [hb.er] at this; exact this
theorem BOk.check (hb : BOk D off) (h : IsDev w v own D) : Calls Try.prog 40 #[.agg #[.iface 56 (.pointer (some ⟨v.tb 0, 0, none⟩)), .int .u64 off]] w fun r w' => r = .returned (.int .i64 0) ∧ Below w.heap.size w w' := by
  have := check31_ok h off hb.h8 hb.hl; rw [hb.er] at this; exact this
theorem BOk.loadH (hb : BOk D off) (h : IsDev w v own D) : Calls Try.prog 53 #[.pointer (some ⟨v.tb 0, 0, none⟩), .int .u64 off] w fun r w' => r = .returned (.int .u64 (bkH D.cur off : Nat)) ∧ w = w' := by
  have hl := hb.hl
  have := load_ok h (j := 0) (by omega) off hb.of hb.h8 (by omega)
  rw [show D.cur (off / 8) = ((bkH D.cur off : Nat) : Int) by unfold bkH; have := hb.vb.cur (off / 8); omega] at this
  exact this
set_option maxRecDepth 100000 in
set_option maxHeartbeats 4000000 in
theorem get31_none (h : IsDev w v own D) (hb : BOk D off) (k : Nat) (hk : k < 18446744073709551616) (hf : fndI D.cur off k = -1) :
    Calls Try.prog 12 #[.agg #[.iface 56 (.pointer (some ⟨v.tb 0, 0, none⟩)), .int .u64 off], .int .u64 k] w fun r w' => r = .returned (.tuple #[.int .u64 0, .int .i64 5]) ∧ Below w.heap.size w w' := by
  have HF := Lib.hid (fun wx (hx : IsDev wx v own D) => hf ▸ hb.find hx k hk)
  have H := Lib.hid h
  have X0 := Lib.hid (Bx1.start w #[.iface 56 (.pointer (some ⟨v.tb 0, 0, none⟩)), .int .u64 off] 29)
  generalize bkH D.cur off = hd at *
  clear h hf
  go_enter Try.func12, Try.ntmps12
  go_wp2_with fail
  (with_reducible refine (HF.out _ (H.out.below X0.out.bel)).mono ?_)
  rintro e w1 ⟨rfl, b1⟩
  have X1 := Lib.hid (X0.out.next b1)
  clear b1
  go_wp2_with fail
  go_ret2
  exact ⟨rfl, X1.out.bel⟩
set_option maxRecDepth 100000 in
set_option maxHeartbeats 4000000 in
theorem get31_some (h : IsDev w v own D) (hb : BOk D off) (k : Nat) (hk : k < 18446744073709551616) (s : Nat) (hs : s < 7) (hf : fndI D.cur off k = (s : Nat)) :
    Calls Try.prog 12 #[.agg #[.iface 56 (.pointer (some ⟨v.tb 0, 0, none⟩)), .int .u64 off], .int .u64 k] w fun r w' => r = .returned (.tuple #[.int .u64 (bkV D.cur off s), .int .i64 0]) ∧ Below w.heap.size w w' := by
  have hm1 := meth_Load ⟨v.tb 0, 0, none⟩; have hn1 := nilB_Load ⟨v.tb 0, 0, none⟩; have hm2 := meth_Err ⟨v.tb 0, 0, none⟩
  have HF := Lib.hid (fun wx (hx : IsDev wx v own D) => hf ▸ hb.find hx k hk)
  have hl := hb.hl; have hn := h.wf.le
  have HK := Lib.hid (fun (wx : World) => keyAt_any (w := wx) (v := v) off s hs (by omega))
  have HL := Lib.hid (fun wx (hx : IsDev wx v own D) => hb.loadV hx s hs)
  have HER := Lib.hid (fun wx (hx : IsDev wx v own D) => hb.err hx)
  have hkb : bkKey off s + 8 < 18446744073709551616 := by unfold bkKey; omega
  have hkw : IntKind.u64.wrap ((bkKey off s : Nat) + 8 : Int) = (bkKey off s : Nat) + 8 := IntWalk.u64_in _ (by omega)
  have H := Lib.hid h
  have X0 := Lib.hid (Bx1.start w #[.iface 56 (.pointer (some ⟨v.tb 0, 0, none⟩)), .int .u64 off] 29)
  generalize bkH D.cur off = hd at *
  generalize bkV D.cur off s = bv at *
  generalize bkKey off s = bk at *
  clear h hf
  go_enter Try.func12, Try.ntmps12
  go_wp2_with fail
  (with_reducible refine (HF.out _ (H.out.below X0.out.bel)).mono ?_)
  rintro e w1 ⟨rfl, b1⟩
  have X1 := Lib.hid (X0.out.next b1)
  clear b1
  go_wp2_with fail
  have X4 := Lib.hid (X1.out.next ((Below.refl _ _).drew))
  clear X1
  refine wp_region_held (S := (fun wx => Bx1 w #[.iface 56 (.pointer (some ⟨v.tb 0, 0, none⟩)), .int .u64 off] 29 wx)) (by kernel_rfl) ?_
  change wpAnyH _ _ _ _ _ _ _ _ (World.drew _)
  refine wpAnyH_take (i := 0) (v := .pointer (some ⟨w.heap.size, 0, none⟩)) rfl (by kernel_rfl) (by kernel_rfl) (by kernel_rfl) (fun _ _ _ h => h) (Or.inl ⟨by kernel_rfl, fun w _ => by go_simp⟩) X4.out ?_
  refine wpAnyH_take (i := 3) (v := .int .i64 s) rfl (by kernel_rfl) (by kernel_rfl) (by kernel_rfl) (fun _ _ _ h => h) (Or.inl ⟨by kernel_rfl, fun w _ => by go_simp⟩) X4.out ?_
  refine wpAnyH_take (i := 1) (v := .iface 56 (.pointer (some ⟨v.tb 0, 0, none⟩))) rfl (by kernel_rfl) (by kernel_rfl) (by kernel_rfl) (fun _ _ _ h => h) (Or.inl ⟨by kernel_rfl, fun wx hx => exec_load_cell 26 (.tmp 23) rfl ⟨w.heap.size, 0, none⟩ rfl _ (hx.blk.cell (i := 0) (v := .iface 56 (.pointer (some ⟨v.tb 0, 0, none⟩))) rfl) (aggMem _)⟩) X4.out ?_
  refine wpAnyH_take (i := 2) (v := .agg #[.iface 56 (.pointer (some ⟨v.tb 0, 0, none⟩)), .int .u64 off]) rfl (by kernel_rfl) (by kernel_rfl) (by kernel_rfl) (fun _ _ _ h => h) (Or.inl ⟨by kernel_rfl, fun wx hx => exec_load_row 29 (.tmp 2) rfl w.heap.size rfl 29 #[.iface 56 (.pointer (some ⟨v.tb 0, 0, none⟩)), .int .u64 off] (0, 0) _ hx.blk Try.underlying29 rfl infoBk⟩) X4.out ?_
  refine wpAnyH_take (i := 6) (v := .iface 56 (.pointer (some ⟨v.tb 0, 0, none⟩))) rfl (by kernel_rfl) (by kernel_rfl) (by kernel_rfl) (fun _ _ _ h => h) (Or.inl ⟨by kernel_rfl, fun w _ => by go_simp⟩) X4.out ?_
  refine wpAnyH_take (i := 7) (v := .iface 56 (.pointer (some ⟨v.tb 0, 0, none⟩))) rfl (by kernel_rfl) (by kernel_rfl) (by kernel_rfl) (fun _ _ _ h => h) (Or.inl ⟨by kernel_rfl, fun w _ => by go_simp⟩) X4.out ?_
  refine wpAnyH_one (i := 4) (by kernel_rfl) rfl rfl (fun K hK => ?_)
  go_simp
  (with_reducible refine (HK.out _).mono ?_)
  rintro e w6 ⟨rfl, b6⟩
  have X6 := Lib.hid (X4.out.next b6)
  go_simp
  refine hK _ _ ⟨X6.out, ?_⟩
  clear hK K
  refine wpAnyH_one (i := 5) (by kernel_rfl) rfl rfl (fun K hK => ?_)
  go_simp
  refine hK _ _ ⟨X6.out, ?_⟩
  clear hK K
  refine wpAnyH_one (i := 8) (by kernel_rfl) rfl rfl (fun K hK => ?_)
  go_simp
  (with_reducible refine (HL.out _ (H.out.below X6.out.bel)).mono ?_)
  rintro e w7 ⟨rfl, rfl⟩
  go_simp
  refine hK _ _ ⟨X6.out, ?_⟩
  clear hK K
  refine wpAnyH_one (i := 9) (by kernel_rfl) rfl rfl (fun K hK => ?_)
  go_simp
  refine hK _ _ ⟨X6.out, ?_⟩
  clear hK K
  refine wpAnyH_done (by kernel_rfl) ?_ _
  have c0 := X6.out.blk.cell (i := 0) (v := .iface 56 (.pointer (some ⟨v.tb 0, 0, none⟩))) rfl
  go_wp2_with fail
  (with_reducible refine (HER.out _ (H.out.below X6.out.bel)).mono ?_)
  rintro e w7 ⟨rfl, rfl⟩
  go_wp2_with fail
  go_ret2
  exact ⟨rfl, X6.out.bel⟩
set_option maxHeartbeats 4000000 in
theorem ones7_any (x : Fin 128) : Calls Try.prog 77 #[.int .u64 ((x.val : Nat) : Int)] w fun r w' => r = .returned (.int .i64 (((List.range 7).filter (usedB x.val)).length : Nat)) ∧ w = w' := by
  go_enter Try.func77, Try.ntmps77
  go_wp2_with fail
  go_ret
  refine ⟨ret_int ?_, rfl⟩
  revert x
  decide +kernel
theorem cnt_low (h : Nat) : cntN h = cntN (h % 128) := by
  unfold cntN
  congr 1
  refine List.filter_congr fun s hs => ?_
  have hs : s < 7 := List.mem_range.1 hs
  unfold usedB
  congr 1
  refine Nat.eq_of_testBit_eq fun i => ?_
  rw [fld_testBit, fld_testBit, show (128 : Nat) = 2 ^ 7 from rfl, Nat.testBit_mod_two_pow]
  by_cases hi : i < 1
  · have : s + i < 7 := by omega
    simp [this]
  · simp [hi]
theorem wOnes_any (h : Nat) : Calls Try.prog 41 #[.int .u64 (fld h 0 7 : Nat)] w fun r w' => r = .returned (.int .i64 (cntN h : Nat)) ∧ w = w' := by
  have e : fld h 0 7 = h % 128 := by unfold fld; simp
  have HO := Lib.hid (fun wx => ones7_any (w := wx) ⟨h % 128, Nat.mod_lt _ (by decide)⟩)
  have HC := Lib.hid (cnt_low h)
  rw [e]
  unfold cntN at HC
  simp only at HO
  generalize h % 128 = y at *
  unfold cntN
  rw [HC.out]
  clear HC e
  generalize (List.filter (usedB y) (List.range 7)).length = cn at *
  go_enter Try.func41, Try.ntmps41
  go_wp2_with fail
  (with_reducible refine (HO.out _).mono ?_)
  rintro e w1 ⟨rfl, rfl⟩
  go_wp2_with fail
  go_ret
  exact ⟨rfl, rfl⟩
set_option maxRecDepth 100000 in
set_option maxHeartbeats 4000000 in
theorem count31_ok (h : IsDev w v own D) (hb : BOk D off) : Calls Try.prog 13 #[.agg #[.iface 56 (.pointer (some ⟨v.tb 0, 0, none⟩)), .int .u64 off]] w fun r w' => r = .returned (.int .i64 (cntN (bkH D.cur off) : Nat)) ∧ Below w.heap.size w w' := by
  have hm1 := meth_Load ⟨v.tb 0, 0, none⟩; have hm2 := meth_Err ⟨v.tb 0, 0, none⟩
  have HCK := Lib.hid (fun wx (hx : IsDev wx v own D) => hb.check hx)
  have HL := Lib.hid (fun wx (hx : IsDev wx v own D) => hb.loadH hx)
  have HER := Lib.hid (fun wx (hx : IsDev wx v own D) => hb.err hx)
  have HF := Lib.hid (fun wx => wField_any (w := wx) (bkH D.cur off) 0 7 hb.bd (.inr (.inl rfl)) (by omega))
  rw [show ((0 : Nat) : Int) = 0 from rfl, show ((7 : Nat) : Int) = 7 from rfl] at HF
  have HO := Lib.hid (fun wx => wOnes_any (w := wx) (bkH D.cur off))
  generalize fld (bkH D.cur off) 0 7 = f1 at *
  generalize cntN (bkH D.cur off) = cn at *
  have H := Lib.hid h
  have X0 := Lib.hid (Bx1.start w #[.iface 56 (.pointer (some ⟨v.tb 0, 0, none⟩)), .int .u64 off] 29)
  generalize bkH D.cur off = hd at *
  clear h
  go_enter Try.func13, Try.ntmps13
  go_wp2_with fail
  (with_reducible refine (HCK.out _ (H.out.below X0.out.bel)).mono ?_)
  rintro e w1 ⟨rfl, b1⟩
  have X1 := Lib.hid (X0.out.next b1)
  have c0 := X1.out.blk.cell (i := 0) (v := .iface 56 (.pointer (some ⟨v.tb 0, 0, none⟩))) rfl
  have c1 := X1.out.blk.cell (i := 1) (v := .int .u64 off) rfl
  clear b1 X0
  go_wp2_with fail
  (with_reducible refine (HL.out _ (H.out.below X1.out.bel)).mono ?_)
  rintro e w' ⟨rfl, rfl⟩
  go_wp2_with fail
  (with_reducible refine (HER.out _ (H.out.below X1.out.bel)).mono ?_)
  rintro e w' ⟨rfl, rfl⟩
  go_wp2_with fail
  (with_reducible refine (HF.out _).mono ?_)
  rintro e w' ⟨rfl, rfl⟩
  go_wp2_with fail
  (with_reducible refine (HO.out _).mono ?_)
  rintro e w' ⟨rfl, rfl⟩
  go_wp2_with fail
  go_ret
  exact ⟨rfl, X1.out.bel⟩
set_option maxRecDepth 100000 in
set_option maxHeartbeats 4000000 in
theorem commit31_any {w0 : World} (pv : Value) (l : List (Nat × Nat × Int)) (o : Nat) (x : Int) (ho : o < 18446744073709551616) (hp : Acc w0 w0.heap.size w 98 3 pv l.length (instrC l)) (hl : l.length ≤ 1000) :
    Calls Try.prog 43 #[pv, .int .u64 o, .int .u64 x] w fun r w' => ∃ v', r = .returned v' ∧ Acc w0 w0.heap.size w' 98 3 v' (l ++ storesL [(o, x)]).length (instrC (l ++ storesL [(o, x)])) := by
  obtain ⟨i0, hi0, hz0, hz1, hz2⟩ := info_parts infoInstr
  have I := Lib.hid (And.intro hi0 (And.intro hz0 (And.intro hz1 hz2))); clear hi0 hz0 hz1 hz2
  obtain ⟨pa, pc, hpv⟩ := hp.own.slice
  subst hpv
  have HP := Lib.hid hp; clear hp
  have HLO := Lib.hid (fun wx => lineOf31_any (w := wx) o ho)
  rw [stores1]
  generalize 64 * (o / 64) = q at *
  go_enter Try.func43, Try.ntmps43
  go_wp2_with fail
  (with_reducible refine (HLO.out _).mono ?_)
  rintro e w' ⟨rfl, rfl⟩
  go_wp2_with (at_builtin; refine wpList_append_sl _ rfl _ _ 48 rfl 98 i0 _ 3 24 Try.underlying48 I.out.1 I.out.2.1 I.out.2.2.1 I.out.2.2.2 rfl (by decide) _ l.length (instrC l) rfl (by exact HP.out.own.alloc _) _ 3 (instrC [(1, o, x), (2, q, 0), (3, 0, 0)]) rfl (by exact RdSl.newAt _ _ _ 3 3 _ rfl rfl) (instrC_one _) (by unfold maxLen; omega) (by omega) ?_)
  intro v1 w1 o1 g1 b1 n1
  have O1 := Lib.hid (And.intro o1 (And.intro g1 b1)); clear o1 g1 b1 n1
  obtain ⟨va, vc, hv⟩ := O1.out.1.slice
  go_wp2_with fail
  go_ret
  refine ⟨v1, rfl, ?_⟩
  have := HP.out.next (below_alloc _ _) O1.out.1 O1.out.2.1 O1.out.2.2 (by simp)
  rw [List.length_append, instrC_append]
  exact this
/-- A program and an error. -/
def ProgP (w : World) (l : List (Nat × Nat × Int)) (e : Int) (r : Ending) (w' : World) : Prop :=
  ∃ pv, r = .returned (.tuple #[pv, .int .i64 e]) ∧ Acc w w.heap.size w' 98 3 pv l.length (instrC l)
end
end Go.Proofs.Ytpkilmnppdbnkaa
