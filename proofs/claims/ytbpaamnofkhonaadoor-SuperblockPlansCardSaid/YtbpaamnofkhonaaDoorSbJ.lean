/- The walks of the superblock's Open. -/
import Derived.Test.YtbpaamnofkhonaaDoorSbG
namespace Go.Proofs.YtbpaamnofkhonaaDoor
open Go.RowKit Go.Maps
attribute [local go_sem ↓] Go.wp_at_zero Go.wp_at_succ

/-- What the copies' cells are like. -/
structure CpA (A : Array Value) : Prop where
  sz : 18 = A.size
  one : A.all (·.oneCell') = true
  info : (Tryd.prog.info? 99).map (·.size) = some A.size
theorem ldA_cpA (C : Nat → Int) (n : Nat) : CpA (ldA C n 2) := by
  have h1 : 18 = (ldA C n 2).size := rfl
  refine ⟨h1, ?_, by rw [← h1]; kernel_rfl⟩
  show (cpsA _ _ _ _).all (·.oneCell') = true
  simp [cpsA, Value.oneCell']
theorem cpA_alloc {w w1 : World} {A : Array Value} (_ : Below w.heap.size w w1) (_ : w.heap.size ≤ w1.heap.size) : ∃ w2, (w1.alloc (.cells #[.int .i64 0, .int .i64 0, .int .i64 0, .int .i64 0, .int .i64 0, .int .i64 0, .int .i64 0, .int .u64 0, .int .i64 0, .int .i64 0, .int .i64 0, .int .i64 0, .int .i64 0, .int .i64 0, .int .i64 0, .int .u64 0, .bool false, .bool false] 99)).setRow w1.heap.size A = w2 ∧ Blk w2 w1.heap.size A 99 ∧ Below w1.heap.size w1 w2 :=
  ⟨_, rfl, setRow_heap _ _ _ A 99 (0, 0) (Blk.new w1 _ _), below_setRow (below_alloc w1 _) (Nat.le_refl _) A⟩
section
variable {w : World} {v : DV} {own : Nat → Option Role} {D : Dev} {j : Nat}
/-- What Open answers on a device that is on. -/
def opS (C : Nat → Int) (n : Nat) : Sup := if newG C n then newS C n else Sup.zero
def opE (C : Nat → Int) (n : Nat) : Int := if newG C n then 0 else 10
set_option maxRecDepth 100000 in
set_option maxHeartbeats 8000000 in
theorem sbOpen_any (hN : Nib w) (h : IsDev w v own D) (hj : j < 8) (hof : D.off = false) (he : D.err j = 0) (hvb : D.VB) (hn : 2 ≤ D.n) :
    Calls Tryd.prog 19 #[.iface 49 (.pointer (some ⟨v.tb j, 0, none⟩))] w fun r w' => r = .returned (.tuple #[.agg (opS D.cur D.n).cells, .int .i64 (opE D.cur D.n)]) ∧ Below w.heap.size w w' := by
  have H := Lib.hid h; have HNB := Lib.hid hN
  have hus := fun wx (hx : IsDev wx v own D) => usable_any hx hj hn
  rw [he] at hus
  have HU := Lib.hid hus
  have hld := fun wx (hx : IsDev wx v own D) (hnx : Nib wx) => sbload_any hnx hx hj hof hvb hn
  rw [he] at hld
  have HLD := Lib.hid hld
  have HCA := Lib.hid (ldA_cpA D.cur D.n)
  have HNW := Lib.hid (fun (wx : World) => newest_any (w := wx) (cpS D.cur D.n 0) (cpS D.cur D.n 1) (cpG D.cur D.n 0) (cpG D.cur D.n 1) (newA D.cur D.n) (newG D.cur D.n) rfl rfl)
  have HAA : Hid (ldA D.cur D.n 2 = cpsA (cpS D.cur D.n 0) (cpS D.cur D.n 1) (cpG D.cur D.n 0) (cpG D.cur D.n 1)) := rfl
  rw [← HAA.out] at HNW
  have B2 := Lib.hid (below_alloc w (.cells #[.int .i64 0, .int .i64 0, .int .i64 0, .int .i64 0, .int .i64 0, .int .i64 0, .int .i64 0, .int .u64 0] 29))
  have RB := Lib.hid (Blk.new w #[.int .i64 0, .int .i64 0, .int .i64 0, .int .i64 0, .int .i64 0, .int .i64 0, .int .i64 0, .int .u64 0] 29)
  generalize ldA D.cur D.n 2 = A at *
  clear h hN hvb hus hld
  go_enter Tryd.func19, Tryd.ntmps19
  go_wp2_with fail
  (with_reducible refine (HU.out _ (H.out.alloc _)).mono ?_)
  rintro e w' ⟨rfl, rfl⟩
  go_wp2_with fail
  (with_reducible refine (HLD.out _ (H.out.alloc _) (HNB.out.below B2.out)).mono ?_)
  rintro e w1 ⟨rfl, b1⟩
  have R1 := Lib.hid (RB.out.below b1)
  have B1 := Lib.hid (B2.out.trans (b1.mono B2.out.size))
  have hsz1 : w.heap.size < w1.heap.size := R1.out.lt
  clear b1 RB B2 HU HLD
  obtain ⟨w2, hw2, k2, b2⟩ := cpA_alloc (A := A) B1.out (by omega)
  have K2 := Lib.hid k2
  have R2 := Lib.hid (R1.out.below b2)
  have B3 := Lib.hid (B1.out.trans (b2.mono B1.out.size))
  clear k2 b2
  go_wp2_with (first | (refine wpList_store_row rfl 99 (.tmp 5) (.tmp 18) rfl w1.heap.size A rfl rfl 99 #[.int .i64 0, .int .i64 0, .int .i64 0, .int .i64 0, .int .i64 0, .int .i64 0, .int .i64 0, .int .u64 0, .int .i64 0, .int .i64 0, .int .i64 0, .int .i64 0, .int .i64 0, .int .i64 0, .int .i64 0, .int .u64 0, .bool false, .bool false] (Blk.new w1 _ _) HCA.out.info HCA.out.sz HCA.out.one ?_; rw [hw2]) | (refine wpList_load_row rfl 99 (.tmp 5) rfl w1.heap.size rfl 99 A (0, 0) _ K2.out Tryd.underlying99 rfl HCA.out.info ?_))
  (with_reducible refine (HNW.out _).mono ?_)
  rintro e w3 ⟨rfl, b3⟩
  have K3 := Lib.hid (K2.out.below b3)
  have R3 := Lib.hid (R2.out.below b3)
  have B4 := Lib.hid (B3.out.trans (b3.mono B3.out.size))
  clear b3 HNW hw2 K2 R2 B3 R1 B1
  generalize w1.heap.size = cb at *
  have s0 := R3.out.cell (i := 0) (v := .int .i64 0) rfl; have s1 := R3.out.cell (i := 1) (v := .int .i64 0) rfl; have s2 := R3.out.cell (i := 2) (v := .int .i64 0) rfl; have s3 := R3.out.cell (i := 3) (v := .int .i64 0) rfl
  have s4 := R3.out.cell (i := 4) (v := .int .i64 0) rfl; have s5 := R3.out.cell (i := 5) (v := .int .i64 0) rfl; have s6 := R3.out.cell (i := 6) (v := .int .i64 0) rfl; have s7 := R3.out.cell (i := 7) (v := .int .u64 0) rfl
  have f0 := R3.out.frozen 0; have f1 := R3.out.frozen 1; have f2 := R3.out.frozen 2; have f3 := R3.out.frozen 3; have f4 := R3.out.frozen 4; have f5 := R3.out.frozen 5; have f6 := R3.out.frozen 6; have f7 := R3.out.frozen 7
  cases hG : newG D.cur D.n
  · have HS : Hid (opS D.cur D.n = Sup.zero ∧ opE D.cur D.n = 10) := ⟨by unfold opS; rw [hG]; rfl, by unfold opE; rw [hG]; rfl⟩
    clear hG
    go_wp2_with fail
    refine bodyPost_ret (v := .tuple #[.agg #[.int .i64 0, .int .i64 0, .int .i64 0, .int .i64 0, .int .i64 0, .int .i64 0, .int .i64 0, .int .u64 0], .int .i64 10]) (by simp [results, Tryd.results19, go_sem, s0, s1, s2, s3, s4, s5, s6, s7]) rfl ⟨by rw [HS.out.1, HS.out.2]; rfl, ?_⟩
    exact below_set8 B4.out (Nat.le_refl _) 0 _ _ _ _ _ _ _ _
  · have HS : Hid (opS D.cur D.n = newS D.cur D.n ∧ opE D.cur D.n = 0) := ⟨by unfold opS; rw [hG]; rfl, by unfold opE; rw [hG]; rfl⟩
    clear hG
    obtain ⟨q, hq⟩ : ∃ q, newA D.cur D.n = q := ⟨_, rfl⟩
    have hS : newS D.cur D.n = cpS D.cur D.n q := by unfold newS; rw [hq]
    have hq1 : q = 0 ∨ q = 1 := by rw [← hq]; unfold newA; split <;> simp
    rw [hq]
    have HSS := Lib.hid hS
    have HAE := Lib.hid (HAA.out)
    clear hq hS HAA
    obtain rfl | rfl := hq1
    · obtain ⟨z0, z1, z2, z3, z4, z5, z6, z7, hz⟩ := Sup.ex (cpS D.cur D.n 0)
      have K4 := K3.out
      rw [HAE.out, hz] at K4
      have HZ := Lib.hid hz
      have c0 : w3.cell? ⟨cb, 0, none⟩ = some (.int .i64 z0) := K4.cell rfl
      have c1 : w3.cell? ⟨cb, 1, none⟩ = some (.int .i64 z1) := K4.cell rfl
      have c2 : w3.cell? ⟨cb, 2, none⟩ = some (.int .i64 z2) := K4.cell rfl
      have c3 : w3.cell? ⟨cb, 3, none⟩ = some (.int .i64 z3) := K4.cell rfl
      have c4 : w3.cell? ⟨cb, 4, none⟩ = some (.int .i64 z4) := K4.cell rfl
      have c5 : w3.cell? ⟨cb, 5, none⟩ = some (.int .i64 z5) := K4.cell rfl
      have c6 : w3.cell? ⟨cb, 6, none⟩ = some (.int .i64 z6) := K4.cell rfl
      have c7 : w3.cell? ⟨cb, 7, none⟩ = some (.int .u64 z7) := K4.cell rfl
      clear K4 hz K3
      rw [show ((0 : Nat) : Int) = 0 from rfl]
      go_wp2_with fail
      refine bodyPost_ret (v := .tuple #[.agg #[.int .i64 z0, .int .i64 z1, .int .i64 z2, .int .i64 z3, .int .i64 z4, .int .i64 z5, .int .i64 z6, .int .u64 z7], .int .i64 0]) (by simp [results, Tryd.results19, go_sem, s0, s1, s2, s3, s4, s5, s6, s7]) rfl ⟨by rw [HS.out.1, HS.out.2, HSS.out, HZ.out]; rfl, ?_⟩
      exact below_set8 B4.out (Nat.le_refl _) 0 _ _ _ _ _ _ _ _
    · obtain ⟨z0, z1, z2, z3, z4, z5, z6, z7, hz⟩ := Sup.ex (cpS D.cur D.n 1)
      have K4 := K3.out
      rw [HAE.out, hz] at K4
      have HZ := Lib.hid hz
      have c0 : w3.cell? ⟨cb, 8, none⟩ = some (.int .i64 z0) := K4.cell rfl
      have c1 : w3.cell? ⟨cb, 9, none⟩ = some (.int .i64 z1) := K4.cell rfl
      have c2 : w3.cell? ⟨cb, 10, none⟩ = some (.int .i64 z2) := K4.cell rfl
      have c3 : w3.cell? ⟨cb, 11, none⟩ = some (.int .i64 z3) := K4.cell rfl
      have c4 : w3.cell? ⟨cb, 12, none⟩ = some (.int .i64 z4) := K4.cell rfl
      have c5 : w3.cell? ⟨cb, 13, none⟩ = some (.int .i64 z5) := K4.cell rfl
      have c6 : w3.cell? ⟨cb, 14, none⟩ = some (.int .i64 z6) := K4.cell rfl
      have c7 : w3.cell? ⟨cb, 15, none⟩ = some (.int .u64 z7) := K4.cell rfl
      clear K4 hz K3
      rw [show ((1 : Nat) : Int) = 1 from rfl]
      go_wp2_with fail
      refine bodyPost_ret (v := .tuple #[.agg #[.int .i64 z0, .int .i64 z1, .int .i64 z2, .int .i64 z3, .int .i64 z4, .int .i64 z5, .int .i64 z6, .int .u64 z7], .int .i64 0]) (by simp [results, Tryd.results19, go_sem, s0, s1, s2, s3, s4, s5, s6, s7]) rfl ⟨by rw [HS.out.1, HS.out.2, HSS.out, HZ.out]; rfl, ?_⟩
      exact below_set8 B4.out (Nat.le_refl _) 0 _ _ _ _ _ _ _ _
end
end Go.Proofs.YtbpaamnofkhonaaDoor

/- The walks of the superblock's usableFor, Plan, Update, Format. -/
namespace Go.Proofs.YtbpaamnofkhonaaDoor
open Go.RowKit Go.Maps
attribute [local go_sem ↓] Go.wp_at_zero Go.wp_at_succ

section
variable {w : World} {v : DV} {own : Nat → Option Role} {D : Dev} {j : Nat}
set_option maxRecDepth 100000 in
set_option maxHeartbeats 8000000 in
theorem usableFor_any (h : IsDev w v own D) (hj : j < 8) (hn : 2 ≤ D.n) (s : Sup) (hok : s.Ok) (hl : s.lin ≤ D.n) : Calls Tryd.prog 52 #[.iface 49 (.pointer (some ⟨v.tb j, 0, none⟩)), .agg s.cells] w fun r w' => r = .returned (.int .i64 (D.err j)) ∧ Below w.heap.size w w' := by
  have hm1 := meth_Err ⟨v.tb j, 0, none⟩
  have H := Lib.hid h
  have HLO := Lib.hid (fun wx (hx : IsDev wx v own D) => linesOf_any hx hj)
  have HER := Lib.hid (fun wx (hx : IsDev wx v own D) => err_any hx hj)
  have hv := fun wx => valid_any (w := wx) s
  rw [Sup.okB_true hok] at hv
  have HV := Lib.hid hv
  have hn2 := h.wf.le
  have l1 := hok.l1
  obtain ⟨ver, lin, redo, und, desc, que, tab, gen⟩ := s
  unfold Sup.cells at *
  simp only at hl l1 HV
  have hu : IntKind.u64.wrap lin = lin := IntWalk.u64_in _ (by omega)
  have d1 : decide ((D.n : Int) < lin) = false := by simp; omega
  have d2 : decide ((D.n : Int) < 2) = false := by simp; omega
  have B0 := Lib.hid ((below_alloc w (.cells #[.int .i64 ver, .int .i64 lin, .int .i64 redo, .int .i64 und, .int .i64 desc, .int .i64 que, .int .i64 tab, .int .u64 gen] 29)).drew)
  have K0 : Hid (Blk (w.alloc (.cells #[.int .i64 ver, .int .i64 lin, .int .i64 redo, .int .i64 und, .int .i64 desc, .int .i64 que, .int .i64 tab, .int .u64 gen] 29)).drew w.heap.size #[.int .i64 ver, .int .i64 lin, .int .i64 redo, .int .i64 und, .int .i64 desc, .int .i64 que, .int .i64 tab, .int .u64 gen] 29) := (Blk.new w _ _).drew
  have z0 : (w.alloc (.cells #[.int .i64 ver, .int .i64 lin, .int .i64 redo, .int .i64 und, .int .i64 desc, .int .i64 que, .int .i64 tab, .int .u64 gen] 29)).drew.cell? ⟨w.heap.size, 0, none⟩ = some (.int .i64 ver) := K0.out.cell rfl
  have z1 : (w.alloc (.cells #[.int .i64 ver, .int .i64 lin, .int .i64 redo, .int .i64 und, .int .i64 desc, .int .i64 que, .int .i64 tab, .int .u64 gen] 29)).drew.cell? ⟨w.heap.size, 1, none⟩ = some (.int .i64 lin) := K0.out.cell rfl
  have z2 : (w.alloc (.cells #[.int .i64 ver, .int .i64 lin, .int .i64 redo, .int .i64 und, .int .i64 desc, .int .i64 que, .int .i64 tab, .int .u64 gen] 29)).drew.cell? ⟨w.heap.size, 2, none⟩ = some (.int .i64 redo) := K0.out.cell rfl
  have z3 : (w.alloc (.cells #[.int .i64 ver, .int .i64 lin, .int .i64 redo, .int .i64 und, .int .i64 desc, .int .i64 que, .int .i64 tab, .int .u64 gen] 29)).drew.cell? ⟨w.heap.size, 3, none⟩ = some (.int .i64 und) := K0.out.cell rfl
  have z4 : (w.alloc (.cells #[.int .i64 ver, .int .i64 lin, .int .i64 redo, .int .i64 und, .int .i64 desc, .int .i64 que, .int .i64 tab, .int .u64 gen] 29)).drew.cell? ⟨w.heap.size, 4, none⟩ = some (.int .i64 desc) := K0.out.cell rfl
  have z5 : (w.alloc (.cells #[.int .i64 ver, .int .i64 lin, .int .i64 redo, .int .i64 und, .int .i64 desc, .int .i64 que, .int .i64 tab, .int .u64 gen] 29)).drew.cell? ⟨w.heap.size, 5, none⟩ = some (.int .i64 que) := K0.out.cell rfl
  have z6 : (w.alloc (.cells #[.int .i64 ver, .int .i64 lin, .int .i64 redo, .int .i64 und, .int .i64 desc, .int .i64 que, .int .i64 tab, .int .u64 gen] 29)).drew.cell? ⟨w.heap.size, 6, none⟩ = some (.int .i64 tab) := K0.out.cell rfl
  have z7 : (w.alloc (.cells #[.int .i64 ver, .int .i64 lin, .int .i64 redo, .int .i64 und, .int .i64 desc, .int .i64 que, .int .i64 tab, .int .u64 gen] 29)).drew.cell? ⟨w.heap.size, 7, none⟩ = some (.int .u64 gen) := K0.out.cell rfl
  clear h hok hl l1 hv
  go_enter Tryd.func52, Tryd.ntmps52
  go_upto_region 1 with fail
  go_cut [24] from 5 to 23 (fun b wx => b = .bool false ∧ Below w.heap.size w wx)
  case first =>
    refine wp_region_any (by kernel_rfl) ?_
    change wpAny _ _ _ _ _ _ _ (World.drew _)
    refine wpAny_ready (rs := [0]) (by kernel_rfl) (by simp) ?_
    refine AllReady.cons rfl (fun K hK => ?_) AllReady.nil
    go_simp
    refine hK _ _ ?_
    clear hK K
    refine wpAny_ready (rs := [1]) (by kernel_rfl) (by simp) ?_
    refine AllReady.cons rfl (fun K hK => ?_) AllReady.nil
    go_simp
    refine hK _ _ ?_
    clear hK K
    refine wpAny_ready (rs := [2]) (by kernel_rfl) (by simp) ?_
    refine AllReady.cons rfl (fun K hK => ?_) AllReady.nil
    go_simp
    refine hK _ _ ?_
    clear hK K
    refine wpAny_ready (rs := [3]) (by kernel_rfl) (by simp) ?_
    refine AllReady.cons rfl (fun K hK => ?_) AllReady.nil
    go_simp
    refine hK _ _ ?_
    clear hK K
    refine wpAny_ready (rs := [4]) (by kernel_rfl) (by simp) ?_
    refine AllReady.cons rfl (fun K hK => ?_) AllReady.nil
    go_simp
    (with_reducible refine (HLO.out _ (H.out.below B0.out)).mono ?_)
    rintro e w' ⟨rfl, rfl⟩
    go_simp
    refine hK _ _ ?_
    clear hK K
    refine wpAny_ready (rs := [5]) (by kernel_rfl) (by simp) ?_
    refine AllReady.cons rfl (fun K hK => ?_) AllReady.nil
    go_simp
    refine hK _ _ ?_
    clear hK K
    refine wpAny_ready (rs := [6]) (by kernel_rfl) (by simp) ?_
    refine AllReady.cons rfl (fun K hK => ?_) AllReady.nil
    go_simp
    refine hK _ _ ?_
    clear hK K
    refine wpAny_ready (rs := [7]) (by kernel_rfl) (by simp) ?_
    refine AllReady.cons rfl (fun K hK => ?_) AllReady.nil
    go_simp
    refine hK _ _ ?_
    clear hK K
    refine wpAny_ready (rs := [8]) (by kernel_rfl) (by simp) ?_
    refine AllReady.cons rfl (fun K hK => ?_) AllReady.nil
    go_simp
    refine hK _ _ ?_
    clear hK K
    refine wpAny_ready (rs := [9]) (by kernel_rfl) (by simp) ?_
    refine AllReady.cons rfl (fun K hK => ?_) AllReady.nil
    go_simp
    (with_reducible refine (HV.out _).mono ?_)
    rintro e w4 ⟨rfl, b4⟩
    have K4 := Lib.hid (K0.out.below b4)
    have B4 := Lib.hid (B0.out.trans (b4.mono B0.out.size))
    have c1 : w4.cell? ⟨w.heap.size, 1, none⟩ = some (.int .i64 lin) := K4.out.cell rfl
    clear b4
    go_simp
    refine hK _ _ ?_
    clear hK K
    refine wpAny_ready (rs := [10]) (by kernel_rfl) (by simp) ?_
    refine AllReady.cons rfl (fun K hK => ?_) AllReady.nil
    go_simp
    refine hK _ _ ?_
    clear hK K
    refine wpAny_ready (rs := [11]) (by kernel_rfl) (by simp) ?_
    refine AllReady.cons rfl (fun K hK => ?_) AllReady.nil
    go_simp
    refine hK _ _ ?_
    clear hK K
    refine wpAny_ready (rs := [12]) (by kernel_rfl) (by simp) ?_
    refine AllReady.cons rfl (fun K hK => ?_) AllReady.nil
    go_simp
    refine hK _ _ ?_
    clear hK K
    refine wpAny_take (i := 13) (v := .pointer (some ⟨w.heap.size, 1, none⟩)) rfl (by kernel_rfl) (by kernel_rfl) (by kernel_rfl) (fun _ _ _ h => h) (Or.inl ⟨by kernel_rfl, fun w => by go_simp⟩) ?_
    refine wpAny_take (i := 16) (v := .iface 49 (.pointer (some ⟨v.tb j, 0, none⟩))) rfl (by kernel_rfl) (by kernel_rfl) (by kernel_rfl) (fun _ _ _ h => h) (Or.inl ⟨by kernel_rfl, fun w => by go_simp⟩) ?_
    refine wpAny_ready (rs := [14, 17]) (by kernel_rfl) (by simp) ?_
    refine AllReady.cons rfl (fun K hK => ?_) (AllReady.cons rfl (fun K hK => ?_) AllReady.nil)
    · go_simp
      refine hK _ _ ?_
      clear hK K
      refine wpAny_take (i := 15) (v := .int .u64 lin) rfl (by kernel_rfl) (by kernel_rfl) (by kernel_rfl) (fun _ _ _ h => h) (Or.inl ⟨by kernel_rfl, fun w => by go_simp⟩) ?_
      refine wpAny_ready (rs := [17]) (by kernel_rfl) (by simp) ?_
      refine AllReady.cons rfl (fun K hK => ?_) AllReady.nil
      go_simp
      (with_reducible refine (HLO.out _ (H.out.below B4.out)).mono ?_)
      rintro e w' ⟨rfl, rfl⟩
      go_simp
      refine hK _ _ ?_
      clear hK K
      refine wpAny_ready (rs := [18]) (by kernel_rfl) (by simp) ?_
      refine AllReady.cons rfl (fun K hK => ?_) AllReady.nil
      go_simp
      refine hK _ _ ?_
      clear hK K
      refine wpAny_ready (rs := [19]) (by kernel_rfl) (by simp) ?_
      refine AllReady.cons rfl (fun K hK => ?_) AllReady.nil
      go_simp
      refine hK _ _ ?_
      clear hK K
      refine wpAny_done (by kernel_rfl) ?_ _
      go_wp2_with fail
      go_meet
      exact ⟨rfl, B4.out⟩
    · go_simp
      (with_reducible refine (HLO.out _ (H.out.below B4.out)).mono ?_)
      rintro e w' ⟨rfl, rfl⟩
      go_simp
      refine hK _ _ ?_
      clear hK K
      refine wpAny_ready (rs := [14]) (by kernel_rfl) (by simp) ?_
      refine AllReady.cons rfl (fun K hK => ?_) AllReady.nil
      go_simp
      refine hK _ _ ?_
      clear hK K
      refine wpAny_ready (rs := [15]) (by kernel_rfl) (by simp) ?_
      refine AllReady.cons rfl (fun K hK => ?_) AllReady.nil
      go_simp
      refine hK _ _ ?_
      clear hK K
      refine wpAny_ready (rs := [18]) (by kernel_rfl) (by simp) ?_
      refine AllReady.cons rfl (fun K hK => ?_) AllReady.nil
      go_simp
      refine hK _ _ ?_
      clear hK K
      refine wpAny_ready (rs := [19]) (by kernel_rfl) (by simp) ?_
      refine AllReady.cons rfl (fun K hK => ?_) AllReady.nil
      go_simp
      refine hK _ _ ?_
      clear hK K
      refine wpAny_done (by kernel_rfl) ?_ _
      go_wp2_with fail
      go_meet
      exact ⟨rfl, B4.out⟩
  case rest =>
    obtain ⟨rfl, hb⟩ := hcut
    rename World => wx
    have BX := Lib.hid hb
    clear hb z0 z1 z2 z3 z4 z5 z6 z7
    go_wp2_with fail
    (with_reducible refine (HER.out _ (H.out.below BX.out)).mono ?_)
    rintro e w' ⟨rfl, rfl⟩
    go_wp2_with fail
    go_ret
    exact ⟨rfl, BX.out⟩
theorem Sup.Ok.fits {s : Sup} (h : s.Ok) (g1 : 0 ≤ s.gen) (g2 : s.gen < 18446744073709551616) : s.Fits := by
  obtain ⟨v1, v2, l1, l2, r1, u1, d1, q1, t1, r2, u2, d2, q2, t2, _⟩ := h
  exact ⟨g1, g2, by omega, by omega, by omega, by omega, by omega, by omega, by omega, by omega, by omega, by omega, by omega, by omega, by omega, by omega⟩
theorem cpS_gen {C : Nat → Int} (hC : ∀ i, 0 ≤ C i ∧ C i < 18446744073709551616) (n i : Nat) : 0 ≤ (cpS C n i).gen ∧ (cpS C n i).gen < 18446744073709551616 := by
  unfold cpS decoded
  split
  · rw [of_gen]
    have := hC (8 * i + 1)
    show 0 ≤ (((C (8 * i + 1)).toNat : Nat) : Int) ∧ (((C (8 * i + 1)).toNat : Nat) : Int) < 18446744073709551616
    omega
  · decide
/-- What Plan answers on a device that is on. -/
def PlPost (w : World) (C : Nat → Int) (n : Nat) (s : Sup) (r : Ending) (w' : World) : Prop :=
  (newG C n = false ∧ r = .returned (.tuple #[.slice none 0 0, .int .i64 10]) ∧ Below w.heap.size w w') ∨
  (newG C n = true ∧ (newS C n).gen = 18446744073709551615 ∧ r = .returned (.tuple #[.slice none 0 0, .int .i64 9]) ∧ Below w.heap.size w w') ∨
  (newG C n = true ∧ (newS C n).gen ≠ 18446744073709551615 ∧ ∃ ov, r = .returned (.tuple #[ov, .int .i64 0]) ∧
    Acc w w.heap.size w' 131 3 ov (sbP (s.withGen ((newS C n).gen + 1)) (1 - newA C n)).length (instrC (sbP (s.withGen ((newS C n).gen + 1)) (1 - newA C n))))
set_option maxRecDepth 100000 in
set_option maxHeartbeats 16000000 in
theorem sbPlan_any (hN : Nib w) (h : IsDev w v own D) (hj : j < 8) (hof : D.off = false) (he : D.err j = 0) (hvb : D.VB) (hn : 2 ≤ D.n) (s : Sup) (hok : s.Ok) (hl : s.lin ≤ D.n) (hg1 : 0 ≤ s.gen) (hg2 : s.gen < 18446744073709551616) :
    Calls Tryd.prog 26 #[.iface 49 (.pointer (some ⟨v.tb j, 0, none⟩)), .agg s.cells] w (PlPost w D.cur D.n s) := by
  have H := Lib.hid h; have HNB := Lib.hid hN
  have HF := Lib.hid (hok.fits hg1 hg2)
  have hus := fun wx (hx : IsDev wx v own D) => usableFor_any hx hj hn s hok hl
  rw [he] at hus
  have HU := Lib.hid hus
  have hld := fun wx (hx : IsDev wx v own D) (hnx : Nib wx) => sbload_any hnx hx hj hof hvb hn
  rw [he] at hld
  have HLD := Lib.hid hld
  have HCA := Lib.hid (ldA_cpA D.cur D.n)
  have HNW := Lib.hid (fun (wx : World) => newest_any (w := wx) (cpS D.cur D.n 0) (cpS D.cur D.n 1) (cpG D.cur D.n 0) (cpG D.cur D.n 1) (newA D.cur D.n) (newG D.cur D.n) rfl rfl)
  have HAE : Hid (ldA D.cur D.n 2 = cpsA (cpS D.cur D.n 0) (cpS D.cur D.n 1) (cpG D.cur D.n 0) (cpG D.cur D.n 1)) := rfl
  have hgm := cpS_gen hvb.cur D.n
  rw [← HAE.out] at HNW
  generalize ldA D.cur D.n 2 = A at *
  obtain ⟨ver, lin, redo, und, desc, que, tab, gen⟩ := s
  unfold Sup.cells at *
  have B2 := Lib.hid (below_alloc w (.cells #[.int .i64 ver, .int .i64 lin, .int .i64 redo, .int .i64 und, .int .i64 desc, .int .i64 que, .int .i64 tab, .int .u64 gen] 29))
  have K0 := Lib.hid (Blk.new w #[.int .i64 ver, .int .i64 lin, .int .i64 redo, .int .i64 und, .int .i64 desc, .int .i64 que, .int .i64 tab, .int .u64 gen] 29)
  simp only at HU hg1 hg2
  clear h hN hvb hus hld hok hl
  go_enter Tryd.func26, Tryd.ntmps26
  go_wp2_with fail
  (with_reducible refine (HU.out _ (H.out.alloc _)).mono ?_)
  rintro e w1 ⟨rfl, b1⟩
  have K1 := Lib.hid (K0.out.below b1)
  have B1 := Lib.hid (B2.out.trans (b1.mono B2.out.size))
  clear b1 K0 B2 HU
  go_wp2_with fail
  (with_reducible refine (HLD.out _ (H.out.below B1.out) (HNB.out.below B1.out)).mono ?_)
  rintro e w2 ⟨rfl, b2⟩
  have K2 := Lib.hid (K1.out.below b2)
  have B2 := Lib.hid (B1.out.trans (b2.mono B1.out.size))
  have hsz2 : w.heap.size < w2.heap.size := K2.out.lt
  clear b2 K1 B1 HLD
  obtain ⟨w9, hw9, k9, b9⟩ := cpA_alloc (A := A) B2.out (by omega)
  have C9 := Lib.hid k9
  have K9 := Lib.hid (K2.out.below b9)
  have B9 := Lib.hid (B2.out.trans (b9.mono B2.out.size))
  clear k9 b9
  go_wp2_with (first | (refine wpList_store_row rfl 99 (.tmp 7) (.tmp 20) rfl w2.heap.size A rfl rfl 99 #[.int .i64 0, .int .i64 0, .int .i64 0, .int .i64 0, .int .i64 0, .int .i64 0, .int .i64 0, .int .u64 0, .int .i64 0, .int .i64 0, .int .i64 0, .int .i64 0, .int .i64 0, .int .i64 0, .int .i64 0, .int .u64 0, .bool false, .bool false] (Blk.new w2 _ _) HCA.out.info HCA.out.sz HCA.out.one ?_; rw [hw9]) | (refine wpList_load_row rfl 99 (.tmp 7) rfl w2.heap.size rfl 99 A (0, 0) _ C9.out Tryd.underlying99 rfl HCA.out.info ?_))
  (with_reducible refine (HNW.out _).mono ?_)
  rintro e w3 ⟨rfl, b3⟩
  have C3 := Lib.hid (C9.out.below b3)
  have K3 := Lib.hid (K9.out.below b3)
  have B4 := Lib.hid (B9.out.trans (b3.mono B9.out.size))
  clear b3 HNW hw9 C9 K9 B9 K2 B2
  generalize w2.heap.size = cb at *
  cases hG : newG D.cur D.n
  · have HG := Lib.hid hG
    clear hG
    go_wp2_with fail
    go_ret2
    exact .inl ⟨HG.out, rfl, B4.out⟩
  · have HG := Lib.hid hG
    clear hG
    have z0 : w3.cell? ⟨w.heap.size, 0, none⟩ = some (.int .i64 ver) := K3.out.cell rfl
    have z1 : w3.cell? ⟨w.heap.size, 1, none⟩ = some (.int .i64 lin) := K3.out.cell rfl
    have z2 : w3.cell? ⟨w.heap.size, 2, none⟩ = some (.int .i64 redo) := K3.out.cell rfl
    have z3 : w3.cell? ⟨w.heap.size, 3, none⟩ = some (.int .i64 und) := K3.out.cell rfl
    have z4 : w3.cell? ⟨w.heap.size, 4, none⟩ = some (.int .i64 desc) := K3.out.cell rfl
    have z5 : w3.cell? ⟨w.heap.size, 5, none⟩ = some (.int .i64 que) := K3.out.cell rfl
    have z6 : w3.cell? ⟨w.heap.size, 6, none⟩ = some (.int .i64 tab) := K3.out.cell rfl
    have z7 : w3.cell? ⟨w.heap.size, 7, none⟩ = some (.int .u64 gen) := K3.out.cell rfl
    obtain ⟨q, hq⟩ : ∃ q, newA D.cur D.n = q := ⟨_, rfl⟩
    have hS : newS D.cur D.n = cpS D.cur D.n q := by unfold newS; rw [hq]
    have hq1 : q = 0 ∨ q = 1 := by rw [← hq]; unfold newA; split <;> simp
    have hgb := hgm q
    rw [hq]
    have HQ := Lib.hid hq
    clear hq
    obtain rfl | rfl := hq1
    · have hgm := hgb
      have K5 := C3.out
      rw [HAE.out] at K5
      have hg : w3.cell? ⟨cb, 7, none⟩ = some (.int .u64 (cpS D.cur D.n 0).gen) := K5.cell rfl
      have HSS := Lib.hid hS
      generalize hG : (cpS D.cur D.n 0).gen = G at *
      have HGG := Lib.hid hG
      clear K5 hS hG
      rw [show ((0 : Nat) : Int) = 0 from rfl]
      by_cases hmx : G = 18446744073709551615
      · have hb : (G == 18446744073709551615) = true := by simpa using hmx
        have HMX := Lib.hid hmx; clear hmx
        go_wp2_with fail
        go_ret2
        exact .inr (.inl ⟨HG.out, by rw [HSS.out, HGG.out]; exact HMX.out, rfl, B4.out⟩)
      · have hb : (G == 18446744073709551615) = false := by simpa using hmx
        have HMX := Lib.hid hmx
        have hw : IntKind.u64.wrap (G + 1) = G + 1 := IntWalk.u64_in _ (by omega)
        have HPR : Hid (∀ wx, Nib wx → Calls Tryd.prog 53 #[.agg #[.int .i64 ver, .int .i64 lin, .int .i64 redo, .int .i64 und, .int .i64 desc, .int .i64 que, .int .i64 tab, .int .u64 (G + 1)], .int .i64 1] wx fun r w' => ∃ ov, r = .returned ov ∧ Acc wx wx.heap.size w' 131 3 ov (sbP ⟨ver, lin, redo, und, desc, que, tab, G + 1⟩ 1).length (instrC (sbP ⟨ver, lin, redo, und, desc, que, tab, G + 1⟩ 1))) :=
          fun wx hx => program_any hx ⟨ver, lin, redo, und, desc, que, tab, G + 1⟩ ⟨by simp only; omega, by simp only; omega, HF.out.v1, HF.out.v2, HF.out.l1, HF.out.l2, HF.out.r1, HF.out.r2, HF.out.u1, HF.out.u2, HF.out.d1, HF.out.d2, HF.out.q1, HF.out.q2, HF.out.t1, HF.out.t2⟩ 1 (by omega)
        have B5 : Hid (Below w.heap.size w (w3.setCell ⟨w.heap.size, 7, none⟩ (.int .u64 (G + 1)))) := B4.out.setCell (Nat.le_refl _) _
        have f7 := K3.out.frozen 7
        clear hmx hgm
        go_wp2_with fail
        (with_reducible refine (HPR.out _ (HNB.out.below B5.out)).mono ?_)
        rintro e w6 ⟨ov, rfl, a6⟩
        obtain ⟨oa, oc, hov⟩ := a6.slice
        subst hov
        have A6 := Lib.hid (a6.deeper B5.out); clear a6
        go_wp2_with fail
        go_ret2
        refine .inr (.inr ⟨HG.out, by rw [HSS.out, HGG.out]; exact HMX.out, _, rfl, ?_⟩)
        rw [HSS.out, HGG.out, HQ.out]
        exact A6.out
    · have hgm := hgb
      have K5 := C3.out
      rw [HAE.out] at K5
      have hg : w3.cell? ⟨cb, 15, none⟩ = some (.int .u64 (cpS D.cur D.n 1).gen) := K5.cell rfl
      have HSS := Lib.hid hS
      generalize hG : (cpS D.cur D.n 1).gen = G at *
      have HGG := Lib.hid hG
      clear K5 hS hG
      rw [show ((1 : Nat) : Int) = 1 from rfl]
      by_cases hmx : G = 18446744073709551615
      · have hb : (G == 18446744073709551615) = true := by simpa using hmx
        have HMX := Lib.hid hmx; clear hmx
        go_wp2_with fail
        go_ret2
        exact .inr (.inl ⟨HG.out, by rw [HSS.out, HGG.out]; exact HMX.out, rfl, B4.out⟩)
      · have hb : (G == 18446744073709551615) = false := by simpa using hmx
        have HMX := Lib.hid hmx
        have hw : IntKind.u64.wrap (G + 1) = G + 1 := IntWalk.u64_in _ (by omega)
        have HPR : Hid (∀ wx, Nib wx → Calls Tryd.prog 53 #[.agg #[.int .i64 ver, .int .i64 lin, .int .i64 redo, .int .i64 und, .int .i64 desc, .int .i64 que, .int .i64 tab, .int .u64 (G + 1)], .int .i64 0] wx fun r w' => ∃ ov, r = .returned ov ∧ Acc wx wx.heap.size w' 131 3 ov (sbP ⟨ver, lin, redo, und, desc, que, tab, G + 1⟩ 0).length (instrC (sbP ⟨ver, lin, redo, und, desc, que, tab, G + 1⟩ 0))) :=
          fun wx hx => program_any hx ⟨ver, lin, redo, und, desc, que, tab, G + 1⟩ ⟨by simp only; omega, by simp only; omega, HF.out.v1, HF.out.v2, HF.out.l1, HF.out.l2, HF.out.r1, HF.out.r2, HF.out.u1, HF.out.u2, HF.out.d1, HF.out.d2, HF.out.q1, HF.out.q2, HF.out.t1, HF.out.t2⟩ 0 (by omega)
        have B5 : Hid (Below w.heap.size w (w3.setCell ⟨w.heap.size, 7, none⟩ (.int .u64 (G + 1)))) := B4.out.setCell (Nat.le_refl _) _
        have f7 := K3.out.frozen 7
        clear hmx hgm
        go_wp2_with fail
        (with_reducible refine (HPR.out _ (HNB.out.below B5.out)).mono ?_)
        rintro e w6 ⟨ov, rfl, a6⟩
        obtain ⟨oa, oc, hov⟩ := a6.slice
        subst hov
        have A6 := Lib.hid (a6.deeper B5.out); clear a6
        go_wp2_with fail
        go_ret2
        refine .inr (.inr ⟨HG.out, by rw [HSS.out, HGG.out]; exact HMX.out, _, rfl, ?_⟩)
        rw [HSS.out, HGG.out, HQ.out]
        exact A6.out
end
end Go.Proofs.YtbpaamnofkhonaaDoor

/- The walks of the superblock's Update and Format. -/
namespace Go.Proofs.YtbpaamnofkhonaaDoor
open Go.RowKit Go.Maps
attribute [local go_sem ↓] Go.wp_at_zero Go.wp_at_succ

theorem sbP_ok (s : Sup) (i : Nat) (hi : i ≤ 1) : instrOk (sbP s i) := storesL_ok _ (fun e he => by have := (sbWs_line s i (i + 1) (by omega) e he).2.1; omega)
theorem sbP_len (s : Sup) (i : Nat) : (sbP s i).length ≤ 19 := by
  have := storesL_len (sbWs s i)
  have h : (sbWs s i).length = 9 := by rw [sbWs_eq]; rfl
  show (storesL (sbWs s i)).length ≤ 19
  omega
theorem newA_le (C : Nat → Int) (n : Nat) : newA C n ≤ 1 := by unfold newA; split <;> omega
def eraseP : List (Nat × Nat × Int) := storesL [(56, 0), (120, 0)]
theorem eraseP_ok : instrOk eraseP := storesL_ok _ (by decide)
theorem eraseP_len : eraseP.length ≤ 5 := by have := storesL_len [(56, 0), (120, 0)]; show (storesL [(56, 0), (120, 0)]).length ≤ 5; simpa using this
section
variable {w : World} {v : DV} {own : Nat → Option Role} {D : Dev} {j : Nat}
/-- What Update leaves on a device that is on. -/
def UpPost (w : World) (v : DV) (own : Nat → Option Role) (D : Dev) (j : Nat) (s : Sup) (r : Ending) (w' : World) : Prop :=
  (newG D.cur D.n = false ∧ r = .returned (.int .i64 10) ∧ Below w.heap.size w w') ∨
  (newG D.cur D.n = true ∧ (newS D.cur D.n).gen = 18446744073709551615 ∧ r = .returned (.int .i64 9) ∧ Below w.heap.size w w') ∨
  (newG D.cur D.n = true ∧ (newS D.cur D.n).gen ≠ 18446744073709551615 ∧ r = .returned (.int .i64 ((D.run j (sbP (s.withGen ((newS D.cur D.n).gen + 1)) (1 - newA D.cur D.n))).err j)) ∧
    DPost v own w (D.run j (sbP (s.withGen ((newS D.cur D.n).gen + 1)) (1 - newA D.cur D.n))) w')
set_option maxRecDepth 100000 in
set_option maxHeartbeats 4000000 in
theorem sbUpdate_any (hN : Nib w) (h : IsDev w v own D) (hj : j < 8) (hof : D.off = false) (he : D.err j = 0) (hvb : D.VB) (hn : 2 ≤ D.n) (s : Sup) (hok : s.Ok) (hl : s.lin ≤ D.n) (hg1 : 0 ≤ s.gen) (hg2 : s.gen < 18446744073709551616) (hx : D.exec + 100000 < 4294967296) :
    Calls Tryd.prog 29 #[.iface 49 (.pointer (some ⟨v.tb j, 0, none⟩)), .agg s.cells] w (UpPost w v own D j s) := by
  have HP := Lib.hid (fun (wx : World) (hx : IsDev wx v own D) (hnx : Nib wx) => sbPlan_any hnx hx hj hof he hvb hn s hok hl hg1 hg2)
  have HR := Lib.hid (fun (wa wb : World) (pv : Value) (hd : IsDev wa v own D) (ha : Acc wa wa.heap.size wb 131 3 pv (sbP (s.withGen ((newS D.cur D.n).gen + 1)) (1 - newA D.cur D.n)).length (instrC (sbP (s.withGen ((newS D.cur D.n).gen + 1)) (1 - newA D.cur D.n)))) =>
    run_acc hd hj ha (sbP_ok _ _ (by omega)) (by have := sbP_len (s.withGen ((newS D.cur D.n).gen + 1)) (1 - newA D.cur D.n); omega) hx)
  have H := Lib.hid h; have HNB := Lib.hid hN
  have B0 := Lib.hid (below_alloc w (.cells s.cells 29))
  obtain ⟨ver, lin, redo, und, desc, que, tab, gen⟩ := s
  unfold Sup.cells at *
  clear h hN hvb hok hl hg1 hg2 he
  go_enter Tryd.func29, Tryd.ntmps29
  go_wp2_with fail
  (with_reducible refine (HP.out _ (H.out.below B0.out) (HNB.out.below B0.out)).mono ?_)
  rintro e w1 (⟨h1, rfl, b1⟩ | ⟨h1, h2, rfl, b1⟩ | ⟨h1, h2, ov, rfl, a1⟩)
  · have HH := Lib.hid h1
    have B1 := Lib.hid (B0.out.trans (b1.mono B0.out.size)); clear b1 h1
    go_wp2_with fail
    go_ret
    exact .inl ⟨HH.out, rfl, B1.out⟩
  · have HH := Lib.hid (And.intro h1 h2)
    have B1 := Lib.hid (B0.out.trans (b1.mono B0.out.size)); clear b1 h1 h2
    go_wp2_with fail
    go_ret
    exact .inr (.inl ⟨HH.out.1, HH.out.2, rfl, B1.out⟩)
  · have HH := Lib.hid (And.intro h1 h2)
    have HR1 := Lib.hid (HR.out _ _ _ (H.out.below B0.out) a1)
    obtain ⟨oa, oc, hov⟩ := a1.slice
    subst hov
    clear h1 h2 a1 HR
    go_wp2_with fail
    (with_reducible refine HR1.out.mono ?_)
    rintro e w2 ⟨rfl, p2⟩
    have P2 := Lib.hid (p2.past B0.out); clear p2
    go_wp2_with fail
    go_ret
    exact .inr (.inr ⟨HH.out.1, HH.out.2, rfl, P2.out⟩)
set_option maxRecDepth 100000 in
set_option maxHeartbeats 8000000 in
theorem sbFormat_any (hN : Nib w) (h : IsDev w v own D) (hj : j < 8) (he : D.err j = 0) (hn : 2 ≤ D.n) (s : Sup) (hok : s.Ok) (hl : s.lin ≤ D.n) (hx : D.exec + 100000 < 4294967296) :
    Calls Tryd.prog 28 #[.iface 49 (.pointer (some ⟨v.tb j, 0, none⟩)), .agg s.cells] w fun r w' => r = .returned (.int .i64 ((D.run j (eraseP ++ sbP (s.withGen 1) 0)).err j)) ∧ DPost v own w (D.run j (eraseP ++ sbP (s.withGen 1) 0)) w' := by
  have H := Lib.hid h; have HNB := Lib.hid hN
  have hus := fun wx (hx : IsDev wx v own D) => usableFor_any hx hj hn s hok hl
  rw [he] at hus
  have HU := Lib.hid hus
  have HR := Lib.hid (fun (wb : World) (pv : Value) (ha : Acc w w.heap.size wb 131 3 pv (eraseP ++ sbP (s.withGen 1) 0).length (instrC (eraseP ++ sbP (s.withGen 1) 0))) =>
    run_acc h hj ha (instrOk_append eraseP_ok (sbP_ok _ _ (by omega))) (by have := sbP_len (s.withGen 1) 0; have := eraseP_len; rw [List.length_append]; omega) hx)
  have HTL : Hid (eraseP.length + (sbP (s.withGen 1) 0).length ≤ 100000) := by have := sbP_len (s.withGen 1) 0; have := eraseP_len; show _ ≤ _; omega
  have HPR := Lib.hid (fun wx (hx : Nib wx) => program_any hx (s.withGen 1) ((show (s.withGen 1).Ok from ⟨hok.v1, hok.v2, hok.l1, hok.l2, hok.r1, hok.u1, hok.d1, hok.q1, hok.t1, hok.r2, hok.u2, hok.d2, hok.q2, hok.t2, hok.h⟩).fits (show (0 : Int) ≤ 1 by omega) (show (1 : Int) < 18446744073709551616 by omega)) 0 (by omega))
  have HER := Lib.hid (fun (wx : World) (sv : Value) (hx : RdSl wx 2 sv 2 (flat [(56, 0), (120, 0)])) => stores_any (w := wx) sv [(56, 0), (120, 0)] hx (by simp) (by decide))
  generalize hP : sbP (s.withGen 1) 0 = P at *
  obtain ⟨ver, lin, redo, und, desc, que, tab, gen⟩ := s
  have HPR2 : Hid (∀ wx, Nib wx → Calls Tryd.prog 53 #[.agg #[.int .i64 ver, .int .i64 lin, .int .i64 redo, .int .i64 und, .int .i64 desc, .int .i64 que, .int .i64 tab, .int .u64 1], .int .i64 0] wx fun r w' => ∃ ov, r = .returned ov ∧ Acc wx wx.heap.size w' 131 3 ov P.length (instrC P)) := HPR.out
  have HEQ : Hid (storesL [(56, 0), (120, 0)] = eraseP) := rfl
  rw [HEQ.out] at HER
  generalize eraseP = E at *
  unfold Sup.cells at *
  have B0 := Lib.hid (below_alloc w (.cells #[.int .i64 ver, .int .i64 lin, .int .i64 redo, .int .i64 und, .int .i64 desc, .int .i64 que, .int .i64 tab, .int .u64 gen] 29))
  have K0 := Lib.hid (Blk.new w #[.int .i64 ver, .int .i64 lin, .int .i64 redo, .int .i64 und, .int .i64 desc, .int .i64 que, .int .i64 tab, .int .u64 gen] 29)
  clear h hN hus hok hl he hP HPR
  go_enter Tryd.func28, Tryd.ntmps28
  go_wp2_with fail
  (with_reducible refine (HU.out _ (H.out.below B0.out)).mono ?_)
  rintro e w1 ⟨rfl, b1⟩
  have K1 := Lib.hid (K0.out.below b1)
  have B1 := Lib.hid (B0.out.trans (b1.mono B0.out.size))
  have z7 := K1.out.cell (i := 7) (v := .int .u64 gen) rfl
  have f7 := K1.out.frozen 7
  have K2 : Hid (Blk (w1.setCell ⟨w.heap.size, 7, none⟩ (.int .u64 1)) w.heap.size #[.int .i64 ver, .int .i64 lin, .int .i64 redo, .int .i64 und, .int .i64 desc, .int .i64 que, .int .i64 tab, .int .u64 1] 29) := by
    have := K1.out.set 7 (.int .u64 1)
    show Blk _ _ _ _
    simpa using this
  have B2 : Hid (Below w.heap.size w (w1.setCell ⟨w.heap.size, 7, none⟩ (.int .u64 1))) := B1.out.setCell (Nat.le_refl _) _
  clear b1 K0 HU
  have HE1 := Lib.hid (HER.out ((w1.setCell ⟨w.heap.size, 7, none⟩ (.int .u64 1)).alloc (.cells #[.int .u64 56, .int .u64 0, .int .u64 120, .int .u64 0] 114)) (.slice (some ⟨w1.heap.size, 0, none⟩) 2 2) (by exact RdSl.newAt _ _ _ 2 2 _ (by simp [World.setCell]) rfl))
  go_wp2_with fail
  (with_reducible refine HE1.out.mono ?_)
  rintro e w3 ⟨ov, rfl, a3⟩
  have K3 := Lib.hid ((K2.out.alloc _).below a3.bel)
  have A3 := Lib.hid (a3.deeper (B2.out.trans ((below_alloc _ _).mono B2.out.size)))
  have B3 := Lib.hid A3.out.bel
  obtain ⟨oa, oc, hov⟩ := a3.slice
  subst hov
  have z0 := K3.out.cell (i := 0) (v := .int .i64 ver) rfl; have z1 := K3.out.cell (i := 1) (v := .int .i64 lin) rfl; have z2 := K3.out.cell (i := 2) (v := .int .i64 redo) rfl; have z3 := K3.out.cell (i := 3) (v := .int .i64 und) rfl
  have z4 := K3.out.cell (i := 4) (v := .int .i64 desc) rfl; have z5 := K3.out.cell (i := 5) (v := .int .i64 que) rfl; have z6 := K3.out.cell (i := 6) (v := .int .i64 tab) rfl; have y7 := K3.out.cell (i := 7) (v := .int .u64 1) rfl
  clear a3 HE1 HER K2 B2 z7 f7 K1 B1
  go_wp2_with fail
  (with_reducible refine (HPR2.out _ (HNB.out.below B3.out)).mono ?_)
  rintro e w4 ⟨ov2, rfl, a4⟩
  obtain ⟨pa, pc, hpv⟩ := a4.slice
  subst hpv
  have B4 := Lib.hid (B3.out.trans (a4.bel.mono B3.out.size))
  have HT := Lib.hid (then_any (w := w4) _ _ E P (A3.out.keep a4.bel).rd a4.rd HTL.out)
  clear a4 z0 z1 z2 z3 z4 z5 z6 y7
  go_wp2_with fail
  (with_reducible refine HT.out.mono ?_)
  rintro e w5 ⟨ov3, rfl, a5⟩
  have hr := HR.out _ _ (a5.deeper B4.out)
  obtain ⟨qa, qc, hqv⟩ := a5.slice
  subst hqv
  rw [List.length_append] at hr
  have HR1 := Lib.hid hr; clear hr
  clear a5 HR HT
  go_wp2_with fail
  (with_reducible refine HR1.out.mono ?_)
  rintro e w6 ⟨rfl, p6⟩
  have P6 := Lib.hid p6; clear p6
  go_wp2_with fail
  go_ret
  exact ⟨rfl, P6.out⟩
end
end Go.Proofs.YtbpaamnofkhonaaDoor
