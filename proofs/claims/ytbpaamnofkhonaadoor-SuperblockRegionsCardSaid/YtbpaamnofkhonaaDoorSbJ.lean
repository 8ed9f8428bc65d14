/- The walks of the superblock's Update and Format. -/
import Derived.Test.YtbpaamnofkhonaaDoorSbI
namespace Go.Proofs.YtbpaamnofkhonaaDoor
open Go.RowKit Go.Maps
attribute [local go_sem ↓] Go.wp_at_zero Go.wp_at_succ

theorem sbP_ok (s : Sup) (i : Nat) (hi : i ≤ 1) : instrOk (sbP s i) := storesL_ok _ (fun e he => by have := (sbWs_line s i (i + 1) (by omega) e he).2.1; omega)
theorem sbP_len (s : Sup) (i : Nat) : (sbP s i).length ≤ 19 := by
  have := storesL_len (sbWs s i)
  have h : (sbWs s i).length = 9 := by rw [sbWs_eq]; rfl
  show (storesL (sbWs s i)).length ≤ 19
  omega
theorem newA_le (C : Nat → Int) (n : Nat) : newA C n ≤ 1 := by unfold newA; split <;> omega
def eraseP : List (Nat × Nat × Int) := storesL [(56, 0), (120, 0)]
theorem eraseP_ok : instrOk eraseP := storesL_ok _ (by decide)
theorem eraseP_len : eraseP.length ≤ 5 := by have := storesL_len [(56, 0), (120, 0)]; show (storesL [(56, 0), (120, 0)]).length ≤ 5; simpa using this
section
variable {w : World} {v : DV} {own : Nat → Option Role} {D : Dev} {j : Nat}
/-- What Update leaves on a device that is on. -/
def UpPost (w : World) (v : DV) (own : Nat → Option Role) (D : Dev) (j : Nat) (s : Sup) (r : Ending) (w' : World) : Prop :=
  (newG D.cur D.n = false ∧ r = .returned (.int .i64 10) ∧ Below w.heap.size w w') ∨
  (newG D.cur D.n = true ∧ (newS D.cur D.n).gen = 18446744073709551615 ∧ r = .returned (.int .i64 9) ∧ Below w.heap.size w w') ∨
  (newG D.cur D.n = true ∧ (newS D.cur D.n).gen ≠ 18446744073709551615 ∧ r = .returned (.int .i64 ((D.run j (sbP (s.withGen ((newS D.cur D.n).gen + 1)) (1 - newA D.cur D.n))).err j)) ∧
    DPost v own w (D.run j (sbP (s.withGen ((newS D.cur D.n).gen + 1)) (1 - newA D.cur D.n))) w')
set_option maxRecDepth 100000 in
set_option maxHeartbeats 4000000 in
theorem sbUpdate_any (hN : Nib w) (h : IsDev w v own D) (hj : j < 8) (hof : D.off = false) (he : D.err j = 0) (hvb : D.VB) (hn : 2 ≤ D.n) (s : Sup) (hok : s.Ok) (hl : s.lin ≤ D.n) (hg1 : 0 ≤ s.gen) (hg2 : s.gen < 18446744073709551616) (hx : D.exec + 100000 < 4294967296) :
    Calls Tryd.prog 29 #[.iface 49 (.pointer (some ⟨v.tb j, 0, none⟩)), .agg s.cells] w (UpPost w v own D j s) := by
  have HP := Lib.hid (fun (wx : World) (hx : IsDev wx v own D) (hnx : Nib wx) => sbPlan_any hnx hx hj hof he hvb hn s hok hl hg1 hg2)
  have HR := Lib.hid (fun (wa wb : World) (pv : Value) (hd : IsDev wa v own D) (ha : Acc wa wa.heap.size wb 131 3 pv (sbP (s.withGen ((newS D.cur D.n).gen + 1)) (1 - newA D.cur D.n)).length (instrC (sbP (s.withGen ((newS D.cur D.n).gen + 1)) (1 - newA D.cur D.n)))) =>
    run_acc hd hj ha (sbP_ok _ _ (by omega)) (by have := sbP_len (s.withGen ((newS D.cur D.n).gen + 1)) (1 - newA D.cur D.n); omega) hx)
  have H := Lib.hid h; have HNB := Lib.hid hN
  have B0 := Lib.hid (below_alloc w (.cells s.cells 29))
  obtain ⟨ver, lin, redo, und, desc, que, tab, gen⟩ := s
  unfold Sup.cells at *
  clear h hN hvb hok hl hg1 hg2 he
  go_enter Tryd.func29, Tryd.ntmps29
  go_wp2_with fail
  (with_reducible refine (HP.out _ (H.out.below B0.out) (HNB.out.below B0.out)).mono ?_)
  rintro e w1 (⟨h1, rfl, b1⟩ | ⟨h1, h2, rfl, b1⟩ | ⟨h1, h2, ov, rfl, a1⟩)
  · have HH := Lib.hid h1
    have B1 := Lib.hid (B0.out.trans (b1.mono B0.out.size)); clear b1 h1
    go_wp2_with fail
    go_ret
    exact .inl ⟨HH.out, rfl, B1.out⟩
  · have HH := Lib.hid (And.intro h1 h2)
    have B1 := Lib.hid (B0.out.trans (b1.mono B0.out.size)); clear b1 h1 h2
    go_wp2_with fail
    go_ret
    exact .inr (.inl ⟨HH.out.1, HH.out.2, rfl, B1.out⟩)
  · have HH := Lib.hid (And.intro h1 h2)
    have HR1 := Lib.hid (HR.out _ _ _ (H.out.below B0.out) a1)
    obtain ⟨oa, oc, hov⟩ := a1.slice
    subst hov
    clear h1 h2 a1 HR
    go_wp2_with fail
    (with_reducible refine HR1.out.mono ?_)
    rintro e w2 ⟨rfl, p2⟩
    have P2 := Lib.hid (p2.past B0.out); clear p2
    go_wp2_with fail
    go_ret
    exact .inr (.inr ⟨HH.out.1, HH.out.2, rfl, P2.out⟩)
set_option maxRecDepth 100000 in
set_option maxHeartbeats 8000000 in
theorem sbFormat_any (hN : Nib w) (h : IsDev w v own D) (hj : j < 8) (he : D.err j = 0) (hn : 2 ≤ D.n) (s : Sup) (hok : s.Ok) (hl : s.lin ≤ D.n) (hx : D.exec + 100000 < 4294967296) :
    Calls Tryd.prog 28 #[.iface 49 (.pointer (some ⟨v.tb j, 0, none⟩)), .agg s.cells] w fun r w' => r = .returned (.int .i64 ((D.run j (eraseP ++ sbP (s.withGen 1) 0)).err j)) ∧ DPost v own w (D.run j (eraseP ++ sbP (s.withGen 1) 0)) w' := by
  have H := Lib.hid h; have HNB := Lib.hid hN
  have hus := fun wx (hx : IsDev wx v own D) => usableFor_any hx hj hn s hok hl
  rw [he] at hus
  have HU := Lib.hid hus
  have HR := Lib.hid (fun (wb : World) (pv : Value) (ha : Acc w w.heap.size wb 131 3 pv (eraseP ++ sbP (s.withGen 1) 0).length (instrC (eraseP ++ sbP (s.withGen 1) 0))) =>
    run_acc h hj ha (instrOk_append eraseP_ok (sbP_ok _ _ (by omega))) (by have := sbP_len (s.withGen 1) 0; have := eraseP_len; rw [List.length_append]; omega) hx)
  have HTL : Hid (eraseP.length + (sbP (s.withGen 1) 0).length ≤ 100000) := by have := sbP_len (s.withGen 1) 0; have := eraseP_len; show _ ≤ _; omega
  have HPR := Lib.hid (fun wx (hx : Nib wx) => program_any hx (s.withGen 1) ((show (s.withGen 1).Ok from ⟨hok.v1, hok.v2, hok.l1, hok.l2, hok.r1, hok.u1, hok.d1, hok.q1, hok.t1, hok.r2, hok.u2, hok.d2, hok.q2, hok.t2, hok.h⟩).fits (show (0 : Int) ≤ 1 by omega) (show (1 : Int) < 18446744073709551616 by omega)) 0 (by omega))
  have HER := Lib.hid (fun (wx : World) (sv : Value) (hx : RdSl wx 2 sv 2 (flat [(56, 0), (120, 0)])) => stores_any (w := wx) sv [(56, 0), (120, 0)] hx (by simp) (by decide))
  generalize hP : sbP (s.withGen 1) 0 = P at *
  obtain ⟨ver, lin, redo, und, desc, que, tab, gen⟩ := s
  have HPR2 : Hid (∀ wx, Nib wx → Calls Tryd.prog 53 #[.agg #[.int .i64 ver, .int .i64 lin, .int .i64 redo, .int .i64 und, .int .i64 desc, .int .i64 que, .int .i64 tab, .int .u64 1], .int .i64 0] wx fun r w' => ∃ ov, r = .returned ov ∧ Acc wx wx.heap.size w' 131 3 ov P.length (instrC P)) := HPR.out
  have HEQ : Hid (storesL [(56, 0), (120, 0)] = eraseP) := rfl
  rw [HEQ.out] at HER
  generalize eraseP = E at *
  unfold Sup.cells at *
  have B0 := Lib.hid (below_alloc w (.cells #[.int .i64 ver, .int .i64 lin, .int .i64 redo, .int .i64 und, .int .i64 desc, .int .i64 que, .int .i64 tab, .int .u64 gen] 29))
  have K0 := Lib.hid (Blk.new w #[.int .i64 ver, .int .i64 lin, .int .i64 redo, .int .i64 und, .int .i64 desc, .int .i64 que, .int .i64 tab, .int .u64 gen] 29)
  clear h hN hus hok hl he hP HPR
  go_enter Tryd.func28, Tryd.ntmps28
  go_wp2_with fail
  (with_reducible refine (HU.out _ (H.out.below B0.out)).mono ?_)
  rintro e w1 ⟨rfl, b1⟩
  have K1 := Lib.hid (K0.out.below b1)
  have B1 := Lib.hid (B0.out.trans (b1.mono B0.out.size))
  have z7 := K1.out.cell (i := 7) (v := .int .u64 gen) rfl
  have f7 := K1.out.frozen 7
  have K2 : Hid (Blk (w1.setCell ⟨w.heap.size, 7, none⟩ (.int .u64 1)) w.heap.size #[.int .i64 ver, .int .i64 lin, .int .i64 redo, .int .i64 und, .int .i64 desc, .int .i64 que, .int .i64 tab, .int .u64 1] 29) := by
    have := K1.out.set 7 (.int .u64 1)
    show Blk _ _ _ _
    simpa using this
  have B2 : Hid (Below w.heap.size w (w1.setCell ⟨w.heap.size, 7, none⟩ (.int .u64 1))) := B1.out.setCell (Nat.le_refl _) _
  clear b1 K0 HU
  have HE1 := Lib.hid (HER.out ((w1.setCell ⟨w.heap.size, 7, none⟩ (.int .u64 1)).alloc (.cells #[.int .u64 56, .int .u64 0, .int .u64 120, .int .u64 0] 114)) (.slice (some ⟨w1.heap.size, 0, none⟩) 2 2) (by exact RdSl.newAt _ _ _ 2 2 _ (by simp [World.setCell]) rfl))
  go_wp2_with fail
  (with_reducible refine HE1.out.mono ?_)
  rintro e w3 ⟨ov, rfl, a3⟩
  have K3 := Lib.hid ((K2.out.alloc _).below a3.bel)
  have A3 := Lib.hid (a3.deeper (B2.out.trans ((below_alloc _ _).mono B2.out.size)))
  have B3 := Lib.hid A3.out.bel
  obtain ⟨oa, oc, hov⟩ := a3.slice
  subst hov
  have z0 := K3.out.cell (i := 0) (v := .int .i64 ver) rfl; have z1 := K3.out.cell (i := 1) (v := .int .i64 lin) rfl; have z2 := K3.out.cell (i := 2) (v := .int .i64 redo) rfl; have z3 := K3.out.cell (i := 3) (v := .int .i64 und) rfl
  have z4 := K3.out.cell (i := 4) (v := .int .i64 desc) rfl; have z5 := K3.out.cell (i := 5) (v := .int .i64 que) rfl; have z6 := K3.out.cell (i := 6) (v := .int .i64 tab) rfl; have y7 := K3.out.cell (i := 7) (v := .int .u64 1) rfl
  clear a3 HE1 HER K2 B2 z7 f7 K1 B1
  go_wp2_with fail
  (with_reducible refine (HPR2.out _ (HNB.out.below B3.out)).mono ?_)
  rintro e w4 ⟨ov2, rfl, a4⟩
  obtain ⟨pa, pc, hpv⟩ := a4.slice
  subst hpv
  have B4 := Lib.hid (B3.out.trans (a4.bel.mono B3.out.size))
  have HT := Lib.hid (then_any (w := w4) _ _ E P (A3.out.keep a4.bel).rd a4.rd HTL.out)
  clear a4 z0 z1 z2 z3 z4 z5 z6 y7
  go_wp2_with fail
  (with_reducible refine HT.out.mono ?_)
  rintro e w5 ⟨ov3, rfl, a5⟩
  have hr := HR.out _ _ (a5.deeper B4.out)
  obtain ⟨qa, qc, hqv⟩ := a5.slice
  subst hqv
  rw [List.length_append] at hr
  have HR1 := Lib.hid hr; clear hr
  clear a5 HR HT
  go_wp2_with fail
  (with_reducible refine HR1.out.mono ?_)
  rintro e w6 ⟨rfl, p6⟩
  have P6 := Lib.hid p6; clear p6
  go_wp2_with fail
  go_ret
  exact ⟨rfl, P6.out⟩
end
end Go.Proofs.YtbpaamnofkhonaaDoor
