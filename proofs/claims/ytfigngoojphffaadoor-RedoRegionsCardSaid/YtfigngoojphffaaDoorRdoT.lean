/- The walks of the redo log's Look, Commit, Recover. -/
import Derived.Test.YtfigngoojphffaaDoorRdoS
namespace Go.Proofs.YtfigngoojphffaaDoor
open Go.RowKit Go.Maps

section
variable {w : World} {v : DV} {own : Nat → Option Role} {D : Dev} {lb j off len : Nat}
set_option maxRecDepth 100000 in
set_option maxHeartbeats 2000000 in
theorem rdLook_err {m : Value} {x y e : Int} (hm : m = .nilIface ∨ ∃ a, m = .iface 62 (.pointer (some a))) (he : e ≠ 0) (h : Calls Tryd.prog 58 #[m, .int .i64 x, .int .i64 y] w (OpenErr w e)) :
    Calls Tryd.prog 21 #[m, .int .i64 x, .int .i64 y] w fun r w' => r = .returned (.tuple #[.int .u8 0, .slice none 0 0]) ∧ Below w.heap.size w w' := by
  have HO := Lib.hid h
  have hne : (e != 0) = true := by simpa using he
  clear h he
  rcases hm with rfl | ⟨a, rfl⟩
  all_goals
    go_enter Tryd.func21, Tryd.ntmps21
    go_wp2_with fail
    (with_reducible refine HO.out.mono ?_)
    rintro e' w1 ⟨rfl, b1⟩
    have B1 := Lib.hid b1; clear b1
    go_wp2_with fail
    go_ret2
    exact ⟨rfl, B1.out⟩
set_option maxRecDepth 100000 in
set_option maxHeartbeats 2000000 in
theorem rdLook_any (hN : Nib w) (h : IsDev w v own D) (hj : j < 8) (x y : Nat) (h2 : 26 ≤ y) (hr : x + y ≤ D.n) (hof : D.off = false) (hvb : D.VB) :
    Calls Tryd.prog 21 #[.iface 62 (.pointer (some ⟨v.tb j, 0, none⟩)), .int .i64 x, .int .i64 y] w fun r w' => ∃ sv, r = .returned (.tuple #[.int .u8 ((rLook (64 * D.n) (64 * x) (64 * y) D.cur).1 : Nat), sv]) ∧
      Acc w w.heap.size w' 67 2 sv (rLook (64 * D.n) (64 * x) (64 * y) D.cur).2.length (flat (rLook (64 * D.n) (64 * x) (64 * y) D.cur).2) := by
  have HO := Lib.hid (rdhandle_ok h hj x y h2 hr)
  have HV := Lib.hid hvb; have HNB := Lib.hid hN
  clear h hN
  go_enter Tryd.func21, Tryd.ntmps21
  go_wp2_with fail
  (with_reducible refine HO.out.mono ?_)
  rintro e w1 ⟨rfl, l1, b1⟩
  have HS := Lib.hid (rdlook_any (HNB.out.below b1) l1 hof HV.out)
  have B1 := Lib.hid b1; clear l1 b1 HO
  go_wp2_with fail
  (with_reducible refine HS.out.mono ?_)
  rintro e w2 ⟨sv, rfl, a2⟩
  obtain ⟨sa, sc, hsv⟩ := a2.slice
  subst hsv
  have A2 := Lib.hid (a2.deeper B1.out); clear a2 HS
  go_wp2_with fail
  go_ret2
  exact ⟨_, rfl, A2.out⟩
set_option maxRecDepth 100000 in
set_option maxHeartbeats 2000000 in
theorem rdCommit_err {e : Int} (sv : Value) (he : e ≠ 0) (hP : Calls Tryd.prog 14 #[.pointer (some ⟨lb, 0, none⟩), sv] w (ErrNil w e)) :
    Calls Tryd.prog 16 #[.pointer (some ⟨lb, 0, none⟩), sv] w fun r w' => r = .returned (.int .i64 e) ∧ Below w.heap.size w w' := by
  have HP := Lib.hid hP; clear hP
  have hne : (e != 0) = true := by simpa using he
  clear he
  go_enter Tryd.func16, Tryd.ntmps16
  go_wp2_with fail
  (with_reducible refine HP.out.mono ?_)
  rintro e' w1 ⟨rfl, b1⟩
  have B1 := Lib.hid b1; clear b1
  go_wp2_with fail
  go_ret
  exact ⟨rfl, B1.out⟩
/-- What Commit of writes that are allowed answers. -/
def RCommitPost (w : World) (v : DV) (own : Nat → Option Role) (D : Dev) (j off : Nat) (W : List (Nat × Int)) (r : Ending) (w' : World) : Prop :=
  (96 < W.length ∧ r = .returned (.int .i64 9) ∧ Below w.heap.size w w') ∨ (¬ 96 < W.length ∧ D.cur (off / 8) ≠ 0 ∧ r = .returned (.int .i64 8) ∧ Below w.heap.size w w') ∨
  (¬ 96 < W.length ∧ D.cur (off / 8) = 0 ∧ r = .returned (.int .i64 ((D.run j (rPlanP off W)).err j)) ∧ DPost v own w (D.run j (rPlanP off W)) w')
set_option maxRecDepth 100000 in
set_option maxHeartbeats 2000000 in
theorem rdCommit_of (h : RLog w v own D lb j off len) (sv : Value) (W : List (Nat × Int)) (hx : D.exec + 100000 < 4294967296) (h64 : ∀ e ∈ W, e.1 < 18446744073709551616) (hP : Calls Tryd.prog 14 #[.pointer (some ⟨lb, 0, none⟩), sv] w (RPlanPost w off D.cur W)) :
    Calls Tryd.prog 16 #[.pointer (some ⟨lb, 0, none⟩), sv] w (RCommitPost w v own D j off W) := by
  have HP := Lib.hid hP; clear hP
  have H := Lib.hid h; have H64 := Lib.hid h64
  have hbd := h.bd
  have c0 := h.c0
  clear h h64
  go_enter Tryd.func16, Tryd.ntmps16
  go_wp2_with fail
  (with_reducible refine HP.out.mono ?_)
  rintro e' w1 (⟨h1, rfl, b1⟩ | ⟨h1, h2, rfl, b1⟩ | ⟨h1, h2, ov, rfl, a1⟩)
  · have B1 := Lib.hid b1; have H1 := Lib.hid h1; clear b1 h1
    go_wp2_with fail
    go_ret
    exact .inl ⟨H1.out, rfl, B1.out⟩
  · have B1 := Lib.hid b1; have H1 := Lib.hid h1; have H2 := Lib.hid h2; clear b1 h1 h2
    go_wp2_with fail
    go_ret
    exact .inr (.inl ⟨H1.out, H2.out, rfl, B1.out⟩)
  · have H1 := Lib.hid h1; have H2 := Lib.hid h2
    have hl := rPlanP_len off W
    have HR := Lib.hid (run_acc H.out.dev H.out.hj a1 (rPlanP_ok (by omega) ⟨by omega, H64.out⟩) (by omega) hx)
    have d0 := (H.out.below a1.bel).c0
    obtain ⟨oa, oc, hov⟩ := a1.slice
    clear a1 h1 h2 c0
    subst hov
    go_wp2_with fail
    (with_reducible refine HR.out.mono ?_)
    rintro e' w2 ⟨rfl, p2⟩
    have P2 := Lib.hid p2; clear p2
    go_wp2_with fail
    go_ret
    exact .inr (.inr ⟨H1.out, H2.out, rfl, P2.out⟩)
/-- What Recover answers. -/
def RRecPost (w : World) (v : DV) (own : Nat → Option Role) (D : Dev) (j off : Nat) (LK : Nat × List (Nat × Int)) (r : Ending) (w' : World) : Prop :=
  (LK.1 = 1 ∧ r = .returned (.tuple #[.int .i64 0, .int .i64 0]) ∧ Below w.heap.size w w') ∨ (LK.1 = 3 ∧ r = .returned (.tuple #[.int .i64 0, .int .i64 10]) ∧ Below w.heap.size w w') ∨
  (LK.1 = 2 ∧ DPost v own w (D.run j (rFinP off LK.2)) w' ∧
    (((D.run j (rFinP off LK.2)).err j = 0 ∧ r = .returned (.tuple #[.int .i64 LK.2.length, .int .i64 0])) ∨ ((D.run j (rFinP off LK.2)).err j ≠ 0 ∧ r = .returned (.tuple #[.int .i64 0, .int .i64 ((D.run j (rFinP off LK.2)).err j)]))))
theorem rLook_cases (size off len : Nat) (C : Nat → Int) : (rLook size off len C).1 = 1 ∨ (rLook size off len C).1 = 3 ∨ ((rLook size off len C).1 = 2 ∧ (rLook size off len C).2.length ≤ 96 ∧ ∀ e ∈ (rLook size off len C).2, rAllowB size off len e.1 = true) := by
  unfold rLook
  simp only
  split
  · exact .inl rfl
  · split
    · exact .inr (.inl rfl)
    · rename_i h
      split
      · exact .inr (.inl rfl)
      · split
        · rename_i h4
          exact .inr (.inr ⟨rfl, by simp; omega, List.all_eq_true.1 h4⟩)
        · exact .inr (.inl rfl)
set_option maxRecDepth 100000 in
set_option maxHeartbeats 4000000 in
theorem rdRecover_any (hN : Nib w) (h : RLog w v own D lb j off len) (hof : D.off = false) (he : D.err j = 0) (hvb : D.VB) (hx : D.exec + 100000 < 4294967296) :
    Calls Tryd.prog 34 #[.pointer (some ⟨lb, 0, none⟩)] w (RRecPost w v own D j off (rLook (64 * D.n) off len D.cur)) := by
  have hbd := h.bd
  have c0 := h.c0
  have hm1 := meth_Err ⟨v.tb j, 0, none⟩
  have H := Lib.hid h
  have hE := fun wx (hx : RLog wx v own D lb j off len) => err_any hx.dev hx.hj
  rw [he] at hE
  have HE := Lib.hid hE
  have HLK := Lib.hid (rdlook_any hN h hof hvb)
  have HCS := Lib.hid (rLook_cases (64 * D.n) off len D.cur)
  generalize hLK : rLook (64 * D.n) off len D.cur = LK at *
  obtain ⟨s, W⟩ := LK
  have HR := Lib.hid (fun w1 pv (hW : VIn W) (hl : W.length ≤ 96) ha => run_acc H.out.dev H.out.hj (w1 := w1) (pv := pv) (P := rFinP off W) ha (rFinP_ok (by omega) hW) (by have := rFinP_len off W; omega) hx)
  clear h hE hN hLK
  simp only at HLK HCS
  go_enter Tryd.func34, Tryd.ntmps34
  go_wp2_with fail
  (with_reducible refine (HE.out _ H.out).mono ?_)
  rintro e w' ⟨rfl, rfl⟩
  go_wp2_with fail
  (with_reducible refine HLK.out.mono ?_)
  rintro e w1 ⟨sv, rfl, a1⟩
  obtain ⟨sa, sc, hsv⟩ := a1.slice
  subst hsv
  have A1 := Lib.hid a1
  have L1 := Lib.hid (H.out.below a1.bel)
  clear a1 c0 HLK
  have c0 := L1.out.c0
  rcases HCS.out with hs | hs | ⟨hs, hl, hall⟩
  · subst hs
    go_wp2_with fail
    (with_reducible refine (HE.out _ L1.out).mono ?_)
    rintro e w' ⟨rfl, rfl⟩
    go_wp2_with fail
    go_ret2
    exact .inl ⟨rfl, rfl, A1.out.bel⟩
  · subst hs
    go_wp2_with fail
    (with_reducible refine (HE.out _ L1.out).mono ?_)
    rintro e w' ⟨rfl, rfl⟩
    go_wp2_with fail
    go_ret2
    exact .inr (.inl ⟨rfl, rfl, A1.out.bel⟩)
  · subst hs
    have hV : VIn W := ⟨by omega, fun e he => by
      have := of_decide_eq_true (show decide (e.1 % 8 = 0 ∧ e.1 < 64 * D.n ∧ (e.1 < off ∨ off + len ≤ e.1)) = true from hall e he)
      have := H.out.bd; omega⟩
    have HV := Lib.hid hV
    have HFN := Lib.hid (fun wx (hx : RLog wx v own D lb j off len) hs => rdfinish_any hx (.slice sa W.length sc) W hs HV.out)
    have HR2 := Lib.hid (fun w1 pv ha => HR.out w1 pv HV.out hl ha)
    have L1D : Hid (RLog w1.drew v own D lb j off len) := L1.out.drew
    have A1D : Hid (RdSl w1.drew 2 (.slice sa W.length sc) W.length (flat W)) := A1.out.rd.drew
    have B1 := Lib.hid A1.out.bel
    clear hall hV HR HCS
    generalize hm : W.length = m at *
    go_wp2_with fail
    (with_reducible refine (HE.out _ L1.out).mono ?_)
    rintro e w' ⟨rfl, rfl⟩
    go_upto_region 15 with fail
    go_cut [8] from 44 to 51 (fun x wx => x = .int .i64 ((D.run j (rFinP off W)).err j) ∧ DPost v own w (D.run j (rFinP off W)) wx)
    case first =>
      go_region_with (first | (go_at_call 52; (with_reducible refine (HFN.out _ L1D.out A1D.out).mono ?_); rintro e w2 ⟨pv, rfl, a2⟩; obtain ⟨pa, pc, hpv⟩ := a2.slice; subst hpv; have HR4 := Lib.hid (HR2.out w2 _ (a2.deeper (B1.out.drew))); have d2 := (L1D.out.below a2.bel).c0; clear a2) | (go_at_call 42; (with_reducible refine HR4.out.mono ?_); rintro e w5 ⟨rfl, p5⟩; have P5 := Lib.hid p5; clear p5))
      all_goals go_wp2_with fail
      all_goals go_meet
      all_goals exact ⟨rfl, P5.out⟩
    case rest =>
      obtain ⟨rfl, hp⟩ := hcut
      have P := Lib.hid hp; clear hp
      generalize hD : D.run j (rFinP off W) = D' at *
      by_cases he : D'.err j = 0
      · have hb : (D'.err j != 0) = false := by simpa using he
        have HE := Lib.hid he; clear he
        go_wp2_with fail
        go_ret2
        refine .inr (.inr ⟨rfl, by rw [hD]; exact P.out, .inl ⟨by rw [hD]; exact HE.out, ?_⟩⟩)
        rw [hm]; rfl
      · have hb : (D'.err j != 0) = true := by simpa using he
        have HE := Lib.hid he; clear he
        go_wp2_with fail
        go_ret2
        exact .inr (.inr ⟨rfl, by rw [hD]; exact P.out, .inr ⟨by rw [hD]; exact HE.out, by rw [hD]; rfl⟩⟩)
end
end Go.Proofs.YtfigngoojphffaaDoor
