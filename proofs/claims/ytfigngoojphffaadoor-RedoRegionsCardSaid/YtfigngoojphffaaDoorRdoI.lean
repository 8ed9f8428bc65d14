/- Fences of a program; the law's awake of layer 15. -/
import Derived.Test.YtfigngoojphffaaDoorRdoH
namespace Go.Proofs.YtfigngoojphffaaDoor
open Go.RowKit Go.Maps
attribute [local go_sem ↓] Go.wp_at_zero Go.wp_at_succ

def fenN (l : List (Nat × Nat × Int)) : Nat := (l.filter fun e => e.1 == 3).length
theorem fenN_snoc (l : List (Nat × Nat × Int)) (e : Nat × Nat × Int) : fenN (l ++ [e]) = fenN l + (if e.1 = 3 then 1 else 0) := by
  unfold fenN
  rw [List.filter_append, List.length_append]
  by_cases h : e.1 = 3
  · simp [h]
  · simp [h]
section
variable {w : World}
set_option maxRecDepth 100000 in
set_option maxHeartbeats 2000000 in
theorem fences_any (sv : Value) (l : List (Nat × Nat × Int)) (h : RdSl w 3 sv l.length (instrC l)) (hl : l.length ≤ 100000) :
    Calls Tryd.prog 41 #[sv] w fun r w' => r = .returned (.int .i64 (fenN l)) ∧ Below w.heap.size w w' := by
  have HS := Lib.hid h
  have HE : Hid (fenN l = fenN (l.take l.length)) := by show fenN l = _; rw [List.take_length]
  obtain ⟨_, sa, sc, rfl, hsc, _⟩ := h
  generalize fenN l = res at *
  generalize hm : l.length = m at *
  have HM := Lib.hid hm; clear hm
  go_enter Tryd.func41, Tryd.ntmps41
  go_wp2_with fail
  go_loopw [3, 8] (fun n y wr => ∃ k : Nat, k ≤ m ∧ y = .int .i64 k ∧ n = .int .i64 (fenN (l.take k) : Nat) ∧ fenN (l.take k) ≤ k ∧ Below w.heap.size w wr) (fun _ y _ => m - (intOf y).toNat)
  case atStart => exact ⟨0, by omega, rfl, rfl, by simp [fenN], Below.refl _ _⟩
  case round =>
    obtain ⟨k, hk, rfl, rfl, hfk, hb⟩ := hrel
    have B := Lib.hid hb; clear hb
    by_cases hlt : k < m
    · have hk' : (k : Int) < m := by omega
      obtain ⟨e, he⟩ : ∃ e, l[k]? = some e := ⟨_, List.getElem?_eq_getElem (by rw [HM.out]; exact hlt)⟩
      obtain ⟨_, a', c', e', _, hE⟩ := HS.out.below B.out
      cases e'
      have hg := instrC_get l k e he
      obtain ⟨fb, fo, rfl, hE2⟩ := rd_at hE hg.1
      have c1 := hE2 _ _ hg.1; have c2 := hE2 _ _ hg.2.1; have c3 := hE2 _ _ hg.2.2
      rw [← Nat.add_assoc] at c2 c3
      have HT : Hid (fenN (l.take (k + 1)) = fenN (l.take k) + (if e.1 = 3 then 1 else 0)) := by show fenN (l.take (k + 1)) = _; rw [List.take_add_one, he]; exact fenN_snoc _ _
      clear hE hE2 he hg
      obtain ⟨e1, e2, e3⟩ := e
      simp only at c1 c2 c3 HT
      have BA := Lib.hid (B.out.alloc B.out.size (.cells #[.int .u8 (e1 : Int), .int .u64 (e2 : Int), .int .u64 e3] 47))
      generalize fenN (l.take k) = f at *
      by_cases h3 : e1 = 3
      · have hb3 : ((e1 : Int) == 3) = true := by simp; omega
        rw [if_pos h3] at HT
        clear h3
        go_wp2_with fail
        go_roundw
        case rel => exact ⟨k + 1, by omega, by go_num, by rw [HT.out]; go_num, by rw [HT.out]; omega, BA.out⟩
        case measure => simp [intOf]; omega
      · have hb3 : ((e1 : Int) == 3) = false := by simp; omega
        rw [if_neg h3] at HT
        clear h3
        go_wp2_with fail
        go_roundw
        case rel => exact ⟨k + 1, by omega, by go_num, by rw [HT.out]; go_num, by rw [HT.out]; omega, BA.out⟩
        case measure => simp [intOf]; omega
    · obtain rfl : k = m := by omega
      go_wp2_with fail
      go_ret
      exact ⟨ret_int (by rw [HE.out]), B.out⟩
abbrev ws3 : List (Nat × Int) := [(0, 1), (8, 2), (0, 3)]
abbrev wk2 : List (Nat × Int) := [(8, 2), (0, 3)]
theorem ws3_last : lastL ws3 = wk2 := by decide
theorem wk2_ok : WOk wk2 := ⟨by decide, by decide, by decide⟩
theorem wk2_len : (rPlanP 320 wk2).length = 16 := by decide
theorem wk2_fen : fenN (rPlanP 320 wk2) = 4 := by decide
set_option maxRecDepth 100000 in
set_option maxHeartbeats 8000000 in
theorem awake15 (hN : Nib w) : Calls Tryd.prog 10 #[] w fun r w' => r = .returned (.bool true) ∧ Below w.heap.size w w' := by
  have HNB := Lib.hid hN; clear hN
  obtain ⟨hcl, har⟩ := D15_rcl
  obtain ⟨hc2, _⟩ := hcl.commit har wk2_ok
  obtain ⟨hco, hco2⟩ := cmtC_out wk2_ok C15 C15_40
  have HPL := Lib.hid (fun (wx : World) (v : DV) (own : Nat → Option Role) (lb : Nat) (sv : Value) (hx : RLog wx v own D15 lb 0 320 1664) (hn : Nib wx) (hs : RdSl wx 2 sv ws3.length (flat ws3)) =>
    rdPlan_live hn hx hcl.grp.on.off hcl.grp.on.err hcl.vb sv ws3 hs (by decide) (by decide) (by rw [hcl.grp.on.n]; decide))
  rw [ws3_last, hcl.cur] at HPL
  have HRN := Lib.hid (fun (wx w1 : World) (v : DV) (own : Nat → Option Role) (pv : Value) (hx : IsDev wx v own D15) (ha : Acc wx wx.heap.size w1 47 3 pv (rPlanP 320 wk2).length (instrC (rPlanP 320 wk2))) =>
    run_acc hx (j := 0) (by omega) ha (rPlanP_ok (by decide) ⟨by decide, by decide⟩) (by rw [wk2_len]; omega) (by have := hcl.exec; omega))
  have hcur := hc2.cur
  have hld0 := fun (wx : World) (v : DV) (own : Nat → Option Role) (hx : IsDev wx v own (D15.run 0 (rPlanP 320 wk2))) => load_ok hx (j := 0) (by omega) 0 hc2.grp.on.off (by omega) (by rw [hc2.grp.on.n]; omega)
  have hld1 := fun (wx : World) (v : DV) (own : Nat → Option Role) (hx : IsDev wx v own (D15.run 0 (rPlanP 320 wk2))) => load_ok hx (j := 0) (by omega) 8 hc2.grp.on.off (by omega) (by rw [hc2.grp.on.n]; omega)
  rw [hcur] at hld0 hld1
  rw [hco2 (0 / 8) (by omega)] at hld0
  rw [hco2 (8 / 8) (by omega)] at hld1
  rw [show look wk2 (C15 (0 / 8)) (0 / 8) = 3 from rfl] at hld0
  rw [show look wk2 (C15 (8 / 8)) (8 / 8) = 2 from rfl] at hld1
  rw [show ((0 : Nat) : Int) = 0 from rfl] at hld0
  rw [show ((8 : Nat) : Int) = 8 from rfl] at hld1
  have HL0 := Lib.hid hld0; have HL1 := Lib.hid hld1
  have HFE := Lib.hid (fun (wx : World) (sv : Value) (hx : RdSl wx 3 sv (rPlanP 320 wk2).length (instrC (rPlanP 320 wk2))) => fences_any sv _ hx (by rw [wk2_len]; omega))
  rw [wk2_len] at HRN HFE
  rw [wk2_fen] at HFE
  have HD2 : Hid ((D15.run 0 (rPlanP 320 wk2)).n = D15.n) := by show (D15.run 0 (rPlanP 320 wk2)).n = D15.n; rw [hc2.grp.on.n, hcl.grp.on.n]
  rw [hc2.grp.on.err] at HRN
  generalize D15.run 0 (rPlanP 320 wk2) = D2 at *
  clear hcl har hc2 hco hco2 hcur hld0 hld1
  go_enter Tryd.func10, Tryd.ntmps10
  go_wp2_with fail
  (with_reducible refine made15.mono ?_)
  rintro e w1 ⟨v, own, lb, rfl, l1⟩
  have L1 := Lib.hid l1; clear l1
  have LA := Lib.hid (L1.out.alloc (.cells #[.int .u64 0, .int .u64 1, .int .u64 8, .int .u64 2, .int .u64 0, .int .u64 3] 67))
  have HP1 := Lib.hid (HPL.out _ _ _ _ (.slice (some ⟨w1.heap.size, 0, none⟩) 3 3) LA.out.log (HNB.out.below LA.out.bel) (by exact RdSl.new w1 _ _ 2 3 rfl))
  clear HPL
  go_wp2_with fail
  (with_reducible refine HP1.out.mono ?_)
  rintro e w2 (⟨h1, _⟩ | ⟨_, h1, _⟩ | ⟨_, _, ov, rfl, a2⟩)
  · exact absurd h1 (by decide)
  · exact absurd C15_40 h1
  · rw [wk2_len] at a2
    have HF2 := Lib.hid (HFE.out _ _ a2.rd)
    have A2 := Lib.hid a2
    obtain ⟨oa, oc, hov⟩ := a2.slice
    clear a2 HFE HP1
    subst hov
    go_wp2_with fail
    (with_reducible refine HF2.out.mono ?_)
    rintro e w3 ⟨rfl, b3⟩
    have A3 := Lib.hid (A2.out.keep b3)
    have L3 := Lib.hid (LA.out.next A3.out.bel)
    clear b3 HF2 A2
    go_wp2_with fail
    (with_reducible refine (thread0_any L3.out.dev).mono ?_)
    rintro e w' ⟨rfl, rfl⟩
    go_wp2_with fail
    (with_reducible refine (HRN.out _ _ _ _ _ LA.out.dev A3.out).mono ?_)
    rintro e w4 ⟨rfl, p4⟩
    obtain ⟨own4, l4, _⟩ := LA.out.stepM HD2.out p4
    have L4 := Lib.hid l4
    clear p4 l4 HRN A3 L3 LA L1
    go_wp2_with fail
    (with_reducible refine (thread0_any L4.out.dev).mono ?_)
    rintro e w' ⟨rfl, rfl⟩
    go_wp2_with fail
    (with_reducible refine (HL0.out _ _ _ L4.out.dev).mono ?_)
    rintro e w' ⟨rfl, rfl⟩
    go_wp2_with fail
    (with_reducible refine (thread0_any L4.out.dev).mono ?_)
    rintro e w' ⟨rfl, rfl⟩
    go_wp2_with fail
    (with_reducible refine (HL1.out _ _ _ L4.out.dev).mono ?_)
    rintro e w' ⟨rfl, rfl⟩
    go_wp2_with fail
    go_ret
    exact ⟨rfl, L4.out.bel⟩
end
end Go.Proofs.YtfigngoojphffaaDoor
