/- The walk of RedoRegions. -/
import Derived.Test.YtfigngoojphffaaDoorRdoI
namespace Go.Proofs.YtfigngoojphffaaDoor
open Go.RowKit Go.Maps
attribute [local go_sem ↓] Go.wp_at_zero Go.wp_at_succ

section
variable {w : World}
set_option maxRecDepth 100000 in
set_option maxHeartbeats 1000000 in
theorem rdPlan_nil : Calls Tryd.prog 14 #[.pointer none, .slice none 0 0] w (ErrNil w 1) := by
  go_enter Tryd.func14, Tryd.ntmps14
  go_wp2_with fail
  go_ret2
  exact ⟨rfl, Below.refl _ _⟩
set_option maxRecDepth 100000 in
set_option maxHeartbeats 1000000 in
theorem rdCommit_nil : Calls Tryd.prog 16 #[.pointer none, .slice none 0 0] w fun r w' => r = .returned (.int .i64 1) ∧ Below w.heap.size w w' := by
  have HP := Lib.hid (rdPlan_nil (w := w))
  go_enter Tryd.func16, Tryd.ntmps16
  go_wp2_with fail
  (with_reducible refine HP.out.mono ?_)
  rintro e' w1 ⟨rfl, b1⟩
  have B1 := Lib.hid b1; clear b1
  go_wp2_with fail
  go_ret
  exact ⟨rfl, B1.out⟩
set_option maxRecDepth 100000 in
set_option maxHeartbeats 1000000 in
theorem rdRecover_nil : Calls Tryd.prog 34 #[.pointer none] w fun r w' => r = .returned (.tuple #[.int .i64 0, .int .i64 1]) ∧ Below w.heap.size w w' := by
  go_enter Tryd.func34, Tryd.ntmps34
  go_wp2_with fail
  go_ret2
  exact ⟨rfl, Below.refl _ _⟩
theorem isThr (a : Addr) : (.iface 62 (.pointer (some a)) : Value) = .nilIface ∨ ∃ b, (.iface 62 (.pointer (some a)) : Value) = .iface 62 (.pointer (some b)) := .inr ⟨a, rfl⟩
/-- The device behind Arm(0) and a fence. -/
def D15z : Dev := (D15.arm 0).fence 0
theorem D15_arm : D15.arm 0 = { D15 with armed := true, left := 0 } := by
  unfold Dev.arm; rw [if_neg (by rw [D15_rcl.1.grp.on.off]; simp)]
theorem D15z_eq : D15z = ({ D15.arm 0 with off := true } : Dev).setErr 0 3 := by
  have h := (D15_rcl.1.arm 0).grp.on
  exact step_cut (e := (3, 0, 0)) h (by rw [D15_arm]) (by rw [D15_arm]) (.inr (.inr rfl))
theorem D15z_n : D15z.n = 40 := by rw [D15z_eq]; exact (D15_rcl.1.arm 0).grp.on.n
theorem D15z_err : D15z.err 0 = 3 := by rw [D15z_eq]; rfl
theorem store0_dev {D : Dev} {C : Nat → Int} {x : Nat} (h : RCl D C x) (ha : D.armed = false) (off : Nat) (h8 : off % 8 = 0) (hl : off < 2560) : (D.run 0 (storesL [(off, 0)])).err 0 = 0 := by
  have := (h.go (gs := storesGs [(off, 0)]) ha (store1_ok h8 (by omega)) (valP_groups (fun e he => by rw [storesGs_flat] at he; simp at he; subst he; simp))).1.grp.on.err
  rwa [← stores_groups] at this
theorem arm0_any {wx : World} {v : DV} {own : Nat → Option Role} {D : Dev} (h : IsDev wx v own D) : Calls Tryd.prog 31 #[.pointer (some ⟨v.db, 0, none⟩), .int .i64 0] wx fun r w' => r = .returned (.tuple #[]) ∧ DPost v own wx (D.arm 0) w' := arm_any h 0 (by omega)
/-- The law's test of a region. -/
def badR (x y : Int) : Bool := decide (x < 0 ∨ y < 26 ∨ 40 < y ∨ 40 - y < x)
set_option maxRecDepth 100000 in
set_option maxHeartbeats 16000000 in
theorem redoRegions_any (hN : Nib w) (x y : Int) (hx : -9223372036854775808 ≤ x ∧ x < 9223372036854775808) (hy : -9223372036854775808 ≤ y ∧ y < 9223372036854775808) (ob : Bool) :
    Calls Tryd.prog 6 #[.int .i64 x, .int .i64 y, .bool ob] w fun r w' => r = .returned (.bool true) ∧ Below w.heap.size w w' := by
  have HNB := Lib.hid hN; clear hN
  go_enter Tryd.func6, Tryd.ntmps6
  go_wp2_with fail
  (with_reducible refine (awake15 HNB.out).mono ?_)
  rintro e w1 ⟨rfl, b1⟩
  have B1 := Lib.hid b1; clear b1
  go_wp2_with fail
  (with_reducible refine made15.mono ?_)
  rintro e w2 ⟨v, own, lb, rfl, l2⟩
  have L2 := Lib.hid l2; clear l2
  go_upto_region 4 with fail
  go_cut [9] from 29 to 44 (fun z wx => z = .bool (badR x y) ∧ wx = w2)
  case first =>
    by_cases h1 : x < 0
    · have hb : badR x y = true := by unfold badR; simp [h1]
      go_wp2_with fail
      go_meet
      exact ⟨by rw [hb], rfl⟩
    · by_cases h2 : y < 26
      · have hb : badR x y = true := by unfold badR; simp [h2]
        go_wp2_with fail
        go_meet
        exact ⟨by rw [hb], rfl⟩
      · by_cases h3 : 40 < y
        · have hb : badR x y = true := by unfold badR; simp [h3]
          go_wp2_with fail
          go_meet
          exact ⟨by rw [hb], rfl⟩
        · by_cases h4 : 40 - y < x
          · have hb : badR x y = true := by unfold badR; simp [h4]
            go_wp2_with fail
            go_meet
            exact ⟨by rw [hb], rfl⟩
          · have hb : badR x y = false := by unfold badR; simp; omega
            go_wp2_with fail
            go_meet
            exact ⟨by rw [hb], rfl⟩
  case rest =>
    obtain ⟨rfl, rfl⟩ := hcut
    cases hb : badR x y
    · have hab : x = (x.toNat : Int) ∧ y = (y.toNat : Int) ∧ 26 ≤ y.toNat ∧ x.toNat + y.toNat ≤ 40 := by
        unfold badR at hb
        have := of_decide_eq_false hb
        omega
      obtain ⟨ha, hb2, h26, h40⟩ := hab
      generalize x.toNat = a at *
      generalize y.toNat = b at *
      subst ha hb2
      have NB2 := Lib.hid (HNB.out.below (B1.out.trans (L2.out.bel.mono B1.out.size)))
      have hs := rLook_cases (64 * D15.n) (64 * a) (64 * b) D15.cur
      have HLK := Lib.hid (rdLook_any NB2.out L2.out.dev (j := 0) (by omega) a b h26 (by rw [D15_n]; exact h40) D15_rcl.1.grp.on.off D15_rcl.1.vb)
      generalize rLook (64 * D15.n) (64 * a) (64 * b) D15.cur = LK at *
      obtain ⟨st, W⟩ := LK
      have hs0 : ((st : Int) != 0) = true := by simp at hs ⊢; omega
      have hs0' : ((st : Nat) != 0) = true := by simp at hs ⊢; omega
      simp only at HLK
      clear hs hb hx hy
      go_wp2_with fail
      (with_reducible refine (thread0_any L2.out.dev).mono ?_)
      rintro e w' ⟨rfl, rfl⟩
      go_wp2_with fail
      (with_reducible refine HLK.out.mono ?_)
      rintro e w3 ⟨sv, rfl, a3⟩
      obtain ⟨sa, sc, hsv⟩ := a3.slice
      subst hsv
      have L3 := Lib.hid (L2.out.next a3.bel); clear a3 HLK
      go_wp2_with fail
      (with_reducible refine (thread0_any L3.out.dev).mono ?_)
      rintro e w' ⟨rfl, rfl⟩
      go_wp2_with fail
      (with_reducible refine (rdOpen_ok L3.out.dev (j := 0) (by omega) a b h26 (by rw [D15_n]; exact h40)).mono ?_)
      rintro e w4 ⟨rfl, _, b4⟩
      have L4 := Lib.hid (L3.out.next b4); clear b4
      cases ob
      · go_wp2_with fail
        (with_reducible refine (thread0_any L4.out.dev).mono ?_)
        rintro e w' ⟨rfl, rfl⟩
        have HFM := Lib.hid (rdFormat_ok L4.out.dev (j := 0) (by omega) a b h26 (by rw [D15_n]; exact h40) D15_rcl.1.grp.on.err (by have := D15_rcl.1.exec; omega))
        have hst := store0_dev D15_rcl.1 D15_rcl.2 (64 * a) (by omega) (by omega)
        rw [hst] at HFM
        go_wp2_with fail
        (with_reducible refine HFM.out.mono ?_)
        rintro e w7 ⟨rfl, p7⟩
        obtain ⟨own7, l7, _⟩ := L4.out.stepM (D' := D15.run 0 (storesL [(64 * a, 0)])) (run_n 0 _ D15) p7
        have TT := Lib.hid l7; clear p7 l7 HFM hst
        go_wp2_with fail
        (with_reducible refine (rdOpen_err (.inl rfl) (rdhandle_nil _ _)).mono ?_)
        rintro e t1 ⟨rfl, b1⟩
        have T1 := Lib.hid (TT.out.next b1); clear b1
        go_wp2_with fail
        (with_reducible refine rdPlan_nil.mono ?_)
        rintro e t2 ⟨rfl, b1⟩
        have T2 := Lib.hid (T1.out.next b1); clear b1
        go_wp2_with fail
        (with_reducible refine rdRecover_nil.mono ?_)
        rintro e t3 ⟨rfl, b1⟩
        have T3 := Lib.hid (T2.out.next b1); clear b1
        go_wp2_with fail
        (with_reducible refine (rdFormat_err (.inl rfl) (by decide) (rdhandle_nil _ _)).mono ?_)
        rintro e t4 ⟨rfl, b1⟩
        have T4 := Lib.hid (T3.out.next b1); clear b1
        go_wp2_with fail
        (with_reducible refine rdCommit_nil.mono ?_)
        rintro e t5 ⟨rfl, b1⟩
        have T5 := Lib.hid (T4.out.next b1); clear b1
        go_wp2_with fail
        go_ret
        exact ⟨rfl, B1.out.trans (T5.out.bel.mono B1.out.size)⟩
      · go_wp2_with fail
        (with_reducible refine (arm0_any L4.out.dev).mono ?_)
        rintro e w5 ⟨rfl, p5⟩
        obtain ⟨own5, l5, _⟩ := L4.out.stepM (D' := D15.arm 0) (by rw [D15_arm]) p5
        have L5 := Lib.hid l5; clear p5 l5
        go_wp2_with fail
        (with_reducible refine (thread0_any L5.out.dev).mono ?_)
        rintro e w' ⟨rfl, rfl⟩
        go_wp2_with fail
        (with_reducible refine (fence_any L5.out.dev (j := 0) (by omega) (by have := (D15_rcl.1.arm 0).exec; omega)).mono ?_)
        rintro e w6 ⟨rfl, p6⟩
        obtain ⟨own6, l6, _⟩ := L5.out.stepM (D' := D15z) (by rw [D15z_n, (D15_rcl.1.arm 0).grp.on.n]) p6
        have L6 := Lib.hid l6; clear p6 l6
        go_wp2_with fail
        (with_reducible refine (thread0_any L6.out.dev).mono ?_)
        rintro e w' ⟨rfl, rfl⟩
        have HFM := Lib.hid (rdFormat_dead L6.out.dev (j := 0) (by omega) a b h26 (by rw [D15z_n]; exact h40) (by rw [D15z_err]; decide))
        rw [D15z_err] at HFM
        go_wp2_with fail
        (with_reducible refine HFM.out.mono ?_)
        rintro e w7 ⟨rfl, b7⟩
        have TT := Lib.hid (L6.out.next b7); clear b7 HFM
        go_wp2_with fail
        (with_reducible refine (rdOpen_err (.inl rfl) (rdhandle_nil _ _)).mono ?_)
        rintro e t1 ⟨rfl, b1⟩
        have T1 := Lib.hid (TT.out.next b1); clear b1
        go_wp2_with fail
        (with_reducible refine rdPlan_nil.mono ?_)
        rintro e t2 ⟨rfl, b1⟩
        have T2 := Lib.hid (T1.out.next b1); clear b1
        go_wp2_with fail
        (with_reducible refine rdRecover_nil.mono ?_)
        rintro e t3 ⟨rfl, b1⟩
        have T3 := Lib.hid (T2.out.next b1); clear b1
        go_wp2_with fail
        (with_reducible refine (rdFormat_err (.inl rfl) (by decide) (rdhandle_nil _ _)).mono ?_)
        rintro e t4 ⟨rfl, b1⟩
        have T4 := Lib.hid (T3.out.next b1); clear b1
        go_wp2_with fail
        (with_reducible refine rdCommit_nil.mono ?_)
        rintro e t5 ⟨rfl, b1⟩
        have T5 := Lib.hid (T4.out.next b1); clear b1
        go_wp2_with fail
        go_ret
        exact ⟨rfl, B1.out.trans (T5.out.bel.mono B1.out.size)⟩
    · have HH : Hid (∀ (wx : World) (v : DV) (own : Nat → Option Role) (D : Dev) (_ : IsDev wx v own D) (_ : D.n = 40), Calls Tryd.prog 58 #[.iface 62 (.pointer (some ⟨v.tb 0, 0, none⟩)), .int .i64 x, .int .i64 y] wx (OpenErr wx 1)) := by
        intro wx v own D hd hn
        unfold badR at hb
        have hb := of_decide_eq_true hb
        by_cases h1 : x < 0 ∨ y < 26
        · exact rdhandle_arg _ x y h1
        · have h2 : x = (x.toNat : Int) ∧ y = (y.toNat : Int) := by omega
          rw [h2.1, h2.2]
          exact rdhandle_range hd (j := 0) (by omega) _ _ (by omega) (by omega) (by omega) (by omega)
      clear hb hx hy
      go_wp2_with fail
      (with_reducible refine (thread0_any L2.out.dev).mono ?_)
      rintro e w' ⟨rfl, rfl⟩
      go_wp2_with fail
      (with_reducible refine (rdLook_err (isThr _) (by decide) (HH.out _ _ _ _ L2.out.dev D15_n)).mono ?_)
      rintro e w3 ⟨rfl, b3⟩
      have L3 := Lib.hid (L2.out.next b3); clear b3
      go_wp2_with fail
      (with_reducible refine (thread0_any L3.out.dev).mono ?_)
      rintro e w' ⟨rfl, rfl⟩
      go_wp2_with fail
      (with_reducible refine (rdOpen_err (isThr _) (HH.out _ _ _ _ L3.out.dev D15_n)).mono ?_)
      rintro e w4 ⟨rfl, b4⟩
      have L4 := Lib.hid (L3.out.next b4); clear b4
      cases ob
      · go_wp2_with fail
        (with_reducible refine (thread0_any L4.out.dev).mono ?_)
        rintro e w' ⟨rfl, rfl⟩
        go_wp2_with fail
        (with_reducible refine (rdFormat_err (isThr _) (by decide) (HH.out _ _ _ _ L4.out.dev D15_n)).mono ?_)
        rintro e w7 ⟨rfl, b7⟩
        have TT := Lib.hid (L4.out.next b7); clear b7
        go_wp2_with fail
        (with_reducible refine (rdOpen_err (.inl rfl) (rdhandle_nil _ _)).mono ?_)
        rintro e t1 ⟨rfl, b1⟩
        have T1 := Lib.hid (TT.out.next b1); clear b1
        go_wp2_with fail
        (with_reducible refine rdPlan_nil.mono ?_)
        rintro e t2 ⟨rfl, b1⟩
        have T2 := Lib.hid (T1.out.next b1); clear b1
        go_wp2_with fail
        (with_reducible refine rdRecover_nil.mono ?_)
        rintro e t3 ⟨rfl, b1⟩
        have T3 := Lib.hid (T2.out.next b1); clear b1
        go_wp2_with fail
        (with_reducible refine (rdFormat_err (.inl rfl) (by decide) (rdhandle_nil _ _)).mono ?_)
        rintro e t4 ⟨rfl, b1⟩
        have T4 := Lib.hid (T3.out.next b1); clear b1
        go_wp2_with fail
        (with_reducible refine rdCommit_nil.mono ?_)
        rintro e t5 ⟨rfl, b1⟩
        have T5 := Lib.hid (T4.out.next b1); clear b1
        go_wp2_with fail
        go_ret
        exact ⟨rfl, B1.out.trans (T5.out.bel.mono B1.out.size)⟩
      · go_wp2_with fail
        (with_reducible refine (arm0_any L4.out.dev).mono ?_)
        rintro e w5 ⟨rfl, p5⟩
        obtain ⟨own5, l5, _⟩ := L4.out.stepM (D' := D15.arm 0) (by rw [D15_arm]) p5
        have L5 := Lib.hid l5; clear p5 l5
        go_wp2_with fail
        (with_reducible refine (thread0_any L5.out.dev).mono ?_)
        rintro e w' ⟨rfl, rfl⟩
        go_wp2_with fail
        (with_reducible refine (fence_any L5.out.dev (j := 0) (by omega) (by have := (D15_rcl.1.arm 0).exec; omega)).mono ?_)
        rintro e w6 ⟨rfl, p6⟩
        obtain ⟨own6, l6, _⟩ := L5.out.stepM (D' := D15z) (by rw [D15z_n, (D15_rcl.1.arm 0).grp.on.n]) p6
        have L6 := Lib.hid l6; clear p6 l6
        go_wp2_with fail
        (with_reducible refine (thread0_any L6.out.dev).mono ?_)
        rintro e w' ⟨rfl, rfl⟩
        go_wp2_with fail
        (with_reducible refine (rdFormat_err (isThr _) (by decide) (HH.out _ _ _ _ L6.out.dev D15z_n)).mono ?_)
        rintro e w7 ⟨rfl, b7⟩
        have TT := Lib.hid (L6.out.next b7); clear b7
        go_wp2_with fail
        (with_reducible refine (rdOpen_err (.inl rfl) (rdhandle_nil _ _)).mono ?_)
        rintro e t1 ⟨rfl, b1⟩
        have T1 := Lib.hid (TT.out.next b1); clear b1
        go_wp2_with fail
        (with_reducible refine rdPlan_nil.mono ?_)
        rintro e t2 ⟨rfl, b1⟩
        have T2 := Lib.hid (T1.out.next b1); clear b1
        go_wp2_with fail
        (with_reducible refine rdRecover_nil.mono ?_)
        rintro e t3 ⟨rfl, b1⟩
        have T3 := Lib.hid (T2.out.next b1); clear b1
        go_wp2_with fail
        (with_reducible refine (rdFormat_err (.inl rfl) (by decide) (rdhandle_nil _ _)).mono ?_)
        rintro e t4 ⟨rfl, b1⟩
        have T4 := Lib.hid (T3.out.next b1); clear b1
        go_wp2_with fail
        (with_reducible refine rdCommit_nil.mono ?_)
        rintro e t5 ⟨rfl, b1⟩
        have T5 := Lib.hid (T4.out.next b1); clear b1
        go_wp2_with fail
        go_ret
        exact ⟨rfl, B1.out.trans (T5.out.bel.mono B1.out.size)⟩
end
end Go.Proofs.YtfigngoojphffaaDoor
