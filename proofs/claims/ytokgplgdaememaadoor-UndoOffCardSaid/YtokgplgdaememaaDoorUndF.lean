/- The walk of UndoOff. -/
import Derived.Test.YtokgplgdaememaaDoorUndO
namespace Go.Proofs.YtokgplgdaememaaDoor
open Go.RowKit Go.Maps

def Dz : Dev := (D0.arm 0).fence 0
theorem dz_err : Dz.err 0 = 3 := rfl
def wantI (offs : List Nat) : Int := if offs.all (allowedB 1536 192 5) = true then 3 else 1
section
variable {w : World} {v : DV} {own : Nat → Option Role} {lb : Nat}
theorem plan_off (offs : List Nat) (hl : offs.length ≤ 24) (h64 : ∀ o ∈ offs, o < 2048) (h : LogAt w v own Dz lb 0 192 5) (sv : Value) (hs : RdSl w 1 sv offs.length (natsU offs)) :
    Calls Tryd.prog 30 #[.pointer (some ⟨lb, 0, none⟩), sv] w (ErrNil w (wantI offs)) := by
  unfold wantI
  by_cases hall : offs.all (allowedB 1536 192 5) = true
  · rw [if_pos hall]
    exact uPlan_dead h (by rw [dz_err]; omega) sv offs hs (by omega) (fun o ho => by have := h64 o ho; omega) (fun o ho => List.all_eq_true.1 hall o ho)
  · rw [if_neg hall]
    refine uPlan_bad h sv offs hs (by omega) (fun o ho => by have := h64 o ho; omega) ?_
    have : offs.all (allowedB 1536 192 5) = false := by simpa using hall
    obtain ⟨o, ho, hb⟩ := List.all_eq_false.1 this
    have hb2 : allowedB 1536 192 5 o = false := by simpa using hb
    exact ⟨o, ho, hb2⟩
theorem wantI_snoc (l : List Nat) (o : Nat) : wantI (l ++ [o]) = if allowedB 1536 192 5 o = true then wantI l else 1 := by
  unfold wantI
  rw [List.all_append]
  by_cases h : allowedB 1536 192 5 o = true
  · simp [h]
  · have : allowedB 1536 192 5 o = false := by simpa using h
    simp [this]
theorem wantI_ne (l : List Nat) : wantI l ≠ 0 := by unfold wantI; split <;> omega
set_option maxRecDepth 100000 in
set_option maxHeartbeats 8000000 in
theorem undoOff_any (h : Wh w) (sv : Value) (l : List Nat) (hs : RdSl w 1 sv l.length (natsB l)) (hb : ∀ n ∈ l, n < 256) (hl : l.length ≤ maxLen) :
    Calls Tryd.prog 6 #[sv] w fun r w' => r = .returned (.bool true) ∧ Below w.heap.size w w' := by
  have HW := Lib.hid h; have HS := Lib.hid hs; clear h
  obtain ⟨_, sa, sc, rfl, hsc, _⟩ := hs
  have HOF := Lib.hid (fun (wx : World) (hx : Below w.heap.size w wx) => l16offsets_any (w := wx) _ l false (HS.out.below hx) hb hl)
  have hln := offsL_len l false
  have hlt := offsL_lt l false hb
  have HPL := Lib.hid (fun (wx : World) (v : DV) (own : Nat → Option Role) (lb : Nat) (hx : LogAt wx v own Dz lb 0 192 5) (ov : Value) => plan_off (w := wx) (offsL l false) hln hlt hx ov)
  have HPC := Lib.hid (fun (wx : World) (v : DV) (own : Nat → Option Role) (lb : Nat) (hx : LogAt wx v own Dz lb 0 192 5) => uPlanCommit_err (e := 3) (by omega) (by have := uload_err hx (by rw [dz_err]; omega); rw [dz_err] at this; exact this))
  have HRC := Lib.hid (fun (wx : World) (v : DV) (own : Nat → Option Role) (lb : Nat) (hx : LogAt wx v own Dz lb 0 192 5) => uRecover_err (e := 3) (by omega) (by have := uload_err hx (by rw [dz_err]; omega); rw [dz_err] at this; exact this))
  have HCM := Lib.hid (fun (wx : World) (v : DV) (own : Nat → Option Role) (lb : Nat) (hx : LogAt wx v own Dz lb 0 192 5) => uCommit_err (e := 3) (by omega) (HPC.out wx v own lb hx))
  have HRB := Lib.hid (fun (wx : World) (v : DV) (own : Nat → Option Role) (lb : Nat) (hx : LogAt wx v own Dz lb 0 192 5) => uRollback_err (e := 3) (HRC.out wx v own lb hx))
  have HARM := Lib.hid (fun (wx : World) (v : DV) (own : Nat → Option Role) (hx : IsDev wx v own D0) => by have := arm_any hx 0 (by omega); rw [show ((0 : Nat) : Int) = 0 from rfl] at this; exact this)
  have HFN := Lib.hid (fun (wx : World) (v : DV) (own : Nat → Option Role) (hx : IsDev wx v own (D0.arm 0)) => fence_any hx (j := 0) (by omega) (by decide))
  have HWN := Lib.hid (wantI_ne (offsL l false))
  generalize offsL l false = offs at *
  have HLT := Lib.hid hlt; clear hlt
  go_enter Tryd.func6, Tryd.ntmps6
  go_wp2_with fail
  (with_reducible refine awake16.mono ?_)
  rintro e w1 ⟨rfl, b1⟩
  have B1 := Lib.hid b1
  have W1 := Lib.hid (HW.out.below b1); clear b1
  go_wp2_with fail
  (with_reducible refine (made16 W1.out).mono ?_)
  rintro e w2 ⟨v, own, lb, rfl, l2⟩
  have L2 := Lib.hid l2; clear l2
  go_wp2_with fail
  (with_reducible refine (HARM.out _ _ _ L2.out.dev).mono ?_)
  rintro e w3 ⟨rfl, p3⟩
  obtain ⟨own3, l3⟩ := L2.out.step (D' := D0.arm 0) rfl p3
  have L3 := Lib.hid l3; clear p3 l3 L2 HARM
  go_wp2_with fail
  (with_reducible refine (thread0_any L3.out.dev).mono ?_)
  rintro e w' ⟨rfl, rfl⟩
  go_wp2_with fail
  (with_reducible refine (HFN.out _ _ _ L3.out.dev).mono ?_)
  rintro e w4 ⟨rfl, p4⟩
  obtain ⟨own4, l4⟩ := L3.out.step (D' := Dz) rfl p4
  have L4 := Lib.hid l4; clear p4 l4 L3 HFN
  go_wp2_with fail
  (with_reducible refine (HOF.out _ (B1.out.trans (L4.out.bel.mono B1.out.size))).mono ?_)
  rintro e w5 ⟨ov, rfl, a5⟩
  obtain ⟨oa, oc, hov⟩ := a5.slice
  subst hov
  have A5 := Lib.hid a5
  have L5 := Lib.hid (L4.out.next a5.bel); clear a5 L4 HOF
  generalize hn : offs.length = n at *
  have HN := Lib.hid hn; clear hn
  obtain ⟨wo, hwo⟩ : ∃ x : World, x = w5 := ⟨_, rfl⟩
  subst hwo
  go_wp2_with fail
  go_loopw [6, 30] (fun x y wr => ∃ (k : Nat) (c : Int), k ≤ n ∧ y = .int .i64 k ∧ x = .int .i64 c ∧ wantI (offs.take k) = c ∧ Below wo.heap.size wo wr) (fun _ y _ => n - (intOf y).toNat)
  case atStart => exact ⟨0, 3, by omega, rfl, rfl, rfl, Below.refl _ _⟩
  case round =>
    obtain ⟨k, c, hk, rfl, rfl, hc, hb5⟩ := hrel
    have BK := Lib.hid hb5; have HC := Lib.hid hc; clear hb5 hc
    by_cases hlt : k < n
    · have hk' : (k : Int) < n := by omega
      obtain ⟨o, ho⟩ : ∃ o, offs[k]? = some o := ⟨_, List.getElem?_eq_getElem (by rw [HN.out]; exact hlt)⟩
      obtain ⟨_, a', c', e', _, hE⟩ := A5.out.rd.below BK.out
      cases e'
      obtain ⟨eb, eo, rfl, hE2⟩ := rd_at hE (natsU_get ho)
      have c1 := hE2 _ _ (natsU_get ho)
      have hWh := W1.out.below (L5.out.bel.trans (BK.out.mono L5.out.bel.size))
      have g0 := hWh.c0; have g1 := hWh.c1; have g2 := hWh.c2
      have HWD := Lib.hid (fun wx : World => r16Word_any (w := wx) o)
      have HT := Lib.hid (take_snoc_get offs k o ho)
      clear hE hE2 ho hWh
      cases hok : allowedB 1536 192 5 o
      · rw [hok] at HWD
        have HC2 : Hid (wantI (offs.take (k + 1)) = 1) := by show wantI (offs.take (k + 1)) = 1; rw [HT.out, wantI_snoc, hok]; rfl
        clear hok
        go_wp2_with fail
        (with_reducible refine (HWD.out _).mono ?_)
        rintro e w6 ⟨rfl, b6⟩
        have B6 := Lib.hid (BK.out.trans (b6.mono BK.out.size)); clear b6
        go_wp2_with fail
        go_roundw
        case rel => exact ⟨k + 1, 1, by omega, by go_num, rfl, HC2.out, B6.out⟩
        case measure => simp [intOf]; omega
      · rw [hok] at HWD
        have HC2 : Hid (wantI (offs.take (k + 1)) = c) := by show wantI (offs.take (k + 1)) = c; rw [HT.out, wantI_snoc, hok, ← HC.out]; rfl
        clear hok
        go_wp2_with fail
        (with_reducible refine (HWD.out _).mono ?_)
        rintro e w6 ⟨rfl, b6⟩
        have B6 := Lib.hid (BK.out.trans (b6.mono BK.out.size)); clear b6
        go_wp2_with fail
        go_roundw
        case rel => exact ⟨k + 1, c, by omega, by go_num, rfl, HC2.out, B6.out⟩
        case measure => simp [intOf]; omega
    · obtain rfl : k = n := by omega
      have hcw : wantI offs = c := by rw [← HC.out, List.take_of_length_le (by rw [HN.out]; omega)]
      rw [hcw] at HPL HWN
      have hcc : (c == c) = true := by simp
      have A6 := Lib.hid (A5.out.keep BK.out)
      have L6 := Lib.hid (L5.out.next BK.out)
      have HUS := Lib.hid (fun (wx : World) (hb : Below wr.heap.size wr wx) => uSave_err _ HWN.out (HPL.out wx _ _ _ (L6.out.log.below hb) _ (A6.out.keep hb).rd))
      have HP1 := Lib.hid (HPL.out wr _ _ _ L6.out.log _ A6.out.rd)
      clear hcw hlt BK L5 A5 HC HPL
      go_wp2_with fail
      (with_reducible refine HP1.out.mono ?_)
      rintro e w7 ⟨rfl, b7⟩
      have B7 := Lib.hid b7; clear b7
      go_wp2_with fail
      (with_reducible refine (HPC.out _ _ _ _ (L6.out.log.below B7.out)).mono ?_)
      rintro e w8 ⟨rfl, b8⟩
      have B8 := Lib.hid (B7.out.trans (b8.mono B7.out.size)); clear b8
      go_wp2_with fail
      (with_reducible refine (HRC.out _ _ _ _ (L6.out.log.below B8.out)).mono ?_)
      rintro e w9 ⟨rfl, b9⟩
      have B9 := Lib.hid (B8.out.trans (b9.mono B8.out.size)); clear b9
      go_wp2_with fail
      (with_reducible refine (HUS.out _ B9.out).mono ?_)
      rintro e w10 ⟨rfl, b10⟩
      have B10 := Lib.hid (B9.out.trans (b10.mono B9.out.size)); clear b10
      go_wp2_with fail
      (with_reducible refine (HCM.out _ _ _ _ (L6.out.log.below B10.out)).mono ?_)
      rintro e w11 ⟨rfl, b11⟩
      have B11 := Lib.hid (B10.out.trans (b11.mono B10.out.size)); clear b11
      go_wp2_with fail
      (with_reducible refine (HRB.out _ _ _ _ (L6.out.log.below B11.out)).mono ?_)
      rintro e w12 ⟨rfl, b12⟩
      have B12 := Lib.hid (B11.out.trans (b12.mono B11.out.size)); clear b12
      go_wp2_with fail
      go_ret
      exact ⟨rfl, B1.out.trans ((L6.out.bel.trans (B12.out.mono L6.out.bel.size)).mono B1.out.size)⟩
end
end Go.Proofs.YtokgplgdaememaaDoor
