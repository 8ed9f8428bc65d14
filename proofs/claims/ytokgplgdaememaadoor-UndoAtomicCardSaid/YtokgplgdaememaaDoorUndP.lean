/- The walk of the undo log's Plan. -/
import Derived.Test.YtokgplgdaememaaDoorUndM
namespace Go.Proofs.YtokgplgdaememaaDoor
open Go.RowKit Go.Maps

section
variable {w : World} {v : DV} {own : Nat → Option Role} {D : Dev} {lb j off n : Nat}
/-- A part of Plan: each way ends so. -/
def PlanPost (w : World) (off n : Nat) (S F : List (Nat × Int)) (r : Ending) (w' : World) : Prop :=
  (4 * (n - 1) < S.length + F.length ∧ ErrNil w 4 r w') ∨
  (¬ 4 * (n - 1) < S.length + F.length ∧ ∃ ov, r = .returned (.tuple #[ov, .int .i64 0]) ∧ Acc w w.heap.size w' 99 3 ov (planP off S.length F).length (instrC (planP off S.length F)))

set_option maxRecDepth 100000 in
set_option maxHeartbeats 2000000 in
theorem uPlan_bad (h : LogAt w v own D lb j off n) (sv : Value) (offs : List Nat) (hs : RdSl w 1 sv offs.length (natsU offs)) (hl : offs.length ≤ 1000) (h64 : ∀ o ∈ offs, o < 18446744073709551616) (hbad : ∃ o ∈ offs, allowedB (64 * D.n) off n o = false) :
    Calls Tryd.prog 30 #[.pointer (some ⟨lb, 0, none⟩), sv] w (ErrNil w 1) := by
  have HN := Lib.hid (unone_any h)
  have H := Lib.hid h; have HS := Lib.hid hs; have H64 := Lib.hid h64; have HB := Lib.hid hbad
  clear h h64 hbad
  obtain ⟨_, sa, sc, rfl, hsc, _⟩ := hs
  generalize hm : offs.length = m at *
  have HM := Lib.hid hm; clear hm
  go_enter Tryd.func30, Tryd.ntmps30
  go_wp2_with fail
  (with_reducible refine HN.out.mono ?_)
  rintro e w' ⟨rfl, rfl⟩
  go_wp2_with fail
  go_loopw [26] (fun y wr => ∃ k : Nat, k ≤ m ∧ y = .int .i64 k ∧ (∀ i o, i < k → offs[i]? = some o → allowedB (64 * D.n) off n o = true) ∧ Below w.heap.size w wr) (fun y _ => m - (intOf y).toNat)
  case atStart => exact ⟨0, by omega, rfl, fun i o hi _ => by omega, Below.refl _ _⟩
  case round =>
    obtain ⟨k, hk, rfl, hgood, hb⟩ := hrel
    have HG := Lib.hid hgood; have B := Lib.hid hb; clear hgood hb
    by_cases hlt : k < m
    · have hk' : (k : Int) < m := by omega
      obtain ⟨o, ho⟩ : ∃ o, offs[k]? = some o := ⟨_, List.getElem?_eq_getElem (by rw [HM.out]; exact hlt)⟩
      obtain ⟨_, a', c', e', _, hE⟩ := HS.out.below B.out
      cases e'
      obtain ⟨eb, eo, rfl, hE2⟩ := rd_at hE (natsU_get ho)
      have c1 := hE2 _ _ (natsU_get ho)
      have HA := Lib.hid (uallowed_any (H.out.below B.out) o (H64.out o (List.mem_of_getElem? ho)))
      have HO := Lib.hid ho
      clear hE hE2 ho
      cases hok : allowedB (64 * D.n) off n o
      · rw [hok] at HA
        go_wp2_with fail
        (with_reducible refine HA.out.mono ?_)
        rintro e w1 ⟨rfl, b1⟩
        have B1 := Lib.hid (B.out.trans (b1.mono B.out.size)); clear b1
        go_wp2_with fail
        go_ret2
        exact ⟨rfl, B1.out⟩
      · rw [hok] at HA
        have HOK := Lib.hid hok; clear hok
        go_wp2_with fail
        (with_reducible refine HA.out.mono ?_)
        rintro e w1 ⟨rfl, b1⟩
        have B1 := Lib.hid (B.out.trans (b1.mono B.out.size)); clear b1
        go_wp2_with fail
        go_roundw
        case rel => exact ⟨k + 1, by omega, by go_num, fun i x hi hx => by
          by_cases e : i = k
          · subst e; rw [HO.out] at hx; cases hx; exact HOK.out
          · exact HG.out i x (by omega) hx, B1.out⟩
        case measure => simp [intOf]; omega
    · exfalso
      obtain ⟨o, ho, hbo⟩ := HB.out
      obtain ⟨i, hi, hx⟩ := List.getElem_of_mem ho
      have := HG.out i o (by rw [HM.out] at hi; omega) (by rw [← hx]; exact List.getElem?_eq_getElem hi)
      rw [hbo] at this; cases this
set_option maxRecDepth 100000 in
set_option maxHeartbeats 2000000 in
theorem uPlan_dead (h : LogAt w v own D lb j off n) (he : D.err j ≠ 0) (sv : Value) (offs : List Nat) (hs : RdSl w 1 sv offs.length (natsU offs)) (hl : offs.length ≤ 1000) (h64 : ∀ o ∈ offs, o < 18446744073709551616) (hgood : ∀ o ∈ offs, allowedB (64 * D.n) off n o = true) :
    Calls Tryd.prog 30 #[.pointer (some ⟨lb, 0, none⟩), sv] w (ErrNil w (D.err j)) := by
  have HN := Lib.hid (unone_any h)
  have H := Lib.hid h; have HS := Lib.hid hs; have H64 := Lib.hid h64; have HG := Lib.hid hgood
  have HE := Lib.hid (fun wx (hx : LogAt wx v own D lb j off n) => uentries_err hx he)
  have hne : (D.err j != 0) = true := by simpa using he
  clear h h64 hgood he
  generalize D.err j = er at *
  obtain ⟨_, sa, sc, rfl, hsc, _⟩ := hs
  generalize hm : offs.length = m at *
  have HM := Lib.hid hm; clear hm
  go_enter Tryd.func30, Tryd.ntmps30
  go_wp2_with fail
  (with_reducible refine HN.out.mono ?_)
  rintro e w' ⟨rfl, rfl⟩
  go_wp2_with fail
  go_loopw [26] (fun y wr => ∃ k : Nat, k ≤ m ∧ y = .int .i64 k ∧ Below w.heap.size w wr) (fun y _ => m - (intOf y).toNat)
  case atStart => exact ⟨0, by omega, rfl, Below.refl _ _⟩
  case round =>
    obtain ⟨k, hk, rfl, hb⟩ := hrel
    have B := Lib.hid hb; clear hb
    by_cases hlt : k < m
    · have hk' : (k : Int) < m := by omega
      obtain ⟨o, ho⟩ : ∃ o, offs[k]? = some o := ⟨_, List.getElem?_eq_getElem (by rw [HM.out]; exact hlt)⟩
      obtain ⟨_, a', c', e', _, hE⟩ := HS.out.below B.out
      cases e'
      obtain ⟨eb, eo, rfl, hE2⟩ := rd_at hE (natsU_get ho)
      have c1 := hE2 _ _ (natsU_get ho)
      have hA := uallowed_any (H.out.below B.out) o (H64.out o (List.mem_of_getElem? ho))
      rw [HG.out o (List.mem_of_getElem? ho)] at hA
      have HA := Lib.hid hA
      clear hE hE2 ho hA
      go_wp2_with fail
      (with_reducible refine HA.out.mono ?_)
      rintro e w1 ⟨rfl, b1⟩
      have B1 := Lib.hid (B.out.trans (b1.mono B.out.size)); clear b1
      go_wp2_with fail
      go_roundw
      case rel => exact ⟨k + 1, by omega, by go_num, B1.out⟩
      case measure => simp [intOf]; omega
    · have HE1 := Lib.hid (HE.out _ (H.out.below B.out))
      clear HE
      go_wp2_with fail
      (with_reducible refine HE1.out.mono ?_)
      rintro e w1 ⟨rfl, b1⟩
      have B1 := Lib.hid (B.out.trans (b1.mono B.out.size)); clear b1
      go_wp2_with fail
      go_ret2
      exact ⟨rfl, B1.out⟩
end
end Go.Proofs.YtokgplgdaememaaDoor
