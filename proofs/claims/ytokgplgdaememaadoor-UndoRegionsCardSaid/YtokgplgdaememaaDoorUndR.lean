/- The walk of UndoRegions. -/
import Derived.Test.YtokgplgdaememaaDoorUndB
namespace Go.Proofs.YtokgplgdaememaaDoor
open Go.RowKit Go.Maps

section
variable {w : World}
set_option maxRecDepth 100000 in
set_option maxHeartbeats 1000000 in
theorem r16Open_arg (x y : Int) (s : Nat) (h : x < 0 ∨ y < 2) : Calls Tryd.prog 16 #[.int .i64 x, .int .i64 y, .int .u64 s] w fun r w' => r = .returned (.int .i64 1) ∧ w = w' := by
  by_cases hx : x < 0
  · go_enter Tryd.func16, Tryd.ntmps16
    go_wp2_with fail
    go_ret
    exact ⟨rfl, rfl⟩
  · have hy : y < 2 := by omega
    clear h
    go_enter Tryd.func16, Tryd.ntmps16
    go_wp2_with fail
    go_ret
    exact ⟨rfl, rfl⟩
set_option maxRecDepth 100000 in
set_option maxHeartbeats 1000000 in
theorem r16Open_rest (x y s : Nat) (h2 : 2 ≤ y) (hs : s ≤ 262144) : Calls Tryd.prog 16 #[.int .i64 x, .int .i64 y, .int .u64 s] w fun r w' => r = .returned (.int .i64 (if s < 64 * (x + y) then 2 else 0)) ∧ w = w' := by
  have hx0 : ¬ (x : Int) < 0 := by omega
  have hy2 : ¬ (y : Int) < 2 := by omega
  by_cases hy : 4096 < y
  · have hy' : (4096 : Int) < y := by omega
    have E : Hid ((if s < 64 * (x + y) then (2 : Int) else 0) = 2) := by show (if _ then (2 : Int) else 0) = 2; rw [if_pos (by omega)]
    rw [E.out]
    go_enter Tryd.func16, Tryd.ntmps16
    go_wp2_with fail
    go_ret
    exact ⟨rfl, rfl⟩
  · have hy' : ¬ (4096 : Int) < y := by omega
    by_cases hx : 4096 < x
    · have hx' : (4096 : Int) < x := by omega
      have E : Hid ((if s < 64 * (x + y) then (2 : Int) else 0) = 2) := by show (if _ then (2 : Int) else 0) = 2; rw [if_pos (by omega)]
      rw [E.out]
      go_enter Tryd.func16, Tryd.ntmps16
      go_wp2_with fail
      go_ret
      exact ⟨rfl, rfl⟩
    · have hx' : ¬ (4096 : Int) < x := by omega
      by_cases hb : s < 64 * (x + y)
      · have hb' : (s : Int) < 64 * ((x : Int) + y) := by omega
        have E : Hid ((if s < 64 * (x + y) then (2 : Int) else 0) = 2) := by show (if _ then (2 : Int) else 0) = 2; rw [if_pos hb]
        rw [E.out]
        clear hb
        go_enter Tryd.func16, Tryd.ntmps16
        go_wp2_with fail
        go_ret
        exact ⟨rfl, rfl⟩
      · have hb' : ¬ (s : Int) < 64 * ((x : Int) + y) := by omega
        have E : Hid ((if s < 64 * (x + y) then (2 : Int) else 0) = 0) := by show (if _ then (2 : Int) else 0) = 0; rw [if_neg hb]
        rw [E.out]
        clear hb
        go_enter Tryd.func16, Tryd.ntmps16
        go_wp2_with fail
        go_ret
        exact ⟨rfl, rfl⟩
variable {v : DV} {own : Nat → Option Role} {D : Dev} {lb j off n : Nat} {wc : World}
theorem isThr (a : Addr) : (.iface 32 (.pointer (some a)) : Value) = .nilIface ∨ ∃ b, (.iface 32 (.pointer (some a)) : Value) = .iface 32 (.pointer (some b)) := .inr ⟨a, rfl⟩
set_option maxRecDepth 100000 in
set_option maxHeartbeats 4000000 in
theorem regions_none (h : Wh w) (x y : Int) : Calls Tryd.prog 3 #[.int .i64 x, .int .i64 y, .bool true] w fun r w' => r = .returned (.bool true) ∧ Below w.heap.size w w' := by
  have HW := Lib.hid h; clear h
  go_enter Tryd.func3, Tryd.ntmps3
  go_wp2_with fail
  (with_reducible refine awake16.mono ?_)
  rintro e w1 ⟨rfl, b1⟩
  have B1 := Lib.hid b1
  have W1 := Lib.hid (HW.out.below b1); clear b1
  go_wp2_with fail
  (with_reducible refine (made16 W1.out).mono ?_)
  rintro e w2 ⟨v, own, lb, rfl, l2⟩
  have L2 := Lib.hid l2; clear l2
  go_wp2_with fail
  (with_reducible refine (uOpen_nil x y).mono ?_)
  rintro e w3 ⟨rfl, b3⟩
  have B3 := Lib.hid b3; clear b3
  go_wp2_with fail
  (with_reducible refine (uLook_err (.inl rfl) (by decide) (uOpen_nil x y)).mono ?_)
  rintro e w4 ⟨rfl, b4⟩
  have B4 := Lib.hid b4; clear b4
  go_wp2_with fail
  go_ret
  exact ⟨rfl, B1.out.trans ((L2.out.bel.trans ((B3.out.trans (B4.out.mono B3.out.size)).mono L2.out.bel.size)).mono B1.out.size)⟩
/-- Open and Look refuse a region with error c. -/
theorem regions_bad (h : Wh w) (x y c : Int) (hc : c = 1 ∨ c = 2) (hO : ∀ (wx : World) (v : DV) (own : Nat → Option Role), IsDev wx v own D0 → Calls Tryd.prog 13 #[.iface 32 (.pointer (some ⟨v.tb 0, 0, none⟩)), .int .i64 x, .int .i64 y] wx (OpenErr wx c))
    (hR : ∀ wx : World, Calls Tryd.prog 16 #[.int .i64 x, .int .i64 y, .int .u64 1536] wx fun r w' => r = .returned (.int .i64 c) ∧ wx = w') :
    Calls Tryd.prog 3 #[.int .i64 x, .int .i64 y, .bool false] w fun r w' => r = .returned (.bool true) ∧ Below w.heap.size w w' := by
  have HW := Lib.hid h; clear h
  have HO := Lib.hid hO; have HR := Lib.hid hR; clear hO hR
  have hne : c ≠ 0 := by omega
  have hb1 : (c != 0) = true := by simpa using hne
  have hb2 : (c == c) = true := by simp
  have HL := Lib.hid (fun (wx : World) (v : DV) (own : Nat → Option Role) hd => uLook_err (isThr ⟨v.tb 0, 0, none⟩) hne (HO.out wx v own hd))
  clear hc hne
  go_enter Tryd.func3, Tryd.ntmps3
  go_wp2_with fail
  (with_reducible refine awake16.mono ?_)
  rintro e w1 ⟨rfl, b1⟩
  have B1 := Lib.hid b1
  have W1 := Lib.hid (HW.out.below b1); clear b1
  go_wp2_with fail
  (with_reducible refine (made16 W1.out).mono ?_)
  rintro e w2 ⟨v, own, lb, rfl, l2⟩
  have L2 := Lib.hid l2; clear l2
  go_wp2_with fail
  (with_reducible refine (thread0_any L2.out.dev).mono ?_)
  rintro e w' ⟨rfl, rfl⟩
  go_wp2_with fail
  (with_reducible refine (HO.out _ _ _ L2.out.dev).mono ?_)
  rintro e w3 ⟨rfl, b3⟩
  have L3 := Lib.hid (L2.out.next b3); clear b3
  have g2 := (W1.out.below L3.out.bel).c2
  go_wp2_with fail
  (with_reducible refine (HR.out _).mono ?_)
  rintro e w' ⟨rfl, rfl⟩
  go_wp2_with fail
  (with_reducible refine (thread0_any L3.out.dev).mono ?_)
  rintro e w' ⟨rfl, rfl⟩
  go_wp2_with fail
  (with_reducible refine (HL.out _ _ _ L3.out.dev).mono ?_)
  rintro e w4 ⟨rfl, b4⟩
  have L4 := Lib.hid (L3.out.next b4); clear b4
  go_wp2_with fail
  go_ret
  exact ⟨rfl, B1.out.trans (L4.out.bel.mono B1.out.size)⟩
set_option maxRecDepth 100000 in
set_option maxHeartbeats 4000000 in
theorem regions_ok (h : Wh w) (x y : Nat) (h2 : 2 ≤ y) (hr : x + y ≤ 24) :
    Calls Tryd.prog 3 #[.int .i64 x, .int .i64 y, .bool false] w fun r w' => r = .returned (.bool true) ∧ Below w.heap.size w w' := by
  have HW := Lib.hid h; clear h
  have HO := Lib.hid (fun (wx : World) (v : DV) (own : Nat → Option Role) (hd : IsDev wx v own D0) => uOpen_ok hd (j := 0) (by omega) x y h2 hr)
  have hR := fun wx : World => r16Open_rest (w := wx) x y 1536 h2 (by omega)
  rw [if_neg (by omega), show ((1536 : Nat) : Int) = 1536 from rfl] at hR
  have HR := Lib.hid hR; clear hR
  have e4 : (4 : Int) * ((y : Int) - 1) = ((4 * (y - 1) : Nat) : Int) := by omega
  have hb4 : (((4 * (y - 1) : Nat) : Int) == 4 * ((y : Int) - 1)) = true := by simp; omega
  clear e4
  go_enter Tryd.func3, Tryd.ntmps3
  go_wp2_with fail
  (with_reducible refine awake16.mono ?_)
  rintro e w1 ⟨rfl, b1⟩
  have B1 := Lib.hid b1
  have W1 := Lib.hid (HW.out.below b1); clear b1
  go_wp2_with fail
  (with_reducible refine (made16 W1.out).mono ?_)
  rintro e w2 ⟨v, own, lb, rfl, l2⟩
  have L2 := Lib.hid l2; clear l2
  go_wp2_with fail
  (with_reducible refine (thread0_any L2.out.dev).mono ?_)
  rintro e w' ⟨rfl, rfl⟩
  go_wp2_with fail
  (with_reducible refine (HO.out _ _ _ L2.out.dev).mono ?_)
  rintro e w3 ⟨rfl, l3, b3⟩
  have L3 := Lib.hid (L2.out.next b3); clear b3
  have HC := Lib.hid (ucap_any l3); clear l3
  have g2 := (W1.out.below L3.out.bel).c2
  go_wp2_with fail
  (with_reducible refine (HR.out _).mono ?_)
  rintro e w' ⟨rfl, rfl⟩
  go_wp2_with fail
  (with_reducible refine HC.out.mono ?_)
  rintro e w' ⟨rfl, rfl⟩
  go_wp2_with fail
  go_ret
  exact ⟨ret_bool (a := (4 * ((y - 1 : Nat) : Int) == 4 * ((y : Int) - 1))) (by simp; omega), B1.out.trans (L3.out.bel.mono B1.out.size)⟩
theorem undoRegions_any (h : Wh w) (x y : Int) (none : Bool) (hx : -9223372036854775808 ≤ x ∧ x < 9223372036854775808) (hy : -9223372036854775808 ≤ y ∧ y < 9223372036854775808) :
    Calls Tryd.prog 3 #[.int .i64 x, .int .i64 y, .bool none] w fun r w' => r = .returned (.bool true) ∧ Below w.heap.size w w' := by
  cases none
  · by_cases hA : x < 0 ∨ y < 2
    · exact regions_bad h x y 1 (.inl rfl) (fun wx v own hd => uOpen_arg _ x y hA) (fun wx => by have := r16Open_arg (w := wx) x y 1536 hA; exact this)
    · obtain ⟨a, rfl⟩ : ∃ a : Nat, x = a := ⟨x.toNat, by omega⟩
      obtain ⟨b, rfl⟩ : ∃ b : Nat, y = b := ⟨y.toNat, by omega⟩
      by_cases hB : a + b ≤ 24
      · exact regions_ok h a b (by omega) hB
      · exact regions_bad h a b 2 (.inr rfl) (fun wx v own hd => uOpen_range hd (by omega) a b (by omega) (by omega) (by omega) (by show 24 < a + b; omega))
          (fun wx => by have := r16Open_rest (w := wx) a b 1536 (by omega) (by omega); rw [if_pos (by omega)] at this; exact this)
  · exact regions_none h x y
end
end Go.Proofs.YtokgplgdaememaaDoor
