/- The walks of the law's protocol 'failing', of which Setup and Program return errors. -/
import Derived.Test.YtahpadhejjlpoaaGreatDoorNcR
namespace Go.Proofs.YtahpadhejjlpoaaGreatDoor
open Go.RowKit Go.Maps
attribute [local go_sem ↓] Go.wp_at_zero Go.wp_at_succ

section
variable {w : World} {v : DV} {own : Nat → Option Role} {D : Dev}
theorem meth_flSetup (a b : Int) (w : World) : (method 451 25 (.agg #[.int .i64 a, .int .i64 b]) "Setup").run Tryz.prog w = .ok (259, (.agg #[.int .i64 a, .int .i64 b])) w := by kernel_rfl
theorem meth_flProgram (a b : Int) (w : World) : (method 451 25 (.agg #[.int .i64 a, .int .i64 b]) "Program").run Tryz.prog w = .ok (258, (.agg #[.int .i64 a, .int .i64 b])) w := by kernel_rfl
theorem meth_flGood (a b : Int) (w : World) : (method 451 25 (.agg #[.int .i64 a, .int .i64 b]) "Good").run Tryz.prog w = .ok (257, (.agg #[.int .i64 a, .int .i64 b])) w := by kernel_rfl
theorem nil_flProgram (a b : Int) (w : World) : (nilAhead 451 25 (.agg #[.int .i64 a, .int .i64 b]) "Program").run Tryz.prog w = .ok (some false) w := by kernel_rfl
theorem flSetup_any (a b : Int) (dv : Value) : Calls Tryz.prog 259 #[(.agg #[.int .i64 a, .int .i64 b]), dv] w fun r w' => r = .returned (.int .i64 a) ∧ Below w.heap.size w w' := by
  go_enter Tryz.func259, Tryz.ntmps259
  go_wp2_with fail
  go_ret
  exact ⟨rfl, below_alloc _ _⟩
theorem flProgram_any (a b : Int) (dv : Value) : Calls Tryz.prog 258 #[(.agg #[.int .i64 a, .int .i64 b]), dv] w fun r w' => r = .returned (.tuple #[.slice none 0 0, .int .i64 b]) ∧ Below w.heap.size w w' := by
  go_enter Tryz.func258, Tryz.ntmps258
  go_wp2_with fail
  go_quiet (fail)
  go_wp2_with fail
  go_ret2
  exact ⟨rfl, (below_alloc _ _).trans ((Qt.drewN _ nq).below.mono (by simp))⟩
theorem flGood_any (a b : Int) (dv : Value) (e : Bool) : Calls Tryz.prog 257 #[(.agg #[.int .i64 a, .int .i64 b]), dv, .bool e] w fun r w' => r = .returned (.bool true) ∧ Below w.heap.size w w' := by
  go_enter Tryz.func257, Tryz.ntmps257
  go_wp2_with fail
  go_ret
  exact ⟨rfl, below_alloc _ _⟩
set_option maxRecDepth 100000 in
set_option maxHeartbeats 4000000 in
theorem prep_flBad (a b n f : Int) (h : n < 1 ∨ 4096 < n) : Calls Tryz.prog 9 #[.iface 25 (.agg #[.int .i64 a, .int .i64 b]), .int .i64 n, .int .i64 f] w (PrErr w 1) := by
  have HN := Lib.hid (newBad_any (w := w) n h)
  clear h
  go_enter Tryz.func9, Tryz.ntmps9
  go_wp2_with fail
  (with_reducible refine HN.out.mono ?_)
  rintro r w1 ⟨rfl, rfl⟩
  go_wp2_with fail
  go_ret3
  exact ⟨rfl, Below.refl _ _⟩
set_option maxRecDepth 100000 in
set_option maxHeartbeats 4000000 in
theorem prep_flSetup (a b f : Int) (n : Nat) (h0 : 0 < n) (hn : n ≤ 4096) (ha : a ≠ 0) : Calls Tryz.prog 9 #[.iface 25 (.agg #[.int .i64 a, .int .i64 b]), .int .i64 n, .int .i64 f] w (PrErr w a) := by
  have HN := Lib.hid (new_any (w := w) n h0 hn)
  have hms := meth_flSetup a b
  have hb : (a != 0) = true := by simpa using ha
  have HS := Lib.hid (fun (wx : World) (dv : Value) => flSetup_any (w := wx) a b dv)
  clear ha
  go_enter Tryz.func9, Tryz.ntmps9
  go_wp2_with fail
  (with_reducible refine HN.out.mono ?_)
  rintro r w1 ⟨v, own, rfl, d1, o1, b1⟩
  have B1 := Lib.hid b1
  clear d1 o1 b1
  go_wp2_with fail
  (with_reducible refine (HS.out _ _).mono ?_)
  rintro r w2 ⟨rfl, b2⟩
  have B2 := Lib.hid (B1.out.trans (b2.mono B1.out.size))
  clear b2
  go_wp2_with fail
  go_ret3
  exact ⟨rfl, B2.out⟩
/-- prepare of a protocol whose program is empty. -/
def PrOk (w : World) (n : Nat) (r : Ending) (w' : World) : Prop :=
  ∃ (v : DV) (own : Nat → Option Role), r = .returned (.tuple #[.pointer (some ⟨v.db, 0, none⟩), .slice none 0 0, .int .i64 0]) ∧ IsDev w' v own (Dev.fresh n (fun _ => 0)) ∧ (∀ k, own k ≠ none → w.heap.size ≤ k) ∧ Below w.heap.size w w'
set_option maxRecDepth 100000 in
set_option maxHeartbeats 4000000 in
theorem prep_flProg (b : Int) (n : Nat) (h0 : 0 < n) (hn : n ≤ 4096) : Calls Tryz.prog 9 #[.iface 25 (.agg #[.int .i64 0, .int .i64 b]), .int .i64 n, .int .i64 (-1)] w fun r w' => (b ≠ 0 ∧ PrErr w b r w') ∨ (b = 0 ∧ PrOk w n r w') := by
  have HN := Lib.hid (new_any (w := w) n h0 hn)
  have hms := meth_flSetup 0 b; have hmp := meth_flProgram 0 b; have hnl := nil_flProgram 0 b
  have HS := Lib.hid (fun (wx : World) (dv : Value) => flSetup_any (w := wx) 0 b dv)
  have HG := Lib.hid (fun (wx : World) (dv : Value) => flProgram_any (w := wx) 0 b dv)
  have HFE := Lib.hid (fun (wx : World) => fences_any (w := wx) (.slice none 0 0) [] ⟨rfl, none, 0, rfl, Nat.le_refl _, .inl rfl⟩ (Nat.zero_le _))
  rw [show fenN [] = 0 from rfl] at HFE
  rw [show ((0 : Nat) : Int) = 0 from rfl] at HFE
  go_enter Tryz.func9, Tryz.ntmps9
  go_wp2_with fail
  (with_reducible refine HN.out.mono ?_)
  rintro r w1 ⟨v, own, rfl, d1, o1, b1⟩
  have D1 := Lib.hid d1; have O1 := Lib.hid o1; have B1 := Lib.hid b1
  clear d1 o1 b1
  go_wp2_with fail
  (with_reducible refine (HS.out _ _).mono ?_)
  rintro r w2 ⟨rfl, b2⟩
  have D2 := Lib.hid (D1.out.kept b2.size (fun k hk => b2.block k (D1.out.lt k hk)))
  have B2 := Lib.hid (B1.out.trans (b2.mono B1.out.size))
  clear b2 D1 B1 HS
  have HTH := Lib.hid (fun (wx : World) (hx : IsDev wx v own (Dev.fresh n (fun _ => 0))) => thrZ_any hx)
  have D2d : Hid (IsDev w2.drew v own (Dev.fresh n (fun _ => 0))) := D2.out.drew
  go_wp2_with fail
  go_region_with (first | (go_at_call 13; (with_reducible refine (HTH.out _ D2d.out).mono ?_); rintro e w' ⟨rfl, rfl⟩) | (go_at_call 258; (with_reducible refine (HG.out _ _).mono ?_); rintro e w3 ⟨rfl, b3⟩; have B3 := Lib.hid ((B2.out.drew).trans (b3.mono B2.out.size)); have D3 := Lib.hid (D2d.out.kept b3.size (fun k hk => b3.block k (D2d.out.lt k hk))); clear b3))
  all_goals
    by_cases hb0 : b = 0
    · subst hb0
      go_wp2_with fail
      (with_reducible refine (HFE.out _).mono ?_)
      rintro r w4 ⟨rfl, b4⟩
      have B4 := Lib.hid (B3.out.trans (b4.mono B3.out.size))
      have D4 := Lib.hid (D3.out.kept b4.size (fun k hk => b4.block k (D3.out.lt k hk)))
      clear b4
      go_wp2_with fail
      go_ret3
      first
        | exact ⟨v, own, rfl, D4.out, O1.out, B4.out⟩
        | exact .inr ⟨rfl, v, own, rfl, D4.out, O1.out, B4.out⟩
    · have hb : (b != 0) = true := by simpa using hb0
      have HB0 := Lib.hid hb0
      clear hb0
      go_wp2_with fail
      go_ret3
      first
        | exact .inl ⟨HB0.out, rfl, B3.out⟩
        | exact ⟨rfl, B3.out⟩
theorem fresh_bases (n : Nat) (f : Nat → Int) : prodN (basesL (Dev.fresh n f)) = 1 ∧ (Dev.fresh n f).dirtyL = [] := by
  have e : (Dev.fresh n f).dirtyL = [] := dirty_none (fun _ => rfl)
  refine ⟨?_, e⟩
  unfold basesL
  rw [e]
  rfl
set_option maxRecDepth 100000 in
set_option maxHeartbeats 8000000 in
theorem incF_any (n : Nat) (h : IsDev w v own (Dev.fresh n (fun _ => 0))) (e : Bool) (L : Nat) (hL0 : 1 ≤ L) (hL : L ≤ 9223372036854775807) :
    Calls Tryz.prog 10 #[.iface 25 (.agg #[.int .i64 0, .int .i64 0]), .pointer (some ⟨v.db, 0, none⟩), .bool e, .int .i64 L] w fun r w' => r = .returned (.tuple #[.int .u64 0, .bool false, .int .i64 0]) ∧ Below w.heap.size w w' := by
  have hn := h.wf.le
  have hvb : (Dev.fresh n (fun _ => 0)).VB := fresh_vb n (fun i => by omega)
  obtain ⟨hp1, hd0⟩ := fresh_bases n (fun _ => 0)
  have hql : ∀ l ∈ (Dev.fresh n (fun _ => 0)).dirtyL, ((Dev.fresh n (fun _ => 0)).hist l).length ≤ 1000000000 := fun l hl => by rw [hd0] at hl; cases hl
  have hex : (Dev.fresh n (fun _ => 0)).exec = 0 := rfl
  have HC := Lib.hid (count_any h hvb (by omega) (by omega) hql)
  have HAT := Lib.hid (fun (wx : World) (hb : Below w.heap.size w wx) (i : Nat) (hi : i < prodN (basesL (Dev.fresh n (fun _ => 0)))) => csAtN_any (h.kept hb.size (fun k hk => hb.block k (h.lt k hk))) hvb (by omega) i hi (by omega) hql)
  have HDV := Lib.hid (fun (wx : World) (s : ByteArray) (ks : Nat → Nat) (hs : ImgS s (Dev.fresh n (fun _ => 0)).n ((Dev.fresh n (fun _ => 0)).img ks)) => imDevice_any (w := wx) hs h.wf.pos hn (fun i => hvb.img ks i))
  have hmg := meth_flGood 0 0
  have HGD := Lib.hid (fun (wx : World) (dv : Value) => flGood_any (w := wx) 0 0 dv e)
  rw [hp1] at HC HAT
  rw [show ((1 : Nat) : Int) = 1 from rfl] at HC
  have gL : IntKind.u64.wrap (L : Int) = (L : Int) := IntWalk.u64_in _ (by omega)
  have hLP' : ¬ (L : Int) < 1 := by omega
  obtain ⟨D, hD⟩ : ∃ D, Dev.fresh n (fun _ => 0) = D := ⟨_, rfl⟩
  rw [hD] at HAT HDV
  clear h hvb hql hp1 hd0 hex hD
  go_enter Tryz.func10, Tryz.ntmps10
  go_wp2_with fail
  (with_reducible refine HC.out.mono ?_)
  rintro r w1 ⟨rfl, b1⟩
  have B1 := Lib.hid b1
  clear b1 HC
  go_wp2_with fail
  go_loopw [31] (fun y wy => ∃ i : Nat, i ≤ 1 ∧ y = .int .u64 i ∧ Below w.heap.size w wy) (fun y _ => 1 - (intOf y).toNat)
  case atStart => exact ⟨0, by omega, rfl, B1.out⟩
  case round =>
    obtain ⟨i, hi, rfl, hby⟩ := hrel
    rename World => wy
    have BY := Lib.hid hby
    clear hby
    obtain rfl | rfl : i = 0 ∨ i = 1 := by omega
    · have HAT1 := Lib.hid (HAT.out wy BY.out 0 (by omega))
      rw [show ((0 : Nat) : Int) = 0 from rfl] at HAT1 ⊢
      go_wp2_with fail
      (with_reducible refine HAT1.out.mono ?_)
      rintro r w3 ⟨ks, s, k1, rfl, k2, b3⟩
      have K2 := Lib.hid k2
      have B3 := Lib.hid (BY.out.trans (b3.mono BY.out.size))
      clear k1 k2 b3 HAT1
      have HDV1 := Lib.hid (fun o => HDV.out (w3.alloc o) s ks K2.out)
      go_wp2_with fail
      (with_reducible refine (HDV1.out _).mono ?_)
      rintro r w4 ⟨v2, own2, rfl, _, _, b4⟩
      have B4 := Lib.hid (B3.out.trans ((below_alloc w3 (.cells #[.string s] 71)).mono B3.out.size |>.trans (b4.mono (by simp; exact Nat.le_succ_of_le B3.out.size))))
      clear b4 HDV1
      go_wp2_with fail
      (with_reducible refine (HGD.out _ _).mono ?_)
      rintro r w5 ⟨rfl, b5⟩
      have B5 := Lib.hid (B4.out.trans (b5.mono B4.out.size))
      clear b5
      go_wp2_with fail
      go_roundw
      case rel => exact ⟨1, by omega, rfl, B5.out⟩
      case measure => simp [intOf]
    · rw [show ((1 : Nat) : Int) = 1 from rfl]
      go_wp2_with fail
      go_ret3
      exact ⟨rfl, BY.out⟩
end
end Go.Proofs.YtahpadhejjlpoaaGreatDoor
