/- Find, Holds and Confirm of the protocol 'failing' that does not fail; the system's protocols on too few lines. -/
import Derived.Test.YtahpadhejjlpoaaGreatDoorNcQ
namespace Go.Proofs.YtahpadhejjlpoaaGreatDoor
open Go.RowKit Go.Maps
attribute [local go_sem ↓] Go.wp_at_zero Go.wp_at_succ

section
variable {w : World} {v : DV} {own : Nat → Option Role} {D : Dev}
set_option maxRecDepth 100000 in
set_option maxHeartbeats 4000000 in
theorem findF_any (n : Nat) (h0 : 0 < n) (hn : n ≤ 4096) (L : Nat) (hL0 : 1 ≤ L) (hL : L ≤ 9223372036854775807) :
    Calls Tryz.prog 5 #[(.iface 25 (.agg #[.int .i64 0, .int .i64 0])), .int .i64 n, .int .i64 (-1), .int .i64 L] w fun r w' => r = .returned (.tuple #[.agg #[.int .i64 0, .int .i64 0, .slice none 0 0], .bool false, .int .i64 0]) ∧ Below w.heap.size w w' := by
  have K0 := Lib.hid (Blk.new w #[.int .i64 0, .int .i64 0, .slice none 0 0] 28)
  have B0 := Lib.hid (below_alloc w (.cells #[.int .i64 0, .int .i64 0, .slice none 0 0] 28))
  have HP := Lib.hid (fun (wx : World) => prep_flProg (w := wx) 0 n h0 hn)
  have hL1 : ¬ (L : Int) < 1 := by omega
  have HIN := Lib.hid (fun (wx : World) (v : DV) (own : Nat → Option Role) (hd : IsDev wx v own (Dev.fresh n (fun _ => 0))) => incF_any n hd true L hL0 hL)
  go_enter Tryz.func5, Tryz.ntmps5
  go_wp2_with fail
  (with_reducible refine (HP.out _).mono ?_)
  rintro r w1 (⟨h1, _⟩ | ⟨_, v, own, rfl, d1, o1, b1⟩)
  · exact absurd rfl h1
  have K1 := Lib.hid (K0.out.below b1)
  have B1 := Lib.hid (B0.out.trans (b1.mono B0.out.size))
  have HI1 := Lib.hid (HIN.out w1 v own d1)
  clear d1 o1 b1 HIN HP
  go_wp2_with fail
  go_loopw [14] (fun y wr => y = .int .i64 0 ∧ wr = w1) (fun _ _ => 0)
  case atStart => exact ⟨rfl, rfl⟩
  case round =>
    obtain ⟨rfl, rfl⟩ := hrel
    go_wp2_with fail
    (with_reducible refine HI1.out.mono ?_)
    rintro r w2 ⟨rfl, b2⟩
    have K2 := Lib.hid (K1.out.below b2)
    have B2 := Lib.hid (B1.out.trans (b2.mono B1.out.size))
    have r0 := K2.out.cell (i := 0) rfl; have r1 := K2.out.cell (i := 1) rfl; have r2 := K2.out.cell (i := 2) rfl
    have f0 := K2.out.frozen 0; have f1 := K2.out.frozen 1; have f2 := K2.out.frozen 2
    clear b2
    go_wp2_with fail
    refine bodyPost_ret (v := .tuple #[.agg #[.int .i64 0, .int .i64 0, .slice none 0 0], .bool false, .int .i64 0]) (by simp [results, Tryz.results5, go_sem, r0, r1, r2]) rfl ⟨rfl, ?_⟩
    exact below_set3 B2.out (Nat.le_refl _) _ _ _
set_option maxHeartbeats 2000000 in
theorem holdsF_any (n : Nat) (h0 : 0 < n) (hn : n ≤ 4096) (L : Nat) (hL0 : 1 ≤ L) (hL : L ≤ 9223372036854775807) :
    Calls Tryz.prog 6 #[(.iface 25 (.agg #[.int .i64 0, .int .i64 0])), .int .i64 n, .int .i64 L] w fun r w' => r = .returned (.tuple #[.bool true, .int .i64 0]) ∧ Below w.heap.size w w' := by
  have HF := Lib.hid (findF_any (w := w) n h0 hn L hL0 hL)
  go_enter Tryz.func6, Tryz.ntmps6
  go_wp2_with fail
  (with_reducible refine HF.out.mono ?_)
  rintro r w1 ⟨rfl, b1⟩
  have B1 := Lib.hid b1
  clear b1
  go_wp2_with fail
  go_ret2
  exact ⟨rfl, B1.out.trans ((below_alloc _ _).mono B1.out.size)⟩
set_option maxRecDepth 100000 in
set_option maxHeartbeats 4000000 in
theorem confirmF_any (n : Nat) (h0 : 0 < n) (hn : n ≤ 4096) :
    Calls Tryz.prog 7 #[(.iface 25 (.agg #[.int .i64 0, .int .i64 0])), .int .i64 n, .agg #[.int .i64 (-1), .int .i64 0, .slice none 0 0]] w fun r w' => r = .returned (.tuple #[.bool false, .int .i64 0]) ∧ Below w.heap.size w w' := by
  have K0 := Lib.hid (Blk.new w #[.int .i64 (-1), .int .i64 0, .slice none 0 0] 28)
  have B0 := Lib.hid (below_alloc w (.cells #[.int .i64 (-1), .int .i64 0, .slice none 0 0] 28))
  have HP := Lib.hid (fun (wx : World) => prep_flProg (w := wx) 0 n h0 hn)
  have hmg := meth_flGood 0 0
  have HGD := Lib.hid (fun (wx : World) (dv : Value) (e : Bool) => flGood_any (w := wx) 0 0 dv e)
  have hvb : (Dev.fresh n (fun _ => 0)).VB := fresh_vb n (fun i => by omega)
  have HIM := Lib.hid (fun (wx : World) (v : DV) (own : Nat → Option Role) (hd : IsDev wx v own (Dev.fresh n (fun _ => 0))) => imageN_any hd hvb (.slice none 0 0) [] (OwnSl.nil wx 0 1).rd (by simp) (by simp) (by show 0 < _; omega))
  have HFR := Lib.hid (fun (wx : World) (g : Nat) (F : Nat → Int) (hr : Row wx g (64 * n) 5 (fun j => .int .u8 (byteAt F j))) => devFrom_any (w := wx) (.slice (some ⟨g, 0, none⟩) (64 * n) (64 * n)) n (byteAt F) (bytesRd hr) h0 hn (fun j _ => by
    unfold byteAt
    exact ⟨Int.emod_nonneg _ (by omega), Int.emod_lt_of_pos _ (by omega)⟩))
  unfold ImPostN at HIM
  rw [show (Dev.fresh n (fun _ => 0)).n = n from rfl] at HIM
  clear hvb
  go_enter Tryz.func7, Tryz.ntmps7
  go_wp2_with fail
  (with_reducible refine (HP.out _).mono ?_)
  rintro r w1 (⟨h1, _⟩ | ⟨_, v, own, rfl, d1, o1, b1⟩)
  · exact absurd rfl h1
  have K1 := Lib.hid (K0.out.below b1)
  have B1 := Lib.hid (B0.out.trans (b1.mono B0.out.size))
  have HI1 := Lib.hid (HIM.out w1 v own d1)
  have e0 := K1.out.cell (i := 0) rfl; have e1 := K1.out.cell (i := 1) rfl; have e2 := K1.out.cell (i := 2) rfl
  clear d1 o1 b1 HIM HP
  go_wp2_with fail
  go_loopw [11, 37] (fun _ y wr => y = .int .i64 0 ∧ wr = w1) (fun _ _ _ => 0)
  case atStart => exact ⟨rfl, rfl⟩
  case round =>
    obtain ⟨rfl, rfl⟩ := hrel
    go_wp2_with fail
    (with_reducible refine HI1.out.mono ?_)
    rintro r w2 ⟨ks, g, z1, z2, rfl, z3, b2⟩
    have HF2 := Lib.hid (HFR.out w2 g _ z3)
    have B2 := Lib.hid (B1.out.trans (b2.mono B1.out.size))
    have K2 := Lib.hid (K1.out.below b2)
    clear z1 z2 z3 b2 HFR e0 e1 e2
    go_wp2_with fail
    (with_reducible refine HF2.out.mono ?_)
    rintro r w3 ⟨v2, own2, rfl, _, _, b3⟩
    have B3 := Lib.hid (B2.out.trans (b3.mono B2.out.size))
    have K3 := Lib.hid (K2.out.below b3)
    have e1 := K3.out.cell (i := 1) (v := .int .i64 0) rfl
    clear b3 HF2
    go_wp2_with fail
    (with_reducible refine (HGD.out _ _ _).mono ?_)
    rintro r w4 ⟨rfl, b4⟩
    have B4 := Lib.hid (B3.out.trans (b4.mono B3.out.size))
    clear b4
    go_wp2_with fail
    go_ret2
    exact ⟨rfl, B4.out⟩
end
section
variable {w : World} {v : DV} {own : Nat → Option Role} {D : Dev}
theorem meth_sySetup (a : Addr) (w : World) : (method 451 106 (.pointer (some a)) "Setup").run Tryz.prog w = .ok (282, .pointer (some a)) w := by kernel_rfl
theorem sySetup_any (h : IsDev w v own D) (hn : D.n < 64) (a : Addr) : Calls Tryz.prog 282 #[.pointer (some a), .pointer (some ⟨v.db, 0, none⟩)] w fun r w' => r = .returned (.int .i64 9) ∧ Below w.heap.size w w' := by
  have HL := Lib.hid (lines_any h)
  obtain ⟨k, hk⟩ : ∃ k, D.n = k := ⟨_, rfl⟩
  rw [hk] at HL hn
  have hn' : (k : Int) < 64 := by omega
  clear h hk
  go_enter Tryz.func282, Tryz.ntmps282
  go_wp2_with fail
  (with_reducible refine HL.out.mono ?_)
  rintro r w1 ⟨rfl, rfl⟩
  go_wp2_with fail
  go_ret
  exact ⟨rfl, Below.refl _ _⟩
set_option maxRecDepth 100000 in
set_option maxHeartbeats 4000000 in
theorem prep_sy (a : Addr) (f : Int) (n : Nat) (h0 : 0 < n) (hn : n < 64) : Calls Tryz.prog 9 #[.iface 106 (.pointer (some a)), .int .i64 n, .int .i64 f] w (PrErr w 9) := by
  have HN := Lib.hid (new_any (w := w) n h0 (by omega))
  have hms := meth_sySetup a
  have HS := Lib.hid (fun (wx : World) (v : DV) (own : Nat → Option Role) (hd : IsDev wx v own (Dev.fresh n (fun _ => 0))) => sySetup_any hd hn a)
  go_enter Tryz.func9, Tryz.ntmps9
  go_wp2_with fail
  (with_reducible refine HN.out.mono ?_)
  rintro r w1 ⟨v, own, rfl, d1, o1, b1⟩
  have HS1 := Lib.hid (HS.out w1 v own d1)
  have B1 := Lib.hid b1
  clear d1 o1 b1
  go_wp2_with fail
  (with_reducible refine HS1.out.mono ?_)
  rintro r w2 ⟨rfl, b2⟩
  have B2 := Lib.hid (B1.out.trans (b2.mono B1.out.size))
  clear b2
  go_wp2_with fail
  go_ret3
  exact ⟨rfl, B2.out⟩
end
end Go.Proofs.YtahpadhejjlpoaaGreatDoor
