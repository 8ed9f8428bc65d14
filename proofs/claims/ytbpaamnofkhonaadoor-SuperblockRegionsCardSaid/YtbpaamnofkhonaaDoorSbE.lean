/- The walks of the superblock's small functions over a device: linesOf, usable, newest, program. -/
import Derived.Test.YtbpaamnofkhonaaDoorSbP
import Derived.Test.YtbpaamnofkhonaaDoorRunU
import Derived.Test.YtbpaamnofkhonaaDoorDevL
import Derived.Deep.Cut
import Derived.Deep.CutRange
import Derived.Deep.RegionWith
import Derived.Deep.RegionHeld3
namespace Go.Proofs.YtbpaamnofkhonaaDoor
open Go.RowKit Go.Maps
attribute [local go_sem ↓] Go.wp_at_zero Go.wp_at_succ

/-- The cells of the two copies. -/
def cpsA (a b : Sup) (g0 g1 : Bool) : Array Value :=
  #[.int .i64 a.ver, .int .i64 a.lin, .int .i64 a.redo, .int .i64 a.und, .int .i64 a.desc, .int .i64 a.que, .int .i64 a.tab, .int .u64 a.gen,
    .int .i64 b.ver, .int .i64 b.lin, .int .i64 b.redo, .int .i64 b.und, .int .i64 b.desc, .int .i64 b.que, .int .i64 b.tab, .int .u64 b.gen, .bool g0, .bool g1]
def nwB (a b : Sup) (g0 g1 : Bool) : Bool := g1 && (!g0 || decide (a.gen < b.gen))
theorem newB_eq (C : Nat → Int) (n : Nat) : newB C n = nwB (cpS C n 0) (cpS C n 1) (cpG C n 0) (cpG C n 1) := rfl
section
variable {w : World} {v : DV} {own : Nat → Option Role} {D : Dev} {j : Nat}
set_option maxRecDepth 100000 in
set_option maxHeartbeats 1000000 in
theorem linesOf_any (h : IsDev w v own D) (hj : j < 8) : Calls Tryd.prog 66 #[.iface 49 (.pointer (some ⟨v.tb j, 0, none⟩))] w fun r w' => r = .returned (.int .u64 D.n) ∧ w = w' := by
  have hm1 := meth_Size ⟨v.tb j, 0, none⟩
  have HT := Lib.hid (thrSize_any h hj)
  have hq : (D.n : Int) * 64 / 64 = D.n := by omega
  have hn := h.wf.le
  have hu : IntKind.u64.wrap (D.n : Int) = D.n := IntWalk.u64_in _ (by omega)
  clear h
  go_enter Tryd.func66, Tryd.ntmps66
  go_wp2_with fail
  (with_reducible refine HT.out.mono ?_)
  rintro e w' ⟨rfl, rfl⟩
  go_wp2_with fail
  go_ret
  exact ⟨rfl, rfl⟩
set_option maxRecDepth 100000 in
set_option maxHeartbeats 1000000 in
theorem usable_nil : Calls Tryd.prog 46 #[.nilIface] w fun r w' => r = .returned (.int .i64 1) ∧ Below w.heap.size w w' := by
  go_enter Tryd.func46, Tryd.ntmps46
  go_wp2_with fail
  go_ret
  exact ⟨rfl, Below.refl _ _⟩
set_option maxRecDepth 100000 in
set_option maxHeartbeats 1000000 in
theorem usable_small (h : IsDev w v own D) (hj : j < 8) (hn : D.n < 2) : Calls Tryd.prog 46 #[.iface 49 (.pointer (some ⟨v.tb j, 0, none⟩))] w fun r w' => r = .returned (.int .i64 1) ∧ w = w' := by
  have HT := Lib.hid (linesOf_any h hj)
  have hn' : (D.n : Int) < 2 := by omega
  clear h
  go_enter Tryd.func46, Tryd.ntmps46
  go_wp2_with fail
  (with_reducible refine HT.out.mono ?_)
  rintro e w' ⟨rfl, rfl⟩
  go_wp2_with fail
  go_ret
  exact ⟨rfl, rfl⟩
set_option maxRecDepth 100000 in
set_option maxHeartbeats 1000000 in
theorem usable_any (h : IsDev w v own D) (hj : j < 8) (hn : 2 ≤ D.n) : Calls Tryd.prog 46 #[.iface 49 (.pointer (some ⟨v.tb j, 0, none⟩))] w fun r w' => r = .returned (.int .i64 (D.err j)) ∧ w = w' := by
  have hm1 := meth_Err ⟨v.tb j, 0, none⟩
  have HT := Lib.hid (linesOf_any h hj)
  have HE := Lib.hid (err_any h hj)
  have hn' : ¬ (D.n : Int) < 2 := by omega
  clear h
  go_enter Tryd.func46, Tryd.ntmps46
  go_wp2_with fail
  (with_reducible refine HT.out.mono ?_)
  rintro e w' ⟨rfl, rfl⟩
  go_wp2_with fail
  (with_reducible refine HE.out.mono ?_)
  rintro e w' ⟨rfl, rfl⟩
  go_wp2_with fail
  go_ret
  exact ⟨rfl, rfl⟩
set_option maxRecDepth 100000 in
set_option maxHeartbeats 2000000 in
theorem newest_any (a b : Sup) (g0 g1 : Bool) (nn : Nat) (gg : Bool) (h1 : nn = if nwB a b g0 g1 then 1 else 0) (h2 : gg = if nwB a b g0 g1 then true else g0) :
    Calls Tryd.prog 48 #[.agg (cpsA a b g0 g1)] w fun r w' => r = .returned (.tuple #[.int .i64 nn, .bool gg]) ∧ Below w.heap.size w w' := by
  obtain ⟨av, al, ar, au, ad, aq, at', ag⟩ := a
  obtain ⟨bv, bl, br, bu, bd, bq, bt, bg⟩ := b
  have HB := Lib.hid (below_alloc w (.cells (cpsA ⟨av, al, ar, au, ad, aq, at', ag⟩ ⟨bv, bl, br, bu, bd, bq, bt, bg⟩ g0 g1) 99))
  unfold cpsA at *
  cases g1
  · obtain rfl : nn = 0 := h1
    obtain rfl : gg = g0 := h2
    go_enter Tryd.func48, Tryd.ntmps48
    go_wp2_with fail
    go_region
    all_goals go_wp2_with fail
    all_goals go_ret2
    all_goals exact ⟨rfl, HB.out.drew⟩
  · cases g0
    · obtain rfl : nn = 1 := h1
      obtain rfl : gg = true := h2
      go_enter Tryd.func48, Tryd.ntmps48
      go_wp2_with fail
      go_ret2
      exact ⟨rfl, HB.out⟩
    · by_cases hg : ag < bg
      · have hd : decide (ag < bg) = true := by simpa using hg
        have hN : nwB ⟨av, al, ar, au, ad, aq, at', ag⟩ ⟨bv, bl, br, bu, bd, bq, bt, bg⟩ true true = true := by unfold nwB; simp [hg]
        rw [hN] at h1 h2
        obtain rfl : nn = 1 := h1
        obtain rfl : gg = true := h2
        clear hg hN
        go_enter Tryd.func48, Tryd.ntmps48
        go_wp2_with fail
        go_ret2
        exact ⟨rfl, HB.out⟩
      · have hd : decide (ag < bg) = false := by simpa using hg
        have hN : nwB ⟨av, al, ar, au, ad, aq, at', ag⟩ ⟨bv, bl, br, bu, bd, bq, bt, bg⟩ true true = false := by unfold nwB; simp [hg]
        rw [hN] at h1 h2
        obtain rfl : nn = 0 := h1
        obtain rfl : gg = true := h2
        clear hg hN
        go_enter Tryd.func48, Tryd.ntmps48
        go_wp2_with fail
        go_region
        all_goals go_wp2_with fail
        all_goals go_ret2
        all_goals exact ⟨rfl, HB.out.drew⟩
set_option maxRecDepth 100000 in
set_option maxHeartbeats 8000000 in
theorem program_any (hN : Nib w) (s : Sup) (hf : s.Fits) (i : Nat) (hi : i ≤ 1) : Calls Tryd.prog 53 #[.agg s.cells, .int .i64 i] w fun r w' => ∃ ov, r = .returned ov ∧ Acc w w.heap.size w' 131 3 ov (sbP s i).length (instrC (sbP s i)) := by
  have HE := Lib.hid (fun wx (hx : Nib wx) => encode_any hx s hf)
  have HNB := Lib.hid hN
  obtain ⟨k0, hi0, hz0, hz1, hz2⟩ := info_parts infoWrite
  have I2 := Lib.hid (And.intro hi0 (And.intro hz0 (And.intro hz1 hz2))); clear hi0 hz0 hz1 hz2
  obtain ⟨o, ho⟩ : ∃ o, 64 * i = o := ⟨_, rfl⟩
  have y1 : (i : Int) * 64 = (o : Int) := by omega
  have ho64 : o ≤ 64 := by omega
  obtain ⟨b0, b1, b2, b3, b4, b5, b6, b7, hb⟩ : ∃ b0 b1 b2 b3 b4 b5 b6 b7, s.words = [b0, b1, b2, b3, b4, b5, b6, b7] := ⟨_, _, _, _, _, _, _, _, rfl⟩
  have HWS : Hid (sbWs s i = [(o + 56, 0), (o, (b0 : Int)), (o + 8, (b1 : Int)), (o + 16, (b2 : Int)), (o + 24, (b3 : Int)), (o + 32, (b4 : Int)), (o + 40, (b5 : Int)), (o + 48, (b6 : Int)), (o + 56, (b7 : Int))]) := by
    show sbWs s i = _
    rw [sbWs_eq, hb, ho]; rfl
  have HST := Lib.hid (fun (wx : World) (sv : Value) (hx : RdSl wx 2 sv (sbWs s i).length (flat (sbWs s i))) => stores_any sv (sbWs s i) hx (by rw [sbWs_eq]; simp) (fun e he => by have := (sbWs_line s i (i + 1) (by omega) e he).2.1; omega))
  have hP : sbP s i = storesL (sbWs s i) := rfl
  rw [hb] at HE
  rw [show wordsA [b0, b1, b2, b3, b4, b5, b6, b7] = #[.int .u64 (b0 : Int), .int .u64 (b1 : Int), .int .u64 (b2 : Int), .int .u64 (b3 : Int), .int .u64 (b4 : Int), .int .u64 (b5 : Int), .int .u64 (b6 : Int), .int .u64 (b7 : Int)] from rfl] at HE
  rw [hP]
  rw [HWS.out] at HST ⊢
  clear hP hf hb HWS hN ho hi
  obtain ⟨ver, lin, redo, und, desc, que, tab, gen⟩ := s
  unfold Sup.cells at *
  go_enter Tryd.func53, Tryd.ntmps53
  go_wp2_with fail
  (with_reducible refine (HE.out _ (HNB.out.below (below_alloc _ _))).mono ?_)
  rintro e w1 ⟨rfl, b1'⟩
  have B1 := Lib.hid ((below_alloc w (.cells #[.int .i64 ver, .int .i64 lin, .int .i64 redo, .int .i64 und, .int .i64 desc, .int .i64 que, .int .i64 tab, .int .u64 gen] 29)).trans (b1'.mono (by simp)))
  clear b1' HE
  have hB := B1.out.size
  have A0 : Hid (Acc w w.heap.size ((w1.alloc (.cells #[.int .u64 (b0 : Int), .int .u64 (b1 : Int), .int .u64 (b2 : Int), .int .u64 (b3 : Int), .int .u64 (b4 : Int), .int .u64 (b5 : Int), .int .u64 (b6 : Int), .int .u64 (b7 : Int)] 139)).alloc (.cells #[.int .u64 ((o : Int) + 56), .int .u64 0] 114)) 114 2 (.slice (some ⟨w1.heap.size + 1, 0, none⟩) 1 1) 1 (flat [(o + 56, 0)])) :=
    ⟨by have := OwnSl.new (w1.alloc (.cells #[.int .u64 (b0 : Int), .int .u64 (b1 : Int), .int .u64 (b2 : Int), .int .u64 (b3 : Int), .int .u64 (b4 : Int), .int .u64 (b5 : Int), .int .u64 (b6 : Int), .int .u64 (b7 : Int)] 139)) #[.int .u64 ((o : Int) + 56), .int .u64 0] 114 2 1 1 rfl (Nat.le_refl _) (by unfold maxLen; omega)
        simpa [flat] using this,
      fun g hg => by simp [Value.ownBlock] at hg; omega, B1.out.trans ((below_twice w1 _ _).mono B1.out.size), by simp; omega⟩
  go_wp2_with fail
  go_loopw [7, 20] (fun sv y wr => ∃ k : Nat, k ≤ 8 ∧ y = .int .i64 k ∧ Acc w w.heap.size wr 114 2 sv (k + 1) (flat (([(o + 56, 0), (o, (b0 : Int)), (o + 8, (b1 : Int)), (o + 16, (b2 : Int)), (o + 24, (b3 : Int)), (o + 32, (b4 : Int)), (o + 40, (b5 : Int)), (o + 48, (b6 : Int)), (o + 56, (b7 : Int))] : List (Nat × Int)).take (k + 1)))) (fun _ y _ => 8 - (intOf y).toNat)
  case atStart => exact ⟨0, by omega, rfl, A0.out⟩
  case round =>
    clear A0
    obtain ⟨k, hk, rfl, ha⟩ := hrel
    obtain ⟨qa, qc, hov⟩ := ha.slice
    subst hov
    have A := Lib.hid ha; clear ha
    by_cases hlt : k < 8
    · obtain ⟨x, hx⟩ : ∃ x : Nat, x = [b0, b1, b2, b3, b4, b5, b6, b7].getD k 0 := ⟨_, rfl⟩
      have HT : Hid (flat (([(o + 56, 0), (o, (b0 : Int)), (o + 8, (b1 : Int)), (o + 16, (b2 : Int)), (o + 24, (b3 : Int)), (o + 32, (b4 : Int)), (o + 40, (b5 : Int)), (o + 48, (b6 : Int)), (o + 56, (b7 : Int))] : List (Nat × Int)).take (k + 1 + 1)) = flat (([(o + 56, 0), (o, (b0 : Int)), (o + 8, (b1 : Int)), (o + 16, (b2 : Int)), (o + 24, (b3 : Int)), (o + 32, (b4 : Int)), (o + 40, (b5 : Int)), (o + 48, (b6 : Int)), (o + 56, (b7 : Int))] : List (Nat × Int)).take (k + 1)) ++ flat [(o + 8 * k, (x : Int))]) := by
        show flat _ = _
        rw [← flat_append]
        congr 1
        subst hx
        obtain rfl | rfl | rfl | rfl | rfl | rfl | rfl | rfl : k = 0 ∨ k = 1 ∨ k = 2 ∨ k = 3 ∨ k = 4 ∨ k = 5 ∨ k = 6 ∨ k = 7 := by omega
        all_goals rfl
      have hk' : (k : Int) < 8 := by omega
      have hix : ∀ wx, (Instr.index 139 (.agg #[.int .u64 (b0 : Int), .int .u64 (b1 : Int), .int .u64 (b2 : Int), .int .u64 (b3 : Int), .int .u64 (b4 : Int), .int .u64 (b5 : Int), .int .u64 (b6 : Int), .int .u64 (b7 : Int)]) (.int .i64 (k : Int))).run Tryd.prog wx = .ok (.int .u64 (x : Int)) wx := by
        intro wx
        subst hx
        obtain rfl | rfl | rfl | rfl | rfl | rfl | rfl | rfl : k = 0 ∨ k = 1 ∨ k = 2 ∨ k = 3 ∨ k = 4 ∨ k = 5 ∨ k = 6 ∨ k = 7 := by omega
        all_goals kernel_rfl
      obtain ⟨t, ht⟩ : ∃ t, o + 8 * k = t := ⟨_, rfl⟩
      have ht2 : (o : Int) + (k : Int) * 8 = (t : Int) := by omega
      rw [ht] at HT
      have htl : t < 200 := by omega
      clear hx ht
      go_wp2_with (at_builtin; refine wpList_append_sl _ rfl _ _ 115 rfl 114 k0 _ 2 16 Tryd.underlying115 I2.out.1 I2.out.2.1 I2.out.2.2.1 I2.out.2.2.2 rfl (by decide) _ (k + 1) (flat (([(o + 56, 0), (o, (b0 : Int)), (o + 8, (b1 : Int)), (o + 16, (b2 : Int)), (o + 24, (b3 : Int)), (o + 32, (b4 : Int)), (o + 40, (b5 : Int)), (o + 48, (b6 : Int)), (o + 56, (b7 : Int))] : List (Nat × Int)).take (k + 1))) rfl (by exact A.out.own.alloc _) _ 1 (flat [(t, (x : Int))]) rfl (by exact RdSl.newAt _ _ _ 2 1 _ (by simp) rfl) (flat_one _) (by unfold maxLen; omega) (by omega) ?_)
      intro v1 w4 o1 g1 n1 m1
      have A4 := Lib.hid (A.out.next (below_alloc wr _) o1 g1 n1 (by simp)); clear o1 g1 n1 m1 A
      go_wp2_with fail
      go_roundw
      case rel => exact ⟨k + 1, by omega, by go_num, A4.out.congr rfl HT.out.symm⟩
      case measure => simp [intOf]; omega
    · obtain rfl : k = 8 := by omega
      have HS := Lib.hid (HST.out _ _ A.out.rd)
      go_wp2_with fail
      (with_reducible refine HS.out.mono ?_)
      rintro e w4 ⟨ov, rfl, a4⟩
      have A4 := Lib.hid (a4.deeper A.out.bel); clear a4
      go_wp2_with fail
      go_ret
      exact ⟨_, rfl, A4.out⟩
end
end Go.Proofs.YtbpaamnofkhonaaDoor
