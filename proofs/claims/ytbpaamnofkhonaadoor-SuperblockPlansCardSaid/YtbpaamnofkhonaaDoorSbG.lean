/- The walks of the superblock's small functions over a device: linesOf, usable, newest, program. -/
import Derived.Test.YtbpaamnofkhonaaDoorSbP
import Derived.Test.YtbpaamnofkhonaaDoorRunU
import Derived.Test.YtbpaamnofkhonaaDoorDevI
import Derived.Test.YtbpaamnofkhonaaDoorDevK
import Derived.Deep.Cut
import Derived.Deep.CutRange
import Derived.Deep.RegionWith
import Derived.Deep.RegionHeld3
import Derived.Laws.Rows
import Derived.Laws.Tables
import Derived.Laws.ResultCell
import Derived.Laws.CopyOwn
namespace Go.Proofs.YtbpaamnofkhonaaDoor
open Go.RowKit Go.Maps
attribute [local go_sem ↓] Go.wp_at_zero Go.wp_at_succ

/-- The cells of the two copies. -/
def cpsA (a b : Sup) (g0 g1 : Bool) : Array Value :=
  #[.int .i64 a.ver, .int .i64 a.lin, .int .i64 a.redo, .int .i64 a.und, .int .i64 a.desc, .int .i64 a.que, .int .i64 a.tab, .int .u64 a.gen,
    .int .i64 b.ver, .int .i64 b.lin, .int .i64 b.redo, .int .i64 b.und, .int .i64 b.desc, .int .i64 b.que, .int .i64 b.tab, .int .u64 b.gen, .bool g0, .bool g1]
def nwB (a b : Sup) (g0 g1 : Bool) : Bool := g1 && (!g0 || decide (a.gen < b.gen))
theorem newB_eq (C : Nat → Int) (n : Nat) : newB C n = nwB (cpS C n 0) (cpS C n 1) (cpG C n 0) (cpG C n 1) := rfl
section
variable {w : World} {v : DV} {own : Nat → Option Role} {D : Dev} {j : Nat}
set_option maxRecDepth 100000 in
set_option maxHeartbeats 1000000 in
theorem linesOf_any (h : IsDev w v own D) (hj : j < 8) : Calls Tryd.prog 66 #[.iface 49 (.pointer (some ⟨v.tb j, 0, none⟩))] w fun r w' => r = .returned (.int .u64 D.n) ∧ w = w' := by
  have hm1 := meth_Size ⟨v.tb j, 0, none⟩
  have HT := Lib.hid (thrSize_any h hj)
  have hq : (D.n : Int) * 64 / 64 = D.n := by omega
  have hn := h.wf.le
  have hu : IntKind.u64.wrap (D.n : Int) = D.n := IntWalk.u64_in _ (by omega)
  clear h
  go_enter Tryd.func66, Tryd.ntmps66
  go_wp2_with fail
  (with_reducible refine HT.out.mono ?_)
  rintro e w' ⟨rfl, rfl⟩
  go_wp2_with fail
  go_ret
  exact ⟨rfl, rfl⟩
set_option maxRecDepth 100000 in
set_option maxHeartbeats 1000000 in
theorem usable_nil : Calls Tryd.prog 46 #[.nilIface] w fun r w' => r = .returned (.int .i64 1) ∧ Below w.heap.size w w' := by
  go_enter Tryd.func46, Tryd.ntmps46
  go_wp2_with fail
  go_ret
  exact ⟨rfl, Below.refl _ _⟩
set_option maxRecDepth 100000 in
set_option maxHeartbeats 1000000 in
theorem usable_small (h : IsDev w v own D) (hj : j < 8) (hn : D.n < 2) : Calls Tryd.prog 46 #[.iface 49 (.pointer (some ⟨v.tb j, 0, none⟩))] w fun r w' => r = .returned (.int .i64 1) ∧ w = w' := by
  have HT := Lib.hid (linesOf_any h hj)
  have hn' : (D.n : Int) < 2 := by omega
  clear h
  go_enter Tryd.func46, Tryd.ntmps46
  go_wp2_with fail
  (with_reducible refine HT.out.mono ?_)
  rintro e w' ⟨rfl, rfl⟩
  go_wp2_with fail
  go_ret
  exact ⟨rfl, rfl⟩
set_option maxRecDepth 100000 in
set_option maxHeartbeats 1000000 in
theorem usable_any (h : IsDev w v own D) (hj : j < 8) (hn : 2 ≤ D.n) : Calls Tryd.prog 46 #[.iface 49 (.pointer (some ⟨v.tb j, 0, none⟩))] w fun r w' => r = .returned (.int .i64 (D.err j)) ∧ w = w' := by
  have hm1 := meth_Err ⟨v.tb j, 0, none⟩
  have HT := Lib.hid (linesOf_any h hj)
  have HE := Lib.hid (err_any h hj)
  have hn' : ¬ (D.n : Int) < 2 := by omega
  clear h
  go_enter Tryd.func46, Tryd.ntmps46
  go_wp2_with fail
  (with_reducible refine HT.out.mono ?_)
  rintro e w' ⟨rfl, rfl⟩
  go_wp2_with fail
  (with_reducible refine HE.out.mono ?_)
  rintro e w' ⟨rfl, rfl⟩
  go_wp2_with fail
  go_ret
  exact ⟨rfl, rfl⟩
set_option maxRecDepth 100000 in
set_option maxHeartbeats 2000000 in
theorem newest_any (a b : Sup) (g0 g1 : Bool) (nn : Nat) (gg : Bool) (h1 : nn = if nwB a b g0 g1 then 1 else 0) (h2 : gg = if nwB a b g0 g1 then true else g0) :
    Calls Tryd.prog 48 #[.agg (cpsA a b g0 g1)] w fun r w' => r = .returned (.tuple #[.int .i64 nn, .bool gg]) ∧ Below w.heap.size w w' := by
  obtain ⟨av, al, ar, au, ad, aq, at', ag⟩ := a
  obtain ⟨bv, bl, br, bu, bd, bq, bt, bg⟩ := b
  have HB := Lib.hid (below_alloc w (.cells (cpsA ⟨av, al, ar, au, ad, aq, at', ag⟩ ⟨bv, bl, br, bu, bd, bq, bt, bg⟩ g0 g1) 99))
  unfold cpsA at *
  cases g1
  · obtain rfl : nn = 0 := h1
    obtain rfl : gg = g0 := h2
    go_enter Tryd.func48, Tryd.ntmps48
    go_wp2_with fail
    go_region
    all_goals go_wp2_with fail
    all_goals go_ret2
    all_goals exact ⟨rfl, HB.out.drew⟩
  · cases g0
    · obtain rfl : nn = 1 := h1
      obtain rfl : gg = true := h2
      go_enter Tryd.func48, Tryd.ntmps48
      go_wp2_with fail
      go_ret2
      exact ⟨rfl, HB.out⟩
    · by_cases hg : ag < bg
      · have hd : decide (ag < bg) = true := by simpa using hg
        have hN : nwB ⟨av, al, ar, au, ad, aq, at', ag⟩ ⟨bv, bl, br, bu, bd, bq, bt, bg⟩ true true = true := by unfold nwB; simp [hg]
        rw [hN] at h1 h2
        obtain rfl : nn = 1 := h1
        obtain rfl : gg = true := h2
        clear hg hN
        go_enter Tryd.func48, Tryd.ntmps48
        go_wp2_with fail
        go_ret2
        exact ⟨rfl, HB.out⟩
      · have hd : decide (ag < bg) = false := by simpa using hg
        have hN : nwB ⟨av, al, ar, au, ad, aq, at', ag⟩ ⟨bv, bl, br, bu, bd, bq, bt, bg⟩ true true = false := by unfold nwB; simp [hg]
        rw [hN] at h1 h2
        obtain rfl : nn = 0 := h1
        obtain rfl : gg = true := h2
        clear hg hN
        go_enter Tryd.func48, Tryd.ntmps48
        go_wp2_with fail
        go_region
        all_goals go_wp2_with fail
        all_goals go_ret2
        all_goals exact ⟨rfl, HB.out.drew⟩
set_option maxRecDepth 100000 in
set_option maxHeartbeats 8000000 in
theorem program_any (hN : Nib w) (s : Sup) (hf : s.Fits) (i : Nat) (hi : i ≤ 1) : Calls Tryd.prog 53 #[.agg s.cells, .int .i64 i] w fun r w' => ∃ ov, r = .returned ov ∧ Acc w w.heap.size w' 131 3 ov (sbP s i).length (instrC (sbP s i)) := by
  have HE := Lib.hid (fun wx (hx : Nib wx) => encode_any hx s hf)
  have HNB := Lib.hid hN
  obtain ⟨k0, hi0, hz0, hz1, hz2⟩ := info_parts infoWrite
  have I2 := Lib.hid (And.intro hi0 (And.intro hz0 (And.intro hz1 hz2))); clear hi0 hz0 hz1 hz2
  obtain ⟨o, ho⟩ : ∃ o, 64 * i = o := ⟨_, rfl⟩
  have y1 : (i : Int) * 64 = (o : Int) := by omega
  have ho64 : o ≤ 64 := by omega
  obtain ⟨b0, b1, b2, b3, b4, b5, b6, b7, hb⟩ : ∃ b0 b1 b2 b3 b4 b5 b6 b7, s.words = [b0, b1, b2, b3, b4, b5, b6, b7] := ⟨_, _, _, _, _, _, _, _, rfl⟩
  have HWS : Hid (sbWs s i = [(o + 56, 0), (o, (b0 : Int)), (o + 8, (b1 : Int)), (o + 16, (b2 : Int)), (o + 24, (b3 : Int)), (o + 32, (b4 : Int)), (o + 40, (b5 : Int)), (o + 48, (b6 : Int)), (o + 56, (b7 : Int))]) := by
    show sbWs s i = _
    rw [sbWs_eq, hb, ho]; rfl
  have HST := Lib.hid (fun (wx : World) (sv : Value) (hx : RdSl wx 2 sv (sbWs s i).length (flat (sbWs s i))) => stores_any sv (sbWs s i) hx (by rw [sbWs_eq]; simp) (fun e he => by have := (sbWs_line s i (i + 1) (by omega) e he).2.1; omega))
  have hP : sbP s i = storesL (sbWs s i) := rfl
  rw [hb] at HE
  rw [show wordsA [b0, b1, b2, b3, b4, b5, b6, b7] = #[.int .u64 (b0 : Int), .int .u64 (b1 : Int), .int .u64 (b2 : Int), .int .u64 (b3 : Int), .int .u64 (b4 : Int), .int .u64 (b5 : Int), .int .u64 (b6 : Int), .int .u64 (b7 : Int)] from rfl] at HE
  rw [hP]
  rw [HWS.out] at HST ⊢
  clear hP hf hb HWS hN ho hi
  obtain ⟨ver, lin, redo, und, desc, que, tab, gen⟩ := s
  unfold Sup.cells at *
  go_enter Tryd.func53, Tryd.ntmps53
  go_wp2_with fail
  (with_reducible refine (HE.out _ (HNB.out.below (below_alloc _ _))).mono ?_)
  rintro e w1 ⟨rfl, b1'⟩
  have B1 := Lib.hid ((below_alloc w (.cells #[.int .i64 ver, .int .i64 lin, .int .i64 redo, .int .i64 und, .int .i64 desc, .int .i64 que, .int .i64 tab, .int .u64 gen] 29)).trans (b1'.mono (by simp)))
  clear b1' HE
  have hB := B1.out.size
  have A0 : Hid (Acc w w.heap.size ((w1.alloc (.cells #[.int .u64 (b0 : Int), .int .u64 (b1 : Int), .int .u64 (b2 : Int), .int .u64 (b3 : Int), .int .u64 (b4 : Int), .int .u64 (b5 : Int), .int .u64 (b6 : Int), .int .u64 (b7 : Int)] 139)).alloc (.cells #[.int .u64 ((o : Int) + 56), .int .u64 0] 114)) 114 2 (.slice (some ⟨w1.heap.size + 1, 0, none⟩) 1 1) 1 (flat [(o + 56, 0)])) :=
    ⟨by have := OwnSl.new (w1.alloc (.cells #[.int .u64 (b0 : Int), .int .u64 (b1 : Int), .int .u64 (b2 : Int), .int .u64 (b3 : Int), .int .u64 (b4 : Int), .int .u64 (b5 : Int), .int .u64 (b6 : Int), .int .u64 (b7 : Int)] 139)) #[.int .u64 ((o : Int) + 56), .int .u64 0] 114 2 1 1 rfl (Nat.le_refl _) (by unfold maxLen; omega)
        simpa [flat] using this,
      fun g hg => by simp [Value.ownBlock] at hg; omega, B1.out.trans ((below_twice w1 _ _).mono B1.out.size), by simp; omega⟩
  go_wp2_with fail
  go_loopw [7, 20] (fun sv y wr => ∃ k : Nat, k ≤ 8 ∧ y = .int .i64 k ∧ Acc w w.heap.size wr 114 2 sv (k + 1) (flat (([(o + 56, 0), (o, (b0 : Int)), (o + 8, (b1 : Int)), (o + 16, (b2 : Int)), (o + 24, (b3 : Int)), (o + 32, (b4 : Int)), (o + 40, (b5 : Int)), (o + 48, (b6 : Int)), (o + 56, (b7 : Int))] : List (Nat × Int)).take (k + 1)))) (fun _ y _ => 8 - (intOf y).toNat)
  case atStart => exact ⟨0, by omega, rfl, A0.out⟩
  case round =>
    clear A0
    obtain ⟨k, hk, rfl, ha⟩ := hrel
    obtain ⟨qa, qc, hov⟩ := ha.slice
    subst hov
    have A := Lib.hid ha; clear ha
    by_cases hlt : k < 8
    · obtain ⟨x, hx⟩ : ∃ x : Nat, x = [b0, b1, b2, b3, b4, b5, b6, b7].getD k 0 := ⟨_, rfl⟩
      have HT : Hid (flat (([(o + 56, 0), (o, (b0 : Int)), (o + 8, (b1 : Int)), (o + 16, (b2 : Int)), (o + 24, (b3 : Int)), (o + 32, (b4 : Int)), (o + 40, (b5 : Int)), (o + 48, (b6 : Int)), (o + 56, (b7 : Int))] : List (Nat × Int)).take (k + 1 + 1)) = flat (([(o + 56, 0), (o, (b0 : Int)), (o + 8, (b1 : Int)), (o + 16, (b2 : Int)), (o + 24, (b3 : Int)), (o + 32, (b4 : Int)), (o + 40, (b5 : Int)), (o + 48, (b6 : Int)), (o + 56, (b7 : Int))] : List (Nat × Int)).take (k + 1)) ++ flat [(o + 8 * k, (x : Int))]) := by
        show flat _ = _
        rw [← flat_append]
        congr 1
        subst hx
        obtain rfl | rfl | rfl | rfl | rfl | rfl | rfl | rfl : k = 0 ∨ k = 1 ∨ k = 2 ∨ k = 3 ∨ k = 4 ∨ k = 5 ∨ k = 6 ∨ k = 7 := by omega
        all_goals rfl
      have hk' : (k : Int) < 8 := by omega
      have hix : ∀ wx, (Instr.index 139 (.agg #[.int .u64 (b0 : Int), .int .u64 (b1 : Int), .int .u64 (b2 : Int), .int .u64 (b3 : Int), .int .u64 (b4 : Int), .int .u64 (b5 : Int), .int .u64 (b6 : Int), .int .u64 (b7 : Int)]) (.int .i64 (k : Int))).run Tryd.prog wx = .ok (.int .u64 (x : Int)) wx := by
        intro wx
        subst hx
        obtain rfl | rfl | rfl | rfl | rfl | rfl | rfl | rfl : k = 0 ∨ k = 1 ∨ k = 2 ∨ k = 3 ∨ k = 4 ∨ k = 5 ∨ k = 6 ∨ k = 7 := by omega
        all_goals kernel_rfl
      obtain ⟨t, ht⟩ : ∃ t, o + 8 * k = t := ⟨_, rfl⟩
      have ht2 : (o : Int) + (k : Int) * 8 = (t : Int) := by omega
      rw [ht] at HT
      have htl : t < 200 := by omega
      clear hx ht
      go_wp2_with (at_builtin; refine wpList_append_sl _ rfl _ _ 115 rfl 114 k0 _ 2 16 Tryd.underlying115 I2.out.1 I2.out.2.1 I2.out.2.2.1 I2.out.2.2.2 rfl (by decide) _ (k + 1) (flat (([(o + 56, 0), (o, (b0 : Int)), (o + 8, (b1 : Int)), (o + 16, (b2 : Int)), (o + 24, (b3 : Int)), (o + 32, (b4 : Int)), (o + 40, (b5 : Int)), (o + 48, (b6 : Int)), (o + 56, (b7 : Int))] : List (Nat × Int)).take (k + 1))) rfl (by exact A.out.own.alloc _) _ 1 (flat [(t, (x : Int))]) rfl (by exact RdSl.newAt _ _ _ 2 1 _ (by simp) rfl) (flat_one _) (by unfold maxLen; omega) (by omega) ?_)
      intro v1 w4 o1 g1 n1 m1
      have A4 := Lib.hid (A.out.next (below_alloc wr _) o1 g1 n1 (by simp)); clear o1 g1 n1 m1 A
      go_wp2_with fail
      go_roundw
      case rel => exact ⟨k + 1, by omega, by go_num, A4.out.congr rfl HT.out.symm⟩
      case measure => simp [intOf]; omega
    · obtain rfl : k = 8 := by omega
      have HS := Lib.hid (HST.out _ _ A.out.rd)
      go_wp2_with fail
      (with_reducible refine HS.out.mono ?_)
      rintro e w4 ⟨ov, rfl, a4⟩
      have A4 := Lib.hid (a4.deeper A.out.bel); clear a4
      go_wp2_with fail
      go_ret
      exact ⟨_, rfl, A4.out⟩
end
end Go.Proofs.YtbpaamnofkhonaaDoor

/- The walk of the superblock's load. -/
namespace Go.Proofs.YtbpaamnofkhonaaDoor
open Go.RowKit Go.Maps
attribute [local go_sem ↓] Go.wp_at_zero Go.wp_at_succ

theorem nilB_Load (a : Addr) (w : World) : (nilAhead 297 49 (.pointer (some a)) "Load").run Tryd.prog w = .ok (some false) w := by kernel_rfl
theorem Sup.ex (s : Sup) : ∃ z0 z1 z2 z3 z4 z5 z6 z7, s = ⟨z0, z1, z2, z3, z4, z5, z6, z7⟩ := ⟨_, _, _, _, _, _, _, _, rfl⟩
/-- Where load stands: its result's box, the box of the copies. -/
structure LdSt (w : World) (A : Array Value) (wr : World) : Prop where
  res : Blk wr w.heap.size (cpsA Sup.zero Sup.zero false false) 99
  cps : Blk wr (w.heap.size + 1) A 99
  bel : Below w.heap.size w wr
section
variable {w wr wz : World} {v : DV} {own : Nat → Option Role} {D : Dev} {j : Nat} {A : Array Value}
theorem LdSt.next (h : LdSt w A wr) (hb : Below wr.heap.size wr wz) : LdSt w A wz := ⟨h.res.below hb, h.cps.below hb, h.bel.trans (hb.mono h.bel.size)⟩
theorem LdSt.set (h : LdSt w A wr) (k : Nat) (u : Value) : LdSt w (A.setIfInBounds k u) (wr.setCell ⟨w.heap.size + 1, k, none⟩ u) := ⟨h.res.other (by simp) u, h.cps.set k u, h.bel.setCell (by simp) u⟩
theorem LdSt.start : LdSt w (cpsA Sup.zero Sup.zero false false) ((w.alloc (.cells (cpsA Sup.zero Sup.zero false false) 99)).alloc (.cells (cpsA Sup.zero Sup.zero false false) 99)) := by
  refine ⟨(Blk.new w _ _).alloc _, ?_, below_twice w _ _⟩
  have := Blk.new (w.alloc (.cells (cpsA Sup.zero Sup.zero false false) 99)) (cpsA Sup.zero Sup.zero false false) 99
  simpa using this
set_option maxRecDepth 100000 in
theorem cps_set0 (a b : Sup) (g0 g1 g : Bool) (z0 z1 z2 z3 z4 z5 z6 z7 : Int) : (((((((((cpsA a b g0 g1).setIfInBounds 0 (.int .i64 z0)).setIfInBounds 1 (.int .i64 z1)).setIfInBounds 2 (.int .i64 z2)).setIfInBounds 3 (.int .i64 z3)).setIfInBounds 4 (.int .i64 z4)).setIfInBounds 5 (.int .i64 z5)).setIfInBounds 6 (.int .i64 z6)).setIfInBounds 7 (.int .u64 z7)).setIfInBounds 16 (.bool g) = cpsA ⟨z0, z1, z2, z3, z4, z5, z6, z7⟩ b g g1 := by
  simp [cpsA]
set_option maxRecDepth 100000 in
theorem cps_set1 (a b : Sup) (g0 g1 g : Bool) (z0 z1 z2 z3 z4 z5 z6 z7 : Int) : (((((((((cpsA a b g0 g1).setIfInBounds 8 (.int .i64 z0)).setIfInBounds 9 (.int .i64 z1)).setIfInBounds 10 (.int .i64 z2)).setIfInBounds 11 (.int .i64 z3)).setIfInBounds 12 (.int .i64 z4)).setIfInBounds 13 (.int .i64 z5)).setIfInBounds 14 (.int .i64 z6)).setIfInBounds 15 (.int .u64 z7)).setIfInBounds 17 (.bool g) = cpsA a ⟨z0, z1, z2, z3, z4, z5, z6, z7⟩ g0 g := by
  simp [cpsA]
theorem results_ct {P : Program} {fn : Func} {p u : Tmp} {ty : TypeId} (h : fn.results = #[.cell p ty, .tmp u]) (tmps : Array Value) (wx : World) (g : Nat) (t : TypeId) (cs : Array Value) (d : TypeDesc)
    (hp : tmps.getD p undef = .pointer (some ⟨g, 0, none⟩)) (hg : wx.heap[g]? = some (.cells cs t (0, 0))) (hu : P.underlying ty = some d) (hd : (match d with | .struct _ | .array _ _ => true | _ => false) = true) (hi : (P.info? ty).map (·.size) = some cs.size)
    (x : Value) (hx : tmps.getD u undef = x) : (results fn tmps).run P wx = .ok (.tuple #[.agg cs, x]) wx := by
  rw [results_cell_tmp h, hp, hx]
  simp [asAddr, run_loadVar_row wx g t ty cs (0, 0) d hg hu hd hi]
/-- The copies so far. -/
def ldA (C : Nat → Int) (n i : Nat) : Array Value := if i = 0 then cpsA Sup.zero Sup.zero false false else if i = 1 then cpsA (cpS C n 0) Sup.zero (cpG C n 0) false else cpsA (cpS C n 0) (cpS C n 1) (cpG C n 0) (cpG C n 1)
/-- Words that are being read into a box. -/
structure WdMid (wr0 : World) (g : Nat) (F : Nat → Int) (k : Nat) (wr : World) : Prop where
  row : Row wr g 8 139 (fun i => .int .u64 (if i < k then F i else 0))
  bel : Below g wr0 wr
theorem WdMid.start (F : Nat → Int) : WdMid wr wr.heap.size F 0 (wr.alloc (.cells #[.int .u64 0, .int .u64 0, .int .u64 0, .int .u64 0, .int .u64 0, .int .u64 0, .int .u64 0, .int .u64 0] 139)) :=
  ⟨Row.new wr _ _ _ _ (fun i hi => by
    obtain rfl | rfl | rfl | rfl | rfl | rfl | rfl | rfl : i = 0 ∨ i = 1 ∨ i = 2 ∨ i = 3 ∨ i = 4 ∨ i = 5 ∨ i = 6 ∨ i = 7 := by omega
    all_goals rfl), below_alloc wr _⟩
theorem WdMid.step {wr0 : World} {g k : Nat} {F : Nat → Int} {x : Int} (h : WdMid wr0 g F k wr) (hx : F k = x) : WdMid wr0 g F (k + 1) (wr.setCell ⟨g, k, none⟩ (.int .u64 x)) := by
  subst hx
  refine ⟨(h.row.set k (.int .u64 (F k))).congr (fun i _ => ?_), h.bel.setCell (Nat.le_refl _) _⟩
  by_cases e : i = k
  · subst e; simp
  · simp only [if_neg e]
    by_cases e2 : i < k
    · rw [if_pos e2, if_pos (by omega)]
    · rw [if_neg e2, if_neg (by omega)]
set_option maxRecDepth 100000 in
set_option maxHeartbeats 8000000 in
theorem sbload_any (hN : Nib w) (h : IsDev w v own D) (hj : j < 8) (hof : D.off = false) (hvb : D.VB) (hn : 2 ≤ D.n) :
    Calls Tryd.prog 47 #[.iface 49 (.pointer (some ⟨v.tb j, 0, none⟩))] w fun r w' => r = .returned (.tuple #[.agg (ldA D.cur D.n 2), .int .i64 (D.err j)]) ∧ Below w.heap.size w w' := by
  have hm1 := meth_Load ⟨v.tb j, 0, none⟩; have hn1 := nilB_Load ⟨v.tb j, 0, none⟩; have hm2 := meth_Err ⟨v.tb j, 0, none⟩
  have H := Lib.hid h; have HV := Lib.hid hvb; have HNB := Lib.hid hN
  have hn2 := h.wf.le
  have HLO := Lib.hid (fun wx (hx : IsDev wx v own D) => linesOf_any hx hj)
  have HER := Lib.hid (fun wx (hx : IsDev wx v own D) => err_any hx hj)
  have HLD := Lib.hid (fun wx (hx : IsDev wx v own D) (o : Nat) (h8 : o % 8 = 0) (hl : o < 64 * D.n) => load_ok hx hj o hof h8 hl)
  have S0 := Lib.hid (LdSt.start (w := w))
  have HDC := Lib.hid (fun (wx : World) (hx : Nib wx) (i : Nat) => decode_any hx (D.cur (8 * i)).toNat (D.cur (8 * i + 1)).toNat (D.cur (8 * i + 2)).toNat (D.cur (8 * i + 3)).toNat (D.cur (8 * i + 4)).toNat (D.cur (8 * i + 5)).toNat (D.cur (8 * i + 6)).toNat (D.cur (8 * i + 7)).toNat D.n (by have := hvb.cur (8 * i + 1); omega) (by have := hvb.cur (8 * i + 2); omega) (by have := hvb.cur (8 * i + 3); omega) (by omega))
  have HA0 : Hid (ldA D.cur D.n 0 = cpsA Sup.zero Sup.zero false false) := rfl
  have HA1 : Hid (ldA D.cur D.n 1 = cpsA (cpS D.cur D.n 0) Sup.zero (cpG D.cur D.n 0) false) := rfl
  clear h hN hvb
  go_enter Tryd.func47, Tryd.ntmps47
  go_wp2_with fail
  (with_reducible refine (HLO.out _ ((H.out.alloc _).alloc _)).mono ?_)
  rintro e w' ⟨rfl, rfl⟩
  go_wp2_with fail
  go_loopw [11] (fun y wr => ∃ i : Nat, i ≤ 2 ∧ y = .int .i64 i ∧ LdSt w (ldA D.cur D.n i) wr) (fun y _ => 2 - (intOf y).toNat)
  case atStart => exact ⟨0, by omega, rfl, S0.out⟩
  case round =>
    clear S0
    obtain ⟨i, hi, rfl, hs⟩ := hrel
    have S := Lib.hid hs; clear hs
    by_cases hlt : i < 2
    · have hi' : (i : Int) < 2 := by omega
      have M0 := Lib.hid (WdMid.start (wr := wr) (fun k => D.cur (8 * i + k)))
      have S1 := Lib.hid (S.out.next (below_alloc wr (.cells #[.int .u64 0, .int .u64 0, .int .u64 0, .int .u64 0, .int .u64 0, .int .u64 0, .int .u64 0, .int .u64 0] 139)))
      have hwsz : w.heap.size + 1 < wr.heap.size := S.out.cps.lt
      go_wp2_with fail
      go_loopw [14] (fun y wq => ∃ k : Nat, k ≤ 8 ∧ y = .int .i64 k ∧ WdMid wr wr.heap.size (fun k => D.cur (8 * i + k)) k wq) (fun y _ => 8 - (intOf y).toNat)
      case atStart => exact ⟨0, by omega, rfl, M0.out⟩
      case round =>
        clear M0 S1
        obtain ⟨k, hk, rfl, hM⟩ := hrel
        rename World => wq
        have M := Lib.hid hM
        have SQ := Lib.hid (S.out.next (hM.bel))
        by_cases hlt2 : k < 8
        · have hk' : (k : Int) < 8 := by omega
          have hcell := hM.row.cell (i := k) hlt2
          have hfro := hM.row.frozen k
          have hgl := hM.row.lt
          have hLk := fun wy hy => HLD.out wy hy (64 * i + 8 * k) (by omega) (by omega)
          rw [show (64 * i + 8 * k) / 8 = 8 * i + k by omega] at hLk
          obtain ⟨x, hx⟩ : ∃ x, D.cur (8 * i + k) = x := ⟨_, rfl⟩
          rw [hx] at hLk
          have HX := Lib.hid hx
          obtain ⟨q, hq⟩ : ∃ q, 64 * i + 8 * k = q := ⟨_, rfl⟩
          rw [hq] at hLk
          have hq2 : (i : Int) * 64 + (k : Int) * 8 = (q : Int) := by omega
          have HLK := Lib.hid hLk
          have hqb : q < 200 := by omega
          generalize (if k < k then D.cur (8 * i + k) else 0) = old at *
          clear hM hLk hx hq
          go_wp2_with fail
          (with_reducible refine (HLK.out _ (H.out.below SQ.out.bel)).mono ?_)
          rintro e w' ⟨rfl, rfl⟩
          go_wp2_with fail
          go_roundw
          case rel => exact ⟨k + 1, by omega, by go_num, M.out.step HX.out⟩
          case measure => simp [intOf]; omega
        · obtain rfl : k = 8 := by omega
          have hrow : Row wq wr.heap.size 8 139 (fun q => .int .u64 (D.cur (8 * i + q))) := hM.row.congr (fun q hq => by rw [if_pos hq])
          have hc : ∀ q, q < 8 → wq.cell? ⟨wr.heap.size, q, none⟩ = some (.int .u64 (((D.cur (8 * i + q)).toNat : Nat) : Int)) := fun q hq => by
            rw [hrow.cell hq, Int.toNat_of_nonneg (HV.out.cur _).1]
          have c0 := hc 0 (by omega); have c1 := hc 1 (by omega); have c2 := hc 2 (by omega); have c3 := hc 3 (by omega)
          have c4 := hc 4 (by omega); have c5 := hc 5 (by omega); have c6 := hc 6 (by omega); have c7 := hc 7 (by omega)
          rw [Nat.add_zero] at c0
          have HD := Lib.hid (HDC.out wq (HNB.out.below SQ.out.bel) i)
          have hS : decoded [(D.cur (8 * i)).toNat, (D.cur (8 * i + 1)).toNat, (D.cur (8 * i + 2)).toNat, (D.cur (8 * i + 3)).toNat, (D.cur (8 * i + 4)).toNat, (D.cur (8 * i + 5)).toNat, (D.cur (8 * i + 6)).toNat, (D.cur (8 * i + 7)).toNat] D.n = cpS D.cur D.n i := rfl
          have hG : goodB [(D.cur (8 * i)).toNat, (D.cur (8 * i + 1)).toNat, (D.cur (8 * i + 2)).toNat, (D.cur (8 * i + 3)).toNat, (D.cur (8 * i + 4)).toNat, (D.cur (8 * i + 5)).toNat, (D.cur (8 * i + 6)).toNat, (D.cur (8 * i + 7)).toNat] D.n = cpG D.cur D.n i := rfl
          rw [hS, hG] at HD
          have hL : ldA D.cur D.n (i + 1) = if i = 0 then cpsA (cpS D.cur D.n 0) Sup.zero (cpG D.cur D.n 0) false else cpsA (cpS D.cur D.n 0) (cpS D.cur D.n 1) (cpG D.cur D.n 0) (cpG D.cur D.n 1) := by
            unfold ldA
            rw [if_neg (by omega)]
            by_cases h : i = 0
            · subst h; rfl
            · rw [if_neg (by omega), if_neg h]
          have HL2 := Lib.hid hL
          generalize (D.cur (8 * i)).toNat = a0 at *
          generalize (D.cur (8 * i + 1)).toNat = a1 at *
          generalize (D.cur (8 * i + 2)).toNat = a2 at *
          generalize (D.cur (8 * i + 3)).toNat = a3 at *
          generalize (D.cur (8 * i + 4)).toNat = a4 at *
          generalize (D.cur (8 * i + 5)).toNat = a5 at *
          generalize (D.cur (8 * i + 6)).toNat = a6 at *
          generalize (D.cur (8 * i + 7)).toNat = a7 at *
          rw [show wordsA [a0, a1, a2, a3, a4, a5, a6, a7] = #[.int .u64 (a0 : Int), .int .u64 (a1 : Int), .int .u64 (a2 : Int), .int .u64 (a3 : Int), .int .u64 (a4 : Int), .int .u64 (a5 : Int), .int .u64 (a6 : Int), .int .u64 (a7 : Int)] from rfl] at HD
          clear hM hrow hc hL hS hG HLD M
          go_wp2_with fail
          (with_reducible refine HD.out.mono ?_)
          rintro e w3 ⟨rfl, b3⟩
          have S3 := Lib.hid (SQ.out.next b3)
          clear b3 HD c0 c1 c2 c3 c4 c5 c6 c7
          obtain rfl | rfl : i = 0 ∨ i = 1 := by omega
          · have Q := S3.out
            rw [HA0.out] at Q
            have QH := Lib.hid Q
            have f0 := Q.cps.frozen 0; have f1 := Q.cps.frozen 1; have f2 := Q.cps.frozen 2; have f3 := Q.cps.frozen 3; have f4 := Q.cps.frozen 4; have f5 := Q.cps.frozen 5; have f6 := Q.cps.frozen 6; have f7 := Q.cps.frozen 7; have f16 := Q.cps.frozen 16
            have r0 := Q.cps.cell (i := 0) rfl; have r1 := Q.cps.cell (i := 1) rfl; have r2 := Q.cps.cell (i := 2) rfl; have r3 := Q.cps.cell (i := 3) rfl; have r4 := Q.cps.cell (i := 4) rfl; have r5 := Q.cps.cell (i := 5) rfl; have r6 := Q.cps.cell (i := 6) rfl; have r7 := Q.cps.cell (i := 7) rfl; have r16 := Q.cps.cell (i := 16) rfl
            obtain ⟨z0, z1, z2, z3, z4, z5, z6, z7, hz⟩ := Sup.ex (cpS D.cur D.n 0)
            have HZ := Lib.hid hz
            have HL3 := HL2.out
            rw [hz] at HL3
            rw [hz, show (⟨z0, z1, z2, z3, z4, z5, z6, z7⟩ : Sup).cells = #[.int .i64 z0, .int .i64 z1, .int .i64 z2, .int .i64 z3, .int .i64 z4, .int .i64 z5, .int .i64 z6, .int .u64 z7] from rfl, show ((0 : Nat) : Int) = 0 from rfl]
            have HL4 := Lib.hid HL3
            generalize cpG D.cur D.n 0 = g at *
            clear Q hz HL3 S3 SQ S HL2
            go_wp2_with fail
            go_roundw
            case rel =>
              have hq := (((((((((QH.out.set 0 (.int .i64 z0)).set 1 (.int .i64 z1)).set 2 (.int .i64 z2)).set 3 (.int .i64 z3)).set 4 (.int .i64 z4)).set 5 (.int .i64 z5)).set 6 (.int .i64 z6)).set 7 (.int .u64 z7)).set 16 (.bool g))
              rw [cps_set0] at hq
              refine ⟨1, by omega, by go_num, ?_⟩
              rw [HL4.out]
              exact hq
            case measure => simp [intOf]
          · have Q := S3.out
            rw [HA1.out] at Q
            have QH := Lib.hid Q
            have f8 := Q.cps.frozen 8; have f9 := Q.cps.frozen 9; have f10 := Q.cps.frozen 10; have f11 := Q.cps.frozen 11; have f12 := Q.cps.frozen 12; have f13 := Q.cps.frozen 13; have f14 := Q.cps.frozen 14; have f15 := Q.cps.frozen 15; have f17 := Q.cps.frozen 17
            have r8 := Q.cps.cell (i := 8) rfl; have r9 := Q.cps.cell (i := 9) rfl; have r10 := Q.cps.cell (i := 10) rfl; have r11 := Q.cps.cell (i := 11) rfl; have r12 := Q.cps.cell (i := 12) rfl; have r13 := Q.cps.cell (i := 13) rfl; have r14 := Q.cps.cell (i := 14) rfl; have r15 := Q.cps.cell (i := 15) rfl; have r17 := Q.cps.cell (i := 17) rfl
            obtain ⟨z0, z1, z2, z3, z4, z5, z6, z7, hz⟩ := Sup.ex (cpS D.cur D.n 1)
            have HZ := Lib.hid hz
            have HL3 := HL2.out
            rw [hz] at HL3
            rw [hz, show (⟨z0, z1, z2, z3, z4, z5, z6, z7⟩ : Sup).cells = #[.int .i64 z0, .int .i64 z1, .int .i64 z2, .int .i64 z3, .int .i64 z4, .int .i64 z5, .int .i64 z6, .int .u64 z7] from rfl, show ((1 : Nat) : Int) = 1 from rfl]
            have HL4 := Lib.hid HL3
            generalize cpG D.cur D.n 1 = g at *
            clear Q hz HL3 S3 SQ S HL2
            go_wp2_with fail
            go_roundw
            case rel =>
              have hq := (((((((((QH.out.set 8 (.int .i64 z0)).set 9 (.int .i64 z1)).set 10 (.int .i64 z2)).set 11 (.int .i64 z3)).set 12 (.int .i64 z4)).set 13 (.int .i64 z5)).set 14 (.int .i64 z6)).set 15 (.int .u64 z7)).set 17 (.bool g))
              rw [cps_set1] at hq
              refine ⟨2, by omega, by go_num, ?_⟩
              rw [HL4.out]
              exact hq
            case measure => simp [intOf]
    · obtain rfl : i = 2 := by omega
      have QH := S
      have HSZ : Hid (18 = (ldA D.cur D.n 2).size) := rfl
      have HOC : Hid ((ldA D.cur D.n 2).all (·.oneCell') = true) := by show (cpsA _ _ _ _).all (·.oneCell') = true; simp [cpsA, Value.oneCell']
      have HSI : Hid ((Tryd.prog.info? 99).map (·.size) = some (ldA D.cur D.n 2).size) := by show _ = _; rw [← HSZ.out]; kernel_rfl
      clear S HA0 HA1 HDC HLD HLO
      generalize hAA : ldA D.cur D.n 2 = A at *
      have HAA := Lib.hid hAA; clear hAA
      go_upto_region 14 with fail
      refine wp_region_any (by kernel_rfl) ?_
      change wpAny _ _ _ _ _ _ _ (World.drew _)
      refine wpAny_take (i := 1) (v := .iface 49 (.pointer (some ⟨v.tb j, 0, none⟩))) rfl (by kernel_rfl) (by kernel_rfl) (by kernel_rfl) (fun _ _ _ h => h) (Or.inl ⟨by kernel_rfl, fun w => by go_simp⟩) ?_
      refine wpAny_ready (rs := [0, 2]) (by kernel_rfl) (by simp) ?_
      refine AllReady.cons rfl (fun K hK => ?_) (AllReady.cons rfl (fun K hK => ?_) AllReady.nil)
      · refine wp_load_row 99 (.tmp 4) rfl (w.heap.size + 1) rfl 99 A (0, 0) _ QH.out.cps.drew Tryd.underlying99 rfl HSI.out ?_
        refine hK _ _ ?_
        clear hK K
        refine wpAny_ready (rs := [2]) (by kernel_rfl) (by simp) ?_
        refine AllReady.cons rfl (fun K hK => ?_) AllReady.nil
        go_simp
        (with_reducible refine (HER.out _ (H.out.below (QH.out.bel.drew))).mono ?_)
        rintro e w' ⟨rfl, rfl⟩
        go_simp
        refine hK _ _ ?_
        clear hK K
        refine wpAny_ready (rs := [3]) (by kernel_rfl) (by simp) ?_
        refine AllReady.cons rfl (fun K hK => ?_) AllReady.nil
        refine wp_store_row 99 (.tmp 2) (.tmp 41) rfl w.heap.size A rfl rfl 99 (cpsA Sup.zero Sup.zero false false) QH.out.res.drew HSI.out HSZ.out HOC.out ?_
        refine hK _ _ ?_
        clear hK K
        refine wpAny_ready (rs := [4]) (by kernel_rfl) (by simp) ?_
        refine AllReady.cons rfl (fun K hK => ?_) AllReady.nil
        go_simp
        refine hK _ _ ?_
        clear hK K
        refine wpAny_done (by kernel_rfl) ?_ _
        go_wp2_with fail
        refine bodyPost_ret (v := .tuple #[.agg A, .int .i64 (D.err j)]) (results_ct Tryd.results47 _ _ _ _ A _ rfl (setRow_heap _ _ _ A 99 (0, 0) QH.out.res.drew) Tryd.underlying99 rfl HSI.out _ rfl) rfl ⟨by rw [HAA.out], below_setRow QH.out.bel.drew (Nat.le_refl _) A⟩
      · go_simp
        (with_reducible refine (HER.out _ (H.out.below (QH.out.bel.drew))).mono ?_)
        rintro e w' ⟨rfl, rfl⟩
        go_simp
        refine hK _ _ ?_
        clear hK K
        refine wpAny_ready (rs := [0]) (by kernel_rfl) (by simp) ?_
        refine AllReady.cons rfl (fun K hK => ?_) AllReady.nil
        refine wp_load_row 99 (.tmp 4) rfl (w.heap.size + 1) rfl 99 A (0, 0) _ QH.out.cps.drew Tryd.underlying99 rfl HSI.out ?_
        refine hK _ _ ?_
        clear hK K
        refine wpAny_ready (rs := [3]) (by kernel_rfl) (by simp) ?_
        refine AllReady.cons rfl (fun K hK => ?_) AllReady.nil
        refine wp_store_row 99 (.tmp 2) (.tmp 41) rfl w.heap.size A rfl rfl 99 (cpsA Sup.zero Sup.zero false false) QH.out.res.drew HSI.out HSZ.out HOC.out ?_
        refine hK _ _ ?_
        clear hK K
        refine wpAny_ready (rs := [4]) (by kernel_rfl) (by simp) ?_
        refine AllReady.cons rfl (fun K hK => ?_) AllReady.nil
        go_simp
        refine hK _ _ ?_
        clear hK K
        refine wpAny_done (by kernel_rfl) ?_ _
        go_wp2_with fail
        refine bodyPost_ret (v := .tuple #[.agg A, .int .i64 (D.err j)]) (results_ct Tryd.results47 _ _ _ _ A _ rfl (setRow_heap _ _ _ A 99 (0, 0) QH.out.res.drew) Tryd.underlying99 rfl HSI.out _ rfl) rfl ⟨by rw [HAA.out], below_setRow QH.out.bel.drew (Nat.le_refl _) A⟩
end
end Go.Proofs.YtbpaamnofkhonaaDoor
