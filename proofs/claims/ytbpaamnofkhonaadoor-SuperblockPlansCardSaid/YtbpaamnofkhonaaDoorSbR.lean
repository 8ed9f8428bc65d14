/- The walk of the superblock's Region. -/
import Derived.Test.YtbpaamnofkhonaaDoorSbJ
import Derived.Deep.MidRow
namespace Go.Proofs.YtbpaamnofkhonaaDoor
open Go.RowKit Go.Maps
attribute [local go_sem ↓] Go.wp_at_zero Go.wp_at_succ

/-- The sizes of the regions. -/
def szL (s : Sup) : List Int := [2, 8, s.redo, s.und, s.desc, 1, s.que, s.tab, s.heap]
def regL (s : Sup) (k : Nat) : Int := ((szL s).take k).foldl (· + ·) 0
section
variable {w : World}
/-- The box of the superblock. -/
structure SpBx (w : World) (ver lin redo und desc que tab gen : Int) (wx : World) : Prop where
  blk : Blk wx w.heap.size #[.int .i64 ver, .int .i64 lin, .int .i64 redo, .int .i64 und, .int .i64 desc, .int .i64 que, .int .i64 tab, .int .u64 gen] 29
  bel : Below w.heap.size w wx
theorem SpBx.cells {ver lin redo und desc que tab gen : Int} {wx : World} (h : SpBx w ver lin redo und desc que tab gen wx) : (fun wx => wx.cell? ⟨w.heap.size, 0, none⟩ = some (.int .i64 ver) ∧ wx.cell? ⟨w.heap.size, 1, none⟩ = some (.int .i64 lin) ∧ wx.cell? ⟨w.heap.size, 2, none⟩ = some (.int .i64 redo) ∧ wx.cell? ⟨w.heap.size, 3, none⟩ = some (.int .i64 und) ∧ wx.cell? ⟨w.heap.size, 4, none⟩ = some (.int .i64 desc) ∧ wx.cell? ⟨w.heap.size, 5, none⟩ = some (.int .i64 que) ∧ wx.cell? ⟨w.heap.size, 6, none⟩ = some (.int .i64 tab) ∧ wx.cell? ⟨w.heap.size, 7, none⟩ = some (.int .u64 gen)) wx := ⟨h.blk.cell rfl, h.blk.cell rfl, h.blk.cell rfl, h.blk.cell rfl, h.blk.cell rfl, h.blk.cell rfl, h.blk.cell rfl, h.blk.cell rfl⟩
theorem SpBx.next {ver lin redo und desc que tab gen : Int} {wx wy : World} (h : SpBx w ver lin redo und desc que tab gen wx) (hb : Below wx.heap.size wx wy) : SpBx w ver lin redo und desc que tab gen wy := ⟨h.blk.below hb, h.bel.trans (hb.mono h.bel.size)⟩
theorem SpBx.drew {ver lin redo und desc que tab gen : Int} {wx : World} (h : SpBx w ver lin redo und desc que tab gen wx) : SpBx w ver lin redo und desc que tab gen wx.drew := h.next ((Below.refl _ _).drew)
theorem SpBx.alloc {ver lin redo und desc que tab gen : Int} {wx : World} (h : SpBx w ver lin redo und desc que tab gen wx) (o : Obj) : SpBx w ver lin redo und desc que tab gen (wx.alloc o) := h.next (below_alloc _ _)
theorem SpBx.setCell {ver lin redo und desc que tab gen : Int} {wx : World} (h : SpBx w ver lin redo und desc que tab gen wx) {a : Addr} (ha : w.heap.size < a.block) (u : Value) : SpBx w ver lin redo und desc que tab gen (wx.setCell a u) := ⟨h.blk.other (by omega) u, h.bel.setCell (by omega) u⟩
theorem SpBx.setCells {ver lin redo und desc que tab gen : Int} {g : Nat} (hg : w.heap.size < g) : ∀ (vs : List Value) (o : Nat) {wx : World}, SpBx w ver lin redo und desc que tab gen wx → SpBx w ver lin redo und desc que tab gen (wx.setCells g o vs)
  | [], _, _, h => h
  | v :: r, o, _, h => SpBx.setCells hg r (o + 1) (h.setCell (a := ⟨g, o, none⟩) hg v)
theorem there_new (wx : World) (c : Array Value) (t : TypeId) (n : Nat) (h : n ≤ c.size) : (wx.alloc (.cells c t)).there wx.heap.size 0 n := fun j hj =>
  ⟨by rw [Nat.zero_add, (Blk.new wx c t).cell (Array.getElem?_eq_getElem (by omega))]; rfl, (Blk.new wx c t).frozen _⟩
theorem there_blk {wx : World} {g n : Nat} {c : Array Value} {t : TypeId} (hb : Blk wx g c t) (h : n ≤ c.size) : wx.there g 0 n := fun j hj =>
  ⟨by rw [Nat.zero_add, hb.cell (Array.getElem?_eq_getElem (by omega))]; rfl, hb.frozen _⟩
set_option maxRecDepth 100000 in
theorem blk_set9 {wx : World} {g : Nat} (hb : Blk wx g #[.int .i64 0, .int .i64 0, .int .i64 0, .int .i64 0, .int .i64 0, .int .i64 0, .int .i64 0, .int .i64 0, .int .i64 0] 88) (v0 v1 v2 v3 v4 v5 v6 v7 v8 : Value) : Blk (wx.setCells g 0 [v0, v1, v2, v3, v4, v5, v6, v7, v8]) g #[v0, v1, v2, v3, v4, v5, v6, v7, v8] 88 := by
  have h := ((((((((hb.set 0 v0).set 1 v1).set 2 v2).set 3 v3).set 4 v4).set 5 v5).set 6 v6).set 7 v7).set 8 v8
  simp only [List.setIfInBounds_toArray, List.set_cons_zero, List.set_cons_succ] at h
  exact h
theorem SpBx.start (ver lin redo und desc que tab gen : Int) : SpBx w ver lin redo und desc que tab gen (w.alloc (.cells #[.int .i64 ver, .int .i64 lin, .int .i64 redo, .int .i64 und, .int .i64 desc, .int .i64 que, .int .i64 tab, .int .u64 gen] 29)) := ⟨Blk.new w _ _, below_alloc w _⟩
set_option maxRecDepth 100000 in
set_option maxHeartbeats 4000000 in
theorem region_bad (s : Sup) (r : Nat) (hr : r < 256) (h : ¬ s.Ok ∨ r < 1 ∨ 9 < r) : Calls Tryd.prog 13 #[.agg s.cells, .int .u8 r] w fun e w' => e = .returned (.tuple #[.int .i64 0, .int .i64 0, .int .i64 1]) ∧ Below w.heap.size w w' := by
  have HV := Lib.hid (fun wx => valid_any (w := wx) s)
  by_cases hk : s.Ok
  · have h2 : r < 1 ∨ 9 < r := by rcases h with h | h; exact absurd hk h; exact h
    rw [Sup.okB_true hk] at HV
    obtain ⟨ver, lin, redo, und, desc, que, tab, gen⟩ := s
    unfold Sup.cells at *
    have S0 := Lib.hid (SpBx.start (w := w) ver lin redo und desc que tab gen)
    clear h hk
    by_cases h1 : r < 1
    · have e1 : (r : Int) < 1 := by omega
      clear h2 h1
      go_enter Tryd.func13, Tryd.ntmps13
      go_wp2_with fail
      (with_reducible refine (HV.out _).mono ?_)
      rintro e w1 ⟨rfl, b1⟩
      have S1 := Lib.hid (S0.out.next b1); clear b1
      go_wp2_with fail
      go_ret3
      exact ⟨rfl, S1.out.bel⟩
    · have e1 : ¬ (r : Int) < 1 := by omega
      have e2 : (9 : Int) < (r : Int) := by omega
      clear h2 h1
      go_enter Tryd.func13, Tryd.ntmps13
      go_wp2_with fail
      (with_reducible refine (HV.out _).mono ?_)
      rintro e w1 ⟨rfl, b1⟩
      have S1 := Lib.hid (S0.out.next b1); clear b1
      go_wp2_with fail
      go_ret3
      exact ⟨rfl, S1.out.bel⟩
  · rw [Sup.okB_false hk] at HV
    obtain ⟨ver, lin, redo, und, desc, que, tab, gen⟩ := s
    unfold Sup.cells at *
    have S0 := Lib.hid (SpBx.start (w := w) ver lin redo und desc que tab gen)
    clear h hk
    go_enter Tryd.func13, Tryd.ntmps13
    go_wp2_with fail
    (with_reducible refine (HV.out _).mono ?_)
    rintro e w1 ⟨rfl, b1⟩
    have S1 := Lib.hid (S0.out.next b1); clear b1
    go_wp2_with fail
    go_ret3
    exact ⟨rfl, S1.out.bel⟩
set_option maxRecDepth 100000 in
set_option maxHeartbeats 4000000 in
theorem region_any (s : Sup) (r : Nat) (hk : s.Ok) (h1 : 1 ≤ r) (h9 : r ≤ 9) : Calls Tryd.prog 13 #[.agg s.cells, .int .u8 r] w fun e w' => e = .returned (.tuple #[.int .i64 (regL s (r - 1)), .int .i64 ((szL s).getD (r - 1) 0), .int .i64 0]) ∧ Below w.heap.size w w' := by
  have hv := fun wx => valid_any (w := wx) s
  rw [Sup.okB_true hk] at hv
  have HV := Lib.hid hv
  obtain ⟨v1, v2, l1, l2, r1, u1, d1, q1, t1, r2, u2, d2, q2, t2, _⟩ := hk
  have HH := Lib.hid (fun wx => heap_any (w := wx) s (by omega) (by omega) (by omega) (by omega) (by omega) (by omega) (by omega) (by omega) (by omega) (by omega) (by omega) (by omega))
  have hhb : 0 ≤ s.heap ∧ s.heap ≤ 4096 := by unfold Sup.heap Sup.rest; split <;> omega
  have HSZ : Hid (szL s = [2, 8, s.redo, s.und, s.desc, 1, s.que, s.tab, s.heap]) := rfl
  have HRG : Hid (∀ k, regL s k = ((szL s).take k).foldl (· + ·) 0) := fun _ => rfl
  generalize s.heap = hp at *
  generalize regL s = rg at *
  generalize szL s = sz at *
  obtain ⟨ver, lin, redo, und, desc, que, tab, gen⟩ := s
  unfold Sup.cells at *
  simp only at *
  have S0 := Lib.hid (SpBx.start (w := w) ver lin redo und desc que tab gen)
  have e1 : ¬ (r : Int) < 1 := by omega
  have e2 : ¬ (9 : Int) < (r : Int) := by omega
  clear hv
  go_enter Tryd.func13, Tryd.ntmps13
  go_wp2_with fail
  (with_reducible refine (HV.out _).mono ?_)
  rintro e w1 ⟨rfl, b1⟩
  have S1 := Lib.hid (S0.out.next b1); clear b1
  have hw1 : w.heap.size < w1.heap.size := S1.out.blk.lt
  have SD := Lib.hid S1.out.drew
  have hinf : Option.map (fun x => x.size) (Tryd.prog.info? 88) = some [Value.int .i64 2, .int .i64 8, .int .i64 redo, .int .i64 und, .int .i64 desc, .int .i64 1, .int .i64 que, .int .i64 tab, .int .i64 hp].length := by show _ = some 9; kernel_rfl
  go_upto_region 3 with fail
  go_cut [7] from 22 to 34 (fun p wx => ∃ g, p = .pointer (some ⟨g, 0, none⟩) ∧ Blk wx g #[.int .i64 2, .int .i64 8, .int .i64 redo, .int .i64 und, .int .i64 desc, .int .i64 1, .int .i64 que, .int .i64 tab, .int .i64 hp] 88 ∧ SpBx w ver lin redo und desc que tab gen wx ∧ w.heap.size < g)
  case first =>
    have hone : ∀ (u : Value), u ∈ [Value.int .i64 2, .int .i64 8, .int .i64 redo, .int .i64 und, .int .i64 desc, .int .i64 1, .int .i64 que, .int .i64 tab, .int .i64 hp] → u.oneCell' = true := by simp [Value.oneCell']
    have z0 : w1.cell? ⟨w.heap.size, 0, none⟩ = some (.int .i64 ver) := S1.out.blk.cell rfl
    have z1 : w1.cell? ⟨w.heap.size, 1, none⟩ = some (.int .i64 lin) := S1.out.blk.cell rfl
    have z2 : w1.cell? ⟨w.heap.size, 2, none⟩ = some (.int .i64 redo) := S1.out.blk.cell rfl
    have z3 : w1.cell? ⟨w.heap.size, 3, none⟩ = some (.int .i64 und) := S1.out.blk.cell rfl
    have z4 : w1.cell? ⟨w.heap.size, 4, none⟩ = some (.int .i64 desc) := S1.out.blk.cell rfl
    have z5 : w1.cell? ⟨w.heap.size, 5, none⟩ = some (.int .i64 que) := S1.out.blk.cell rfl
    have z6 : w1.cell? ⟨w.heap.size, 6, none⟩ = some (.int .i64 tab) := S1.out.blk.cell rfl
    have z7 : w1.cell? ⟨w.heap.size, 7, none⟩ = some (.int .u64 gen) := S1.out.blk.cell rfl
    go_region_held3 (fun wx => wx.cell? ⟨w.heap.size, 0, none⟩ = some (.int .i64 ver) ∧ wx.cell? ⟨w.heap.size, 1, none⟩ = some (.int .i64 lin) ∧ wx.cell? ⟨w.heap.size, 2, none⟩ = some (.int .i64 redo) ∧ wx.cell? ⟨w.heap.size, 3, none⟩ = some (.int .i64 und) ∧ wx.cell? ⟨w.heap.size, 4, none⟩ = some (.int .i64 desc) ∧ wx.cell? ⟨w.heap.size, 5, none⟩ = some (.int .i64 que) ∧ wx.cell? ⟨w.heap.size, 6, none⟩ = some (.int .i64 tab) ∧ wx.cell? ⟨w.heap.size, 7, none⟩ = some (.int .u64 gen)) (first | (with_reducible exact S3.out.cells) | (with_reducible exact S4.out.cells) | (with_reducible exact (SpBx.setCells hw3 _ 0 (S3.out.alloc _)).cells) | (with_reducible exact (SpBx.setCells hw1 _ 0 S4.out).cells) | (with_reducible exact (S3.out.alloc _).cells) | (with_reducible exact SD.out.cells) | (with_reducible exact (S1.out.alloc _).drew.cells) | (with_reducible exact S1.out.cells)) (first | (go_at_call 41; (with_reducible refine (HH.out _).mono ?_); rintro e w3 ⟨rfl, b3⟩; have S3 := Lib.hid (SD.out.next b3); clear b3; have hw3 : w.heap.size < w3.heap.size := S3.out.blk.lt; have th9 : (w3.alloc (.cells #[.int .i64 0, .int .i64 0, .int .i64 0, .int .i64 0, .int .i64 0, .int .i64 0, .int .i64 0, .int .i64 0, .int .i64 0] 88)).there w3.heap.size 0 [Value.int .i64 2, .int .i64 8, .int .i64 redo, .int .i64 und, .int .i64 desc, .int .i64 1, .int .i64 que, .int .i64 tab, .int .i64 hp].length := there_new _ _ _ _ (by simp)) | (go_at_call 41; (with_reducible refine (HH.out _).mono ?_); rintro e w4 ⟨rfl, b4⟩; have S4 := Lib.hid ((S1.out.alloc _).drew.next b4); have K4 := Lib.hid ((Blk.new w1 #[.int .i64 0, .int .i64 0, .int .i64 0, .int .i64 0, .int .i64 0, .int .i64 0, .int .i64 0, .int .i64 0, .int .i64 0] 88).drew.below b4); clear b4; have th9 : w4.there w1.heap.size 0 [Value.int .i64 2, .int .i64 8, .int .i64 redo, .int .i64 und, .int .i64 desc, .int .i64 1, .int .i64 que, .int .i64 tab, .int .i64 hp].length := there_blk K4.out (by simp)))
    · go_wp2_with fail
      go_meet
      exact ⟨_, rfl, blk_set9 (Blk.new w3 _ _) _ _ _ _ _ _ _ _ _, SpBx.setCells hw3 _ 0 (S3.out.alloc _), hw3⟩
    · go_wp2_with fail
      go_meet
      exact ⟨_, rfl, blk_set9 K4.out _ _ _ _ _ _ _ _ _, SpBx.setCells hw1 _ 0 S4.out, hw1⟩
  case rest =>
    obtain ⟨g, rfl, hbk, hsb, hgw⟩ := hcut
    rename World => wx
    have BX := Lib.hid hsb.bel
    have HC : Hid (∀ k, k < 9 → wx.cell? ⟨g, k, none⟩ = some (.int .i64 (sz.getD k 0))) := fun k hk => by
      rw [HSZ.out]
      obtain rfl | rfl | rfl | rfl | rfl | rfl | rfl | rfl | rfl : k = 0 ∨ k = 1 ∨ k = 2 ∨ k = 3 ∨ k = 4 ∨ k = 5 ∨ k = 6 ∨ k = 7 ∨ k = 8 := by omega
      all_goals exact hbk.cell rfl
    have HS : Hid (∀ k, k < 9 → rg (k + 1) = rg k + sz.getD k 0) := fun k hk => by
      rw [HRG.out, HRG.out, HSZ.out]
      obtain rfl | rfl | rfl | rfl | rfl | rfl | rfl | rfl | rfl : k = 0 ∨ k = 1 ∨ k = 2 ∨ k = 3 ∨ k = 4 ∨ k = 5 ∨ k = 6 ∨ k = 7 ∨ k = 8 := by omega
      all_goals rfl
    have HZB : Hid (∀ k, k < 9 → 0 ≤ sz.getD k 0 ∧ sz.getD k 0 ≤ 4096) := fun k hk => by
      rw [HSZ.out]
      obtain rfl | rfl | rfl | rfl | rfl | rfl | rfl | rfl | rfl : k = 0 ∨ k = 1 ∨ k = 2 ∨ k = 3 ∨ k = 4 ∨ k = 5 ∨ k = 6 ∨ k = 7 ∨ k = 8 := by omega
      all_goals simp
      all_goals omega
    have HR0 : Hid (rg 0 = 0) := by show rg 0 = 0; rw [HRG.out]; rfl
    have HRB : Hid (∀ k, k ≤ 9 → 0 ≤ rg k ∧ rg k ≤ 4096 * k) := fun k => by
      induction k with
      | zero => intro _; rw [HR0.out]; omega
      | succ k ih => intro hk; have h1 := ih (by omega); have h2 := HZB.out k (by omega); rw [HS.out k (by omega)]; omega
    obtain ⟨m, hm⟩ : ∃ m, r - 1 = m := ⟨_, rfl⟩
    have hrm : (r : Int) - 1 = (m : Int) := by omega
    have hm8 : m ≤ 8 := by omega
    have HM := Lib.hid hm
    have hsl : (Instr.sliceAt 88 (.pointer (some ⟨g, 0, none⟩)) none (some (.int .i64 (m : Int))) none).run Tryd.prog wx = .ok (.slice (some ⟨g, 0, none⟩) m 9) wx := by
      clear hm hrm
      obtain rfl | rfl | rfl | rfl | rfl | rfl | rfl | rfl | rfl : m = 0 ∨ m = 1 ∨ m = 2 ∨ m = 3 ∨ m = 4 ∨ m = 5 ∨ m = 6 ∨ m = 7 ∨ m = 8 := by omega
      all_goals kernel_rfl
    clear hbk hsb hinf SD S1 hm
    go_wp2_with fail
    go_loopw [4, 41] (fun x y wr => ∃ k : Nat, k ≤ m ∧ y = .int .i64 k ∧ x = .int .i64 (rg k) ∧ wr = wx) (fun _ y _ => m - (intOf y).toNat)
    case atStart => exact ⟨0, by omega, rfl, by rw [HR0.out], rfl⟩
    case round =>
      obtain ⟨k, hk, rfl, rfl, rfl⟩ := hrel
      have hb := HRB.out k (by omega)
      have hz := HZB.out k (by omega)
      have hc := HC.out k (by omega)
      have HSK := Lib.hid (HS.out k (by omega))
      generalize hrk : rg k = rk at *
      generalize hzk : sz.getD k 0 = zk at *
      have HRK := Lib.hid hrk; have HZK := Lib.hid hzk
      clear hrk hzk
      by_cases hlt : k < m
      · have hlt' : (k : Int) < m := by omega
        go_wp2_with fail
        go_roundw
        case rel => exact ⟨k + 1, by omega, by go_num, by rw [HSK.out], by first | rfl | trivial⟩
        case measure => simp [intOf]; omega
      · obtain rfl : k = m := by omega
        go_wp2_with fail
        go_region
        all_goals go_wp2_with fail
        all_goals go_ret3
        all_goals exact ⟨by rw [HM.out, HRK.out, HZK.out]; rfl, BX.out.drew⟩
end
end Go.Proofs.YtbpaamnofkhonaaDoor

/- The superblock on a clean device: what Format and Update leave, plain. No program in sight. -/
namespace Go.Proofs.YtbpaamnofkhonaaDoor
open Go.RowKit

theorem Sup.Ok.withGen {s : Sup} (h : s.Ok) (g : Int) : (s.withGen g).Ok := ⟨h.v1, h.v2, h.l1, h.l2, h.r1, h.u1, h.d1, h.q1, h.t1, h.r2, h.u2, h.d2, h.q2, h.t2, h.h⟩
/-- Nothing pending for thread j on n lines; not armed. -/
structure SCl (D : Dev) (j n : Nat) (C : Nat → Int) (x : Nat) : Prop where
  grp : Grp D j n C [] []
  vb : D.VB
  exec : D.exec ≤ x
  ar : D.armed = false
section
variable {D : Dev} {C : Nat → Int} {j n x : Nat}
theorem SCl.cur (h : SCl D j n C x) : D.cur = C := funext fun i => by rw [h.grp.hst.cur]; rfl
theorem SCl.img (h : SCl D j n C x) (ks : Nat → Nat) : D.img ks = C := funext fun i => h.grp.hst.clean ks i
theorem SCl.mono {y : Nat} (h : SCl D j n C x) (hxy : x ≤ y) : SCl D j n C y := ⟨h.grp, h.vb, Nat.le_trans h.exec hxy, h.ar⟩
theorem SCl.bd (h : SCl D j n C x) (i : Nat) : 0 ≤ C i ∧ C i < 18446744073709551616 := by rw [← h.cur]; exact h.vb.cur i
theorem fresh_scl {f : Nat → Int} (hf : ∀ i, 0 ≤ f i ∧ f i < 18446744073709551616) (j n : Nat) : SCl (Dev.fresh n f) j n f 0 :=
  ⟨⟨⟨rfl, rfl, rfl⟩, ⟨fun _ => rfl, fun _ => rfl⟩, fun o ho => by simp at ho, fun _ _ => rfl⟩, ⟨hf, fun l e he => by simp [Dev.fresh] at he⟩, Nat.le_refl _, rfl⟩
theorem SCl.stores (h : SCl D j n C x) {ws : List (Nat × Int)} (hw : ∀ e ∈ ws, e.1 % 8 = 0 ∧ e.1 < 64 * n) (hv : ∀ e ∈ ws, 0 ≤ e.2 ∧ e.2 < 18446744073709551616) :
    SCl (D.run j (storesL ws)) j n (fun i => look ws (C i) i) (x + (storesL ws).length) := by
  have hx := D.run_exec j (storesL ws)
  have := h.exec
  rw [stores_groups] at *
  rcases run_came h.grp (storesGs_ok hw) with ⟨h1, h2, _⟩ | ⟨_, _, _, _, _, _, _, _, h2, _⟩
  · have e : laidG C (storesGs ws) = fun i => look ws (C i) i := funext fun i => by rw [laidG_flat, storesGs_flat]
    rw [e] at h1
    exact ⟨h1, Dev.VB.run _ h.vb j (valP_groups (fun e he => by rw [storesGs_flat] at he; exact hv e he)), by omega, by rw [h2]; exact h.ar⟩
  · rw [h.ar] at h2; cases h2
end
theorem sbWs_bd {s : Sup} (hf : s.Fits) (i : Nat) : ∀ e ∈ sbWs s i, 0 ≤ e.2 ∧ e.2 < 18446744073709551616 := by
  obtain ⟨g1, g2, v1, v2, l1, l2, r1, r2, u1, u2, d1, d2, q1, q2, t1, t2⟩ := hf
  have h0 : ∀ q, q < 8 → (s.words.getD q 0) < 18446744073709551616 := fun q hq => by
    obtain rfl | rfl | rfl | rfl | rfl | rfl | rfl | rfl : q = 0 ∨ q = 1 ∨ q = 2 ∨ q = 3 ∨ q = 4 ∨ q = 5 ∨ q = 6 ∨ q = 7 := by omega
    · show 7738151121853964849 < 18446744073709551616; omega
    · show s.gen.toNat < 18446744073709551616; omega
    · show s.w2 < 18446744073709551616; unfold Sup.w2; omega
    · show s.w3 < 18446744073709551616; unfold Sup.w3; omega
    · show 0 < 18446744073709551616; omega
    · show 0 < 18446744073709551616; omega
    · show 0 < 18446744073709551616; omega
    · show 4294967296 + crcN s.first < 18446744073709551616
      have := crcN_lt s.first; omega
  intro e he
  unfold sbWs at he
  rcases List.mem_cons.1 he with rfl | he
  · simp
  · obtain ⟨k, hk, rfl⟩ := List.mem_map.1 he
    have := h0 k (List.mem_range.1 hk)
    simp only
    omega
/-- The words behind the program that writes copy i. -/
def prgC (s : Sup) (i : Nat) (C : Nat → Int) (x : Nat) : Int := look (sbWs s i) (C x) x
def ersC (C : Nat → Int) (x : Nat) : Int := look [(56, 0), (120, 0)] (C x) x
theorem prg_cp (s : Sup) (i : Nat) (C : Nat → Int) : cpW (prgC s i C) i = s.words ∧ ∀ q, q ≠ i → cpW (prgC s i C) q = cpW C q := by
  have h := cp_part s i 9 C (prgC s i C) (by omega) (fun x => by rw [List.take_of_length_le (by rw [sbWs_eq]; simp)]; rfl)
  exact ⟨h.2.2 rfl, h.1⟩
theorem ers_cp (C : Nat → Int) : (cpW (ersC C) 0).getD 7 0 = 0 ∧ (cpW (ersC C) 1).getD 7 0 = 0 := ⟨rfl, rfl⟩
section
variable {D : Dev} {C : Nat → Int} {j n x : Nat}
theorem SCl.prog (h : SCl D j n C x) {s : Sup} (hf : s.Fits) {i : Nat} (hi : i < n) : SCl (D.run j (sbP s i)) j n (prgC s i C) (x + 19) := by
  have := (h.stores (ws := sbWs s i) (fun e he => ⟨(sbWs_line s i n hi e he).1, (sbWs_line s i n hi e he).2.1⟩) (sbWs_bd hf i))
  exact this.mono (by have := sbP_len s i; show x + (sbP s i).length ≤ _; omega)
theorem SCl.format (h : SCl D j n C x) {s : Sup} (hf : s.Fits) (hn : 2 ≤ n) : SCl (D.run j (eraseP ++ sbP s 0)) j n (prgC s 0 (ersC C)) (x + 24) := by
  rw [Dev.run_append]
  have h1 := h.stores (ws := [(56, 0), (120, 0)]) (fun e he => by
    simp at he
    rcases he with rfl | rfl
    · exact ⟨rfl, by show 56 < 64 * n; omega⟩
    · exact ⟨rfl, by show 120 < 64 * n; omega⟩) (fun e he => by simp at he; rcases he with rfl | rfl <;> simp)
  exact (SCl.prog (h1.mono (y := x + 5) (by have := eraseP_len; show x + eraseP.length ≤ _; omega)) hf (by omega)).mono (by omega)
end
/-- Behind Format its superblock is the newest. -/
theorem new_format (s : Sup) (hk : s.Ok) (hg : 0 ≤ s.gen) (C : Nat → Int) {n : Nat} (hl : s.lin ≤ n) :
    cpG (prgC s 0 (ersC C)) n 1 = false ∧ cpG (prgC s 0 (ersC C)) n 0 = true ∧ newG (prgC s 0 (ersC C)) n = true ∧ newA (prgC s 0 (ersC C)) n = 0 ∧ newS (prgC s 0 (ersC C)) n = s := by
  obtain ⟨h0, h1⟩ := prg_cp s 0 (ersC C)
  have g1 : cpG (prgC s 0 (ersC C)) n 1 = false := by unfold cpG; rw [h1 1 (by omega)]; exact goodB_seven (ers_cp C).2
  have hw := goodB_words s hk hg hl
  have g0 : cpG (prgC s 0 (ersC C)) n 0 = true := by unfold cpG; rw [h0]; exact hw.1
  have hb : newB (prgC s 0 (ersC C)) n = false := by unfold newB; rw [g1]; rfl
  have ha : newA (prgC s 0 (ersC C)) n = 0 := by unfold newA; rw [hb]; rfl
  refine ⟨g1, g0, by unfold newG; rw [hb, g0]; rfl, ha, ?_⟩
  unfold newS cpS
  rw [ha, h0]; exact hw.2
theorem newG_good {C : Nat → Int} {n : Nat} (h : newG C n = true) : cpG C n (newA C n) = true := by
  unfold newG at h
  unfold newA
  cases hb : newB C n
  · rw [hb] at h; simpa using h
  · unfold newB at hb; simp only [Bool.and_eq_true] at hb; simpa using hb.1
/-- Words whose older copy is a superblock of a larger generation. -/
theorem new_update (s : Sup) (hk : s.Ok) (C F : Nat → Int) {n : Nat} (hl : s.lin ≤ n) (hG : newG C n = true) (hg : (newS C n).gen < s.gen) (h0 : 0 ≤ s.gen) (hn : cpW F (1 - newA C n) = s.words) (ho : cpW F (newA C n) = cpW C (newA C n)) :
    newG F n = true ∧ newS F n = s ∧ newA F n = 1 - newA C n := by
  have hgd := newG_good hG
  have hw := goodB_words s hk h0 hl
  have ha : newA C n = 0 ∨ newA C n = 1 := by unfold newA; split <;> simp
  unfold newS at hg
  rcases ha with ha | ha
  · rw [ha] at hgd hn ho hg ⊢
    have g1 : cpG F n 1 = true := by unfold cpG; rw [hn]; exact hw.1
    have s1 : cpS F n 1 = s := by unfold cpS; rw [hn]; exact hw.2
    have s0 : cpS F n 0 = cpS C n 0 := by unfold cpS; rw [ho]
    have hb : newB F n = true := by
      unfold newB
      rw [g1, s1, s0]
      simp [hg]
    have hA : newA F n = 1 := by unfold newA; rw [hb]; rfl
    exact ⟨by unfold newG; rw [hb]; rfl, by unfold newS; rw [hA]; exact s1, hA⟩
  · rw [ha] at hgd hn ho hg ⊢
    have g0 : cpG F n 0 = true := by unfold cpG; rw [hn]; exact hw.1
    have s0 : cpS F n 0 = s := by unfold cpS; rw [hn]; exact hw.2
    have s1 : cpS F n 1 = cpS C n 1 := by unfold cpS; rw [ho]
    have hb : newB F n = false := by
      unfold newB
      rw [g0, s1, s0]
      have : ¬ s.gen < (cpS C n 1).gen := by omega
      simp [this]
    have hA : newA F n = 0 := by unfold newA; rw [hb]; rfl
    exact ⟨by unfold newG; rw [hb, g0]; rfl, by unfold newS; rw [hA]; exact s0, hA⟩
end Go.Proofs.YtbpaamnofkhonaaDoor
