/- The walk of the superblock's Region. -/
import Derived.Test.YtbpaamnofkhonaaDoorSbJ
import Derived.Deep.MidRow
namespace Go.Proofs.YtbpaamnofkhonaaDoor
open Go.RowKit Go.Maps
attribute [local go_sem ↓] Go.wp_at_zero Go.wp_at_succ

/-- The sizes of the regions. -/
def szL (s : Sup) : List Int := [2, 8, s.redo, s.und, s.desc, 1, s.que, s.tab, s.heap]
def regL (s : Sup) (k : Nat) : Int := ((szL s).take k).foldl (· + ·) 0
section
variable {w : World}
/-- The box of the superblock. -/
structure SpBx (w : World) (ver lin redo und desc que tab gen : Int) (wx : World) : Prop where
  blk : Blk wx w.heap.size #[.int .i64 ver, .int .i64 lin, .int .i64 redo, .int .i64 und, .int .i64 desc, .int .i64 que, .int .i64 tab, .int .u64 gen] 29
  bel : Below w.heap.size w wx
theorem SpBx.cells {ver lin redo und desc que tab gen : Int} {wx : World} (h : SpBx w ver lin redo und desc que tab gen wx) : (fun wx => wx.cell? ⟨w.heap.size, 0, none⟩ = some (.int .i64 ver) ∧ wx.cell? ⟨w.heap.size, 1, none⟩ = some (.int .i64 lin) ∧ wx.cell? ⟨w.heap.size, 2, none⟩ = some (.int .i64 redo) ∧ wx.cell? ⟨w.heap.size, 3, none⟩ = some (.int .i64 und) ∧ wx.cell? ⟨w.heap.size, 4, none⟩ = some (.int .i64 desc) ∧ wx.cell? ⟨w.heap.size, 5, none⟩ = some (.int .i64 que) ∧ wx.cell? ⟨w.heap.size, 6, none⟩ = some (.int .i64 tab) ∧ wx.cell? ⟨w.heap.size, 7, none⟩ = some (.int .u64 gen)) wx := ⟨h.blk.cell rfl, h.blk.cell rfl, h.blk.cell rfl, h.blk.cell rfl, h.blk.cell rfl, h.blk.cell rfl, h.blk.cell rfl, h.blk.cell rfl⟩
theorem SpBx.next {ver lin redo und desc que tab gen : Int} {wx wy : World} (h : SpBx w ver lin redo und desc que tab gen wx) (hb : Below wx.heap.size wx wy) : SpBx w ver lin redo und desc que tab gen wy := ⟨h.blk.below hb, h.bel.trans (hb.mono h.bel.size)⟩
theorem SpBx.drew {ver lin redo und desc que tab gen : Int} {wx : World} (h : SpBx w ver lin redo und desc que tab gen wx) : SpBx w ver lin redo und desc que tab gen wx.drew := h.next ((Below.refl _ _).drew)
theorem SpBx.alloc {ver lin redo und desc que tab gen : Int} {wx : World} (h : SpBx w ver lin redo und desc que tab gen wx) (o : Obj) : SpBx w ver lin redo und desc que tab gen (wx.alloc o) := h.next (below_alloc _ _)
theorem SpBx.setCell {ver lin redo und desc que tab gen : Int} {wx : World} (h : SpBx w ver lin redo und desc que tab gen wx) {a : Addr} (ha : w.heap.size < a.block) (u : Value) : SpBx w ver lin redo und desc que tab gen (wx.setCell a u) := ⟨h.blk.other (by omega) u, h.bel.setCell (by omega) u⟩
theorem SpBx.setCells {ver lin redo und desc que tab gen : Int} {g : Nat} (hg : w.heap.size < g) : ∀ (vs : List Value) (o : Nat) {wx : World}, SpBx w ver lin redo und desc que tab gen wx → SpBx w ver lin redo und desc que tab gen (wx.setCells g o vs)
  | [], _, _, h => h
  | v :: r, o, _, h => SpBx.setCells hg r (o + 1) (h.setCell (a := ⟨g, o, none⟩) hg v)
theorem there_new (wx : World) (c : Array Value) (t : TypeId) (n : Nat) (h : n ≤ c.size) : (wx.alloc (.cells c t)).there wx.heap.size 0 n := fun j hj =>
  ⟨by rw [Nat.zero_add, (Blk.new wx c t).cell (Array.getElem?_eq_getElem (by omega))]; rfl, (Blk.new wx c t).frozen _⟩
theorem there_blk {wx : World} {g n : Nat} {c : Array Value} {t : TypeId} (hb : Blk wx g c t) (h : n ≤ c.size) : wx.there g 0 n := fun j hj =>
  ⟨by rw [Nat.zero_add, hb.cell (Array.getElem?_eq_getElem (by omega))]; rfl, hb.frozen _⟩
set_option maxRecDepth 100000 in
theorem blk_set9 {wx : World} {g : Nat} (hb : Blk wx g #[.int .i64 0, .int .i64 0, .int .i64 0, .int .i64 0, .int .i64 0, .int .i64 0, .int .i64 0, .int .i64 0, .int .i64 0] 88) (v0 v1 v2 v3 v4 v5 v6 v7 v8 : Value) : Blk (wx.setCells g 0 [v0, v1, v2, v3, v4, v5, v6, v7, v8]) g #[v0, v1, v2, v3, v4, v5, v6, v7, v8] 88 := by
  have h := ((((((((hb.set 0 v0).set 1 v1).set 2 v2).set 3 v3).set 4 v4).set 5 v5).set 6 v6).set 7 v7).set 8 v8
  simp only [List.setIfInBounds_toArray, List.set_cons_zero, List.set_cons_succ] at h
  exact h
theorem SpBx.start (ver lin redo und desc que tab gen : Int) : SpBx w ver lin redo und desc que tab gen (w.alloc (.cells #[.int .i64 ver, .int .i64 lin, .int .i64 redo, .int .i64 und, .int .i64 desc, .int .i64 que, .int .i64 tab, .int .u64 gen] 29)) := ⟨Blk.new w _ _, below_alloc w _⟩
set_option maxRecDepth 100000 in
set_option maxHeartbeats 4000000 in
theorem region_bad (s : Sup) (r : Nat) (hr : r < 256) (h : ¬ s.Ok ∨ r < 1 ∨ 9 < r) : Calls Tryd.prog 13 #[.agg s.cells, .int .u8 r] w fun e w' => e = .returned (.tuple #[.int .i64 0, .int .i64 0, .int .i64 1]) ∧ Below w.heap.size w w' := by
  have HV := Lib.hid (fun wx => valid_any (w := wx) s)
  by_cases hk : s.Ok
  · have h2 : r < 1 ∨ 9 < r := by rcases h with h | h; exact absurd hk h; exact h
    rw [Sup.okB_true hk] at HV
    obtain ⟨ver, lin, redo, und, desc, que, tab, gen⟩ := s
    unfold Sup.cells at *
    have S0 := Lib.hid (SpBx.start (w := w) ver lin redo und desc que tab gen)
    clear h hk
    by_cases h1 : r < 1
    · have e1 : (r : Int) < 1 := by omega
      clear h2 h1
      go_enter Tryd.func13, Tryd.ntmps13
      go_wp2_with fail
      (with_reducible refine (HV.out _).mono ?_)
      rintro e w1 ⟨rfl, b1⟩
      have S1 := Lib.hid (S0.out.next b1); clear b1
      go_wp2_with fail
      go_ret3
      exact ⟨rfl, S1.out.bel⟩
    · have e1 : ¬ (r : Int) < 1 := by omega
      have e2 : (9 : Int) < (r : Int) := by omega
      clear h2 h1
      go_enter Tryd.func13, Tryd.ntmps13
      go_wp2_with fail
      (with_reducible refine (HV.out _).mono ?_)
      rintro e w1 ⟨rfl, b1⟩
      have S1 := Lib.hid (S0.out.next b1); clear b1
      go_wp2_with fail
      go_ret3
      exact ⟨rfl, S1.out.bel⟩
  · rw [Sup.okB_false hk] at HV
    obtain ⟨ver, lin, redo, und, desc, que, tab, gen⟩ := s
    unfold Sup.cells at *
    have S0 := Lib.hid (SpBx.start (w := w) ver lin redo und desc que tab gen)
    clear h hk
    go_enter Tryd.func13, Tryd.ntmps13
    go_wp2_with fail
    (with_reducible refine (HV.out _).mono ?_)
    rintro e w1 ⟨rfl, b1⟩
    have S1 := Lib.hid (S0.out.next b1); clear b1
    go_wp2_with fail
    go_ret3
    exact ⟨rfl, S1.out.bel⟩
set_option maxRecDepth 100000 in
set_option maxHeartbeats 4000000 in
theorem region_any (s : Sup) (r : Nat) (hk : s.Ok) (h1 : 1 ≤ r) (h9 : r ≤ 9) : Calls Tryd.prog 13 #[.agg s.cells, .int .u8 r] w fun e w' => e = .returned (.tuple #[.int .i64 (regL s (r - 1)), .int .i64 ((szL s).getD (r - 1) 0), .int .i64 0]) ∧ Below w.heap.size w w' := by
  have hv := fun wx => valid_any (w := wx) s
  rw [Sup.okB_true hk] at hv
  have HV := Lib.hid hv
  obtain ⟨v1, v2, l1, l2, r1, u1, d1, q1, t1, r2, u2, d2, q2, t2, _⟩ := hk
  have HH := Lib.hid (fun wx => heap_any (w := wx) s (by omega) (by omega) (by omega) (by omega) (by omega) (by omega) (by omega) (by omega) (by omega) (by omega) (by omega) (by omega))
  have hhb : 0 ≤ s.heap ∧ s.heap ≤ 4096 := by unfold Sup.heap Sup.rest; split <;> omega
  have HSZ : Hid (szL s = [2, 8, s.redo, s.und, s.desc, 1, s.que, s.tab, s.heap]) := rfl
  have HRG : Hid (∀ k, regL s k = ((szL s).take k).foldl (· + ·) 0) := fun _ => rfl
  generalize s.heap = hp at *
  generalize regL s = rg at *
  generalize szL s = sz at *
  obtain ⟨ver, lin, redo, und, desc, que, tab, gen⟩ := s
  unfold Sup.cells at *
  simp only at *
  have S0 := Lib.hid (SpBx.start (w := w) ver lin redo und desc que tab gen)
  have e1 : ¬ (r : Int) < 1 := by omega
  have e2 : ¬ (9 : Int) < (r : Int) := by omega
  clear hv
  go_enter Tryd.func13, Tryd.ntmps13
  go_wp2_with fail
  (with_reducible refine (HV.out _).mono ?_)
  rintro e w1 ⟨rfl, b1⟩
  have S1 := Lib.hid (S0.out.next b1); clear b1
  have hw1 : w.heap.size < w1.heap.size := S1.out.blk.lt
  have SD := Lib.hid S1.out.drew
  have hinf : Option.map (fun x => x.size) (Tryd.prog.info? 88) = some [Value.int .i64 2, .int .i64 8, .int .i64 redo, .int .i64 und, .int .i64 desc, .int .i64 1, .int .i64 que, .int .i64 tab, .int .i64 hp].length := by show _ = some 9; kernel_rfl
  go_upto_region 3 with fail
  go_cut [7] from 22 to 34 (fun p wx => ∃ g, p = .pointer (some ⟨g, 0, none⟩) ∧ Blk wx g #[.int .i64 2, .int .i64 8, .int .i64 redo, .int .i64 und, .int .i64 desc, .int .i64 1, .int .i64 que, .int .i64 tab, .int .i64 hp] 88 ∧ SpBx w ver lin redo und desc que tab gen wx ∧ w.heap.size < g)
  case first =>
    have hone : ∀ (u : Value), u ∈ [Value.int .i64 2, .int .i64 8, .int .i64 redo, .int .i64 und, .int .i64 desc, .int .i64 1, .int .i64 que, .int .i64 tab, .int .i64 hp] → u.oneCell' = true := by simp [Value.oneCell']
    have z0 : w1.cell? ⟨w.heap.size, 0, none⟩ = some (.int .i64 ver) := S1.out.blk.cell rfl
    have z1 : w1.cell? ⟨w.heap.size, 1, none⟩ = some (.int .i64 lin) := S1.out.blk.cell rfl
    have z2 : w1.cell? ⟨w.heap.size, 2, none⟩ = some (.int .i64 redo) := S1.out.blk.cell rfl
    have z3 : w1.cell? ⟨w.heap.size, 3, none⟩ = some (.int .i64 und) := S1.out.blk.cell rfl
    have z4 : w1.cell? ⟨w.heap.size, 4, none⟩ = some (.int .i64 desc) := S1.out.blk.cell rfl
    have z5 : w1.cell? ⟨w.heap.size, 5, none⟩ = some (.int .i64 que) := S1.out.blk.cell rfl
    have z6 : w1.cell? ⟨w.heap.size, 6, none⟩ = some (.int .i64 tab) := S1.out.blk.cell rfl
    have z7 : w1.cell? ⟨w.heap.size, 7, none⟩ = some (.int .u64 gen) := S1.out.blk.cell rfl
    go_region_held3 (fun wx => wx.cell? ⟨w.heap.size, 0, none⟩ = some (.int .i64 ver) ∧ wx.cell? ⟨w.heap.size, 1, none⟩ = some (.int .i64 lin) ∧ wx.cell? ⟨w.heap.size, 2, none⟩ = some (.int .i64 redo) ∧ wx.cell? ⟨w.heap.size, 3, none⟩ = some (.int .i64 und) ∧ wx.cell? ⟨w.heap.size, 4, none⟩ = some (.int .i64 desc) ∧ wx.cell? ⟨w.heap.size, 5, none⟩ = some (.int .i64 que) ∧ wx.cell? ⟨w.heap.size, 6, none⟩ = some (.int .i64 tab) ∧ wx.cell? ⟨w.heap.size, 7, none⟩ = some (.int .u64 gen)) (first | (with_reducible exact S3.out.cells) | (with_reducible exact S4.out.cells) | (with_reducible exact (SpBx.setCells hw3 _ 0 (S3.out.alloc _)).cells) | (with_reducible exact (SpBx.setCells hw1 _ 0 S4.out).cells) | (with_reducible exact (S3.out.alloc _).cells) | (with_reducible exact SD.out.cells) | (with_reducible exact (S1.out.alloc _).drew.cells) | (with_reducible exact S1.out.cells)) (first | (go_at_call 41; (with_reducible refine (HH.out _).mono ?_); rintro e w3 ⟨rfl, b3⟩; have S3 := Lib.hid (SD.out.next b3); clear b3; have hw3 : w.heap.size < w3.heap.size := S3.out.blk.lt; have th9 : (w3.alloc (.cells #[.int .i64 0, .int .i64 0, .int .i64 0, .int .i64 0, .int .i64 0, .int .i64 0, .int .i64 0, .int .i64 0, .int .i64 0] 88)).there w3.heap.size 0 [Value.int .i64 2, .int .i64 8, .int .i64 redo, .int .i64 und, .int .i64 desc, .int .i64 1, .int .i64 que, .int .i64 tab, .int .i64 hp].length := there_new _ _ _ _ (by simp)) | (go_at_call 41; (with_reducible refine (HH.out _).mono ?_); rintro e w4 ⟨rfl, b4⟩; have S4 := Lib.hid ((S1.out.alloc _).drew.next b4); have K4 := Lib.hid ((Blk.new w1 #[.int .i64 0, .int .i64 0, .int .i64 0, .int .i64 0, .int .i64 0, .int .i64 0, .int .i64 0, .int .i64 0, .int .i64 0] 88).drew.below b4); clear b4; have th9 : w4.there w1.heap.size 0 [Value.int .i64 2, .int .i64 8, .int .i64 redo, .int .i64 und, .int .i64 desc, .int .i64 1, .int .i64 que, .int .i64 tab, .int .i64 hp].length := there_blk K4.out (by simp)))
    · go_wp2_with fail
      go_meet
      exact ⟨_, rfl, blk_set9 (Blk.new w3 _ _) _ _ _ _ _ _ _ _ _, SpBx.setCells hw3 _ 0 (S3.out.alloc _), hw3⟩
    · go_wp2_with fail
      go_meet
      exact ⟨_, rfl, blk_set9 K4.out _ _ _ _ _ _ _ _ _, SpBx.setCells hw1 _ 0 S4.out, hw1⟩
  case rest =>
    obtain ⟨g, rfl, hbk, hsb, hgw⟩ := hcut
    rename World => wx
    have BX := Lib.hid hsb.bel
    have HC : Hid (∀ k, k < 9 → wx.cell? ⟨g, k, none⟩ = some (.int .i64 (sz.getD k 0))) := fun k hk => by
      rw [HSZ.out]
      obtain rfl | rfl | rfl | rfl | rfl | rfl | rfl | rfl | rfl : k = 0 ∨ k = 1 ∨ k = 2 ∨ k = 3 ∨ k = 4 ∨ k = 5 ∨ k = 6 ∨ k = 7 ∨ k = 8 := by omega
      all_goals exact hbk.cell rfl
    have HS : Hid (∀ k, k < 9 → rg (k + 1) = rg k + sz.getD k 0) := fun k hk => by
      rw [HRG.out, HRG.out, HSZ.out]
      obtain rfl | rfl | rfl | rfl | rfl | rfl | rfl | rfl | rfl : k = 0 ∨ k = 1 ∨ k = 2 ∨ k = 3 ∨ k = 4 ∨ k = 5 ∨ k = 6 ∨ k = 7 ∨ k = 8 := by omega
      all_goals rfl
    have HZB : Hid (∀ k, k < 9 → 0 ≤ sz.getD k 0 ∧ sz.getD k 0 ≤ 4096) := fun k hk => by
      rw [HSZ.out]
      obtain rfl | rfl | rfl | rfl | rfl | rfl | rfl | rfl | rfl : k = 0 ∨ k = 1 ∨ k = 2 ∨ k = 3 ∨ k = 4 ∨ k = 5 ∨ k = 6 ∨ k = 7 ∨ k = 8 := by omega
      all_goals simp
      all_goals omega
    have HR0 : Hid (rg 0 = 0) := by show rg 0 = 0; rw [HRG.out]; rfl
    have HRB : Hid (∀ k, k ≤ 9 → 0 ≤ rg k ∧ rg k ≤ 4096 * k) := fun k => by
      induction k with
      | zero => intro _; rw [HR0.out]; omega
      | succ k ih => intro hk; have h1 := ih (by omega); have h2 := HZB.out k (by omega); rw [HS.out k (by omega)]; omega
    obtain ⟨m, hm⟩ : ∃ m, r - 1 = m := ⟨_, rfl⟩
    have hrm : (r : Int) - 1 = (m : Int) := by omega
    have hm8 : m ≤ 8 := by omega
    have HM := Lib.hid hm
    have hsl : (Instr.sliceAt 88 (.pointer (some ⟨g, 0, none⟩)) none (some (.int .i64 (m : Int))) none).run Tryd.prog wx = .ok (.slice (some ⟨g, 0, none⟩) m 9) wx := by
      clear hm hrm
      obtain rfl | rfl | rfl | rfl | rfl | rfl | rfl | rfl | rfl : m = 0 ∨ m = 1 ∨ m = 2 ∨ m = 3 ∨ m = 4 ∨ m = 5 ∨ m = 6 ∨ m = 7 ∨ m = 8 := by omega
      all_goals kernel_rfl
    clear hbk hsb hinf SD S1 hm
    go_wp2_with fail
    go_loopw [4, 41] (fun x y wr => ∃ k : Nat, k ≤ m ∧ y = .int .i64 k ∧ x = .int .i64 (rg k) ∧ wr = wx) (fun _ y _ => m - (intOf y).toNat)
    case atStart => exact ⟨0, by omega, rfl, by rw [HR0.out], rfl⟩
    case round =>
      obtain ⟨k, hk, rfl, rfl, rfl⟩ := hrel
      have hb := HRB.out k (by omega)
      have hz := HZB.out k (by omega)
      have hc := HC.out k (by omega)
      have HSK := Lib.hid (HS.out k (by omega))
      generalize hrk : rg k = rk at *
      generalize hzk : sz.getD k 0 = zk at *
      have HRK := Lib.hid hrk; have HZK := Lib.hid hzk
      clear hrk hzk
      by_cases hlt : k < m
      · have hlt' : (k : Int) < m := by omega
        go_wp2_with fail
        go_roundw
        case rel => exact ⟨k + 1, by omega, by go_num, by rw [HSK.out], by first | rfl | trivial⟩
        case measure => simp [intOf]; omega
      · obtain rfl : k = m := by omega
        go_wp2_with fail
        go_region
        all_goals go_wp2_with fail
        all_goals go_ret3
        all_goals exact ⟨by rw [HM.out, HRK.out, HZK.out]; rfl, BX.out.drew⟩
end
end Go.Proofs.YtbpaamnofkhonaaDoor
