/- The reference's Good of layer 13. -/
import Derived.Test.YtbpaamnofkhonaaDoorSbH
import Derived.Test.YtbpaamnofkhonaaDoorSbR
namespace Go.Proofs.YtbpaamnofkhonaaDoor
open Go.RowKit Go.Maps
attribute [local go_sem ↓] Go.wp_at_zero Go.wp_at_succ

section
variable {w : World}
/-- Good's two boxes. -/
structure GdSt (w : World) (c0 c1 : Array Value) (wx : World) : Prop where
  res : Blk wx w.heap.size c0 26
  sup : Blk wx (w.heap.size + 1) c1 26
  bel : Below w.heap.size w wx
theorem GdSt.next {w wx w1 : World} {c0 c1 : Array Value} (h : GdSt w c0 c1 wx) (hb : Below wx.heap.size wx w1) : GdSt w c0 c1 w1 := ⟨h.res.below hb, h.sup.below hb, h.bel.trans (hb.mono h.bel.size)⟩
set_option maxRecDepth 100000 in
theorem blk_set8 {wx : World} {g : Nat} (hb : Blk wx g #[.int .i64 0, .int .i64 0, .int .i64 0, .int .i64 0, .int .i64 0, .int .i64 0, .int .i64 0, .int .u64 0] 26) (v0 v1 v2 v3 v4 v5 v6 v7 : Value) : Blk (wx.setCells g 0 [v0, v1, v2, v3, v4, v5, v6, v7]) g #[v0, v1, v2, v3, v4, v5, v6, v7] 26 := by
  have h := (((((((hb.set 0 v0).set 1 v1).set 2 v2).set 3 v3).set 4 v4).set 5 v5).set 6 v6).set 7 v7
  simp only [List.setIfInBounds_toArray, List.set_cons_zero, List.set_cons_succ] at h
  exact h
theorem bel_cells {B : Nat} {wa : World} {g : Nat} (hg : B ≤ g) : ∀ (vs : List Value) (o : Nat) {wx : World}, Below B wa wx → Below B wa (wx.setCells g o vs)
  | [], _, _, h => h
  | v :: r, o, _, h => bel_cells hg r (o + 1) (h.setCell (p := ⟨g, o, none⟩) hg v)
theorem blk_cells {wx : World} {b g : Nat} {c : Array Value} {t : TypeId} (hg : b ≠ g) : ∀ (vs : List Value) (o : Nat) {wx : World}, Blk wx b c t → Blk (wx.setCells g o vs) b c t
  | [], _, _, h => h
  | v :: r, o, _, h => blk_cells (wx := wx) hg r (o + 1) (Blk.other h (a := ⟨g, o, none⟩) hg v)
/-- What Good answers. -/
def GdPost (w : World) (cs : Array Value) (g : Bool) (r : Ending) (w' : World) : Prop := r = .returned (.tuple #[.agg (if g then cs else #[.int .i64 0, .int .i64 0, .int .i64 0, .int .i64 0, .int .i64 0, .int .i64 0, .int .i64 0, .int .u64 0]), .bool g]) ∧ Below w.heap.size w w'
set_option maxRecDepth 100000 in
set_option maxHeartbeats 4000000 in
theorem good13_core (sb so cap : Nat) (a1 a2 a3 n x1 x2 x3 x4 x5 x6 x7 : Nat) (_ : x1 < 65536) (_ : x2 < 65536) (_ : x3 < 65536) (_ : x4 < 65536) (_ : x5 < 65536) (_ : x6 < 65536) (_ : x7 < 65536)
    (ob g : Bool) (A W2 : List Nat) (hA : A.length = 8) (hW2 : W2.length = 8) (hA64 : ∀ x ∈ A, x < 18446744073709551616) (hs : ∀ (j x : Nat), A[j]? = some x → w.cell? ⟨sb, so + j, none⟩ = some (.int .u64 (x : Int))) (e1 : A[1]? = some a1) (e2 : A[2]? = some a2) (e3 : A[3]? = some a3)
    (p1 : ∀ wx, Calls Tryd.prog 50 #[.int .u64 (a2 : Int), .int .i64 0] wx fun r w' => r = .returned (.int .i64 (x1 : Int)) ∧ wx = w')
    (p2 : ∀ wx, Calls Tryd.prog 50 #[.int .u64 (a2 : Int), .int .i64 1] wx fun r w' => r = .returned (.int .i64 (x2 : Int)) ∧ wx = w')
    (p3 : ∀ wx, Calls Tryd.prog 50 #[.int .u64 (a2 : Int), .int .i64 2] wx fun r w' => r = .returned (.int .i64 (x3 : Int)) ∧ wx = w')
    (p7 : ∀ wx, Calls Tryd.prog 50 #[.int .u64 (a2 : Int), .int .i64 3] wx fun r w' => r = .returned (.int .i64 (x7 : Int)) ∧ wx = w')
    (p4 : ∀ wx, Calls Tryd.prog 50 #[.int .u64 (a3 : Int), .int .i64 0] wx fun r w' => r = .returned (.int .i64 (x4 : Int)) ∧ wx = w')
    (p5 : ∀ wx, Calls Tryd.prog 50 #[.int .u64 (a3 : Int), .int .i64 1] wx fun r w' => r = .returned (.int .i64 (x5 : Int)) ∧ wx = w')
    (p6 : ∀ wx, Calls Tryd.prog 50 #[.int .u64 (a3 : Int), .int .i64 2] wx fun r w' => r = .returned (.int .i64 (x6 : Int)) ∧ wx = w')
    (hV : ∀ wx, Calls Tryd.prog 16 #[.agg #[.int .i64 (x1 : Int), .int .i64 (x2 : Int), .int .i64 (x3 : Int), .int .i64 (x7 : Int), .int .i64 (x4 : Int), .int .i64 (x5 : Int), .int .i64 (x6 : Int), .int .u64 (a1 : Int)]] wx fun r w' => r = .returned (.bool ob) ∧ Below wx.heap.size wx w')
    (hW : ∀ wx, Calls Tryd.prog 45 #[.agg #[.int .i64 (x1 : Int), .int .i64 (x2 : Int), .int .i64 (x3 : Int), .int .i64 (x7 : Int), .int .i64 (x4 : Int), .int .i64 (x5 : Int), .int .i64 (x6 : Int), .int .u64 (a1 : Int)]] wx fun r w' => ∃ ov, r = .returned ov ∧ Acc wx wx.heap.size w' 22 1 ov 8 (natsU W2))
    (hg : g = (ob && decide (x2 ≤ n) && decide (W2 = A))) :
    Calls Tryd.prog 23 #[.slice (some ⟨sb, so, none⟩) 8 cap, .int .i64 n] w (GdPost w #[.int .i64 (x1 : Int), .int .i64 (x2 : Int), .int .i64 (x3 : Int), .int .i64 (x7 : Int), .int .i64 (x4 : Int), .int .i64 (x5 : Int), .int .i64 (x6 : Int), .int .u64 (a1 : Int)] g) := by
  have k1 := hs 1 _ e1; have k2 := hs 2 _ e2; have k3 := hs 3 _ e3
  have HV := Lib.hid hV; have HW := Lib.hid hW; have HG := Lib.hid hg; have HS := Lib.hid hs; have HL := Lib.hid (And.intro hA hW2); have H64 := Lib.hid hA64
  clear hV hW hg hs hA hW2 e1 e2 e3 hA64
  have P1 := Lib.hid p1; have P2 := Lib.hid p2; have P3 := Lib.hid p3; have P4 := Lib.hid p4; have P5 := Lib.hid p5; have P6 := Lib.hid p6; have P7 := Lib.hid p7
  clear p1 p2 p3 p4 p5 p6 p7
  have hlt0 : sb < w.heap.size := World.block_lt_of_cell? w _ k1
  have C0 : Hid ((fun wx => wx.cell? ⟨sb, so + 1, none⟩ = some (.int .u64 (a1 : Int)) ∧ wx.cell? ⟨sb, so + 2, none⟩ = some (.int .u64 (a2 : Int)) ∧ wx.cell? ⟨sb, so + 3, none⟩ = some (.int .u64 (a3 : Int))) w) := ⟨k1, k2, k3⟩
  have HBL : Hid (∀ wx, Below w.heap.size w wx → (fun wx => wx.cell? ⟨sb, so + 1, none⟩ = some (.int .u64 (a1 : Int)) ∧ wx.cell? ⟨sb, so + 2, none⟩ = some (.int .u64 (a2 : Int)) ∧ wx.cell? ⟨sb, so + 3, none⟩ = some (.int .u64 (a3 : Int))) wx) := fun wx hb => ⟨(hb.cell (p := ⟨sb, so + 1, none⟩) hlt0).trans k1, (hb.cell (p := ⟨sb, so + 2, none⟩) hlt0).trans k2, (hb.cell (p := ⟨sb, so + 3, none⟩) hlt0).trans k3⟩
  have w1d : Hid (∃ w1, w.alloc (.cells #[.int .i64 0, .int .i64 0, .int .i64 0, .int .i64 0, .int .i64 0, .int .i64 0, .int .i64 0, .int .u64 0] 26) = w1 ∧ w1.heap.size = w.heap.size + 1 ∧ Below w.heap.size w w1 ∧ Blk w1 w.heap.size #[.int .i64 0, .int .i64 0, .int .i64 0, .int .i64 0, .int .i64 0, .int .i64 0, .int .i64 0, .int .u64 0] 26) := ⟨_, rfl, by simp, below_alloc _ _, Blk.new _ _ _⟩
  have hinf : Option.map (fun x => x.size) (Tryd.prog.info? 26) = some [Value.int .i64 (x1 : Int), .int .i64 (x2 : Int), .int .i64 (x3 : Int), .int .i64 (x7 : Int), .int .i64 (x4 : Int), .int .i64 (x5 : Int), .int .i64 (x6 : Int), .int .u64 (a1 : Int)].length := by show _ = some 8; kernel_rfl
  go_enter Tryd.func23, Tryd.ntmps23
  go_upto_region 1 with fail
  obtain ⟨w1, hw1, hs1, b1, z1⟩ := w1d.out
  rw [hw1]
  have B1 := Lib.hid b1; have Z1 := Lib.hid z1
  obtain ⟨c1, c2, c3⟩ := HBL.out _ b1
  clear b1 z1 hw1 w1d
  go_cut [6] from 9 to 40 (fun p wx => p = .pointer (some ⟨w.heap.size + 1, 0, none⟩) ∧ GdSt w #[.int .i64 0, .int .i64 0, .int .i64 0, .int .i64 0, .int .i64 0, .int .i64 0, .int .i64 0, .int .u64 0] #[.int .i64 (x1 : Int), .int .i64 (x2 : Int), .int .i64 (x3 : Int), .int .i64 (x7 : Int), .int .i64 (x4 : Int), .int .i64 (x5 : Int), .int .i64 (x6 : Int), .int .u64 (a1 : Int)] wx)
  case first =>
    have hone : ∀ (u : Value), u ∈ [Value.int .i64 (x1 : Int), .int .i64 (x2 : Int), .int .i64 (x3 : Int), .int .i64 (x7 : Int), .int .i64 (x4 : Int), .int .i64 (x5 : Int), .int .i64 (x6 : Int), .int .u64 (a1 : Int)] → u.oneCell' = true := by simp [Value.oneCell']
    have BA : Hid (∀ o, Below w.heap.size w (w1.alloc o)) := fun o => B1.out.trans ((below_alloc w1 o).mono B1.out.size)
    have BD : Hid (∀ o, Below w.heap.size w (w1.drew.alloc o)) := fun o => B1.out.drew.trans ((below_alloc w1.drew o).mono B1.out.drew.size)
    go_region_held3 (fun wx => wx.cell? ⟨sb, so + 1, none⟩ = some (.int .u64 (a1 : Int)) ∧ wx.cell? ⟨sb, so + 2, none⟩ = some (.int .u64 (a2 : Int)) ∧ wx.cell? ⟨sb, so + 3, none⟩ = some (.int .u64 (a3 : Int))) (first | (with_reducible exact HBL.out _ B1.out.drew) | (with_reducible exact HBL.out _ B1.out) | (with_reducible exact HBL.out _ (BA.out _).drew) | (with_reducible exact HBL.out _ (BD.out _)) | (with_reducible exact HBL.out _ (BA.out _)) | (with_reducible exact HBL.out _ (bel_cells (by simp; omega) _ 0 (BA.out _))) | (with_reducible exact HBL.out _ (bel_cells (by simp; omega) _ 0 (BD.out _))) | (with_reducible exact HBL.out _ (bel_cells (by simp; omega) _ 0 (BA.out _).drew)) | fail) (first | (go_at_call 50; (with_reducible refine (P1.out _).mono ?_); rintro e w' ⟨rfl, rfl⟩) | (go_at_call 50; (with_reducible refine (P2.out _).mono ?_); rintro e w' ⟨rfl, rfl⟩) | (go_at_call 50; (with_reducible refine (P3.out _).mono ?_); rintro e w' ⟨rfl, rfl⟩) | (go_at_call 50; (with_reducible refine (P7.out _).mono ?_); rintro e w' ⟨rfl, rfl⟩) | (go_at_call 50; (with_reducible refine (P4.out _).mono ?_); rintro e w' ⟨rfl, rfl⟩) | (go_at_call 50; (with_reducible refine (P5.out _).mono ?_); rintro e w' ⟨rfl, rfl⟩) | (go_at_call 50; (with_reducible refine (P6.out _).mono ?_); rintro e w' ⟨rfl, rfl⟩))
    all_goals go_wp2_with fail
    all_goals go_meet
    all_goals exact ⟨rfl, (Z1.out.alloc _).drew, (by rw [← hs1]; exact (Blk.new w1 _ _).drew), (BA.out _).drew⟩
  case rest =>
    obtain ⟨rfl, hst⟩ := hcut
    rename World => wx
    have ST := Lib.hid hst
    clear hst C0 hinf B1 Z1 c1 c2 c3 hs1 k1 k2 k3 P1 P2 P3 P4 P5 P6 P7 HBL
    have q0 := ST.out.sup.cell (i := 0) rfl; have q1 := ST.out.sup.cell (i := 1) rfl; have q2 := ST.out.sup.cell (i := 2) rfl; have q3 := ST.out.sup.cell (i := 3) rfl
    have q4 := ST.out.sup.cell (i := 4) rfl; have q5 := ST.out.sup.cell (i := 5) rfl; have q6 := ST.out.sup.cell (i := 6) rfl; have q7 := ST.out.sup.cell (i := 7) rfl
    go_wp2_with fail
    (with_reducible refine (HV.out _).mono ?_)
    rintro e w3 ⟨rfl, b3⟩
    have S3 := Lib.hid (ST.out.next b3)
    clear b3 ST q0 q1 q2 q3 q4 q5 q6 q7 HV
    have q0 := S3.out.sup.cell (i := 0) rfl; have q1 := S3.out.sup.cell (i := 1) rfl; have q2 := S3.out.sup.cell (i := 2) rfl; have q3 := S3.out.sup.cell (i := 3) rfl
    have q4 := S3.out.sup.cell (i := 4) rfl; have q5 := S3.out.sup.cell (i := 5) rfl; have q6 := S3.out.sup.cell (i := 6) rfl; have q7 := S3.out.sup.cell (i := 7) rfl
    have f0 := S3.out.res.frozen 0; have f1 := S3.out.res.frozen 1; have f2 := S3.out.res.frozen 2; have f3 := S3.out.res.frozen 3
    have f4 := S3.out.res.frozen 4; have f5 := S3.out.res.frozen 5; have f6 := S3.out.res.frozen 6; have f7 := S3.out.res.frozen 7
    have r0 := S3.out.res.cell (i := 0) rfl; have r1 := S3.out.res.cell (i := 1) rfl; have r2 := S3.out.res.cell (i := 2) rfl; have r3 := S3.out.res.cell (i := 3) rfl
    have r4 := S3.out.res.cell (i := 4) rfl; have r5 := S3.out.res.cell (i := 5) rfl; have r6 := S3.out.res.cell (i := 6) rfl; have r7 := S3.out.res.cell (i := 7) rfl
    cases ob
    · obtain rfl : g = false := by rw [HG.out]; rfl
      go_wp2_with fail
      refine bodyPost_ret (v := .tuple #[.agg #[.int .i64 0, .int .i64 0, .int .i64 0, .int .i64 0, .int .i64 0, .int .i64 0, .int .i64 0, .int .u64 0], .bool false]) (by simp [results, Tryd.results23, go_sem, r0, r1, r2, r3, r4, r5, r6, r7]) rfl ⟨rfl, ?_⟩
      exact below_set8 S3.out.bel (Nat.le_refl _) 0 _ _ _ _ _ _ _ _
    · by_cases hlin : x2 ≤ n
      · have d1 : ¬ (n : Int) < (x2 : Int) := by omega
        have HG2 : Hid (g = decide (W2 = A)) := by show g = _; rw [HG.out]; simp [hlin]
        clear HG hlin
        go_wp2_with fail
        (with_reducible refine (HW.out _).mono ?_)
        rintro e w4 ⟨ov, rfl, a4⟩
        obtain ⟨oa, oc, hov⟩ := a4.slice
        subst hov
        have S4 := Lib.hid (S3.out.next a4.bel)
        have R4 := Lib.hid a4.rd
        clear a4 HW q0 q1 q2 q3 q4 q5 q6 q7 f0 f1 f2 f3 f4 f5 f6 f7 r0 r1 r2 r3 r4 r5 r6 r7 S3
        have q0 := S4.out.sup.cell (i := 0) rfl; have q1 := S4.out.sup.cell (i := 1) rfl; have q2 := S4.out.sup.cell (i := 2) rfl; have q3 := S4.out.sup.cell (i := 3) rfl
        have q4 := S4.out.sup.cell (i := 4) rfl; have q5 := S4.out.sup.cell (i := 5) rfl; have q6 := S4.out.sup.cell (i := 6) rfl; have q7 := S4.out.sup.cell (i := 7) rfl
        have f0 := S4.out.res.frozen 0; have f1 := S4.out.res.frozen 1; have f2 := S4.out.res.frozen 2; have f3 := S4.out.res.frozen 3
        have f4 := S4.out.res.frozen 4; have f5 := S4.out.res.frozen 5; have f6 := S4.out.res.frozen 6; have f7 := S4.out.res.frozen 7
        have r0 := S4.out.res.cell (i := 0) rfl; have r1 := S4.out.res.cell (i := 1) rfl; have r2 := S4.out.res.cell (i := 2) rfl; have r3 := S4.out.res.cell (i := 3) rfl
        have r4 := S4.out.res.cell (i := 4) rfl; have r5 := S4.out.res.cell (i := 5) rfl; have r6 := S4.out.res.cell (i := 6) rfl; have r7 := S4.out.res.cell (i := 7) rfl
        go_wp2_with fail
        go_loopw [54] (fun y wr => ∃ k : Nat, k ≤ 8 ∧ y = .int .i64 k ∧ W2.take k = A.take k ∧ wr = w4) (fun y _ => 8 - (intOf y).toNat)
        case atStart => exact ⟨0, by omega, rfl, rfl, rfl⟩
        case round =>
          obtain ⟨k, hk, rfl, heq, rfl⟩ := hrel
          have HEQ := Lib.hid heq
          clear heq
          by_cases hlt : k < 8
          · have hlt' : (k : Int) < 8 := by omega
            obtain ⟨x, hx⟩ : ∃ x, A[k]? = some x := ⟨_, List.getElem?_eq_getElem (by rw [HL.out.1]; exact hlt)⟩
            obtain ⟨y, hy⟩ : ∃ x, W2[k]? = some x := ⟨_, List.getElem?_eq_getElem (by rw [HL.out.2]; exact hlt)⟩
            obtain ⟨_, a', c', e', _, hE⟩ := R4.out
            cases e'
            obtain ⟨eb, eo, rfl, hE2⟩ := rd_at hE (natsU_get hy)
            have c2 := hE2 _ _ (natsU_get hy)
            have c1 := (S4.out.bel.cell (p := ⟨sb, so + k, none⟩) hlt0).trans (HS.out k x hx)
            have HXY := Lib.hid (And.intro hx hy)
            clear hE hE2 hx hy
            by_cases hxy : x = y
            · have hb : ((x : Int) != (y : Int)) = false := by simp; omega
              have HE2 := Lib.hid hxy; clear hxy
              go_wp2_with fail
              go_roundw
              case rel => exact ⟨k + 1, by omega, by go_num, by rw [take_snoc_get _ _ _ HXY.out.1, take_snoc_get _ _ _ HXY.out.2, HEQ.out, HE2.out], by first | rfl | trivial⟩
              case measure => simp [intOf]; omega
            · have hb : ((x : Int) != (y : Int)) = true := by simp; omega
              obtain rfl : g = false := by
                rw [HG2.out]; simp
                intro h
                have h1 := HXY.out.1
                rw [← h, HXY.out.2] at h1
                exact hxy (Option.some.inj h1).symm
              have HE2 := Lib.hid hxy; clear hxy
              go_wp2_with fail
              refine bodyPost_ret (v := .tuple #[.agg #[.int .i64 0, .int .i64 0, .int .i64 0, .int .i64 0, .int .i64 0, .int .i64 0, .int .i64 0, .int .u64 0], .bool false]) (by simp [results, Tryd.results23, go_sem, r0, r1, r2, r3, r4, r5, r6, r7]) rfl ⟨rfl, ?_⟩
              exact below_set8 S4.out.bel (Nat.le_refl _) 0 _ _ _ _ _ _ _ _
          · obtain rfl : k = 8 := by omega
            obtain rfl : g = true := by
              rw [HG2.out]; simp
              have := HEQ.out
              rwa [List.take_of_length_le (by rw [HL.out.2]; omega), List.take_of_length_le (by rw [HL.out.1]; omega)] at this
            go_wp2_with fail
            refine bodyPost_ret (v := .tuple #[.agg #[.int .i64 (x1 : Int), .int .i64 (x2 : Int), .int .i64 (x3 : Int), .int .i64 (x7 : Int), .int .i64 (x4 : Int), .int .i64 (x5 : Int), .int .i64 (x6 : Int), .int .u64 (a1 : Int)], .bool true]) (by simp [results, Tryd.results23, go_sem, r0, r1, r2, r3, r4, r5, r6, r7]) rfl ⟨rfl, ?_⟩
            exact below_set8 S4.out.bel (Nat.le_refl _) 0 _ _ _ _ _ _ _ _
      · have d1 : (n : Int) < (x2 : Int) := by omega
        obtain rfl : g = false := by rw [HG.out]; simp [hlin]
        clear hlin
        go_wp2_with fail
        refine bodyPost_ret (v := .tuple #[.agg #[.int .i64 0, .int .i64 0, .int .i64 0, .int .i64 0, .int .i64 0, .int .i64 0, .int .i64 0, .int .u64 0], .bool false]) (by simp [results, Tryd.results23, go_sem, r0, r1, r2, r3, r4, r5, r6, r7]) rfl ⟨rfl, ?_⟩
        exact below_set8 S3.out.bel (Nat.le_refl _) 0 _ _ _ _ _ _ _ _
set_option maxRecDepth 100000 in
theorem good13_any (sv : Value) (A : List Nat) (hA : A.length = 8) (h64 : ∀ x ∈ A, x < 18446744073709551616) (n : Nat) (hs : RdSl w 1 sv 8 (natsU A)) :
    Calls Tryd.prog 23 #[sv, .int .i64 n] w fun r w' => r = .returned (.tuple #[.agg (decoded A n).cells, .bool (goodB A n)]) ∧ Below w.heap.size w w' := by
  obtain ⟨a0, a1, a2, a3, a4, a5, a6, a7, rfl⟩ : ∃ a0 a1 a2 a3 a4 a5 a6 a7, A = [a0, a1, a2, a3, a4, a5, a6, a7] := by
    match A, hA with
    | [a, b, c, d, e, f, g, h], _ => exact ⟨a, b, c, d, e, f, g, h, rfl⟩
  obtain ⟨_, sa, sc, rfl, hsc, h2⟩ := hs
  obtain ⟨sb, so, rfl, hE⟩ := rd_at h2 (k := 0) (u := .int .u64 a0) rfl
  have l1 : a1 < 18446744073709551616 := h64 a1 (by simp)
  have l2 : a2 < 18446744073709551616 := h64 a2 (by simp)
  have l3 : a3 < 18446744073709551616 := h64 a3 (by simp)
  have hf := Sup.dec_fits a1 a2 a3 l1 l2
  have hW := fun wx => words13_any (w := wx) (Sup.dec a1 a2 a3) hf
  have hV := fun wx => valid13_any (w := wx) (Sup.dec a1 a2 a3)
  rw [okR_eq] at hV
  have hg : goodB [a0, a1, a2, a3, a4, a5, a6, a7] n = ((Sup.dec a1 a2 a3).okB && decide (a2 / 65536 % 65536 ≤ n) && decide ((Sup.dec a1 a2 a3).words = [a0, a1, a2, a3, a4, a5, a6, a7])) := by
    unfold goodB
    rw [show Sup.of [a0, a1, a2, a3, a4, a5, a6, a7] = Sup.dec a1 a2 a3 from rfl]
    congr 2
    rw [decide_eq_decide]
    show ((a2 / 65536 % 65536 : Nat) : Int) ≤ (n : Int) ↔ _
    omega
  have pt : ∀ (x i : Nat) (y : Nat), x < 18446744073709551616 → i ≤ 3 → partV x i = y → ∀ wx, Calls Tryd.prog 50 #[.int .u64 (x : Int), .int .i64 (i : Int)] wx fun r w' => r = .returned (.int .i64 (y : Int)) ∧ wx = w' := fun x i y h1 h2 h3 wx => by
    rw [← h3]; exact part_any x i h1 h2
  have hc := good13_core (w := w) sb so sc a1 a2 a3 n (a2 % 65536) (a2 / 65536 % 65536) (a2 / 4294967296 % 65536) (a3 % 65536) (a3 / 65536 % 65536) (a3 / 4294967296 % 65536) (a2 / 281474976710656) (by omega) (by omega) (by omega) (by omega) (by omega) (by omega) (by omega)
    (Sup.dec a1 a2 a3).okB (goodB [a0, a1, a2, a3, a4, a5, a6, a7] n) [a0, a1, a2, a3, a4, a5, a6, a7] (Sup.dec a1 a2 a3).words rfl rfl h64 (fun j x hx => hE j _ (natsU_get hx)) rfl rfl rfl
    (pt a2 0 _ l2 (by omega) (by unfold partV; omega)) (pt a2 1 _ l2 (by omega) (by unfold partV; omega)) (pt a2 2 _ l2 (by omega) (by unfold partV; omega)) (pt a2 3 _ l2 (by omega) (by unfold partV; omega))
    (pt a3 0 _ l3 (by omega) (by unfold partV; omega)) (pt a3 1 _ l3 (by omega) (by unfold partV; omega)) (pt a3 2 _ l3 (by omega) (by unfold partV; omega)) hV hW hg
  refine hc.mono fun r w' hp => ?_
  obtain ⟨hr, hb⟩ := hp
  refine ⟨?_, hb⟩
  rw [hr]
  unfold decoded
  cases goodB [a0, a1, a2, a3, a4, a5, a6, a7] n
  · rfl
  · rfl
end
end Go.Proofs.YtbpaamnofkhonaaDoor
