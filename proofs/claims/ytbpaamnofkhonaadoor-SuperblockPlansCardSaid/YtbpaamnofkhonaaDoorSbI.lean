/- The reference's Present of layer 13. -/
import Derived.Test.YtbpaamnofkhonaaDoorSbN
namespace Go.Proofs.YtbpaamnofkhonaaDoor
open Go.RowKit Go.Maps
attribute [local go_sem ↓] Go.wp_at_zero Go.wp_at_succ

/-- Which of two copies is presented, and what it holds. -/
def prC (a b : Sup) (ga gb : Bool) : Int := if !ga && !gb then -1 else if gb && (!ga || decide (a.gen < b.gen)) then 1 else 0
def prS (a b : Sup) (ga gb : Bool) : Sup := if !ga && !gb then Sup.zero else if gb && (!ga || decide (a.gen < b.gen)) then b else a
section
variable {w : World}
/-- Present's boxes. -/
structure PrSt (w : World) (xb yb : Nat) (ca cb : Array Value) (wx : World) : Prop where
  res : Blk wx w.heap.size #[.int .i64 0, .int .i64 0, .int .i64 0, .int .i64 0, .int .i64 0, .int .i64 0, .int .i64 0, .int .u64 0] 26
  a : Blk wx xb ca 26
  b : Blk wx yb cb 26
  bel : Below w.heap.size w wx
set_option maxRecDepth 100000 in
set_option maxHeartbeats 4000000 in
theorem present_core (va vb : Value) (n : Nat) (a b : Sup) (ga gb : Bool)
    (ha : ∀ wx, Below w.heap.size w wx → Calls Tryd.prog 23 #[va, .int .i64 n] wx fun r w' => r = .returned (.tuple #[.agg a.cells, .bool ga]) ∧ Below wx.heap.size wx w')
    (hb : ∀ wx, Below w.heap.size w wx → Calls Tryd.prog 23 #[vb, .int .i64 n] wx fun r w' => r = .returned (.tuple #[.agg b.cells, .bool gb]) ∧ Below wx.heap.size wx w') :
    Calls Tryd.prog 21 #[va, vb, .int .i64 n] w fun r w' => r = .returned (.tuple #[.agg (prS a b ga gb).cells, .int .i64 (prC a b ga gb)]) ∧ Below w.heap.size w w' := by
  have HA := Lib.hid ha; have HB := Lib.hid hb; clear ha hb
  have HR : Hid (∃ rs rc, prS a b ga gb = rs ∧ prC a b ga gb = rc) := ⟨_, _, rfl, rfl⟩
  obtain ⟨rs, rc, hrs, hrc⟩ := HR.out
  rw [hrs, hrc]
  clear HR
  unfold prS at hrs
  unfold prC at hrc
  obtain ⟨av, al, ar, au, ad, aq, at', ag⟩ := a
  obtain ⟨bv, bl, br, bu, bd, bq, bt, bg⟩ := b
  unfold Sup.cells at *
  simp only at hrs hrc
  have HRS := Lib.hid hrs; have HRC := Lib.hid hrc; clear hrs hrc
  have B0 := Lib.hid (below_alloc w (.cells #[.int .i64 0, .int .i64 0, .int .i64 0, .int .i64 0, .int .i64 0, .int .i64 0, .int .i64 0, .int .u64 0] 26))
  have K0 := Lib.hid (Blk.new w #[.int .i64 0, .int .i64 0, .int .i64 0, .int .i64 0, .int .i64 0, .int .i64 0, .int .i64 0, .int .u64 0] 26)
  go_enter Tryd.func21, Tryd.ntmps21
  go_wp2_with fail
  (with_reducible refine (HA.out _ B0.out).mono ?_)
  rintro e w1 ⟨rfl, b1⟩
  have B1 := Lib.hid (B0.out.trans (b1.mono B0.out.size))
  have K1 := Lib.hid (K0.out.below b1)
  have B2 := Lib.hid (B1.out.trans ((below_alloc w1 (.cells #[.int .i64 av, .int .i64 al, .int .i64 ar, .int .i64 au, .int .i64 ad, .int .i64 aq, .int .i64 at', .int .u64 ag] 26)).mono B1.out.size))
  have N2 := Lib.hid (Blk.new w1 #[.int .i64 av, .int .i64 al, .int .i64 ar, .int .i64 au, .int .i64 ad, .int .i64 aq, .int .i64 at', .int .u64 ag] 26)
  have K2 := Lib.hid (K1.out.alloc (.cells #[.int .i64 av, .int .i64 al, .int .i64 ar, .int .i64 au, .int .i64 ad, .int .i64 aq, .int .i64 at', .int .u64 ag] 26))
  clear b1 K0 K1 B0 B1 HA
  go_wp2_with fail
  (with_reducible refine (HB.out _ B2.out).mono ?_)
  rintro e w3 ⟨rfl, b3⟩
  have B3 := Lib.hid (B2.out.trans (b3.mono B2.out.size))
  have K3 := Lib.hid (K2.out.below b3)
  have N3 := Lib.hid (N2.out.below b3)
  have P4 : Hid (PrSt w w1.heap.size w3.heap.size #[.int .i64 av, .int .i64 al, .int .i64 ar, .int .i64 au, .int .i64 ad, .int .i64 aq, .int .i64 at', .int .u64 ag] #[.int .i64 bv, .int .i64 bl, .int .i64 br, .int .i64 bu, .int .i64 bd, .int .i64 bq, .int .i64 bt, .int .u64 bg] (w3.alloc (.cells #[.int .i64 bv, .int .i64 bl, .int .i64 br, .int .i64 bu, .int .i64 bd, .int .i64 bq, .int .i64 bt, .int .u64 bg] 26))) :=
    ⟨K3.out.alloc _, N3.out.alloc _, Blk.new _ _ _, B3.out.trans ((below_alloc w3 _).mono B3.out.size)⟩
  clear b3 K2 N2 B2 HB K3 N3 B3
  have y0 := P4.out.b.cell (i := 0) rfl; have y1 := P4.out.b.cell (i := 1) rfl; have y2 := P4.out.b.cell (i := 2) rfl; have y3 := P4.out.b.cell (i := 3) rfl
  have y4 := P4.out.b.cell (i := 4) rfl; have y5 := P4.out.b.cell (i := 5) rfl; have y6 := P4.out.b.cell (i := 6) rfl; have y7 := P4.out.b.cell (i := 7) rfl
  have x0 := P4.out.a.cell (i := 0) rfl; have x1 := P4.out.a.cell (i := 1) rfl; have x2 := P4.out.a.cell (i := 2) rfl; have x3 := P4.out.a.cell (i := 3) rfl
  have x4 := P4.out.a.cell (i := 4) rfl; have x5 := P4.out.a.cell (i := 5) rfl; have x6 := P4.out.a.cell (i := 6) rfl; have x7 := P4.out.a.cell (i := 7) rfl
  have f0 := P4.out.res.frozen 0; have f1 := P4.out.res.frozen 1; have f2 := P4.out.res.frozen 2; have f3 := P4.out.res.frozen 3
  have f4 := P4.out.res.frozen 4; have f5 := P4.out.res.frozen 5; have f6 := P4.out.res.frozen 6; have f7 := P4.out.res.frozen 7
  have r0 := P4.out.res.cell (i := 0) rfl; have r1 := P4.out.res.cell (i := 1) rfl; have r2 := P4.out.res.cell (i := 2) rfl; have r3 := P4.out.res.cell (i := 3) rfl
  have r4 := P4.out.res.cell (i := 4) rfl; have r5 := P4.out.res.cell (i := 5) rfl; have r6 := P4.out.res.cell (i := 6) rfl; have r7 := P4.out.res.cell (i := 7) rfl
  generalize w1.heap.size = xb at *
  cases ga
  · cases gb
    · obtain rfl := HRS.out
      obtain rfl := HRC.out
      go_wp2_with fail
      refine bodyPost_ret (v := .tuple #[.agg #[.int .i64 0, .int .i64 0, .int .i64 0, .int .i64 0, .int .i64 0, .int .i64 0, .int .i64 0, .int .u64 0], .int .i64 (-1)]) (by simp [results, Tryd.results21, go_sem, r0, r1, r2, r3, r4, r5, r6, r7]) rfl ⟨rfl, ?_⟩
      exact below_set8 P4.out.bel (Nat.le_refl _) 0 _ _ _ _ _ _ _ _
    · obtain rfl := HRS.out
      obtain rfl := HRC.out
      go_wp2_with fail
      refine bodyPost_ret (v := .tuple #[.agg #[.int .i64 bv, .int .i64 bl, .int .i64 br, .int .i64 bu, .int .i64 bd, .int .i64 bq, .int .i64 bt, .int .u64 bg], .int .i64 1]) (by simp [results, Tryd.results21, go_sem, r0, r1, r2, r3, r4, r5, r6, r7]) rfl ⟨rfl, ?_⟩
      exact below_set8 P4.out.bel (Nat.le_refl _) 0 _ _ _ _ _ _ _ _
  · cases gb
    · obtain rfl := HRS.out
      obtain rfl := HRC.out
      go_wp2_with fail
      refine bodyPost_ret (v := .tuple #[.agg #[.int .i64 av, .int .i64 al, .int .i64 ar, .int .i64 au, .int .i64 ad, .int .i64 aq, .int .i64 at', .int .u64 ag], .int .i64 0]) (by simp [results, Tryd.results21, go_sem, r0, r1, r2, r3, r4, r5, r6, r7]) rfl ⟨rfl, ?_⟩
      exact below_set8 P4.out.bel (Nat.le_refl _) 0 _ _ _ _ _ _ _ _
    · by_cases hg : ag < bg
      · have hd : decide (ag < bg) = true := by simpa using hg
        simp only [hd] at HRS HRC
        obtain rfl := HRS.out
        obtain rfl := HRC.out
        go_wp2_with fail
        refine bodyPost_ret (v := .tuple #[.agg #[.int .i64 bv, .int .i64 bl, .int .i64 br, .int .i64 bu, .int .i64 bd, .int .i64 bq, .int .i64 bt, .int .u64 bg], .int .i64 1]) (by simp [results, Tryd.results21, go_sem, r0, r1, r2, r3, r4, r5, r6, r7]) rfl ⟨rfl, ?_⟩
        exact below_set8 P4.out.bel (Nat.le_refl _) 0 _ _ _ _ _ _ _ _
      · have hd : decide (ag < bg) = false := by simpa using hg
        simp only [hd] at HRS HRC
        obtain rfl := HRS.out
        obtain rfl := HRC.out
        go_wp2_with fail
        refine bodyPost_ret (v := .tuple #[.agg #[.int .i64 av, .int .i64 al, .int .i64 ar, .int .i64 au, .int .i64 ad, .int .i64 aq, .int .i64 at', .int .u64 ag], .int .i64 0]) (by simp [results, Tryd.results21, go_sem, r0, r1, r2, r3, r4, r5, r6, r7]) rfl ⟨rfl, ?_⟩
        exact below_set8 P4.out.bel (Nat.le_refl _) 0 _ _ _ _ _ _ _ _
/-- Present of two copies of words. -/
theorem present_any (va vb : Value) (A B : List Nat) (n : Nat) (hA : A.length = 8) (hB : B.length = 8) (ha64 : ∀ x ∈ A, x < 18446744073709551616) (hb64 : ∀ x ∈ B, x < 18446744073709551616)
    (ha : RdSl w 1 va 8 (natsU A)) (hb : RdSl w 1 vb 8 (natsU B)) :
    Calls Tryd.prog 21 #[va, vb, .int .i64 n] w fun r w' => r = .returned (.tuple #[.agg (prS (decoded A n) (decoded B n) (goodB A n) (goodB B n)).cells, .int .i64 (prC (decoded A n) (decoded B n) (goodB A n) (goodB B n))]) ∧ Below w.heap.size w w' :=
  present_core va vb n (decoded A n) (decoded B n) (goodB A n) (goodB B n) (fun _ h => good13_any va A hA ha64 n (ha.below h)) (fun _ h => good13_any vb B hB hb64 n (hb.below h))
end
end Go.Proofs.YtbpaamnofkhonaaDoor
