/- The walks of the superblock's Open. -/
import Derived.Test.YtbpaamnofkhonaaDoorSbG
namespace Go.Proofs.YtbpaamnofkhonaaDoor
open Go.RowKit Go.Maps
attribute [local go_sem ↓] Go.wp_at_zero Go.wp_at_succ

/-- What the copies' cells are like. -/
structure CpA (A : Array Value) : Prop where
  sz : 18 = A.size
  one : A.all (·.oneCell') = true
  info : (Tryd.prog.info? 99).map (·.size) = some A.size
theorem ldA_cpA (C : Nat → Int) (n : Nat) : CpA (ldA C n 2) := by
  have h1 : 18 = (ldA C n 2).size := rfl
  refine ⟨h1, ?_, by rw [← h1]; kernel_rfl⟩
  show (cpsA _ _ _ _).all (·.oneCell') = true
  simp [cpsA, Value.oneCell']
theorem cpA_alloc {w w1 : World} {A : Array Value} (hB : Below w.heap.size w w1) (h1 : w.heap.size ≤ w1.heap.size) : ∃ w2, (w1.alloc (.cells #[.int .i64 0, .int .i64 0, .int .i64 0, .int .i64 0, .int .i64 0, .int .i64 0, .int .i64 0, .int .u64 0, .int .i64 0, .int .i64 0, .int .i64 0, .int .i64 0, .int .i64 0, .int .i64 0, .int .i64 0, .int .u64 0, .bool false, .bool false] 99)).setRow w1.heap.size A = w2 ∧ Blk w2 w1.heap.size A 99 ∧ Below w1.heap.size w1 w2 :=
  ⟨_, rfl, setRow_heap _ _ _ A 99 (0, 0) (Blk.new w1 _ _), below_setRow (below_alloc w1 _) (Nat.le_refl _) A⟩
section
variable {w : World} {v : DV} {own : Nat → Option Role} {D : Dev} {j : Nat}
/-- What Open answers on a device that is on. -/
def opS (C : Nat → Int) (n : Nat) : Sup := if newG C n then newS C n else Sup.zero
def opE (C : Nat → Int) (n : Nat) : Int := if newG C n then 0 else 10
set_option maxRecDepth 100000 in
set_option maxHeartbeats 8000000 in
theorem sbOpen_any (hN : Nib w) (h : IsDev w v own D) (hj : j < 8) (hof : D.off = false) (he : D.err j = 0) (hvb : D.VB) (hn : 2 ≤ D.n) :
    Calls Tryd.prog 19 #[.iface 49 (.pointer (some ⟨v.tb j, 0, none⟩))] w fun r w' => r = .returned (.tuple #[.agg (opS D.cur D.n).cells, .int .i64 (opE D.cur D.n)]) ∧ Below w.heap.size w w' := by
  have H := Lib.hid h; have HNB := Lib.hid hN
  have hus := fun wx (hx : IsDev wx v own D) => usable_any hx hj hn
  rw [he] at hus
  have HU := Lib.hid hus
  have hld := fun wx (hx : IsDev wx v own D) (hnx : Nib wx) => sbload_any hnx hx hj hof hvb hn
  rw [he] at hld
  have HLD := Lib.hid hld
  have HCA := Lib.hid (ldA_cpA D.cur D.n)
  have HNW := Lib.hid (fun (wx : World) => newest_any (w := wx) (cpS D.cur D.n 0) (cpS D.cur D.n 1) (cpG D.cur D.n 0) (cpG D.cur D.n 1) (newA D.cur D.n) (newG D.cur D.n) rfl rfl)
  have HAA : Hid (ldA D.cur D.n 2 = cpsA (cpS D.cur D.n 0) (cpS D.cur D.n 1) (cpG D.cur D.n 0) (cpG D.cur D.n 1)) := rfl
  rw [← HAA.out] at HNW
  have B2 := Lib.hid (below_alloc w (.cells #[.int .i64 0, .int .i64 0, .int .i64 0, .int .i64 0, .int .i64 0, .int .i64 0, .int .i64 0, .int .u64 0] 29))
  have RB := Lib.hid (Blk.new w #[.int .i64 0, .int .i64 0, .int .i64 0, .int .i64 0, .int .i64 0, .int .i64 0, .int .i64 0, .int .u64 0] 29)
  generalize ldA D.cur D.n 2 = A at *
  clear h hN hvb hus hld
  go_enter Tryd.func19, Tryd.ntmps19
  go_wp2_with fail
  (with_reducible refine (HU.out _ (H.out.alloc _)).mono ?_)
  rintro e w' ⟨rfl, rfl⟩
  go_wp2_with fail
  (with_reducible refine (HLD.out _ (H.out.alloc _) (HNB.out.below B2.out)).mono ?_)
  rintro e w1 ⟨rfl, b1⟩
  have R1 := Lib.hid (RB.out.below b1)
  have B1 := Lib.hid (B2.out.trans (b1.mono B2.out.size))
  have hsz1 : w.heap.size < w1.heap.size := R1.out.lt
  clear b1 RB B2 HU HLD
  obtain ⟨w2, hw2, k2, b2⟩ := cpA_alloc (A := A) B1.out (by omega)
  have K2 := Lib.hid k2
  have R2 := Lib.hid (R1.out.below b2)
  have B3 := Lib.hid (B1.out.trans (b2.mono B1.out.size))
  clear k2 b2
  go_wp2_with (first | (refine wpList_store_row rfl 99 (.tmp 5) (.tmp 18) rfl w1.heap.size A rfl rfl 99 #[.int .i64 0, .int .i64 0, .int .i64 0, .int .i64 0, .int .i64 0, .int .i64 0, .int .i64 0, .int .u64 0, .int .i64 0, .int .i64 0, .int .i64 0, .int .i64 0, .int .i64 0, .int .i64 0, .int .i64 0, .int .u64 0, .bool false, .bool false] (Blk.new w1 _ _) HCA.out.info HCA.out.sz HCA.out.one ?_; rw [hw2]) | (refine wpList_load_row rfl 99 (.tmp 5) rfl w1.heap.size rfl 99 A (0, 0) _ K2.out Tryd.underlying99 rfl HCA.out.info ?_))
  (with_reducible refine (HNW.out _).mono ?_)
  rintro e w3 ⟨rfl, b3⟩
  have K3 := Lib.hid (K2.out.below b3)
  have R3 := Lib.hid (R2.out.below b3)
  have B4 := Lib.hid (B3.out.trans (b3.mono B3.out.size))
  clear b3 HNW hw2 K2 R2 B3 R1 B1
  generalize w1.heap.size = cb at *
  have s0 := R3.out.cell (i := 0) (v := .int .i64 0) rfl; have s1 := R3.out.cell (i := 1) (v := .int .i64 0) rfl; have s2 := R3.out.cell (i := 2) (v := .int .i64 0) rfl; have s3 := R3.out.cell (i := 3) (v := .int .i64 0) rfl
  have s4 := R3.out.cell (i := 4) (v := .int .i64 0) rfl; have s5 := R3.out.cell (i := 5) (v := .int .i64 0) rfl; have s6 := R3.out.cell (i := 6) (v := .int .i64 0) rfl; have s7 := R3.out.cell (i := 7) (v := .int .u64 0) rfl
  have f0 := R3.out.frozen 0; have f1 := R3.out.frozen 1; have f2 := R3.out.frozen 2; have f3 := R3.out.frozen 3; have f4 := R3.out.frozen 4; have f5 := R3.out.frozen 5; have f6 := R3.out.frozen 6; have f7 := R3.out.frozen 7
  cases hG : newG D.cur D.n
  · have HS : Hid (opS D.cur D.n = Sup.zero ∧ opE D.cur D.n = 10) := ⟨by unfold opS; rw [hG]; rfl, by unfold opE; rw [hG]; rfl⟩
    clear hG
    go_wp2_with fail
    refine bodyPost_ret (v := .tuple #[.agg #[.int .i64 0, .int .i64 0, .int .i64 0, .int .i64 0, .int .i64 0, .int .i64 0, .int .i64 0, .int .u64 0], .int .i64 10]) (by simp [results, Tryd.results19, go_sem, s0, s1, s2, s3, s4, s5, s6, s7]) rfl ⟨by rw [HS.out.1, HS.out.2]; rfl, ?_⟩
    exact below_set8 B4.out (Nat.le_refl _) 0 _ _ _ _ _ _ _ _
  · have HS : Hid (opS D.cur D.n = newS D.cur D.n ∧ opE D.cur D.n = 0) := ⟨by unfold opS; rw [hG]; rfl, by unfold opE; rw [hG]; rfl⟩
    clear hG
    obtain ⟨q, hq⟩ : ∃ q, newA D.cur D.n = q := ⟨_, rfl⟩
    have hS : newS D.cur D.n = cpS D.cur D.n q := by unfold newS; rw [hq]
    have hq1 : q = 0 ∨ q = 1 := by rw [← hq]; unfold newA; split <;> simp
    rw [hq]
    have HSS := Lib.hid hS
    have HAE := Lib.hid (HAA.out)
    clear hq hS HAA
    obtain rfl | rfl := hq1
    · obtain ⟨z0, z1, z2, z3, z4, z5, z6, z7, hz⟩ := Sup.ex (cpS D.cur D.n 0)
      have K4 := K3.out
      rw [HAE.out, hz] at K4
      have HZ := Lib.hid hz
      have c0 : w3.cell? ⟨cb, 0, none⟩ = some (.int .i64 z0) := K4.cell rfl
      have c1 : w3.cell? ⟨cb, 1, none⟩ = some (.int .i64 z1) := K4.cell rfl
      have c2 : w3.cell? ⟨cb, 2, none⟩ = some (.int .i64 z2) := K4.cell rfl
      have c3 : w3.cell? ⟨cb, 3, none⟩ = some (.int .i64 z3) := K4.cell rfl
      have c4 : w3.cell? ⟨cb, 4, none⟩ = some (.int .i64 z4) := K4.cell rfl
      have c5 : w3.cell? ⟨cb, 5, none⟩ = some (.int .i64 z5) := K4.cell rfl
      have c6 : w3.cell? ⟨cb, 6, none⟩ = some (.int .i64 z6) := K4.cell rfl
      have c7 : w3.cell? ⟨cb, 7, none⟩ = some (.int .u64 z7) := K4.cell rfl
      clear K4 hz K3
      rw [show ((0 : Nat) : Int) = 0 from rfl]
      go_wp2_with fail
      refine bodyPost_ret (v := .tuple #[.agg #[.int .i64 z0, .int .i64 z1, .int .i64 z2, .int .i64 z3, .int .i64 z4, .int .i64 z5, .int .i64 z6, .int .u64 z7], .int .i64 0]) (by simp [results, Tryd.results19, go_sem, s0, s1, s2, s3, s4, s5, s6, s7]) rfl ⟨by rw [HS.out.1, HS.out.2, HSS.out, HZ.out]; rfl, ?_⟩
      exact below_set8 B4.out (Nat.le_refl _) 0 _ _ _ _ _ _ _ _
    · obtain ⟨z0, z1, z2, z3, z4, z5, z6, z7, hz⟩ := Sup.ex (cpS D.cur D.n 1)
      have K4 := K3.out
      rw [HAE.out, hz] at K4
      have HZ := Lib.hid hz
      have c0 : w3.cell? ⟨cb, 8, none⟩ = some (.int .i64 z0) := K4.cell rfl
      have c1 : w3.cell? ⟨cb, 9, none⟩ = some (.int .i64 z1) := K4.cell rfl
      have c2 : w3.cell? ⟨cb, 10, none⟩ = some (.int .i64 z2) := K4.cell rfl
      have c3 : w3.cell? ⟨cb, 11, none⟩ = some (.int .i64 z3) := K4.cell rfl
      have c4 : w3.cell? ⟨cb, 12, none⟩ = some (.int .i64 z4) := K4.cell rfl
      have c5 : w3.cell? ⟨cb, 13, none⟩ = some (.int .i64 z5) := K4.cell rfl
      have c6 : w3.cell? ⟨cb, 14, none⟩ = some (.int .i64 z6) := K4.cell rfl
      have c7 : w3.cell? ⟨cb, 15, none⟩ = some (.int .u64 z7) := K4.cell rfl
      clear K4 hz K3
      rw [show ((1 : Nat) : Int) = 1 from rfl]
      go_wp2_with fail
      refine bodyPost_ret (v := .tuple #[.agg #[.int .i64 z0, .int .i64 z1, .int .i64 z2, .int .i64 z3, .int .i64 z4, .int .i64 z5, .int .i64 z6, .int .u64 z7], .int .i64 0]) (by simp [results, Tryd.results19, go_sem, s0, s1, s2, s3, s4, s5, s6, s7]) rfl ⟨by rw [HS.out.1, HS.out.2, HSS.out, HZ.out]; rfl, ?_⟩
      exact below_set8 B4.out (Nat.le_refl _) 0 _ _ _ _ _ _ _ _
end
end Go.Proofs.YtbpaamnofkhonaaDoor
