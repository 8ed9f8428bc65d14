/- The walk of SuperblockCovers. -/
import Derived.Test.YtbpaamnofkhonaaDoorSbT
import Derived.Test.YtbpaamnofkhonaaDoorOpenSb
namespace Go.Proofs.YtbpaamnofkhonaaDoor
open Go.RowKit Go.Maps
attribute [local go_sem ↓] Go.wp_at_zero Go.wp_at_succ

theorem szL_bd {s : Sup} (h : s.Ok) (k : Nat) (hk : k < 9) : 0 ≤ (szL s).getD k 0 ∧ (szL s).getD k 0 ≤ 4096 := by
  by_cases h8 : k < 8
  · rw [zL_szL s k h8]; exact zL_bd h k h8
  · obtain rfl : k = 8 := by omega
    show 0 ≤ s.heap ∧ s.heap ≤ 4096
    have := h.l2; have := h.r1; have := h.u1; have := h.d1; have := h.q1; have := h.t1
    unfold Sup.heap Sup.rest; split <;> omega
theorem regL_all {s : Sup} (h : s.Ok) : regL s 9 ≤ s.lin ∧ s.lin - regL s 9 < 32 := by
  have h1 : regL s 9 = 2 + 8 + s.redo + s.und + s.desc + 1 + s.que + s.tab + s.heap := by
    show 0 + 2 + 8 + s.redo + s.und + s.desc + 1 + s.que + s.tab + s.heap = _
    omega
  have h2 := h.h
  rw [h1]
  unfold Sup.heap
  rw [if_neg (by omega)]
  unfold Sup.rest at *
  omega
section
variable {w : World}
structure Bx1 (w : World) (ver lin redo und desc que tab gen : Int) (wx : World) : Prop where
  a : Blk wx w.heap.size #[.int .i64 ver, .int .i64 lin, .int .i64 redo, .int .i64 und, .int .i64 desc, .int .i64 que, .int .i64 tab, .int .u64 gen] 24
  bel : Below w.heap.size w wx
theorem Bx1.next {ver lin redo und desc que tab gen : Int} {wx wy : World} (h : Bx1 w ver lin redo und desc que tab gen wx) (hb : Below wx.heap.size wx wy) : Bx1 w ver lin redo und desc que tab gen wy := ⟨h.a.below hb, h.bel.trans (hb.mono h.bel.size)⟩
theorem Bx1.start (ver lin redo und desc que tab gen : Int) : Bx1 w ver lin redo und desc que tab gen (w.alloc (.cells #[.int .i64 ver, .int .i64 lin, .int .i64 redo, .int .i64 und, .int .i64 desc, .int .i64 que, .int .i64 tab, .int .u64 gen] 24)) := ⟨Blk.new w _ _, below_alloc w _⟩
set_option maxRecDepth 100000 in
set_option maxHeartbeats 8000000 in
theorem superblockCovers_any (hN : Nib w) (s : Sup) (hi : s.I64) : Calls Tryd.prog 4 #[.agg s.cells] w fun e w' => e = .returned (.bool true) ∧ Below w.heap.size w w' := by
  have HNB := Lib.hid hN; clear hN
  have HRL := Lib.hid (fun wx => real_any (w := wx) s)
  have HV := Lib.hid (fun wx => valid_any (w := wx) s)
  have hl := hi.l
  by_cases hk : s.Ok
  · rw [Sup.okB_true hk] at HV
    have HRG := Lib.hid (fun (wx : World) (q : Nat) (h1 : 1 ≤ q) (h9 : q ≤ 9) => region_any (w := wx) s q hk h1 h9)
    have HS := Lib.hid (regL_succ s)
    have HZB := Lib.hid (szL_bd hk)
    have HRB := Lib.hid (regL_bd hk)
    have HAL := Lib.hid (regL_all hk)
    have HR0 : Hid (regL s 0 = 0) := rfl
    have hlb : 1 ≤ s.lin ∧ s.lin ≤ 4096 := ⟨hk.l1, hk.l2⟩
    generalize regL s = rg at *
    generalize szL s = sz at *
    obtain ⟨ver, lin, redo, und, desc, que, tab, gen⟩ := s
    unfold Sup.cells at *
    simp only at hlb HAL hl
    have X0 := Lib.hid (Bx1.start (w := w) ver lin redo und desc que tab gen)
    clear hk hi
    go_enter Tryd.func4, Tryd.ntmps4
    go_wp2_with fail
    (with_reducible refine (awake13 (HNB.out.below X0.out.bel)).mono ?_)
    rintro e w1 ⟨rfl, c1⟩
    have X1 := Lib.hid (X0.out.next c1)
    clear c1 X0
    have z0 : w1.cell? ⟨w.heap.size, 0, none⟩ = some (.int .i64 ver) := X1.out.a.cell rfl
    have z1 : w1.cell? ⟨w.heap.size, 1, none⟩ = some (.int .i64 lin) := X1.out.a.cell rfl
    have z2 : w1.cell? ⟨w.heap.size, 2, none⟩ = some (.int .i64 redo) := X1.out.a.cell rfl
    have z3 : w1.cell? ⟨w.heap.size, 3, none⟩ = some (.int .i64 und) := X1.out.a.cell rfl
    have z4 : w1.cell? ⟨w.heap.size, 4, none⟩ = some (.int .i64 desc) := X1.out.a.cell rfl
    have z5 : w1.cell? ⟨w.heap.size, 5, none⟩ = some (.int .i64 que) := X1.out.a.cell rfl
    have z6 : w1.cell? ⟨w.heap.size, 6, none⟩ = some (.int .i64 tab) := X1.out.a.cell rfl
    have z7 : w1.cell? ⟨w.heap.size, 7, none⟩ = some (.int .u64 gen) := X1.out.a.cell rfl
    go_wp2_with fail
    (with_reducible refine (HRL.out _).mono ?_)
    rintro e w2 ⟨rfl, c2⟩
    have X2 := Lib.hid (X1.out.next c2)
    clear c2 X1 z0 z1 z2 z3 z4 z5 z6 z7
    go_wp2_with fail
    (with_reducible refine (HV.out _).mono ?_)
    rintro e w3 ⟨rfl, c3⟩
    have X3 := Lib.hid (X2.out.next c3)
    clear c3 X2
    go_wp2_with fail
    go_loopw [3, 4] (fun x y wr => ∃ q : Nat, 1 ≤ q ∧ q ≤ 10 ∧ y = .int .u8 q ∧ x = .int .i64 (rg (q - 1)) ∧ Bx1 w ver lin redo und desc que tab gen wr) (fun _ y _ => 10 - (intOf y).toNat)
    case atStart => exact ⟨1, by omega, by omega, rfl, by rw [show 1 - 1 = 0 from rfl, HR0.out], X3.out⟩
    case round =>
      clear X3
      obtain ⟨q, h1, h10, rfl, rfl, hx⟩ := hrel
      have X := Lib.hid hx; clear hx
      by_cases hlt : q ≤ 9
      · have hlt' : (q : Int) ≤ 9 := by omega
        obtain ⟨m, hm⟩ : ∃ m, q - 1 = m := ⟨_, rfl⟩
        have HG := Lib.hid (fun wx => HRG.out wx q h1 hlt)
        rw [hm] at HG ⊢
        have hb := HRB.out m (by omega)
        have hz := HZB.out m (by omega)
        have HSK := Lib.hid (HS.out m (by omega))
        rw [show m + 1 = q by omega] at HSK
        generalize rg m = rk at *
        generalize sz.getD m 0 = zk at *
        have hne : ((rk : Int) != rk) = false := by simp
        have z0 : wr.cell? ⟨w.heap.size, 0, none⟩ = some (.int .i64 ver) := X.out.a.cell rfl
        have z1 : wr.cell? ⟨w.heap.size, 1, none⟩ = some (.int .i64 lin) := X.out.a.cell rfl
        have z2 : wr.cell? ⟨w.heap.size, 2, none⟩ = some (.int .i64 redo) := X.out.a.cell rfl
        have z3 : wr.cell? ⟨w.heap.size, 3, none⟩ = some (.int .i64 und) := X.out.a.cell rfl
        have z4 : wr.cell? ⟨w.heap.size, 4, none⟩ = some (.int .i64 desc) := X.out.a.cell rfl
        have z5 : wr.cell? ⟨w.heap.size, 5, none⟩ = some (.int .i64 que) := X.out.a.cell rfl
        have z6 : wr.cell? ⟨w.heap.size, 6, none⟩ = some (.int .i64 tab) := X.out.a.cell rfl
        have z7 : wr.cell? ⟨w.heap.size, 7, none⟩ = some (.int .u64 gen) := X.out.a.cell rfl
        go_wp2_with fail
        (with_reducible refine (HRL.out _).mono ?_)
        rintro e w4 ⟨rfl, c4⟩
        have X4 := Lib.hid (X.out.next c4)
        clear c4 X z0 z1 z2 z3 z4 z5 z6 z7
        go_wp2_with fail
        (with_reducible refine (HG.out _).mono ?_)
        rintro e w5 ⟨rfl, c5⟩
        have X5 := Lib.hid (X4.out.next c5)
        clear c5 X4
        go_wp2_with fail
        go_roundw
        case rel => exact ⟨q + 1, by omega, by omega, by go_num, by rw [show q + 1 - 1 = q by omega, HSK.out], X5.out⟩
        case measure => simp [intOf]; omega
      · obtain rfl : q = 10 := by omega
        have ha := HAL.out
        have hlin : wr.cell? ⟨w.heap.size, 1, none⟩ = some (.int .i64 lin) := X.out.a.cell rfl
        rw [show 10 - 1 = 9 from rfl, show ((10 : Nat) : Int) = 10 from rfl]
        generalize rg 9 = r9 at *
        obtain ⟨ha1, ha2⟩ := ha
        have hd : lin - r9 < 32 := ha2
        by_cases hlo : -9223372036854775808 ≤ r9
        · go_wp2_with fail
          go_ret
          exact ⟨rfl, X.out.bel⟩
        · exfalso; omega
  · rw [Sup.okB_false hk] at HV
    obtain ⟨ver, lin, redo, und, desc, que, tab, gen⟩ := s
    unfold Sup.cells at *
    have X0 := Lib.hid (Bx1.start (w := w) ver lin redo und desc que tab gen)
    clear hk hi hl
    go_enter Tryd.func4, Tryd.ntmps4
    go_wp2_with fail
    (with_reducible refine (awake13 (HNB.out.below X0.out.bel)).mono ?_)
    rintro e w1 ⟨rfl, c1⟩
    have X1 := Lib.hid (X0.out.next c1)
    clear c1 X0
    have z0 : w1.cell? ⟨w.heap.size, 0, none⟩ = some (.int .i64 ver) := X1.out.a.cell rfl
    have z1 : w1.cell? ⟨w.heap.size, 1, none⟩ = some (.int .i64 lin) := X1.out.a.cell rfl
    have z2 : w1.cell? ⟨w.heap.size, 2, none⟩ = some (.int .i64 redo) := X1.out.a.cell rfl
    have z3 : w1.cell? ⟨w.heap.size, 3, none⟩ = some (.int .i64 und) := X1.out.a.cell rfl
    have z4 : w1.cell? ⟨w.heap.size, 4, none⟩ = some (.int .i64 desc) := X1.out.a.cell rfl
    have z5 : w1.cell? ⟨w.heap.size, 5, none⟩ = some (.int .i64 que) := X1.out.a.cell rfl
    have z6 : w1.cell? ⟨w.heap.size, 6, none⟩ = some (.int .i64 tab) := X1.out.a.cell rfl
    have z7 : w1.cell? ⟨w.heap.size, 7, none⟩ = some (.int .u64 gen) := X1.out.a.cell rfl
    go_wp2_with fail
    (with_reducible refine (HRL.out _).mono ?_)
    rintro e w2 ⟨rfl, c2⟩
    have X2 := Lib.hid (X1.out.next c2)
    clear c2 X1 z0 z1 z2 z3 z4 z5 z6 z7
    go_wp2_with fail
    (with_reducible refine (HV.out _).mono ?_)
    rintro e w3 ⟨rfl, c3⟩
    have X3 := Lib.hid (X2.out.next c3)
    clear c3 X2
    go_wp2_with fail
    (with_reducible refine (awake13 (HNB.out.below X3.out.bel)).mono ?_)
    rintro e w4 ⟨rfl, c4⟩
    have X4 := Lib.hid (X3.out.next c4)
    clear c4 X3
    go_wp2_with fail
    go_ret
    exact ⟨rfl, X4.out.bel⟩
end
end Go.Proofs.YtbpaamnofkhonaaDoor
