/- The walks of the law's protocol 'small' and of Without. -/
import Derived.Test.YtahpadhejjlpoaaGreatDoorR54B
import Derived.Test.YtahpadhejjlpoaaGreatDoorDevN
namespace Go.Proofs.YtahpadhejjlpoaaGreatDoor
open Go.RowKit Go.Maps
attribute [local go_sem ↓] Go.wp_at_zero Go.wp_at_succ

/-- A program whose flushes and fences bear no values. -/
def Plain54 (q : List (Nat × Nat × Int)) : Prop := ∀ e ∈ q, (e.1 = 2 → e.2.2 = 0) ∧ (e.1 = 3 → e.2.1 = 0 ∧ e.2.2 = 0)
section
variable {w : World} {v : DV} {own : Nat → Option Role} {D : Dev}
theorem meth_smSetup (pv : Value) (w : World) : (method 451 44 (.agg #[pv]) "Setup").run Tryz.prog w = .ok (262, .agg #[pv]) w := by kernel_rfl
theorem meth_smProgram (pv : Value) (w : World) : (method 451 44 (.agg #[pv]) "Program").run Tryz.prog w = .ok (261, .agg #[pv]) w := by kernel_rfl
theorem meth_smGood (pv : Value) (w : World) : (method 451 44 (.agg #[pv]) "Good").run Tryz.prog w = .ok (260, .agg #[pv]) w := by kernel_rfl
theorem smSetup_any (a : Option Addr) (m c db : Nat) : Calls Tryz.prog 262 #[.agg #[.slice a m c], .pointer (some ⟨db, 0, none⟩)] w fun r w' => r = .returned (.int .i64 0) ∧ Below w.heap.size w w' := by
  go_enter Tryz.func262, Tryz.ntmps262
  go_wp2_with fail
  go_ret
  exact ⟨rfl, below_alloc _ _⟩
theorem bytesRd {g n : Nat} {F : Nat → Int} (h : Row w g (64 * n) 5 (fun i => .int .u8 (byteAt F i))) : RdSl w 1 (.slice (some ⟨g, 0, none⟩) (64 * n) (64 * n)) (64 * n) (bytesL F (64 * n)) := by
  refine ⟨by simp [bytesL], _, _, rfl, Nat.le_refl _, .inr ⟨g, 0, rfl, fun j u hu => ?_⟩⟩
  have hj : j < 64 * n := by
    rcases Nat.lt_or_ge j (64 * n) with h | h
    · exact h
    · rw [List.getElem?_eq_none (by simpa [bytesL] using h)] at hu; cases hu
  rw [bytesL_get F hj] at hu
  cases hu
  rw [Nat.zero_add, h.cell hj]
set_option maxHeartbeats 1000000 in
theorem smGood_any (h : IsDev w v own D) (hvb : D.VB) (h3 : 3 ≤ D.n) (a : Option Addr) (m c : Nat) (e : Bool) :
    Calls Tryz.prog 260 #[.agg #[.slice a m c], .pointer (some ⟨v.db, 0, none⟩), .bool e] w fun r w' => r = .returned (.bool (goodF D.pers e)) ∧ Below w.heap.size w w' := by
  have hn := h.wf.le
  have HP := Lib.hid (fun o => persisted_any (h.alloc o) hvb)
  have HG := Lib.hid (fun (wx : World) (g : Nat) (hr : Row wx g (64 * D.n) 5 (fun i => .int .u8 (byteAt D.pers i))) => r54Good_any _ _ _ (bytesRd hr) (by omega) (by omega) hvb.pers e)
  clear h hvb
  go_enter Tryz.func260, Tryz.ntmps260
  go_wp2_with fail
  (with_reducible refine (HP.out _).mono ?_)
  rintro r w1 ⟨rfl, r1, b1⟩
  rw [World.size_alloc] at r1
  have HG1 := Lib.hid (HG.out _ _ r1)
  have B1 := Lib.hid ((below_alloc w _).trans (b1.mono (by simp)))
  clear r1 b1 HP HG
  go_wp2_with fail
  (with_reducible refine HG1.out.mono ?_)
  rintro r w2 ⟨rfl, rfl⟩
  go_wp2_with fail
  go_ret
  exact ⟨rfl, B1.out⟩
structure PgSt (w : World) (q : List (Nat × Nat × Int)) (k : Nat) (sv : Value) (wr : World) : Prop where
  acc : Acc w w.heap.size wr 87 3 sv k (instrC (q.take k))
theorem PgSt.add {q : List (Nat × Nat × Int)} {k : Nat} {sv : Value} {wz : World} {e : Nat × Nat × Int} {x : List Value} (he : q[k]? = some e) (hx : instrC [e] = x) (h : Acc w w.heap.size wz 87 3 sv (k + 1) (instrC (q.take k) ++ x)) : PgSt w q (k + 1) sv wz := by
  refine ⟨?_⟩
  rw [List.take_add_one, he]
  show Acc _ _ _ _ _ _ _ (instrC (q.take k ++ [e]))
  rw [instrC_append, hx]
  exact h
set_option maxRecDepth 100000 in
set_option maxHeartbeats 8000000 in
theorem smProgram_any (pv : Value) (q : List (Nat × Nat × Int)) (h : RdSl w 3 pv q.length (refP q)) (hq : ∀ e ∈ q, 1 ≤ e.1 ∧ e.1 ≤ 3) (hpl : Plain54 q) (hl : q.length ≤ 100000) (tv : Value) :
    Calls Tryz.prog 261 #[.agg #[pv], tv] w fun r w' => ∃ sv, r = .returned (.tuple #[sv, .int .i64 0]) ∧ Acc w w.heap.size w' 87 3 sv q.length (instrC q) := by
  obtain ⟨i0, hi0, hz0, hz1, hz2⟩ := info_parts infoInstr
  have I := Lib.hid (And.intro hi0 (And.intro hz0 (And.intro hz1 hz2))); clear hi0 hz0 hz1 hz2
  have H := Lib.hid h; have HQ := Lib.hid hq; have HPL := Lib.hid hpl
  obtain ⟨_, a, c, rfl, hc, _⟩ := h
  obtain ⟨m, hm⟩ : ∃ m, q.length = m := ⟨_, rfl⟩
  have HM := Lib.hid hm
  rw [hm] at H hl hc ⊢
  have HALL : Hid (q.take m = q) := by show q.take m = q; rw [← hm, List.take_length]
  have hwl := fun k => List.length_take_le k q
  have HB := Lib.hid (Blk.new w #[.slice a m c] 44)
  have P0 : Hid (PgSt w q 0 (.slice none 0 0) (w.alloc (.cells #[.slice a m c] 44))) := ⟨Acc.nil w _ _ _ _ (below_alloc w _) (by simp)⟩
  clear hq hm hpl
  go_enter Tryz.func261, Tryz.ntmps261
  go_wp2_with fail
  go_loopw [6, 12] (fun sv y wr => ∃ k : Nat, k ≤ m ∧ y = .int .i64 k ∧ PgSt w q k sv wr) (fun _ y _ => m - (intOf y).toNat)
  case atStart => exact ⟨0, by omega, rfl, P0.out⟩
  case round =>
    clear P0
    obtain ⟨k, hk, rfl, hst⟩ := hrel
    rename World => wr
    obtain ⟨la, lc, hsv⟩ := hst.acc.slice
    subst hsv
    have A2 := Lib.hid hst.acc
    clear hst
    by_cases hlt : k < m
    · have hlt' : (k : Int) < m := by omega
      obtain ⟨e, hge⟩ : ∃ e, q[k]? = some e := ⟨_, List.getElem?_eq_getElem (by rw [HM.out]; omega)⟩
      obtain ⟨_, a', c', e', _, hE⟩ := H.out.below A2.out.bel
      cases e'
      have hg := refP_get q k e hge
      obtain ⟨fb, fo, rfl, hE2⟩ := rd_at hE hg.1
      have c1 := hE2 _ _ hg.1; have c2 := hE2 _ _ hg.2.1; have c3 := hE2 _ _ hg.2.2
      rw [← Nat.add_assoc] at c2 c3
      obtain ⟨o1, o2⟩ := HQ.out e (List.mem_of_getElem? hge)
      have hpl := HPL.out e (List.mem_of_getElem? hge)
      have SA := Lib.hid (fun (v : Value) (wz : World) (x : List Value) => PgSt.add (w := w) (sv := v) (wz := wz) (x := x) hge)
      obtain ⟨e1, e2, e3⟩ := e
      simp only at o1 o2 c1 c2 c3 hpl SA
      clear hE hE2 hge hg
      obtain ⟨ws, hws⟩ : ∃ ws, instrC (q.take k) = ws := ⟨_, rfl⟩
      rw [hws] at SA A2
      clear hws
      obtain rfl | rfl | rfl : e1 = 1 ∨ e1 = 2 ∨ e1 = 3 := by omega
      · rw [show (((1 : Nat) : Int) - 1) = 0 from rfl] at c1
        go_wp2_with (at_builtin; refine wpList_append_sl _ rfl _ _ 47 rfl 87 i0 _ 3 24 Tryz.underlying47 I.out.1 I.out.2.1 I.out.2.2.1 I.out.2.2.2 rfl (by decide) _ k ws rfl (by exact (A2.out.own.alloc _).alloc _) _ 1 [.int .u8 1, .int .u64 e2, .int .u64 e3] rfl (by exact RdSl.newAt _ _ _ 3 1 _ (by simp) rfl) (three_one _ _ _ rfl rfl rfl) (by unfold maxLen; omega) (by omega) ?_)
        intro v1 w3 o1 g1 b1 n1
        have A3 := Lib.hid (A2.out.next (below_twice _ _ _) o1 g1 b1 (by first | simp | omega)); clear o1 g1 b1 n1
        go_wp2_with fail
        go_roundw
        case rel => exact ⟨k + 1, by omega, by go_num, SA.out _ _ _ rfl A3.out⟩
        case measure => simp [intOf]; omega
      · rw [show (((2 : Nat) : Int) - 1) = 1 from rfl] at c1
        have h0 := hpl.1 rfl
        subst h0
        go_wp2_with (at_builtin; refine wpList_append_sl _ rfl _ _ 47 rfl 87 i0 _ 3 24 Tryz.underlying47 I.out.1 I.out.2.1 I.out.2.2.1 I.out.2.2.2 rfl (by decide) _ k ws rfl (by exact (A2.out.own.alloc _).alloc _) _ 1 [.int .u8 2, .int .u64 e2, .int .u64 0] rfl (by exact RdSl.newAt _ _ _ 3 1 _ (by simp) rfl) (three_one _ _ _ rfl rfl rfl) (by unfold maxLen; omega) (by omega) ?_)
        intro v1 w3 o1 g1 b1 n1
        have A3 := Lib.hid (A2.out.next (below_twice _ _ _) o1 g1 b1 (by first | simp | omega)); clear o1 g1 b1 n1
        go_wp2_with fail
        go_roundw
        case rel => exact ⟨k + 1, by omega, by go_num, SA.out _ _ _ rfl A3.out⟩
        case measure => simp [intOf]; omega
      · rw [show (((3 : Nat) : Int) - 1) = 2 from rfl] at c1
        obtain ⟨h1, h2⟩ := hpl.2 rfl
        subst h1; subst h2
        go_wp2_with (at_builtin; refine wpList_append_sl _ rfl _ _ 47 rfl 87 i0 _ 3 24 Tryz.underlying47 I.out.1 I.out.2.1 I.out.2.2.1 I.out.2.2.2 rfl (by decide) _ k ws rfl (by exact (A2.out.own.alloc _).alloc _) _ 1 [.int .u8 3, .int .u64 0, .int .u64 0] rfl (by exact RdSl.newAt _ _ _ 3 1 _ (by simp) rfl) (three_one _ _ _ rfl rfl rfl) (by unfold maxLen; omega) (by omega) ?_)
        intro v1 w3 o1 g1 b1 n1
        have A3 := Lib.hid (A2.out.next (below_twice _ _ _) o1 g1 b1 (by first | simp | omega)); clear o1 g1 b1 n1
        go_wp2_with fail
        go_roundw
        case rel => exact ⟨k + 1, by omega, by go_num, SA.out _ _ _ rfl A3.out⟩
        case measure => simp [intOf]; omega
    · obtain rfl : k = m := by omega
      go_wp2_with fail
      go_ret2
      exact ⟨_, rfl, A2.out.congr rfl (by rw [HALL.out])⟩
end
end Go.Proofs.YtahpadhejjlpoaaGreatDoor
