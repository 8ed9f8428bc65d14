/- The walk of awake. -/
import Derived.Test.YtokgplgdaememaaDoorUndY
import Derived.Test.YtokgplgdaememaaDoorEqS
namespace Go.Proofs.YtokgplgdaememaaDoor
open Go.RowKit Go.Maps
attribute [local go_sem ↓] Go.wp_at_zero Go.wp_at_succ

/-- A log over a device, both made since w. -/
structure LSt (w : World) (v : DV) (own : Nat → Option Role) (D : Dev) (lb j off n : Nat) (wc : World) : Prop where
  log : LogAt wc v own D lb j off n
  ob : ∀ k, own k ≠ none → w.heap.size ≤ k
  lb : w.heap.size ≤ lb
  bel : Below w.heap.size w wc
section
variable {w wc w1 : World} {v : DV} {own : Nat → Option Role} {D D' : Dev} {lb j off n : Nat}
theorem LSt.next (h : LSt w v own D lb j off n wc) (hb : Below wc.heap.size wc w1) : LSt w v own D lb j off n w1 := ⟨h.log.below hb, h.ob, h.lb, h.bel.trans (hb.mono h.bel.size)⟩
theorem LSt.alloc (h : LSt w v own D lb j off n wc) (o : Obj) : LSt w v own D lb j off n (wc.alloc o) := h.next (below_alloc wc o)
theorem LSt.step (h : LSt w v own D lb j off n wc) (hn : D'.n = D.n) (hp : DPost v own wc D' w1) : ∃ own', LSt w v own' D' lb j off n w1 := by
  have hlt := h.log.blk.lt
  have hown := hp
  obtain ⟨own1, d1, o1, u1⟩ := hown
  obtain ⟨own2, e1, e2, e3⟩ := hp.from h.ob h.bel.size
  refine ⟨own1, ⟨d1, h.log.blk.upd u1 (by rw [h.log.ob]; simp), by rw [o1 lb hlt]; exact h.log.ob, h.log.hj, h.log.n2, h.log.o64, by rw [hn]; exact h.log.fit⟩, fun k hk => ?_, h.lb, ?_⟩
  · rcases Nat.lt_or_ge k wc.heap.size with hk2 | hk2
    · rw [o1 k hk2] at hk; exact h.ob k hk
    · exact Nat.le_trans h.bel.size hk2
  · refine h.bel.trans ⟨u1.os, u1.tape, u1.output, u1.size, fun k hk => u1.block k (Nat.lt_of_lt_of_le hk h.bel.size) (fun hk2 => ?_)⟩
    have := h.ob k hk2; omega
theorem LSt.dev (h : LSt w v own D lb j off n wc) : IsDev wc v own D := h.log.dev
theorem fresh_vb {n : Nat} {f : Nat → Int} (hf : ∀ i, 0 ≤ f i ∧ f i < 18446744073709551616) : (Dev.fresh n f).VB := ⟨hf, fun l e he => by simp [Dev.fresh] at he⟩
def A0 : Dev := Dev.fresh 4 (fun _ => 0)
def A1 : Dev := A0.store 0 128 7
def aP : List (Nat × Nat × Int) := [(1, 64, 128), (1, 72, 7), (2, 64, 0), (3, 0, 0), (1, 0, 1), (2, 0, 0), (3, 0, 0)]
def A2 : Dev := A1.run 0 aP
theorem a0_vb : A0.VB := fresh_vb (fun _ => by omega)
theorem a1_vb : A1.VB := a0_vb.step 0 (1, 128, 7) (fun _ => by decide)
theorem a1_off : A1.off = false := by decide
theorem a1_err : A1.err 0 = 0 := by decide
theorem a1_saved : savedL A1.cur 0 2 = [] := by decide
theorem a1_fresh : freshL A1.cur ((savedL A1.cur 0 2).map (·.1)) [128] = [(128, 7)] := by decide
theorem a1_plan : planP 0 (savedL A1.cur 0 2).length (freshL A1.cur ((savedL A1.cur 0 2).map (·.1)) [128]) = aP := by decide
theorem a2_off : A2.off = false := by decide
theorem a2_err : A2.err 0 = 0 := by decide
theorem a2_saved : savedL A2.cur 0 2 = [(128, 7)] := by decide
theorem a2_vb : A2.VB := Dev.VB.run aP a1_vb 0 (fun e he => by
  simp [aP] at he
  rcases he with rfl | rfl | rfl | rfl | rfl | rfl | rfl <;> intro _ <;> decide)
theorem a_exec : A0.exec = 0 ∧ A1.exec = 1 := by decide
theorem a_n : A1.n = A0.n ∧ A2.n = A1.n := by decide
theorem a1_dev : A0.store 0 128 7 = A1 := rfl
theorem rd128 (wx : World) : RdSl (wx.alloc (.cells #[.int .u64 128] 35)) 1 (.slice (some ⟨wx.heap.size, 0, none⟩) 1 1) 1 (natsU [128]) := RdSl.new wx _ _ 1 1 rfl
theorem a1_full : ¬ 4 * (2 - 1) < (savedL A1.cur 0 2).length + (freshL A1.cur ((savedL A1.cur 0 2).map (·.1)) [128]).length := by decide
theorem plan128 {wx : World} (h : LogAt wx v own A1 lb 0 0 2) : Calls Tryd.prog 30 #[.pointer (some ⟨lb, 0, none⟩), .slice (some ⟨wx.heap.size, 0, none⟩) 1 1] (wx.alloc (.cells #[.int .u64 128] 35))
    fun r w' => ∃ a c, r = .returned (.tuple #[.slice a 7 c, .int .i64 0]) ∧ RdSl w' 3 (.slice a 7 c) 7 (instrC aP) ∧ Below wx.heap.size wx w' := by
  refine (uPlan_live (h.alloc (.cells #[.int .u64 128] 35)) a1_off a1_err a1_vb _ [128] (rd128 wx) (by simp) (by simp) (by decide)).mono ?_
  rintro r w' (⟨hf, _⟩ | ⟨_, ov, rfl, ha⟩)
  · exact absurd hf a1_full
  · rw [a1_plan] at ha
    obtain ⟨a, c, rfl⟩ := ha.slice
    exact ⟨a, c, rfl, ha.rd, (below_alloc _ _).trans (ha.bel.mono (by simp))⟩
theorem save128 {wx : World} (h : LogAt wx v own A1 lb 0 0 2) : Calls Tryd.prog 21 #[.pointer (some ⟨lb, 0, none⟩), .slice (some ⟨wx.heap.size, 0, none⟩) 1 1] (wx.alloc (.cells #[.int .u64 128] 35))
    fun r w' => r = .returned (.int .i64 0) ∧ DPost v own wx A2 w' := by
  refine (uSave_live (h.alloc (.cells #[.int .u64 128] 35)) _ _ _ (by decide) (uPlan_live (h.alloc (.cells #[.int .u64 128] 35)) a1_off a1_err a1_vb _ [128] (rd128 wx) (by simp) (by simp) (by decide))).mono ?_
  rintro r w' (⟨hf, _⟩ | ⟨_, rfl, hp⟩)
  · exact absurd hf a1_full
  · rw [a1_plan] at hp ⊢
    exact ⟨by show Ending.returned (.int .i64 (A2.err 0)) = _; rw [a2_err], hp.start⟩
theorem saved128 {wx : World} (h : LogAt wx v own A2 lb 0 0 2) : Calls Tryd.prog 28 #[.pointer (some ⟨lb, 0, none⟩)] wx
    fun r w' => ∃ a c, r = .returned (.slice a 1 c) ∧ RdSl w' 2 (.slice a 1 c) 1 (flat [(128, 7)]) ∧ Below wx.heap.size wx w' := by
  refine (uSaved_any h a2_off a2_vb).mono ?_
  rintro r w' ⟨sv, rfl, ha⟩
  rw [a2_saved] at ha
  obtain ⟨a, c, rfl⟩ := ha.slice
  exact ⟨a, c, rfl, ha.rd, ha.bel⟩
set_option maxRecDepth 100000 in
set_option maxHeartbeats 8000000 in
theorem awake16 : Calls Tryd.prog 11 #[] w fun r w' => r = .returned (.bool true) ∧ Below w.heap.size w w' := by
  have hnew := new_any (w := w) 4 (by omega) (by omega)
  rw [show ((4 : Nat) : Int) = 4 from rfl] at hnew
  have HN := Lib.hid hnew; clear hnew
  have hopen := fun (wx : World) (v : DV) (own : Nat → Option Role) (h : IsDev wx v own A0) => uOpen_ok h (j := 0) (by omega) 0 2 (by omega) (by decide)
  rw [show ((0 : Nat) : Int) = 0 from rfl, show ((2 : Nat) : Int) = 2 from rfl, show 64 * 0 = 0 from rfl] at hopen
  have HO := Lib.hid hopen; clear hopen
  have hstore := fun (wx : World) (v : DV) (own : Nat → Option Role) (h : IsDev wx v own A0) => store_any h (j := 0) (by omega) 128 7 (by decide)
  rw [show ((128 : Nat) : Int) = 128 from rfl] at hstore
  have HST := Lib.hid hstore; clear hstore
  have hcap := fun (wx : World) (v : DV) (own : Nat → Option Role) (lb : Nat) (h : LogAt wx v own A0 lb 0 0 2) => ucap_any h
  rw [show ((4 * (2 - 1) : Nat) : Int) = 4 from rfl] at hcap
  have HC := Lib.hid hcap; clear hcap
  go_enter Tryd.func11, Tryd.ntmps11
  go_wp2_with fail
  (with_reducible refine HN.out.mono ?_)
  rintro e w1 ⟨v, own, rfl, d1, o1, b1⟩
  have D1 : Hid (IsDev w1 v own A0) := d1
  have B1 := Lib.hid (And.intro o1 b1); clear d1 o1 b1 HN
  go_wp2_with fail
  (with_reducible refine (thread0_any D1.out).mono ?_)
  rintro e w' ⟨rfl, rfl⟩
  go_wp2_with fail
  (with_reducible refine (HO.out _ _ _ D1.out).mono ?_)
  rintro e w2 ⟨rfl, l2, b2⟩
  have L2 : Hid (LSt w v own A0 w1.heap.size 0 0 2 w2) := ⟨l2, B1.out.1, B1.out.2.size, B1.out.2.trans (b2.mono B1.out.2.size)⟩
  clear l2 b2 D1 B1 HO
  generalize w1.heap.size = lb at *
  go_wp2_with fail
  (with_reducible refine (HC.out _ _ _ _ L2.out.log).mono ?_)
  rintro e w' ⟨rfl, rfl⟩
  clear HC
  go_wp2_with fail
  (with_reducible refine (thread0_any L2.out.dev).mono ?_)
  rintro e w' ⟨rfl, rfl⟩
  go_wp2_with fail
  (with_reducible refine (HST.out _ _ _ L2.out.dev).mono ?_)
  rintro e w3 ⟨rfl, p3⟩
  obtain ⟨own3, l3⟩ := L2.out.step (D' := A1) a_n.1 p3
  have L3 := Lib.hid l3; clear p3 l3 L2 HST
  go_wp2_with fail
  (with_reducible refine (plan128 L3.out.log).mono ?_)
  rintro e w4 ⟨pa, pc, rfl, r4, b4⟩
  have L4 := Lib.hid (L3.out.next b4); have R4 := Lib.hid r4; clear r4 b4 L3
  go_wp2_with fail
  have HE := Lib.hid (equalProg_same (w := w4.alloc (.cells #[.int .u8 1, .int .u64 64, .int .u64 128, .int .u8 1, .int .u64 72, .int .u64 7, .int .u8 2, .int .u64 64, .int .u64 0, .int .u8 3, .int .u64 0, .int .u64 0, .int .u8 1, .int .u64 0, .int .u64 1, .int .u8 2, .int .u64 0, .int .u64 0, .int .u8 3, .int .u64 0, .int .u64 0] 99))
    (.slice pa 7 pc) (.slice (some ⟨w4.heap.size, 0, none⟩) 7 7) aP (by exact R4.out.alloc _) (by exact RdSl.new w4 _ _ 3 7 rfl) (by decide))
  (with_reducible refine HE.out.mono ?_)
  rintro e w5 ⟨rfl, b5⟩
  have L5 := Lib.hid ((L4.out.alloc _).next b5); clear b5 L4 R4 HE
  go_wp2_with fail
  (with_reducible refine (save128 L5.out.log).mono ?_)
  rintro e w6 ⟨rfl, p6⟩
  obtain ⟨own6, l6⟩ := L5.out.step (D' := A2) a_n.2 p6
  have L6 := Lib.hid l6; clear p6 l6 L5
  go_wp2_with fail
  (with_reducible refine (saved128 L6.out.log).mono ?_)
  rintro e w7 ⟨sa, sc, rfl, r7, b7⟩
  have L7 := Lib.hid (L6.out.next b7); have R7 := Lib.hid r7; clear r7 b7 L6
  go_wp2_with fail
  have HE := Lib.hid (equalW_same (w := w7.alloc (.cells #[.int .u64 128, .int .u64 7] 102)) (.slice sa 1 sc) (.slice (some ⟨w7.heap.size, 0, none⟩) 1 1) [(128, 7)] (by exact R7.out.alloc _) (by exact RdSl.new w7 _ _ 2 1 rfl) (by decide))
  (with_reducible refine HE.out.mono ?_)
  rintro e w8 ⟨rfl, b8⟩
  have L8 := Lib.hid ((L7.out.alloc _).next b8); clear b8 L7 R7 HE
  go_wp2_with fail
  go_ret
  exact ⟨rfl, L8.out.bel⟩
end
end Go.Proofs.YtokgplgdaememaaDoor
