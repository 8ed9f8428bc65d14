/- The law's real and the reference's sizes, Rest, Valid, Region of layer 13. -/
import Derived.Test.YtbpaamnofkhonaaDoorSbL
namespace Go.Proofs.YtbpaamnofkhonaaDoor
open Go.RowKit Go.Maps
attribute [local go_sem ↓] Go.wp_at_zero Go.wp_at_succ

/-- The sizes of all regions but the heap. -/
def zL (s : Sup) : List Int := [2, 8, s.redo, s.und, s.desc, 1, s.que, s.tab]
def inB (x : Int) : Bool := decide (0 ≤ x ∧ x ≤ 4096)
def restR (s : Sup) : Int := if s.lin < 1 ∨ 4096 < s.lin then -1 else if (zL s).all inB then s.rest else -1
def okR (s : Sup) : Bool := decide (1 ≤ s.ver) && decide (s.ver ≤ 65535) && decide (0 < s.redo) && decide (0 < s.und) && decide (0 < s.desc) && decide (32 ≤ restR s)
theorem okR_eq (s : Sup) : okR s = s.okB := by
  obtain ⟨ver, lin, redo, und, desc, que, tab, gen⟩ := s
  by_cases hk : (⟨ver, lin, redo, und, desc, que, tab, gen⟩ : Sup).Ok
  · rw [Sup.okB_true hk]
    obtain ⟨v1, v2, l1, l2, r1, u1, d1, q1, t1, r2, u2, d2, q2, t2, h⟩ := hk
    simp only at *
    have hR : restR ⟨ver, lin, redo, und, desc, que, tab, gen⟩ = (⟨ver, lin, redo, und, desc, que, tab, gen⟩ : Sup).rest := by
      unfold restR
      simp only
      rw [if_neg (by omega), if_pos]
      simp [zL, inB]
      omega
    unfold okR
    rw [hR]
    simp only
    simp [v1, v2, h, show 0 < redo by omega, show 0 < und by omega, show 0 < desc by omega]
  · rw [Sup.okB_false hk]
    cases ho : okR ⟨ver, lin, redo, und, desc, que, tab, gen⟩
    · rfl
    · exfalso
      apply hk
      unfold okR at ho
      simp only [Bool.and_eq_true, decide_eq_true_eq] at ho
      obtain ⟨⟨⟨⟨⟨h1, h2⟩, h3⟩, h4⟩, h5⟩, h6⟩ := ho
      unfold restR at h6
      simp only at h6
      split at h6
      · omega
      · split at h6
        · rename_i hl ha
          simp [zL, inB] at ha
          unfold Sup.rest at h6
          simp only at h6
          refine ⟨h1, h2, by simp only; omega, by simp only; omega, by simp only; omega, by simp only; omega, by simp only; omega, by simp only; omega, by simp only; omega, by simp only; omega, by simp only; omega, by simp only; omega, by simp only; omega, by simp only; omega, h6⟩
        · omega
section
variable {w : World}
set_option maxRecDepth 100000 in
set_option maxHeartbeats 1000000 in
theorem real_any (s : Sup) : Calls Tryd.prog 12 #[.agg s.cells] w fun r w' => r = .returned (.agg s.cells) ∧ Below w.heap.size w w' := by
  obtain ⟨ver, lin, redo, und, desc, que, tab, gen⟩ := s
  unfold Sup.cells
  go_enter Tryd.func12, Tryd.ntmps12
  go_wp2_with fail
  refine bodyPost_ret (v := .agg #[.int .i64 ver, .int .i64 lin, .int .i64 redo, .int .i64 und, .int .i64 desc, .int .i64 que, .int .i64 tab, .int .u64 gen]) (by simp [results, Tryd.results12, go_sem]) rfl ⟨rfl, ?_⟩
  exact below_twice w _ _
set_option maxRecDepth 100000 in
set_option maxHeartbeats 1000000 in
theorem sizes_any (s : Sup) : Calls Tryd.prog 42 #[.agg s.cells] w fun r w' => r = .returned (.slice (some ⟨w.heap.size + 1, 0, none⟩) 8 8) ∧ Row w' (w.heap.size + 1) 8 3 (fun i => .int .i64 ((zL s).getD i 0)) ∧ Below w.heap.size w w' := by
  obtain ⟨ver, lin, redo, und, desc, que, tab, gen⟩ := s
  unfold Sup.cells
  have hB := below_twice w (.cells #[.int .i64 ver, .int .i64 lin, .int .i64 redo, .int .i64 und, .int .i64 desc, .int .i64 que, .int .i64 tab, .int .u64 gen] 26) (.cells #[.int .i64 2, .int .i64 8, .int .i64 redo, .int .i64 und, .int .i64 desc, .int .i64 1, .int .i64 que, .int .i64 tab] 3)
  have HB := Lib.hid hB; clear hB
  have hK := Blk.new (w.alloc (.cells #[.int .i64 ver, .int .i64 lin, .int .i64 redo, .int .i64 und, .int .i64 desc, .int .i64 que, .int .i64 tab, .int .u64 gen] 26)) #[.int .i64 2, .int .i64 8, .int .i64 redo, .int .i64 und, .int .i64 desc, .int .i64 1, .int .i64 que, .int .i64 tab] 3
  rw [show (w.alloc (.cells #[.int .i64 ver, .int .i64 lin, .int .i64 redo, .int .i64 und, .int .i64 desc, .int .i64 que, .int .i64 tab, .int .u64 gen] 26)).heap.size = w.heap.size + 1 by simp] at hK
  have HK := Lib.hid hK; clear hK
  go_enter Tryd.func42, Tryd.ntmps42
  go_wp2_with fail
  go_ret
  refine ⟨rfl, ⟨_, HK.out, fun i hi => ?_⟩, HB.out⟩
  obtain rfl | rfl | rfl | rfl | rfl | rfl | rfl | rfl : i = 0 ∨ i = 1 ∨ i = 2 ∨ i = 3 ∨ i = 4 ∨ i = 5 ∨ i = 6 ∨ i = 7 := by omega
  all_goals rfl
/-- What is left behind the first k sizes. -/
def nK (s : Sup) (k : Nat) : Int := s.lin - ((zL s).take k).foldl (· + ·) 0
theorem nK_succ (s : Sup) (k : Nat) (hk : k < 8) : nK s (k + 1) = nK s k - (zL s).getD k 0 := by
  unfold nK
  obtain rfl | rfl | rfl | rfl | rfl | rfl | rfl | rfl : k = 0 ∨ k = 1 ∨ k = 2 ∨ k = 3 ∨ k = 4 ∨ k = 5 ∨ k = 6 ∨ k = 7 := by omega
  all_goals
    simp [zL]
    try omega
theorem restR_out (s : Sup) (hl : ¬ (s.lin < 1 ∨ 4096 < s.lin)) (k : Nat) (hk : k < 8) (h : inB ((zL s).getD k 0) = false) : restR s = -1 := by
  unfold restR
  rw [if_neg hl, if_neg]
  intro ha
  have hm : (zL s).getD k 0 ∈ zL s := by
    have hlen : (zL s).length = 8 := rfl
    rw [List.getD, List.getElem?_eq_getElem (by omega)]
    exact List.getElem_mem _
  have := List.all_eq_true.1 ha _ hm
  rw [h] at this; cases this
theorem restR_in (s : Sup) (hl : ¬ (s.lin < 1 ∨ 4096 < s.lin)) (h : ∀ k, k < 8 → inB ((zL s).getD k 0) = true) : restR s = nK s 8 := by
  unfold restR
  rw [if_neg hl, if_pos]
  · unfold nK Sup.rest; simp [zL]; omega
  · apply List.all_eq_true.2
    intro x hx
    obtain ⟨k, hk, rfl⟩ := List.getElem_of_mem hx
    have hlen : (zL s).length = 8 := rfl
    have := h k (by omega)
    rw [List.getD, List.getElem?_eq_getElem hk] at this
    exact this
set_option maxRecDepth 100000 in
set_option maxHeartbeats 4000000 in
theorem rest_any (s : Sup) : Calls Tryd.prog 43 #[.agg s.cells] w fun r w' => r = .returned (.int .i64 (restR s)) ∧ Below w.heap.size w w' := by
  have HSZ := Lib.hid (fun wx => sizes_any (w := wx) s)
  have HB := Lib.hid (below_alloc w (.cells s.cells 26))
  by_cases hl : s.lin < 1 ∨ 4096 < s.lin
  · have HR : Hid (restR s = -1) := by show restR s = -1; unfold restR; rw [if_pos hl]
    generalize restR s = R at *
    obtain ⟨ver, lin, redo, und, desc, que, tab, gen⟩ := s
    unfold Sup.cells at *
    simp only at hl
    by_cases h1 : lin < 1
    · go_enter Tryd.func43, Tryd.ntmps43
      go_wp2_with fail
      go_ret
      exact ⟨by rw [HR.out]; rfl, HB.out⟩
    · have h2 : 4096 < lin := by omega
      clear hl
      go_enter Tryd.func43, Tryd.ntmps43
      go_wp2_with fail
      go_ret
      exact ⟨by rw [HR.out]; rfl, HB.out⟩
  · have HO := Lib.hid (restR_out s hl)
    have HI := Lib.hid (restR_in s hl)
    have HN := Lib.hid (nK_succ s)
    have HN0 : Hid (nK s 0 = s.lin) := by show nK s 0 = s.lin; unfold nK; simp
    generalize restR s = R at *
    generalize nK s = nk at *
    generalize zL s = z at *
    obtain ⟨ver, lin, redo, und, desc, que, tab, gen⟩ := s
    unfold Sup.cells at *
    simp only at hl HN0
    have h1 : ¬ lin < 1 := by omega
    have h2 : ¬ 4096 < lin := by omega
    clear hl
    go_enter Tryd.func43, Tryd.ntmps43
    go_wp2_with fail
    (with_reducible refine (HSZ.out _).mono ?_)
    rintro e w1 ⟨rfl, r1, b1⟩
    have R1 := Lib.hid r1
    have B1 := Lib.hid (HB.out.trans (b1.mono HB.out.size))
    clear r1 b1 HSZ
    generalize (w.alloc (.cells #[.int .i64 ver, .int .i64 lin, .int .i64 redo, .int .i64 und, .int .i64 desc, .int .i64 que, .int .i64 tab, .int .u64 gen] 26)).heap.size + 1 = g at *
    go_wp2_with fail
    go_loopw [3, 17] (fun x y wr => ∃ k : Nat, k ≤ 8 ∧ y = .int .i64 k ∧ x = .int .i64 (nk k) ∧ (-4096 * (k : Int) ≤ nk k ∧ nk k ≤ 4096) ∧ (∀ q, q < k → inB (z.getD q 0) = true) ∧ wr = w1) (fun _ y _ => 8 - (intOf y).toNat)
    case atStart => exact ⟨0, by omega, rfl, by rw [HN0.out], by rw [HN0.out]; omega, fun q hq => by omega, rfl⟩
    case round =>
      obtain ⟨k, hk, rfl, rfl, hnb, hall, rfl⟩ := hrel
      have HAL := Lib.hid hall
      by_cases hlt : k < 8
      · have hlt' : (k : Int) < 8 := by omega
        have hc := R1.out.cell (i := k) hlt
        have HSK := Lib.hid (HN.out k hlt)
        have HOK := Lib.hid (HO.out k hlt)
        have HIK : Hid (inB (z.getD k 0) = true → ∀ q, q < k + 1 → inB (z.getD q 0) = true) := fun h q hq => by
          by_cases e : q = k
          · subst e; exact h
          · exact HAL.out q (by omega)
        generalize z.getD k 0 = zk at *
        generalize nk k = n at *
        generalize hn1 : nk (k + 1) = n1 at *
        have HN1 := Lib.hid hn1
        clear hall hn1
        by_cases z1 : zk < 0
        · have HR : Hid (R = -1) := HOK.out (by unfold inB; simp; omega)
          clear HOK HIK
          go_wp2_with fail
          go_ret
          exact ⟨by rw [HR.out]; rfl, B1.out⟩
        · by_cases z2 : 4096 < zk
          · have HR : Hid (R = -1) := HOK.out (by unfold inB; simp; omega)
            clear HOK HIK
            go_wp2_with fail
            go_ret
            exact ⟨by rw [HR.out]; rfl, B1.out⟩
          · have HIN := Lib.hid (HIK.out (by unfold inB; simp; omega))
            go_wp2_with fail
            go_roundw
            case rel => exact ⟨k + 1, by omega, by go_num, by rw [HN1.out, HSK.out], by rw [HN1.out, HSK.out]; omega, HIN.out, by first | rfl | trivial⟩
            case measure => simp [intOf]; omega
      · obtain rfl : k = 8 := by omega
        have HR := Lib.hid (HI.out HAL.out)
        go_wp2_with fail
        go_ret
        exact ⟨by rw [HR.out]; rfl, B1.out⟩
set_option maxRecDepth 100000 in
set_option maxHeartbeats 4000000 in
theorem valid13_any (s : Sup) : Calls Tryd.prog 16 #[.agg s.cells] w fun r w' => r = .returned (.bool (okR s)) ∧ Below w.heap.size w w' := by
  have HR := Lib.hid (fun wx => rest_any (w := wx) s)
  have HO : Hid (okR s = (decide (1 ≤ s.ver) && decide (s.ver ≤ 65535) && decide (0 < s.redo) && decide (0 < s.und) && decide (0 < s.desc) && decide (32 ≤ restR s))) := rfl
  have HB := Lib.hid (below_alloc w (.cells s.cells 26))
  generalize okR s = o at *
  generalize restR s = R at *
  obtain ⟨ver, lin, redo, und, desc, que, tab, gen⟩ := s
  unfold Sup.cells at *
  simp only at HO
  by_cases h1 : 1 ≤ ver
  · by_cases h2 : ver ≤ 65535
    · by_cases h3 : 0 < redo
      · by_cases h4 : 0 < und
        · by_cases h5 : 0 < desc
          · have HQ : Hid (o = decide (32 ≤ R)) := by show o = _; rw [HO.out]; simp [h1, h2, h3, h4, h5]
            clear HO
            go_enter Tryd.func16, Tryd.ntmps16
            go_wp2_with fail
            (with_reducible refine (HR.out _).mono ?_)
            rintro e w1 ⟨rfl, b1⟩
            have B1 := Lib.hid (HB.out.trans (b1.mono HB.out.size)); clear b1
            go_wp2_with fail
            go_ret
            exact ⟨ret_bool (by rw [HQ.out]), B1.out⟩
          · have HQ : Hid (o = false) := by show o = _; rw [HO.out]; simp [h5]
            clear HO
            go_enter Tryd.func16, Tryd.ntmps16
            go_wp2_with fail
            go_ret
            exact ⟨by rw [HQ.out]; rfl, HB.out⟩
        · have HQ : Hid (o = false) := by show o = _; rw [HO.out]; simp [h4]
          clear HO
          go_enter Tryd.func16, Tryd.ntmps16
          go_wp2_with fail
          go_ret
          exact ⟨by rw [HQ.out]; rfl, HB.out⟩
      · have HQ : Hid (o = false) := by show o = _; rw [HO.out]; simp [h3]
        clear HO
        go_enter Tryd.func16, Tryd.ntmps16
        go_wp2_with fail
        go_ret
        exact ⟨by rw [HQ.out]; rfl, HB.out⟩
    · have HQ : Hid (o = false) := by show o = _; rw [HO.out]; simp [h2]
      clear HO
      go_enter Tryd.func16, Tryd.ntmps16
      go_wp2_with fail
      go_ret
      exact ⟨by rw [HQ.out]; rfl, HB.out⟩
  · have HQ : Hid (o = false) := by show o = _; rw [HO.out]; simp [h1]
    clear HO
    go_enter Tryd.func16, Tryd.ntmps16
    go_wp2_with fail
    go_ret
    exact ⟨by rw [HQ.out]; rfl, HB.out⟩
end
end Go.Proofs.YtbpaamnofkhonaaDoor
