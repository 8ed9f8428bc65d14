/- The law's real and the reference's sizes, Rest, Valid, Region of layer 13. -/
import Derived.Test.YtbpaamnofkhonaaDoorSbL
namespace Go.Proofs.YtbpaamnofkhonaaDoor
open Go.RowKit Go.Maps
attribute [local go_sem ↓] Go.wp_at_zero Go.wp_at_succ

/-- The sizes of all regions but the heap. -/
def zL (s : Sup) : List Int := [2, 8, s.redo, s.und, s.desc, 1, s.que, s.tab]
def inB (x : Int) : Bool := decide (0 ≤ x ∧ x ≤ 4096)
def restR (s : Sup) : Int := if s.lin < 1 ∨ 4096 < s.lin then -1 else if (zL s).all inB then s.rest else -1
def okR (s : Sup) : Bool := decide (1 ≤ s.ver) && decide (s.ver ≤ 65535) && decide (0 < s.redo) && decide (0 < s.und) && decide (0 < s.desc) && decide (32 ≤ restR s)
theorem okR_eq (s : Sup) : okR s = s.okB := by
  obtain ⟨ver, lin, redo, und, desc, que, tab, gen⟩ := s
  by_cases hk : (⟨ver, lin, redo, und, desc, que, tab, gen⟩ : Sup).Ok
  · rw [Sup.okB_true hk]
    obtain ⟨v1, v2, l1, l2, r1, u1, d1, q1, t1, r2, u2, d2, q2, t2, h⟩ := hk
    simp only at *
    have hR : restR ⟨ver, lin, redo, und, desc, que, tab, gen⟩ = (⟨ver, lin, redo, und, desc, que, tab, gen⟩ : Sup).rest := by
      unfold restR
      simp only
      rw [if_neg (by omega), if_pos]
      simp [zL, inB]
      omega
    unfold okR
    rw [hR]
    simp only
    simp [v1, v2, h, show 0 < redo by omega, show 0 < und by omega, show 0 < desc by omega]
  · rw [Sup.okB_false hk]
    cases ho : okR ⟨ver, lin, redo, und, desc, que, tab, gen⟩
    · rfl
    · exfalso
      apply hk
      unfold okR at ho
      simp only [Bool.and_eq_true, decide_eq_true_eq] at ho
      obtain ⟨⟨⟨⟨⟨h1, h2⟩, h3⟩, h4⟩, h5⟩, h6⟩ := ho
      unfold restR at h6
      simp only at h6
      split at h6
      · omega
      · split at h6
        · rename_i hl ha
          simp [zL, inB] at ha
          unfold Sup.rest at h6
          simp only at h6
          refine ⟨h1, h2, by simp only; omega, by simp only; omega, by simp only; omega, by simp only; omega, by simp only; omega, by simp only; omega, by simp only; omega, by simp only; omega, by simp only; omega, by simp only; omega, by simp only; omega, by simp only; omega, h6⟩
        · omega
section
variable {w : World}
set_option maxRecDepth 100000 in
set_option maxHeartbeats 1000000 in
theorem real_any (s : Sup) : Calls Tryd.prog 12 #[.agg s.cells] w fun r w' => r = .returned (.agg s.cells) ∧ Below w.heap.size w w' := by
  obtain ⟨ver, lin, redo, und, desc, que, tab, gen⟩ := s
  unfold Sup.cells
  go_enter Tryd.func12, Tryd.ntmps12
  go_wp2_with fail
  refine bodyPost_ret (v := .agg #[.int .i64 ver, .int .i64 lin, .int .i64 redo, .int .i64 und, .int .i64 desc, .int .i64 que, .int .i64 tab, .int .u64 gen]) (by simp [results, Tryd.results12, go_sem]) rfl ⟨rfl, ?_⟩
  exact below_twice w _ _
set_option maxRecDepth 100000 in
set_option maxHeartbeats 1000000 in
theorem sizes_any (s : Sup) : Calls Tryd.prog 42 #[.agg s.cells] w fun r w' => r = .returned (.slice (some ⟨w.heap.size + 1, 0, none⟩) 8 8) ∧ Row w' (w.heap.size + 1) 8 3 (fun i => .int .i64 ((zL s).getD i 0)) ∧ Below w.heap.size w w' := by
  obtain ⟨ver, lin, redo, und, desc, que, tab, gen⟩ := s
  unfold Sup.cells
  have hB := below_twice w (.cells #[.int .i64 ver, .int .i64 lin, .int .i64 redo, .int .i64 und, .int .i64 desc, .int .i64 que, .int .i64 tab, .int .u64 gen] 26) (.cells #[.int .i64 2, .int .i64 8, .int .i64 redo, .int .i64 und, .int .i64 desc, .int .i64 1, .int .i64 que, .int .i64 tab] 3)
  have HB := Lib.hid hB; clear hB
  have hK := Blk.new (w.alloc (.cells #[.int .i64 ver, .int .i64 lin, .int .i64 redo, .int .i64 und, .int .i64 desc, .int .i64 que, .int .i64 tab, .int .u64 gen] 26)) #[.int .i64 2, .int .i64 8, .int .i64 redo, .int .i64 und, .int .i64 desc, .int .i64 1, .int .i64 que, .int .i64 tab] 3
  rw [show (w.alloc (.cells #[.int .i64 ver, .int .i64 lin, .int .i64 redo, .int .i64 und, .int .i64 desc, .int .i64 que, .int .i64 tab, .int .u64 gen] 26)).heap.size = w.heap.size + 1 by simp] at hK
  have HK := Lib.hid hK; clear hK
  go_enter Tryd.func42, Tryd.ntmps42
  go_wp2_with fail
  go_ret
  refine ⟨rfl, ⟨_, HK.out, fun i hi => ?_⟩, HB.out⟩
  obtain rfl | rfl | rfl | rfl | rfl | rfl | rfl | rfl : i = 0 ∨ i = 1 ∨ i = 2 ∨ i = 3 ∨ i = 4 ∨ i = 5 ∨ i = 6 ∨ i = 7 := by omega
  all_goals rfl
/-- What is left behind the first k sizes. -/
def nK (s : Sup) (k : Nat) : Int := s.lin - ((zL s).take k).foldl (· + ·) 0
theorem nK_succ (s : Sup) (k : Nat) (hk : k < 8) : nK s (k + 1) = nK s k - (zL s).getD k 0 := by
  unfold nK
  obtain rfl | rfl | rfl | rfl | rfl | rfl | rfl | rfl : k = 0 ∨ k = 1 ∨ k = 2 ∨ k = 3 ∨ k = 4 ∨ k = 5 ∨ k = 6 ∨ k = 7 := by omega
  all_goals
    simp [zL]
    try omega
theorem restR_out (s : Sup) (hl : ¬ (s.lin < 1 ∨ 4096 < s.lin)) (k : Nat) (hk : k < 8) (h : inB ((zL s).getD k 0) = false) : restR s = -1 := by
  unfold restR
  rw [if_neg hl, if_neg]
  intro ha
  have hm : (zL s).getD k 0 ∈ zL s := by
    have hlen : (zL s).length = 8 := rfl
    rw [List.getD, List.getElem?_eq_getElem (by omega)]
    exact List.getElem_mem _
  have := List.all_eq_true.1 ha _ hm
  rw [h] at this; cases this
theorem restR_in (s : Sup) (hl : ¬ (s.lin < 1 ∨ 4096 < s.lin)) (h : ∀ k, k < 8 → inB ((zL s).getD k 0) = true) : restR s = nK s 8 := by
  unfold restR
  rw [if_neg hl, if_pos]
  · unfold nK Sup.rest; simp [zL]; omega
  · apply List.all_eq_true.2
    intro x hx
    obtain ⟨k, hk, rfl⟩ := List.getElem_of_mem hx
    have hlen : (zL s).length = 8 := rfl
    have := h k (by omega)
    rw [List.getD, List.getElem?_eq_getElem hk] at this
    exact this
set_option maxRecDepth 100000 in
set_option maxHeartbeats 4000000 in
theorem rest_any (s : Sup) : Calls Tryd.prog 43 #[.agg s.cells] w fun r w' => r = .returned (.int .i64 (restR s)) ∧ Below w.heap.size w w' := by
  have HSZ := Lib.hid (fun wx => sizes_any (w := wx) s)
  have HB := Lib.hid (below_alloc w (.cells s.cells 26))
  by_cases hl : s.lin < 1 ∨ 4096 < s.lin
  · have HR : Hid (restR s = -1) := by show restR s = -1; unfold restR; rw [if_pos hl]
    generalize restR s = R at *
    obtain ⟨ver, lin, redo, und, desc, que, tab, gen⟩ := s
    unfold Sup.cells at *
    simp only at hl
    by_cases h1 : lin < 1
    · go_enter Tryd.func43, Tryd.ntmps43
      go_wp2_with fail
      go_ret
      exact ⟨by rw [HR.out]; rfl, HB.out⟩
    · have h2 : 4096 < lin := by omega
      clear hl
      go_enter Tryd.func43, Tryd.ntmps43
      go_wp2_with fail
      go_ret
      exact ⟨by rw [HR.out]; rfl, HB.out⟩
  · have HO := Lib.hid (restR_out s hl)
    have HI := Lib.hid (restR_in s hl)
    have HN := Lib.hid (nK_succ s)
    have HN0 : Hid (nK s 0 = s.lin) := by show nK s 0 = s.lin; unfold nK; simp
    generalize restR s = R at *
    generalize nK s = nk at *
    generalize zL s = z at *
    obtain ⟨ver, lin, redo, und, desc, que, tab, gen⟩ := s
    unfold Sup.cells at *
    simp only at hl HN0
    have h1 : ¬ lin < 1 := by omega
    have h2 : ¬ 4096 < lin := by omega
    clear hl
    go_enter Tryd.func43, Tryd.ntmps43
    go_wp2_with fail
    (with_reducible refine (HSZ.out _).mono ?_)
    rintro e w1 ⟨rfl, r1, b1⟩
    have R1 := Lib.hid r1
    have B1 := Lib.hid (HB.out.trans (b1.mono HB.out.size))
    clear r1 b1 HSZ
    generalize (w.alloc (.cells #[.int .i64 ver, .int .i64 lin, .int .i64 redo, .int .i64 und, .int .i64 desc, .int .i64 que, .int .i64 tab, .int .u64 gen] 26)).heap.size + 1 = g at *
    go_wp2_with fail
    go_loopw [3, 17] (fun x y wr => ∃ k : Nat, k ≤ 8 ∧ y = .int .i64 k ∧ x = .int .i64 (nk k) ∧ (-4096 * (k : Int) ≤ nk k ∧ nk k ≤ 4096) ∧ (∀ q, q < k → inB (z.getD q 0) = true) ∧ wr = w1) (fun _ y _ => 8 - (intOf y).toNat)
    case atStart => exact ⟨0, by omega, rfl, by rw [HN0.out], by rw [HN0.out]; omega, fun q hq => by omega, rfl⟩
    case round =>
      obtain ⟨k, hk, rfl, rfl, hnb, hall, rfl⟩ := hrel
      have HAL := Lib.hid hall
      by_cases hlt : k < 8
      · have hlt' : (k : Int) < 8 := by omega
        have hc := R1.out.cell (i := k) hlt
        have HSK := Lib.hid (HN.out k hlt)
        have HOK := Lib.hid (HO.out k hlt)
        have HIK : Hid (inB (z.getD k 0) = true → ∀ q, q < k + 1 → inB (z.getD q 0) = true) := fun h q hq => by
          by_cases e : q = k
          · subst e; exact h
          · exact HAL.out q (by omega)
        generalize z.getD k 0 = zk at *
        generalize nk k = n at *
        generalize hn1 : nk (k + 1) = n1 at *
        have HN1 := Lib.hid hn1
        clear hall hn1
        by_cases z1 : zk < 0
        · have HR : Hid (R = -1) := HOK.out (by unfold inB; simp; omega)
          clear HOK HIK
          go_wp2_with fail
          go_ret
          exact ⟨by rw [HR.out]; rfl, B1.out⟩
        · by_cases z2 : 4096 < zk
          · have HR : Hid (R = -1) := HOK.out (by unfold inB; simp; omega)
            clear HOK HIK
            go_wp2_with fail
            go_ret
            exact ⟨by rw [HR.out]; rfl, B1.out⟩
          · have HIN := Lib.hid (HIK.out (by unfold inB; simp; omega))
            go_wp2_with fail
            go_roundw
            case rel => exact ⟨k + 1, by omega, by go_num, by rw [HN1.out, HSK.out], by rw [HN1.out, HSK.out]; omega, HIN.out, by first | rfl | trivial⟩
            case measure => simp [intOf]; omega
      · obtain rfl : k = 8 := by omega
        have HR := Lib.hid (HI.out HAL.out)
        go_wp2_with fail
        go_ret
        exact ⟨by rw [HR.out]; rfl, B1.out⟩
set_option maxRecDepth 100000 in
set_option maxHeartbeats 4000000 in
theorem valid13_any (s : Sup) : Calls Tryd.prog 16 #[.agg s.cells] w fun r w' => r = .returned (.bool (okR s)) ∧ Below w.heap.size w w' := by
  have HR := Lib.hid (fun wx => rest_any (w := wx) s)
  have HO : Hid (okR s = (decide (1 ≤ s.ver) && decide (s.ver ≤ 65535) && decide (0 < s.redo) && decide (0 < s.und) && decide (0 < s.desc) && decide (32 ≤ restR s))) := rfl
  have HB := Lib.hid (below_alloc w (.cells s.cells 26))
  generalize okR s = o at *
  generalize restR s = R at *
  obtain ⟨ver, lin, redo, und, desc, que, tab, gen⟩ := s
  unfold Sup.cells at *
  simp only at HO
  by_cases h1 : 1 ≤ ver
  · by_cases h2 : ver ≤ 65535
    · by_cases h3 : 0 < redo
      · by_cases h4 : 0 < und
        · by_cases h5 : 0 < desc
          · have HQ : Hid (o = decide (32 ≤ R)) := by show o = _; rw [HO.out]; simp [h1, h2, h3, h4, h5]
            clear HO
            go_enter Tryd.func16, Tryd.ntmps16
            go_wp2_with fail
            (with_reducible refine (HR.out _).mono ?_)
            rintro e w1 ⟨rfl, b1⟩
            have B1 := Lib.hid (HB.out.trans (b1.mono HB.out.size)); clear b1
            go_wp2_with fail
            go_ret
            exact ⟨ret_bool (by rw [HQ.out]), B1.out⟩
          · have HQ : Hid (o = false) := by show o = _; rw [HO.out]; simp [h5]
            clear HO
            go_enter Tryd.func16, Tryd.ntmps16
            go_wp2_with fail
            go_ret
            exact ⟨by rw [HQ.out]; rfl, HB.out⟩
        · have HQ : Hid (o = false) := by show o = _; rw [HO.out]; simp [h4]
          clear HO
          go_enter Tryd.func16, Tryd.ntmps16
          go_wp2_with fail
          go_ret
          exact ⟨by rw [HQ.out]; rfl, HB.out⟩
      · have HQ : Hid (o = false) := by show o = _; rw [HO.out]; simp [h3]
        clear HO
        go_enter Tryd.func16, Tryd.ntmps16
        go_wp2_with fail
        go_ret
        exact ⟨by rw [HQ.out]; rfl, HB.out⟩
    · have HQ : Hid (o = false) := by show o = _; rw [HO.out]; simp [h2]
      clear HO
      go_enter Tryd.func16, Tryd.ntmps16
      go_wp2_with fail
      go_ret
      exact ⟨by rw [HQ.out]; rfl, HB.out⟩
  · have HQ : Hid (o = false) := by show o = _; rw [HO.out]; simp [h1]
    clear HO
    go_enter Tryd.func16, Tryd.ntmps16
    go_wp2_with fail
    go_ret
    exact ⟨by rw [HQ.out]; rfl, HB.out⟩
end
end Go.Proofs.YtbpaamnofkhonaaDoor

/- The reference's Region of layer 13; the walk of SuperblockRegions. -/
namespace Go.Proofs.YtbpaamnofkhonaaDoor
open Go.RowKit Go.Maps
attribute [local go_sem ↓] Go.wp_at_zero Go.wp_at_succ

theorem regL_succ (s : Sup) (k : Nat) (hk : k < 9) : regL s (k + 1) = regL s k + (szL s).getD k 0 := by
  unfold regL szL
  obtain rfl | rfl | rfl | rfl | rfl | rfl | rfl | rfl | rfl : k = 0 ∨ k = 1 ∨ k = 2 ∨ k = 3 ∨ k = 4 ∨ k = 5 ∨ k = 6 ∨ k = 7 ∨ k = 8 := by omega
  all_goals rfl
theorem zL_szL (s : Sup) (k : Nat) (hk : k < 8) : (szL s).getD k 0 = (zL s).getD k 0 := by
  obtain rfl | rfl | rfl | rfl | rfl | rfl | rfl | rfl : k = 0 ∨ k = 1 ∨ k = 2 ∨ k = 3 ∨ k = 4 ∨ k = 5 ∨ k = 6 ∨ k = 7 := by omega
  all_goals rfl
theorem zL_bd {s : Sup} (h : s.Ok) (k : Nat) (hk : k < 8) : 0 ≤ (zL s).getD k 0 ∧ (zL s).getD k 0 ≤ 4096 := by
  obtain ⟨v1, v2, l1, l2, r1, u1, d1, q1, t1, r2, u2, d2, q2, t2, _⟩ := h
  obtain rfl | rfl | rfl | rfl | rfl | rfl | rfl | rfl : k = 0 ∨ k = 1 ∨ k = 2 ∨ k = 3 ∨ k = 4 ∨ k = 5 ∨ k = 6 ∨ k = 7 := by omega
  all_goals simp [zL]
  all_goals omega
theorem regL_bd {s : Sup} (h : s.Ok) (k : Nat) : k ≤ 8 → 0 ≤ regL s k ∧ regL s k ≤ 4096 * k := by
  induction k with
  | zero => intro _; exact ⟨by show (0 : Int) ≤ 0; omega, by show (0 : Int) ≤ 4096 * ((0 : Nat) : Int); omega⟩
  | succ k ih => intro hk; have h1 := ih (by omega); have h2 := zL_bd h k (by omega); rw [regL_succ s k (by omega), zL_szL s k (by omega)]; omega
theorem okB_ok {s : Sup} (h : s.okB = true) : s.Ok := by
  by_cases hk : s.Ok
  · exact hk
  · rw [Sup.okB_false hk] at h; cases h
section
variable {w : World}
set_option maxRecDepth 100000 in
set_option maxHeartbeats 4000000 in
theorem region13_bad (s : Sup) (r : Nat) (hr : r < 256) (h : ¬ s.Ok ∨ r < 1 ∨ 9 < r) : Calls Tryd.prog 14 #[.agg s.cells, .int .i64 r] w fun e w' => e = .returned (.tuple #[.int .i64 0, .int .i64 0, .int .i64 1]) ∧ Below w.heap.size w w' := by
  have hv := fun wx => valid13_any (w := wx) s
  rw [okR_eq] at hv
  have HV := Lib.hid hv
  have HB := Lib.hid (below_alloc w (.cells s.cells 26))
  clear hv
  by_cases hk : s.Ok
  · have h2 : r < 1 ∨ 9 < r := by rcases h with h | h; exact absurd hk h; exact h
    rw [Sup.okB_true hk] at HV
    obtain ⟨ver, lin, redo, und, desc, que, tab, gen⟩ := s
    unfold Sup.cells at *
    clear h hk
    by_cases h1 : r < 1
    · have e1 : (r : Int) < 1 := by omega
      clear h2 h1
      go_enter Tryd.func14, Tryd.ntmps14
      go_wp2_with fail
      (with_reducible refine (HV.out _).mono ?_)
      rintro e w1 ⟨rfl, b1⟩
      have B1 := Lib.hid (HB.out.trans (b1.mono HB.out.size)); clear b1
      go_wp2_with fail
      go_ret3
      exact ⟨rfl, B1.out⟩
    · have e1 : ¬ (r : Int) < 1 := by omega
      have e2 : (9 : Int) < (r : Int) := by omega
      clear h2 h1
      go_enter Tryd.func14, Tryd.ntmps14
      go_wp2_with fail
      (with_reducible refine (HV.out _).mono ?_)
      rintro e w1 ⟨rfl, b1⟩
      have B1 := Lib.hid (HB.out.trans (b1.mono HB.out.size)); clear b1
      go_wp2_with fail
      go_ret3
      exact ⟨rfl, B1.out⟩
  · rw [Sup.okB_false hk] at HV
    obtain ⟨ver, lin, redo, und, desc, que, tab, gen⟩ := s
    unfold Sup.cells at *
    clear h hk
    go_enter Tryd.func14, Tryd.ntmps14
    go_wp2_with fail
    (with_reducible refine (HV.out _).mono ?_)
    rintro e w1 ⟨rfl, b1⟩
    have B1 := Lib.hid (HB.out.trans (b1.mono HB.out.size)); clear b1
    go_wp2_with fail
    go_ret3
    exact ⟨rfl, B1.out⟩
set_option maxRecDepth 100000 in
set_option maxHeartbeats 4000000 in
theorem region13_any (s : Sup) (r : Nat) (hk : s.Ok) (h1 : 1 ≤ r) (h9 : r ≤ 9) : Calls Tryd.prog 14 #[.agg s.cells, .int .i64 r] w fun e w' => e = .returned (.tuple #[.int .i64 (regL s (r - 1)), .int .i64 ((szL s).getD (r - 1) 0), .int .i64 0]) ∧ Below w.heap.size w w' := by
  have hv := fun wx => valid13_any (w := wx) s
  rw [okR_eq, Sup.okB_true hk] at hv
  have HV := Lib.hid hv
  have HSZ := Lib.hid (fun wx => sizes_any (w := wx) s)
  have hre := fun wx => rest_any (w := wx) s
  have hR : restR s = s.rest := by
    have hb := zL_bd hk
    unfold restR
    rw [if_neg (by have := hk.l1; have := hk.l2; omega), if_pos]
    apply List.all_eq_true.2
    intro x hx
    obtain ⟨k, hk2, rfl⟩ := List.getElem_of_mem hx
    have hlen : (zL s).length = 8 := rfl
    have := hb k (by omega)
    rw [List.getD, List.getElem?_eq_getElem hk2] at this
    unfold inB
    exact decide_eq_true this
  rw [hR] at hre
  have HRE := Lib.hid hre
  have hrb : 32 ≤ s.rest ∧ s.rest ≤ 4096 := ⟨hk.h, by have := hk.l2; have := hk.r1; have := hk.u1; have := hk.d1; have := hk.q1; have := hk.t1; unfold Sup.rest; omega⟩
  have HH : Hid ((szL s).getD 8 0 = s.rest - s.rest % 32) := by show s.heap = _; unfold Sup.heap; rw [if_neg (by omega)]
  have HB := Lib.hid (below_alloc w (.cells s.cells 26))
  have HK := Lib.hid (Blk.new w s.cells 26)
  have HRB := Lib.hid (regL_bd hk)
  have HZB := Lib.hid (zL_bd hk)
  have HS := Lib.hid (regL_succ s)
  have HZZ := Lib.hid (zL_szL s)
  have HR0 : Hid (regL s 0 = 0) := rfl
  obtain ⟨m, hm⟩ : ∃ m, r - 1 = m := ⟨_, rfl⟩
  have hrm : (r : Int) - 1 = (m : Int) := by omega
  have hm8 : m ≤ 8 := by omega
  rw [hm]
  generalize regL s = rg at *
  generalize szL s = sz at *
  generalize zL s = z at *
  generalize s.rest = R at *
  obtain ⟨ver, lin, redo, und, desc, que, tab, gen⟩ := s
  unfold Sup.cells at *
  have e1 : ¬ (r : Int) < 1 := by omega
  have e2 : ¬ (9 : Int) < (r : Int) := by omega
  clear hv hre hR hk hm
  go_enter Tryd.func14, Tryd.ntmps14
  go_wp2_with fail
  (with_reducible refine (HV.out _).mono ?_)
  rintro e w1 ⟨rfl, b1⟩
  have B1 := Lib.hid (HB.out.trans (b1.mono HB.out.size))
  have K1 := Lib.hid (HK.out.below b1)
  clear b1
  have z0 : w1.cell? ⟨w.heap.size, 0, none⟩ = some (.int .i64 ver) := K1.out.cell rfl
  have z1 : w1.cell? ⟨w.heap.size, 1, none⟩ = some (.int .i64 lin) := K1.out.cell rfl
  have z2 : w1.cell? ⟨w.heap.size, 2, none⟩ = some (.int .i64 redo) := K1.out.cell rfl
  have z3 : w1.cell? ⟨w.heap.size, 3, none⟩ = some (.int .i64 und) := K1.out.cell rfl
  have z4 : w1.cell? ⟨w.heap.size, 4, none⟩ = some (.int .i64 desc) := K1.out.cell rfl
  have z5 : w1.cell? ⟨w.heap.size, 5, none⟩ = some (.int .i64 que) := K1.out.cell rfl
  have z6 : w1.cell? ⟨w.heap.size, 6, none⟩ = some (.int .i64 tab) := K1.out.cell rfl
  have z7 : w1.cell? ⟨w.heap.size, 7, none⟩ = some (.int .u64 gen) := K1.out.cell rfl
  go_wp2_with fail
  (with_reducible refine (HSZ.out _).mono ?_)
  rintro e w2 ⟨rfl, r2, b2⟩
  have R2 := Lib.hid r2
  have B2 := Lib.hid (B1.out.trans (b2.mono B1.out.size))
  have K2 := Lib.hid (K1.out.below b2)
  clear r2 b2 z0 z1 z2 z3 z4 z5 z6 z7
  generalize w1.heap.size + 1 = g at *
  go_wp2_with fail
  go_loopw [7, 24] (fun x y wr => ∃ k : Nat, k ≤ 8 ∧ k ≤ m ∧ y = .int .i64 k ∧ x = .int .i64 (rg k) ∧ wr = w2) (fun _ y _ => 8 - (intOf y).toNat)
  case atStart => exact ⟨0, by omega, by omega, rfl, by rw [HR0.out], rfl⟩
  case round =>
    obtain ⟨k, hk, hkm, rfl, rfl, rfl⟩ := hrel
    have hb := HRB.out k hk
    by_cases hlt : k < 8
    · have hlt' : (k : Int) < 8 := by omega
      have hc := R2.out.cell (i := k) hlt
      have hz := HZB.out k hlt
      have HSK := Lib.hid (HS.out k (by omega))
      rw [HZZ.out k hlt] at HSK
      have HZ2 := Lib.hid (HZZ.out k hlt)
      generalize hzk : z.getD k 0 = zk at *
      generalize hrk : rg k = rk at *
      have HRK := Lib.hid hrk; clear hrk hzk
      by_cases hkm2 : k = m
      · have hbm : ((k : Int) == (m : Int)) = true := by simp; omega
        have HKM := Lib.hid hkm2; clear hkm2
        go_wp2_with fail
        go_ret3
        exact ⟨by rw [← HKM.out, HRK.out, HZ2.out]; rfl, B2.out⟩
      · have hbm : ((k : Int) == (m : Int)) = false := by simp; omega
        go_wp2_with fail
        go_roundw
        case rel => exact ⟨k + 1, by omega, by omega, by go_num, by rw [HSK.out], by first | rfl | trivial⟩
        case measure => simp [intOf]; omega
    · obtain rfl : k = 8 := by omega
      obtain rfl : m = 8 := by omega
      have z0 : wr.cell? ⟨w.heap.size, 0, none⟩ = some (.int .i64 ver) := K2.out.cell rfl
      have z1 : wr.cell? ⟨w.heap.size, 1, none⟩ = some (.int .i64 lin) := K2.out.cell rfl
      have z2 : wr.cell? ⟨w.heap.size, 2, none⟩ = some (.int .i64 redo) := K2.out.cell rfl
      have z3 : wr.cell? ⟨w.heap.size, 3, none⟩ = some (.int .i64 und) := K2.out.cell rfl
      have z4 : wr.cell? ⟨w.heap.size, 4, none⟩ = some (.int .i64 desc) := K2.out.cell rfl
      have z5 : wr.cell? ⟨w.heap.size, 5, none⟩ = some (.int .i64 que) := K2.out.cell rfl
      have z6 : wr.cell? ⟨w.heap.size, 6, none⟩ = some (.int .i64 tab) := K2.out.cell rfl
      have z7 : wr.cell? ⟨w.heap.size, 7, none⟩ = some (.int .u64 gen) := K2.out.cell rfl
      have hR : Hid (R / 32 * 32 = R - R % 32) := by show R / 32 * 32 = R - R % 32; omega
      have ht : R.tdiv 32 = R / 32 := Int.tdiv_eq_ediv_of_nonneg (by omega)
      go_wp2_with fail
      (with_reducible refine (HRE.out _).mono ?_)
      rintro e w3 ⟨rfl, b3⟩
      have B3 := Lib.hid (B2.out.trans (b3.mono B2.out.size)); clear b3
      go_wp2_with fail
      go_ret3
      exact ⟨by rw [HH.out, ← hR.out]; rfl, B3.out⟩
/-- The law's two boxes. -/
structure Bx2 (w : World) (xb : Nat) (ver lin redo und desc que tab gen : Int) (wx : World) : Prop where
  a : Blk wx w.heap.size #[.int .i64 ver, .int .i64 lin, .int .i64 redo, .int .i64 und, .int .i64 desc, .int .i64 que, .int .i64 tab, .int .u64 gen] 24
  b : Blk wx xb #[.int .i64 ver, .int .i64 lin, .int .i64 redo, .int .i64 und, .int .i64 desc, .int .i64 que, .int .i64 tab, .int .u64 gen] 26
  bel : Below w.heap.size w wx
theorem Bx2.next {xb : Nat} {ver lin redo und desc que tab gen : Int} {wx wy : World} (h : Bx2 w xb ver lin redo und desc que tab gen wx) (hb : Below wx.heap.size wx wy) : Bx2 w xb ver lin redo und desc que tab gen wy := ⟨h.a.below hb, h.b.below hb, h.bel.trans (hb.mono h.bel.size)⟩
theorem Bx2.drew {xb : Nat} {ver lin redo und desc que tab gen : Int} {wx : World} (h : Bx2 w xb ver lin redo und desc que tab gen wx) : Bx2 w xb ver lin redo und desc que tab gen wx.drew := h.next ((Below.refl _ _).drew)
theorem Bx2.cells {xb : Nat} {ver lin redo und desc que tab gen : Int} {wx : World} (h : Bx2 w xb ver lin redo und desc que tab gen wx) : (fun wx => wx.cell? ⟨w.heap.size, 0, none⟩ = some (.int .i64 ver) ∧ wx.cell? ⟨w.heap.size, 1, none⟩ = some (.int .i64 lin) ∧ wx.cell? ⟨w.heap.size, 2, none⟩ = some (.int .i64 redo) ∧ wx.cell? ⟨w.heap.size, 3, none⟩ = some (.int .i64 und) ∧ wx.cell? ⟨w.heap.size, 4, none⟩ = some (.int .i64 desc) ∧ wx.cell? ⟨w.heap.size, 5, none⟩ = some (.int .i64 que) ∧ wx.cell? ⟨w.heap.size, 6, none⟩ = some (.int .i64 tab) ∧ wx.cell? ⟨w.heap.size, 7, none⟩ = some (.int .u64 gen) ∧ wx.cell? ⟨xb, 0, none⟩ = some (.int .i64 ver) ∧ wx.cell? ⟨xb, 1, none⟩ = some (.int .i64 lin) ∧ wx.cell? ⟨xb, 2, none⟩ = some (.int .i64 redo) ∧ wx.cell? ⟨xb, 3, none⟩ = some (.int .i64 und) ∧ wx.cell? ⟨xb, 4, none⟩ = some (.int .i64 desc) ∧ wx.cell? ⟨xb, 5, none⟩ = some (.int .i64 que) ∧ wx.cell? ⟨xb, 6, none⟩ = some (.int .i64 tab) ∧ wx.cell? ⟨xb, 7, none⟩ = some (.int .u64 gen)) wx := ⟨h.a.cell rfl, h.a.cell rfl, h.a.cell rfl, h.a.cell rfl, h.a.cell rfl, h.a.cell rfl, h.a.cell rfl, h.a.cell rfl, h.b.cell rfl, h.b.cell rfl, h.b.cell rfl, h.b.cell rfl, h.b.cell rfl, h.b.cell rfl, h.b.cell rfl, h.b.cell rfl⟩
theorem regions_two (s : Sup) (r : Nat) (hr : r < 256) : ∃ ln ls er : Int, (0 ≤ er ∧ er ≤ 1) ∧ (∀ wx : World, Calls Tryd.prog 13 #[.agg s.cells, .int .u8 r] wx fun e w' => e = .returned (.tuple #[.int .i64 ln, .int .i64 ls, .int .i64 er]) ∧ Below wx.heap.size wx w') ∧
    (∀ wx : World, Calls Tryd.prog 14 #[.agg s.cells, .int .i64 r] wx fun e w' => e = .returned (.tuple #[.int .i64 ln, .int .i64 ls, .int .i64 er]) ∧ Below wx.heap.size wx w') := by
  by_cases hk : s.Ok ∧ 1 ≤ r ∧ r ≤ 9
  · exact ⟨_, _, 0, by omega, fun wx => region_any s r hk.1 hk.2.1 hk.2.2, fun wx => region13_any s r hk.1 hk.2.1 hk.2.2⟩
  · have h : ¬ s.Ok ∨ r < 1 ∨ 9 < r := by
      by_cases h1 : s.Ok
      · exact .inr (Classical.byContradiction fun h => hk ⟨h1, by omega, by omega⟩)
      · exact .inl h1
    exact ⟨0, 0, 1, by omega, fun wx => region_bad s r hr h, fun wx => region13_bad s r hr h⟩
set_option maxRecDepth 100000 in
set_option maxHeartbeats 16000000 in
theorem superblockRegions_any (hN : Nib w) (s : Sup) (r : Nat) (hr : r < 256) : Calls Tryd.prog 3 #[.agg s.cells, .int .u8 r] w fun e w' => e = .returned (.bool true) ∧ Below w.heap.size w w' := by
  have HNB := Lib.hid hN; clear hN
  obtain ⟨ln, ls, er, her, hA, hB⟩ := regions_two s r hr
  have HA := Lib.hid hA; have HB := Lib.hid hB
  have HRL := Lib.hid (fun wx => real_any (w := wx) s)
  have HV := Lib.hid (fun wx => valid_any (w := wx) s)
  have hrv := fun wx => valid13_any (w := wx) s
  rw [okR_eq] at hrv
  have HRV := Lib.hid hrv
  generalize s.okB = ob at *
  obtain ⟨ver, lin, redo, und, desc, que, tab, gen⟩ := s
  unfold Sup.cells at *
  have BX := Lib.hid (below_alloc w (.cells #[.int .i64 ver, .int .i64 lin, .int .i64 redo, .int .i64 und, .int .i64 desc, .int .i64 que, .int .i64 tab, .int .u64 gen] 24))
  have KX := Lib.hid (Blk.new w #[.int .i64 ver, .int .i64 lin, .int .i64 redo, .int .i64 und, .int .i64 desc, .int .i64 que, .int .i64 tab, .int .u64 gen] 24)
  have b1 : ((ln : Int) == ln) = true := by simp
  have b2 : ((ls : Int) == ls) = true := by simp
  have b3 : ((er : Int) == er) = true := by simp
  have b4 : (ob == ob) = true := by simp
  clear hA hB hrv
  go_enter Tryd.func3, Tryd.ntmps3
  go_wp2_with fail
  (with_reducible refine (awake13 (HNB.out.below BX.out)).mono ?_)
  rintro e w1 ⟨rfl, c1⟩
  have K1 := Lib.hid (KX.out.below c1)
  have B1 := Lib.hid (BX.out.trans (c1.mono BX.out.size))
  have z0 : w1.cell? ⟨w.heap.size, 0, none⟩ = some (.int .i64 ver) := K1.out.cell rfl
  have z1 : w1.cell? ⟨w.heap.size, 1, none⟩ = some (.int .i64 lin) := K1.out.cell rfl
  have z2 : w1.cell? ⟨w.heap.size, 2, none⟩ = some (.int .i64 redo) := K1.out.cell rfl
  have z3 : w1.cell? ⟨w.heap.size, 3, none⟩ = some (.int .i64 und) := K1.out.cell rfl
  have z4 : w1.cell? ⟨w.heap.size, 4, none⟩ = some (.int .i64 desc) := K1.out.cell rfl
  have z5 : w1.cell? ⟨w.heap.size, 5, none⟩ = some (.int .i64 que) := K1.out.cell rfl
  have z6 : w1.cell? ⟨w.heap.size, 6, none⟩ = some (.int .i64 tab) := K1.out.cell rfl
  have z7 : w1.cell? ⟨w.heap.size, 7, none⟩ = some (.int .u64 gen) := K1.out.cell rfl
  have X2 : Hid (Bx2 w w1.heap.size ver lin redo und desc que tab gen (w1.alloc (.cells #[.int .i64 ver, .int .i64 lin, .int .i64 redo, .int .i64 und, .int .i64 desc, .int .i64 que, .int .i64 tab, .int .u64 gen] 26))) := ⟨K1.out.alloc _, Blk.new w1 _ _, B1.out.trans ((below_alloc w1 _).mono B1.out.size)⟩
  have hlt : w.heap.size < w1.heap.size := K1.out.lt
  clear c1 BX KX
  go_wp2_with fail
  (with_reducible refine (HRL.out _).mono ?_)
  rintro e w3 ⟨rfl, c3⟩
  have X3 := Lib.hid (X2.out.next c3)
  clear c3 X2 z0 z1 z2 z3 z4 z5 z6 z7 K1
  go_wp2_with fail
  (with_reducible refine (HA.out _).mono ?_)
  rintro e w4 ⟨rfl, c4⟩
  have X4 := Lib.hid (X3.out.next c4)
  clear c4 X3 HA
  have z0 : w4.cell? ⟨w.heap.size, 0, none⟩ = some (.int .i64 ver) := X4.out.a.cell rfl
  have y0 : w4.cell? ⟨w1.heap.size, 0, none⟩ = some (.int .i64 ver) := X4.out.b.cell rfl
  have z1 : w4.cell? ⟨w.heap.size, 1, none⟩ = some (.int .i64 lin) := X4.out.a.cell rfl
  have y1 : w4.cell? ⟨w1.heap.size, 1, none⟩ = some (.int .i64 lin) := X4.out.b.cell rfl
  have z2 : w4.cell? ⟨w.heap.size, 2, none⟩ = some (.int .i64 redo) := X4.out.a.cell rfl
  have y2 : w4.cell? ⟨w1.heap.size, 2, none⟩ = some (.int .i64 redo) := X4.out.b.cell rfl
  have z3 : w4.cell? ⟨w.heap.size, 3, none⟩ = some (.int .i64 und) := X4.out.a.cell rfl
  have y3 : w4.cell? ⟨w1.heap.size, 3, none⟩ = some (.int .i64 und) := X4.out.b.cell rfl
  have z4 : w4.cell? ⟨w.heap.size, 4, none⟩ = some (.int .i64 desc) := X4.out.a.cell rfl
  have y4 : w4.cell? ⟨w1.heap.size, 4, none⟩ = some (.int .i64 desc) := X4.out.b.cell rfl
  have z5 : w4.cell? ⟨w.heap.size, 5, none⟩ = some (.int .i64 que) := X4.out.a.cell rfl
  have y5 : w4.cell? ⟨w1.heap.size, 5, none⟩ = some (.int .i64 que) := X4.out.b.cell rfl
  have z6 : w4.cell? ⟨w.heap.size, 6, none⟩ = some (.int .i64 tab) := X4.out.a.cell rfl
  have y6 : w4.cell? ⟨w1.heap.size, 6, none⟩ = some (.int .i64 tab) := X4.out.b.cell rfl
  have z7 : w4.cell? ⟨w.heap.size, 7, none⟩ = some (.int .u64 gen) := X4.out.a.cell rfl
  have y7 : w4.cell? ⟨w1.heap.size, 7, none⟩ = some (.int .u64 gen) := X4.out.b.cell rfl
  go_wp2_with fail
  (with_reducible refine (HB.out _).mono ?_)
  rintro e w5 ⟨rfl, c5⟩
  have X5 := Lib.hid (X4.out.next c5)
  clear c5 X4 HB z0 z1 z2 z3 z4 z5 z6 z7 y0 y1 y2 y3 y4 y5 y6 y7
  have z0 : w5.cell? ⟨w.heap.size, 0, none⟩ = some (.int .i64 ver) := X5.out.a.cell rfl
  have y0 : w5.cell? ⟨w1.heap.size, 0, none⟩ = some (.int .i64 ver) := X5.out.b.cell rfl
  have z1 : w5.cell? ⟨w.heap.size, 1, none⟩ = some (.int .i64 lin) := X5.out.a.cell rfl
  have y1 : w5.cell? ⟨w1.heap.size, 1, none⟩ = some (.int .i64 lin) := X5.out.b.cell rfl
  have z2 : w5.cell? ⟨w.heap.size, 2, none⟩ = some (.int .i64 redo) := X5.out.a.cell rfl
  have y2 : w5.cell? ⟨w1.heap.size, 2, none⟩ = some (.int .i64 redo) := X5.out.b.cell rfl
  have z3 : w5.cell? ⟨w.heap.size, 3, none⟩ = some (.int .i64 und) := X5.out.a.cell rfl
  have y3 : w5.cell? ⟨w1.heap.size, 3, none⟩ = some (.int .i64 und) := X5.out.b.cell rfl
  have z4 : w5.cell? ⟨w.heap.size, 4, none⟩ = some (.int .i64 desc) := X5.out.a.cell rfl
  have y4 : w5.cell? ⟨w1.heap.size, 4, none⟩ = some (.int .i64 desc) := X5.out.b.cell rfl
  have z5 : w5.cell? ⟨w.heap.size, 5, none⟩ = some (.int .i64 que) := X5.out.a.cell rfl
  have y5 : w5.cell? ⟨w1.heap.size, 5, none⟩ = some (.int .i64 que) := X5.out.b.cell rfl
  have z6 : w5.cell? ⟨w.heap.size, 6, none⟩ = some (.int .i64 tab) := X5.out.a.cell rfl
  have y6 : w5.cell? ⟨w1.heap.size, 6, none⟩ = some (.int .i64 tab) := X5.out.b.cell rfl
  have z7 : w5.cell? ⟨w.heap.size, 7, none⟩ = some (.int .u64 gen) := X5.out.a.cell rfl
  have y7 : w5.cell? ⟨w1.heap.size, 7, none⟩ = some (.int .u64 gen) := X5.out.b.cell rfl
  have XD := Lib.hid X5.out.drew
  generalize w1.heap.size = xb at *
  go_upto_region 6 with fail
  go_region_held3 (fun wx => wx.cell? ⟨w.heap.size, 0, none⟩ = some (.int .i64 ver) ∧ wx.cell? ⟨w.heap.size, 1, none⟩ = some (.int .i64 lin) ∧ wx.cell? ⟨w.heap.size, 2, none⟩ = some (.int .i64 redo) ∧ wx.cell? ⟨w.heap.size, 3, none⟩ = some (.int .i64 und) ∧ wx.cell? ⟨w.heap.size, 4, none⟩ = some (.int .i64 desc) ∧ wx.cell? ⟨w.heap.size, 5, none⟩ = some (.int .i64 que) ∧ wx.cell? ⟨w.heap.size, 6, none⟩ = some (.int .i64 tab) ∧ wx.cell? ⟨w.heap.size, 7, none⟩ = some (.int .u64 gen) ∧ wx.cell? ⟨xb, 0, none⟩ = some (.int .i64 ver) ∧ wx.cell? ⟨xb, 1, none⟩ = some (.int .i64 lin) ∧ wx.cell? ⟨xb, 2, none⟩ = some (.int .i64 redo) ∧ wx.cell? ⟨xb, 3, none⟩ = some (.int .i64 und) ∧ wx.cell? ⟨xb, 4, none⟩ = some (.int .i64 desc) ∧ wx.cell? ⟨xb, 5, none⟩ = some (.int .i64 que) ∧ wx.cell? ⟨xb, 6, none⟩ = some (.int .i64 tab) ∧ wx.cell? ⟨xb, 7, none⟩ = some (.int .u64 gen)) (first | (with_reducible exact X8.out.cells) | (with_reducible exact X7.out.cells) | (with_reducible exact X6.out.cells) | (with_reducible exact XD.out.cells) | (with_reducible exact X5.out.cells)) (first | (go_at_call 12; (with_reducible refine (HRL.out _).mono ?_); rintro e w6 ⟨rfl, c6⟩; have X6 := Lib.hid (XD.out.next c6); clear c6) | (go_at_call 15; (with_reducible refine (HV.out _).mono ?_); rintro e w7 ⟨rfl, c7⟩; have X7 := Lib.hid (X6.out.next c7); clear c7) | (go_at_call 16; (with_reducible refine (HRV.out _).mono ?_); rintro e w8 ⟨rfl, c8⟩; have X8 := Lib.hid (X7.out.next c8); clear c8))
  all_goals go_wp2_with fail
  all_goals go_ret
  all_goals exact ⟨rfl, X8.out.bel⟩
end
end Go.Proofs.YtbpaamnofkhonaaDoor
