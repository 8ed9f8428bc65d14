/- The walks of heapsort. -/
import Derived.Test.YtdidpppjkbgccaaDoorSortB
namespace Go.Proofs.YtdidpppjkbgccaaDoor
open Go.RowKit

section
variable {w : World} {g o c a b : Nat} {xs ys zs : List Int} {wr : World}
theorem i64_nat (p : Nat) (h : p ≤ 4611686018) : IntKind.i64.wrap (p : Int) = p := IntWalk.i64_in _ (by omega)
/-- While an element sinks: the heap but for it. -/
def SiftSt (w : World) (g o c : Nat) (xs : List Int) (f lo n r : Nat) (wr : World) : Prop := ∃ ys, MixSt w g o c xs (f + lo) (f + n) ys wr ∧ HeapBut ys f lo n r
theorem siftSt_swap {f lo n r k : Nat} (h : MixSt w g o c xs (f + lo) (f + n) ys wr ∧ HeapBut ys f lo n r) (hlo : lo ≤ r) (hk : k = 2 * r + 1 ∨ k = 2 * r + 2) (hkn : k < n) (hf : f + n ≤ xs.length)
    (hmax : ∀ c, (c = 2 * r + 1 ∨ c = 2 * r + 2) → c < n → at0 ys (f + c) ≤ at0 ys (f + k)) (hlt : at0 ys (f + r) < at0 ys (f + k)) {p q : Nat} (hp : f + r = p) (hq : f + k = q) :
    SiftSt w g o c xs f lo n k ((wr.setCell ⟨g, o + p, none⟩ (.int .u64 (at0 ys q))).setCell ⟨g, o + q, none⟩ (.int .u64 (at0 ys p))).drew := by
  subst hp hq
  exact ⟨_, h.1.swap (f + r) (f + k) (by omega) (by omega) (by omega) (by omega) hf, h.2.step hlo hk hkn (by rw [h.1.len]; exact hf) hmax hlt⟩
theorem sift_max {f ch pc pd r z : Nat} (hl : at0 ys pc < at0 ys pd) (h1 : f + ch = pc) (h2 : f + ch + 1 = pd) (h3 : 2 * r + 1 = ch) (hz : z = 2 * r + 1 ∨ z = 2 * r + 2) : at0 ys (f + z) ≤ at0 ys (f + (ch + 1)) := by
  rw [show f + (ch + 1) = pd by omega]
  rcases hz with rfl | rfl
  · rw [h3, h1]; omega
  · rw [show f + (2 * r + 2) = pd by omega]; omega
theorem sift_max' {f ch pc pd r z : Nat} (hl : ¬ at0 ys pc < at0 ys pd) (h1 : f + ch = pc) (h2 : f + ch + 1 = pd) (h3 : 2 * r + 1 = ch) (hz : z = 2 * r + 1 ∨ z = 2 * r + 2) : at0 ys (f + z) ≤ at0 ys (f + ch) := by
  rw [h1]
  rcases hz with rfl | rfl
  · rw [h3, h1]; omega
  · rw [show f + (2 * r + 2) = pd by omega]; omega
theorem sift_only {f ch r z n : Nat} (h2 : ¬ ch + 1 < n) (h3 : 2 * r + 1 = ch) (hz : z = 2 * r + 1 ∨ z = 2 * r + 2) (hn : z < n) : at0 ys (f + z) ≤ at0 ys (f + ch) := by
  rcases hz with rfl | rfl
  · rw [h3]; exact Int.le_refl _
  · omega
set_option maxRecDepth 100000 in
set_option maxHeartbeats 8000000 in
theorem siftDown_any (h : WrU w g o c xs) (f lo n : Nat) (hf : f + n ≤ xs.length) (hs : xs.length ≤ 100000) (hlo : lo ≤ 100000) (hh : HeapBut xs f lo n lo) :
    Calls Tryd.prog 83 #[.slice (some ⟨g, o, none⟩) xs.length c, .int .i64 lo, .int .i64 n, .int .i64 f] w fun r w' => r = .returned (.tuple #[]) ∧ ∃ ys, MixSt w g o c xs (f + lo) (f + n) ys w' ∧ Heap ys f lo n := by
  have hm := h.le
  unfold maxLen at hm
  have H : Hid (SiftSt w g o c xs f lo n lo w) := Lib.hid ⟨xs, MixSt.refl h _ _, hh⟩; clear h hh
  have HF := Lib.hid hf
  generalize hn : xs.length = m at *
  have HN := Lib.hid hn; clear hn
  go_enter Tryd.func83, Tryd.ntmps83
  go_wp2_with fail
  go_loopw [8, 9] (fun x _ wr => ∃ r : Nat, lo ≤ r ∧ r ≤ 100000 ∧ x = .int .i64 r ∧ SiftSt w g o c xs f lo n r wr) (fun x _ _ => n - (intOf x).toNat)
  case atStart => exact ⟨lo, by omega, hlo, rfl, H.out⟩
  case round =>
    obtain ⟨r, hr1, hr2, rfl, ys, hM, hB⟩ := hrel
    have hyl : ys.length = m := by rw [hM.len, HN.out]
    have M := Lib.hid (And.intro hM hB)
    clear H hB
    obtain ⟨ch, hch⟩ : ∃ ch, 2 * r + 1 = ch := ⟨_, rfl⟩
    have q1 : (2 : Int) * r + 1 = ch := by omega
    by_cases h1 : n ≤ ch
    · have h1' : (n : Int) ≤ ch := by omega
      clear hM
      go_wp2_with fail
      go_end0
      exact ⟨rfl, ys, M.out.1, M.out.2.stop (fun c h2 h3 => by omega)⟩
    · have h1' : ¬ (n : Int) ≤ ch := by omega
      have hg := hM.own.lt
      obtain ⟨pr, hpr⟩ : ∃ p, f + r = p := ⟨_, rfl⟩
      obtain ⟨pc, hpc⟩ : ∃ p, f + ch = p := ⟨_, rfl⟩
      have q2 : (f : Int) + r = pr := by omega
      have q3 : (f : Int) + ch = pc := by omega
      have c1 := hM.own.cell pr (by omega); have c2 := hM.own.cell pc (by omega)
      have w1 := i64_nat pr (by omega); have w2 := i64_nat pc (by omega)
      have b1 : (pr : Int) < m := by omega
      have b2 : (pc : Int) < m := by omega
      by_cases h2 : ch + 1 < n
      · obtain ⟨pd, hpd⟩ : ∃ p, f + ch + 1 = p := ⟨_, rfl⟩
        have q4 : (pc : Int) + 1 = pd := by omega
        have q5 : (f : Int) + (ch + 1) = pd := by omega
        have c3 := hM.own.cell pd (by omega)
        have w3 := i64_nat pd (by omega)
        have b3 : (pd : Int) < m := by omega
        have h2' : (ch : Int) + 1 < n := by omega
        have w4 : IntKind.i64.wrap ((ch : Int) + 1) = (ch : Int) + 1 := IntWalk.i64_in _ (by omega)
        have E := Lib.hid (And.intro hpr (And.intro hpc (And.intro hpd hch)))
        clear hM hpr hpc hpd hch
        by_cases hl : at0 ys pc < at0 ys pd
        · have hd : decide (at0 ys pc < at0 ys pd) = true := by simpa using hl
          have LQ := Lib.hid (less_is _ _ _ hd)
          have HMX : Hid (∀ z, (z = 2 * r + 1 ∨ z = 2 * r + 2) → z < n → at0 ys (f + z) ≤ at0 ys (f + (ch + 1))) := Lib.hid (fun z hz1 hz2 => sift_max hl E.out.2.1 E.out.2.2.1 E.out.2.2.2 hz1)
          clear hd hl
          go_wp2_with fail
          go_quiet ((go_at_call 78; exact Calls.quiet_of_same (LQ.out _)))
          clear c3
          go_wp2_with fail
          obtain ⟨wq, hwq⟩ : ∃ wq, wr.drewN nq = wq := ⟨_, rfl⟩
          rw [hwq]
          have M2 : Hid (MixSt w g o c xs (f + lo) (f + n) ys wq ∧ HeapBut ys f lo n r) := Lib.hid ⟨by rw [← hwq]; exact M.out.1.drewN _, M.out.2⟩
          clear hwq c1 c2
          have d1 := M2.out.1.own.cell pr (by omega); have d2 := M2.out.1.own.cell pd (by omega)
          have hgq := M2.out.1.own.lt
          by_cases hl2 : at0 ys pr < at0 ys pd
          · have hd : decide (at0 ys pr < at0 ys pd) = true := by simpa using hl2
            have LQ := Lib.hid (less_is _ _ _ hd); have HL2 := Lib.hid hl2; clear hd hl2
            go_quiet ((go_at_call 78; exact Calls.quiet_of_same (LQ.out _)))
            go_wp2_with fail
            obtain ⟨wz, hwz⟩ : ∃ wz, wq.drewN nq = wz := ⟨_, rfl⟩
            rw [hwz]
            have M3 : Hid (MixSt w g o c xs (f + lo) (f + n) ys wz ∧ HeapBut ys f lo n r) := Lib.hid ⟨by rw [← hwz]; exact M2.out.1.drewN _, M2.out.2⟩
            clear hwz d1 d2
            have x1 := M3.out.1.own.cell pr (by omega); have x2 := M3.out.1.own.cell pd (by omega)
            have f1 := M3.out.1.own.frozen (o + pr); have f2 := M3.out.1.own.frozen (o + pd)
            have hgz := M3.out.1.own.lt
            have hne : ¬ o + pd = o + pr := by have := E.out; omega
            go_region
            all_goals go_wp2_with fail
            all_goals
              go_roundw
              case rel => exact ⟨ch + 1, by have := E.out; omega, by omega, by go_num, siftSt_swap M3.out hr1 (by have := E.out; omega) (by omega) (by rw [HN.out]; exact HF.out) (fun z hz1 hz2 => HMX.out z hz1 hz2) (by rw [E.out.1, (show f + (ch + 1) = pd by have := E.out; omega)]; exact HL2.out) E.out.1 (show f + (ch + 1) = pd by have := E.out; omega)⟩
              case measure => simp [intOf]; have := E.out; omega
          · have hd : decide (at0 ys pr < at0 ys pd) = false := by simpa using hl2
            have LQ := Lib.hid (less_is _ _ _ hd); have HL2 := Lib.hid hl2; clear hd hl2
            go_quiet ((go_at_call 78; exact Calls.quiet_of_same (LQ.out _)))
            go_wp2_with fail
            (try simp only [Exit.inBlock, Exit.then]); refine bodyPost_ret (results_none rfl _ _ _) rfl ?_
            refine ⟨rfl, ys, M2.out.1.drewN _, M2.out.2.stop (fun z hz1 hz2 => ?_)⟩
            have hz : at0 ys (f + z) ≤ at0 ys pd := by
              rw [← (show f + (ch + 1) = pd by have := E.out; omega)]; exact HMX.out z hz1 hz2
            have := HL2.out
            rw [E.out.1]
            omega
        · have hd : decide (at0 ys pc < at0 ys pd) = false := by simpa using hl
          have LQ := Lib.hid (less_is _ _ _ hd)
          have HMX : Hid (∀ z, (z = 2 * r + 1 ∨ z = 2 * r + 2) → z < n → at0 ys (f + z) ≤ at0 ys (f + ch)) := Lib.hid (fun z hz1 hz2 => sift_max' hl E.out.2.1 E.out.2.2.1 E.out.2.2.2 hz1)
          clear hd hl
          go_wp2_with fail
          go_quiet ((go_at_call 78; exact Calls.quiet_of_same (LQ.out _)))
          clear c3
          go_wp2_with fail
          obtain ⟨wq, hwq⟩ : ∃ wq, wr.drewN nq = wq := ⟨_, rfl⟩
          rw [hwq]
          have M2 : Hid (MixSt w g o c xs (f + lo) (f + n) ys wq ∧ HeapBut ys f lo n r) := Lib.hid ⟨by rw [← hwq]; exact M.out.1.drewN _, M.out.2⟩
          clear hwq c1 c2
          have d1 := M2.out.1.own.cell pr (by omega); have d2 := M2.out.1.own.cell pc (by omega)
          have hgq := M2.out.1.own.lt
          by_cases hl2 : at0 ys pr < at0 ys pc
          · have hd : decide (at0 ys pr < at0 ys pc) = true := by simpa using hl2
            have LQ := Lib.hid (less_is _ _ _ hd); have HL2 := Lib.hid hl2; clear hd hl2
            go_quiet ((go_at_call 78; exact Calls.quiet_of_same (LQ.out _)))
            go_wp2_with fail
            obtain ⟨wz, hwz⟩ : ∃ wz, wq.drewN nq = wz := ⟨_, rfl⟩
            rw [hwz]
            have M3 : Hid (MixSt w g o c xs (f + lo) (f + n) ys wz ∧ HeapBut ys f lo n r) := Lib.hid ⟨by rw [← hwz]; exact M2.out.1.drewN _, M2.out.2⟩
            clear hwz d1 d2
            have x1 := M3.out.1.own.cell pr (by omega); have x2 := M3.out.1.own.cell pc (by omega)
            have f1 := M3.out.1.own.frozen (o + pr); have f2 := M3.out.1.own.frozen (o + pc)
            have hgz := M3.out.1.own.lt
            have hne : ¬ o + pc = o + pr := by have := E.out; omega
            go_region
            all_goals go_wp2_with fail
            all_goals
              go_roundw
              case rel => exact ⟨ch, by have := E.out; omega, by omega, by go_num, siftSt_swap M3.out hr1 (by have := E.out; omega) (by omega) (by rw [HN.out]; exact HF.out) (fun z hz1 hz2 => HMX.out z hz1 hz2) (by rw [E.out.1, (show f + ch = pc from E.out.2.1)]; exact HL2.out) E.out.1 ((show f + ch = pc from E.out.2.1))⟩
              case measure => simp [intOf]; have := E.out; omega
          · have hd : decide (at0 ys pr < at0 ys pc) = false := by simpa using hl2
            have LQ := Lib.hid (less_is _ _ _ hd); have HL2 := Lib.hid hl2; clear hd hl2
            go_quiet ((go_at_call 78; exact Calls.quiet_of_same (LQ.out _)))
            go_wp2_with fail
            (try simp only [Exit.inBlock, Exit.then]); refine bodyPost_ret (results_none rfl _ _ _) rfl ?_
            refine ⟨rfl, ys, M2.out.1.drewN _, M2.out.2.stop (fun z hz1 hz2 => ?_)⟩
            have hz : at0 ys (f + z) ≤ at0 ys pc := by
              rw [← (show f + ch = pc from E.out.2.1)]; exact HMX.out z hz1 hz2
            have := HL2.out
            rw [E.out.1]
            omega
      · have h2' : decide ((ch : Int) + 1 < n) = false := by simp; omega
        have w4 : IntKind.i64.wrap ((ch : Int) + 1) = (ch : Int) + 1 := IntWalk.i64_in _ (by omega)
        have E := Lib.hid (And.intro hpr (And.intro hpc hch))
        have HMX : Hid (∀ z, (z = 2 * r + 1 ∨ z = 2 * r + 2) → z < n → at0 ys (f + z) ≤ at0 ys (f + ch)) := Lib.hid (fun z hz1 hz2 => sift_only h2 hch hz1 hz2)
        clear hM hpr hpc hch
        go_wp2_with fail
        go_quiet (fail)
        go_wp2_with fail
        obtain ⟨wq, hwq⟩ : ∃ wq, wr.drewN nq = wq := ⟨_, rfl⟩
        rw [hwq]
        have M2 : Hid (MixSt w g o c xs (f + lo) (f + n) ys wq ∧ HeapBut ys f lo n r) := Lib.hid ⟨by rw [← hwq]; exact M.out.1.drewN _, M.out.2⟩
        clear hwq c1 c2
        have d1 := M2.out.1.own.cell pr (by omega); have d2 := M2.out.1.own.cell pc (by omega)
        have hgq := M2.out.1.own.lt
        by_cases hl2 : at0 ys pr < at0 ys pc
        · have hd : decide (at0 ys pr < at0 ys pc) = true := by simpa using hl2
          have LQ := Lib.hid (less_is _ _ _ hd); have HL2 := Lib.hid hl2; clear hd hl2
          go_quiet ((go_at_call 78; exact Calls.quiet_of_same (LQ.out _)))
          go_wp2_with fail
          obtain ⟨wz, hwz⟩ : ∃ wz, wq.drewN nq = wz := ⟨_, rfl⟩
          rw [hwz]
          have M3 : Hid (MixSt w g o c xs (f + lo) (f + n) ys wz ∧ HeapBut ys f lo n r) := Lib.hid ⟨by rw [← hwz]; exact M2.out.1.drewN _, M2.out.2⟩
          clear hwz d1 d2
          have x1 := M3.out.1.own.cell pr (by omega); have x2 := M3.out.1.own.cell pc (by omega)
          have f1 := M3.out.1.own.frozen (o + pr); have f2 := M3.out.1.own.frozen (o + pc)
          have hgz := M3.out.1.own.lt
          have hne : ¬ o + pc = o + pr := by have := E.out; omega
          go_region
          all_goals go_wp2_with fail
          all_goals
            go_roundw
            case rel => exact ⟨ch, by have := E.out; omega, by omega, by go_num, siftSt_swap M3.out hr1 (by have := E.out; omega) (by omega) (by rw [HN.out]; exact HF.out) (fun z hz1 hz2 => HMX.out z hz1 hz2) (by rw [E.out.1, (show f + ch = pc from E.out.2.1)]; exact HL2.out) E.out.1 ((show f + ch = pc from E.out.2.1))⟩
            case measure => simp [intOf]; have := E.out; omega
        · have hd : decide (at0 ys pr < at0 ys pc) = false := by simpa using hl2
          have LQ := Lib.hid (less_is _ _ _ hd); have HL2 := Lib.hid hl2; clear hd hl2
          go_quiet ((go_at_call 78; exact Calls.quiet_of_same (LQ.out _)))
          go_wp2_with fail
          (try simp only [Exit.inBlock, Exit.then]); refine bodyPost_ret (results_none rfl _ _ _) rfl ?_
          refine ⟨rfl, ys, M2.out.1.drewN _, M2.out.2.stop (fun z hz1 hz2 => ?_)⟩
          have hz : at0 ys (f + z) ≤ at0 ys pc := by
            rw [← (show f + ch = pc from E.out.2.1)]; exact HMX.out z hz1 hz2
          have := HL2.out
          rw [E.out.1]
          omega

theorem heap_swap {f k : Nat} (h : Heap ys f 0 (k + 1)) (hf : f + k < ys.length) : HeapBut (swp ys f (f + k)) f 0 k 0 := by
  have e := fun q => at0_swp ys f (f + k) q (by omega) hf
  refine ⟨fun i z h1 h2 h3 h4 => ?_, fun i z h1 h2 h3 h4 => by omega⟩
  rw [e, e, if_neg (by omega), if_neg (by omega), if_neg (by omega), if_neg (by omega)]
  exact h i z h1 h3 (by omega)
def HeapSt (w : World) (g o c : Nat) (xs : List Int) (a b k : Nat) (wr : World) : Prop := ∃ ys, MixSt w g o c xs a b ys wr ∧ Heap ys a k (b - a)
def PopSt (w : World) (g o c : Nat) (xs : List Int) (a b k : Nat) (wr : World) : Prop := ∃ ys, MixSt w g o c xs a b ys wr ∧ Popped ys a k (b - a)
set_option maxRecDepth 100000 in
set_option maxHeartbeats 8000000 in
theorem heapSort_any (h : WrU w g o c xs) (hab : a < b) (hb : b ≤ xs.length) (hs : xs.length ≤ 100000) :
    Calls Tryd.prog 73 #[.slice (some ⟨g, o, none⟩) xs.length c, .int .i64 a, .int .i64 b] w fun r w' => r = .returned (.tuple #[]) ∧ SortPost w g o c xs a b w' := by
  have hm := h.le
  unfold maxLen at hm
  have H : Hid (MixSt w g o c xs a b xs w) := Lib.hid (MixSt.refl h a b); clear h
  have HB := Lib.hid hb
  have HS := Lib.hid (fun wx (zs : List Int) (hz : WrU wx g o c zs) (hl : zs.length = xs.length) (k i : Nat) (hki : k ≤ 100000 ∧ a + i ≤ b) (hh : HeapBut zs a k i k) => by
    have := siftDown_any hz a k i (by omega) (by omega) (by omega) hh
    rw [hl] at this
    exact this)
  have HS0 := Lib.hid (fun wx (zs : List Int) (hz : WrU wx g o c zs) (hl : zs.length = xs.length) (i : Nat) (hki : a + i ≤ b) (hh : HeapBut zs a 0 i 0) => by
    have := siftDown_any hz a 0 i (by omega) (by omega) (by omega) hh
    rw [hl, show ((0 : Nat) : Int) = 0 from rfl] at this
    exact this)
  have HS00 := Lib.hid (fun wx (zs : List Int) (hz : WrU wx g o c zs) (hl : zs.length = xs.length) (hki : a ≤ b) (hh : HeapBut zs a 0 0 0) => by
    have := siftDown_any hz a 0 0 (by omega) (by omega) (by omega) hh
    rw [hl, show ((0 : Nat) : Int) = 0 from rfl] at this
    exact this)
  generalize hn : xs.length = m at *
  have HN := Lib.hid hn; clear hn
  obtain ⟨n, hbn⟩ : ∃ n, b = a + n := ⟨b - a, by omega⟩
  have q1 : (b : Int) - a = n := by omega
  have q2 : b - a = n := by omega
  have HQ := Lib.hid q2; have HBN := Lib.hid hbn
  obtain ⟨hf, hhf⟩ : ∃ h, (n - 1) / 2 = h := ⟨_, rfl⟩
  have q3 : ((n : Int) - 1) / 2 = hf := by omega
  have q4 : (0 : Int) ≤ (n : Int) - 1 := by omega
  have q5 : (1 : Int) ≤ (n : Int) := by omega
  have HH := Lib.hid hhf; clear hhf q2 hbn
  go_enter Tryd.func73, Tryd.ntmps73
  go_wp2_with fail
  rw [q3]
  go_loopw [9] (fun x wr => ∃ k : Nat, k ≤ hf + 1 ∧ x = .int .i64 ((k : Int) - 1) ∧ HeapSt w g o c xs a b k wr) (fun x _ => (intOf x + 1).toNat)
  case atStart => exact ⟨hf + 1, by omega, by rw [show (((hf + 1 : Nat) : Int) - 1) = hf by omega], xs, H.out, by rw [HQ.out, ← HH.out]; exact Heap.leaves _ _ _⟩
  case round =>
    obtain ⟨k, hk, hx, ys, hM, hP⟩ := hrel
    have M := Lib.hid (And.intro hM hP); clear hM hP H
    by_cases h0 : k = 0
    · subst h0
      rw [show ((0 : Nat) : Int) - 1 = -1 from rfl] at hx
      subst hx
      go_wp2_with fail
      go_loopw [10] (fun x wr => ∃ k : Nat, k ≤ n ∧ x = .int .i64 ((k : Int) - 1) ∧ PopSt w g o c xs a b k wr) (fun x _ => (intOf x + 1).toNat)
      case atStart => exact ⟨n, Nat.le_refl _, rfl, ys, M.out.1, by rw [HQ.out]; exact Popped.start (by have := M.out.2; rwa [HQ.out] at this)⟩
      case round =>
        clear M
        obtain ⟨k, hk, hx, ys, hM, hP⟩ := hrel
        rw [HQ.out] at hP
        have hyl : ys.length = m := by rw [hM.len, HN.out]
        have M := Lib.hid (And.intro hM hP)
        by_cases h0 : k = 0
        · subst h0
          rw [show ((0 : Nat) : Int) - 1 = -1 from rfl] at hx
          subst hx
          clear hM hP hyl
          go_wp2_with fail
          go_end0
          exact ⟨rfl, ys, M.out.1.mix, by have := M.out.2.done; rwa [← HBN.out] at this, M.out.1.own, M.out.1.upd⟩
        · obtain ⟨j, rfl⟩ : ∃ j, k = j + 1 := ⟨k - 1, by omega⟩
          rw [show ((j + 1 : Nat) : Int) - 1 = j by omega] at hx
          subst hx
          clear h0 hP
          have hg := hM.own.lt
          have c1 := hM.own.cell a (by omega)
          have f1 := hM.own.frozen (o + a)
          by_cases hj : j = 0
          · subst hj
            have b1 : (a : Int) < m := by omega
            have w1 := i64_nat a (by omega)
            clear hM hyl
            go_wp2_with fail
            go_region
            all_goals go_wp2_with fail
            all_goals
              have M2 := Lib.hid (M.out.1.swap a a (Nat.le_refl _) (by have := HBN.out; omega) (by omega) (by have := HBN.out; omega) (by rw [HN.out]; exact HB.out))
              generalize ((wr.setCell ⟨g, o + a, none⟩ (.int .u64 (at0 ys a))).setCell ⟨g, o + a, none⟩ (.int .u64 (at0 ys a))).drew = wz at *
              (with_reducible refine (HS00.out _ (swp ys a a) M2.out.own (by rw [M2.out.len, HN.out]) (by have := HBN.out; omega) (by have := heap_swap M.out.2.heap (by rw [M.out.1.len, HN.out]; have := HBN.out; have := HB.out; omega); rwa [Nat.add_zero] at this)).mono ?_)
              rintro e w1 ⟨rfl, zs, m1, hp1⟩
              have M3 : Hid (PopSt w g o c xs a b 0 w1) := Lib.hid ⟨zs, M2.out.trans (m1.mono (by omega) (by have := HBN.out; omega)), by rw [HQ.out]; exact M.out.2.step (by omega) (by rw [M.out.1.len, HN.out, ← HBN.out]; exact HB.out) (by skip; have := m1.mix; exact this) hp1⟩
              clear m1 hp1
              go_wp2_with fail
              go_roundw
              case rel => exact ⟨0, by omega, rfl, M3.out⟩
              case measure => first | (simp [intOf]; done) | (simp [intOf]; omega)
          · obtain ⟨p, hp⟩ : ∃ p, a + j = p := ⟨_, rfl⟩
            have q6 : (a : Int) + j = p := by omega
            have c2 := hM.own.cell p (by omega)
            have f2 := hM.own.frozen (o + p)
            have hne : ¬ o + p = o + a := by omega
            have b1 : (p : Int) < m := by omega
            have w1 := i64_nat p (by omega)
            have HP := Lib.hid hp
            clear hM hyl hp
            go_wp2_with fail
            go_region
            all_goals go_wp2_with fail
            all_goals
              have M2 := Lib.hid (M.out.1.swap a p (Nat.le_refl _) (by have := HBN.out; omega) (by omega) (by have := HBN.out; omega) (by rw [HN.out]; exact HB.out))
              generalize ((wr.setCell ⟨g, o + a, none⟩ (.int .u64 (at0 ys p))).setCell ⟨g, o + p, none⟩ (.int .u64 (at0 ys a))).drew = wz at *
              (with_reducible refine (HS0.out _ (swp ys a p) M2.out.own (by rw [M2.out.len, HN.out]) j (by have := HBN.out; omega) (by have := heap_swap M.out.2.heap (by rw [M.out.1.len, HN.out]; have := HBN.out; have := HB.out; omega); rwa [HP.out] at this)).mono ?_)
              rintro e w1 ⟨rfl, zs, m1, hp1⟩
              have M3 : Hid (PopSt w g o c xs a b j w1) := Lib.hid ⟨zs, M2.out.trans (m1.mono (by omega) (by have := HBN.out; omega)), by rw [HQ.out]; exact M.out.2.step (by omega) (by rw [M.out.1.len, HN.out, ← HBN.out]; exact HB.out) (by rw [HP.out]; have := m1.mix; rwa [HP.out] at this) hp1⟩
              clear m1 hp1
              go_wp2_with fail
              go_roundw
              case rel => exact ⟨j, by omega, rfl, M3.out⟩
              case measure => first | (simp [intOf]; done) | (simp [intOf]; omega)
    · obtain ⟨j, rfl⟩ : ∃ j, k = j + 1 := ⟨k - 1, by omega⟩
      rw [show ((j + 1 : Nat) : Int) - 1 = j by omega] at hx
      subst hx
      clear h0
      go_wp2_with fail
      (with_reducible refine (HS.out _ ys M.out.1.own (by rw [M.out.1.len, HN.out]) j n (by have := HH.out; omega) (by have := M.out.2; rw [HQ.out] at this; exact this.but)).mono ?_)
      rintro e w1 ⟨rfl, zs, m1, hp1⟩
      have M1 : Hid (HeapSt w g o c xs a b j w1) := Lib.hid ⟨zs, M.out.1.trans (m1.mono (by omega) (by rw [HBN.out]; exact Nat.le_refl _)), by rw [HQ.out]; exact hp1⟩
      clear m1 hp1
      go_wp2_with fail
      go_roundw
      case rel => exact ⟨j, by omega, rfl, M1.out⟩
      case measure => first | (simp [intOf]; done) | (simp [intOf]; omega)
end
end Go.Proofs.YtdidpppjkbgccaaDoor
