/- The walk of the law's awake. -/
import Derived.Test.YtahpadhejjlpoaaGreatDoorNcG
namespace Go.Proofs.YtahpadhejjlpoaaGreatDoor
open Go.RowKit Go.Maps
attribute [local go_sem ↓] Go.wp_at_zero Go.wp_at_succ

abbrev q8 : List (Nat × Nat × Int) := [(1, 0, 7), (1, 128, 7), (2, 0, 0), (2, 128, 0), (3, 0, 0), (1, 64, 1), (2, 64, 0), (3, 0, 0)]
theorem fnd8a : (fnd (Dev.fresh 4 (fun _ => 0)) (qOf 0 q8) 100).1 = 5 ∧ (fnd (Dev.fresh 4 (fun _ => 0)) (qOf 0 q8) 100).2.2 = 0 := ⟨by kernel_rfl, by kernel_rfl⟩
theorem fnd8b : (fnd (Dev.fresh 4 (fun _ => 0)) q8 100).2.2 = 1 := by kernel_rfl
theorem is8 : isOf 0 q8 = true := by kernel_rfl
theorem ok8 : ∀ e ∈ q8, OkQ 4 e := by
  intro e he
  simp only [q8, List.mem_cons, List.not_mem_nil, or_false] at he
  rcases he with rfl | rfl | rfl | rfl | rfl | rfl | rfl | rfl <;> exact ⟨by decide, by decide, by decide, by decide, by decide, by decide⟩
theorem pl8 : Plain54 q8 := by
  intro e he
  simp only [q8, List.mem_cons, List.not_mem_nil, or_false] at he
  rcases he with rfl | rfl | rfl | rfl | rfl | rfl | rfl | rfl <;> exact ⟨by decide, by decide⟩
section
variable {w : World}
set_option maxRecDepth 100000 in
set_option maxHeartbeats 8000000 in
theorem awake54 : Calls Tryz.prog 4 #[] w fun r w' => r = .returned (.bool true) ∧ Below w.heap.size w w' := by
  have R1 : Hid (RdSl (w.alloc (.cells #[.int .i64 0, .int .u64 0, .int .u64 7, .int .i64 0, .int .u64 128, .int .u64 7, .int .i64 1, .int .u64 0, .int .u64 0, .int .i64 1, .int .u64 128, .int .u64 0, .int .i64 2, .int .u64 0, .int .u64 0, .int .i64 0, .int .u64 64, .int .u64 1, .int .i64 1, .int .u64 64, .int .u64 0, .int .i64 2, .int .u64 0, .int .u64 0] 41)) 3 (.slice (some ⟨w.heap.size, 0, none⟩) 8 8) q8.length (refP q8)) := Lib.hid (by
    have := RdSl.new w #[.int .i64 0, .int .u64 0, .int .u64 7, .int .i64 0, .int .u64 128, .int .u64 7, .int .i64 1, .int .u64 0, .int .u64 0, .int .i64 1, .int .u64 128, .int .u64 0, .int .i64 2, .int .u64 0, .int .u64 0, .int .i64 0, .int .u64 64, .int .u64 1, .int .i64 1, .int .u64 64, .int .u64 0, .int .i64 2, .int .u64 0, .int .u64 0] 41 3 8 rfl
    exact this)
  have B1 := Lib.hid (below_alloc w (.cells #[.int .i64 0, .int .u64 0, .int .u64 7, .int .i64 0, .int .u64 128, .int .u64 7, .int .i64 1, .int .u64 0, .int .u64 0, .int .i64 1, .int .u64 128, .int .u64 0, .int .i64 2, .int .u64 0, .int .u64 0, .int .i64 0, .int .u64 64, .int .u64 1, .int .i64 1, .int .u64 64, .int .u64 0, .int .i64 2, .int .u64 0, .int .u64 0] 41))
  have HF := Lib.hid (fun (wx : World) (hx : RdSl wx 3 (.slice (some ⟨w.heap.size, 0, none⟩) 8 8) q8.length (refP q8)) => ncFind_any 4 _ q8 hx ok8 pl8 (by decide) (by omega) (by omega) 0 100 ⟨by omega, by omega⟩ (by omega))
  have HH := Lib.hid (fun (wx : World) (hx : RdSl wx 3 (.slice (some ⟨w.heap.size, 0, none⟩) 8 8) q8.length (refP q8)) => ncHolds_any 4 _ q8 hx ok8 pl8 (by decide) (by omega) (by omega) 100 (by omega) (by omega))
  unfold FiPost at HF
  rw [fnd8b] at HH
  simp only [is8] at HF
  rw [show ((100 : Int)).toNat = 100 from rfl, show ((4 : Nat) : Int) = 4 from rfl] at HF
  rw [show ((4 : Nat) : Int) = 4 from rfl, show ((100 : Nat) : Int) = 100 from rfl] at HH
  have H8 := Lib.hid fnd8a
  obtain ⟨Q, hQ⟩ : ∃ Q, qOf 0 q8 = Q := ⟨_, rfl⟩
  rw [hQ] at HF H8
  obtain ⟨q, hq⟩ : ∃ q, q8 = q := ⟨_, rfl⟩
  obtain ⟨D0, hD0⟩ : ∃ D0, Dev.fresh 4 (fun _ => 0) = D0 := ⟨_, rfl⟩
  rw [hD0] at HF H8
  have HR1 := Lib.hid (fun wx (hb : Below (w.alloc (.cells #[.int .i64 0, .int .u64 0, .int .u64 7, .int .i64 0, .int .u64 128, .int .u64 7, .int .i64 1, .int .u64 0, .int .u64 0, .int .i64 1, .int .u64 128, .int .u64 0, .int .i64 2, .int .u64 0, .int .u64 0, .int .i64 0, .int .u64 64, .int .u64 1, .int .i64 1, .int .u64 64, .int .u64 0, .int .i64 2, .int .u64 0, .int .u64 0] 41)).heap.size (w.alloc (.cells #[.int .i64 0, .int .u64 0, .int .u64 7, .int .i64 0, .int .u64 128, .int .u64 7, .int .i64 1, .int .u64 0, .int .u64 0, .int .i64 1, .int .u64 128, .int .u64 0, .int .i64 2, .int .u64 0, .int .u64 0, .int .i64 0, .int .u64 64, .int .u64 1, .int .i64 1, .int .u64 64, .int .u64 0, .int .i64 2, .int .u64 0, .int .u64 0] 41)) wx) => R1.out.below hb)
  clear hQ hD0
  rw [hq] at HF HH HR1 R1
  clear hq
  go_enter Tryz.func4, Tryz.ntmps4
  have K2 : Hid (Blk ((w.alloc (.cells #[.int .i64 0, .int .u64 0, .int .u64 7, .int .i64 0, .int .u64 128, .int .u64 7, .int .i64 1, .int .u64 0, .int .u64 0, .int .i64 1, .int .u64 128, .int .u64 0, .int .i64 2, .int .u64 0, .int .u64 0, .int .i64 0, .int .u64 64, .int .u64 1, .int .i64 1, .int .u64 64, .int .u64 0, .int .i64 2, .int .u64 0, .int .u64 0] 41)).alloc (.cells #[.slice (some ⟨w.heap.size, 0, none⟩) 8 8] 44)) (w.heap.size + 1) #[.slice (some ⟨w.heap.size, 0, none⟩) 8 8] 44) := Lib.hid (by
    have := Blk.new (w.alloc (.cells #[.int .i64 0, .int .u64 0, .int .u64 7, .int .i64 0, .int .u64 128, .int .u64 7, .int .i64 1, .int .u64 0, .int .u64 0, .int .i64 1, .int .u64 128, .int .u64 0, .int .i64 2, .int .u64 0, .int .u64 0, .int .i64 0, .int .u64 64, .int .u64 1, .int .i64 1, .int .u64 64, .int .u64 0, .int .i64 2, .int .u64 0, .int .u64 0] 41)) #[.slice (some ⟨w.heap.size, 0, none⟩) 8 8] 44
    rwa [World.size_alloc] at this)
  have B2 : Hid (Below (w.alloc (.cells #[.int .i64 0, .int .u64 0, .int .u64 7, .int .i64 0, .int .u64 128, .int .u64 7, .int .i64 1, .int .u64 0, .int .u64 0, .int .i64 1, .int .u64 128, .int .u64 0, .int .i64 2, .int .u64 0, .int .u64 0, .int .i64 0, .int .u64 64, .int .u64 1, .int .i64 1, .int .u64 64, .int .u64 0, .int .i64 2, .int .u64 0, .int .u64 0] 41)).heap.size (w.alloc (.cells #[.int .i64 0, .int .u64 0, .int .u64 7, .int .i64 0, .int .u64 128, .int .u64 7, .int .i64 1, .int .u64 0, .int .u64 0, .int .i64 1, .int .u64 128, .int .u64 0, .int .i64 2, .int .u64 0, .int .u64 0, .int .i64 0, .int .u64 64, .int .u64 1, .int .i64 1, .int .u64 64, .int .u64 0, .int .i64 2, .int .u64 0, .int .u64 0] 41)) ((w.alloc (.cells #[.int .i64 0, .int .u64 0, .int .u64 7, .int .i64 0, .int .u64 128, .int .u64 7, .int .i64 1, .int .u64 0, .int .u64 0, .int .i64 1, .int .u64 128, .int .u64 0, .int .i64 2, .int .u64 0, .int .u64 0, .int .i64 0, .int .u64 64, .int .u64 1, .int .i64 1, .int .u64 64, .int .u64 0, .int .i64 2, .int .u64 0, .int .u64 0] 41)).alloc (.cells #[.slice (some ⟨w.heap.size, 0, none⟩) 8 8] 44))) := Lib.hid (below_alloc _ _)
  have HF2 := Lib.hid (HF.out _ (HR1.out _ B2.out))
  clear HF
  go_wp2_with fail
  (with_reducible refine HF2.out.mono ?_)
  rintro r w1 ⟨⟨h1, _⟩ | ⟨_, hp⟩, b1⟩
  · exact absurd h1 (by decide)
  have B3 := Lib.hid (B2.out.trans (b1.mono B2.out.size))
  have K3 := Lib.hid (K2.out.below b1)
  clear b1 HF2 B2 K2
  rcases hp with ⟨h1, _⟩ | ⟨_, h2, _⟩ | ⟨_, h2, _⟩ | ⟨_, k, i, g, h2, _, _, rfl, _⟩
  · cases h1
  · rw [h2] at H8; exact absurd H8.out.2 (by decide)
  · rw [h2] at H8; exact absurd H8.out.2 (by decide)
  · have hk : k = 5 := by have := H8.out.1; rw [h2] at this; exact this
    subst hk
    obtain ⟨dm, hdm⟩ : ∃ dm, (D0.run 0 (Q.take 5)).dirtyL.length = dm := ⟨_, rfl⟩
    rw [hdm]
    clear h2 H8 hdm
    have K4 := Lib.hid (K3.out.alloc (.cells #[.int .i64 0, .int .i64 5, .slice (some ⟨g, 0, none⟩) dm dm] 28))
    have X4 := Lib.hid (Blk.new w1 #[.int .i64 0, .int .i64 5, .slice (some ⟨g, 0, none⟩) dm dm] 28)
    have B4 := Lib.hid (B3.out.trans ((below_alloc w1 (.cells #[.int .i64 0, .int .i64 5, .slice (some ⟨g, 0, none⟩) dm dm] 28)).mono B3.out.size))
    have HH2 := Lib.hid (HH.out _ (HR1.out _ B4.out))
    have k0 := K3.out.cell (i := 0) (v := .slice (some ⟨w.heap.size, 0, none⟩) 8 8) rfl
    have k0l := K3.out.lt
    clear HH HR1 B3
    go_wp2_with fail
    (with_reducible refine HH2.out.mono ?_)
    rintro r w2 ⟨⟨h1, _⟩ | ⟨_, rfl⟩, b2⟩
    · exact absurd h1 (by decide)
    · have X5 := Lib.hid (X4.out.below b2)
      have B5 := Lib.hid ((B1.out.trans ((B4.out).mono B1.out.size)).trans (b2.mono (Nat.le_trans B1.out.size B4.out.size)))
      have x0 := X5.out.cell (i := 0) rfl
      have x1 := X5.out.cell (i := 1) rfl
      clear b2 HH2 k0
      go_wp2_with fail
      go_ret
      exact ⟨rfl, B5.out⟩
end
end Go.Proofs.YtahpadhejjlpoaaGreatDoor
