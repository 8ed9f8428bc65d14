/- The walks of the six protocols' makers and of the law's list of them. -/
import Derived.Test.YtahpadhejjlpoaaGreatDoorNcS
import Derived.Laws.EntriesVeiled
namespace Go.Proofs.YtahpadhejjlpoaaGreatDoor
open Go.RowKit Go.Maps
attribute [local go_sem ↓] Go.wp_at_zero Go.wp_at_succ

section
variable {w : World}
/-- A pointer to a protocol of the system. -/
def SyPost (wx : World) (r : Ending) (w' : World) : Prop := ∃ g : Nat, r = .returned (.iface 106 (.pointer (some ⟨g, 0, none⟩))) ∧ Below wx.heap.size wx w'
set_option maxHeartbeats 2000000 in
theorem ncSuperblock_any : Calls Tryz.prog 16 #[] w (SyPost w) := by
  have c1 : ∀ t, (w.alloc (.cells #[.nilFunc] t)).cell? ⟨w.heap.size, 0, none⟩ = some .nilFunc := fun t => (Blk.new w #[.nilFunc] t).cell rfl
  have f1 : ∀ t, (w.alloc (.cells #[.nilFunc] t)).frozen? ⟨w.heap.size, 0, none⟩ = false := fun t => (Blk.new w #[.nilFunc] t).frozen 0
  have c2 : ∀ (t t' : TypeId) (u : Value), (((w.alloc (.cells #[.nilFunc] t)).setCell ⟨w.heap.size, 0, none⟩ u).alloc (.cells #[.nilFunc] t')).cell? ⟨w.heap.size + 1, 0, none⟩ = some .nilFunc := fun t t' u => by
    have := (Blk.new ((w.alloc (.cells #[.nilFunc] t)).setCell ⟨w.heap.size, 0, none⟩ u) #[.nilFunc] t').cell (i := 0) rfl
    simpa using this
  have f2 : ∀ (t t' : TypeId) (u : Value), (((w.alloc (.cells #[.nilFunc] t)).setCell ⟨w.heap.size, 0, none⟩ u).alloc (.cells #[.nilFunc] t')).frozen? ⟨w.heap.size + 1, 0, none⟩ = false := fun t t' u => by
    have := (Blk.new ((w.alloc (.cells #[.nilFunc] t)).setCell ⟨w.heap.size, 0, none⟩ u) #[.nilFunc] t').frozen 0
    simpa using this
  go_enter Tryz.func16, Tryz.ntmps16
  go_wp2_with fail
  go_ret
  refine ⟨_, rfl, ?_⟩
  first
    | exact below_alloc _ _
    | exact (below_alloc _ _).trans ((below_alloc _ _).mono (by simp))
    | exact ((below_alloc _ _).trans ((below_alloc _ _).mono (by simp))).trans ((below_alloc _ _).mono (by simp; omega))
set_option maxHeartbeats 2000000 in
theorem ncRoot_any : Calls Tryz.prog 17 #[] w (SyPost w) := by
  have c1 : ∀ t, (w.alloc (.cells #[.nilFunc] t)).cell? ⟨w.heap.size, 0, none⟩ = some .nilFunc := fun t => (Blk.new w #[.nilFunc] t).cell rfl
  have f1 : ∀ t, (w.alloc (.cells #[.nilFunc] t)).frozen? ⟨w.heap.size, 0, none⟩ = false := fun t => (Blk.new w #[.nilFunc] t).frozen 0
  have c2 : ∀ (t t' : TypeId) (u : Value), (((w.alloc (.cells #[.nilFunc] t)).setCell ⟨w.heap.size, 0, none⟩ u).alloc (.cells #[.nilFunc] t')).cell? ⟨w.heap.size + 1, 0, none⟩ = some .nilFunc := fun t t' u => by
    have := (Blk.new ((w.alloc (.cells #[.nilFunc] t)).setCell ⟨w.heap.size, 0, none⟩ u) #[.nilFunc] t').cell (i := 0) rfl
    simpa using this
  have f2 : ∀ (t t' : TypeId) (u : Value), (((w.alloc (.cells #[.nilFunc] t)).setCell ⟨w.heap.size, 0, none⟩ u).alloc (.cells #[.nilFunc] t')).frozen? ⟨w.heap.size + 1, 0, none⟩ = false := fun t t' u => by
    have := (Blk.new ((w.alloc (.cells #[.nilFunc] t)).setCell ⟨w.heap.size, 0, none⟩ u) #[.nilFunc] t').frozen 0
    simpa using this
  go_enter Tryz.func17, Tryz.ntmps17
  go_wp2_with fail
  go_ret
  refine ⟨_, rfl, ?_⟩
  first
    | exact below_alloc _ _
    | exact (below_alloc _ _).trans ((below_alloc _ _).mono (by simp))
    | exact ((below_alloc _ _).trans ((below_alloc _ _).mono (by simp))).trans ((below_alloc _ _).mono (by simp; omega))
set_option maxHeartbeats 2000000 in
theorem ncRedo_any : Calls Tryz.prog 18 #[] w (SyPost w) := by
  have c1 : ∀ t, (w.alloc (.cells #[.nilFunc] t)).cell? ⟨w.heap.size, 0, none⟩ = some .nilFunc := fun t => (Blk.new w #[.nilFunc] t).cell rfl
  have f1 : ∀ t, (w.alloc (.cells #[.nilFunc] t)).frozen? ⟨w.heap.size, 0, none⟩ = false := fun t => (Blk.new w #[.nilFunc] t).frozen 0
  have c2 : ∀ (t t' : TypeId) (u : Value), (((w.alloc (.cells #[.nilFunc] t)).setCell ⟨w.heap.size, 0, none⟩ u).alloc (.cells #[.nilFunc] t')).cell? ⟨w.heap.size + 1, 0, none⟩ = some .nilFunc := fun t t' u => by
    have := (Blk.new ((w.alloc (.cells #[.nilFunc] t)).setCell ⟨w.heap.size, 0, none⟩ u) #[.nilFunc] t').cell (i := 0) rfl
    simpa using this
  have f2 : ∀ (t t' : TypeId) (u : Value), (((w.alloc (.cells #[.nilFunc] t)).setCell ⟨w.heap.size, 0, none⟩ u).alloc (.cells #[.nilFunc] t')).frozen? ⟨w.heap.size + 1, 0, none⟩ = false := fun t t' u => by
    have := (Blk.new ((w.alloc (.cells #[.nilFunc] t)).setCell ⟨w.heap.size, 0, none⟩ u) #[.nilFunc] t').frozen 0
    simpa using this
  go_enter Tryz.func18, Tryz.ntmps18
  go_wp2_with fail
  go_ret
  refine ⟨_, rfl, ?_⟩
  first
    | exact below_alloc _ _
    | exact (below_alloc _ _).trans ((below_alloc _ _).mono (by simp))
    | exact ((below_alloc _ _).trans ((below_alloc _ _).mono (by simp))).trans ((below_alloc _ _).mono (by simp; omega))
set_option maxHeartbeats 2000000 in
theorem ncUndo_any : Calls Tryz.prog 19 #[] w (SyPost w) := by
  have c1 : ∀ t, (w.alloc (.cells #[.nilFunc] t)).cell? ⟨w.heap.size, 0, none⟩ = some .nilFunc := fun t => (Blk.new w #[.nilFunc] t).cell rfl
  have f1 : ∀ t, (w.alloc (.cells #[.nilFunc] t)).frozen? ⟨w.heap.size, 0, none⟩ = false := fun t => (Blk.new w #[.nilFunc] t).frozen 0
  have c2 : ∀ (t t' : TypeId) (u : Value), (((w.alloc (.cells #[.nilFunc] t)).setCell ⟨w.heap.size, 0, none⟩ u).alloc (.cells #[.nilFunc] t')).cell? ⟨w.heap.size + 1, 0, none⟩ = some .nilFunc := fun t t' u => by
    have := (Blk.new ((w.alloc (.cells #[.nilFunc] t)).setCell ⟨w.heap.size, 0, none⟩ u) #[.nilFunc] t').cell (i := 0) rfl
    simpa using this
  have f2 : ∀ (t t' : TypeId) (u : Value), (((w.alloc (.cells #[.nilFunc] t)).setCell ⟨w.heap.size, 0, none⟩ u).alloc (.cells #[.nilFunc] t')).frozen? ⟨w.heap.size + 1, 0, none⟩ = false := fun t t' u => by
    have := (Blk.new ((w.alloc (.cells #[.nilFunc] t)).setCell ⟨w.heap.size, 0, none⟩ u) #[.nilFunc] t').frozen 0
    simpa using this
  go_enter Tryz.func19, Tryz.ntmps19
  go_wp2_with fail
  go_ret
  refine ⟨_, rfl, ?_⟩
  first
    | exact below_alloc _ _
    | exact (below_alloc _ _).trans ((below_alloc _ _).mono (by simp))
    | exact ((below_alloc _ _).trans ((below_alloc _ _).mono (by simp))).trans ((below_alloc _ _).mono (by simp; omega))
set_option maxHeartbeats 2000000 in
theorem ncBucket_any : Calls Tryz.prog 20 #[] w (SyPost w) := by
  have c1 : ∀ t, (w.alloc (.cells #[.nilFunc] t)).cell? ⟨w.heap.size, 0, none⟩ = some .nilFunc := fun t => (Blk.new w #[.nilFunc] t).cell rfl
  have f1 : ∀ t, (w.alloc (.cells #[.nilFunc] t)).frozen? ⟨w.heap.size, 0, none⟩ = false := fun t => (Blk.new w #[.nilFunc] t).frozen 0
  have c2 : ∀ (t t' : TypeId) (u : Value), (((w.alloc (.cells #[.nilFunc] t)).setCell ⟨w.heap.size, 0, none⟩ u).alloc (.cells #[.nilFunc] t')).cell? ⟨w.heap.size + 1, 0, none⟩ = some .nilFunc := fun t t' u => by
    have := (Blk.new ((w.alloc (.cells #[.nilFunc] t)).setCell ⟨w.heap.size, 0, none⟩ u) #[.nilFunc] t').cell (i := 0) rfl
    simpa using this
  have f2 : ∀ (t t' : TypeId) (u : Value), (((w.alloc (.cells #[.nilFunc] t)).setCell ⟨w.heap.size, 0, none⟩ u).alloc (.cells #[.nilFunc] t')).frozen? ⟨w.heap.size + 1, 0, none⟩ = false := fun t t' u => by
    have := (Blk.new ((w.alloc (.cells #[.nilFunc] t)).setCell ⟨w.heap.size, 0, none⟩ u) #[.nilFunc] t').frozen 0
    simpa using this
  go_enter Tryz.func20, Tryz.ntmps20
  go_wp2_with fail
  go_ret
  refine ⟨_, rfl, ?_⟩
  first
    | exact below_alloc _ _
    | exact (below_alloc _ _).trans ((below_alloc _ _).mono (by simp))
    | exact ((below_alloc _ _).trans ((below_alloc _ _).mono (by simp))).trans ((below_alloc _ _).mono (by simp; omega))
set_option maxHeartbeats 2000000 in
theorem ncLeaf_any : Calls Tryz.prog 21 #[] w (SyPost w) := by
  have c1 : ∀ t, (w.alloc (.cells #[.nilFunc] t)).cell? ⟨w.heap.size, 0, none⟩ = some .nilFunc := fun t => (Blk.new w #[.nilFunc] t).cell rfl
  have f1 : ∀ t, (w.alloc (.cells #[.nilFunc] t)).frozen? ⟨w.heap.size, 0, none⟩ = false := fun t => (Blk.new w #[.nilFunc] t).frozen 0
  have c2 : ∀ (t t' : TypeId) (u : Value), (((w.alloc (.cells #[.nilFunc] t)).setCell ⟨w.heap.size, 0, none⟩ u).alloc (.cells #[.nilFunc] t')).cell? ⟨w.heap.size + 1, 0, none⟩ = some .nilFunc := fun t t' u => by
    have := (Blk.new ((w.alloc (.cells #[.nilFunc] t)).setCell ⟨w.heap.size, 0, none⟩ u) #[.nilFunc] t').cell (i := 0) rfl
    simpa using this
  have f2 : ∀ (t t' : TypeId) (u : Value), (((w.alloc (.cells #[.nilFunc] t)).setCell ⟨w.heap.size, 0, none⟩ u).alloc (.cells #[.nilFunc] t')).frozen? ⟨w.heap.size + 1, 0, none⟩ = false := fun t t' u => by
    have := (Blk.new ((w.alloc (.cells #[.nilFunc] t)).setCell ⟨w.heap.size, 0, none⟩ u) #[.nilFunc] t').frozen 0
    simpa using this
  go_enter Tryz.func21, Tryz.ntmps21
  go_wp2_with fail
  go_ret
  refine ⟨_, rfl, ?_⟩
  first
    | exact below_alloc _ _
    | exact (below_alloc _ _).trans ((below_alloc _ _).mono (by simp))
    | exact ((below_alloc _ _).trans ((below_alloc _ _).mono (by simp))).trans ((below_alloc _ _).mono (by simp; omega))
/-- The value of a protocol of the system. -/
def syV (g : Nat) : Value := .iface 106 (.pointer (some ⟨g, 0, none⟩))
set_option maxRecDepth 100000 in
set_option maxHeartbeats 4000000 in
theorem l54all_any : Calls Tryz.prog 8 #[] w fun r w' => ∃ (b : Nat) (ad : Nat → Nat), r = .returned (.slice (some ⟨b, 0, none⟩) 6 6) ∧ Row w' b 6 37 (fun i => syV (ad i)) ∧ Below w.heap.size w w' := by
  have H0 := Lib.hid (fun (wx : World) => ncSuperblock_any (w := wx))
  have H1 := Lib.hid (fun (wx : World) => ncRoot_any (w := wx))
  have H2 := Lib.hid (fun (wx : World) => ncRedo_any (w := wx))
  have H3 := Lib.hid (fun (wx : World) => ncUndo_any (w := wx))
  have H4 := Lib.hid (fun (wx : World) => ncBucket_any (w := wx))
  have H5 := Lib.hid (fun (wx : World) => ncLeaf_any (w := wx))
  have B0 := Lib.hid (Below.refl w.heap.size w)
  go_enter Tryz.func8, Tryz.ntmps8
  go_wp2_with fail
  (with_reducible refine (H0.out _).mono ?_)
  rintro e w1 ⟨g1, rfl, b1⟩
  have B1 := Lib.hid (B0.out.trans (b1.mono B0.out.size))
  clear b1
  go_wp2_with fail
  (with_reducible refine (H1.out _).mono ?_)
  rintro e w2 ⟨g2, rfl, b2⟩
  have B2 := Lib.hid (B1.out.trans (b2.mono B1.out.size))
  clear b2
  go_wp2_with fail
  (with_reducible refine (H2.out _).mono ?_)
  rintro e w3 ⟨g3, rfl, b3⟩
  have B3 := Lib.hid (B2.out.trans (b3.mono B2.out.size))
  clear b3
  go_wp2_with fail
  (with_reducible refine (H3.out _).mono ?_)
  rintro e w4 ⟨g4, rfl, b4⟩
  have B4 := Lib.hid (B3.out.trans (b4.mono B3.out.size))
  clear b4
  go_wp2_with fail
  (with_reducible refine (H4.out _).mono ?_)
  rintro e w5 ⟨g5, rfl, b5⟩
  have B5 := Lib.hid (B4.out.trans (b5.mono B4.out.size))
  clear b5
  go_wp2_with fail
  (with_reducible refine (H5.out _).mono ?_)
  rintro e w6 ⟨g6, rfl, b6⟩
  have B6 := Lib.hid (B5.out.trans (b6.mono B5.out.size))
  clear b6
  all_goals
    go_wp2_with fail
    go_ret
    refine ⟨_, fun i => if i = 0 then g1 else if i = 1 then g2 else if i = 2 then g3 else if i = 3 then g4 else if i = 4 then g5 else g6, rfl, ⟨_, Blk.new _ _ _, fun i hi => ?_⟩, B6.out.trans ((below_alloc _ _).mono B6.out.size)⟩
    obtain rfl | rfl | rfl | rfl | rfl | rfl : i = 0 ∨ i = 1 ∨ i = 2 ∨ i = 3 ∨ i = 4 ∨ i = 5 := by omega
    all_goals rfl
end
end Go.Proofs.YtahpadhejjlpoaaGreatDoor
