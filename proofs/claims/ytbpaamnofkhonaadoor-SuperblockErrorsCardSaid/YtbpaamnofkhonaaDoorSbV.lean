/- The superblock's errors: the walks, and the walk of SuperblockErrors. -/
import Derived.Test.YtbpaamnofkhonaaDoorSbT
import Derived.Test.YtbpaamnofkhonaaDoorOpenSb
namespace Go.Proofs.YtbpaamnofkhonaaDoor
open Go.RowKit Go.Maps
attribute [local go_sem ↓] Go.wp_at_zero Go.wp_at_succ

theorem drewN_below (w : World) (q : Nat) : Below w.heap.size w (w.drewN q) := ⟨rfl, rfl, rfl, Nat.le_refl _, fun _ _ => rfl⟩
section
variable {w : World} {v : DV} {own : Nat → Option Role} {D : Dev} {j : Nat}
set_option maxRecDepth 100000 in
set_option maxHeartbeats 4000000 in
theorem usableFor_nil (s : Sup) : Calls Tryd.prog 52 #[.nilIface, .agg s.cells] w fun r w' => r = .returned (.int .i64 1) ∧ Below w.heap.size w w' := by
  obtain ⟨ver, lin, redo, und, desc, que, tab, gen⟩ := s
  unfold Sup.cells
  have B0 := Lib.hid (below_alloc w (.cells #[.int .i64 ver, .int .i64 lin, .int .i64 redo, .int .i64 und, .int .i64 desc, .int .i64 que, .int .i64 tab, .int .u64 gen] 29))
  go_enter Tryd.func52, Tryd.ntmps52
  go_wp2_with fail
  go_quiet (fail)
  go_wp2_with fail
  go_ret
  exact ⟨rfl, B0.out.trans ((drewN_below _ _).mono B0.out.size)⟩
set_option maxRecDepth 100000 in
set_option maxHeartbeats 4000000 in
theorem usableFor_small (h : IsDev w v own D) (hj : j < 8) (hn : D.n < 2) (s : Sup) : Calls Tryd.prog 52 #[.iface 49 (.pointer (some ⟨v.tb j, 0, none⟩)), .agg s.cells] w fun r w' => r = .returned (.int .i64 1) ∧ Below w.heap.size w w' := by
  obtain ⟨ver, lin, redo, und, desc, que, tab, gen⟩ := s
  unfold Sup.cells
  have B0 := Lib.hid (below_alloc w (.cells #[.int .i64 ver, .int .i64 lin, .int .i64 redo, .int .i64 und, .int .i64 desc, .int .i64 que, .int .i64 tab, .int .u64 gen] 29))
  have HLO := Lib.hid (fun q => linesOf_any (h.below (B0.out.trans ((drewN_below (w.alloc (.cells #[.int .i64 ver, .int .i64 lin, .int .i64 redo, .int .i64 und, .int .i64 desc, .int .i64 que, .int .i64 tab, .int .u64 gen] 29)) q).mono B0.out.size))) hj)
  have hn' : (D.n : Int) < 2 := by omega
  clear h
  go_enter Tryd.func52, Tryd.ntmps52
  go_wp2_with fail
  go_quiet (first | (go_at_call 66; with_reducible exact quiet_eq (HLO.out _)))
  go_wp2_with fail
  go_ret
  exact ⟨rfl, B0.out.trans ((drewN_below _ _).mono B0.out.size)⟩
set_option maxRecDepth 100000 in
set_option maxHeartbeats 8000000 in
theorem usableFor_inv (h : IsDev w v own D) (hj : j < 8) (hn : 2 ≤ D.n) (s : Sup) (hok : ¬ s.Ok) : Calls Tryd.prog 52 #[.iface 49 (.pointer (some ⟨v.tb j, 0, none⟩)), .agg s.cells] w fun r w' => r = .returned (.int .i64 1) ∧ Below w.heap.size w w' := by
  have H := Lib.hid h
  have HLO := Lib.hid (fun wx (hx : IsDev wx v own D) => linesOf_any hx hj)
  have hv := fun wx => valid_any (w := wx) s
  rw [Sup.okB_false hok] at hv
  have HV := Lib.hid hv
  obtain ⟨ver, lin, redo, und, desc, que, tab, gen⟩ := s
  unfold Sup.cells at *
  have d2 : decide ((D.n : Int) < 2) = false := by simp; omega
  have B0 := Lib.hid ((below_alloc w (.cells #[.int .i64 ver, .int .i64 lin, .int .i64 redo, .int .i64 und, .int .i64 desc, .int .i64 que, .int .i64 tab, .int .u64 gen] 29)).drew)
  have K0 : Hid (Blk (w.alloc (.cells #[.int .i64 ver, .int .i64 lin, .int .i64 redo, .int .i64 und, .int .i64 desc, .int .i64 que, .int .i64 tab, .int .u64 gen] 29)).drew w.heap.size #[.int .i64 ver, .int .i64 lin, .int .i64 redo, .int .i64 und, .int .i64 desc, .int .i64 que, .int .i64 tab, .int .u64 gen] 29) := (Blk.new w _ _).drew
  have z0 : (w.alloc (.cells #[.int .i64 ver, .int .i64 lin, .int .i64 redo, .int .i64 und, .int .i64 desc, .int .i64 que, .int .i64 tab, .int .u64 gen] 29)).drew.cell? ⟨w.heap.size, 0, none⟩ = some (.int .i64 ver) := K0.out.cell rfl
  have z1 : (w.alloc (.cells #[.int .i64 ver, .int .i64 lin, .int .i64 redo, .int .i64 und, .int .i64 desc, .int .i64 que, .int .i64 tab, .int .u64 gen] 29)).drew.cell? ⟨w.heap.size, 1, none⟩ = some (.int .i64 lin) := K0.out.cell rfl
  have z2 : (w.alloc (.cells #[.int .i64 ver, .int .i64 lin, .int .i64 redo, .int .i64 und, .int .i64 desc, .int .i64 que, .int .i64 tab, .int .u64 gen] 29)).drew.cell? ⟨w.heap.size, 2, none⟩ = some (.int .i64 redo) := K0.out.cell rfl
  have z3 : (w.alloc (.cells #[.int .i64 ver, .int .i64 lin, .int .i64 redo, .int .i64 und, .int .i64 desc, .int .i64 que, .int .i64 tab, .int .u64 gen] 29)).drew.cell? ⟨w.heap.size, 3, none⟩ = some (.int .i64 und) := K0.out.cell rfl
  have z4 : (w.alloc (.cells #[.int .i64 ver, .int .i64 lin, .int .i64 redo, .int .i64 und, .int .i64 desc, .int .i64 que, .int .i64 tab, .int .u64 gen] 29)).drew.cell? ⟨w.heap.size, 4, none⟩ = some (.int .i64 desc) := K0.out.cell rfl
  have z5 : (w.alloc (.cells #[.int .i64 ver, .int .i64 lin, .int .i64 redo, .int .i64 und, .int .i64 desc, .int .i64 que, .int .i64 tab, .int .u64 gen] 29)).drew.cell? ⟨w.heap.size, 5, none⟩ = some (.int .i64 que) := K0.out.cell rfl
  have z6 : (w.alloc (.cells #[.int .i64 ver, .int .i64 lin, .int .i64 redo, .int .i64 und, .int .i64 desc, .int .i64 que, .int .i64 tab, .int .u64 gen] 29)).drew.cell? ⟨w.heap.size, 6, none⟩ = some (.int .i64 tab) := K0.out.cell rfl
  have z7 : (w.alloc (.cells #[.int .i64 ver, .int .i64 lin, .int .i64 redo, .int .i64 und, .int .i64 desc, .int .i64 que, .int .i64 tab, .int .u64 gen] 29)).drew.cell? ⟨w.heap.size, 7, none⟩ = some (.int .u64 gen) := K0.out.cell rfl
  clear h hok hv
  go_enter Tryd.func52, Tryd.ntmps52
  go_upto_region 1 with fail
  refine wp_region_any (by kernel_rfl) ?_
  change wpAny _ _ _ _ _ _ _ (World.drew _)
  refine wpAny_ready (rs := [0]) (by kernel_rfl) (by simp) ?_
  refine AllReady.cons rfl (fun K hK => ?_) AllReady.nil
  go_simp
  refine hK _ _ ?_
  clear hK K
  refine wpAny_ready (rs := [1]) (by kernel_rfl) (by simp) ?_
  refine AllReady.cons rfl (fun K hK => ?_) AllReady.nil
  go_simp
  refine hK _ _ ?_
  clear hK K
  refine wpAny_ready (rs := [2]) (by kernel_rfl) (by simp) ?_
  refine AllReady.cons rfl (fun K hK => ?_) AllReady.nil
  go_simp
  refine hK _ _ ?_
  clear hK K
  refine wpAny_ready (rs := [3]) (by kernel_rfl) (by simp) ?_
  refine AllReady.cons rfl (fun K hK => ?_) AllReady.nil
  go_simp
  refine hK _ _ ?_
  clear hK K
  refine wpAny_ready (rs := [4]) (by kernel_rfl) (by simp) ?_
  refine AllReady.cons rfl (fun K hK => ?_) AllReady.nil
  go_simp
  (with_reducible refine (HLO.out _ (H.out.below B0.out)).mono ?_)
  rintro e w' ⟨rfl, rfl⟩
  go_simp
  refine hK _ _ ?_
  clear hK K
  refine wpAny_ready (rs := [5]) (by kernel_rfl) (by simp) ?_
  refine AllReady.cons rfl (fun K hK => ?_) AllReady.nil
  go_simp
  refine hK _ _ ?_
  clear hK K
  refine wpAny_ready (rs := [6]) (by kernel_rfl) (by simp) ?_
  refine AllReady.cons rfl (fun K hK => ?_) AllReady.nil
  go_simp
  refine hK _ _ ?_
  clear hK K
  refine wpAny_ready (rs := [7]) (by kernel_rfl) (by simp) ?_
  refine AllReady.cons rfl (fun K hK => ?_) AllReady.nil
  go_simp
  refine hK _ _ ?_
  clear hK K
  refine wpAny_ready (rs := [8]) (by kernel_rfl) (by simp) ?_
  refine AllReady.cons rfl (fun K hK => ?_) AllReady.nil
  go_simp
  refine hK _ _ ?_
  clear hK K
  refine wpAny_ready (rs := [9]) (by kernel_rfl) (by simp) ?_
  refine AllReady.cons rfl (fun K hK => ?_) AllReady.nil
  go_simp
  (with_reducible refine (HV.out _).mono ?_)
  rintro e w4 ⟨rfl, b4⟩
  have K4 := Lib.hid (K0.out.below b4)
  have B4 := Lib.hid (B0.out.trans (b4.mono B0.out.size))
  have c1 : w4.cell? ⟨w.heap.size, 1, none⟩ = some (.int .i64 lin) := K4.out.cell rfl
  clear b4
  go_simp
  refine hK _ _ ?_
  clear hK K
  refine wpAny_ready (rs := [10]) (by kernel_rfl) (by simp) ?_
  refine AllReady.cons rfl (fun K hK => ?_) AllReady.nil
  go_simp
  refine hK _ _ ?_
  clear hK K
  refine wpAny_ready (rs := [11]) (by kernel_rfl) (by simp) ?_
  refine AllReady.cons rfl (fun K hK => ?_) AllReady.nil
  go_simp
  refine hK _ _ ?_
  clear hK K
  refine wpAny_ready (rs := [12]) (by kernel_rfl) (by simp) ?_
  refine AllReady.cons rfl (fun K hK => ?_) AllReady.nil
  go_simp
  refine hK _ _ ?_
  clear hK K
  refine wpAny_take (i := 13) (v := undef) rfl (by kernel_rfl) (by kernel_rfl) (by kernel_rfl) (fun _ _ _ h => h) (Or.inr ⟨by kernel_rfl, rfl⟩) ?_
  (try simp only [Act.put, List.setIfInBounds_toArray, List.set_cons_zero, List.set_cons_succ])
  refine wpAny_take (i := 14) (v := undef) rfl (by kernel_rfl) (by kernel_rfl) (by kernel_rfl) (fun _ _ _ h => h) (Or.inr ⟨by kernel_rfl, rfl⟩) ?_
  (try simp only [Act.put, List.setIfInBounds_toArray, List.set_cons_zero, List.set_cons_succ])
  refine wpAny_take (i := 15) (v := undef) rfl (by kernel_rfl) (by kernel_rfl) (by kernel_rfl) (fun _ _ _ h => h) (Or.inr ⟨by kernel_rfl, rfl⟩) ?_
  (try simp only [Act.put, List.setIfInBounds_toArray, List.set_cons_zero, List.set_cons_succ])
  refine wpAny_take (i := 16) (v := undef) rfl (by kernel_rfl) (by kernel_rfl) (by kernel_rfl) (fun _ _ _ h => h) (Or.inr ⟨by kernel_rfl, rfl⟩) ?_
  (try simp only [Act.put, List.setIfInBounds_toArray, List.set_cons_zero, List.set_cons_succ])
  refine wpAny_take (i := 17) (v := undef) rfl (by kernel_rfl) (by kernel_rfl) (by kernel_rfl) (fun _ _ _ h => h) (Or.inr ⟨by kernel_rfl, rfl⟩) ?_
  (try simp only [Act.put, List.setIfInBounds_toArray, List.set_cons_zero, List.set_cons_succ])
  refine wpAny_take (i := 18) (v := undef) rfl (by kernel_rfl) (by kernel_rfl) (by kernel_rfl) (fun _ _ _ h => h) (Or.inr ⟨by kernel_rfl, rfl⟩) ?_
  (try simp only [Act.put, List.setIfInBounds_toArray, List.set_cons_zero, List.set_cons_succ])
  refine wpAny_ready (rs := [19]) (by kernel_rfl) (by simp) ?_
  refine AllReady.cons rfl (fun K hK => ?_) AllReady.nil
  go_simp
  refine hK _ _ ?_
  clear hK K
  refine wpAny_done (by kernel_rfl) ?_ _
  go_wp2_with fail
  go_ret
  exact ⟨rfl, B4.out⟩
set_option maxRecDepth 100000 in
set_option maxHeartbeats 8000000 in
theorem usableFor_big (h : IsDev w v own D) (hj : j < 8) (hn : 2 ≤ D.n) (s : Sup) (hok : s.Ok) (hl : (D.n : Int) < s.lin) : Calls Tryd.prog 52 #[.iface 49 (.pointer (some ⟨v.tb j, 0, none⟩)), .agg s.cells] w fun r w' => r = .returned (.int .i64 1) ∧ Below w.heap.size w w' := by
  have H := Lib.hid h
  have HLO := Lib.hid (fun wx (hx : IsDev wx v own D) => linesOf_any hx hj)
  have hv := fun wx => valid_any (w := wx) s
  rw [Sup.okB_true hok] at hv
  have HV := Lib.hid hv
  have l1 := hok.l1; have l2 := hok.l2
  obtain ⟨ver, lin, redo, und, desc, que, tab, gen⟩ := s
  unfold Sup.cells at *
  simp only at hl l1 l2
  have hu : IntKind.u64.wrap lin = lin := IntWalk.u64_in _ (by omega)
  have d1 : decide ((D.n : Int) < lin) = true := by simp; omega
  have d2 : decide ((D.n : Int) < 2) = false := by simp; omega
  have B0 := Lib.hid ((below_alloc w (.cells #[.int .i64 ver, .int .i64 lin, .int .i64 redo, .int .i64 und, .int .i64 desc, .int .i64 que, .int .i64 tab, .int .u64 gen] 29)).drew)
  have K0 : Hid (Blk (w.alloc (.cells #[.int .i64 ver, .int .i64 lin, .int .i64 redo, .int .i64 und, .int .i64 desc, .int .i64 que, .int .i64 tab, .int .u64 gen] 29)).drew w.heap.size #[.int .i64 ver, .int .i64 lin, .int .i64 redo, .int .i64 und, .int .i64 desc, .int .i64 que, .int .i64 tab, .int .u64 gen] 29) := (Blk.new w _ _).drew
  have z0 : (w.alloc (.cells #[.int .i64 ver, .int .i64 lin, .int .i64 redo, .int .i64 und, .int .i64 desc, .int .i64 que, .int .i64 tab, .int .u64 gen] 29)).drew.cell? ⟨w.heap.size, 0, none⟩ = some (.int .i64 ver) := K0.out.cell rfl
  have z1 : (w.alloc (.cells #[.int .i64 ver, .int .i64 lin, .int .i64 redo, .int .i64 und, .int .i64 desc, .int .i64 que, .int .i64 tab, .int .u64 gen] 29)).drew.cell? ⟨w.heap.size, 1, none⟩ = some (.int .i64 lin) := K0.out.cell rfl
  have z2 : (w.alloc (.cells #[.int .i64 ver, .int .i64 lin, .int .i64 redo, .int .i64 und, .int .i64 desc, .int .i64 que, .int .i64 tab, .int .u64 gen] 29)).drew.cell? ⟨w.heap.size, 2, none⟩ = some (.int .i64 redo) := K0.out.cell rfl
  have z3 : (w.alloc (.cells #[.int .i64 ver, .int .i64 lin, .int .i64 redo, .int .i64 und, .int .i64 desc, .int .i64 que, .int .i64 tab, .int .u64 gen] 29)).drew.cell? ⟨w.heap.size, 3, none⟩ = some (.int .i64 und) := K0.out.cell rfl
  have z4 : (w.alloc (.cells #[.int .i64 ver, .int .i64 lin, .int .i64 redo, .int .i64 und, .int .i64 desc, .int .i64 que, .int .i64 tab, .int .u64 gen] 29)).drew.cell? ⟨w.heap.size, 4, none⟩ = some (.int .i64 desc) := K0.out.cell rfl
  have z5 : (w.alloc (.cells #[.int .i64 ver, .int .i64 lin, .int .i64 redo, .int .i64 und, .int .i64 desc, .int .i64 que, .int .i64 tab, .int .u64 gen] 29)).drew.cell? ⟨w.heap.size, 5, none⟩ = some (.int .i64 que) := K0.out.cell rfl
  have z6 : (w.alloc (.cells #[.int .i64 ver, .int .i64 lin, .int .i64 redo, .int .i64 und, .int .i64 desc, .int .i64 que, .int .i64 tab, .int .u64 gen] 29)).drew.cell? ⟨w.heap.size, 6, none⟩ = some (.int .i64 tab) := K0.out.cell rfl
  have z7 : (w.alloc (.cells #[.int .i64 ver, .int .i64 lin, .int .i64 redo, .int .i64 und, .int .i64 desc, .int .i64 que, .int .i64 tab, .int .u64 gen] 29)).drew.cell? ⟨w.heap.size, 7, none⟩ = some (.int .u64 gen) := K0.out.cell rfl
  clear h hok hv
  go_enter Tryd.func52, Tryd.ntmps52
  go_upto_region 1 with fail
  refine wp_region_any (by kernel_rfl) ?_
  change wpAny _ _ _ _ _ _ _ (World.drew _)
  refine wpAny_ready (rs := [0]) (by kernel_rfl) (by simp) ?_
  refine AllReady.cons rfl (fun K hK => ?_) AllReady.nil
  go_simp
  refine hK _ _ ?_
  clear hK K
  refine wpAny_ready (rs := [1]) (by kernel_rfl) (by simp) ?_
  refine AllReady.cons rfl (fun K hK => ?_) AllReady.nil
  go_simp
  refine hK _ _ ?_
  clear hK K
  refine wpAny_ready (rs := [2]) (by kernel_rfl) (by simp) ?_
  refine AllReady.cons rfl (fun K hK => ?_) AllReady.nil
  go_simp
  refine hK _ _ ?_
  clear hK K
  refine wpAny_ready (rs := [3]) (by kernel_rfl) (by simp) ?_
  refine AllReady.cons rfl (fun K hK => ?_) AllReady.nil
  go_simp
  refine hK _ _ ?_
  clear hK K
  refine wpAny_ready (rs := [4]) (by kernel_rfl) (by simp) ?_
  refine AllReady.cons rfl (fun K hK => ?_) AllReady.nil
  go_simp
  (with_reducible refine (HLO.out _ (H.out.below B0.out)).mono ?_)
  rintro e w' ⟨rfl, rfl⟩
  go_simp
  refine hK _ _ ?_
  clear hK K
  refine wpAny_ready (rs := [5]) (by kernel_rfl) (by simp) ?_
  refine AllReady.cons rfl (fun K hK => ?_) AllReady.nil
  go_simp
  refine hK _ _ ?_
  clear hK K
  refine wpAny_ready (rs := [6]) (by kernel_rfl) (by simp) ?_
  refine AllReady.cons rfl (fun K hK => ?_) AllReady.nil
  go_simp
  refine hK _ _ ?_
  clear hK K
  refine wpAny_ready (rs := [7]) (by kernel_rfl) (by simp) ?_
  refine AllReady.cons rfl (fun K hK => ?_) AllReady.nil
  go_simp
  refine hK _ _ ?_
  clear hK K
  refine wpAny_ready (rs := [8]) (by kernel_rfl) (by simp) ?_
  refine AllReady.cons rfl (fun K hK => ?_) AllReady.nil
  go_simp
  refine hK _ _ ?_
  clear hK K
  refine wpAny_ready (rs := [9]) (by kernel_rfl) (by simp) ?_
  refine AllReady.cons rfl (fun K hK => ?_) AllReady.nil
  go_simp
  (with_reducible refine (HV.out _).mono ?_)
  rintro e w4 ⟨rfl, b4⟩
  have K4 := Lib.hid (K0.out.below b4)
  have B4 := Lib.hid (B0.out.trans (b4.mono B0.out.size))
  have c1 : w4.cell? ⟨w.heap.size, 1, none⟩ = some (.int .i64 lin) := K4.out.cell rfl
  clear b4
  go_simp
  refine hK _ _ ?_
  clear hK K
  refine wpAny_ready (rs := [10]) (by kernel_rfl) (by simp) ?_
  refine AllReady.cons rfl (fun K hK => ?_) AllReady.nil
  go_simp
  refine hK _ _ ?_
  clear hK K
  refine wpAny_ready (rs := [11]) (by kernel_rfl) (by simp) ?_
  refine AllReady.cons rfl (fun K hK => ?_) AllReady.nil
  go_simp
  refine hK _ _ ?_
  clear hK K
  refine wpAny_ready (rs := [12]) (by kernel_rfl) (by simp) ?_
  refine AllReady.cons rfl (fun K hK => ?_) AllReady.nil
  go_simp
  refine hK _ _ ?_
  clear hK K
  refine wpAny_take (i := 13) (v := .pointer (some ⟨w.heap.size, 1, none⟩)) rfl (by kernel_rfl) (by kernel_rfl) (by kernel_rfl) (fun _ _ _ h => h) (Or.inl ⟨by kernel_rfl, fun w => by go_simp⟩) ?_
  (try simp only [Act.put, List.setIfInBounds_toArray, List.set_cons_zero, List.set_cons_succ])
  refine wpAny_take (i := 16) (v := .iface 49 (.pointer (some ⟨v.tb j, 0, none⟩))) rfl (by kernel_rfl) (by kernel_rfl) (by kernel_rfl) (fun _ _ _ h => h) (Or.inl ⟨by kernel_rfl, fun w => by go_simp⟩) ?_
  (try simp only [Act.put, List.setIfInBounds_toArray, List.set_cons_zero, List.set_cons_succ])
  refine wpAny_ready (rs := [14, 17]) (by kernel_rfl) (by simp) ?_
  refine AllReady.cons rfl (fun K hK => ?_) (AllReady.cons rfl (fun K hK => ?_) AllReady.nil)
  · go_simp
    refine hK _ _ ?_
    clear hK K
    refine wpAny_take (i := 15) (v := .int .u64 lin) rfl (by kernel_rfl) (by kernel_rfl) (by kernel_rfl) (fun _ _ _ h => h) (Or.inl ⟨by kernel_rfl, fun w => by go_simp⟩) ?_
    (try simp only [Act.put, List.setIfInBounds_toArray, List.set_cons_zero, List.set_cons_succ])
    refine wpAny_ready (rs := [17]) (by kernel_rfl) (by simp) ?_
    refine AllReady.cons rfl (fun K hK => ?_) AllReady.nil
    go_simp
    (with_reducible refine (HLO.out _ (H.out.below B4.out)).mono ?_)
    rintro e w' ⟨rfl, rfl⟩
    go_simp
    refine hK _ _ ?_
    clear hK K
    refine wpAny_ready (rs := [18]) (by kernel_rfl) (by simp) ?_
    refine AllReady.cons rfl (fun K hK => ?_) AllReady.nil
    go_simp
    refine hK _ _ ?_
    clear hK K
    refine wpAny_ready (rs := [19]) (by kernel_rfl) (by simp) ?_
    refine AllReady.cons rfl (fun K hK => ?_) AllReady.nil
    go_simp
    refine hK _ _ ?_
    clear hK K
    refine wpAny_done (by kernel_rfl) ?_ _
    go_wp2_with fail
    go_ret
    exact ⟨rfl, B4.out⟩
  · go_simp
    (with_reducible refine (HLO.out _ (H.out.below B4.out)).mono ?_)
    rintro e w' ⟨rfl, rfl⟩
    go_simp
    refine hK _ _ ?_
    clear hK K
    refine wpAny_ready (rs := [14]) (by kernel_rfl) (by simp) ?_
    refine AllReady.cons rfl (fun K hK => ?_) AllReady.nil
    go_simp
    refine hK _ _ ?_
    clear hK K
    refine wpAny_ready (rs := [15]) (by kernel_rfl) (by simp) ?_
    refine AllReady.cons rfl (fun K hK => ?_) AllReady.nil
    go_simp
    refine hK _ _ ?_
    clear hK K
    refine wpAny_ready (rs := [18]) (by kernel_rfl) (by simp) ?_
    refine AllReady.cons rfl (fun K hK => ?_) AllReady.nil
    go_simp
    refine hK _ _ ?_
    clear hK K
    refine wpAny_ready (rs := [19]) (by kernel_rfl) (by simp) ?_
    refine AllReady.cons rfl (fun K hK => ?_) AllReady.nil
    go_simp
    refine hK _ _ ?_
    clear hK K
    refine wpAny_done (by kernel_rfl) ?_ _
    go_wp2_with fail
    go_ret
    exact ⟨rfl, B4.out⟩
/-- Memories: none, or a thread. -/
def MemV (m : Value) : Prop := m = .nilIface ∨ ∃ a, m = .iface 49 (.pointer (some a))
set_option maxRecDepth 100000 in
set_option maxHeartbeats 4000000 in
theorem sbPlan_err {m : Value} (hm : MemV m) (s : Sup) (e : Int) (he : e ≠ 0) (hU : Calls Tryd.prog 52 #[m, .agg s.cells] (w.alloc (.cells s.cells 29)) fun r w' => r = .returned (.int .i64 e) ∧ Below (w.alloc (.cells s.cells 29)).heap.size (w.alloc (.cells s.cells 29)) w') :
    Calls Tryd.prog 26 #[m, .agg s.cells] w fun r w' => r = .returned (.tuple #[.slice none 0 0, .int .i64 e]) ∧ Below w.heap.size w w' := by
  have HU := Lib.hid hU
  have hne : (e != 0) = true := by simpa using he
  obtain ⟨ver, lin, redo, und, desc, que, tab, gen⟩ := s
  unfold Sup.cells at *
  have B0 := Lib.hid (below_alloc w (.cells #[.int .i64 ver, .int .i64 lin, .int .i64 redo, .int .i64 und, .int .i64 desc, .int .i64 que, .int .i64 tab, .int .u64 gen] 29))
  clear hU he
  rcases hm with rfl | ⟨a, rfl⟩
  all_goals
    go_enter Tryd.func26, Tryd.ntmps26
    go_wp2_with fail
    (with_reducible refine HU.out.mono ?_)
    rintro e' w1 ⟨rfl, b1⟩
    have B1 := Lib.hid (B0.out.trans (b1.mono B0.out.size)); clear b1
    go_wp2_with fail
    go_ret2
    exact ⟨rfl, B1.out⟩
set_option maxRecDepth 100000 in
set_option maxHeartbeats 4000000 in
theorem sbUpdate_err {m : Value} (hm : MemV m) (s : Sup) (e : Int) (he : e ≠ 0) (hP : Calls Tryd.prog 26 #[m, .agg s.cells] (w.alloc (.cells s.cells 29)) fun r w' => r = .returned (.tuple #[.slice none 0 0, .int .i64 e]) ∧ Below (w.alloc (.cells s.cells 29)).heap.size (w.alloc (.cells s.cells 29)) w') :
    Calls Tryd.prog 29 #[m, .agg s.cells] w fun r w' => r = .returned (.int .i64 e) ∧ Below w.heap.size w w' := by
  have HP := Lib.hid hP
  have hne : (e != 0) = true := by simpa using he
  obtain ⟨ver, lin, redo, und, desc, que, tab, gen⟩ := s
  unfold Sup.cells at *
  have B0 := Lib.hid (below_alloc w (.cells #[.int .i64 ver, .int .i64 lin, .int .i64 redo, .int .i64 und, .int .i64 desc, .int .i64 que, .int .i64 tab, .int .u64 gen] 29))
  clear hP he
  rcases hm with rfl | ⟨a, rfl⟩
  all_goals
    go_enter Tryd.func29, Tryd.ntmps29
    go_wp2_with fail
    (with_reducible refine HP.out.mono ?_)
    rintro e' w1 ⟨rfl, b1⟩
    have B1 := Lib.hid (B0.out.trans (b1.mono B0.out.size)); clear b1
    go_wp2_with fail
    go_ret
    exact ⟨rfl, B1.out⟩
set_option maxRecDepth 100000 in
set_option maxHeartbeats 4000000 in
theorem sbFormat_err {m : Value} (hm : MemV m) (s : Sup) (e : Int) (he : e ≠ 0) (hU : Calls Tryd.prog 52 #[m, .agg s.cells] (w.alloc (.cells s.cells 29)) fun r w' => r = .returned (.int .i64 e) ∧ Below (w.alloc (.cells s.cells 29)).heap.size (w.alloc (.cells s.cells 29)) w') :
    Calls Tryd.prog 28 #[m, .agg s.cells] w fun r w' => r = .returned (.int .i64 e) ∧ Below w.heap.size w w' := by
  have HU := Lib.hid hU
  have hne : (e != 0) = true := by simpa using he
  obtain ⟨ver, lin, redo, und, desc, que, tab, gen⟩ := s
  unfold Sup.cells at *
  have B0 := Lib.hid (below_alloc w (.cells #[.int .i64 ver, .int .i64 lin, .int .i64 redo, .int .i64 und, .int .i64 desc, .int .i64 que, .int .i64 tab, .int .u64 gen] 29))
  clear hU he
  rcases hm with rfl | ⟨a, rfl⟩
  all_goals
    go_enter Tryd.func28, Tryd.ntmps28
    go_wp2_with fail
    (with_reducible refine HU.out.mono ?_)
    rintro e' w1 ⟨rfl, b1⟩
    have B1 := Lib.hid (B0.out.trans (b1.mono B0.out.size)); clear b1
    go_wp2_with fail
    go_ret
    exact ⟨rfl, B1.out⟩
set_option maxRecDepth 100000 in
set_option maxHeartbeats 4000000 in
theorem sbOpen_err {m : Value} (hm : MemV m) (e : Int) (he : e ≠ 0) (hU : Calls Tryd.prog 46 #[m] (w.alloc (.cells #[.int .i64 0, .int .i64 0, .int .i64 0, .int .i64 0, .int .i64 0, .int .i64 0, .int .i64 0, .int .u64 0] 29)) fun r w' => r = .returned (.int .i64 e) ∧ Below (w.alloc (.cells #[.int .i64 0, .int .i64 0, .int .i64 0, .int .i64 0, .int .i64 0, .int .i64 0, .int .i64 0, .int .u64 0] 29)).heap.size (w.alloc (.cells #[.int .i64 0, .int .i64 0, .int .i64 0, .int .i64 0, .int .i64 0, .int .i64 0, .int .i64 0, .int .u64 0] 29)) w') :
    Calls Tryd.prog 19 #[m] w fun r w' => r = .returned (.tuple #[.agg #[.int .i64 0, .int .i64 0, .int .i64 0, .int .i64 0, .int .i64 0, .int .i64 0, .int .i64 0, .int .u64 0], .int .i64 e]) ∧ Below w.heap.size w w' := by
  have HU := Lib.hid hU
  have hne : (e != 0) = true := by simpa using he
  have B0 := Lib.hid (below_alloc w (.cells #[.int .i64 0, .int .i64 0, .int .i64 0, .int .i64 0, .int .i64 0, .int .i64 0, .int .i64 0, .int .u64 0] 29))
  have K0 := Lib.hid (Blk.new w #[.int .i64 0, .int .i64 0, .int .i64 0, .int .i64 0, .int .i64 0, .int .i64 0, .int .i64 0, .int .u64 0] 29)
  clear hU he
  rcases hm with rfl | ⟨a, rfl⟩
  all_goals
    go_enter Tryd.func19, Tryd.ntmps19
    go_wp2_with fail
    (with_reducible refine HU.out.mono ?_)
    rintro e' w1 ⟨rfl, b1⟩
    have R3 := Lib.hid (K0.out.below b1)
    have B1 := Lib.hid (B0.out.trans (b1.mono B0.out.size)); clear b1
    have s0 := R3.out.cell (i := 0) (v := .int .i64 0) rfl; have s1 := R3.out.cell (i := 1) (v := .int .i64 0) rfl; have s2 := R3.out.cell (i := 2) (v := .int .i64 0) rfl; have s3 := R3.out.cell (i := 3) (v := .int .i64 0) rfl
    have s4 := R3.out.cell (i := 4) (v := .int .i64 0) rfl; have s5 := R3.out.cell (i := 5) (v := .int .i64 0) rfl; have s6 := R3.out.cell (i := 6) (v := .int .i64 0) rfl; have s7 := R3.out.cell (i := 7) (v := .int .u64 0) rfl
    have f0 := R3.out.frozen 0; have f1 := R3.out.frozen 1; have f2 := R3.out.frozen 2; have f3 := R3.out.frozen 3; have f4 := R3.out.frozen 4; have f5 := R3.out.frozen 5; have f6 := R3.out.frozen 6; have f7 := R3.out.frozen 7
    go_wp2_with fail
    refine bodyPost_ret (v := .tuple #[.agg #[.int .i64 0, .int .i64 0, .int .i64 0, .int .i64 0, .int .i64 0, .int .i64 0, .int .i64 0, .int .u64 0], .int .i64 e]) (by simp [results, Tryd.results19, go_sem, s0, s1, s2, s3, s4, s5, s6, s7]) rfl ⟨rfl, ?_⟩
    exact below_set8 B1.out (Nat.le_refl _) 0 _ _ _ _ _ _ _ _
set_option maxRecDepth 100000 in
set_option maxHeartbeats 2000000 in
theorem sbCheck_nil : Calls Tryd.prog 22 #[.nilIface] w fun r w' => r = .returned (.tuple #[.int .i64 1, .int .i64 1]) ∧ Below w.heap.size w w' := by
  have HU := Lib.hid (usable_nil (w := w))
  go_enter Tryd.func22, Tryd.ntmps22
  go_wp2_with fail
  (with_reducible refine HU.out.mono ?_)
  rintro e' w1 ⟨rfl, b1⟩
  have B1 := Lib.hid b1; clear b1
  go_wp2_with fail
  go_ret2
  exact ⟨rfl, B1.out⟩
set_option maxRecDepth 100000 in
set_option maxHeartbeats 2000000 in
theorem sbRepair_nil : Calls Tryd.prog 27 #[.nilIface] w fun r w' => r = .returned (.tuple #[.int .i64 0, .int .i64 1]) ∧ Below w.heap.size w w' := by
  have HU := Lib.hid (usable_nil (w := w))
  go_enter Tryd.func27, Tryd.ntmps27
  go_wp2_with fail
  (with_reducible refine HU.out.mono ?_)
  rintro e' w1 ⟨rfl, b1⟩
  have B1 := Lib.hid b1; clear b1
  go_wp2_with fail
  go_ret2
  exact ⟨rfl, B1.out⟩
set_option maxRecDepth 100000 in
set_option maxHeartbeats 2000000 in
theorem new_zero : Calls Tryd.prog 25 #[.int .i64 0] w fun r w' => r = .returned (.tuple #[.pointer none, .int .i64 1]) ∧ Below w.heap.size w w' := by
  go_enter Tryd.func25, Tryd.ntmps25
  go_wp2_with fail
  go_ret2
  exact ⟨rfl, Below.refl _ _⟩
end
/-- A device of zeros has no good copy. -/
theorem newG_zero (n : Nat) : newG (fun _ => 0) n = false := by
  have h : ∀ i, cpG (fun _ => (0 : Int)) n i = false := fun i => goodB_seven rfl
  unfold newG newB
  rw [h 1, h 0]; rfl
def DZ (n : Nat) : Dev := Dev.fresh n (fun _ => 0)
theorem DZ_cl (n : Nat) : SCl (DZ n) 0 n (fun _ => 0) 0 := fresh_scl (fun _ => by omega) 0 n
/-- The device behind Arm(0) and a fence. -/
def DZz (n : Nat) : Dev := ((DZ n).arm 0).fence 0
theorem DZz_eq (n : Nat) : DZz n = ({ (DZ n).arm 0 with off := true } : Dev).setErr 0 3 := by
  have h : OnJ ((DZ n).arm 0) 0 n := ⟨rfl, rfl, rfl⟩
  exact step_cut (e := (3, 0, 0)) h rfl rfl (.inr (.inr rfl))
theorem DZz_err (n : Nat) : (DZz n).err 0 = 3 ∧ (DZz n).n = n := by rw [DZz_eq]; exact ⟨rfl, rfl⟩
end Go.Proofs.YtbpaamnofkhonaaDoor
namespace Go.Proofs.YtbpaamnofkhonaaDoor
open Go.RowKit Go.Maps
attribute [local go_sem ↓] Go.wp_at_zero Go.wp_at_succ

/-- What the calls answer on a device. -/
structure ErrK (n : Nat) (s : Sup) (D : Dev) (wv pe oe : Int) (bb : Bool) (v : DV) (own : Nat → Option Role) : Prop where
  plan : ∀ wx, Nib wx → IsDev wx v own D → Calls Tryd.prog 26 #[.iface 49 (.pointer (some ⟨v.tb 0, 0, none⟩)), .agg s.cells] wx fun r w' => r = .returned (.tuple #[.slice none 0 0, .int .i64 pe]) ∧ Below wx.heap.size wx w'
  upd : ∀ wx, Nib wx → IsDev wx v own D → Calls Tryd.prog 29 #[.iface 49 (.pointer (some ⟨v.tb 0, 0, none⟩)), .agg s.cells] wx fun r w' => r = .returned (.int .i64 pe) ∧ Below wx.heap.size wx w'
  opn : ∀ wx, Nib wx → IsDev wx v own D → Calls Tryd.prog 19 #[.iface 49 (.pointer (some ⟨v.tb 0, 0, none⟩))] wx fun r w' => r = .returned (.tuple #[.agg #[.int .i64 0, .int .i64 0, .int .i64 0, .int .i64 0, .int .i64 0, .int .i64 0, .int .i64 0, .int .u64 0], .int .i64 oe]) ∧ Below wx.heap.size wx w'
  fmt : bb = true → ∀ wx, IsDev wx v own D → Calls Tryd.prog 28 #[.iface 49 (.pointer (some ⟨v.tb 0, 0, none⟩)), .agg s.cells] wx fun r w' => r = .returned (.int .i64 1) ∧ Below wx.heap.size wx w'
  b1 : bb = true → pe = 1
  b0 : bb = false → pe = wv
  o1 : n < 2 → oe = 1
  o0 : 2 ≤ n → oe = wv
def badB (n : Nat) (s : Sup) : Bool := decide (n < 2) || !s.okB || decide ((n : Int) < s.lin)
theorem memT (v : DV) : MemV (.iface 49 (.pointer (some ⟨v.tb 0, 0, none⟩))) := .inr ⟨_, rfl⟩
theorem errK_any (n : Nat) (s : Sup) (hi : s.I64) (D : Dev) (wv : Int) (v : DV) (own : Nat → Option Role) (hD : D.n = n) (h : (wv = 10 ∧ D = DZ n) ∨ (wv = 3 ∧ D.err 0 = 3)) :
    ∃ pe oe, ErrK n s D wv pe oe (badB n s) v own := by
  have hop : ∃ oe, (∀ wx, Nib wx → IsDev wx v own D → Calls Tryd.prog 19 #[.iface 49 (.pointer (some ⟨v.tb 0, 0, none⟩))] wx fun r w' => r = .returned (.tuple #[.agg #[.int .i64 0, .int .i64 0, .int .i64 0, .int .i64 0, .int .i64 0, .int .i64 0, .int .i64 0, .int .u64 0], .int .i64 oe]) ∧ Below wx.heap.size wx w') ∧ (n < 2 → oe = 1) ∧ (2 ≤ n → oe = wv) := by
    by_cases h2 : n < 2
    · exact ⟨1, fun wx _ hd => sbOpen_err (memT v) 1 (by decide) ((usable_small (hd.alloc _) (j := 0) (by omega) (by omega)).mono fun r w' hp => ⟨hp.1, by rw [← hp.2]; exact Below.refl _ _⟩), fun _ => rfl, fun h => by omega⟩
    · rcases h with ⟨rfl, rfl⟩ | ⟨rfl, he⟩
      · refine ⟨10, fun wx hx hd => ?_, fun h => by omega, fun _ => rfl⟩
        have := sbOpen_any hx hd (j := 0) (by omega) (DZ_cl n).grp.on.off (DZ_cl n).grp.on.err (DZ_cl n).vb (by rw [hD]; omega)
        rw [(DZ_cl n).cur] at this
        unfold opS opE at this
        rw [newG_zero] at this
        exact this
      · refine ⟨3, fun wx _ hd => sbOpen_err (memT v) 3 (by decide) ?_, fun h => by omega, fun _ => rfl⟩
        have := usable_any (hd.alloc (.cells #[.int .i64 0, .int .i64 0, .int .i64 0, .int .i64 0, .int .i64 0, .int .i64 0, .int .i64 0, .int .u64 0] 29)) (j := 0) (by omega) (by rw [hD]; omega)
        rw [he] at this
        exact this.mono fun r w' hp => ⟨hp.1, by rw [← hp.2]; exact Below.refl _ _⟩
  obtain ⟨oe, ho, ho1, ho0⟩ := hop
  by_cases hb : badB n s = true
  · have hU : ∀ wx, IsDev wx v own D → Calls Tryd.prog 52 #[.iface 49 (.pointer (some ⟨v.tb 0, 0, none⟩)), .agg s.cells] wx fun r w' => r = .returned (.int .i64 1) ∧ Below wx.heap.size wx w' := fun wx hd => by
      by_cases h2 : n < 2
      · exact usableFor_small hd (by omega) (by omega) s
      · by_cases hk : s.Ok
        · refine usableFor_big hd (by omega) (by omega) s hk ?_
          unfold badB at hb
          rw [Sup.okB_true hk] at hb
          simp at hb
          rw [hD]
          omega
        · exact usableFor_inv hd (by omega) (by omega) s hk
    have hP : ∀ wx, IsDev wx v own D → Calls Tryd.prog 26 #[.iface 49 (.pointer (some ⟨v.tb 0, 0, none⟩)), .agg s.cells] wx fun r w' => r = .returned (.tuple #[.slice none 0 0, .int .i64 1]) ∧ Below wx.heap.size wx w' := fun wx hd => sbPlan_err (memT v) s 1 (by decide) (hU _ (hd.alloc _))
    rw [hb]
    exact ⟨1, oe, ⟨fun wx _ hd => hP wx hd, fun wx _ hd => sbUpdate_err (memT v) s 1 (by decide) (hP _ (hd.alloc _)), ho, fun _ wx hd => sbFormat_err (memT v) s 1 (by decide) (hU _ (hd.alloc _)), fun _ => rfl, fun h => (by cases h), ho1, ho0⟩⟩
  · have hb' : badB n s = false := by simpa using hb
    unfold badB at hb'
    simp only [Bool.or_eq_false_iff, Bool.not_eq_false', decide_eq_false_iff_not] at hb'
    obtain ⟨⟨hn, hok⟩, hl⟩ := hb'
    have hk := okB_ok hok
    rw [show badB n s = false by simpa using hb]
    refine ⟨wv, oe, ?_, ?_, ho, fun h => (by cases h), fun h => (by cases h), fun _ => rfl, ho1, ho0⟩
    · intro wx hx hd
      rcases h with ⟨rfl, rfl⟩ | ⟨rfl, he⟩
      · refine (sbPlan_any hx hd (j := 0) (by omega) (DZ_cl n).grp.on.off (DZ_cl n).grp.on.err (DZ_cl n).vb (by rw [hD]; omega) s hk (by rw [hD]; omega) hi.g.1 hi.g.2).mono ?_
        rintro r w' (⟨_, h2, h3⟩ | ⟨h1, _⟩ | ⟨h1, _⟩)
        · exact ⟨h2, h3⟩
        · rw [(DZ_cl n).cur, newG_zero] at h1; cases h1
        · rw [(DZ_cl n).cur, newG_zero] at h1; cases h1
      · refine sbPlan_err (memT v) s 3 (by decide) ?_
        have := usableFor_any (hd.alloc (.cells s.cells 29)) (j := 0) (by omega) (by rw [hD]; omega) s hk (by rw [hD]; omega)
        rw [he] at this
        exact this
    · intro wx hx hd
      rcases h with ⟨rfl, rfl⟩ | ⟨rfl, he⟩
      · refine (sbUpdate_any hx hd (j := 0) (by omega) (DZ_cl n).grp.on.off (DZ_cl n).grp.on.err (DZ_cl n).vb (by rw [hD]; omega) s hk (by rw [hD]; omega) hi.g.1 hi.g.2 (by have := (DZ_cl n).exec; omega)).mono ?_
        rintro r w' (⟨_, h2, h3⟩ | ⟨h1, _⟩ | ⟨h1, _⟩)
        · exact ⟨h2, h3⟩
        · rw [(DZ_cl n).cur, newG_zero] at h1; cases h1
        · rw [(DZ_cl n).cur, newG_zero] at h1; cases h1
      · refine sbUpdate_err (memT v) s 3 (by decide) (sbPlan_err (memT v) s 3 (by decide) ?_)
        have := usableFor_any ((hd.alloc (.cells s.cells 29)).alloc (.cells s.cells 29)) (j := 0) (by omega) (by rw [hD]; omega) s hk (by rw [hD]; omega)
        rw [he] at this
        exact this
section
variable {w : World}
set_option maxRecDepth 100000 in
set_option maxHeartbeats 16000000 in
theorem superblockErrors_any (hN : Nib w) (s : Sup) (hi : s.I64) (n : Nat) (hn : n < 256) (ob : Bool) : Calls Tryd.prog 6 #[.agg s.cells, .int .u8 n, .bool ob] w fun e w' => e = .returned (.bool true) ∧ Below w.heap.size w w' := by
  have HNB := Lib.hid hN; clear hN
  have HRL := Lib.hid (fun wx => real_any (w := wx) s)
  have hrv := fun wx => valid13_any (w := wx) s
  rw [okR_eq] at hrv
  have HRV := Lib.hid hrv
  have HEK := Lib.hid (fun D wv v own hD h => errK_any n s hi D wv v own hD h)
  have HPN := Lib.hid (fun (wx : World) => sbPlan_err (w := wx) (m := .nilIface) (.inl rfl) s 1 (by decide) (usableFor_nil s))
  have HUN := Lib.hid (fun (wx : World) => sbUpdate_err (w := wx) (m := .nilIface) (.inl rfl) s 1 (by decide) (HPN.out _))
  have HFN := Lib.hid (fun (wx : World) => sbFormat_err (w := wx) (m := .nilIface) (.inl rfl) s 1 (by decide) (usableFor_nil s))
  have HON := Lib.hid (fun (wx : World) => sbOpen_err (w := wx) (m := .nilIface) (.inl rfl) 1 (by decide) usable_nil)
  have HBB : Hid (badB n s = (decide (n < 2) || !s.okB || decide ((n : Int) < s.lin))) := rfl
  have hl := hi.l
  generalize badB n s = bb at *
  generalize s.okB = okb at *
  clear hrv hi
  have HEK2 : Hid (∀ (D : Dev) (wv : Int) (v : DV) (own : Nat → Option Role), D.n = n → ((wv = 10 ∧ D = DZ n) ∨ (wv = 3 ∧ D.err 0 = 3)) → ∃ pe oe, ErrK n s D wv pe oe bb v own) := HEK.out
  clear HEK
  obtain ⟨sg, hsg⟩ : ∃ sg, sg = s := ⟨s, rfl⟩
  rw [← hsg] at HEK2
  have HSG := Lib.hid hsg.symm; clear hsg
  obtain ⟨ver, lin, redo, und, desc, que, tab, gen⟩ := s
  unfold Sup.cells at *
  simp only at HBB hl
  have BX := Lib.hid (below_alloc w (.cells #[.int .i64 ver, .int .i64 lin, .int .i64 redo, .int .i64 und, .int .i64 desc, .int .i64 que, .int .i64 tab, .int .u64 gen] 24))
  have KX := Lib.hid (Blk.new w #[.int .i64 ver, .int .i64 lin, .int .i64 redo, .int .i64 und, .int .i64 desc, .int .i64 que, .int .i64 tab, .int .u64 gen] 24)
  by_cases h0 : n = 0
  · subst h0
    go_enter Tryd.func6, Tryd.ntmps6
    go_wp2_with fail
    (with_reducible refine (awake13 (HNB.out.below BX.out)).mono ?_)
    rintro e w1 ⟨rfl, c1⟩
    have K1 := Lib.hid (KX.out.below c1)
    have B1 := Lib.hid (BX.out.trans (c1.mono BX.out.size))
    clear c1
    go_wp2_with fail
    (with_reducible refine (new_zero).mono ?_)
    rintro e w2 ⟨rfl, c2⟩
    have K2 := Lib.hid (K1.out.below c2)
    have B2 := Lib.hid (B1.out.trans (c2.mono B1.out.size))
    clear c2 K1 B1
    go_wp2_with fail
    (with_reducible refine (sbCheck_nil).mono ?_)
    rintro e w3 ⟨rfl, c3⟩
    have K3 := Lib.hid (K2.out.below c3)
    have B3 := Lib.hid (B2.out.trans (c3.mono B2.out.size))
    clear c3 K2 B2
    go_wp2_with fail
    (with_reducible refine (HON.out _).mono ?_)
    rintro e w4 ⟨rfl, c4⟩
    have K4 := Lib.hid ((K3.out.below c4).alloc (.cells #[.int .i64 0, .int .i64 0, .int .i64 0, .int .i64 0, .int .i64 0, .int .i64 0, .int .i64 0, .int .u64 0] 29))
    have B4 := Lib.hid (B3.out.trans ((c4.trans ((below_alloc w4 (.cells #[.int .i64 0, .int .i64 0, .int .i64 0, .int .i64 0, .int .i64 0, .int .i64 0, .int .i64 0, .int .u64 0] 29)).mono c4.size)).mono B3.out.size))
    clear c4 K3 B3
    have z0 : (w4.alloc (.cells #[.int .i64 0, .int .i64 0, .int .i64 0, .int .i64 0, .int .i64 0, .int .i64 0, .int .i64 0, .int .u64 0] 29)).cell? ⟨w.heap.size, 0, none⟩ = some (.int .i64 ver) := (K4.out).cell rfl
    have z1 : (w4.alloc (.cells #[.int .i64 0, .int .i64 0, .int .i64 0, .int .i64 0, .int .i64 0, .int .i64 0, .int .i64 0, .int .u64 0] 29)).cell? ⟨w.heap.size, 1, none⟩ = some (.int .i64 lin) := (K4.out).cell rfl
    have z2 : (w4.alloc (.cells #[.int .i64 0, .int .i64 0, .int .i64 0, .int .i64 0, .int .i64 0, .int .i64 0, .int .i64 0, .int .u64 0] 29)).cell? ⟨w.heap.size, 2, none⟩ = some (.int .i64 redo) := (K4.out).cell rfl
    have z3 : (w4.alloc (.cells #[.int .i64 0, .int .i64 0, .int .i64 0, .int .i64 0, .int .i64 0, .int .i64 0, .int .i64 0, .int .u64 0] 29)).cell? ⟨w.heap.size, 3, none⟩ = some (.int .i64 und) := (K4.out).cell rfl
    have z4 : (w4.alloc (.cells #[.int .i64 0, .int .i64 0, .int .i64 0, .int .i64 0, .int .i64 0, .int .i64 0, .int .i64 0, .int .u64 0] 29)).cell? ⟨w.heap.size, 4, none⟩ = some (.int .i64 desc) := (K4.out).cell rfl
    have z5 : (w4.alloc (.cells #[.int .i64 0, .int .i64 0, .int .i64 0, .int .i64 0, .int .i64 0, .int .i64 0, .int .i64 0, .int .u64 0] 29)).cell? ⟨w.heap.size, 5, none⟩ = some (.int .i64 que) := (K4.out).cell rfl
    have z6 : (w4.alloc (.cells #[.int .i64 0, .int .i64 0, .int .i64 0, .int .i64 0, .int .i64 0, .int .i64 0, .int .i64 0, .int .u64 0] 29)).cell? ⟨w.heap.size, 6, none⟩ = some (.int .i64 tab) := (K4.out).cell rfl
    have z7 : (w4.alloc (.cells #[.int .i64 0, .int .i64 0, .int .i64 0, .int .i64 0, .int .i64 0, .int .i64 0, .int .i64 0, .int .u64 0] 29)).cell? ⟨w.heap.size, 7, none⟩ = some (.int .u64 gen) := (K4.out).cell rfl
    go_wp2_with fail
    (with_reducible refine (HRL.out _).mono ?_)
    rintro e w5 ⟨rfl, c5⟩
    have K5 := Lib.hid (K4.out.below c5)
    have B5 := Lib.hid (B4.out.trans (c5.mono B4.out.size))
    clear c5 K4 B4 z0 z1 z2 z3 z4 z5 z6 z7
    go_wp2_with fail
    (with_reducible refine (HPN.out _).mono ?_)
    rintro e w6 ⟨rfl, c6⟩
    have K6 := Lib.hid (K5.out.below c6)
    have B6 := Lib.hid (B5.out.trans (c6.mono B5.out.size))
    clear c6 K5 B5
    go_wp2_with fail
    (with_reducible refine (sbRepair_nil).mono ?_)
    rintro e w7 ⟨rfl, c7⟩
    have K7 := Lib.hid (K6.out.below c7)
    have B7 := Lib.hid (B6.out.trans (c7.mono B6.out.size))
    clear c7 K6 B6
    have z0 : (w7).cell? ⟨w.heap.size, 0, none⟩ = some (.int .i64 ver) := (K7.out).cell rfl
    have z1 : (w7).cell? ⟨w.heap.size, 1, none⟩ = some (.int .i64 lin) := (K7.out).cell rfl
    have z2 : (w7).cell? ⟨w.heap.size, 2, none⟩ = some (.int .i64 redo) := (K7.out).cell rfl
    have z3 : (w7).cell? ⟨w.heap.size, 3, none⟩ = some (.int .i64 und) := (K7.out).cell rfl
    have z4 : (w7).cell? ⟨w.heap.size, 4, none⟩ = some (.int .i64 desc) := (K7.out).cell rfl
    have z5 : (w7).cell? ⟨w.heap.size, 5, none⟩ = some (.int .i64 que) := (K7.out).cell rfl
    have z6 : (w7).cell? ⟨w.heap.size, 6, none⟩ = some (.int .i64 tab) := (K7.out).cell rfl
    have z7 : (w7).cell? ⟨w.heap.size, 7, none⟩ = some (.int .u64 gen) := (K7.out).cell rfl
    go_wp2_with fail
    (with_reducible refine (HRL.out _).mono ?_)
    rintro e w8 ⟨rfl, c8⟩
    have K8 := Lib.hid (K7.out.below c8)
    have B8 := Lib.hid (B7.out.trans (c8.mono B7.out.size))
    clear c8 K7 B7 z0 z1 z2 z3 z4 z5 z6 z7
    go_wp2_with fail
    (with_reducible refine (HFN.out _).mono ?_)
    rintro e w9 ⟨rfl, c9⟩
    have K9 := Lib.hid (K8.out.below c9)
    have B9 := Lib.hid (B8.out.trans (c9.mono B8.out.size))
    clear c9 K8 B8
    have z0 : (w9).cell? ⟨w.heap.size, 0, none⟩ = some (.int .i64 ver) := (K9.out).cell rfl
    have z1 : (w9).cell? ⟨w.heap.size, 1, none⟩ = some (.int .i64 lin) := (K9.out).cell rfl
    have z2 : (w9).cell? ⟨w.heap.size, 2, none⟩ = some (.int .i64 redo) := (K9.out).cell rfl
    have z3 : (w9).cell? ⟨w.heap.size, 3, none⟩ = some (.int .i64 und) := (K9.out).cell rfl
    have z4 : (w9).cell? ⟨w.heap.size, 4, none⟩ = some (.int .i64 desc) := (K9.out).cell rfl
    have z5 : (w9).cell? ⟨w.heap.size, 5, none⟩ = some (.int .i64 que) := (K9.out).cell rfl
    have z6 : (w9).cell? ⟨w.heap.size, 6, none⟩ = some (.int .i64 tab) := (K9.out).cell rfl
    have z7 : (w9).cell? ⟨w.heap.size, 7, none⟩ = some (.int .u64 gen) := (K9.out).cell rfl
    go_wp2_with fail
    (with_reducible refine (HRL.out _).mono ?_)
    rintro e w10 ⟨rfl, c10⟩
    have B10 := Lib.hid (B9.out.trans (c10.mono B9.out.size))
    clear c10 K9 B9 z0 z1 z2 z3 z4 z5 z6 z7
    go_wp2_with fail
    (with_reducible refine (HUN.out _).mono ?_)
    rintro e w11 ⟨rfl, c11⟩
    have B11 := Lib.hid (B10.out.trans (c11.mono B10.out.size))
    clear c11 B10
    go_wp2_with fail
    go_ret
    exact ⟨rfl, B11.out⟩
  · have hpos : 0 < n := by omega
    have HNW := Lib.hid (fun (wx : World) => new_any (w := wx) n hpos (by omega))
    have HARM : Hid (∀ (wx : World) (v : DV) (own : Nat → Option Role), IsDev wx v own (DZ n) → Calls Tryd.prog 30 #[.pointer (some ⟨v.db, 0, none⟩), .int .i64 0] wx fun r w' => r = .returned (.tuple #[]) ∧ DPost v own wx ((DZ n).arm 0) w') := fun wx v own hd => arm_any hd 0 (by omega)
    have HFE : Hid (∀ (wx : World) (v : DV) (own : Nat → Option Role), IsDev wx v own ((DZ n).arm 0) → Calls Tryd.prog 31 #[.pointer (some ⟨v.tb 0, 0, none⟩)] wx fun r w' => r = .returned (.tuple #[]) ∧ DPost v own wx (DZz n) w') := fun wx v own hd => fence_any hd (j := 0) (by omega) (by show 0 < _; decide)
    clear h0
    go_enter Tryd.func6, Tryd.ntmps6
    go_wp2_with fail
    (with_reducible refine (awake13 (HNB.out.below BX.out)).mono ?_)
    rintro e w1 ⟨rfl, c1⟩
    have K1 := Lib.hid (KX.out.below c1)
    have B1 := Lib.hid (BX.out.trans (c1.mono BX.out.size))
    clear c1
    go_wp2_with fail
    (with_reducible refine (HNW.out _).mono ?_)
    rintro e w2 ⟨v, own, rfl, d2, o2, b2⟩
    have S2 : Hid (Ds w1 v own (DZ n) w2) := ⟨d2, o2, b2⟩
    clear d2 o2 b2 HNW
    go_wp2_with fail
    (with_reducible refine (thread0_any S2.out.dev).mono ?_)
    rintro e w' ⟨rfl, rfl⟩
    go_upto_if 85 with fail
    go_cut [18] from 86 to 89 (fun u wx => ∃ (own' : Nat → Option Role) (D : Dev) (wv : Int), u = .int .i64 wv ∧ Ds w1 v own' D wx ∧ D.n = n ∧ ((wv = 10 ∧ D = DZ n) ∨ (wv = 3 ∧ D.err 0 = 3)))
    case first =>
      cases ob
      · go_wp2_with fail
        go_meet
        exact ⟨own, DZ n, 10, rfl, S2.out, rfl, .inl ⟨rfl, rfl⟩⟩
      · go_wp2_with fail
        (with_reducible refine (HARM.out _ _ _ S2.out.dev).mono ?_)
        rintro e w3 ⟨rfl, p3⟩
        obtain ⟨own3, s3⟩ := S2.out.step p3
        have S3 := Lib.hid s3; clear p3 s3 S2
        go_wp2_with fail
        (with_reducible refine (HFE.out _ _ _ S3.out.dev).mono ?_)
        rintro e w4 ⟨rfl, p4⟩
        obtain ⟨own4, s4⟩ := S3.out.step p4
        have S4 := Lib.hid s4; clear p4 s4 S3
        go_wp2_with fail
        go_meet
        exact ⟨own4, DZz n, 3, rfl, S4.out, (DZz_err n).2, .inr ⟨rfl, (DZz_err n).1⟩⟩
    case rest =>
      obtain ⟨ownx, D, wv, rfl, hds, hDn, hor⟩ := hcut
      rename World => wx
      have S := Lib.hid hds
      obtain ⟨pe, oe, ek⟩ := HEK2.out D wv v ownx hDn hor
      rw [← HSG.out] at ek
      have EK := Lib.hid ek
      have HPL : Hid (∀ wx, Nib wx → IsDev wx v ownx D → Calls Tryd.prog 26 #[.iface 49 (.pointer (some ⟨v.tb 0, 0, none⟩)), .agg #[.int .i64 ver, .int .i64 lin, .int .i64 redo, .int .i64 und, .int .i64 desc, .int .i64 que, .int .i64 tab, .int .u64 gen]] wx fun r w' => r = .returned (.tuple #[.slice none 0 0, .int .i64 pe]) ∧ Below wx.heap.size wx w') := ek.plan
      have HUD : Hid (∀ wx, Nib wx → IsDev wx v ownx D → Calls Tryd.prog 29 #[.iface 49 (.pointer (some ⟨v.tb 0, 0, none⟩)), .agg #[.int .i64 ver, .int .i64 lin, .int .i64 redo, .int .i64 und, .int .i64 desc, .int .i64 que, .int .i64 tab, .int .u64 gen]] wx fun r w' => r = .returned (.int .i64 pe) ∧ Below wx.heap.size wx w') := ek.upd
      have HFM : Hid (bb = true → ∀ wx, IsDev wx v ownx D → Calls Tryd.prog 28 #[.iface 49 (.pointer (some ⟨v.tb 0, 0, none⟩)), .agg #[.int .i64 ver, .int .i64 lin, .int .i64 redo, .int .i64 und, .int .i64 desc, .int .i64 que, .int .i64 tab, .int .u64 gen]] wx fun r w' => r = .returned (.int .i64 1) ∧ Below wx.heap.size wx w') := ek.fmt
      clear hds ek hor hDn S2 HARM HFE HEK2
      go_upto_region 16 with fail
      go_cut [19] from 90 to 103 (fun u wy => u = .bool bb ∧ Ds w1 v ownx D wy)
      case first =>
        by_cases h2 : n < 2
        · have h2' : (n : Int) < 2 := by omega
          have HQ : Hid (bb = true) := by show bb = true; rw [HBB.out]; simp [h2]
          clear h2
          go_wp2_with fail
          go_meet
          exact ⟨by rw [HQ.out], S.out⟩
        · have h2' : ¬ (n : Int) < 2 := by omega
          have z0 : (wx).cell? ⟨w.heap.size, 0, none⟩ = some (.int .i64 ver) := (K1.out.below S.out.bel).cell rfl
          have z1 : (wx).cell? ⟨w.heap.size, 1, none⟩ = some (.int .i64 lin) := (K1.out.below S.out.bel).cell rfl
          have z2 : (wx).cell? ⟨w.heap.size, 2, none⟩ = some (.int .i64 redo) := (K1.out.below S.out.bel).cell rfl
          have z3 : (wx).cell? ⟨w.heap.size, 3, none⟩ = some (.int .i64 und) := (K1.out.below S.out.bel).cell rfl
          have z4 : (wx).cell? ⟨w.heap.size, 4, none⟩ = some (.int .i64 desc) := (K1.out.below S.out.bel).cell rfl
          have z5 : (wx).cell? ⟨w.heap.size, 5, none⟩ = some (.int .i64 que) := (K1.out.below S.out.bel).cell rfl
          have z6 : (wx).cell? ⟨w.heap.size, 6, none⟩ = some (.int .i64 tab) := (K1.out.below S.out.bel).cell rfl
          have z7 : (wx).cell? ⟨w.heap.size, 7, none⟩ = some (.int .u64 gen) := (K1.out.below S.out.bel).cell rfl
          have hlin2 := z1
          go_wp2_with fail
          (with_reducible refine (HRV.out _).mono ?_)
          rintro e wz ⟨rfl, cz⟩
          have SZ := Lib.hid (S.out.next cz)
          clear cz z0 z1 z2 z3 z4 z5 z6 z7 hlin2
          have y1 : wz.cell? ⟨w.heap.size, 1, none⟩ = some (.int .i64 lin) := (K1.out.below SZ.out.bel).cell rfl
          cases okb
          · have HQ : Hid (bb = true) := by show bb = true; rw [HBB.out]; simp
            go_wp2_with fail
            go_meet
            exact ⟨by rw [HQ.out], SZ.out⟩
          · have HQ : Hid (bb = decide ((n : Int) < lin)) := by show bb = _; rw [HBB.out]; simp [h2]
            by_cases h3 : (n : Int) < lin
            · have HQ2 : Hid (bb = true) := by show bb = true; rw [HQ.out]; simp [h3]
              go_wp2_with fail
              go_meet
              exact ⟨by rw [HQ2.out], SZ.out⟩
            · have HQ2 : Hid (bb = false) := by show bb = false; rw [HQ.out]; simp [h3]
              go_wp2_with fail
              go_meet
              exact ⟨by
                rw [HQ2.out]
                first | rfl | (simp; done) | (simp [h3]; done) | (simp; omega), SZ.out⟩
      case rest =>
        obtain ⟨rfl, hds⟩ := hcut
        rename World => wy
        have SY := Lib.hid hds
        clear hds S
        have z0 : (wy).cell? ⟨w.heap.size, 0, none⟩ = some (.int .i64 ver) := (K1.out.below SY.out.bel).cell rfl
        have z1 : (wy).cell? ⟨w.heap.size, 1, none⟩ = some (.int .i64 lin) := (K1.out.below SY.out.bel).cell rfl
        have z2 : (wy).cell? ⟨w.heap.size, 2, none⟩ = some (.int .i64 redo) := (K1.out.below SY.out.bel).cell rfl
        have z3 : (wy).cell? ⟨w.heap.size, 3, none⟩ = some (.int .i64 und) := (K1.out.below SY.out.bel).cell rfl
        have z4 : (wy).cell? ⟨w.heap.size, 4, none⟩ = some (.int .i64 desc) := (K1.out.below SY.out.bel).cell rfl
        have z5 : (wy).cell? ⟨w.heap.size, 5, none⟩ = some (.int .i64 que) := (K1.out.below SY.out.bel).cell rfl
        have z6 : (wy).cell? ⟨w.heap.size, 6, none⟩ = some (.int .i64 tab) := (K1.out.below SY.out.bel).cell rfl
        have z7 : (wy).cell? ⟨w.heap.size, 7, none⟩ = some (.int .u64 gen) := (K1.out.below SY.out.bel).cell rfl
        go_wp2_with fail
        (with_reducible refine (HRL.out _).mono ?_)
        rintro e w5 ⟨rfl, c5⟩
        have S5 := Lib.hid (SY.out.next c5)
        clear c5 SY z0 z1 z2 z3 z4 z5 z6 z7
        go_wp2_with fail
        (with_reducible refine (HPL.out _ (HNB.out.below (B1.out.trans (S5.out.bel.mono B1.out.size))) S5.out.dev).mono ?_)
        rintro e w6 ⟨rfl, c6⟩
        have S6 := Lib.hid (S5.out.next c6)
        clear c6 S5
        have z0 : (w6).cell? ⟨w.heap.size, 0, none⟩ = some (.int .i64 ver) := (K1.out.below S6.out.bel).cell rfl
        have z1 : (w6).cell? ⟨w.heap.size, 1, none⟩ = some (.int .i64 lin) := (K1.out.below S6.out.bel).cell rfl
        have z2 : (w6).cell? ⟨w.heap.size, 2, none⟩ = some (.int .i64 redo) := (K1.out.below S6.out.bel).cell rfl
        have z3 : (w6).cell? ⟨w.heap.size, 3, none⟩ = some (.int .i64 und) := (K1.out.below S6.out.bel).cell rfl
        have z4 : (w6).cell? ⟨w.heap.size, 4, none⟩ = some (.int .i64 desc) := (K1.out.below S6.out.bel).cell rfl
        have z5 : (w6).cell? ⟨w.heap.size, 5, none⟩ = some (.int .i64 que) := (K1.out.below S6.out.bel).cell rfl
        have z6 : (w6).cell? ⟨w.heap.size, 6, none⟩ = some (.int .i64 tab) := (K1.out.below S6.out.bel).cell rfl
        have z7 : (w6).cell? ⟨w.heap.size, 7, none⟩ = some (.int .u64 gen) := (K1.out.below S6.out.bel).cell rfl
        go_wp2_with fail
        (with_reducible refine (HRL.out _).mono ?_)
        rintro e w7 ⟨rfl, c7⟩
        have S7 := Lib.hid (S6.out.next c7)
        clear c7 S6 z0 z1 z2 z3 z4 z5 z6 z7
        go_wp2_with fail
        (with_reducible refine (HUD.out _ (HNB.out.below (B1.out.trans (S7.out.bel.mono B1.out.size))) S7.out.dev).mono ?_)
        rintro e w8 ⟨rfl, c8⟩
        have S8 := Lib.hid (S7.out.next c8)
        clear c8 S7
        go_wp2_with fail
        (with_reducible refine (EK.out.opn _ (HNB.out.below (B1.out.trans (S8.out.bel.mono B1.out.size))) S8.out.dev).mono ?_)
        rintro e w9 ⟨rfl, c9⟩
        have S9 := Lib.hid ((S8.out.next c9).next (below_alloc w9 (.cells #[.int .i64 0, .int .i64 0, .int .i64 0, .int .i64 0, .int .i64 0, .int .i64 0, .int .i64 0, .int .u64 0] 29)))
        clear c9 S8
        have hoo : (n < 2 ∧ oe = 1) ∨ (2 ≤ n ∧ oe = wv) := by
          by_cases h2 : n < 2
          · exact .inl ⟨h2, EK.out.o1 h2⟩
          · exact .inr ⟨by omega, EK.out.o0 (by omega)⟩
        cases bb
        · obtain rfl : pe = wv := EK.out.b0 rfl
          have hww : (pe != pe) = false := by simp
          have hwe : (pe == pe) = true := by simp
          rcases hoo with ⟨h2, rfl⟩ | ⟨h2, rfl⟩
          · have h2' : (n : Int) < 2 := by omega
            go_wp2_with fail
            go_ret
            exact ⟨rfl, B1.out.trans (S9.out.bel.mono B1.out.size)⟩
          · have h2' : ¬ (n : Int) < 2 := by omega
            go_wp2_with fail
            go_ret
            exact ⟨rfl, B1.out.trans (S9.out.bel.mono B1.out.size)⟩
        · obtain rfl : pe = 1 := EK.out.b1 rfl
          have z0 : (w9.alloc (.cells #[.int .i64 0, .int .i64 0, .int .i64 0, .int .i64 0, .int .i64 0, .int .i64 0, .int .i64 0, .int .u64 0] 29)).cell? ⟨w.heap.size, 0, none⟩ = some (.int .i64 ver) := (K1.out.below S9.out.bel).cell rfl
          have z1 : (w9.alloc (.cells #[.int .i64 0, .int .i64 0, .int .i64 0, .int .i64 0, .int .i64 0, .int .i64 0, .int .i64 0, .int .u64 0] 29)).cell? ⟨w.heap.size, 1, none⟩ = some (.int .i64 lin) := (K1.out.below S9.out.bel).cell rfl
          have z2 : (w9.alloc (.cells #[.int .i64 0, .int .i64 0, .int .i64 0, .int .i64 0, .int .i64 0, .int .i64 0, .int .i64 0, .int .u64 0] 29)).cell? ⟨w.heap.size, 2, none⟩ = some (.int .i64 redo) := (K1.out.below S9.out.bel).cell rfl
          have z3 : (w9.alloc (.cells #[.int .i64 0, .int .i64 0, .int .i64 0, .int .i64 0, .int .i64 0, .int .i64 0, .int .i64 0, .int .u64 0] 29)).cell? ⟨w.heap.size, 3, none⟩ = some (.int .i64 und) := (K1.out.below S9.out.bel).cell rfl
          have z4 : (w9.alloc (.cells #[.int .i64 0, .int .i64 0, .int .i64 0, .int .i64 0, .int .i64 0, .int .i64 0, .int .i64 0, .int .u64 0] 29)).cell? ⟨w.heap.size, 4, none⟩ = some (.int .i64 desc) := (K1.out.below S9.out.bel).cell rfl
          have z5 : (w9.alloc (.cells #[.int .i64 0, .int .i64 0, .int .i64 0, .int .i64 0, .int .i64 0, .int .i64 0, .int .i64 0, .int .u64 0] 29)).cell? ⟨w.heap.size, 5, none⟩ = some (.int .i64 que) := (K1.out.below S9.out.bel).cell rfl
          have z6 : (w9.alloc (.cells #[.int .i64 0, .int .i64 0, .int .i64 0, .int .i64 0, .int .i64 0, .int .i64 0, .int .i64 0, .int .u64 0] 29)).cell? ⟨w.heap.size, 6, none⟩ = some (.int .i64 tab) := (K1.out.below S9.out.bel).cell rfl
          have z7 : (w9.alloc (.cells #[.int .i64 0, .int .i64 0, .int .i64 0, .int .i64 0, .int .i64 0, .int .i64 0, .int .i64 0, .int .u64 0] 29)).cell? ⟨w.heap.size, 7, none⟩ = some (.int .u64 gen) := (K1.out.below S9.out.bel).cell rfl
          go_wp2_with fail
          (with_reducible refine (HRL.out _).mono ?_)
          rintro e w10 ⟨rfl, c10⟩
          have S10 := Lib.hid (S9.out.next c10)
          clear c10 S9 z0 z1 z2 z3 z4 z5 z6 z7
          go_wp2_with fail
          (with_reducible refine (HFM.out (by first | rfl | trivial | decide) _ S10.out.dev).mono ?_)
          rintro e w11 ⟨rfl, c11⟩
          have S11 := Lib.hid (S10.out.next c11)
          clear c11 S10
          have hwe : (wv == wv) = true := by simp
          rcases hoo with ⟨h2, rfl⟩ | ⟨h2, rfl⟩
          · have h2' : (n : Int) < 2 := by omega
            go_wp2_with fail
            go_ret
            exact ⟨rfl, B1.out.trans (S11.out.bel.mono B1.out.size)⟩
          · have h2' : ¬ (n : Int) < 2 := by omega
            go_wp2_with fail
            go_ret
            exact ⟨rfl, B1.out.trans (S11.out.bel.mono B1.out.size)⟩
end
end Go.Proofs.YtbpaamnofkhonaaDoor
