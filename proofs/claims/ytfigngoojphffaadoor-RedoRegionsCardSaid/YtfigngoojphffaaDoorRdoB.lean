/- The redo log's finish, Format, Recover's end: programs that run. -/
import Derived.Test.YtfigngoojphffaaDoorRdoA
import Derived.Deep.Cut
import Derived.Deep.CutRange
import Derived.Deep.RegionWith
import Derived.Deep.RegionHeld3
namespace Go.Proofs.YtfigngoojphffaaDoor
open Go.RowKit Go.Maps

theorem flushL_ok (offs : List Nat) (h : ∀ o ∈ offs, o < 18446744073709551616) : instrOk (flushL offs) := by
  intro e he
  unfold flushL at he
  split at he
  · simp at he
  · rcases List.mem_append.1 he with h1 | h1
    · obtain ⟨l, hl, rfl⟩ := List.mem_map.1 h1
      have := linesL_bd offs 288230376151711744 (fun o ho => by have := h o ho; omega) l hl
      exact ⟨by simp, by simp, by simp only; omega⟩
    · simp at h1; subst h1; exact ⟨by simp, by simp, by simp⟩
theorem storesL_ok (ws : List (Nat × Int)) (h : ∀ e ∈ ws, e.1 < 18446744073709551616) : instrOk (storesL ws) := by
  intro e he
  unfold storesL at he
  rcases List.mem_append.1 he with h1 | h1
  · obtain ⟨x, hx, rfl⟩ := List.mem_map.1 h1
    exact ⟨by simp, by simp, h x hx⟩
  · exact flushL_ok _ (fun o ho => by obtain ⟨x, hx, rfl⟩ := List.mem_map.1 ho; exact h x hx) e h1
theorem instrOk_append {a b : List (Nat × Nat × Int)} (ha : instrOk a) (hb : instrOk b) : instrOk (a ++ b) := fun e he => by
  rcases List.mem_append.1 he with h | h
  · exact ha e h
  · exact hb e h
theorem storesL_len (ws : List (Nat × Int)) : (storesL ws).length ≤ 2 * ws.length + 1 := by
  have := flushL_len (ws.map (·.1))
  unfold storesL
  rw [List.length_append, List.length_map]
  rw [List.length_map] at this
  omega
theorem store1_len (off : Nat) (x : Int) : (storesL [(off, x)]).length ≤ 3 := by have := storesL_len [(off, x)]; simpa using this
def VIn (V : List (Nat × Int)) : Prop := V.length ≤ 10000 ∧ ∀ e ∈ V, e.1 < 18446744073709551616
theorem rFinP_ok {off : Nat} {V : List (Nat × Int)} (ho : off < 18446744073709551616) (hV : VIn V) : instrOk (rFinP off V) := instrOk_append (storesL_ok _ hV.2) (storesL_ok _ (fun e he => by simp at he; subst he; exact ho))
theorem rFinP_len (off : Nat) (V : List (Nat × Int)) : (rFinP off V).length ≤ 2 * V.length + 4 := by
  have h1 := storesL_len V; have h2 := store1_len off 0
  unfold rFinP
  rw [List.length_append]; omega
theorem rPlanP_len (off : Nat) (W : List (Nat × Int)) : (rPlanP off W).length ≤ 6 * W.length + 8 := by
  unfold rPlanP
  split
  · simp
  · have h1 := storesL_len (planWs (off + 64) W); have h2 := store1_len off (cmtN W : Int); have h3 := rFinP_len off W
    rw [planWs_len] at h1
    rw [List.length_append, List.length_append]; omega
theorem rPlanP_ok {off : Nat} {W : List (Nat × Int)} (ho : off + 64 + 16 * W.length < 18446744073709551616) (hV : VIn W) : instrOk (rPlanP off W) := by
  unfold rPlanP
  split
  · intro e he; simp at he
  · exact instrOk_append (instrOk_append (storesL_ok _ (fun e he => by have := planWs_bd W _ e he; omega)) (storesL_ok _ (fun e he => by simp at he; subst he; simp only; omega))) (rFinP_ok (by omega) hV)
section
variable {w : World} {v : DV} {own : Nat → Option Role} {D : Dev} {lb j off len : Nat}
theorem DPost.past {w1 w2 : World} {D' : Dev} (hb : Below w.heap.size w w1) (h : DPost v own w1 D' w2) : DPost v own w D' w2 := DPost.next (fun _ _ => rfl) (Upd.of_below hb) h
/-- A program that a call has made runs on the device. -/
theorem run_acc (h : IsDev w v own D) (hj : j < 8) {w1 : World} {pv : Value} {P : List (Nat × Nat × Int)} (ha : Acc w w.heap.size w1 47 3 pv P.length (instrC P)) (hi : instrOk P) (hl : P.length ≤ 100000) (hx : D.exec + 100000 < 4294967296) :
    Calls Tryd.prog 42 #[pv, .iface 62 (.pointer (some ⟨v.tb j, 0, none⟩))] w1 fun r w' => r = .returned (.int .i64 ((D.run j P).err j)) ∧ DPost v own w (D.run j P) w' :=
  (run_any (h.below ha.bel) hj pv P ha.rd (fun k hk => by
    have := ha.new k hk
    cases ho : own k with
    | none => rfl
    | some r => have := h.lt k (by rw [ho]; simp); omega) hi hl (by omega)).mono fun r w' hp => ⟨hp.1, hp.2.past ha.bel⟩
set_option maxRecDepth 100000 in
set_option maxHeartbeats 2000000 in
theorem rdFormat_ok (h : IsDev w v own D) (hj : j < 8) (x y : Nat) (h2 : 26 ≤ y) (hr : x + y ≤ D.n) (he : D.err j = 0) (hx : D.exec + 100000 < 4294967296) :
    Calls Tryd.prog 33 #[.iface 62 (.pointer (some ⟨v.tb j, 0, none⟩)), .int .i64 x, .int .i64 y] w fun r w' => r = .returned (.int .i64 ((D.run j (storesL [(64 * x, 0)])).err j)) ∧ DPost v own w (D.run j (storesL [(64 * x, 0)])) w' := by
  have HO := Lib.hid (rdhandle_ok h hj x y h2 hr)
  have hm1 := meth_Err ⟨v.tb j, 0, none⟩
  have hn := h.wf.le
  have hE := fun wx (hx : IsDev wx v own D) => err_any hx hj
  rw [he] at hE
  have HE := Lib.hid hE
  have HR := Lib.hid (fun (w1 w2 : World) pv (hb : IsDev w1 v own D) ha => run_acc (w := w1) hb hj (w1 := w2) (pv := pv) (P := storesL [(64 * x, 0)]) ha (storesL_ok _ (fun e he => by simp at he; subst he; simp only; omega)) (by have := store1_len (64 * x) 0; omega) hx)
  clear h hE
  go_enter Tryd.func33, Tryd.ntmps33
  go_wp2_with fail
  (with_reducible refine HO.out.mono ?_)
  rintro e w1 ⟨rfl, l1, b1⟩
  have L1 := Lib.hid l1; have B1 := Lib.hid b1; clear l1 b1 HO
  have HM := Lib.hid (rdmark_any L1.out 0 (by omega))
  go_wp2_with fail
  (with_reducible refine (HE.out _ L1.out.dev).mono ?_)
  rintro e w' ⟨rfl, rfl⟩
  go_wp2_with fail
  (with_reducible refine HM.out.mono ?_)
  rintro e w2 ⟨ov, rfl, a2⟩
  have HR2 := Lib.hid (HR.out w1 w2 ov L1.out.dev a2)
  obtain ⟨oa, oc, hov⟩ := a2.slice
  subst hov
  clear a2 HM HR
  go_wp2_with fail
  (with_reducible refine HR2.out.mono ?_)
  rintro e w3 ⟨rfl, p3⟩
  have P3 := Lib.hid (p3.past B1.out); clear p3
  go_wp2_with fail
  go_ret
  exact ⟨rfl, P3.out⟩
set_option maxRecDepth 100000 in
set_option maxHeartbeats 2000000 in
theorem rdFormat_dead (h : IsDev w v own D) (hj : j < 8) (x y : Nat) (h2 : 26 ≤ y) (hr : x + y ≤ D.n) (he : D.err j ≠ 0) :
    Calls Tryd.prog 33 #[.iface 62 (.pointer (some ⟨v.tb j, 0, none⟩)), .int .i64 x, .int .i64 y] w fun r w' => r = .returned (.int .i64 (D.err j)) ∧ Below w.heap.size w w' := by
  have HO := Lib.hid (rdhandle_ok h hj x y h2 hr)
  have hm1 := meth_Err ⟨v.tb j, 0, none⟩
  have hb : (D.err j != 0) = true := by simpa using he
  have HE := Lib.hid (fun wx (hx : IsDev wx v own D) => err_any hx hj)
  generalize D.err j = e at *
  clear h he
  go_enter Tryd.func33, Tryd.ntmps33
  go_wp2_with fail
  (with_reducible refine HO.out.mono ?_)
  rintro e1 w1 ⟨rfl, l1, b1⟩
  have L1 := Lib.hid l1; have B1 := Lib.hid b1; clear l1 b1 HO
  go_wp2_with fail
  (with_reducible refine (HE.out _ L1.out.dev).mono ?_)
  rintro e1 w' ⟨rfl, rfl⟩
  go_wp2_with fail
  go_ret
  exact ⟨rfl, B1.out⟩
set_option maxRecDepth 100000 in
set_option maxHeartbeats 2000000 in
theorem rdFormat_err {m : Value} {x y e : Int} (hm : m = .nilIface ∨ ∃ a, m = .iface 62 (.pointer (some a))) (he : e ≠ 0) (h : Calls Tryd.prog 58 #[m, .int .i64 x, .int .i64 y] w (OpenErr w e)) :
    Calls Tryd.prog 33 #[m, .int .i64 x, .int .i64 y] w fun r w' => r = .returned (.int .i64 e) ∧ Below w.heap.size w w' := by
  have HO := Lib.hid h
  have hne : (e != 0) = true := by simpa using he
  clear h he
  rcases hm with rfl | ⟨a, rfl⟩
  all_goals
    go_enter Tryd.func33, Tryd.ntmps33
    go_wp2_with fail
    (with_reducible refine HO.out.mono ?_)
    rintro e' w1 ⟨rfl, b1⟩
    have B1 := Lib.hid b1; clear b1
    go_wp2_with fail
    go_ret
    exact ⟨rfl, B1.out⟩
end
end Go.Proofs.YtfigngoojphffaaDoor
