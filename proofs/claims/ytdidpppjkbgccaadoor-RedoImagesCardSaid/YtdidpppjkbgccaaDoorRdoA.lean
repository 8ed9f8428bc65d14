/- The walks of the redo log's small functions over a device. -/
import Derived.Test.YtdidpppjkbgccaaDoorGen
import Derived.Test.YtdidpppjkbgccaaDoorMemA
import Derived.Test.YtdidpppjkbgccaaDoorThenU
import Derived.Test.YtdidpppjkbgccaaDoorRdoM
import Derived.Deep.Cut
import Derived.Deep.CutRange
import Derived.Deep.RegionWith
import Derived.Deep.RegionHeld3
namespace Go.Proofs.YtdidpppjkbgccaaDoor
open Go.RowKit Go.Maps

/-- A handle of the log of len bytes from off on, over thread j of the device. -/
structure RLog (w : World) (v : DV) (own : Nat → Option Role) (D : Dev) (lb j off len : Nat) : Prop where
  dev : IsDev w v own D
  blk : Blk w lb #[.iface 54 (.pointer (some ⟨v.tb j, 0, none⟩)), .int .u64 off, .int .u64 len] 92
  ob : own lb = none
  hj : j < 8
  n26 : 1664 ≤ len
  o64 : off % 64 = 0
  l64 : len % 64 = 0
  fit : off + len ≤ 64 * D.n

/-- What entries, Plan and the like return beside an error. -/
def ErrNil (w : World) (e : Int) (r : Ending) (w' : World) : Prop := r = .returned (.tuple #[.slice none 0 0, .int .i64 e]) ∧ Below w.heap.size w w'
def OpenErr (w : World) (e : Int) (r : Ending) (w' : World) : Prop := r = .returned (.tuple #[.pointer none, .int .i64 e]) ∧ Below w.heap.size w w'
/-- A log that has been opened. -/
def OpenPost (w : World) (v : DV) (own : Nat → Option Role) (D : Dev) (j off len : Nat) (r : Ending) (w' : World) : Prop :=
  r = .returned (.tuple #[.pointer (some ⟨w.heap.size, 0, none⟩), .int .i64 0]) ∧ RLog w' v own D w.heap.size j off len ∧ Below w.heap.size w w'
theorem nilA_Load (a : Addr) (w : World) : (nilAhead 281 54 (.pointer (some a)) "Load").run Tryd.prog w = .ok (some false) w := by kernel_rfl
section
variable {w : World} {v : DV} {own : Nat → Option Role} {D : Dev} {lb j off len : Nat}
theorem RLog.below {w' : World} (h : RLog w v own D lb j off len) (hb : Below w.heap.size w w') : RLog w' v own D lb j off len := ⟨h.dev.below hb, h.blk.below hb, h.ob, h.hj, h.n26, h.o64, h.l64, h.fit⟩
theorem RLog.alloc (h : RLog w v own D lb j off len) (o : Obj) : RLog (w.alloc o) v own D lb j off len := h.below (below_alloc w o)
theorem RLog.drew (h : RLog w v own D lb j off len) : RLog w.drew v own D lb j off len := h.below ((Below.refl _ _).drew)
theorem RLog.c0 (h : RLog w v own D lb j off len) : w.cell? ⟨lb, 0, none⟩ = some (.iface 54 (.pointer (some ⟨v.tb j, 0, none⟩))) := h.blk.cell rfl
theorem RLog.c1 (h : RLog w v own D lb j off len) : w.cell? ⟨lb, 1, none⟩ = some (.int .u64 off) := h.blk.cell rfl
theorem RLog.c2 (h : RLog w v own D lb j off len) : w.cell? ⟨lb, 2, none⟩ = some (.int .u64 len) := h.blk.cell rfl
theorem RLog.bd (h : RLog w v own D lb j off len) : off + len ≤ 262144 ∧ D.n ≤ 4096 := by have := h.dev.wf.le; have := h.fit; omega
theorem lload (h : RLog w v own D lb j off len) (ho : D.off = false) (hvb : D.VB) (o : Nat) (h8 : o % 8 = 0) (hl : o < 64 * D.n) :
    Calls Tryd.prog 29 #[.pointer (some ⟨v.tb j, 0, none⟩), .int .u64 o] w fun r w' => r = .returned (.int .u64 (((D.cur (o / 8)).toNat : Nat) : Int)) ∧ w = w' := by
  have := load_ok h.dev h.hj o ho h8 hl
  rw [Int.toNat_of_nonneg (hvb.cur (o / 8)).1]
  exact this
set_option maxRecDepth 100000 in
set_option maxHeartbeats 1000000 in
theorem rdhandle_nil (x y : Int) : Calls Tryd.prog 37 #[.nilIface, .int .i64 x, .int .i64 y] w (OpenErr w 1) := by
  go_enter Tryd.func37, Tryd.ntmps37
  go_wp2_with fail
  go_ret2
  exact ⟨rfl, Below.refl _ _⟩
set_option maxRecDepth 100000 in
set_option maxHeartbeats 1000000 in
theorem rdhandle_arg (a : Addr) (x y : Int) (h : x < 0 ∨ y < 26) : Calls Tryd.prog 37 #[.iface 54 (.pointer (some a)), .int .i64 x, .int .i64 y] w (OpenErr w 1) := by
  by_cases hx : x < 0
  · go_enter Tryd.func37, Tryd.ntmps37
    go_wp2_with fail
    go_ret2
    exact ⟨rfl, Below.refl _ _⟩
  · have hy : y < 26 := by omega
    clear h
    go_enter Tryd.func37, Tryd.ntmps37
    go_wp2_with fail
    go_ret2
    exact ⟨rfl, Below.refl _ _⟩
set_option maxRecDepth 100000 in
set_option maxHeartbeats 1000000 in
theorem rdhandle_range (h : IsDev w v own D) (hj : j < 8) (x y : Nat) (hx : x < 9223372036854775808) (hy : y < 9223372036854775808) (h2 : 26 ≤ y) (hr : D.n < x + y) :
    Calls Tryd.prog 37 #[.iface 54 (.pointer (some ⟨v.tb j, 0, none⟩)), .int .i64 x, .int .i64 y] w (OpenErr w 1) := by
  have hm1 := meth_Size ⟨v.tb j, 0, none⟩
  have HT := Lib.hid (thrSize_any h hj)
  have hn := h.wf.le
  have hx0 : ¬ (x : Int) < 0 := by omega
  have hy2 : ¬ (y : Int) < 26 := by omega
  have hq : (D.n : Int) * 64 / 64 = D.n := by omega
  clear h
  by_cases hyn : D.n < y
  · have hyn' : (D.n : Int) < y := by omega
    go_enter Tryd.func37, Tryd.ntmps37
    go_wp2_with fail
    (with_reducible refine HT.out.mono ?_)
    rintro e w' ⟨rfl, rfl⟩
    go_wp2_with fail
    go_ret2
    exact ⟨rfl, Below.refl _ _⟩
  · have hyn' : ¬ (D.n : Int) < y := by omega
    have hxn : (D.n : Int) - y < x := by omega
    go_enter Tryd.func37, Tryd.ntmps37
    go_wp2_with fail
    (with_reducible refine HT.out.mono ?_)
    rintro e w' ⟨rfl, rfl⟩
    go_wp2_with fail
    go_ret2
    exact ⟨rfl, Below.refl _ _⟩
set_option maxRecDepth 100000 in
set_option maxHeartbeats 1000000 in
theorem rdhandle_ok (h : IsDev w v own D) (hj : j < 8) (x y : Nat) (h2 : 26 ≤ y) (hr : x + y ≤ D.n) :
    Calls Tryd.prog 37 #[.iface 54 (.pointer (some ⟨v.tb j, 0, none⟩)), .int .i64 x, .int .i64 y] w (OpenPost w v own D j (64 * x) (64 * y)) := by
  have hm1 := meth_Size ⟨v.tb j, 0, none⟩
  have HT := Lib.hid (thrSize_any h hj)
  have hn := h.wf.le
  have H := Lib.hid h
  have hx0 : ¬ (x : Int) < 0 := by omega
  have hy2 : ¬ (y : Int) < 26 := by omega
  have hq : (D.n : Int) * 64 / 64 = D.n := by omega
  have hyn' : ¬ (D.n : Int) < y := by omega
  have hxn : ¬ (D.n : Int) - y < x := by omega
  have e64 : (x : Int) * 64 = ((64 * x : Nat) : Int) := by omega
  have f64 : (y : Int) * 64 = ((64 * y : Nat) : Int) := by omega
  have E64 := Lib.hid e64
  have F64 := Lib.hid f64
  clear h e64 f64
  go_enter Tryd.func37, Tryd.ntmps37
  go_wp2_with fail
  (with_reducible refine HT.out.mono ?_)
  rintro e w' ⟨rfl, rfl⟩
  go_wp2_with fail
  go_ret2
  refine ⟨rfl, ⟨H.out.alloc _, ?_, ?_, hj, by omega, by omega, by omega, by omega⟩, below_alloc _ _⟩
  · have := Blk.new w #[.iface 54 (.pointer (some ⟨v.tb j, 0, none⟩)), .int .u64 ((64 * x : Nat) : Int), .int .u64 ((64 * y : Nat) : Int)] 92
    rw [← E64.out, ← F64.out] at this
    have e3 := E64.out
    rw [← E64.out, ← F64.out]
    exact this
  · cases ho : own w.heap.size with
    | none => rfl
    | some r => have := H.out.lt w.heap.size (by rw [ho]; simp); omega
set_option maxRecDepth 100000 in
set_option maxHeartbeats 1000000 in
theorem rdOpen_err {m : Value} {x y e : Int} (hm : m = .nilIface ∨ ∃ a, m = .iface 54 (.pointer (some a))) (h : Calls Tryd.prog 37 #[m, .int .i64 x, .int .i64 y] w (OpenErr w e)) :
    Calls Tryd.prog 19 #[m, .int .i64 x, .int .i64 y] w (OpenErr w e) := by
  have HO := Lib.hid h
  clear h
  rcases hm with rfl | ⟨a, rfl⟩
  all_goals
    go_enter Tryd.func19, Tryd.ntmps19
    go_wp2_with fail
    (with_reducible refine HO.out.mono ?_)
    rintro e' w1 ⟨rfl, b1⟩
    have B1 := Lib.hid b1; clear b1
    go_wp2_with fail
    go_ret2
    exact ⟨rfl, B1.out⟩
set_option maxRecDepth 100000 in
set_option maxHeartbeats 1000000 in
theorem rdOpen_ok (h : IsDev w v own D) (hj : j < 8) (x y : Nat) (h2 : 26 ≤ y) (hr : x + y ≤ D.n) :
    Calls Tryd.prog 19 #[.iface 54 (.pointer (some ⟨v.tb j, 0, none⟩)), .int .i64 x, .int .i64 y] w (OpenPost w v own D j (64 * x) (64 * y)) := by
  have HO := Lib.hid (rdhandle_ok h hj x y h2 hr)
  clear h
  go_enter Tryd.func19, Tryd.ntmps19
  go_wp2_with fail
  (with_reducible refine HO.out.mono ?_)
  rintro e w1 ⟨rfl, l1, b1⟩
  have L1 := Lib.hid l1; have B1 := Lib.hid b1; clear l1 b1 HO
  go_wp2_with fail
  go_ret2
  exact ⟨rfl, L1.out, B1.out⟩
set_option maxRecDepth 100000 in
set_option maxHeartbeats 1000000 in
theorem rdmark_any (h : RLog w v own D lb j off len) (x : Int) (_hx : 0 ≤ x ∧ x < 18446744073709551616) : Calls Tryd.prog 51 #[.pointer (some ⟨lb, 0, none⟩), .int .u64 x] w
    fun r w' => ∃ ov, r = .returned ov ∧ Acc w w.heap.size w' 120 3 ov (storesL [(off, x)]).length (instrC (storesL [(off, x)])) := by
  have c1 := h.c1
  have hb := h.bd
  have HS := Lib.hid (stores_any (w := w.alloc (.cells #[.int .u64 off, .int .u64 x] 73)) (.slice (some ⟨w.heap.size, 0, none⟩) 1 1) [(off, x)] (by exact RdSl.new w _ _ 2 1 rfl) (by simp) (fun e he => by simp at he; subst he; simp only; omega))
  clear h
  go_enter Tryd.func51, Tryd.ntmps51
  go_wp2_with fail
  (with_reducible refine HS.out.mono ?_)
  rintro e w1 ⟨ov, rfl, a1⟩
  have A1 := Lib.hid (a1.deeper (below_alloc _ _)); clear a1 HS
  go_wp2_with fail
  go_ret
  exact ⟨_, rfl, A1.out⟩
end
end Go.Proofs.YtdidpppjkbgccaaDoor

/- The redo log's finish, Format, Recover's end: programs that run. -/
namespace Go.Proofs.YtdidpppjkbgccaaDoor
open Go.RowKit Go.Maps

theorem flushL_ok (offs : List Nat) (h : ∀ o ∈ offs, o < 18446744073709551616) : instrOk (flushL offs) := by
  intro e he
  unfold flushL at he
  split at he
  · simp at he
  · rcases List.mem_append.1 he with h1 | h1
    · obtain ⟨l, hl, rfl⟩ := List.mem_map.1 h1
      have := linesL_bd offs 288230376151711744 (fun o ho => by have := h o ho; omega) l hl
      exact ⟨by simp, by simp, by simp only; omega⟩
    · simp at h1; subst h1; exact ⟨by simp, by simp, by simp⟩
theorem storesL_ok (ws : List (Nat × Int)) (h : ∀ e ∈ ws, e.1 < 18446744073709551616) : instrOk (storesL ws) := by
  intro e he
  unfold storesL at he
  rcases List.mem_append.1 he with h1 | h1
  · obtain ⟨x, hx, rfl⟩ := List.mem_map.1 h1
    exact ⟨by simp, by simp, h x hx⟩
  · exact flushL_ok _ (fun o ho => by obtain ⟨x, hx, rfl⟩ := List.mem_map.1 ho; exact h x hx) e h1
theorem instrOk_append {a b : List (Nat × Nat × Int)} (ha : instrOk a) (hb : instrOk b) : instrOk (a ++ b) := fun e he => by
  rcases List.mem_append.1 he with h | h
  · exact ha e h
  · exact hb e h
theorem storesL_len (ws : List (Nat × Int)) : (storesL ws).length ≤ 2 * ws.length + 1 := by
  have := flushL_len (ws.map (·.1))
  unfold storesL
  rw [List.length_append, List.length_map]
  rw [List.length_map] at this
  omega
theorem store1_len (off : Nat) (x : Int) : (storesL [(off, x)]).length ≤ 3 := by have := storesL_len [(off, x)]; simpa using this
def VIn (V : List (Nat × Int)) : Prop := V.length ≤ 10000 ∧ ∀ e ∈ V, e.1 < 18446744073709551616
theorem rFinP_ok {off : Nat} {V : List (Nat × Int)} (ho : off < 18446744073709551616) (hV : VIn V) : instrOk (rFinP off V) := instrOk_append (storesL_ok _ hV.2) (storesL_ok _ (fun e he => by simp at he; subst he; exact ho))
theorem rFinP_len (off : Nat) (V : List (Nat × Int)) : (rFinP off V).length ≤ 2 * V.length + 4 := by
  have h1 := storesL_len V; have h2 := store1_len off 0
  unfold rFinP
  rw [List.length_append]; omega
theorem rPlanP_len (off : Nat) (W : List (Nat × Int)) : (rPlanP off W).length ≤ 6 * W.length + 8 := by
  unfold rPlanP
  split
  · simp
  · have h1 := storesL_len (planWs (off + 64) W); have h2 := store1_len off (cmtN W : Int); have h3 := rFinP_len off W
    rw [planWs_len] at h1
    rw [List.length_append, List.length_append]; omega
theorem rPlanP_ok {off : Nat} {W : List (Nat × Int)} (ho : off + 64 + 16 * W.length < 18446744073709551616) (hV : VIn W) : instrOk (rPlanP off W) := by
  unfold rPlanP
  split
  · intro e he; simp at he
  · exact instrOk_append (instrOk_append (storesL_ok _ (fun e he => by have := planWs_bd W _ e he; omega)) (storesL_ok _ (fun e he => by simp at he; subst he; simp only; omega))) (rFinP_ok (by omega) hV)
section
variable {w : World} {v : DV} {own : Nat → Option Role} {D : Dev} {lb j off len : Nat}
theorem DPost.past {w1 w2 : World} {D' : Dev} (hb : Below w.heap.size w w1) (h : DPost v own w1 D' w2) : DPost v own w D' w2 := DPost.next (fun _ _ => rfl) (Upd.of_below hb) h
/-- A program that a call has made runs on the device. -/
theorem run_acc (h : IsDev w v own D) (hj : j < 8) {w1 : World} {pv : Value} {P : List (Nat × Nat × Int)} (ha : Acc w w.heap.size w1 120 3 pv P.length (instrC P)) (hi : instrOk P) (hl : P.length ≤ 100000) (hx : D.exec + 100000 < 4294967296) :
    Calls Tryd.prog 28 #[pv, .iface 54 (.pointer (some ⟨v.tb j, 0, none⟩))] w1 fun r w' => r = .returned (.int .i64 ((D.run j P).err j)) ∧ DPost v own w (D.run j P) w' :=
  (run_any (h.below ha.bel) hj pv P ha.rd (fun k hk => by
    have := ha.new k hk
    cases ho : own k with
    | none => rfl
    | some r => have := h.lt k (by rw [ho]; simp); omega) hi hl (by omega)).mono fun r w' hp => ⟨hp.1, hp.2.past ha.bel⟩
set_option maxRecDepth 100000 in
set_option maxHeartbeats 2000000 in
theorem rdFormat_ok (h : IsDev w v own D) (hj : j < 8) (x y : Nat) (h2 : 26 ≤ y) (hr : x + y ≤ D.n) (he : D.err j = 0) (hx : D.exec + 100000 < 4294967296) :
    Calls Tryd.prog 31 #[.iface 54 (.pointer (some ⟨v.tb j, 0, none⟩)), .int .i64 x, .int .i64 y] w fun r w' => r = .returned (.int .i64 ((D.run j (storesL [(64 * x, 0)])).err j)) ∧ DPost v own w (D.run j (storesL [(64 * x, 0)])) w' := by
  have HO := Lib.hid (rdhandle_ok h hj x y h2 hr)
  have hm1 := meth_Err ⟨v.tb j, 0, none⟩
  have hn := h.wf.le
  have hE := fun wx (hx : IsDev wx v own D) => err_any hx hj
  rw [he] at hE
  have HE := Lib.hid hE
  have HR := Lib.hid (fun (w1 w2 : World) pv (hb : IsDev w1 v own D) ha => run_acc (w := w1) hb hj (w1 := w2) (pv := pv) (P := storesL [(64 * x, 0)]) ha (storesL_ok _ (fun e he => by simp at he; subst he; simp only; omega)) (by have := store1_len (64 * x) 0; omega) hx)
  clear h hE
  go_enter Tryd.func31, Tryd.ntmps31
  go_wp2_with fail
  (with_reducible refine HO.out.mono ?_)
  rintro e w1 ⟨rfl, l1, b1⟩
  have L1 := Lib.hid l1; have B1 := Lib.hid b1; clear l1 b1 HO
  have HM := Lib.hid (rdmark_any L1.out 0 (by omega))
  go_wp2_with fail
  (with_reducible refine (HE.out _ L1.out.dev).mono ?_)
  rintro e w' ⟨rfl, rfl⟩
  go_wp2_with fail
  (with_reducible refine HM.out.mono ?_)
  rintro e w2 ⟨ov, rfl, a2⟩
  have HR2 := Lib.hid (HR.out w1 w2 ov L1.out.dev a2)
  obtain ⟨oa, oc, hov⟩ := a2.slice
  subst hov
  clear a2 HM HR
  go_wp2_with fail
  (with_reducible refine HR2.out.mono ?_)
  rintro e w3 ⟨rfl, p3⟩
  have P3 := Lib.hid (p3.past B1.out); clear p3
  go_wp2_with fail
  go_ret
  exact ⟨rfl, P3.out⟩
set_option maxRecDepth 100000 in
set_option maxHeartbeats 2000000 in
theorem rdFormat_dead (h : IsDev w v own D) (hj : j < 8) (x y : Nat) (h2 : 26 ≤ y) (hr : x + y ≤ D.n) (he : D.err j ≠ 0) :
    Calls Tryd.prog 31 #[.iface 54 (.pointer (some ⟨v.tb j, 0, none⟩)), .int .i64 x, .int .i64 y] w fun r w' => r = .returned (.int .i64 (D.err j)) ∧ Below w.heap.size w w' := by
  have HO := Lib.hid (rdhandle_ok h hj x y h2 hr)
  have hm1 := meth_Err ⟨v.tb j, 0, none⟩
  have hb : (D.err j != 0) = true := by simpa using he
  have HE := Lib.hid (fun wx (hx : IsDev wx v own D) => err_any hx hj)
  generalize D.err j = e at *
  clear h he
  go_enter Tryd.func31, Tryd.ntmps31
  go_wp2_with fail
  (with_reducible refine HO.out.mono ?_)
  rintro e1 w1 ⟨rfl, l1, b1⟩
  have L1 := Lib.hid l1; have B1 := Lib.hid b1; clear l1 b1 HO
  go_wp2_with fail
  (with_reducible refine (HE.out _ L1.out.dev).mono ?_)
  rintro e1 w' ⟨rfl, rfl⟩
  go_wp2_with fail
  go_ret
  exact ⟨rfl, B1.out⟩
set_option maxRecDepth 100000 in
set_option maxHeartbeats 2000000 in
theorem rdFormat_err {m : Value} {x y e : Int} (hm : m = .nilIface ∨ ∃ a, m = .iface 54 (.pointer (some a))) (he : e ≠ 0) (h : Calls Tryd.prog 37 #[m, .int .i64 x, .int .i64 y] w (OpenErr w e)) :
    Calls Tryd.prog 31 #[m, .int .i64 x, .int .i64 y] w fun r w' => r = .returned (.int .i64 e) ∧ Below w.heap.size w w' := by
  have HO := Lib.hid h
  have hne : (e != 0) = true := by simpa using he
  clear h he
  rcases hm with rfl | ⟨a, rfl⟩
  all_goals
    go_enter Tryd.func31, Tryd.ntmps31
    go_wp2_with fail
    (with_reducible refine HO.out.mono ?_)
    rintro e' w1 ⟨rfl, b1⟩
    have B1 := Lib.hid b1; clear b1
    go_wp2_with fail
    go_ret
    exact ⟨rfl, B1.out⟩
end
end Go.Proofs.YtdidpppjkbgccaaDoor
