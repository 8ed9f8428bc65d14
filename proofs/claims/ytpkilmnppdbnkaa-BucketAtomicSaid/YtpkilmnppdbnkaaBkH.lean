/- pairs of the law: a bucket's entries as the program tells them. -/
import Derived.Test.YtpkilmnppdbnkaaBkG
namespace Go.Proofs.Ytpkilmnppdbnkaa
open Go.RowKit Go.Shelf
attribute [local go_sem] Oper.semAt_some

/-- Pairs as cells. -/
def prC (l : List (Int × Int)) : List Value := l.flatMap fun e => [.int .u64 e.1, .int .u64 e.2]
theorem prC_append (a b : List (Int × Int)) : prC (a ++ b) = prC a ++ prC b := by simp [prC]
theorem infoPair : (Try.prog.info? 86).map (fun i => (i.zero, i.size, i.bytes)) = some (some (.agg #[.int .u64 0, .int .u64 0]), 2, 16) := by kernel_rfl
section
variable {w : World} {v : DV} {own : Nat → Option Role} {D : Dev} {off : Nat}
theorem allBk_any1 (a : Addr) (off : Nat) : Calls Try.prog 48 #[.agg #[Value.nilIface, .int .u64 off]] w fun e w' =>
    e = .returned (.func (.func 83) #[] #[.pointer (some ⟨w.heap.size, 0, none⟩)]) ∧ w' = w.alloc (.cells #[Value.nilIface, .int .u64 off] 29) := by
  have _ := a
  go_enter Try.func48, Try.ntmps48
  go_wp2
  go_ret
  exact ⟨rfl, rfl⟩
theorem allBk_any2 (a : Addr) (off : Nat) : Calls Try.prog 48 #[.agg #[(Value.iface 56 (.pointer (some a))), .int .u64 off]] w fun e w' =>
    e = .returned (.func (.func 83) #[] #[.pointer (some ⟨w.heap.size, 0, none⟩)]) ∧ w' = w.alloc (.cells #[(Value.iface 56 (.pointer (some a))), .int .u64 off] 29) := by
  have _ := a
  go_enter Try.func48, Try.ntmps48
  go_wp2
  go_ret
  exact ⟨rfl, rfl⟩
/-- The iterator's value keeps its word, for every loop body that keeps KpB. -/
theorem all31_stops (n : Nat) (hn : 1 ≤ n) (bl : Nat) (hd : IsDev w v own D) (B : Nat) (hob : ∀ k, own k ≠ none → k < B) (hb : BOk D off) (hbl : Blk w bl #[.iface 56 (.pointer (some ⟨v.tb 0, 0, none⟩)), .int .u64 off] 29) :
    SeqStopsK Fence.wide n Try.prog 83 #[.pointer (some ⟨bl, 0, none⟩)] encP (KpB B) (fun xs => xs = entB D.cur off 7) (fun pre => pre <+: entB D.cur off 7) (entB D.cur off 7).length w := fun l J Jx _ hW hJ _ hY h0 =>
  all31_in n hn l bl J Jx B hJ (hd.below hW) hob hb hY (hbl.below hW) h0
set_option maxRecDepth 100000 in
theorem all31_nil_in (n : Nat) (hn : 1 ≤ n) (l bl off : Nat) {W : World} (J Jx : List (Int × Int) → World → Prop) (hJ : AbidesFrom W.heap.size J) (hbl : Blk W bl #[.nilIface, .int .u64 off] 29) (h0 : J [] W) :
    CallsIn Fence.wide n Try.prog 83 (#[.func (.yield l) #[] #[]] ++ #[.pointer (some ⟨bl, 0, none⟩)]) W fun e W' => (∃ v, e = .returned v) ∧ ((∃ xs, xs = [] ∧ J xs W') ∨ (∃ pre, pre <+: [] ∧ Jx pre W')) := by
  have HCK := Lib.hid (check31_nil W off)
  have c0 := hbl.cell (i := 0) (v := .nilIface) rfl
  have c1 := hbl.cell (i := 1) (v := .int .u64 off) rfl
  have HJ := Lib.hid hJ; have H0 := Lib.hid h0
  clear hJ h0 hbl
  refine callsIn_of_wp Try.func83 rfl trivial ?_ rfl
  simp only [Try.ntmps83, List.size_toArray, List.length_cons, List.length_nil, Nat.reduceAdd, Nat.reduceSub, Array.replicate_succ, Array.replicate_zero, List.push_toArray, List.append_toArray, List.nil_append, List.cons_append]
  gi_wp2
  gi_loopw [6] (fun i wr => i = .int .i64 0 ∧ wr = W) (fun i _ => 0)
  case atStart => exact ⟨rfl, rfl⟩
  case round =>
    obtain ⟨rfl, rfl⟩ := hrel
    gi_wp2
    refine ⟨trivial, ?_⟩
    (with_reducible refine (callsIn_wide.2 HCK.out.here).mono ?_)
    rintro r w1 ⟨rfl, b1⟩
    have H1 := Lib.hid (abides_below31 HJ.out H0.out b1)
    clear b1
    gi_wp2
    refine bodyPost_ret (results_none rfl _ _ _) rfl ?_
    exact ⟨⟨_, rfl⟩, .inl ⟨_, rfl, H1.out⟩⟩
theorem all31_nil_stops (n : Nat) (hn : 1 ≤ n) (bl off B : Nat) {w : World} (hbl : Blk w bl #[.nilIface, .int .u64 off] 29) :
    SeqStopsK Fence.wide n Try.prog 83 #[.pointer (some ⟨bl, 0, none⟩)] encP (KpB B) (fun xs => xs = []) (fun pre => pre <+: []) ([] : List (Int × Int)).length w := fun l J Jx _ hW hJ _ _ h0 =>
  all31_nil_in n hn l bl off J Jx hJ (hbl.below hW) h0
theorem cell_two31 (w : World) (x y : Value) (t : TypeId) : ∀ j u, [x, y][j]? = some u → (w.alloc (.cells #[x, y] t)).cell? ((⟨w.heap.size, 0, none⟩ : Addr).add j) = some u := by
  intro j u hu
  rw [Addr.add_lit]
  refine (Blk.new w #[x, y] t).cell ?_
  simpa using hu
/-- The pairs came out. -/
def PairsPost (w : World) (es : List (Int × Int)) (r : Ending) (w' : World) : Prop :=
  ∃ v, r = .returned v ∧ w'.ownsRow w.heap.size 86 2 v es.length (prC es) ∧ Below w.heap.size w w'
set_option maxRecDepth 100000 in
set_option maxHeartbeats 2000000 in
theorem pairs_in1 (n : Nat) (hn : 3 ≤ n) (es : List (Int × Int)) (a : Addr) (s : (bl : Nat) → (W : World) → Below w.heap.size w W → Blk W bl #[.nilIface, .int .u64 off] 29 → SeqStopsK Fence.wide (n - 1) Try.prog 83 #[.pointer (some ⟨bl, 0, none⟩)] encP (KpB w.heap.size) (fun xs => xs = es) (fun pre => pre <+: es) es.length W) (hl : es.length ≤ 100000) :
    CallsIn Fence.wide n Try.prog 17 #[.agg #[.nilIface, .int .u64 off]] w (PairsPost w es) := by
  have h1 : 1 ≤ n := by omega
  obtain ⟨i0, hi, hz0, hz1, hz2⟩ := info_parts infoPair
  refine callsIn_of_wp_marks Try.func17 rfl trivial ?_ rfl
  simp only [Try.ntmps17, List.size_toArray, List.length_cons, List.length_nil, Nat.reduceAdd, Nat.reduceSub, Array.replicate_succ, Array.replicate_zero, List.push_toArray, List.append_toArray, List.nil_append, List.cons_append]
  have HA := Lib.hid (fun wx => allBk_any1 (w := wx) a off)
  gi_wp2
  refine ⟨trivial, ?_⟩
  (with_reducible refine (callsIn_wide.2 (HA.out _)).mono ?_)
  rintro e w' ⟨rfl, rfl⟩
  gi_wp2
  have bO : Boxed (w.alloc (.cells #[.nilIface, .int .u64 off] 29) |>.alloc (.cells #[.slice none 0 0] 52)) (w.heap.size + 1) 52 (.slice none 0 0) := by
    have := Boxed.new (w.alloc (.cells #[.nilIface, .int .u64 off] 29)) 52 (.slice none 0 0); rwa [World.size_alloc] at this
  have bL : Blk (w.alloc (.cells #[.nilIface, .int .u64 off] 29) |>.alloc (.cells #[.slice none 0 0] 52) |>.alloc (.cells #[.nilIface, .int .u64 off] 29)) (w.heap.size + 1 + 1) #[.nilIface, .int .u64 off] 29 := by
    have := Blk.new (w.alloc (.cells #[.nilIface, .int .u64 off] 29) |>.alloc (.cells #[.slice none 0 0] 52)) #[.nilIface, .int .u64 off] 29; rwa [World.size_alloc, World.size_alloc] at this
  have hB0 : Below w.heap.size w (w.alloc (.cells #[.nilIface, .int .u64 off] 29) |>.alloc (.cells #[.slice none 0 0] 52) |>.alloc (.cells #[.nilIface, .int .u64 off] 29)) :=
    (((Below.refl _ w).alloc (Nat.le_refl _) _).alloc (by simp) _).alloc (by simp; omega) _
  refine wpIn_rangeFunc_ownG rfl h1 (gf := 83) (lb := #[.pointer (some ⟨w.heap.size + 1 + 1, 0, none⟩)]) rfl trivial (enters_of Try.func83 (by kernel_rfl) rfl)
    (s (w.heap.size + 1 + 1) _ hB0 bL) KpB.trans (fun W l o o' h => kpB_b (w := w) W l o o' (Nat.le_trans hB0.size h)) (Below.refl _ _) (fun _ => rfl)
    (fun pre W => (∃ v, Boxed W (w.heap.size + 1) 52 v ∧ W.ownsRow w.heap.size 86 2 v pre.length (prC pre) ∧ True) ∧ Below w.heap.size w W)
    (fun _ _ _ => False)
    (OwnFrom.and (Own.from (holdsRow_own w.heap.size (w.heap.size + 1) 52 86 2 (fun pre => pre.length) (fun pre => prC pre) (fun _ _ => True)) _) (ownFrom_below (Nat.le_refl _) (by simp; omega)))
    (fun _ _ _ _ _ hs _ _ => hs)
    ⟨⟨_, bO.alloc _, World.ownsRow_nil _ _ _ _, trivial⟩, hB0⟩
    (fun x => { tmps := #[.agg #[.nilIface, .int .u64 off], .pointer (some ⟨w.heap.size, 0, none⟩), .slice none 0 0, .pointer (some ⟨w.heap.size + 1, 0, none⟩), .int .u64 x.1, .int .u64 x.2, .agg #[.nilIface, .int .u64 off], .func (.func 83) #[] #[.pointer (some ⟨w.heap.size + 1 + 1, 0, none⟩)], .int .u64 x.1, .int .u64 x.2, undef, undef, undef, undef, undef, undef, undef], defers := [] }) ?assign ?body ?done ?stop
  case assign =>
    intro l x W K hK
    gi_wp2
    exact hK
  case body =>
    rintro l pre x W ⟨⟨v, hv, hrow, _⟩, hB⟩ hlt
    have hc := hv.cell
    gi_wp2_with (gi_at_builtin; refine wpListIn_append_own _ rfl _ _ 52 rfl w.heap.size 86 i0 (.agg #[.int .u64 0, .int .u64 0]) 2 16 Try.underlying52 hi hz0 hz1 hz2 rfl (by decide) _ _ _ rfl (hrow.alloc _) ⟨W.heap.size, 0, none⟩ 1 1 [.int .u64 x.1, .int .u64 x.2] rfl rfl (cell_two31 _ _ _ _) (by simp [Value.oneCell']) (by unfold maxLen; omega) (by omega) (by have := hB.size; simp; omega) ?_; intro v' w1 hown' hgrow _; obtain ⟨g', cap', rfl⟩ := ownsRow_succ hown'; obtain ⟨hv1, hv2, hr2, hk2, hb2⟩ := hv.appended (by decide) hrow hB.size (by omega) hown' hgrow; have hkp := kpB_append (v' := .slice (some ⟨g', 0, none⟩) (pre.length + 1) cap') hv hrow (by omega) hB.size hgrow; have hc1 := hv1.cell; have hf1 := hv1.frozen)
    exact ⟨hk2.from _, hkp, ⟨_, hv2, by rw [prC_append, List.length_append]; exact hr2, trivial⟩, hB.trans hb2⟩
  case done =>
    rintro D ys W hD rfl ⟨⟨v, hv, hrow, _⟩, hB⟩ hK
    have hc := hv.cell
    gi_wp2
    refine ⟨by simp, .inl ⟨_, _, rfl, run_takeDeferred hK, ?_⟩⟩
    exact ⟨_, results_tmp rfl _ _ _, v, rfl, ownsRow_putObj hrow _ hK rfl, hB.trans (belowK_b (w := w) (Nat.le_refl _) W D _ _ (by simp at hD; omega) hK rfl rfl)⟩
  case stop =>
    rintro D c pre W _ _ h _
    exact h.elim
set_option maxRecDepth 100000 in
set_option maxHeartbeats 2000000 in
theorem pairs_in2 (n : Nat) (hn : 3 ≤ n) (es : List (Int × Int)) (a : Addr) (s : (bl : Nat) → (W : World) → Below w.heap.size w W → Blk W bl #[.iface 56 (.pointer (some a)), .int .u64 off] 29 → SeqStopsK Fence.wide (n - 1) Try.prog 83 #[.pointer (some ⟨bl, 0, none⟩)] encP (KpB w.heap.size) (fun xs => xs = es) (fun pre => pre <+: es) es.length W) (hl : es.length ≤ 100000) :
    CallsIn Fence.wide n Try.prog 17 #[.agg #[.iface 56 (.pointer (some a)), .int .u64 off]] w (PairsPost w es) := by
  have h1 : 1 ≤ n := by omega
  obtain ⟨i0, hi, hz0, hz1, hz2⟩ := info_parts infoPair
  refine callsIn_of_wp_marks Try.func17 rfl trivial ?_ rfl
  simp only [Try.ntmps17, List.size_toArray, List.length_cons, List.length_nil, Nat.reduceAdd, Nat.reduceSub, Array.replicate_succ, Array.replicate_zero, List.push_toArray, List.append_toArray, List.nil_append, List.cons_append]
  have HA := Lib.hid (fun wx => allBk_any2 (w := wx) a off)
  gi_wp2
  refine ⟨trivial, ?_⟩
  (with_reducible refine (callsIn_wide.2 (HA.out _)).mono ?_)
  rintro e w' ⟨rfl, rfl⟩
  gi_wp2
  have bO : Boxed (w.alloc (.cells #[.iface 56 (.pointer (some a)), .int .u64 off] 29) |>.alloc (.cells #[.slice none 0 0] 52)) (w.heap.size + 1) 52 (.slice none 0 0) := by
    have := Boxed.new (w.alloc (.cells #[.iface 56 (.pointer (some a)), .int .u64 off] 29)) 52 (.slice none 0 0); rwa [World.size_alloc] at this
  have bL : Blk (w.alloc (.cells #[.iface 56 (.pointer (some a)), .int .u64 off] 29) |>.alloc (.cells #[.slice none 0 0] 52) |>.alloc (.cells #[.iface 56 (.pointer (some a)), .int .u64 off] 29)) (w.heap.size + 1 + 1) #[.iface 56 (.pointer (some a)), .int .u64 off] 29 := by
    have := Blk.new (w.alloc (.cells #[.iface 56 (.pointer (some a)), .int .u64 off] 29) |>.alloc (.cells #[.slice none 0 0] 52)) #[.iface 56 (.pointer (some a)), .int .u64 off] 29; rwa [World.size_alloc, World.size_alloc] at this
  have hB0 : Below w.heap.size w (w.alloc (.cells #[.iface 56 (.pointer (some a)), .int .u64 off] 29) |>.alloc (.cells #[.slice none 0 0] 52) |>.alloc (.cells #[.iface 56 (.pointer (some a)), .int .u64 off] 29)) :=
    (((Below.refl _ w).alloc (Nat.le_refl _) _).alloc (by simp) _).alloc (by simp; omega) _
  refine wpIn_rangeFunc_ownG rfl h1 (gf := 83) (lb := #[.pointer (some ⟨w.heap.size + 1 + 1, 0, none⟩)]) rfl trivial (enters_of Try.func83 (by kernel_rfl) rfl)
    (s (w.heap.size + 1 + 1) _ hB0 bL) KpB.trans (fun W l o o' h => kpB_b (w := w) W l o o' (Nat.le_trans hB0.size h)) (Below.refl _ _) (fun _ => rfl)
    (fun pre W => (∃ v, Boxed W (w.heap.size + 1) 52 v ∧ W.ownsRow w.heap.size 86 2 v pre.length (prC pre) ∧ True) ∧ Below w.heap.size w W)
    (fun _ _ _ => False)
    (OwnFrom.and (Own.from (holdsRow_own w.heap.size (w.heap.size + 1) 52 86 2 (fun pre => pre.length) (fun pre => prC pre) (fun _ _ => True)) _) (ownFrom_below (Nat.le_refl _) (by simp; omega)))
    (fun _ _ _ _ _ hs _ _ => hs)
    ⟨⟨_, bO.alloc _, World.ownsRow_nil _ _ _ _, trivial⟩, hB0⟩
    (fun x => { tmps := #[.agg #[.iface 56 (.pointer (some a)), .int .u64 off], .pointer (some ⟨w.heap.size, 0, none⟩), .slice none 0 0, .pointer (some ⟨w.heap.size + 1, 0, none⟩), .int .u64 x.1, .int .u64 x.2, .agg #[.iface 56 (.pointer (some a)), .int .u64 off], .func (.func 83) #[] #[.pointer (some ⟨w.heap.size + 1 + 1, 0, none⟩)], .int .u64 x.1, .int .u64 x.2, undef, undef, undef, undef, undef, undef, undef], defers := [] }) ?assign ?body ?done ?stop
  case assign =>
    intro l x W K hK
    gi_wp2
    exact hK
  case body =>
    rintro l pre x W ⟨⟨v, hv, hrow, _⟩, hB⟩ hlt
    have hc := hv.cell
    gi_wp2_with (gi_at_builtin; refine wpListIn_append_own _ rfl _ _ 52 rfl w.heap.size 86 i0 (.agg #[.int .u64 0, .int .u64 0]) 2 16 Try.underlying52 hi hz0 hz1 hz2 rfl (by decide) _ _ _ rfl (hrow.alloc _) ⟨W.heap.size, 0, none⟩ 1 1 [.int .u64 x.1, .int .u64 x.2] rfl rfl (cell_two31 _ _ _ _) (by simp [Value.oneCell']) (by unfold maxLen; omega) (by omega) (by have := hB.size; simp; omega) ?_; intro v' w1 hown' hgrow _; obtain ⟨g', cap', rfl⟩ := ownsRow_succ hown'; obtain ⟨hv1, hv2, hr2, hk2, hb2⟩ := hv.appended (by decide) hrow hB.size (by omega) hown' hgrow; have hkp := kpB_append (v' := .slice (some ⟨g', 0, none⟩) (pre.length + 1) cap') hv hrow (by omega) hB.size hgrow; have hc1 := hv1.cell; have hf1 := hv1.frozen)
    exact ⟨hk2.from _, hkp, ⟨_, hv2, by rw [prC_append, List.length_append]; exact hr2, trivial⟩, hB.trans hb2⟩
  case done =>
    rintro D ys W hD rfl ⟨⟨v, hv, hrow, _⟩, hB⟩ hK
    have hc := hv.cell
    gi_wp2
    refine ⟨by simp, .inl ⟨_, _, rfl, run_takeDeferred hK, ?_⟩⟩
    exact ⟨_, results_tmp rfl _ _ _, v, rfl, ownsRow_putObj hrow _ hK rfl, hB.trans (belowK_b (w := w) (Nat.le_refl _) W D _ _ (by simp at hD; omega) hK rfl rfl)⟩
  case stop =>
    rintro D c pre W _ _ h _
    exact h.elim
theorem pairs31_any (h : IsDev w v own D) (hb : BOk D off) : Calls Try.prog 17 #[.agg #[.iface 56 (.pointer (some ⟨v.tb 0, 0, none⟩)), .int .u64 off]] w (PairsPost w (entB D.cur off 7)) := by
  refine (callsIn_wide (n := 3)).1 ?_
  exact pairs_in2 3 (by omega) (entB D.cur off 7) ⟨v.tb 0, 0, none⟩ (fun bl W hW hbl => all31_stops 2 (by omega) bl (h.below hW) w.heap.size (fun k hk => h.lt k hk) hb hbl) (by have := entB_le D.cur off 7; omega)
theorem pairs31_nil (off : Nat) : Calls Try.prog 17 #[.agg #[.nilIface, .int .u64 off]] w (PairsPost w []) := by
  refine (callsIn_wide (n := 3)).1 ?_
  exact pairs_in1 3 (by omega) [] ⟨0, 0, none⟩ (fun bl W _ hbl => all31_nil_stops 2 (by omega) bl off w.heap.size hbl) (by simp)
end
end Go.Proofs.Ytpkilmnppdbnkaa
