/- entries of the law: a node's entries as the program tells them. -/
import Derived.Test.YtkoijmoendepgaaLeafR
import Derived.Maps.AppendAt
namespace Go.Proofs.Ytkoijmoendepgaa
open Go.RowKit Go.Shelf
attribute [local go_sem] Oper.semAt_some

/-- Entries as cells. -/
def entC (l : List (Int × Int)) : List Value := l.flatMap fun e => [.int .u64 e.1, .int .u64 e.2]
theorem entC_append (a b : List (Int × Int)) : entC (a ++ b) = entC a ++ entC b := by simp [entC]
theorem infoEntry : (Try.prog.info? 84).map (fun i => (i.zero, i.size, i.bytes)) = some (some (.agg #[.int .u64 0, .int .u64 0]), 2, 16) := by kernel_rfl

section
variable {w : World}
set_option maxHeartbeats 1000000 in
theorem all_any {m : Value} (hm : IsMem m) (p : Nat) (from' : Int) : Calls Try.prog 36 #[.agg #[m, .int .u64 p], .int .u64 from'] w fun e w' =>
    e = .returned (.func (.func 71) #[] #[.pointer (some ⟨w.heap.size, 0, none⟩), .pointer (some ⟨w.heap.size + 1, 0, none⟩)]) ∧ w' = (w.alloc (.cells #[m, .int .u64 p] 47)).alloc (.cells #[.int .u64 from'] 23) := by
  rcases hm with rfl | ⟨a, rfl⟩
  all_goals
    go_enter Try.func36, Try.ntmps36
    go_wp2
    go_ret
    exact ⟨rfl, rfl⟩

/-- The iterator's value keeps its word, for every loop body that keeps KpT. -/
theorem all_stops (n : Nat) (hn : 1 ≤ n) (bl bf : Nat) (m : Value) (p : Nat) (from' : Int) (es : List (Int × Int)) (hm : IsMem m) (hbl : Blk w bl #[m, .int .u64 p] 47) (hbf : Blk w bf #[.int .u64 from'] 23) (hR : Yields w m p from' es) :
    SeqStopsK Fence.wide n Try.prog 71 #[.pointer (some ⟨bl, 0, none⟩), .pointer (some ⟨bf, 0, none⟩)] encE KpT (fun xs => xs = es) (fun pre => pre <+: es) es.length w := fun l J Jx W hW hJ _ hY h0 =>
  all1_in n hn l bl bf m p from' es J Jx W hJ hm hY (hbl.below hW) (hbf.below hW) (hR.below hW) h0

theorem kpT_append {W w1 : World} {B base : Nat} {v v' : Value} {k : Nat} {xs : List Value} {tmp : Array Value} (hv : Boxed W B 58 v) (hrow : W.ownsRow base 84 2 v k xs) (hg : (W.alloc (.cells tmp 84)).grownBy w1 v.ownBlock) :
    KpT W (w1.setCell ⟨B, 0, none⟩ v') := by
  refine ⟨Nat.le_trans (by simp) (Nat.le_trans hg.size (by simp [World.setCell])), fun j c t f hj h1 h2 => ?_⟩
  have hlt := lt_of_block hj
  rw [Below.heap_setCell _ _ _ _ (fun e => ?_)]
  · rw [hg.block j (by simp; omega) (fun e => ?_)]
    · exact (Below.heap_alloc _ _ _ hlt).trans hj
    · rcases hrow.2 with ⟨rfl, _⟩ | ⟨g, cap, cur, rfl, _, hgb, _⟩
      · simp [Value.ownBlock] at e
      · obtain rfl : j = g := by simpa [Value.ownBlock] using e
        rw [hgb] at hj; cases hj; exact h1 rfl
  · have e' : j = B := e
    subst e'
    have := (show W.heap[j]? = _ from hv).symm.trans hj
    cases this; exact h2 rfl

theorem cell_two_new (w : World) (x y : Value) (t : TypeId) : ∀ j u, [x, y][j]? = some u → (w.alloc (.cells #[x, y] t)).cell? ((⟨w.heap.size, 0, none⟩ : Addr).add j) = some u := by
  intro j u hu
  rw [Addr.add_lit]
  refine (Blk.new w #[x, y] t).cell ?_
  simpa using hu

/-- The entries came out. -/
def EntsPost (w : World) (es : List (Int × Int)) (r : Ending) (w' : World) : Prop :=
  ∃ v, r = .returned v ∧ w'.ownsRow w.heap.size 84 2 v es.length (entC es) ∧ Below w.heap.size w w'

set_option maxRecDepth 100000 in
set_option maxHeartbeats 2000000 in
theorem entries_in1 (n : Nat) (hn : 3 ≤ n) (_a a : Addr) (_e : a = a) (p : Nat) (es : List (Int × Int)) (hm : IsMem Value.nilIface) (hR : Yields w Value.nilIface p 0 es) (hl : es.length ≤ 100000) :
    CallsIn Fence.wide n Try.prog 23 #[.agg #[Value.nilIface, .int .u64 p]] w (EntsPost w es) := by
  have h1 : 1 ≤ n := by omega
  obtain ⟨i0, hi, hz0, hz1, hz2⟩ := info_parts infoEntry
  refine callsIn_of_wp_marks Try.func23 rfl trivial ?_ rfl
  simp only [Try.ntmps23, List.size_toArray, List.length_cons, List.length_nil, Nat.reduceAdd, Nat.reduceSub, Array.replicate_succ, Array.replicate_zero, List.push_toArray, List.append_toArray, List.nil_append, List.cons_append]
  have HA := Lib.hid (fun wx => all_any (w := wx) hm p 0)
  gi_wp2
  refine ⟨trivial, ?_⟩
  (with_reducible refine (callsIn_wide.2 (HA.out _)).mono ?_)
  rintro e w' ⟨rfl, rfl⟩
  gi_wp2
  have bO : Boxed (w.alloc (.cells #[Value.nilIface, .int .u64 p] 47) |>.alloc (.cells #[.slice none 0 0] 58)) (w.heap.size + 1) 58 (.slice none 0 0) := by
    have := Boxed.new (w.alloc (.cells #[Value.nilIface, .int .u64 p] 47)) 58 (.slice none 0 0); rwa [World.size_alloc] at this
  have bL : Blk (w.alloc (.cells #[Value.nilIface, .int .u64 p] 47) |>.alloc (.cells #[.slice none 0 0] 58) |>.alloc (.cells #[Value.nilIface, .int .u64 p] 47)) (w.heap.size + 1 + 1) #[Value.nilIface, .int .u64 p] 47 := by
    have := Blk.new (w.alloc (.cells #[Value.nilIface, .int .u64 p] 47) |>.alloc (.cells #[.slice none 0 0] 58)) #[Value.nilIface, .int .u64 p] 47; rwa [World.size_alloc, World.size_alloc] at this
  have bF : Blk (w.alloc (.cells #[Value.nilIface, .int .u64 p] 47) |>.alloc (.cells #[.slice none 0 0] 58) |>.alloc (.cells #[Value.nilIface, .int .u64 p] 47) |>.alloc (.cells #[.int .u64 0] 23)) (w.heap.size + 1 + 1 + 1) #[.int .u64 0] 23 := by
    have := Blk.new (w.alloc (.cells #[Value.nilIface, .int .u64 p] 47) |>.alloc (.cells #[.slice none 0 0] 58) |>.alloc (.cells #[Value.nilIface, .int .u64 p] 47)) #[.int .u64 0] 23; rwa [World.size_alloc, World.size_alloc, World.size_alloc] at this
  have hB0 : Below w.heap.size w (w.alloc (.cells #[Value.nilIface, .int .u64 p] 47) |>.alloc (.cells #[.slice none 0 0] 58) |>.alloc (.cells #[Value.nilIface, .int .u64 p] 47) |>.alloc (.cells #[.int .u64 0] 23)) :=
    ((((Below.refl _ w).alloc (Nat.le_refl _) _).alloc (by simp) _).alloc (by simp; omega) _).alloc (by simp; omega) _
  refine wpIn_rangeFunc_ownG rfl h1 (gf := 71) (lb := #[.pointer (some ⟨w.heap.size + 1 + 1, 0, none⟩), .pointer (some ⟨w.heap.size + 1 + 1 + 1, 0, none⟩)]) rfl trivial (enters_of Try.func71 (by kernel_rfl) rfl)
    (all_stops (n - 1) (by omega) (w.heap.size + 1 + 1) (w.heap.size + 1 + 1 + 1) Value.nilIface p 0 es hm (bL.alloc _) bF (hR.below hB0)) KpT.trans kpT_b (Below.refl _ _) (fun _ => rfl)
    (fun pre W => (∃ v, Boxed W (w.heap.size + 1) 58 v ∧ W.ownsRow w.heap.size 84 2 v pre.length (entC pre) ∧ True) ∧ Below w.heap.size w W)
    (fun _ _ _ => False)
    (OwnFrom.and (Own.from (holdsRow_own w.heap.size (w.heap.size + 1) 58 84 2 (fun pre => pre.length) (fun pre => entC pre) (fun _ _ => True)) _) (ownFrom_below (Nat.le_refl _) (by simp; omega)))
    (fun _ _ _ _ _ hs _ _ => hs)
    ⟨⟨_, (bO.alloc _).alloc _, World.ownsRow_nil _ _ _ _, trivial⟩, hB0⟩
    (fun x => { tmps := #[.agg #[Value.nilIface, .int .u64 p], .pointer (some ⟨w.heap.size, 0, none⟩), .slice none 0 0, .pointer (some ⟨w.heap.size + 1, 0, none⟩), .int .u64 x.1, .int .u64 x.2, .agg #[Value.nilIface, .int .u64 p], .func (.func 71) #[] #[.pointer (some ⟨w.heap.size + 1 + 1, 0, none⟩), .pointer (some ⟨w.heap.size + 1 + 1 + 1, 0, none⟩)], .int .u64 x.1, .int .u64 x.2, undef, undef, undef, undef, undef, undef, undef], defers := [] }) ?assign ?body ?done ?stop
  case assign =>
    intro l x W K hK
    gi_wp2
    exact hK
  case body =>
    rintro l pre x W ⟨⟨v, hv, hrow, _⟩, hB⟩ hlt
    have hc := hv.cell
    gi_wp2_with (gi_at_builtin; refine wpListIn_append_own _ rfl _ _ 58 rfl w.heap.size 84 i0 (.agg #[.int .u64 0, .int .u64 0]) 2 16 Try.underlying58 hi hz0 hz1 hz2 rfl (by decide) _ _ _ rfl (hrow.alloc _) ⟨W.heap.size, 0, none⟩ 1 1 [.int .u64 x.1, .int .u64 x.2] rfl rfl (cell_two_new _ _ _ _) (by simp [Value.oneCell']) (by unfold maxLen; omega) (by omega) (by have := hB.size; simp; omega) ?_; intro v' w1 hown' hgrow _; obtain ⟨g', cap', rfl⟩ := ownsRow_succ hown'; obtain ⟨hv1, hv2, hr2, hk2, hb2⟩ := hv.appended (by decide) hrow hB.size (by omega) hown' hgrow; have hkp := kpT_append (v' := .slice (some ⟨g', 0, none⟩) (pre.length + 1) cap') hv hrow hgrow; have hc1 := hv1.cell; have hf1 := hv1.frozen)
    exact ⟨hk2.from _, hkp, ⟨_, hv2, by rw [entC_append, List.length_append]; exact hr2, trivial⟩, hB.trans hb2⟩
  case done =>
    rintro D ys W hD rfl ⟨⟨v, hv, hrow, _⟩, hB⟩ hK
    have hc := hv.cell
    gi_wp2
    refine ⟨by simp, .inl ⟨_, _, rfl, run_takeDeferred hK, ?_⟩⟩
    exact ⟨_, results_tmp rfl _ _ _, v, rfl, ownsRow_putObj hrow _ hK rfl, hB.trans (belowK_b (w := w) (Nat.le_refl _) W D _ _ (by simp at hD; omega) hK rfl rfl)⟩
  case stop =>
    rintro D c pre W _ _ h _
    exact h.elim

set_option maxRecDepth 100000 in
set_option maxHeartbeats 2000000 in
theorem entries_in2 (n : Nat) (hn : 3 ≤ n) (_a a : Addr) (_e : a = a) (p : Nat) (es : List (Int × Int)) (hm : IsMem (Value.iface 39 (.pointer (some a)))) (hR : Yields w (Value.iface 39 (.pointer (some a))) p 0 es) (hl : es.length ≤ 100000) :
    CallsIn Fence.wide n Try.prog 23 #[.agg #[(Value.iface 39 (.pointer (some a))), .int .u64 p]] w (EntsPost w es) := by
  have h1 : 1 ≤ n := by omega
  obtain ⟨i0, hi, hz0, hz1, hz2⟩ := info_parts infoEntry
  refine callsIn_of_wp_marks Try.func23 rfl trivial ?_ rfl
  simp only [Try.ntmps23, List.size_toArray, List.length_cons, List.length_nil, Nat.reduceAdd, Nat.reduceSub, Array.replicate_succ, Array.replicate_zero, List.push_toArray, List.append_toArray, List.nil_append, List.cons_append]
  have HA := Lib.hid (fun wx => all_any (w := wx) hm p 0)
  gi_wp2
  refine ⟨trivial, ?_⟩
  (with_reducible refine (callsIn_wide.2 (HA.out _)).mono ?_)
  rintro e w' ⟨rfl, rfl⟩
  gi_wp2
  have bO : Boxed (w.alloc (.cells #[(Value.iface 39 (.pointer (some a))), .int .u64 p] 47) |>.alloc (.cells #[.slice none 0 0] 58)) (w.heap.size + 1) 58 (.slice none 0 0) := by
    have := Boxed.new (w.alloc (.cells #[(Value.iface 39 (.pointer (some a))), .int .u64 p] 47)) 58 (.slice none 0 0); rwa [World.size_alloc] at this
  have bL : Blk (w.alloc (.cells #[(Value.iface 39 (.pointer (some a))), .int .u64 p] 47) |>.alloc (.cells #[.slice none 0 0] 58) |>.alloc (.cells #[(Value.iface 39 (.pointer (some a))), .int .u64 p] 47)) (w.heap.size + 1 + 1) #[(Value.iface 39 (.pointer (some a))), .int .u64 p] 47 := by
    have := Blk.new (w.alloc (.cells #[(Value.iface 39 (.pointer (some a))), .int .u64 p] 47) |>.alloc (.cells #[.slice none 0 0] 58)) #[(Value.iface 39 (.pointer (some a))), .int .u64 p] 47; rwa [World.size_alloc, World.size_alloc] at this
  have bF : Blk (w.alloc (.cells #[(Value.iface 39 (.pointer (some a))), .int .u64 p] 47) |>.alloc (.cells #[.slice none 0 0] 58) |>.alloc (.cells #[(Value.iface 39 (.pointer (some a))), .int .u64 p] 47) |>.alloc (.cells #[.int .u64 0] 23)) (w.heap.size + 1 + 1 + 1) #[.int .u64 0] 23 := by
    have := Blk.new (w.alloc (.cells #[(Value.iface 39 (.pointer (some a))), .int .u64 p] 47) |>.alloc (.cells #[.slice none 0 0] 58) |>.alloc (.cells #[(Value.iface 39 (.pointer (some a))), .int .u64 p] 47)) #[.int .u64 0] 23; rwa [World.size_alloc, World.size_alloc, World.size_alloc] at this
  have hB0 : Below w.heap.size w (w.alloc (.cells #[(Value.iface 39 (.pointer (some a))), .int .u64 p] 47) |>.alloc (.cells #[.slice none 0 0] 58) |>.alloc (.cells #[(Value.iface 39 (.pointer (some a))), .int .u64 p] 47) |>.alloc (.cells #[.int .u64 0] 23)) :=
    ((((Below.refl _ w).alloc (Nat.le_refl _) _).alloc (by simp) _).alloc (by simp; omega) _).alloc (by simp; omega) _
  refine wpIn_rangeFunc_ownG rfl h1 (gf := 71) (lb := #[.pointer (some ⟨w.heap.size + 1 + 1, 0, none⟩), .pointer (some ⟨w.heap.size + 1 + 1 + 1, 0, none⟩)]) rfl trivial (enters_of Try.func71 (by kernel_rfl) rfl)
    (all_stops (n - 1) (by omega) (w.heap.size + 1 + 1) (w.heap.size + 1 + 1 + 1) (Value.iface 39 (.pointer (some a))) p 0 es hm (bL.alloc _) bF (hR.below hB0)) KpT.trans kpT_b (Below.refl _ _) (fun _ => rfl)
    (fun pre W => (∃ v, Boxed W (w.heap.size + 1) 58 v ∧ W.ownsRow w.heap.size 84 2 v pre.length (entC pre) ∧ True) ∧ Below w.heap.size w W)
    (fun _ _ _ => False)
    (OwnFrom.and (Own.from (holdsRow_own w.heap.size (w.heap.size + 1) 58 84 2 (fun pre => pre.length) (fun pre => entC pre) (fun _ _ => True)) _) (ownFrom_below (Nat.le_refl _) (by simp; omega)))
    (fun _ _ _ _ _ hs _ _ => hs)
    ⟨⟨_, (bO.alloc _).alloc _, World.ownsRow_nil _ _ _ _, trivial⟩, hB0⟩
    (fun x => { tmps := #[.agg #[(Value.iface 39 (.pointer (some a))), .int .u64 p], .pointer (some ⟨w.heap.size, 0, none⟩), .slice none 0 0, .pointer (some ⟨w.heap.size + 1, 0, none⟩), .int .u64 x.1, .int .u64 x.2, .agg #[(Value.iface 39 (.pointer (some a))), .int .u64 p], .func (.func 71) #[] #[.pointer (some ⟨w.heap.size + 1 + 1, 0, none⟩), .pointer (some ⟨w.heap.size + 1 + 1 + 1, 0, none⟩)], .int .u64 x.1, .int .u64 x.2, undef, undef, undef, undef, undef, undef, undef], defers := [] }) ?assign ?body ?done ?stop
  case assign =>
    intro l x W K hK
    gi_wp2
    exact hK
  case body =>
    rintro l pre x W ⟨⟨v, hv, hrow, _⟩, hB⟩ hlt
    have hc := hv.cell
    gi_wp2_with (gi_at_builtin; refine wpListIn_append_own _ rfl _ _ 58 rfl w.heap.size 84 i0 (.agg #[.int .u64 0, .int .u64 0]) 2 16 Try.underlying58 hi hz0 hz1 hz2 rfl (by decide) _ _ _ rfl (hrow.alloc _) ⟨W.heap.size, 0, none⟩ 1 1 [.int .u64 x.1, .int .u64 x.2] rfl rfl (cell_two_new _ _ _ _) (by simp [Value.oneCell']) (by unfold maxLen; omega) (by omega) (by have := hB.size; simp; omega) ?_; intro v' w1 hown' hgrow _; obtain ⟨g', cap', rfl⟩ := ownsRow_succ hown'; obtain ⟨hv1, hv2, hr2, hk2, hb2⟩ := hv.appended (by decide) hrow hB.size (by omega) hown' hgrow; have hkp := kpT_append (v' := .slice (some ⟨g', 0, none⟩) (pre.length + 1) cap') hv hrow hgrow; have hc1 := hv1.cell; have hf1 := hv1.frozen)
    exact ⟨hk2.from _, hkp, ⟨_, hv2, by rw [entC_append, List.length_append]; exact hr2, trivial⟩, hB.trans hb2⟩
  case done =>
    rintro D ys W hD rfl ⟨⟨v, hv, hrow, _⟩, hB⟩ hK
    have hc := hv.cell
    gi_wp2
    refine ⟨by simp, .inl ⟨_, _, rfl, run_takeDeferred hK, ?_⟩⟩
    exact ⟨_, results_tmp rfl _ _ _, v, rfl, ownsRow_putObj hrow _ hK rfl, hB.trans (belowK_b (w := w) (Nat.le_refl _) W D _ _ (by simp at hD; omega) hK rfl rfl)⟩
  case stop =>
    rintro D c pre W _ _ h _
    exact h.elim

theorem entries_any (m : Value) (p : Nat) (es : List (Int × Int)) (hm : IsMem m) (hR : Yields w m p 0 es) (hl : es.length ≤ 100000) : Calls Try.prog 23 #[.agg #[m, .int .u64 p]] w (EntsPost w es) := by
  refine (callsIn_wide (n := 3)).1 ?_
  rcases hm with rfl | ⟨a, rfl⟩
  · exact entries_in1 3 (by omega) ⟨0, 0, none⟩ ⟨0, 0, none⟩ rfl p es (.inl rfl) hR hl
  · exact entries_in2 3 (by omega) a a rfl p es (.inr ⟨a, rfl⟩) hR hl
end
end Go.Proofs.Ytkoijmoendepgaa
