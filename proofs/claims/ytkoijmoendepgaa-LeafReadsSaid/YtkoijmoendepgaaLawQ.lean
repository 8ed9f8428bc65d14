/- LeafReads: what the walk of the law keeps. -/
import Derived.Test.YtkoijmoendepgaaLawI
import Derived.Test.YtkoijmoendepgaaLawH
namespace Go.Proofs.Ytkoijmoendepgaa
open Go.RowKit Go.Shelf
attribute [local go_sem ↓] Go.wp_at_zero Go.wp_at_succ
attribute [local go_sem] Oper.semAt_some

/-- The loop over the reference's entries: the keys, the entries from the key on (in their box), and the entries read. -/
structure RL (w7 : World) (E : List (Int × Int)) (ev kv av : Value) (ks : List Int) (al : List (Int × Int)) (wr : World) : Prop where
  t : Trip w7 w7.heap.size wr 23 1 kv ks.length (intsU ks) 84 2 av al.length (entC al) 84 2 ev E.length (entC E)
  box : Blk wr w7.heap.size #[av] 58
  nk : kv.ownBlock ≠ some w7.heap.size
  na : av.ownBlock ≠ some w7.heap.size
  ne : ev.ownBlock ≠ some w7.heap.size
section
variable {w7 wr wz w1 : World} {E al : List (Int × Int)} {ev kv av kv' av' : Value} {ks : List Int} {q : Nat}
theorem RL.keep (h : RL w7 E ev kv av ks al wr) (hz : Below wr.heap.size wr wz) : RL w7 E ev kv av ks al wz := ⟨h.t.keep hz, h.box.below hz, h.nk, h.na, h.ne⟩
theorem ne_of_next {v v' : Value} {b q s : Nat} (b1 : slAddr v' = slAddr v ∨ slAddr v' = some ⟨q, 0, none⟩) (hv : v.ownBlock ≠ some b) (hb : b < s) (hq : s ≤ q) : v'.ownBlock ≠ some b := by
  rcases b1 with b1 | b1
  · rw [ownBlock_addr, b1, ← ownBlock_addr]; exact hv
  · rw [ownBlock_addr, b1]; intro h; simp at h; omega
theorem RL.key (h : RL w7 E ev kv av ks al wr) (hz : Below wr.heap.size wr wz) {x : Int} (o1 : OwnSl w1 23 1 kv' (ks.length + 1) (intsU ks ++ [.int .u64 x])) (g1 : wz.grownBy w1 kv.ownBlock)
    (b1 : slAddr kv' = slAddr kv ∨ slAddr kv' = some ⟨q, 0, none⟩) (hq : wr.heap.size ≤ q) : RL w7 E ev kv' av (ks ++ [x]) al w1 := by
  have hl := h.box.lt
  refine ⟨?_, (g1.block _ (Nat.lt_of_lt_of_le hl hz.size) (fun e => h.nk e.symm)).trans ((hz.block _ hl).trans h.box), ne_of_next b1 h.nk hl hq, h.na, h.ne⟩
  have := h.t.left hz o1 g1 b1 hq
  rw [List.length_append, show intsU (ks ++ [x]) = intsU ks ++ [.int .u64 x] by simp [intsU]]
  exact this
theorem RL.aft (h : RL w7 E ev kv av ks al wr) (hz : Below wr.heap.size wr wz) {x : Int × Int} (o1 : OwnSl w1 84 2 av' (al.length + 1) (entC al ++ [.int .u64 x.1, .int .u64 x.2])) (g1 : wz.grownBy w1 av.ownBlock)
    (b1 : slAddr av' = slAddr av ∨ slAddr av' = some ⟨q, 0, none⟩) (hq : wr.heap.size ≤ q) : RL w7 E ev kv av' ks (al ++ [x]) (w1.setCell ⟨w7.heap.size, 0, none⟩ av') := by
  have hl := h.box.lt
  have hT := (h.t.swap.left hz o1 g1 b1 hq).swap
  have hb : Blk w1 w7.heap.size #[av] 58 := (g1.block _ (Nat.lt_of_lt_of_le hl hz.size) (fun e => h.na e.symm)).trans ((hz.block _ hl).trans h.box)
  have hna := ne_of_next b1 h.na hl hq
  refine ⟨by rw [List.length_append, entC_append]; exact ⟨⟨hT.ab.a.other (Nat.le_refl _) h.nk _, hT.ab.b.other (Nat.le_refl _) hna _, hT.ab.ne⟩, ⟨hT.ac.a.other (Nat.le_refl _) h.nk _, hT.ac.b.other (Nat.le_refl _) h.ne _, hT.ac.ne⟩, hT.bc⟩, hb.set 0 av', h.nk, hna, h.ne⟩
end

/-- What stands below the loop: the boxes of the node, of the result and of the leaf, the words, and the device. -/
structure RF (w : World) (n : NodeP) (ka sa va : Option Addr) (kc sc vc : Nat) (v : DV) (own : Nat → Option Role) (D : Dev) (g lb : Nat) (wc : World) : Prop where
  live : LiveSt w v own D 57 (withNode (fun _ => 0) (nodeOff n) n) wc
  box : Blk wc w.heap.size (nodeAgg n ka sa va kc sc vc) 63
  res : Blk wc (w.heap.size + 1) #[.bool false] 4
  leaf : Blk wc lb #[.iface 39 (.pointer (some ⟨v.tb 0, 0, none⟩)), .int .u64 (ptrN (nodeOff n) : Nat)] 47
  ws : Row wc g 28 23 (fun i => .int .u64 (nWords n i))
  ol : w.heap.size + 1 < lb
  og : w.heap.size + 1 < g
section
variable {w wc w1 : World} {n : NodeP} {ka sa va : Option Addr} {kc sc vc : Nat} {v : DV} {own : Nat → Option Role} {D : Dev} {g lb : Nat}
theorem RF.next (h : RF w n ka sa va kc sc vc v own D g lb wc) (hb : Below wc.heap.size wc w1) : RF w n ka sa va kc sc vc v own D g lb w1 := ⟨h.live.next hb, h.box.below hb, h.res.below hb, h.leaf.below hb, h.ws.below hb, h.ol, h.og⟩
end

/-- What stands when both ranges have been walked. -/
structure RZ (w : World) (n : NodeP) (ka sa va : Option Addr) (kc sc vc : Nat) (v : DV) (own : Nat → Option Role) (D : Dev) (g lb b3 bg : Nat) (E es : List (Int × Int)) (kv av gv : Value) (wc : World) : Prop where
  f : RF w n ka sa va kc sc vc v own D g lb wc
  keys : RdSl wc 1 kv (E.map (·.1)).length (intsU (E.map (·.1)))
  aft : RdSl wc 2 av es.length (entC es)
  abox : Blk wc b3 #[av] 58
  got : RdSl wc 2 gv es.length (entC es)
  gbox : Blk wc bg #[gv] 58
theorem RZ.next {w : World} {n : NodeP} {ka sa va : Option Addr} {kc sc vc : Nat} {v : DV} {own : Nat → Option Role} {D : Dev} {g lb b3 bg : Nat} {E es : List (Int × Int)} {kv av gv : Value} {wc w1 : World}
    (h : RZ w n ka sa va kc sc vc v own D g lb b3 bg E es kv av gv wc) (hb : Below wc.heap.size wc w1) : RZ w n ka sa va kc sc vc v own D g lb b3 bg E es kv av gv w1 :=
  ⟨h.f.next hb, h.keys.below hb, h.aft.below hb, h.abox.below hb, h.got.below hb, h.gbox.below hb⟩
theorem RZ.drew {w : World} {n : NodeP} {ka sa va : Option Addr} {kc sc vc : Nat} {v : DV} {own : Nat → Option Role} {D : Dev} {g lb b3 bg : Nat} {E es : List (Int × Int)} {kv av gv : Value} {wc : World}
    (h : RZ w n ka sa va kc sc vc v own D g lb b3 bg E es kv av gv wc) : RZ w n ka sa va kc sc vc v own D g lb b3 bg E es kv av gv wc.drew := h.next ((Below.refl _ _).drew)
theorem RZ.cells {w : World} {n : NodeP} {ka sa va : Option Addr} {kc sc vc : Nat} {v : DV} {own : Nat → Option Role} {D : Dev} {g lb b3 bg : Nat} {E es : List (Int × Int)} {kv av gv : Value} {wx : World}
    (h : RZ w n ka sa va kc sc vc v own D g lb b3 bg E es kv av gv wx) : wx.cell? ⟨lb, 0, none⟩ = some (.iface 39 (.pointer (some ⟨v.tb 0, 0, none⟩))) ∧ wx.cell? ⟨lb, 1, none⟩ = some (.int .u64 (ptrN (nodeOff n) : Nat)) ∧ wx.cell? ⟨b3, 0, none⟩ = some av ∧ wx.cell? ⟨bg, 0, none⟩ = some gv ∧
      wx.cell? ⟨g, 1, none⟩ = some (.int .u64 (nWords n 1)) ∧ wx.cell? ⟨g, 2, none⟩ = some (.int .u64 (nWords n 2)) ∧ wx.cell? ⟨g, 3, none⟩ = some (.int .u64 (nWords n 3)) :=
  ⟨h.f.leaf.cell rfl, h.f.leaf.cell rfl, h.abox.cell rfl, h.gbox.cell rfl, h.f.ws.cell (by omega), h.f.ws.cell (by omega), h.f.ws.cell (by omega)⟩
/-- A range over the entries that ends after its first round, by a break. -/
theorem wp_range_break {g : Operand} {ps : Array Tmp} {assign body : Code} {Q0 : Exit → Act → World → Prop} {a : Act} {w W : World}
    {gf : Nat} {lb : Array Value} (hg : a.eval g = .func (.func gf) #[] lb) (eg : ∀ args w, (callFunc gf args).run Try.prog w = .ok (.enter gf args) w)
    {es : List (Int × Int)} (hseq : SeqStopsK Fence.wide (5 - 1) Try.prog gf lb encE KpT (fun xs => xs = es) (fun pre => pre <+: es) es.length w) (hps : ∀ x, (encE x).size = ps.size)
    (hB0 : Below W.heap.size W w) (a₁ : Int × Int → Act)
    (hassign : ∀ (l : Nat) (x : Int × Int) (W : World) (K : Act → World → Prop), K (a₁ x) W →
      assign.wpIn (Fence.wide.inRound l) (5 - 1 - 1) Try.prog (Exit.then K (fun _ _ _ => False)) { tmps := (ps.zip (encE x)).foldl (fun t (p, v) => t.setIfInBounds p v) a.tmps, defers := [] } W)
    (hbody : ∀ (l : Nat) (x : Int × Int) (W2 : World), Below W.heap.size W W2 → 0 < es.length → body.wpIn (Fence.wide.inRound l) (5 - 1 - 1) Try.prog (ownPostG w.heap.size KpT (fun pre W2 => pre = [] ∧ Below W.heap.size W W2)
      (fun c pre W2 => (∃ x, pre = [x] ∧ x.1 = (es.headD (0, 0)).1 ∧ c = .exit 4 ∧ Below W.heap.size W W2) ∨ (∃ x, pre = [x] ∧ x.1 ≠ (es.headD (0, 0)).1)) ([] ++ [x]) W2) (a₁ x) W2)
    (hrest : ∀ (D : Nat) (W2 : World), w.heap.size ≤ D → Below W.heap.size W W2 → W2.heap[D]? = some (.deferred (some [])) → Q0 .normal { a with defers := { target := .collected D, args := #[] } :: a.defers } W2) :
    (Code.rangeFunc g ps assign body).wp Try.prog (Exit.inBlock 4 Q0) a w := by
  refine (wpIn_wide (n := 5)).1 ?_
  refine wpIn_rangeFunc_ownG rfl (by omega) hg trivial eg hseq KpT.trans kpT_b (Below.refl _ _) hps
    (fun pre W2 => pre = [] ∧ Below W.heap.size W W2)
    (fun c pre W2 => (∃ x, pre = [x] ∧ x.1 = (es.headD (0, 0)).1 ∧ c = .exit 4 ∧ Below W.heap.size W W2) ∨ (∃ x, pre = [x] ∧ x.1 ≠ (es.headD (0, 0)).1))
    (fun s A B row hs hg hr => ⟨hs.1, ownFrom_below (β := Unit) (Nat.le_refl _) hB0.size () A B row hs.2 hg hr⟩)
    (fun c s A B row hs hg hr => by
      rcases hs with ⟨x, h1, h2, h3, h4⟩ | h
      · exact .inl ⟨x, h1, h2, h3, ownFrom_below (β := Unit) (Nat.le_refl _) hB0.size () A B row h4 hg hr⟩
      · exact .inr h)
    ⟨rfl, hB0⟩ a₁ hassign ?_ ?_ ?_
  · rintro l pre x W2 ⟨rfl, hB2⟩ hlt
    exact hbody l x W2 hB2 hlt
  · rintro D2 xs W2 hD2 hxs ⟨hnil, hB2⟩ hK2
    exact hrest D2 W2 hD2 hB2 hK2
  · rintro D2 c pre W2 hD2 hSp hIx hK2
    obtain ⟨rfl, hB2⟩ : c = .exit 4 ∧ Below W.heap.size W W2 := by
      rcases hIx with ⟨x, _, _, h3, h4⟩ | ⟨x, rfl, h2⟩
      · exact ⟨h3, h4⟩
      · obtain ⟨tl, htl⟩ := hSp
        rw [← htl] at h2
        exact absurd rfl h2
    have h := hrest D2 W2 hD2 hB2 hK2
    gi_wp2
    exact h

/-- The two loops' books, and what lies below. -/
structure RK (w : World) (D1 D2 : Nat) (wc : World) : Prop where
  d1 : wc.heap[D1]? = some (.deferred (some []))
  d2 : wc.heap[D2]? = some (.deferred (some []))
  bel : Below w.heap.size w wc
  l1 : w.heap.size + 1 < D1
  l2 : w.heap.size + 1 < D2
  ne : D1 ≠ D2
theorem RK.next {w wc w1 : World} {D1 D2 : Nat} (h : RK w D1 D2 wc) (hb : Below wc.heap.size wc w1) : RK w D1 D2 w1 :=
  ⟨(hb.block _ (lt_of_block h.d1)).trans h.d1, (hb.block _ (lt_of_block h.d2)).trans h.d2, h.bel.trans (hb.mono h.bel.size), h.l1, h.l2, h.ne⟩
theorem RZ.stored {w : World} {n : NodeP} {ka sa va : Option Addr} {kc sc vc : Nat} {v : DV} {own : Nat → Option Role} {D : Dev} {g lb b3 bg : Nat} {E es : List (Int × Int)} {kv av gv : Value} {wx : World}
    (h : RZ w n ka sa va kc sc vc v own D g lb b3 bg E es kv av gv wx) (hO : w.heap.size + 1 < b3 ∧ w.heap.size + 1 < bg) {u : Value} : (wx.setCell ⟨w.heap.size + 1, 0, none⟩ u).cell? ⟨lb, 0, none⟩ = some (.iface 39 (.pointer (some ⟨v.tb 0, 0, none⟩))) ∧ (wx.setCell ⟨w.heap.size + 1, 0, none⟩ u).cell? ⟨lb, 1, none⟩ = some (.int .u64 (ptrN (nodeOff n) : Nat)) ∧
      (wx.setCell ⟨w.heap.size + 1, 0, none⟩ u).cell? ⟨b3, 0, none⟩ = some av ∧ (wx.setCell ⟨w.heap.size + 1, 0, none⟩ u).cell? ⟨bg, 0, none⟩ = some gv ∧
      (wx.setCell ⟨w.heap.size + 1, 0, none⟩ u).cell? ⟨g, 1, none⟩ = some (.int .u64 (nWords n 1)) ∧ (wx.setCell ⟨w.heap.size + 1, 0, none⟩ u).cell? ⟨g, 2, none⟩ = some (.int .u64 (nWords n 2)) ∧ (wx.setCell ⟨w.heap.size + 1, 0, none⟩ u).cell? ⟨g, 3, none⟩ = some (.int .u64 (nWords n 3)) := by
  have h1 := h.f.ol; have h2 := h.f.og
  obtain ⟨c1, c2, c3, c4, c5, c6, c7⟩ := h.cells
  refine ⟨?_, ?_, ?_, ?_, ?_, ?_, ?_⟩
  all_goals rw [cell_setOther _ _ _ (by show _ ≠ w.heap.size + 1; simp only; omega)]; assumption

/-- The way out of the law: the two loops' books are closed, and the result is read. -/
theorem reads_end {w wx : World} {D1 D2 : Nat} (k : RK w D1 D2 wx) (r : Blk wx (w.heap.size + 1) #[.bool false] 4) (tmps : Array Value) (ht : tmps[6]? = some (.pointer (some ⟨w.heap.size + 1, 0, none⟩))) :
    LeavesInM Fence.wide 5 Try.prog Try.f6 tmps (fun r w' => r = .returned (.bool true) ∧ Below w.heap.size w w') [{ target := .collected D2, args := #[] }, { target := .collected D1, args := #[] }] .returning (wx.setCell ⟨w.heap.size + 1, 0, none⟩ (.bool true)) := by
  have hr : Blk (wx.setCell ⟨w.heap.size + 1, 0, none⟩ (.bool true)) (w.heap.size + 1) #[.bool true] 4 := r.set 0 _
  have h1 : (wx.setCell ⟨w.heap.size + 1, 0, none⟩ (.bool true)).heap[D1]? = some (.deferred (some [])) := (Below.heap_setCell _ _ _ _ (by have := k.l1; show D1 ≠ w.heap.size + 1; omega)).trans k.d1
  have h2 : (wx.setCell ⟨w.heap.size + 1, 0, none⟩ (.bool true)).heap[D2]? = some (.deferred (some [])) := (Below.heap_setCell _ _ _ _ (by have := k.l2; show D2 ≠ w.heap.size + 1; omega)).trans k.d2
  have b0 : Below w.heap.size w (wx.setCell ⟨w.heap.size + 1, 0, none⟩ (.bool true)) :=
    ⟨k.bel.os, k.bel.tape, k.bel.output, Nat.le_trans k.bel.size (by simp [World.setCell]), fun i hi => (Below.heap_setCell _ _ _ _ (by show i ≠ w.heap.size + 1; omega)).trans (k.bel.block i hi)⟩
  generalize wx.setCell ⟨w.heap.size + 1, 0, none⟩ (.bool true) = wy at *
  have g2 := grownBy_putObj' wy D2 (.deferred none)
  have h1' : (wy.putObj D2 (.deferred none)).heap[D1]? = some (.deferred (some [])) := (g2.block D1 (lt_of_block h1) (fun e => by cases e; exact k.ne rfl)).trans h1
  have hr' : Blk (wy.putObj D2 (.deferred none)) (w.heap.size + 1) #[.bool true] 4 := (g2.block _ hr.lt (fun e => by have := k.l2; cases e; omega)).trans hr
  have b1 : Below w.heap.size w (wy.putObj D2 (.deferred none)) := b0.grown g2 b0.size (fun j e => by cases e; have := k.l2; omega)
  refine ⟨by simp, .inl ⟨_, _, rfl, run_takeDeferred h2, ?_⟩⟩
  generalize wy.putObj D2 (.deferred none) = wz at *
  have g1 := grownBy_putObj' wz D1 (.deferred none)
  have hr2 : Blk (wz.putObj D1 (.deferred none)) (w.heap.size + 1) #[.bool true] 4 := (g1.block _ hr'.lt (fun e => by have := k.l1; cases e; omega)).trans hr'
  have b2 : Below w.heap.size w (wz.putObj D1 (.deferred none)) := b1.grown g1 b1.size (fun j e => by cases e; have := k.l1; omega)
  refine ⟨by simp, .inl ⟨_, _, rfl, run_takeDeferred h1', ?_⟩⟩
  generalize wz.putObj D1 (.deferred none) = wu at *
  have c0 : wu.cell? ⟨w.heap.size + 1, 0, none⟩ = some (.bool true) := hr2.cell rfl
  refine ⟨.bool true, ?_, rfl, b2⟩
  simp [results, Try.results6, go_sem, ht, c0]
end Go.Proofs.Ytkoijmoendepgaa
