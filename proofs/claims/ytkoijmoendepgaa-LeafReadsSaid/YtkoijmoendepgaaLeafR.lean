/- The iterator of a node's entries. -/
import Derived.Test.YtkoijmoendepgaaLeafQ
import Derived.RangeFuncNested
import Derived.RangeFuncBound
import Derived.RangeFuncCalls
import Derived.RangeFuncLeaves
import Derived.RangeFuncBox
import Derived.Shelf.Abstract
import Derived.OwnWalkIn
import Derived.TacticsInMore
import Derived.LoopNIn
import Derived.LoopIn
namespace Go.Proofs.Ytkoijmoendepgaa
open Go.RowKit Go.Shelf
attribute [local go_sem] Oper.semAt_some

/-- What a round must keep: every block of cells but those of entries and of the variable that collects them. -/
def KpT (W W' : World) : Prop := W.heap.size ≤ W'.heap.size ∧ ∀ (k : Nat) (c : Array Value) (t : TypeId) (f : Nat × Nat), W.heap[k]? = some (.cells c t f) → t ≠ 84 → t ≠ 58 → W'.heap[k]? = some (.cells c t f)
theorem KpT.trans {A B C : World} (h : KpT A B) (k : KpT B C) : KpT A C := ⟨Nat.le_trans h.1 k.1, fun i c t f hi h1 h2 => k.2 i c t f (h.2 i c t f hi h1 h2) h1 h2⟩
theorem KpT.refl (W : World) : KpT W W := ⟨Nat.le_refl _, fun _ _ _ _ h _ _ => h⟩
theorem kpT_b {w : World} (W : World) (l : Nat) (o o' : Obj) (_ : w.heap.size ≤ l) (h : W.heap[l]? = some o) (hc : o.isCells = false) (_ : o.isWalk = false) : KpT W (W.putObj l o') := by
  have hg := grownBy_putObj' W l o'
  refine ⟨hg.size, fun k c t f hk _ _ => ?_⟩
  rw [hg.block k (lt_of_block hk) (fun e => ?_)]
  · exact hk
  · cases e; rw [h] at hk; cases hk; cases hc
theorem KpT.blk {W W' : World} (h : KpT W W') {b : Nat} {c : Array Value} {t : TypeId} (hb : Blk W b c t) (h1 : t ≠ 84) (h2 : t ≠ 58) : Blk W' b c t := h.2 b c t _ hb h1 h2
theorem KpT.cell {W W' : World} (h : KpT W W') {b o : Nat} {c : Array Value} {t : TypeId} {u : Value} (hb : Blk W b c t) (h1 : t ≠ 84) (h2 : t ≠ 58) (hu : W.cell? ⟨b, o, none⟩ = some u) : W'.cell? ⟨b, o, none⟩ = some u :=
  (World.cell?_of_block (w := W) (a := ⟨b, o, none⟩) ((h.blk hb h1 h2).trans hb.symm)).trans hu
theorem IsCont.kp {W W' : World} {cb : Nat} {Wd : Nat → Int} {slots : List Nat} {ch : Nat} (h : IsCont W cb Wd slots ch) (hk : KpT W W') : IsCont W' cb Wd slots ch := by
  obtain ⟨c, hc⟩ := h.ty
  have hcell : ∀ o u, W.cell? ⟨cb, o, none⟩ = some u → W'.cell? ⟨cb, o, none⟩ = some u := fun o u hu => hk.cell hc (by decide) (by decide) hu
  obtain ⟨sv, h1, h2⟩ := h.sl
  have h3 := h.ty2 sv h1
  refine ⟨fun i hi => hcell _ _ (h.words i hi), ⟨sv, hcell _ _ h1, h2.kept (fun k hk' _ => ?_)⟩, hcell _ _ h.ch, h.lt12, h.len, ⟨c, hk.blk hc (by decide) (by decide)⟩, fun sv' hsv g hg => ?_⟩
  · obtain ⟨c', hc'⟩ := h3 k hk'
    exact (hk.blk hc' (by decide) (by decide)).trans hc'.symm
  · rw [hcell _ _ h1] at hsv; cases hsv
    obtain ⟨c', hc'⟩ := h3 g hg
    exact ⟨c', hk.blk hc' (by decide) (by decide)⟩

/-- The entries in these slots. -/
def entsW (W : Nat → Int) (slots : List Nat) : List (Int × Int) := slots.map fun s => (W (4 + s), W (16 + s))
theorem entsW_get (W : Nat → Int) (slots : List Nat) (i s : Nat) (h : slots[i]? = some s) : (entsW W slots)[i]? = some (W (4 + s), W (16 + s)) := by simp [entsW, h]
abbrev encE (x : Int × Int) : Array Value := #[.int .u64 x.1, .int .u64 x.2]

/-- Reading this node, here and wherever nothing of here has changed, leads to the entries es from the key on. -/
def Yields (W : World) (m : Value) (p : Nat) (from' : Int) (es : List (Int × Int)) : Prop :=
  ∀ W', Below W.heap.size W W' → Calls Try.prog 50 #[.agg #[m, .int .u64 p]] W' fun r w'' => Below W'.heap.size W' w'' ∧
    ((∃ e : Int, e ≠ 0 ∧ r = .returned (.tuple #[.pointer none, .int .i64 e]) ∧ es = []) ∨
     ∃ cb Wd slots ch, r = .returned (.tuple #[.pointer (some ⟨cb, 0, none⟩), .int .i64 0]) ∧ IsCont w'' cb Wd slots ch ∧ es = (entsW Wd slots).drop (findIdx Wd from' slots))

theorem Yields.below {W W1 : World} {m : Value} {p : Nat} {from' : Int} {es : List (Int × Int)} (h : Yields W m p from' es) (hb : Below W.heap.size W W1) : Yields W1 m p from' es := fun w' hw => h w' (hb.trans (hw.mono hb.size))

theorem take_snoc_at {α : Type} (l : List α) (k : Nat) (x : α) (h : l[k]? = some x) : l.take (k + 1) = l.take k ++ [x] := by rw [List.take_add_one, h]; rfl

theorem grownBy_below {W W' : World} (h : Below W.heap.size W W') : W.grownBy W' none := ⟨h.os, h.tape, h.output, h.size, fun k hk _ => h.block k hk⟩
theorem abides_below {β : Type} {B : Nat} {J : β → World → Prop} (hJ : AbidesFrom B J) {s : β} {W W' : World} (h : J s W) (hb : Below W.heap.size W W') : J s W' := hJ s W W' none h (grownBy_below hb) (fun r e => by cases e)

set_option maxRecDepth 100000 in
set_option maxHeartbeats 2000000 in
theorem all1_in (n : Nat) (hn : 1 ≤ n) (l bl bf : Nat) (m : Value) (p : Nat) (from' : Int) (es : List (Int × Int)) (J Jx : List (Int × Int) → World → Prop) (W : World) (hJ : AbidesFrom W.heap.size J) (hm : IsMem m)
    (hY : ∀ pre x W1, J pre W1 → pre.length < es.length → YieldAt Fence.wide (n - 1) Try.prog l (encE x) W1 fun e W' => (e = .returned (.bool true) ∧ J (pre ++ [x]) W' ∧ KpT W1 W') ∨ (e = .returned (.bool false) ∧ Jx (pre ++ [x]) W'))
    (hbl : Blk W bl #[m, .int .u64 p] 47) (hbf : Blk W bf #[.int .u64 from'] 23) (hR : Yields W m p from' es) (h0 : J [] W) :
    CallsIn Fence.wide n Try.prog 71 (#[.func (.yield l) #[] #[]] ++ #[.pointer (some ⟨bl, 0, none⟩), .pointer (some ⟨bf, 0, none⟩)]) W fun e W' => (∃ v, e = .returned v) ∧ ((∃ xs, xs = es ∧ J xs W') ∨ (∃ pre, pre <+: es ∧ Jx pre W')) := by
  have hl0 : W.cell? ⟨bl, 0, none⟩ = some m := hbl.cell rfl
  have hl1 : W.cell? ⟨bl, 1, none⟩ = some (.int .u64 p) := hbl.cell rfl
  have hf0 : W.cell? ⟨bf, 0, none⟩ = some (.int .u64 from') := hbf.cell rfl
  have HR := Lib.hid (hR W (Below.refl _ _)); have HY := Lib.hid hY; have HJ := Lib.hid hJ; have H0 := Lib.hid h0; have HF := Lib.hid hbf
  clear hY hJ h0 hbl hbf hR
  rcases hm with rfl | ⟨a, rfl⟩
  all_goals
    refine callsIn_of_wp Try.func71 rfl trivial ?_ rfl
    simp only [Try.ntmps71, List.size_toArray, List.length_cons, List.length_nil, Nat.reduceAdd, Nat.reduceSub, Array.replicate_succ, Array.replicate_zero, List.push_toArray, List.append_toArray, List.nil_append, List.cons_append]
    gi_wp2
    refine ⟨trivial, ?_⟩
    (with_reducible refine (callsIn_wide.2 HR.out).mono ?_)
    rintro r w1 ⟨hb, ⟨e, he, rfl, rfl⟩ | ⟨cb, Wd, slots, ch, rfl, hc, he⟩⟩
    · have hb1 : (e != 0) = true := by simpa using he
      have H1 := Lib.hid (abides_below HJ.out H0.out hb)
      clear hb he
      gi_wp2
      refine bodyPost_ret (results_none rfl _ _ _) rfl ?_
      exact ⟨⟨_, rfl⟩, .inl ⟨[], rfl, H1.out⟩⟩
    · have hf1 := cell_bel hb hf0
      have H1 := Lib.hid (abides_below HJ.out H0.out hb); have HC := Lib.hid hc; have HE := Lib.hid he
      have HB := Lib.hid hb.size
      clear hb hc he
      gi_wp2
      refine ⟨trivial, ?_⟩
      (with_reducible refine (callsIn_wide.2 (find_any HC.out from')).mono ?_)
      rintro r w2 ⟨rfl, q2⟩
      have HC2 := Lib.hid (HC.out.qt q2)
      have H2 := Lib.hid (abides_below HJ.out H1.out q2.below)
      have hidx := findIdx_le Wd from' slots
      have h12 := HC.out.len
      clear HC H1 q2 hf1
      generalize hix : findIdx Wd from' slots = idx at *
      have HIX := Lib.hid hix; clear hix
      gi_wp2
      gi_loopw [6] (fun i wr => ∃ k : Nat, idx ≤ k ∧ k ≤ slots.length ∧ i = .int .i64 k ∧ IsCont wr cb Wd slots ch ∧ J (es.take (k - idx)) wr) (fun i _ => slots.length - (intOf i).toNat)
      case atStart => exact ⟨idx, Nat.le_refl _, hidx, rfl, HC2.out, by rw [Nat.sub_self, List.take_zero]; exact H2.out⟩
      case round =>
        obtain ⟨k, hk1, hk2, rfl, hc, hj⟩ := hrel
        obtain ⟨sv, c28, hsv⟩ := hc.sl
        obtain ⟨sa, sc, rfl⟩ : ∃ a c, sv = .slice a slots.length c := by obtain ⟨_, a, c, e, _⟩ := hsv; exact ⟨a, c, e⟩
        have HC3 := Lib.hid hc; have H3 := Lib.hid hj
        clear hsv hc hj
        by_cases hlt : k < slots.length
        · obtain ⟨s, hs⟩ : ∃ s, slots[k]? = some s := ⟨_, List.getElem?_eq_getElem hlt⟩
          have hes : es[k - idx]? = some (Wd (4 + s), Wd (16 + s)) := by
            rw [HE.out, List.getElem?_drop, show idx + (k - idx) = k by omega]; exact entsW_get Wd slots k s hs
          have hlen : (es.take (k - idx)).length < es.length := by
            have : k - idx < es.length := by
              rcases Nat.lt_or_ge (k - idx) es.length with h | h
              · exact h
              · rw [List.getElem?_eq_none h] at hes; cases hes
            rw [List.length_take]; omega
          have HT := Lib.hid (take_snoc_at es (k - idx) _ hes)
          have HK := Lib.hid (fun wx (hx : IsCont wx cb Wd slots ch) => key_any hx k s hs)
          have HV := Lib.hid (fun wx (hx : IsCont wx cb Wd slots ch) => value_any hx k s hs)
          have HYY := Lib.hid (fun wx (hx : J (es.take (k - idx)) wx) => HY.out (es.take (k - idx)) (Wd (4 + s), Wd (16 + s)) wx hx hlen)
          clear hes hs hlen
          gi_wp2
          refine ⟨trivial, ?_⟩
          (with_reducible refine (callsIn_wide.2 (HK.out _ HC3.out)).mono ?_)
          rintro r w3 ⟨rfl, q3⟩
          have HC4 := Lib.hid (HC3.out.qt q3); have H4 := Lib.hid (abides_below HJ.out H3.out q3.below)
          clear q3 c28 HC3 H3
          gi_wp2
          refine ⟨trivial, ?_⟩
          (with_reducible refine (callsIn_wide.2 (HV.out _ HC4.out)).mono ?_)
          rintro r w4 ⟨rfl, q4⟩
          have HC5 := Lib.hid (HC4.out.qt q4); have H5 := Lib.hid (abides_below HJ.out H4.out q4.below)
          clear q4 HC4 H4
          obtain ⟨fn, tmps, assign, body, hy, hR⟩ := HYY.out _ H5.out
          have HRR := Lib.hid hR
          dsimp only [encE] at hy
          clear hR
          gi_wp2
          refine HRR.out.mono ?_
          rintro e W3 (⟨rfl, hJ3, hk3⟩ | ⟨rfl, hJx3⟩)
          · have HC6 := Lib.hid (HC5.out.kp hk3); have H6 := Lib.hid hJ3
            clear hk3 hJ3 HRR hy
            gi_wp2
            go_roundw
            case rel => exact ⟨k + 1, by omega, by omega, by go_num, HC6.out, by rw [show k + 1 - idx = k - idx + 1 by omega, HT.out]; exact H6.out⟩
            case measure => simp [intOf]; omega
          · have H6 := Lib.hid hJx3
            clear hJx3 HRR hy
            gi_wp2
            refine bodyPost_ret (results_none rfl _ _ _) rfl ?_
            exact ⟨⟨_, rfl⟩, .inr ⟨_, by rw [← HT.out]; exact List.take_prefix _ _, H6.out⟩⟩
        · gi_wp2
          go_end0
          refine ⟨⟨_, rfl⟩, .inl ⟨es, rfl, ?_⟩⟩
          have := H3.out
          rw [List.take_of_length_le (by rw [HE.out]; simp [entsW]; omega)] at this
          exact this
end Go.Proofs.Ytkoijmoendepgaa
