/- LeafReadable: the walk of the law. -/
import Derived.Test.YtkoijmoendepgaaGreatJ8
import Derived.Test.YtkoijmoendepgaaGreatJ9
import Derived.Deep.LoopGhost
import Derived.Deep.CutRange
import Derived.Deep.CutBlock
import Derived.Test.YtkoijmoendepgaaGreatJ2
import Derived.WalkKit
import Derived.ProofKit
import Derived.OpenShut
import Derived.Test.YtkoijmoendepgaaGreatJ4
import Derived.Lib.SmallJoins
import Derived.Deep.Fields
namespace Go.Proofs.YtkoijmoendepgaaGreat
open Go.RowKit
attribute [local go_sem ↓] Go.wp_at_zero Go.wp_at_succ

section
variable {w : World}
/-- The device, the boxes of the node, of the act and of the leaf, the entries of before and of after. -/
structure RB (w : World) (n : NodeP) (ka sa va : Option Addr) (kc sc vc : Nat) (d : Bool) (key value : Int) (v : DV) (lb : Nat) (own : Nat → Option Role) (D : Dev) (bv av : Value) (E0 E1 : List (Int × Int)) (wc : World) : Prop where
  dev : IsDev wc v own D
  bel : Below w.heap.size w wc
  box : Blk wc w.heap.size (nodeAgg n ka sa va kc sc vc) 26
  act : Blk wc (w.heap.size + 1) #[.bool d, .int .u64 key, .int .u64 value] 85
  leaf : Blk wc lb #[.iface 76 (.pointer (some ⟨v.tb 0, 0, none⟩)), .int .u64 (ptrN (nodeOff n) : Nat)] 35
  bef : RdSl wc 2 bv E0.length (entC E0)
  aft : RdSl wc 2 av E1.length (entC E1)
  base : ∀ k, own k ≠ none → w.heap.size ≤ k
  ob : own w.heap.size = none
  oa : own (w.heap.size + 1) = none
  ol : own lb = none
  obv : ∀ k, bv.ownBlock = some k → own k = none ∧ k < wc.heap.size
  oav : ∀ k, av.ownBlock = some k → own k = none ∧ k < wc.heap.size
variable {n : NodeP} {ka sa va : Option Addr} {kc sc vc : Nat} {d : Bool} {key value : Int} {v : DV} {lb : Nat} {own : Nat → Option Role} {D : Dev} {bv av : Value} {E0 E1 : List (Int × Int)} {wc w1 : World}
theorem RB.next (h : RB w n ka sa va kc sc vc d key value v lb own D bv av E0 E1 wc) (hb : Below wc.heap.size wc w1) : RB w n ka sa va kc sc vc d key value v lb own D bv av E0 E1 w1 :=
  ⟨h.dev.below hb, h.bel.trans (hb.mono h.bel.size), h.box.below hb, h.act.below hb, h.leaf.below hb, h.bef.below hb, h.aft.below hb, h.base, h.ob, h.oa, h.ol, fun k hk => ⟨(h.obv k hk).1, Nat.lt_of_lt_of_le (h.obv k hk).2 hb.size⟩, fun k hk => ⟨(h.oav k hk).1, Nat.lt_of_lt_of_le (h.oav k hk).2 hb.size⟩⟩
/-- One instruction further. -/
theorem RB.moved (h : RB w n ka sa va kc sc vc d key value v lb own D bv av E0 E1 wc) {own' : Nat → Option Role} {D' : Dev} {sb : Nat} (hd : IsDev w1 v own' D') (ho : ∀ k, k < wc.heap.size → own' k = own k) (hu : Upd (fun k => own k ≠ none ∨ k = sb) wc w1)
    (hsb : sb ≠ w.heap.size ∧ sb ≠ w.heap.size + 1 ∧ sb ≠ lb ∧ w.heap.size ≤ sb) (hsv : bv.ownBlock ≠ some sb ∧ av.ownBlock ≠ some sb) : RB w n ka sa va kc sc vc d key value v lb own' D' bv av E0 E1 w1 := by
  have hn : ∀ k, own k = none → k ≠ sb → ¬ (own k ≠ none ∨ k = sb) := fun k h1 h2 h3 => h3.elim (fun h => h h1) h2
  have hw : Below w.heap.size w w1 := ⟨hu.os.trans h.bel.os, hu.tape.trans h.bel.tape, hu.output.trans h.bel.output, Nat.le_trans h.bel.size hu.size, fun k hk => (hu.block k (Nat.lt_of_lt_of_le hk h.bel.size) (fun h3 => by
    rcases h3 with h3 | h3
    · have := h.base k h3; omega
    · omega)).trans (h.bel.block k hk)⟩
  refine ⟨hd, hw, h.box.upd hu (hn _ h.ob (fun e => hsb.1 e.symm)), h.act.upd hu (hn _ h.oa (fun e => hsb.2.1 e.symm)), h.leaf.upd hu (hn _ h.ol (fun e => hsb.2.2.1 e.symm)),
    h.bef.upd hu (fun k hk => hn k (h.obv k hk).1 (fun e => hsv.1 (e ▸ hk))), h.aft.upd hu (fun k hk => hn k (h.oav k hk).1 (fun e => hsv.2 (e ▸ hk))), fun k hk => ?_, by rw [ho _ h.box.lt]; exact h.ob, by rw [ho _ h.act.lt]; exact h.oa, by rw [ho _ h.leaf.lt]; exact h.ol,
    fun k hk => ⟨by rw [ho _ (h.obv k hk).2]; exact (h.obv k hk).1, Nat.lt_of_lt_of_le (h.obv k hk).2 hu.size⟩, fun k hk => ⟨by rw [ho _ (h.oav k hk).2]; exact (h.oav k hk).1, Nat.lt_of_lt_of_le (h.oav k hk).2 hu.size⟩⟩
  rcases Nat.lt_or_ge k wc.heap.size with hlt | hge
  · rw [ho k hlt] at hk; exact h.base k hk
  · have := h.bel.size; omega
theorem RB.boxes (h : RB w n ka sa va kc sc vc d key value v lb own D bv av E0 E1 wc) : wc.cell? ⟨w.heap.size, 0, none⟩ = some (.int .u8 n.pos) ∧ wc.cell? ⟨w.heap.size, 1, none⟩ = some (.slice ka n.ks.length kc) ∧ wc.cell? ⟨w.heap.size, 2, none⟩ = some (.slice sa n.ss.length sc) ∧ wc.cell? ⟨w.heap.size, 3, none⟩ = some (.slice va n.vs.length vc) ∧ wc.cell? ⟨w.heap.size, 4, none⟩ = some (.int .u8 n.high) ∧ wc.cell? ⟨w.heap.size, 5, none⟩ = some (.bool n.bounded) ∧ wc.cell? ⟨w.heap.size, 6, none⟩ = some (.bool n.next) ∧ wc.cell? ⟨w.heap.size, 7, none⟩ = some (.int .u16 n.count) :=
  ⟨h.box.cell rfl, h.box.cell rfl, h.box.cell rfl, h.box.cell rfl, h.box.cell rfl, h.box.cell rfl, h.box.cell rfl, h.box.cell rfl⟩
/-- What the node's leaf reads, through thread j. -/
theorem RB.node (h : RB w n ka sa va kc sc vc d key value v lb own D bv av E0 E1 wc) (j : Nat) (hj : j < 8) (hoff : D.off = false) (her : D.err j = 0) (hn : D.n = 12) (hr : Rd2 D.cur (nodeOff n) E0 E1) :
    NodeAt wc v own D j (ptrN (nodeOff n)) ∧ nodeOk (nodeW D (ptrN (nodeOff n))) (D.n * 64) ∧ nodeW D (ptrN (nodeOff n)) = fun i => D.cur (nodeOff n / 8 + i) := by
  have hno := nodeOff_le n
  have hp := refD_ptr (nodeOff n) hno.2.2 (by omega)
  have e : nodeW D (ptrN (nodeOff n)) = fun i => D.cur (nodeOff n / 8 + i) := by funext i; unfold nodeW; rw [hp]
  refine ⟨⟨h.dev, hj, ptrN_lt _ (by omega), ptrN_pos _, hoff, her, by rw [hp, hn]; omega, fun i hi => by rw [e]; exact hr.bd i hi⟩, ?_, e⟩
  rw [e, hn]; exact hr.ok

def E1of (d : Bool) (key value : Int) (E0 : List (Int × Int)) : List (Int × Int) := if d then unsetL key E0 else setL key value E0
theorem setL_len (k v : Int) (E : List (Int × Int)) (h : E.length ≤ 1000) : (setL k v E).length ≤ 3000 := by
  have key : ∀ (E : List (Int × Int)) (s : List (Int × Int) × Bool), (E.foldl (setStep k v) s).1.length ≤ s.1.length + 2 * E.length := by
    intro E
    induction E with
    | nil => intro s; simp
    | cons e E ih =>
      intro s
      have h1 := ih (setStep k v s e)
      have h2 : (setStep k v s e).1.length ≤ s.1.length + 2 := by
        unfold setStep
        repeat' split
        all_goals simp
        all_goals omega
      simp only [List.foldl_cons, List.length_cons]; omega
  have h3 := key E ([], false)
  unfold setL setS
  split
  · simp at h3; omega
  · simp at h3 ⊢; omega
theorem E1_len (d : Bool) (key value : Int) (E : List (Int × Int)) (h : E.length ≤ 1000) : (E1of d key value E).length ≤ 3000 := by
  unfold E1of
  cases d
  · simp only [Bool.false_eq_true, if_false]; exact setL_len key value E h
  · simp only [if_true]; have := List.length_filter_le (fun e : Int × Int => decide (¬ e.1 = key)) E; unfold unsetL; omega
/-- The device of made: clean, not armed, its values words. -/
theorem made_clean {ka sa va : Option Addr} {kc sc vc : Nat} {n : NodeP} (ha : NodeIn w n ka sa va kc sc vc) : Grp (putD (Dev.fresh 12 fun _ => 0) n) 0 12 (nC n) [] [] ∧ (putD (Dev.fresh 12 fun _ => 0) n).VB := by
  have hno := nodeOff_le n
  have hl : (nList n).length = 28 := by simp [nList]
  have hb : ∀ x ∈ nList n, 0 ≤ x ∧ x < 18446744073709551616 := fun x hx => by
    obtain ⟨i, hi, rfl⟩ := List.mem_map.1 hx
    have hi' : i < 28 := by simpa using hi
    exact nWords_bd ha i
  have g0 : Grp (Dev.fresh 12 fun _ => 0) 0 12 (fun _ => 0) [] [] := ⟨⟨rfl, rfl, rfl⟩, ⟨fun _ => rfl, fun _ => rfl⟩, fun o ho => by simp at ho, fun _ _ => rfl⟩
  refine ⟨?_, ?_⟩
  · have h := alt_done (nodeOff n) (nList n) hno.2.2 (by rw [hl]; omega) g0 (.inl rfl)
    unfold putD
    have e : (fun i => look (altW (nodeOff n) (nList n) (nList n).length) ((fun _ => (0 : Int)) i) i) = nC n := by
      funext i
      rw [altW_look _ _ hno.2.2]; rfl
    rw [e] at h; exact h
  · unfold putD
    refine Dev.VB.run _ ⟨fun i => ⟨by show (0 : Int) ≤ 0; omega, by show (0 : Int) < _; omega⟩, fun l e he => by simp [Dev.fresh] at he⟩ 0 (fun e he h1 => ?_)
    rcases List.mem_append.1 he with he | he
    · obtain ⟨i, hi, he⟩ := List.mem_flatMap.1 he
      simp at he
      rcases he with rfl | rfl
      · simp only
        have hi' : i < (nList n).length := by simpa using hi
        have : (nList n).getD i 0 ∈ nList n := by simp [List.getD, hi']
        exact hb _ this
      · simp at h1
    · simp at he; subst he; simp at h1

/-- Besides, the crashed device. -/
structure RC (w : World) (n : NodeP) (ka sa va : Option Addr) (kc sc vc : Nat) (d : Bool) (key value : Int) (v : DV) (lb : Nat) (own : Nat → Option Role) (D : Dev) (bv av : Value) (E0 E1 : List (Int × Int)) (v' : DV) (own' : Nat → Option Role) (Dc : Dev) (wc : World) : Prop where
  rb : RB w n ka sa va kc sc vc d key value v lb own D bv av E0 E1 wc
  cr : IsDev wc v' own' Dc
theorem RC.next {n : NodeP} {ka sa va : Option Addr} {kc sc vc : Nat} {d : Bool} {key value : Int} {v : DV} {lb : Nat} {own : Nat → Option Role} {D : Dev} {bv av : Value} {E0 E1 : List (Int × Int)} {wc w1 : World} {v' : DV} {own' : Nat → Option Role} {Dc : Dev}
    (h : RC w n ka sa va kc sc vc d key value v lb own D bv av E0 E1 v' own' Dc wc) (hb : Below wc.heap.size wc w1) : RC w n ka sa va kc sc vc d key value v lb own D bv av E0 E1 v' own' Dc w1 := ⟨h.rb.next hb, h.cr.below hb⟩
theorem rd2_28 {V V' : Nat → Int} {off : Nat} {E0 E1 : List (Int × Int)} (h : Rd2 V off E0 E1) (e : ∀ i, i < 28 → V' (off / 8 + i) = V (off / 8 + i)) : Rd2 V' off E0 E1 := by
  have hg := ok_good h.ok
  have h0 : V' (off / 8 + 0) = V (off / 8 + 0) := e 0 (by omega)
  have hsl : slotsW (fun i => V' (off / 8 + i)) = slotsW (fun i => V (off / 8 + i)) := by unfold slotsW; simp only [h0]
  have hen : entsW (fun i => V' (off / 8 + i)) (slotsW (fun i => V' (off / 8 + i))) = entsW (fun i => V (off / 8 + i)) (slotsW (fun i => V (off / 8 + i))) := by
    rw [hsl]
    exact entsW_congr (fun t ht => ⟨e _ (by have := hg.lt t ht; omega), e _ (by have := hg.lt t ht; omega)⟩)
  refine ⟨good_valid (l := slotsW (fun i => V (off / 8 + i))) (hg.congr (fun t ht => e _ (by have := hg.lt t ht; omega)) (e 1 (by omega)) (e 2 (by omega)) (e 3 (by omega))) hsl (by have h1 := h.ok.1; show parseOk (V' (off / 8 + 0)).toNat; rw [h0]; exact h1), ?_, fun i hi => by rw [e i hi]; exact h.bd i hi⟩
  rw [hen]; exact h.ents
/-- What a leaf at the node reads, through thread j of a device. -/
theorem node_of {v : DV} {own : Nat → Option Role} {D : Dev} {n : NodeP} {E0 E1 : List (Int × Int)} {wc : World} (h : IsDev wc v own D) (j : Nat) (hj : j < 8) (hoff : D.off = false) (her : D.err j = 0) (hn : D.n = 12) (hr : Rd2 D.cur (nodeOff n) E0 E1) :
    NodeAt wc v own D j (ptrN (nodeOff n)) ∧ nodeOk (nodeW D (ptrN (nodeOff n))) (D.n * 64) ∧ ∃ E, entsW (nodeW D (ptrN (nodeOff n))) (slotsW (nodeW D (ptrN (nodeOff n)))) = E ∧ (E = E0 ∨ E = E1) := by
  have hno := nodeOff_le n
  have hp := refD_ptr (nodeOff n) hno.2.2 (by omega)
  have e : nodeW D (ptrN (nodeOff n)) = fun i => D.cur (nodeOff n / 8 + i) := by funext i; unfold nodeW; rw [hp]
  refine ⟨⟨h, hj, ptrN_lt _ (by omega), ptrN_pos _, hoff, her, by rw [hp, hn]; omega, fun i hi => by rw [e]; exact hr.bd i hi⟩, ?_, _, rfl, ?_⟩
  · rw [e, hn]; exact hr.ok
  · rw [e]; exact hr.ents
/-- The entries of a node, in memory of the call's own. -/
theorem entries_new {v : DV} {own : Nat → Option Role} {D : Dev} {j p : Nat} (h : NodeAt w v own D j p) (hok : nodeOk (nodeW D p) (D.n * 64)) {E : List (Int × Int)} (hE : entsW (nodeW D p) (slotsW (nodeW D p)) = E) :
    Calls Tryz.prog 16 #[.agg #[.iface 76 (.pointer (some ⟨v.tb j, 0, none⟩)), .int .u64 p]] w fun r w' => ∃ a c, r = .returned (.slice a E.length c) ∧ RdSl w' 2 (.slice a E.length c) E.length (entC E) ∧ Below w.heap.size w w' ∧
      ∀ k, (Value.slice a E.length c).ownBlock = some k → w.heap.size ≤ k ∧ k < w'.heap.size := by
  have hy := yields_ok h hok 0
  rw [find_zero hok h.hW, List.drop_zero, hE] at hy
  have hl : E.length ≤ 12 := by rw [← hE]; simpa [entsW] using (ok_good hok).len
  refine (entries_any _ _ E (isMem_thr _) hy (by omega)).mono ?_
  rintro r w' ⟨u, rfl, h1, h2⟩
  obtain ⟨a, c, rfl⟩ := ownsRow_slice h1
  refine ⟨a, c, rfl, rd_of_row h1, h2, fun k hk => ?_⟩
  rcases h1.2 with ⟨e, _⟩ | ⟨g, cap, cur, e, hb, hg, _⟩
  · simp only [Value.slice.injEq] at e; obtain ⟨rfl, _, _⟩ := e; simp [Value.ownBlock] at hk
  · simp only [Value.slice.injEq] at e; obtain ⟨rfl, _, _⟩ := e; simp [Value.ownBlock] at hk; subst hk; exact ⟨hb, lt_of_block hg⟩
/-- What the plan of an act is, and what the node reads as while it runs. -/
theorem plan_two {ka sa va : Option Addr} {kc sc vc : Nat} {n : NodeP} (ha : NodeIn w n ka sa va kc sc vc) (d : Bool) (key value : Int) (hk : 0 ≤ key ∧ key < 18446744073709551616) (hv : 0 ≤ value ∧ value < 18446744073709551616)
    (he : (planP (nW n) (nodeOff n) d key value).2 = 0) : ∃ gs, TwoG (nC n) (nodeOff n) (planP (nW n) (nodeOff n) d key value).1 (entsW (nW n) (slotsW (nW n))) (E1of d key value (entsW (nW n) (slotsW (nW n)))) gs := by
  have hno := nodeOff_le n
  cases d
  · exact two_put (nW_ok n) (fun _ => rfl) (nW_bd ha) hk hv hno.2.2 (by omega) he
  · have he' : (delP (nW n) (nodeOff n) key).2 = 0 := he
    have hf : foundB (nW n) key (slotsW (nW n)) = true := by
      cases hf : foundB (nW n) key (slotsW (nW n)) with
      | true => rfl
      | false => unfold delP at he'; rw [hf] at he'; simp at he'
    exact two_del (nW_ok n) (fun _ => rfl) (nW_bd ha) hno.2.2 (by omega) hf
section
variable {w : World} {v : DV} {own : Nat → Option Role} {D : Dev}
theorem thread2_any (h : IsDev w v own D) : Calls Tryz.prog 34 #[.pointer (some ⟨v.db, 0, none⟩), .int .i64 2] w fun r w' => r = .returned (.pointer (some ⟨v.tb 2, 0, none⟩)) ∧ w = w' := thread_any h (j := 2) (by omega)
end
section
variable {w : World} {v : DV} {own : Nat → Option Role} {D : Dev} {j p : Nat}
theorem check_ok (h : NodeAt w v own D j p) (hok : nodeOk (nodeW D p) (D.n * 64)) : Calls Tryz.prog 14 #[.agg #[.iface 76 (.pointer (some ⟨v.tb j, 0, none⟩)), .int .u64 p]] w fun r w' => r = .returned (.int .i64 0) ∧ Below w.heap.size w w' := by
  refine (check_any h).mono ?_
  rintro r w' ⟨hb, ⟨_, hr⟩ | ⟨hn, _⟩⟩
  · exact ⟨hr, hb⟩
  · exact absurd hok hn
theorem same_b (x y : Value) (xs ys : List (Int × Int)) (b : Bool) (hx : RdSl w 2 x xs.length (entC xs)) (hy : RdSl w 2 y ys.length (entC ys)) (hl : xs.length ≤ 100000) (hl2 : ys.length ≤ 100000) (hb : decide (xs = ys) = b) :
    Calls Tryz.prog 15 #[x, y] w fun r w' => r = .returned (.bool b) ∧ Below w.heap.size w w' := by
  have := refSame_any x y xs ys hx hy hl hl2
  rwa [hb] at this
end
/-- The image's leaf, laid into its box. -/
theorem img_end {wo w5 : World} {b : Nat} {x0 x1 u0 u1 : Value} {t : TypeId} (hb : Below wo.heap.size wo w5) (hk : wo.heap.size ≤ b) (h : Blk w5 b #[x0, x1] t) :
    ∃ ib, Value.pointer (some ⟨b, 0, none⟩) = .pointer (some ⟨ib, 0, none⟩) ∧ Blk ((w5.setCell ⟨b, 0, none⟩ u0).setCell ⟨b, 1, none⟩ u1) ib #[u0, u1] t ∧ Below wo.heap.size wo ((w5.setCell ⟨b, 0, none⟩ u0).setCell ⟨b, 1, none⟩ u1) := by
  refine ⟨b, rfl, ?_, (hb.setCell (p := ⟨b, 0, none⟩) hk _).setCell (p := ⟨b, 1, none⟩) hk _⟩
  have := (h.set 0 u0).set 1 u1
  simpa using this
theorem img_new {wo w5 : World} {u0 u1 : Value} {t : TypeId} (hb : Below wo.heap.size wo w5) :
    ∃ ib, Value.pointer (some ⟨w5.heap.size, 0, none⟩) = .pointer (some ⟨ib, 0, none⟩) ∧ Blk (w5.alloc (.cells #[u0, u1] t)) ib #[u0, u1] t ∧ Below wo.heap.size wo (w5.alloc (.cells #[u0, u1] t)) := ⟨_, rfl, Blk.new _ _ _, hb.alloc hb.size _⟩
set_option maxRecDepth 100000 in
set_option maxHeartbeats 8000000 in
theorem leafReadable_any (ha : NodeIn w n ka sa va kc sc vc) (d : Bool) (key value : Int) (hk : 0 ≤ key ∧ key < 18446744073709551616) (hv : 0 ≤ value ∧ value < 18446744073709551616) (cv : Value) (cs : List Int) (hc : RdSl w 1 cv cs.length (cs.map fun x => .int .u8 x)) (hcb : ∀ x ∈ cs, 0 ≤ x ∧ x < 256) (hcl : cs.length ≤ maxLen) :
    Calls Tryz.prog 6 #[.agg (nodeAgg n ka sa va kc sc vc), .agg #[.bool d, .int .u64 key, .int .u64 value], cv] w fun r w' => r = .returned (.bool true) ∧ Below w.heap.size w w' := by
  have HMA := Lib.hid (fun wx (hx : Below w.heap.size w wx) => madeR_any (ha.below hx))
  have HO := Lib.hid (fun wx => nodeAt_any (w := wx) n ka sa va kc sc vc ha.p8)
  have BA := Lib.hid (nW_bd ha)
  have HG := Lib.hid (made_clean ha)
  have HPT := Lib.hid (fun he => plan_two ha d key value hk hv he)
  have HCR := Lib.hid (fun wx v own D (h : IsDev wx v own D) (hvb : D.VB) (hb : Below w.heap.size w wx) (hex : D.exec < 4611686018427387904) => crash_any h hvb cv cs (hc.below hb) hcb hcl hex)
  have HC := Lib.hid hc
  obtain ⟨_, ca, cc, rfl, hcc, _⟩ := hc
  have HKV := Lib.hid (And.intro hk hv)
  clear ha hk hv hcb hcl
  have hB0 := Lib.hid ((Blk.new w (nodeAgg n ka sa va kc sc vc) 26).alloc (.cells #[.bool d, .int .u64 key, .int .u64 value] 85))
  have hA0 : Hid (Blk ((w.alloc (.cells (nodeAgg n ka sa va kc sc vc) 26)).alloc (.cells #[.bool d, .int .u64 key, .int .u64 value] 85)) (w.heap.size + 1) #[.bool d, .int .u64 key, .int .u64 value] 85) := Lib.hid (by
    have := Blk.new (w.alloc (.cells (nodeAgg n ka sa va kc sc vc) 26)) #[.bool d, .int .u64 key, .int .u64 value] 85
    rwa [World.size_alloc] at this)
  unfold nodeAgg at HMA HO hB0 hA0 ⊢
  go_enter Tryz.func6, Tryz.ntmps6
  go_wp2_with fail
  (with_reducible refine awake_any.mono ?_)
  rintro e w1 ⟨rfl, b1⟩
  have B1 : Hid (Below w.heap.size w w1) := Lib.hid ((((Below.refl _ _).alloc (Nat.le_refl _) _).alloc (by simp) _).trans (b1.mono (by simp; omega)))
  have X1 := Lib.hid (hB0.out.below b1); have A1 := Lib.hid (hA0.out.below b1)
  have hz1 : w.heap.size + 1 < w1.heap.size := A1.out.lt
  have a0 : w1.cell? ⟨w.heap.size, 0, none⟩ = some (.int .u8 n.pos) := X1.out.cell rfl
  have a1 : w1.cell? ⟨w.heap.size, 1, none⟩ = some (.slice ka n.ks.length kc) := X1.out.cell rfl
  have a2 : w1.cell? ⟨w.heap.size, 2, none⟩ = some (.slice sa n.ss.length sc) := X1.out.cell rfl
  have a3 : w1.cell? ⟨w.heap.size, 3, none⟩ = some (.slice va n.vs.length vc) := X1.out.cell rfl
  have a4 : w1.cell? ⟨w.heap.size, 4, none⟩ = some (.int .u8 n.high) := X1.out.cell rfl
  have a5 : w1.cell? ⟨w.heap.size, 5, none⟩ = some (.bool n.bounded) := X1.out.cell rfl
  have a6 : w1.cell? ⟨w.heap.size, 6, none⟩ = some (.bool n.next) := X1.out.cell rfl
  have a7 : w1.cell? ⟨w.heap.size, 7, none⟩ = some (.int .u16 n.count) := X1.out.cell rfl
  clear b1 hB0 hA0
  go_wp2_with fail
  (with_reducible refine (HMA.out _ B1.out).mono ?_)
  rintro e w2 ⟨v, own, D, rfl, l2, hD⟩
  have X2 := Lib.hid (X1.out.below l2.bel); have A2 := Lib.hid (A1.out.below l2.bel)
  have L2 : Hid (LiveSt w v own D 57 (nC n) w2) := ⟨⟨l2.dev, fun k hk => Nat.le_trans B1.out.size (l2.ob k hk), B1.out.trans (l2.bel.mono B1.out.size)⟩, l2.live⟩
  have O2 : Hid (own w.heap.size = none ∧ own (w.heap.size + 1) = none) := Lib.hid ⟨Classical.byContradiction (fun h => by have := l2.ob _ h; omega), Classical.byContradiction (fun h => by have := l2.ob _ h; omega)⟩
  rw [← hD] at HG
  have HDA : Hid (D.armed = false) := Lib.hid (by have := l2.live.armed; exact this)
  clear l2 X1 A1 hz1 B1 hD HMA a0 a1 a2 a3 a4 a5 a6 a7
  have hno := nodeOff_le n
  obtain ⟨N2, e2⟩ := L2.out.node 0 (nodeOff n) (by omega) (by omega) hno.2.2 (by omega) BA.out
  have e2' : nodeW D (ptrN (nodeOff n)) = nW n := funext e2
  have hD12 : D.n * 64 = 768 := by rw [L2.out.live.n]
  have hEN := fun wx (hx : Below w2.heap.size w2 wx) => entries_new (N2.below hx) (by rw [e2', hD12]; exact nW_ok n) (E := entsW (nW n) (slotsW (nW n))) (by rw [e2'])
  have hPL := fun wx (hx : IsDev wx v own D) => plan_any { N2 with dev := hx } d key value
  rw [e2', hD12, refD_ptr _ hno.2.2 (by omega)] at hPL
  have HEN := Lib.hid hEN; have HPL := Lib.hid hPL
  clear N2 e2 e2' hD12 hEN hPL
  have HE12 : Hid ((entsW (nW n) (slotsW (nW n))).length ≤ 12) := Lib.hid (by have := (ok_good (nW_ok n)).len; simpa [entsW] using this)
  generalize hE0 : entsW (nW n) (slotsW (nW n)) = E0 at *
  clear hE0
  have HE1 := Lib.hid (E1_len d key value E0 (by have := HE12.out; omega))
  go_wp2_with fail
  (with_reducible refine (HEN.out _ (below_alloc w2 _)).mono ?_)
  rintro e w3 ⟨na, nc, rfl, r3, bb3, v3⟩
  have V3 : Hid (∀ k, (Value.slice na E0.length nc).ownBlock = some k → w2.heap.size ≤ k ∧ k < w3.heap.size) := Lib.hid (fun k hk => ⟨Nat.le_trans (by simp) (v3 k hk).1, (v3 k hk).2⟩)
  clear v3
  have hb3 : Below w2.heap.size w2 w3 := (below_alloc w2 _).trans (bb3.mono (by simp))
  have D3 := Lib.hid (L2.out.dev.below hb3)
  have W3 : Hid (Below w.heap.size w w3) := Lib.hid (L2.out.bel.trans (hb3.mono L2.out.bel.size))
  have X3 := Lib.hid (X2.out.below hb3); have A3 := Lib.hid (A2.out.below hb3)
  have F3 := Lib.hid ((Blk.new w2 #[.iface 76 (.pointer (some ⟨v.tb 0, 0, none⟩)), .int .u64 (ptrN (nodeOff n) : Nat)] 35).below bb3)
  have OL : Hid (own w2.heap.size = none) := Lib.hid (Classical.byContradiction (fun h => by have := L2.out.dev.lt _ h; omega))
  have OV : Hid (∀ k, k ≥ w2.heap.size → own k = none) := Lib.hid (fun k hk => Classical.byContradiction (fun h => by have := L2.out.dev.lt _ h; omega))
  have R3 := Lib.hid r3
  have HB3 := Lib.hid hb3
  have LBN : Hid (w.heap.size + 1 < w2.heap.size) := Lib.hid A2.out.lt
  clear r3 bb3 hb3 X2 A2
  have hz3 : w.heap.size + 1 < w3.heap.size := A3.out.lt
  have c0 : w3.cell? ⟨w.heap.size + 1, 0, none⟩ = some (.bool d) := A3.out.cell rfl
  have c1 : w3.cell? ⟨w.heap.size + 1, 1, none⟩ = some (.int .u64 key) := A3.out.cell rfl
  have c2 : w3.cell? ⟨w.heap.size + 1, 2, none⟩ = some (.int .u64 value) := A3.out.cell rfl
  go_wp2_with fail
  (with_reducible refine (refSet_any _ E0 key value R3.out (by have := HE12.out; omega)).mono ?_)
  rintro e w4 ⟨sv, rfl, a4⟩
  obtain ⟨sa4, sc4, hsv⟩ := a4.slice
  subst hsv
  have hob3 : ∀ (sl : Value), (∀ k, sl.ownBlock = some k → w3.heap.size ≤ k) → ∀ k, sl.ownBlock = some k → own k = none := fun sl h k hk => OV.out k (Nat.le_trans HB3.out.size (h k hk))
  have HOB := Lib.hid hob3
  have R4 : Hid (RB w n ka sa va kc sc vc d key value v w2.heap.size own D (.slice na E0.length nc) (.slice sa4 (setL key value E0).length sc4) E0 (setL key value E0) w4) := Lib.hid
    ⟨D3.out.below a4.bel, W3.out.trans (a4.bel.mono W3.out.size), X3.out.below a4.bel, A3.out.below a4.bel, F3.out.below a4.bel, R3.out.below a4.bel, a4.rd, fun k hk => L2.out.ob k hk, O2.out.1, O2.out.2, OL.out,
      fun k hk => ⟨OV.out k (V3.out k hk).1, Nat.lt_of_lt_of_le (V3.out k hk).2 a4.bel.size⟩, fun k hk => ⟨HOB.out _ (fun k hk => a4.new k hk) k hk, a4.own.lt k hk⟩⟩
  have HU4 := Lib.hid (refUnset_any (w := w4) (.slice na E0.length nc) E0 key (R3.out.below a4.bel) (by have := HE12.out; omega))
  have B4 : Hid (Below w3.heap.size w3 w4) := Lib.hid a4.bel
  clear a4 hob3 HOB c0 c1 c2
  have c0 : w4.cell? ⟨w.heap.size + 1, 0, none⟩ = some (.bool d) := R4.out.act.cell rfl
  have c1 : w4.cell? ⟨w.heap.size + 1, 1, none⟩ = some (.int .u64 key) := R4.out.act.cell rfl
  go_upto_if 35 with fail
  go_cut [10] from 35 to 42 (fun u wx => ∃ aa ac, u = .slice aa (E1of d key value E0).length ac ∧ RB w n ka sa va kc sc vc d key value v w2.heap.size own D (.slice na E0.length nc) (.slice aa (E1of d key value E0).length ac) E0 (E1of d key value E0) wx)
  case first =>
    cases d
    · go_wp2_with fail
      go_meet
      exact ⟨sa4, sc4, rfl, R4.out⟩
    · go_wp2_with fail
      (with_reducible refine HU4.out.mono ?_)
      rintro e w5 ⟨ov, rfl, a5⟩
      obtain ⟨oa, oc, hov⟩ := a5.slice
      subst hov
      have R5 := Lib.hid (R4.out.next a5.bel)
      have A5 := Lib.hid a5
      clear a5
      go_wp2_with fail
      go_meet
      exact ⟨oa, oc, rfl, ⟨R5.out.dev, R5.out.bel, R5.out.box, R5.out.act, R5.out.leaf, R5.out.bef, A5.out.rd, R5.out.base, R5.out.ob, R5.out.oa, R5.out.ol, R5.out.obv, fun k hk => ⟨OV.out k (Nat.le_trans HB3.out.size (Nat.le_trans B4.out.size (A5.out.new k hk))), A5.out.own.lt k hk⟩⟩⟩
  case rest =>
    obtain ⟨aa, ac, rfl, r5⟩ := hcut
    have R5 := Lib.hid r5
    clear r5 R4 HU4 c0 c1 R3 B4
    have O5 : Hid (∀ k, k ≥ wc.heap.size → own k = none) := Lib.hid (fun k hk => Classical.byContradiction (fun h => by have := R5.out.dev.lt _ h; omega))
    generalize w2.heap.size = lb at *
    generalize hE1 : E1of d key value E0 = E1 at *
    clear hE1
    have l0 : wc.cell? ⟨lb, 0, none⟩ = some (.iface 76 (.pointer (some ⟨v.tb 0, 0, none⟩))) := R5.out.leaf.cell rfl
    have l1 : wc.cell? ⟨lb, 1, none⟩ = some (.int .u64 (ptrN (nodeOff n) : Nat)) := R5.out.leaf.cell rfl
    have c0 : wc.cell? ⟨w.heap.size + 1, 0, none⟩ = some (.bool d) := R5.out.act.cell rfl
    have c1 : wc.cell? ⟨w.heap.size + 1, 1, none⟩ = some (.int .u64 key) := R5.out.act.cell rfl
    have c2 : wc.cell? ⟨w.heap.size + 1, 2, none⟩ = some (.int .u64 value) := R5.out.act.cell rfl
    have HP5 := Lib.hid (HPL.out wc R5.out.dev)
    go_wp2_with fail
    (with_reducible refine HP5.out.mono ?_)
    rintro e w6 ⟨b6, ⟨_, pv, rfl, o6, n6⟩ | ⟨hbad, _⟩⟩
    case inr => exact absurd (nW_ok n) hbad
    have R6 := Lib.hid (R5.out.next b6)
    have P6 := Lib.hid (And.intro o6 n6)
    obtain ⟨pa, pc, hpv⟩ := o6.slice
    subst hpv
    clear b6 o6 n6 HP5 HPL l0 l1 c0 c1 c2
    generalize hpl : planP (nW n) (nodeOff n) d key value = pl at *
    clear hpl
    obtain ⟨p, er⟩ := pl
    simp only at HPT P6 ⊢
    by_cases he0 : er = 0
    · subst he0
      obtain ⟨gs, hT⟩ := HPT.out rfl
      have T := Lib.hid hT
      have hpl8 := hT.len; have hpl0 := hT.pos
      clear hT HPT
      obtain ⟨pb, po, pc', hpe, hpc, _⟩ := rd_some P6.out.1.rd (by
        intro h; have := congrArg List.length h; simp [instrC_length] at this; omega)
      obtain ⟨rfl, _, rfl⟩ : pa = some ⟨pb, po, none⟩ ∧ True ∧ pc = pc' := by simpa using hpe
      have HT := Lib.hid (thread0_any R6.out.dev)
      have HMS := Lib.hid (memStep_any (w := w6) ⟨v.tb 0, 0, none⟩ ⟨pb, po, none⟩ pc p P6.out.1.rd T.out.prog.instr (by omega))
      go_wp2_with fail
      (with_reducible refine HT.out.mono ?_)
      rintro e w' ⟨rfl, rfl⟩
      go_wp2_with fail
      (with_reducible refine HMS.out.mono ?_)
      rintro e w7 ⟨sb, rfl, st7, hsb, b7⟩
      have R7 := Lib.hid (R6.out.next b7)
      have S7 := Lib.hid (st7 own (fun k hk => R6.out.dev.lt k hk))
      have HSB : Hid (w6.heap.size ≤ sb) := Lib.hid hsb
      clear st7 hsb b7 HT HMS
      go_wp2_with fail
      have HRD := Lib.hid (fun k hk => rd_at_k T.out HG.out.1 HDA.out HG.out.2 k hk)
      have HLV := Lib.hid (fun k => L2.out.live.run 0 (p.take k) (fun e he => T.out.prog e (List.mem_of_mem_take he)))
      have HSN : Hid ((sb ≠ w.heap.size ∧ sb ≠ w.heap.size + 1 ∧ sb ≠ lb ∧ w.heap.size ≤ sb) ∧ (Value.slice na E0.length nc).ownBlock ≠ some sb ∧ (Value.slice aa E1.length ac).ownBlock ≠ some sb) := Lib.hid (by
        have h1 := R6.out.box.lt; have h2 := R6.out.act.lt; have h3 := R6.out.leaf.lt; have h4 := HSB.out
        exact ⟨⟨by omega, by omega, by omega, by omega⟩, fun h => by have := (R6.out.obv _ h).2; omega, fun h => by have := (R6.out.oav _ h).2; omega⟩)
      have ST0 : Hid (∃ own', RB w n ka sa va kc sc vc d key value v lb own' (D.run 0 (p.take (p.length - p.length))) (.slice na E0.length nc) (.slice aa E1.length ac) E0 E1 w7 ∧ StpAt w7 own' sb ⟨v.tb 0, 0, none⟩ (p.drop (p.length - p.length))) := Lib.hid (by
        rw [Nat.sub_self]; exact ⟨own, R7.out, S7.out⟩)
      clear R7 S7 HSB R6 P6 R5 O5 V3 OV OL F3 A3 X3 W3 D3 HB3 O2 LBN
      generalize hL : p.length = L at *
      have HL := Lib.hid hL; clear hL
      go_loopg [14, 15, 16, 17, 18] L (fun g s14 _ _ _ _ wr => s14 = .bool (decide (g = 0)) ∧ g ≤ L ∧ ∃ own', RB w n ka sa va kc sc vc d key value v lb own' (D.run 0 (p.take (L - g))) (.slice na E0.length nc) (.slice aa E1.length ac) E0 E1 wr ∧ StpAt wr own' sb ⟨v.tb 0, 0, none⟩ (p.drop (L - g)))
      case atStart => exact ⟨by rw [decide_eq_false (by omega)], Nat.le_refl _, ST0.out⟩
      case round =>
        clear ST0
        obtain ⟨rfl, hgL, own1, r1, st1⟩ := hrel
        have R1 := Lib.hid r1; have S1 := Lib.hid st1
        clear r1 st1
        cases gk with
        | zero =>
          go_wp2_with fail
          go_ret
          exact ⟨rfl, R1.out.bel⟩
        | succ g =>
          obtain ⟨k, hk⟩ : ∃ k, L - (g + 1) = k := ⟨_, rfl⟩
          rw [hk] at R1 S1
          have hpl := HL.out
          have hkp : k < p.length := by omega
          obtain ⟨e, he⟩ : ∃ e, p[k]? = some e := ⟨_, List.getElem?_eq_getElem hkp⟩
          have hdr : p.drop k = e :: p.drop (k + 1) := by
            rw [List.drop_eq_getElem_cons hkp]; rw [List.getElem?_eq_getElem hkp] at he; rw [Option.some.inj he]
          rw [hdr] at S1
          have hst : (D.run 0 (p.take k)).step 0 e = D.run 0 (p.take (k + 1)) := by
            rw [List.take_add_one, he]; exact (Dev.run_snoc D 0 (p.take k) e).symm
          have hl0 := (HLV.out k).exec
          have hl1 := HLV.out (k + 1)
          have HR := Lib.hid (HRD.out (k + 1) (by omega))
          have hdl : (p.drop (k + 1)).length = g := by rw [List.length_drop]; omega
          have htl : (p.take k).length ≤ 8 := by rw [List.length_take]; omega
          have htl1 : (p.take (k + 1)).length ≤ 8 := by rw [List.length_take]; omega
          have hq := stpStep_any R1.out.dev (j := 0) (by omega) S1.out (T.out.prog.instr e (List.mem_of_getElem? he)) (by omega) (by omega)
          rw [hst] at hq
          have HQ := Lib.hid hq
          have HK : Hid (decide (L - g = L) = decide (g = 0)) := Lib.hid (by rw [decide_eq_decide]; omega)
          have hex1 := hl1.exec
          have HD1 : Hid ((D.run 0 (p.take (k + 1))).n = 12 ∧ (D.run 0 (p.take (k + 1))).off = false ∧ (∀ j, (D.run 0 (p.take (k + 1))).err j = 0) ∧ (D.run 0 (p.take (k + 1))).exec < 1000) := Lib.hid ⟨hl1.n, hl1.off, hl1.err, by omega⟩
          have HKL : Hid (k + 1 = L - g) := Lib.hid (by omega)
          clear hq hst he hdr hl0 hl1 hex1 S1 htl htl1
          rw [HKL.out] at HQ HR HD1
          first | rw [HK.out] at HR | rw [hpl, HK.out] at HR
          go_wp2_with fail
          (with_reducible refine HQ.out.mono ?_)
          rintro e1 w1 ⟨rfl, own2, st2, d2, o2, u2⟩
          have R2 := Lib.hid (R1.out.moved d2 o2 u2 HSN.out.1 HSN.out.2)
          have S2 := Lib.hid st2
          clear st2 d2 o2 u2 R1 HQ
          first | rw [show (p.drop (L - g)).length = g from by rw [← HKL.out]; exact hdl] | rw [show (p.drop (k + 1)).length = g from hdl] | skip
          clear hdl hk hpl hkp HKL HK
          clear k
          generalize hDg : D.run 0 (p.take (L - g)) = D1 at *
          have HDg := Lib.hid hDg
          clear hDg
          have HC1 := Lib.hid (HCR.out w1 v own2 D1 R2.out.dev HR.out.vb R2.out.bel (by have := HD1.out.2.2.2; omega))
          go_wp2_with fail
          (with_reducible refine HC1.out.mono ?_)
          rintro e2 w2 ⟨ks, v', own', hks, rfl, ⟨f, hf, df⟩, hob, hb⟩
          have M3 : Hid (RC w n ka sa va kc sc vc d key value v lb own2 D1 (.slice na E0.length nc) (.slice aa E1.length ac) E0 E1 v' own' (Dev.fresh 12 f) w2) := Lib.hid ⟨R2.out.next hb, by rw [← HD1.out.1]; exact df⟩
          have S3 := Lib.hid (S2.out.below hb)
          have hf28 : ∀ i, i < 28 → f (nodeOff n / 8 + i) = D1.img ks (nodeOff n / 8 + i) := fun i hi => hf _ (by rw [HD1.out.1]; omega)
          have HFI : Hid (Rd2 (Dev.fresh 12 f).cur (nodeOff n) E0 E1 ∧ (g = 0 → Rd2 (Dev.fresh 12 f).cur (nodeOff n) E1 E1 ∧ Rd2 D1.cur (nodeOff n) E1 E1)) := Lib.hid
            ⟨rd2_28 (HR.out.img ks) hf28, fun hg => ⟨rd2_28 ((HR.out.end1 (by rw [hg]; rfl)).2 ks) hf28, (HR.out.end1 (by rw [hg]; rfl)).1⟩⟩
          clear hks hf df hob hb HC1 R2 S2 hf28
          have HT1 := Lib.hid (fun wx (hx : IsDev wx v' own' (Dev.fresh 12 f)) => thread1_any hx)
          have HPN := Lib.hid (fun wx => pointerN_any (w := wx) (nodeOff n) (by omega) hno.2.2 (by omega))
          have HAT := Lib.hid (fun wx => at_any (w := wx) (.iface 76 (.pointer (some ⟨v'.tb 1, 0, none⟩))) (ptrN (nodeOff n) : Nat) (.inr ⟨_, _, rfl⟩))
          obtain ⟨a0, a1, a2, a3, a4, a5, a6, a7⟩ := M3.out.rb.boxes
          obtain ⟨wo, hwo⟩ : ∃ x : World, x = w2 := ⟨_, rfl⟩
          subst hwo
          have NX := Lib.hid (fun wx wy (h : RC w n ka sa va kc sc vc d key value v lb own2 D1 (.slice na E0.length nc) (.slice aa E1.length ac) E0 E1 v' own' (Dev.fresh 12 f) wx ∧ Below wo.heap.size wo wx) (hb : Below wx.heap.size wx wy) => And.intro (h.1.next hb) (h.2.trans (hb.mono h.2.size)))
          have MD := Lib.hid (NX.out _ _ (And.intro M3.out (Below.refl _ _)) ((Below.refl _ _).drew))
          go_upto_region 16 with fail
          go_cut [16] from 63 to 69 (fun u wx => ∃ ib, u = .pointer (some ⟨ib, 0, none⟩) ∧ Blk wx ib #[.iface 76 (.pointer (some ⟨v'.tb 1, 0, none⟩)), .int .u64 (ptrN (nodeOff n) : Nat)] 35 ∧ Below wo.heap.size wo wx)
          case first =>
            obtain ⟨a0, a1, a2, a3, a4, a5, a6, a7⟩ := MD.out.1.rb.boxes
            have MA := Lib.hid (NX.out _ _ (NX.out _ _ (And.intro M3.out (Below.refl _ _)) (below_alloc wo (.cells #[.nilIface, .int .u64 0] 35))) ((Below.refl _ _).drew))
            have ZA := Lib.hid (Blk.new wo #[.nilIface, .int .u64 0] 35).drew
            have hwo : w.heap.size < wo.heap.size := M3.out.rb.box.lt
            have hne : wo.heap.size ≠ w.heap.size := by omega
            have hne' : w.heap.size ≠ wo.heap.size := by omega
            go_region_with (first | (go_at_call 34; (first | (with_reducible refine (HT1.out _ M4.out.1.cr).mono ?_) | (with_reducible refine (HT1.out _ MD.out.1.cr).mono ?_) | (with_reducible refine (HT1.out _ (NX.out _ _ M4.out (below_alloc _ _)).1.cr).mono ?_) | (with_reducible refine (HT1.out _ MA.out.1.cr).mono ?_)); rintro e w' ⟨rfl, rfl⟩) | (go_at_call 12; (with_reducible refine (HO.out _).mono ?_); rintro e w4 ⟨rfl, b4⟩; (first | (have M4 := Lib.hid (NX.out _ _ MD.out b4)) | (have M4 := Lib.hid (NX.out _ _ MA.out b4); have Z4 := Lib.hid (ZA.out.below b4))); clear b4) | (go_at_call 43; (with_reducible refine (HPN.out _).mono ?_); rintro e w' ⟨rfl, rfl⟩) | (go_at_call 42; (with_reducible refine (HAT.out _).mono ?_); rintro e w5 ⟨rfl, b5⟩; (first | (have M5 := Lib.hid (NX.out _ _ M4.out b5); have Z5 := Lib.hid (Z4.out.below b5); have Z6 : Hid (Blk w5 wo.heap.size #[.nilIface, .int .u64 0] 35) := Lib.hid (Z4.out.below b5); have d4 := Z6.out.cell (i := 0) rfl; have d5 := Z6.out.cell (i := 1) rfl; have e4 := Z6.out.frozen 0; have e5 := Z6.out.frozen 1; have d0 := Z5.out.cell (i := 0) rfl; have d1 := Z5.out.cell (i := 1) rfl; have e0 := Z5.out.frozen 0; have e1 := Z5.out.frozen 1; have hlt5 := Z5.out.lt) | (have M5 := Lib.hid (NX.out _ _ M4.out b5); have Z5 := Lib.hid (Blk.new w5 #[.nilIface, .int .u64 0] 35); have d0 := Z5.out.cell (i := 0) rfl; have d1 := Z5.out.cell (i := 1) rfl; have e0 := Z5.out.frozen 0; have e1 := Z5.out.frozen 1; have hlt5 := Z5.out.lt) | (have M5 := Lib.hid (NX.out _ _ (NX.out _ _ M4.out (below_alloc _ _)) b5); have Z5 := Lib.hid ((Blk.new w4 #[.nilIface, .int .u64 0] 35).below b5); have d0 := Z5.out.cell (i := 0) rfl; have d1 := Z5.out.cell (i := 1) rfl; have e0 := Z5.out.frozen 0; have e1 := Z5.out.frozen 1; have hlt5 := Z5.out.lt)); clear b5))
            all_goals go_wp2_with fail
            all_goals go_meet
            all_goals first
              | exact img_end M5.out.2 M4.out.2.size Z5.out
              | exact img_end M5.out.2 (Nat.le_refl _) Z6.out
              | exact img_end (M5.out.2.alloc M5.out.2.size _) M5.out.2.size Z5.out
              | exact img_new M5.out.2
          case rest =>
            obtain ⟨ib, rfl, hi, hbm⟩ := hcut
            have R0 := Lib.hid (M3.out.next hbm)
            have I0 := Lib.hid hi
            have S4 := Lib.hid (S3.out.below hbm)
            clear hi hbm NX MD M3 S3 HT1
            obtain ⟨wk, hwk⟩ : ∃ x : World, x = wc := ⟨_, rfl⟩
            have NX := Lib.hid (fun wx wy (h : RC w n ka sa va kc sc vc d key value v lb own2 D1 (.slice na E0.length nc) (.slice aa E1.length ac) E0 E1 v' own' (Dev.fresh 12 f) wx ∧ Blk wx ib #[.iface 76 (.pointer (some ⟨v'.tb 1, 0, none⟩)), .int .u64 (ptrN (nodeOff n) : Nat)] 35 ∧ Below wc.heap.size wc wx) (hb : Below wx.heap.size wx wy) => And.intro (h.1.next hb) (And.intro (h.2.1.below hb) (h.2.2.trans (hb.mono h.2.2.size))))
            have M0 := Lib.hid (And.intro R0.out (And.intro I0.out (Below.refl wc.heap.size wc)))
            have MD := Lib.hid (NX.out _ _ M0.out ((Below.refl _ _).drew))
            have HT2 := Lib.hid (fun wx (hx : RC w n ka sa va kc sc vc d key value v lb own2 D1 (.slice na E0.length nc) (.slice aa E1.length ac) E0 E1 v' own' (Dev.fresh 12 f) wx ∧ Blk wx ib #[.iface 76 (.pointer (some ⟨v'.tb 1, 0, none⟩)), .int .u64 (ptrN (nodeOff n) : Nat)] 35 ∧ Below wc.heap.size wc wx) => thread2_any hx.1.rb.dev)
            have HAT := Lib.hid (fun wx => at_any (w := wx) (.iface 76 (.pointer (some ⟨v.tb 2, 0, none⟩))) (ptrN (nodeOff n) : Nat) (.inr ⟨_, _, rfl⟩))
            have hn1 := fun wx (hx : RC w n ka sa va kc sc vc d key value v lb own2 D1 (.slice na E0.length nc) (.slice aa E1.length ac) E0 E1 v' own' (Dev.fresh 12 f) wx ∧ Blk wx ib #[.iface 76 (.pointer (some ⟨v'.tb 1, 0, none⟩)), .int .u64 (ptrN (nodeOff n) : Nat)] 35 ∧ Below wc.heap.size wc wx) => node_of hx.1.rb.dev 2 (by omega) HD1.out.2.1 (HD1.out.2.2.1 2) HD1.out.1 HR.out.cur
            have hn2 := fun wx (hx : RC w n ka sa va kc sc vc d key value v lb own2 D1 (.slice na E0.length nc) (.slice aa E1.length ac) E0 E1 v' own' (Dev.fresh 12 f) wx ∧ Blk wx ib #[.iface 76 (.pointer (some ⟨v'.tb 1, 0, none⟩)), .int .u64 (ptrN (nodeOff n) : Nat)] 35 ∧ Below wc.heap.size wc wx) => node_of hx.1.cr 1 (by omega) rfl rfl rfl HFI.out.1
            have he1 := fun wx hx => entries_new (hn1 wx hx).1 (hn1 wx hx).2.1 rfl
            have he2 := fun wx hx => entries_new (hn2 wx hx).1 (hn2 wx hx).2.1 rfl
            have hEN : entsW (nodeW D1 (ptrN (nodeOff n))) (slotsW (nodeW D1 (ptrN (nodeOff n)))) = E0 ∨ entsW (nodeW D1 (ptrN (nodeOff n))) (slotsW (nodeW D1 (ptrN (nodeOff n)))) = E1 := by
              obtain ⟨_, _, E, rfl, h⟩ := hn1 _ MD.out; exact h
            have hET : entsW (nodeW (Dev.fresh 12 f) (ptrN (nodeOff n))) (slotsW (nodeW (Dev.fresh 12 f) (ptrN (nodeOff n)))) = E0 ∨ entsW (nodeW (Dev.fresh 12 f) (ptrN (nodeOff n))) (slotsW (nodeW (Dev.fresh 12 f) (ptrN (nodeOff n)))) = E1 := by
              obtain ⟨_, _, E, rfl, h⟩ := hn2 _ MD.out; exact h
            have hpn := refD_ptr (nodeOff n) hno.2.2 (by omega)
            have hE1N : g = 0 → entsW (nodeW D1 (ptrN (nodeOff n))) (slotsW (nodeW D1 (ptrN (nodeOff n)))) = E1 := fun hg => by
              have e : nodeW D1 (ptrN (nodeOff n)) = fun i => D1.cur (nodeOff n / 8 + i) := by funext i; unfold nodeW; rw [hpn]
              rw [e]; exact (HFI.out.2 hg).2.ents.elim id id
            have hE1T : g = 0 → entsW (nodeW (Dev.fresh 12 f) (ptrN (nodeOff n))) (slotsW (nodeW (Dev.fresh 12 f) (ptrN (nodeOff n)))) = E1 := fun hg => by
              have e : nodeW (Dev.fresh 12 f) (ptrN (nodeOff n)) = fun i => (Dev.fresh 12 f).cur (nodeOff n / 8 + i) := by funext i; unfold nodeW; rw [hpn]
              rw [e]; exact (HFI.out.2 hg).1.ents.elim id id
            generalize hgE : entsW (nodeW D1 (ptrN (nodeOff n))) (slotsW (nodeW D1 (ptrN (nodeOff n)))) = EN at he1 hEN hE1N
            generalize hgT : entsW (nodeW (Dev.fresh 12 f) (ptrN (nodeOff n))) (slotsW (nodeW (Dev.fresh 12 f) (ptrN (nodeOff n)))) = ET at he2 hET hE1T
            clear hgE hgT hn1 hn2
            have HE1' := Lib.hid he1; have HE2' := Lib.hid he2
            have HEN' := Lib.hid (And.intro hEN hE1N); have HET' := Lib.hid (And.intro hET hE1T)
            clear he1 he2 hEN hE1N hET hE1T hpn
            obtain ⟨i0, i1, a0, a1, a2, a3, a4, a5, a6, a7⟩ := And.intro (M0.out.2.1.cell (i := 0) rfl) (And.intro (M0.out.2.1.cell (i := 1) rfl) M0.out.1.rb.boxes)
            go_upto_region 17 with fail
            go_cut [17, 18] from 70 to 79 (fun u s wx => ∃ xa xc ya yc, u = .slice xa EN.length xc ∧ s = .slice ya ET.length yc ∧ RdSl wx 2 (.slice xa EN.length xc) EN.length (entC EN) ∧ RdSl wx 2 (.slice ya ET.length yc) ET.length (entC ET) ∧ RC w n ka sa va kc sc vc d key value v lb own2 D1 (.slice na E0.length nc) (.slice aa E1.length ac) E0 E1 v' own' (Dev.fresh 12 f) wx ∧ Blk wx ib #[.iface 76 (.pointer (some ⟨v'.tb 1, 0, none⟩)), .int .u64 (ptrN (nodeOff n) : Nat)] 35 ∧ Below wc.heap.size wc wx)
            case first =>
              go_region_held3 (fun wx => wx.cell? ⟨ib, 0, none⟩ = some (.iface 76 (.pointer (some ⟨v'.tb 1, 0, none⟩))) ∧ wx.cell? ⟨ib, 1, none⟩ = some (.int .u64 (ptrN (nodeOff n) : Nat)) ∧ wx.cell? ⟨w.heap.size, 0, none⟩ = some (.int .u8 n.pos) ∧ wx.cell? ⟨w.heap.size, 1, none⟩ = some (.slice ka n.ks.length kc) ∧ wx.cell? ⟨w.heap.size, 2, none⟩ = some (.slice sa n.ss.length sc) ∧ wx.cell? ⟨w.heap.size, 3, none⟩ = some (.slice va n.vs.length vc) ∧ wx.cell? ⟨w.heap.size, 4, none⟩ = some (.int .u8 n.high) ∧ wx.cell? ⟨w.heap.size, 5, none⟩ = some (.bool n.bounded) ∧ wx.cell? ⟨w.heap.size, 6, none⟩ = some (.bool n.next) ∧ wx.cell? ⟨w.heap.size, 7, none⟩ = some (.int .u16 n.count)) (first | (with_reducible exact And.intro (M7.out.2.1.cell (i := 0) rfl) (And.intro (M7.out.2.1.cell (i := 1) rfl) M7.out.1.rb.boxes)) | (with_reducible exact And.intro (M6.out.2.1.cell (i := 0) rfl) (And.intro (M6.out.2.1.cell (i := 1) rfl) M6.out.1.rb.boxes)) | (with_reducible exact And.intro (M5.out.2.1.cell (i := 0) rfl) (And.intro (M5.out.2.1.cell (i := 1) rfl) M5.out.1.rb.boxes)) | (with_reducible exact And.intro (M4.out.2.1.cell (i := 0) rfl) (And.intro (M4.out.2.1.cell (i := 1) rfl) M4.out.1.rb.boxes)) | (with_reducible exact And.intro (MD.out.2.1.cell (i := 0) rfl) (And.intro (MD.out.2.1.cell (i := 1) rfl) MD.out.1.rb.boxes)) | fail) (first | (go_at_call 34; (with_reducible refine (HT2.out _ MD.out).mono ?_); rintro e w' ⟨rfl, rfl⟩) | (go_at_call 12; (with_reducible refine (HO.out _).mono ?_); rintro e w4 ⟨rfl, b4⟩; have M4 := Lib.hid (NX.out _ _ MD.out b4); clear b4) | (go_at_call 43; (with_reducible refine (HPN.out _).mono ?_); rintro e w' ⟨rfl, rfl⟩) | (go_at_call 42; (with_reducible refine (HAT.out _).mono ?_); rintro e w5 ⟨rfl, b5⟩; have M5 := Lib.hid (NX.out _ _ M4.out b5); clear b5) | (go_at_call 16; (with_reducible refine (HE1'.out _ M5.out).mono ?_); rintro e w6 ⟨xa, xc, rfl, r6, b6, _⟩; have M6 := Lib.hid (NX.out _ _ M5.out b6); have R6 := Lib.hid r6; clear b6 r6) | (go_at_call 16; (with_reducible refine (HE2'.out _ M6.out).mono ?_); rintro e w7 ⟨ya, yc, rfl, r7, b7, _⟩; have M7 := Lib.hid (NX.out _ _ M6.out b7); have R7 := Lib.hid (R6.out.below b7); have Y7 := Lib.hid r7; clear b7 r7))
              all_goals go_wp2_with fail
              all_goals go_meet
              all_goals exact ⟨xa, xc, ya, yc, rfl, rfl, R7.out, Y7.out, M7.out⟩
            case rest =>
              obtain ⟨xa, xc, ya, yc, rfl, rfl, hx, hy, hr, hi, hbm⟩ := hcut
              clear MD M0 NX R0 I0 HT2 HAT HE1' HE2' i0 i1 a0 a1 a2 a3 a4 a5 a6 a7
              have S5 := Lib.hid (S4.out.below hbm)
              clear hbm
              obtain ⟨wz, hwz⟩ : ∃ x : World, x = wc := ⟨_, rfl⟩
              subst hwz
              have NX2 := Lib.hid (fun wx wy (h : RC w n ka sa va kc sc vc d key value v lb own2 D1 (.slice na E0.length nc) (.slice aa E1.length ac) E0 E1 v' own' (Dev.fresh 12 f) wx ∧ Blk wx ib #[.iface 76 (.pointer (some ⟨v'.tb 1, 0, none⟩)), .int .u64 (ptrN (nodeOff n) : Nat)] 35 ∧ RdSl wx 2 (.slice xa EN.length xc) EN.length (entC EN) ∧ RdSl wx 2 (.slice ya ET.length yc) ET.length (entC ET) ∧ Below wz.heap.size wz wx) (hb : Below wx.heap.size wx wy) => (And.intro (h.1.next hb) (And.intro (h.2.1.below hb) (And.intro (h.2.2.1.below hb) (And.intro (h.2.2.2.1.below hb) (h.2.2.2.2.trans (hb.mono h.2.2.2.2.size)))))))
              have K0 := Lib.hid (And.intro hr (And.intro hi (And.intro hx (And.intro hy (Below.refl wz.heap.size wz)))))
              clear hx hy hr hi
              have HLC := Lib.hid (fun wx (h : RC w n ka sa va kc sc vc d key value v lb own2 D1 (.slice na E0.length nc) (.slice aa E1.length ac) E0 E1 v' own' (Dev.fresh 12 f) wx ∧ Blk wx ib #[.iface 76 (.pointer (some ⟨v'.tb 1, 0, none⟩)), .int .u64 (ptrN (nodeOff n) : Nat)] 35 ∧ RdSl wx 2 (.slice xa EN.length xc) EN.length (entC EN) ∧ RdSl wx 2 (.slice ya ET.length yc) ET.length (entC ET) ∧ Below wz.heap.size wz wx) => And.intro (h.1.rb.leaf.cell (i := 0) rfl) (h.1.rb.leaf.cell (i := 1) rfl))
              have HIC := Lib.hid (fun wx (h : RC w n ka sa va kc sc vc d key value v lb own2 D1 (.slice na E0.length nc) (.slice aa E1.length ac) E0 E1 v' own' (Dev.fresh 12 f) wx ∧ Blk wx ib #[.iface 76 (.pointer (some ⟨v'.tb 1, 0, none⟩)), .int .u64 (ptrN (nodeOff n) : Nat)] 35 ∧ RdSl wx 2 (.slice xa EN.length xc) EN.length (entC EN) ∧ RdSl wx 2 (.slice ya ET.length yc) ET.length (entC ET) ∧ Below wz.heap.size wz wx) => And.intro (h.2.1.cell (i := 0) rfl) (h.2.1.cell (i := 1) rfl))
              have HC1 := Lib.hid (fun wx (h : RC w n ka sa va kc sc vc d key value v lb own2 D1 (.slice na E0.length nc) (.slice aa E1.length ac) E0 E1 v' own' (Dev.fresh 12 f) wx ∧ Blk wx ib #[.iface 76 (.pointer (some ⟨v'.tb 1, 0, none⟩)), .int .u64 (ptrN (nodeOff n) : Nat)] 35 ∧ RdSl wx 2 (.slice xa EN.length xc) EN.length (entC EN) ∧ RdSl wx 2 (.slice ya ET.length yc) ET.length (entC ET) ∧ Below wz.heap.size wz wx) => check_ok (node_of h.1.rb.dev 0 (by omega) HD1.out.2.1 (HD1.out.2.2.1 0) HD1.out.1 HR.out.cur).1 (node_of h.1.rb.dev 0 (by omega) HD1.out.2.1 (HD1.out.2.2.1 0) HD1.out.1 HR.out.cur).2.1)
              have HC2 := Lib.hid (fun wx (h : RC w n ka sa va kc sc vc d key value v lb own2 D1 (.slice na E0.length nc) (.slice aa E1.length ac) E0 E1 v' own' (Dev.fresh 12 f) wx ∧ Blk wx ib #[.iface 76 (.pointer (some ⟨v'.tb 1, 0, none⟩)), .int .u64 (ptrN (nodeOff n) : Nat)] 35 ∧ RdSl wx 2 (.slice xa EN.length xc) EN.length (entC EN) ∧ RdSl wx 2 (.slice ya ET.length yc) ET.length (entC ET) ∧ Below wz.heap.size wz wx) => check_ok (node_of h.1.cr 1 (by omega) rfl rfl rfl HFI.out.1).1 (node_of h.1.cr 1 (by omega) rfl rfl rfl HFI.out.1).2.1)
              have hl0 : E0.length ≤ 100000 := by have := HE12.out; omega
              have hl1 : E1.length ≤ 100000 := by have := HE1.out; omega
              have hlx : EN.length ≤ 100000 := by rcases HEN'.out.1 with h | h <;> rw [h] <;> assumption
              have hly : ET.length ≤ 100000 := by rcases HET'.out.1 with h | h <;> rw [h] <;> assumption
              obtain ⟨b0, hb0⟩ : ∃ b, decide (EN = E0) = b := ⟨_, rfl⟩
              obtain ⟨b1, hb1⟩ : ∃ b, decide (EN = E1) = b := ⟨_, rfl⟩
              obtain ⟨c0, hc0⟩ : ∃ b, decide (ET = E0) = b := ⟨_, rfl⟩
              obtain ⟨c1, hc1⟩ : ∃ b, decide (ET = E1) = b := ⟨_, rfl⟩
              obtain ⟨eb, heb⟩ : ∃ b, decide (g = 0) = b := ⟨_, rfl⟩
              have HBB : Hid (b0 = false → b1 = true) := Lib.hid (fun h => by
                rw [h] at hb0; rw [← hb1]; exact decide_eq_true (HEN'.out.1.resolve_left (of_decide_eq_false hb0)))
              have HCB : Hid (c0 = false → c1 = true) := Lib.hid (fun h => by
                rw [h] at hc0; rw [← hc1]; exact decide_eq_true (HET'.out.1.resolve_left (of_decide_eq_false hc0)))
              have HEB : Hid (eb = true → b1 = true ∧ c1 = true) := Lib.hid (fun h => by
                rw [h] at heb
                have hg := of_decide_eq_true heb
                rw [← hb1, ← hc1]; exact ⟨decide_eq_true (HEN'.out.2 hg), decide_eq_true (HET'.out.2 hg)⟩)
              have HX0 := Lib.hid (fun wx (h : RC w n ka sa va kc sc vc d key value v lb own2 D1 (.slice na E0.length nc) (.slice aa E1.length ac) E0 E1 v' own' (Dev.fresh 12 f) wx ∧ Blk wx ib #[.iface 76 (.pointer (some ⟨v'.tb 1, 0, none⟩)), .int .u64 (ptrN (nodeOff n) : Nat)] 35 ∧ RdSl wx 2 (.slice xa EN.length xc) EN.length (entC EN) ∧ RdSl wx 2 (.slice ya ET.length yc) ET.length (entC ET) ∧ Below wz.heap.size wz wx) => same_b _ _ EN E0 b0 h.2.2.1 h.1.rb.bef hlx hl0 hb0)
              have HX1 := Lib.hid (fun wx (h : RC w n ka sa va kc sc vc d key value v lb own2 D1 (.slice na E0.length nc) (.slice aa E1.length ac) E0 E1 v' own' (Dev.fresh 12 f) wx ∧ Blk wx ib #[.iface 76 (.pointer (some ⟨v'.tb 1, 0, none⟩)), .int .u64 (ptrN (nodeOff n) : Nat)] 35 ∧ RdSl wx 2 (.slice xa EN.length xc) EN.length (entC EN) ∧ RdSl wx 2 (.slice ya ET.length yc) ET.length (entC ET) ∧ Below wz.heap.size wz wx) => same_b _ _ EN E1 b1 h.2.2.1 h.1.rb.aft hlx hl1 hb1)
              have HY0 := Lib.hid (fun wx (h : RC w n ka sa va kc sc vc d key value v lb own2 D1 (.slice na E0.length nc) (.slice aa E1.length ac) E0 E1 v' own' (Dev.fresh 12 f) wx ∧ Blk wx ib #[.iface 76 (.pointer (some ⟨v'.tb 1, 0, none⟩)), .int .u64 (ptrN (nodeOff n) : Nat)] 35 ∧ RdSl wx 2 (.slice xa EN.length xc) EN.length (entC EN) ∧ RdSl wx 2 (.slice ya ET.length yc) ET.length (entC ET) ∧ Below wz.heap.size wz wx) => same_b _ _ ET E0 c0 h.2.2.2.1 h.1.rb.bef hly hl0 hc0)
              have HY1 := Lib.hid (fun wx (h : RC w n ka sa va kc sc vc d key value v lb own2 D1 (.slice na E0.length nc) (.slice aa E1.length ac) E0 E1 v' own' (Dev.fresh 12 f) wx ∧ Blk wx ib #[.iface 76 (.pointer (some ⟨v'.tb 1, 0, none⟩)), .int .u64 (ptrN (nodeOff n) : Nat)] 35 ∧ RdSl wx 2 (.slice xa EN.length xc) EN.length (entC EN) ∧ RdSl wx 2 (.slice ya ET.length yc) ET.length (entC ET) ∧ Below wz.heap.size wz wx) => same_b _ _ ET E1 c1 h.2.2.2.1 h.1.rb.aft hly hl1 hc1)
              have HEE := Lib.hid heb
              rw [heb]
              clear hb0 hb1 hc0 hc1 hl0 hl1 hlx hly HEN' HET' HFI HR heb
              go_upto_region 18 with fail
              go_cut [111] from 80 to 111 (fun u wx => u = .bool false ∧ RC w n ka sa va kc sc vc d key value v lb own2 D1 (.slice na E0.length nc) (.slice aa E1.length ac) E0 E1 v' own' (Dev.fresh 12 f) wx ∧ Blk wx ib #[.iface 76 (.pointer (some ⟨v'.tb 1, 0, none⟩)), .int .u64 (ptrN (nodeOff n) : Nat)] 35 ∧ RdSl wx 2 (.slice xa EN.length xc) EN.length (entC EN) ∧ RdSl wx 2 (.slice ya ET.length yc) ET.length (entC ET) ∧ Below wz.heap.size wz wx)
              case first =>
                obtain ⟨l0, l1⟩ := HLC.out _ K0.out
                go_wp2_with fail
                (with_reducible refine (HC1.out _ K0.out).mono ?_)
                rintro e _ ⟨rfl, b⟩
                have K1 := Lib.hid (NX2.out _ _ K0.out b); clear b
                obtain ⟨i0, i1⟩ := HIC.out _ K1.out
                go_wp2_with fail
                (with_reducible refine (HC2.out _ K1.out).mono ?_)
                rintro e _ ⟨rfl, b⟩
                have K2 := Lib.hid (NX2.out _ _ K1.out b); clear b
                clear l0 l1 i0 i1
                go_wp2_with fail
                (with_reducible refine (HX0.out _ K2.out).mono ?_)
                rintro e _ ⟨rfl, b⟩
                have K3 := Lib.hid (NX2.out _ _ K2.out b); clear b
                cases b0
                · have hb := HBB.out rfl
                  subst hb
                  go_wp2_with fail
                  (with_reducible refine (HX1.out _ K3.out).mono ?_)
                  rintro e _ ⟨rfl, b⟩
                  have K4 := Lib.hid (NX2.out _ _ K3.out b); clear b
                  go_wp2_with fail
                  (with_reducible refine (HY0.out _ K4.out).mono ?_)
                  rintro e _ ⟨rfl, b⟩
                  have K8 := Lib.hid (NX2.out _ _ K4.out b); clear b
                  cases c0
                  · have hc := HCB.out rfl
                    subst hc
                    go_wp2_with fail
                    (with_reducible refine (HY1.out _ K8.out).mono ?_)
                    rintro e _ ⟨rfl, b⟩
                    have K9 := Lib.hid (NX2.out _ _ K8.out b); clear b
                    go_wp2_with fail
                    go_meet
                    exact ⟨rfl, K9.out⟩
                  · go_wp2_with fail
                    go_meet
                    exact ⟨rfl, K8.out⟩
                · skip
                  go_wp2_with fail
                  (with_reducible refine (HY0.out _ K3.out).mono ?_)
                  rintro e _ ⟨rfl, b⟩
                  have K8 := Lib.hid (NX2.out _ _ K3.out b); clear b
                  cases c0
                  · have hc := HCB.out rfl
                    subst hc
                    go_wp2_with fail
                    (with_reducible refine (HY1.out _ K8.out).mono ?_)
                    rintro e _ ⟨rfl, b⟩
                    have K9 := Lib.hid (NX2.out _ _ K8.out b); clear b
                    go_wp2_with fail
                    go_meet
                    exact ⟨rfl, K9.out⟩
                  · go_wp2_with fail
                    go_meet
                    exact ⟨rfl, K8.out⟩
              case rest =>
                obtain ⟨rfl, hk⟩ := hcut
                have K20 := Lib.hid hk
                clear hk K0
                go_upto_region 20 with fail
                go_cut [124] from 112 to 124 (fun u wx => u = .bool false ∧ RC w n ka sa va kc sc vc d key value v lb own2 D1 (.slice na E0.length nc) (.slice aa E1.length ac) E0 E1 v' own' (Dev.fresh 12 f) wx ∧ Blk wx ib #[.iface 76 (.pointer (some ⟨v'.tb 1, 0, none⟩)), .int .u64 (ptrN (nodeOff n) : Nat)] 35 ∧ RdSl wx 2 (.slice xa EN.length xc) EN.length (entC EN) ∧ RdSl wx 2 (.slice ya ET.length yc) ET.length (entC ET) ∧ Below wz.heap.size wz wx)
                case first =>
                  cases eb
                  · go_wp2_with fail
                    go_meet
                    exact ⟨rfl, K20.out⟩
                  · have hb := HEB.out rfl
                    obtain ⟨hb, hc⟩ := hb
                    subst hb hc
                    go_wp2_with fail
                    (with_reducible refine (HX1.out _ K20.out).mono ?_)
                    rintro e _ ⟨rfl, b⟩
                    have K21 := Lib.hid (NX2.out _ _ K20.out b); clear b
                    go_wp2_with fail
                    (with_reducible refine (HY1.out _ K21.out).mono ?_)
                    rintro e _ ⟨rfl, b⟩
                    have K22 := Lib.hid (NX2.out _ _ K21.out b); clear b
                    go_wp2_with fail
                    go_meet
                    exact ⟨rfl, K22.out⟩
                case rest =>
                  obtain ⟨rfl, hk⟩ := hcut
                  go_wp2_with fail
                  go_roundg g
                  case measure => omega
                  case rel =>
                    have hS := S5.out.below hk.2.2.2.2
                    have hR := hk.1.rb
                    rw [← HDg.out] at hR
                    refine ⟨by rw [HEE.out], by omega, own2, hR, hS⟩
    · have hb0 : ((er : Int) != 0) = true := by simp; omega
      clear he0 HPT
      go_wp2_with fail
      go_ret
      exact ⟨rfl, R6.out.bel⟩
end
end Go.Proofs.YtkoijmoendepgaaGreat

/- From a walk to a given statement: a law that returns true and changes nothing that was there answers as its row says, whatever its arguments are. -/
namespace Go.Proofs.YtkoijmoendepgaaGreat
open Go.ChangeShapes Go.WideShapes Go.ChangeAt Go.RowKit

theorem own_knob : ownKnob Tryz.prog.godebug = none := by kernel_rfl
theorem laid_out : laidOutB Tryz.prog = true := by kernel_rfl

section
variable {H : Type} {enc : TypeId × Value → H}

theorem trodAll_stays {W W' : World} {sp' : Nat → Bool} : ∀ {ts : List TypeId} {vs : List Value} {ds : List (DataW H)} {ps : List MemPlace}, (∀ t ∈ ts, Tryz.prog.readableRec t = true ∧ t < Tryz.prog.types.size) →
    DataW.TrodAll enc Tryz.prog W 0 (fun _ => true) true ts vs ds ps → (∀ p ∈ ps, W.sameAt W' p) → (∀ p ∈ ps, sp' p.block = true) → DataW.TrodAll enc Tryz.prog W' 0 sp' true ts vs ds ps
  | [], [], [], _, _, h, _, _ => h
  | t :: _, _ :: _, _ :: _, _, hT, ⟨p, q, h1, h2, e⟩, hw, hs =>
    ⟨p, q, WideElems.Trod_stays laid_out (hT t (List.mem_cons.2 (.inl rfl))).1 (hT t (List.mem_cons.2 (.inl rfl))).2 h1 (fun x hx => hw x (by rw [e]; exact List.mem_append_left _ hx)) (fun x hx => hs x (by rw [e]; exact List.mem_append_left _ hx)),
      trodAll_stays (fun t ht => hT t (List.mem_cons.2 (.inr ht))) h2 (fun x hx => hw x (by rw [e]; exact List.mem_append_right _ hx)) (fun x hx => hs x (by rw [e]; exact List.mem_append_right _ hx)), e⟩

theorem law_post {f : Func} {s : ChangeSpec} {W W' : World} {args : Array Value} {ds gs : List (DataW H)} {before : List MemPlace}
    (hW : DataW.Whole enc Tryz.prog f.params.toList s.vars false W args.toList ds gs before) (hvars : s.vars = []) (hr : f.resultTypes = #[4])
    (hs : s.fn H ds = { results := [.lit (.bool true)], args := ds }) (hrd : ∀ t ∈ f.params.toList, Tryz.prog.readableRec t = true ∧ t < Tryz.prog.types.size) (hb : Below W.heap.size W W') :
    s.post enc Tryz.prog f false true false false W args (.bool true) W' := by
  have hlt : ∀ p ∈ before, p.block < W.heap.size := fun p hp => hW.lt p hp
  have hW' := hW
  obtain ⟨p, q, hA, hV, rfl, _, _⟩ := hW
  rw [hvars] at hV
  obtain ⟨rfl, rfl⟩ := trodVars_none hV
  simp only [List.append_nil] at hlt hW'
  refine ⟨ds, [], p, [], p, [], hW', ?_, ?_, ?_, World.keptBut_mono (fun x hx => ⟨hx, .inr (.inl hx)⟩) (hb.frame (· ∈ p)), fun h => (Bool.false_ne_true h).elim⟩
  · rw [hr, List.append_nil, hs]; exact trodAll_mk1 (shut_bool Tryz.underlying4 _)
  · rw [List.append_nil, hs]
    exact trodAll_stays hrd hA (fun x hx => hb.same (hlt x hx)) (fun x hx => by simpa using hlt x hx)
  · rw [hvars, List.append_nil, hs]; rfl

/-- A word that came in. -/
theorem u64_nat {x : Int} (h : (Lit.int .u64 x).wf = true) : ∃ n : Nat, x = n ∧ n < 18446744073709551616 := by
  simp [Lit.wf, IntKind.min, IntKind.max, IntKind.signed, IntKind.bits] at h
  exact ⟨x.toNat, by omega, by omega⟩
theorem cells_u64 : Tryz.prog.cellsOf 28 = 1 := by kernel_rfl
set_option maxRecDepth 100000 in
/-- A slice of words that came in. -/
theorem open_u64s {W : World} {base b : Nat} {sp : Nat → Bool} {hd : Bool} {v : Value} {d : DataW H} {p : List MemPlace} (hv : Value.okWide Tryz.prog W .any b 23 v) (h : DataW.Trod enc Tryz.prog W base sp hd 23 v d p) :
    ∃ a c xs, v = .slice a xs.length c ∧ RdSl W 1 (.slice a xs.length c) xs.length (intsU xs) ∧ xs.length ≤ maxLen := by
  obtain ⟨a0, len, cap, rfl⟩ := okWide_slice Tryz.underlying23 hv
  obtain ⟨fuel, hf⟩ := h
  rcases open_ints Tryz.underlying23 Tryz.underlying28 cells_u64 hf with ⟨hcs, _⟩ | ⟨a, len', cap', zs, hcs, _, hl, hm, hz, _, hcell, _⟩
  · simp [Value.cells] at hcs
    obtain ⟨rfl, rfl, rfl⟩ := hcs
    exact ⟨none, 0, [], rfl, (OwnSl.nil W 0 1).rd, by simp⟩
  · simp [Value.cells] at hcs
    obtain ⟨rfl, rfl, rfl⟩ := hcs
    have hlen : (zs.take len).length = len := by
      rw [List.length_take, hz]; split <;> omega
    refine ⟨some a, cap, zs.take len, by rw [hlen], ?_, by omega⟩
    rw [hlen]
    refine ⟨by rw [intsU, List.length_map, hlen, Nat.mul_one], some a, cap, rfl, hl, ?_⟩
    by_cases h0 : len = 0
    · left; simp [intsU, h0]
    · have hz1 : len ≤ zs.length := by rw [hz]; split <;> omega
      have c0 := hcell 0 (by omega)
      have hsp := World.cell?_spot c0
      simp only [Addr.add, if_true] at hsp
      refine .inr ⟨a.block, a.off, by rw [← hsp], fun j u hu => ?_⟩
      have hj : j < len := by
        rcases Nat.lt_or_ge j len with h | h
        · exact h
        · rw [List.getElem?_eq_none (by simp [intsU]; omega)] at hu; cases hu
      have hcj := hcell j (by omega)
      have ea : a.add j = ⟨a.block, a.off + j, none⟩ := by
        unfold Addr.add; split
        · rename_i e; subst e; rw [← hsp]; rfl
        · rfl
      rw [← ea, hcj]
      simp only [intsU, List.getElem?_map, List.getElem?_take, if_pos hj] at hu
      rw [List.getElem?_eq_getElem (by omega)] at hu
      rw [List.getD, List.getElem?_eq_getElem (by omega)]
      simpa using hu
end
end Go.Proofs.YtkoijmoendepgaaGreat

/- A node that came in as an argument: opened. -/
namespace Go.Proofs.YtkoijmoendepgaaGreat
open Go.ChangeShapes Go.WideShapes Go.ChangeAt Go.RowKit Go.Joins Go.Deep

section
variable {H : Type} {enc : TypeId × Value → H} {P : Program}
/-- A struct of one-cell fields, by value, opened: each field's value and its reading. -/
theorem open_fields {W : World} {base b : Nat} {sp : Nat → Bool} {hd : Bool} {r : Reach} {t : TypeId} {fs : Array Field} {v : Value} {d : DataW H} {p : List MemPlace} (hs : P.underlying t = some (.struct fs)) (hone : oneCellFields P fs = true)
    (hC : P.cellsOf t = fs.size) (hv : Value.okWide P W r b t v) (h : DataW.Trod enc P W base sp hd t v d p) :
    ∃ (l : List Value) (n : Nat), v = .agg l.toArray ∧ l.length = fs.size ∧ ∀ (j : Nat) (f : Field), fs[j]? = some f → ∃ (c : Value) (y : DataW H × List MemPlace), l[j]? = some c ∧ DataW.trod enc P W base sp hd n f.type [c] = some y := by
  obtain ⟨cs, rfl, hsz⟩ := okWide_struct hs hv
  obtain ⟨l⟩ := cs
  obtain ⟨fuel, hf⟩ := h
  obtain ⟨xs, n, _, hx, _, hlen, hg⟩ := DataW.trod_struct hs hf
  have hl : l.length = fs.size := by simpa using hsz.trans hC
  refine ⟨l, n, rfl, hl, fun j f hj => ?_⟩
  obtain ⟨ho, hk⟩ := hone_of hone j f hj
  have hjl : j < fs.size := (Array.getElem?_eq_some_iff.1 hj).1
  have h1 := hg j f hj
  rw [ho, hk] at h1
  have hone' : (l.drop j).take 1 = [l[j]'(by omega)] := by
    rw [List.drop_eq_getElem_cons (by omega)]; rfl
  have hys : xs[j]? = some (xs[j]'(by omega)) := List.getElem?_eq_getElem (by omega)
  refine ⟨l[j]'(by omega), xs[j]'(by omega), List.getElem?_eq_getElem (by omega), ?_⟩
  rw [← hys, ← h1, ← hone']
  rfl
/-- A slice of numbers that came in. -/
theorem open_nums {W : World} {base : Nat} {sp : Nat → Bool} {hd : Bool} {t e : TypeId} {k : IntKind} {fuel : Nat} {v : Value} {x : DataW H × List MemPlace} (ht : P.underlying t = some (.slice e)) (he : P.underlying e = some (.int k)) (hc : P.cellsOf e = 1)
    (hf : DataW.trod enc P W base sp hd fuel t [v] = some x) :
    ∃ (a : Option Addr) (c : Nat) (xs : List Int), v = .slice a xs.length c ∧ RdSl W 1 (.slice a xs.length c) xs.length (xs.map fun n => .int k n) ∧ xs.length ≤ maxLen ∧ ∀ n ∈ xs, (Lit.int k n).wf = true := by
  rcases open_ints ht he hc hf with ⟨hcs, _⟩ | ⟨a, len', cap', zs, hcs, _, hl, hm, hz, _, hcell, hwf⟩
  · simp at hcs
    subst hcs
    exact ⟨none, 0, [], rfl, (OwnSl.nil W 0 1).rd, by simp, by simp⟩
  · simp at hcs
    subst hcs
    have hlen : (zs.take len').length = len' := by
      rw [List.length_take, hz]; split <;> omega
    refine ⟨some a, cap', zs.take len', by rw [hlen], ?_, by omega, fun n hn => hwf n (List.mem_of_mem_take hn)⟩
    rw [hlen]
    refine ⟨by rw [List.length_map, hlen, Nat.mul_one], some a, cap', rfl, hl, ?_⟩
    by_cases h0 : len' = 0
    · left; simp [h0]
    · have hz1 : len' ≤ zs.length := by rw [hz]; split <;> omega
      have c0 := hcell 0 (by omega)
      have hsp := World.cell?_spot c0
      simp only [Addr.add, if_true] at hsp
      refine .inr ⟨a.block, a.off, by rw [← hsp], fun j u hu => ?_⟩
      have hj : j < len' := by
        rcases Nat.lt_or_ge j len' with h | h
        · exact h
        · rw [List.getElem?_eq_none (by simp; omega)] at hu; cases hu
      have hcj := hcell j (by omega)
      have ea : a.add j = ⟨a.block, a.off + j, none⟩ := by
        unfold Addr.add; split
        · rename_i e; subst e; rw [← hsp]; rfl
        · rfl
      rw [← ea, hcj]
      simp only [List.getElem?_map, List.getElem?_take, if_pos hj] at hu
      rw [List.getElem?_eq_getElem (by omega)] at hu
      rw [List.getD, List.getElem?_eq_getElem (by omega)]
      simpa using hu
theorem cells_u8 : Tryz.prog.cellsOf 5 = 1 := by kernel_rfl
theorem u8_nat {x : Int} (h : (Lit.int .u8 x).wf = true) : ∃ n : Nat, x = n ∧ n < 256 := by
  simp [Lit.wf, IntKind.min, IntKind.max, IntKind.signed, IntKind.bits] at h
  exact ⟨x.toNat, by omega, by omega⟩
theorem u16_nat {x : Int} (h : (Lit.int .u16 x).wf = true) : ∃ n : Nat, x = n ∧ n < 65536 := by
  simp [Lit.wf, IntKind.min, IntKind.max, IntKind.signed, IntKind.bits] at h
  exact ⟨x.toNat, by omega, by omega⟩
theorem nums_nat (k : IntKind) (xs : List Int) (B : Nat) (h : ∀ x ∈ xs, ∃ n : Nat, x = n ∧ n < B) : ∃ l : List Nat, (xs.map fun n => Value.int k n) = natsK k l ∧ l.length = xs.length ∧ ∀ n ∈ l, n < B := by
  refine ⟨xs.map Int.toNat, ?_, by simp, fun n hn => ?_⟩
  · unfold natsK
    rw [List.map_map]
    refine List.map_congr_left fun x hx => ?_
    obtain ⟨n, rfl, _⟩ := h x hx
    simp
  · simp at hn
    obtain ⟨x, hx, rfl⟩ := hn
    obtain ⟨n, rfl, hn⟩ := h x hx
    simpa using hn
set_option maxRecDepth 100000 in
theorem open_node {W : World} {base b : Nat} {sp : Nat → Bool} {hd : Bool} {r : Reach} {v : Value} {d : DataW H} {p : List MemPlace} (hv : Value.okWide Tryz.prog W r b 26 v) (h : DataW.Trod enc Tryz.prog W base sp hd 26 v d p) :
    ∃ (n : NodeP) (ka sa va : Option Addr) (kc sc vc : Nat), v = .agg (nodeAgg n ka sa va kc sc vc) ∧ NodeIn W n ka sa va kc sc vc := by
  obtain ⟨l, n, rfl, hl, hf⟩ := open_fields Tryz.underlying26 (by kernel_rfl) (by kernel_rfl) hv h
  match l, hl with
  | [c0, c1, c2, c3, c4, c5, c6, c7], _ =>
    obtain ⟨_, y0, e0, t0⟩ := hf 0 _ rfl; cases e0
    obtain ⟨_, y1, e1, t1⟩ := hf 1 _ rfl; cases e1
    obtain ⟨_, y2, e2, t2⟩ := hf 2 _ rfl; cases e2
    obtain ⟨_, y3, e3, t3⟩ := hf 3 _ rfl; cases e3
    obtain ⟨_, y4, e4, t4⟩ := hf 4 _ rfl; cases e4
    obtain ⟨_, y5, e5, t5⟩ := hf 5 _ rfl; cases e5
    obtain ⟨_, y6, e6, t6⟩ := hf 6 _ rfl; cases e6
    obtain ⟨_, y7, e7, t7⟩ := hf 7 _ rfl; cases e7
    obtain ⟨x0, h0, _, w0⟩ := DataW.trod_int Tryz.underlying5 t0
    obtain ⟨x4, h4, _, w4⟩ := DataW.trod_int Tryz.underlying5 t4
    obtain ⟨x5, h5, _⟩ := DataW.trod_bool Tryz.underlying4 t5
    obtain ⟨x6, h6, _⟩ := DataW.trod_bool Tryz.underlying4 t6
    obtain ⟨x7, h7, _, w7⟩ := DataW.trod_int Tryz.underlying24 t7
    simp only [List.cons.injEq, and_true] at h0 h4 h5 h6 h7
    subst h0 h4 h5 h6 h7
    obtain ⟨n0, rfl, b0⟩ := u8_nat w0
    obtain ⟨n4, rfl, b4⟩ := u8_nat w4
    obtain ⟨n7, rfl, b7⟩ := u16_nat w7
    obtain ⟨ka, kc, ks, rfl, rk, lk, wk⟩ := open_nums Tryz.underlying22 Tryz.underlying5 cells_u8 t1
    obtain ⟨sa, sc, ss, rfl, rs, ls, ws⟩ := open_nums Tryz.underlying22 Tryz.underlying5 cells_u8 t2
    obtain ⟨va, vc, vs, rfl, rv, lv, wv⟩ := open_nums Tryz.underlying23 Tryz.underlying28 cells_u64 t3
    obtain ⟨kn, ek, elk, bk⟩ := nums_nat .u8 ks 256 (fun x hx => u8_nat (wk x hx))
    obtain ⟨sn, es, els, bs⟩ := nums_nat .u8 ss 256 (fun x hx => u8_nat (ws x hx))
    rw [ek, ← elk] at rk; rw [es, ← els] at rs
    rw [← elk] at lk ⊢; rw [← els] at ls ⊢
    refine ⟨⟨n0, kn, sn, vs, n4, x5, x6, n7⟩, ka, sa, va, kc, sc, vc, rfl, ⟨rk, rs, rv, lk, ls, lv, bk, bs, fun x hx => ?_, b0, b4, b7⟩⟩
    obtain ⟨m, rfl, hm⟩ := u64_nat (wv x hx)
    omega
end
end Go.Proofs.YtkoijmoendepgaaGreat
