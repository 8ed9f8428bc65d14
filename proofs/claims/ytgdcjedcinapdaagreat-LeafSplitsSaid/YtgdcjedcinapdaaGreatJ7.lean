/- The walks of from, Keys, Next, High. -/
import Derived.Test.YtgdcjedcinapdaaGreatJ5
import Derived.Test.YtgdcjedcinapdaaGreatJ6
import Derived.Test.YtgdcjedcinapdaaGreatJ1
import Derived.Test.YtgdcjedcinapdaaGreatJ2
import Derived.Deep.DrawnRows
namespace Go.Proofs.YtgdcjedcinapdaaGreat
open Go.RowKit

/-- Two slices of words that a call collects, in blocks of their own. -/
structure Two (w : World) (B : Nat) (wr : World) (k v : Value) (ks vs : List Int) : Prop where
  a : Acc w B wr 28 1 k ks.length (intsU ks)
  b : Acc w B wr 28 1 v vs.length (intsU vs)
  ne : ∀ g, k.ownBlock = some g → v.ownBlock ≠ some g
section
variable {w : World} {B : Nat} {wr wz w1 : World} {k v k' : Value} {ks vs : List Int} {x : Int} {q : Nat}
theorem Two.swap (h : Two w B wr k v ks vs) : Two w B wr v k vs ks := ⟨h.b, h.a, fun g h1 h2 => h.ne g h2 h1⟩
theorem Two.keep (h : Two w B wr k v ks vs) (hz : Below wr.heap.size wr wz) : Two w B wz k v ks vs := ⟨h.a.keep hz, h.b.keep hz, h.ne⟩
theorem Two.left (h : Two w B wr k v ks vs) (hz : Below wr.heap.size wr wz) (o1 : OwnSl w1 28 1 k' (ks.length + 1) (intsU ks ++ [.int .u64 x])) (g1 : wz.grownBy w1 k.ownBlock)
    (b1 : slAddr k' = slAddr k ∨ slAddr k' = some ⟨q, 0, none⟩) (hq : wr.heap.size ≤ q) : Two w B w1 k' v (ks ++ [x]) vs := by
  have hb : ∀ g, v.ownBlock = some g → w1.heap[g]? = wr.heap[g]? := fun g hg => by
    have hlt := h.b.own.lt g hg
    rw [g1.block g (Nat.lt_of_lt_of_le hlt hz.size) (fun e => h.ne g e.symm hg)]
    exact hz.block g hlt
  have A1 := (h.a.next hz o1 g1 b1 hq).congr (n' := (ks ++ [x]).length) (xs' := intsU (ks ++ [x])) (by simp) (by simp [intsU])
  refine ⟨A1, ⟨h.b.own.kept hb, h.b.new, A1.bel, A1.lt⟩, fun g hg hg2 => ?_⟩
  rcases b1 with b1 | b1
  · rw [ownBlock_addr, b1, ← ownBlock_addr] at hg; exact h.ne g hg hg2
  · rw [ownBlock_addr, b1] at hg; cases hg; have := h.b.own.lt q hg2; omega

def keysOf (W : Nat → Int) (slots : List Nat) : List Int := slots.map fun s => W (4 + s)
def valsOf (W : Nat → Int) (slots : List Nat) : List Int := slots.map fun s => W (16 + s)
/-- Two slices came out. -/
def TwoPost (w : World) (ks vs : List Int) (r : Ending) (w' : World) : Prop := ∃ k v, r = .returned (.tuple #[k, v]) ∧ Two w w.heap.size w' k v ks vs

set_option maxRecDepth 100000 in
set_option maxHeartbeats 2000000 in
theorem from_any {cb : Nat} {W : Nat → Int} {slots : List Nat} {ch : Nat} (h : IsCont w cb W slots ch) (i : Nat) (hi : i ≤ slots.length) :
    Calls Tryz.prog 73 #[.pointer (some ⟨cb, 0, none⟩), .int .i64 i] w (TwoPost w (keysOf W (slots.drop i)) (valsOf W (slots.drop i))) := by
  have h12 := h.len
  have H := Lib.hid h; clear h
  obtain ⟨i0, hi0, hz0, hz1, hz2⟩ := info_parts infoU64
  have I := Lib.hid (And.intro hi0 (And.intro hz0 (And.intro hz1 hz2))); clear hi0 hz0 hz1 hz2
  go_enter Tryz.func73, Tryz.ntmps73
  go_wp2_with fail
  go_loopw [1, 4, 5] (fun x kv vv wr => ∃ k : Nat, i ≤ k ∧ k ≤ slots.length ∧ x = .int .i64 k ∧ Two w w.heap.size wr kv vv (keysOf W ((slots.drop i).take (k - i))) (valsOf W ((slots.drop i).take (k - i))) ∧ IsCont wr cb W slots ch) (fun x _ _ _ => slots.length - (intOf x).toNat)
  case atStart => exact ⟨i, Nat.le_refl _, hi, rfl, by rw [Nat.sub_self]; exact ⟨Acc.nil w _ _ _ _ (Below.refl _ _) (Nat.le_refl _), Acc.nil w _ _ _ _ (Below.refl _ _) (Nat.le_refl _), fun g hg => by simp [Value.ownBlock] at hg⟩, H.out⟩
  case round =>
    obtain ⟨k, hk1, hk2, rfl, ht, hc⟩ := hrel
    obtain ⟨sv, c28, hsv⟩ := hc.sl
    obtain ⟨sa, sc, rfl⟩ : ∃ a c, sv = .slice a slots.length c := by obtain ⟨_, a, c, e, _⟩ := hsv; exact ⟨a, c, e⟩
    obtain ⟨ka, kc, rfl⟩ := ht.a.slice
    obtain ⟨va, vc, rfl⟩ := ht.b.slice
    have T := Lib.hid ht; have HC := Lib.hid hc
    clear hsv hc ht
    by_cases hlt : k < slots.length
    · obtain ⟨s, hs⟩ : ∃ s, slots[k]? = some s := ⟨_, List.getElem?_eq_getElem hlt⟩
      have hds : (slots.drop i)[k - i]? = some s := by rw [List.getElem?_drop, show i + (k - i) = k by omega]; exact hs
      have HK := Lib.hid (fun wx (hx : IsCont wx cb W slots ch) => key_any hx k s hs)
      have HV := Lib.hid (fun wx (hx : IsCont wx cb W slots ch) => value_any hx k s hs)
      have HD := Lib.hid (take_snoc_get _ _ _ hds)
      clear hds hs
      generalize hkl : keysOf W ((slots.drop i).take (k - i)) = kl at *
      generalize hvl : valsOf W ((slots.drop i).take (k - i)) = vl at *
      have hll : kl.length ≤ 12 ∧ vl.length ≤ 12 := by rw [← hkl, ← hvl]; simp [keysOf, valsOf]; omega
      obtain ⟨hl1, hl2⟩ := hll
      have HKL := Lib.hid (And.intro hkl hvl); clear hkl hvl
      go_wp2_with fail
      (with_reducible refine (HK.out _ HC.out).mono ?_)
      rintro e w2 ⟨rfl, q2⟩
      have T2 := Lib.hid (T.out.keep q2.below); have HC2 := Lib.hid (HC.out.qt q2); clear q2 T HC c28
      go_wp2_with (at_builtin; refine wpList_append_sl _ rfl _ _ 23 rfl 28 i0 _ 1 8 Tryz.underlying23 I.out.1 I.out.2.1 I.out.2.2.1 I.out.2.2.2 rfl (by decide) _ kl.length (intsU kl) rfl (by exact T2.out.a.own.alloc _) _ 1 _ rfl (by exact RdSl.newAt _ _ _ 1 1 _ rfl rfl) (one_int _ _) (by unfold maxLen; omega) (by omega) ?_)
      intro v1 w3 o1 g1 b1 n1
      have T3 := Lib.hid (T2.out.left (below_alloc _ _) o1 g1 b1 (by simp))
      have HC3 := Lib.hid (H.out.below T3.out.a.bel)
      clear o1 g1 b1 n1 T2 HC2
      go_wp2_with fail
      (with_reducible refine (HV.out _ HC3.out).mono ?_)
      rintro e w4 ⟨rfl, q4⟩
      have T4 := Lib.hid (T3.out.keep q4.below); clear q4 T3 HC3
      go_wp2_with (at_builtin; refine wpList_append_sl _ rfl _ _ 23 rfl 28 i0 _ 1 8 Tryz.underlying23 I.out.1 I.out.2.1 I.out.2.2.1 I.out.2.2.2 rfl (by decide) _ vl.length (intsU vl) rfl (by exact T4.out.b.own.alloc _) _ 1 _ rfl (by exact RdSl.newAt _ _ _ 1 1 _ rfl rfl) (one_int _ _) (by unfold maxLen; omega) (by omega) ?_)
      intro v2 w5 o2 g2 b2 n2
      have T5 := Lib.hid ((T4.out.swap.left (below_alloc _ _) o2 g2 b2 (by simp)).swap)
      clear o2 g2 b2 n2 T4
      go_wp2_with fail
      go_roundw
      case rel =>
        refine ⟨k + 1, by omega, by omega, by go_num, ?_, H.out.below T5.out.a.bel⟩
        rw [show k + 1 - i = k - i + 1 by omega, HD.out]
        have e1 : keysOf W ((slots.drop i).take (k - i) ++ [s]) = kl ++ [W (4 + s)] := by rw [← HKL.out.1]; simp [keysOf]
        have e2 : valsOf W ((slots.drop i).take (k - i) ++ [s]) = vl ++ [W (16 + s)] := by rw [← HKL.out.2]; simp [valsOf]
        rw [e1, e2]; exact T5.out
      case measure => simp [intOf]; omega
    · have hfull : (slots.drop i).take (k - i) = slots.drop i := List.take_of_length_le (by rw [List.length_drop]; omega)
      rw [hfull] at T ⊢
      go_wp2_with fail
      go_ret2
      exact ⟨_, _, rfl, T.out⟩

variable {v0 : DV} {own : Nat → Option Role} {D : Dev} {j p : Nat}
def KeysPost (w : World) (W : Nat → Int) (size : Nat) (r : Ending) (w' : World) : Prop :=
  ∃ kv ks, r = .returned kv ∧ Acc w w.heap.size w' 28 1 kv ks.length (intsU ks) ∧ ((nodeOk W size ∧ ks = keysOf W (slotsW W)) ∨ (¬ nodeOk W size ∧ ks = []))
set_option maxRecDepth 100000 in
set_option maxHeartbeats 1000000 in
theorem keysL_any (h : NodeAt w v0 own D j p) : Calls Tryz.prog 25 #[.agg #[.iface 76 (.pointer (some ⟨v0.tb j, 0, none⟩)), .int .u64 p]] w (KeysPost w (nodeW D p) (D.n * 64)) := by
  have H := Lib.hid h; clear h
  go_enter Tryz.func25, Tryz.ntmps25
  go_wp2_with fail
  (with_reducible refine (H.out.alloc _).read.mono ?_)
  rintro e w1 ⟨hb, ⟨hok, cb, rfl, _, hc⟩ | ⟨hbad, rfl⟩⟩
  · have HB := Lib.hid hb; have HO := Lib.hid hok; have HC : Hid (IsCont w1 cb (nodeW D p) (slotsW (nodeW D p)) ((nodeW D p 0).toNat / 4503599627370496)) := hc; clear hb hok hc
    have hF := from_any HC.out 0 (by omega)
    rw [show ((0 : Nat) : Int) = 0 from rfl, List.drop_zero] at hF
    have HF := Lib.hid hF; clear hF
    go_wp2_with fail
    (with_reducible refine HF.out.mono ?_)
    rintro e w2 ⟨k, v, rfl, t⟩
    have T := Lib.hid t; clear t
    go_wp2_with fail
    go_ret
    exact ⟨k, _, rfl, ⟨T.out.a.own, fun g hg => Nat.le_trans (Nat.le_trans (by simp) HB.out.size) (T.out.a.new g hg), below_of (Below.refl _ _) HB.out T.out.a.bel, (below_of (Below.refl _ _) HB.out T.out.a.bel).size⟩, .inl ⟨HO.out, rfl⟩⟩
  · have HB := Lib.hid hb; have HO := Lib.hid hbad; clear hb hbad
    go_wp2_with fail
    go_ret
    exact ⟨_, [], rfl, Acc.nil w _ _ _ _ (below_of (Below.refl _ _) HB.out (Below.refl _ _)) (below_of (Below.refl _ _) HB.out (Below.refl _ _)).size, .inr ⟨HO.out, rfl⟩⟩

set_option maxRecDepth 100000 in
set_option maxHeartbeats 1000000 in
theorem next_any (h : NodeAt w v0 own D j p) : Calls Tryz.prog 27 #[.agg #[.iface 76 (.pointer (some ⟨v0.tb j, 0, none⟩)), .int .u64 p]] w
    (NodePost w (nodeW D p) (D.n * 64) (.int .u64 (nodeW D p 1)) (.int .u64 0)) := by
  have H := Lib.hid h; clear h
  go_enter Tryz.func27, Tryz.ntmps27
  go_wp2_with fail
  (with_reducible refine (H.out.alloc _).read.mono ?_)
  rintro e w1 ⟨hb, ⟨hok, cb, rfl, _, hc⟩ | ⟨hbad, rfl⟩⟩
  · have HB := Lib.hid hb; have HO := Lib.hid hok
    have c1 := hc.words 1 (by omega)
    clear hb hok hc
    go_wp2_with fail
    go_ret
    exact ⟨below_of (Below.refl _ _) HB.out (Below.refl _ _), .inl ⟨HO.out, rfl⟩⟩
  · have HB := Lib.hid hb; have HO := Lib.hid hbad; clear hb hbad
    go_wp2_with fail
    go_ret
    exact ⟨below_of (Below.refl _ _) HB.out (Below.refl _ _), .inr ⟨HO.out, rfl⟩⟩
set_option maxRecDepth 100000 in
set_option maxHeartbeats 1000000 in
theorem high_any (h : NodeAt w v0 own D j p) : Calls Tryz.prog 24 #[.agg #[.iface 76 (.pointer (some ⟨v0.tb j, 0, none⟩)), .int .u64 p]] w
    (NodePost w (nodeW D p) (D.n * 64) (.tuple #[.int .u64 (nodeW D p 2), .bool (nodeW D p 3 == 1)]) (.tuple #[.int .u64 0, .bool false])) := by
  have H := Lib.hid h; clear h
  go_enter Tryz.func24, Tryz.ntmps24
  go_wp2_with fail
  (with_reducible refine (H.out.alloc _).read.mono ?_)
  rintro e w1 ⟨hb, ⟨hok, cb, rfl, _, hc⟩ | ⟨hbad, rfl⟩⟩
  · have HB := Lib.hid hb; have HO := Lib.hid hok
    have c2 := hc.words 2 (by omega); have c3 := hc.words 3 (by omega)
    clear hb hok hc
    go_wp2_with fail
    go_quiet (fail)
    go_wp2_with fail
    go_ret2
    exact ⟨below_of (Below.refl _ _) HB.out (Qt.drewN _ _).below, .inl ⟨HO.out, rfl⟩⟩
  · have HB := Lib.hid hb; have HO := Lib.hid hbad; clear hb hbad
    go_wp2_with fail
    go_ret2
    exact ⟨below_of (Below.refl _ _) HB.out (Below.refl _ _), .inr ⟨HO.out, rfl⟩⟩
end
end Go.Proofs.YtgdcjedcinapdaaGreat

/- Entries of a node: plain facts. -/
namespace Go.Proofs.YtgdcjedcinapdaaGreat
open Go.RowKit

/-- The entries from a key on. -/
def afterR (f : Int) (E : List (Int × Int)) : List (Int × Int) := E.filter fun e => decide (f ≤ e.1)
/-- The value of the last entry with this key, and whether there is one. -/
def wantR (k : Int) (E : List (Int × Int)) : Int × Bool := E.foldl (fun s e => if e.1 = k then (e.2, true) else s) (0, false)
theorem afterR_snoc_pos (f : Int) (E : List (Int × Int)) (e : Int × Int) (h : f ≤ e.1) : afterR f (E ++ [e]) = afterR f E ++ [e] := by simp [afterR, h]
theorem afterR_snoc_neg (f : Int) (E : List (Int × Int)) (e : Int × Int) (h : ¬ f ≤ e.1) : afterR f (E ++ [e]) = afterR f E := by simp [afterR, h]
theorem wantR_snoc_pos (k : Int) (E : List (Int × Int)) (e : Int × Int) (h : e.1 = k) : wantR k (E ++ [e]) = (e.2, true) := by simp [wantR, h]
theorem wantR_snoc_neg (k : Int) (E : List (Int × Int)) (e : Int × Int) (h : ¬ e.1 = k) : wantR k (E ++ [e]) = wantR k E := by simp [wantR, h]
theorem afterR_len (f : Int) (E : List (Int × Int)) : (afterR f E).length ≤ E.length := List.length_filter_le _ _

/-- The keys in these slots ascend. -/
def AscS (W : Nat → Int) (l : List Nat) : Prop := l.Pairwise fun a b => W (4 + a) < W (4 + b)
theorem afterR_drop (W : Nat → Int) (f : Int) : ∀ l, AscS W l → afterR f (entsW W l) = (entsW W l).drop (findIdx W f l) := by
  intro l
  induction l with
  | nil => intro _; simp [afterR, entsW, findIdx]
  | cons s l ih =>
    intro h
    obtain ⟨h1, h2⟩ := List.pairwise_cons.1 h
    by_cases hs : W (4 + s) < f
    · rw [show findIdx W f (s :: l) = findIdx W f l + 1 by simp [findIdx, hs]]
      have : afterR f (entsW W (s :: l)) = afterR f (entsW W l) := by simp [afterR, entsW, hs]
      rw [this, ih h2]; simp [entsW]
    · rw [show findIdx W f (s :: l) = 0 by simp [findIdx, hs], List.drop_zero]
      unfold afterR
      rw [List.filter_eq_self]
      intro e he
      simp only [entsW, List.map_cons, List.mem_cons, List.mem_map] at he
      rcases he with rfl | ⟨t, ht, rfl⟩
      · simp; omega
      · have := h1 t ht; simp; omega
theorem wantR_none (k : Int) : ∀ (E : List (Int × Int)) (s : Int × Bool), (∀ e ∈ E, e.1 ≠ k) → E.foldl (fun s e => if e.1 = k then (e.2, true) else s) s = s := by
  intro E
  induction E with
  | nil => intro s _; rfl
  | cons e E ih => intro s h; rw [List.foldl_cons, if_neg (h e (by simp)), ih s (fun x hx => h x (by simp [hx]))]
theorem wantR_get (W : Nat → Int) (k : Int) : ∀ l, AscS W l → wantR k (entsW W l) = if foundB W k l then (W (16 + l.getD (findIdx W k l) 0), true) else (0, false) := by
  intro l
  induction l with
  | nil => intro _; simp [wantR, entsW, foundB]
  | cons s l ih =>
    intro h
    obtain ⟨h1, h2⟩ := List.pairwise_cons.1 h
    by_cases hs : W (4 + s) < k
    · have e1 : findIdx W k (s :: l) = findIdx W k l + 1 := by simp [findIdx, hs]
      have e2 : foundB W k (s :: l) = foundB W k l := by unfold foundB; rw [e1]; rfl
      have e3 : wantR k (entsW W (s :: l)) = wantR k (entsW W l) := by
        unfold wantR entsW
        rw [List.map_cons, List.foldl_cons, if_neg (by simp; omega)]
      rw [e3, e2, e1, ih h2]; rfl
    · have e1 : findIdx W k (s :: l) = 0 := by simp [findIdx, hs]
      have hn : ∀ e ∈ entsW W l, e.1 ≠ k := by
        intro e he
        simp only [entsW, List.mem_map] at he
        obtain ⟨t, ht, rfl⟩ := he
        have := h1 t ht; simp; omega
      have e2 : foundB W k (s :: l) = (W (4 + s) == k) := by unfold foundB; rw [e1]; rfl
      rw [e2, e1]
      unfold wantR
      rw [show entsW W (s :: l) = (W (4 + s), W (16 + s)) :: entsW W l from rfl, List.foldl_cons, wantR_none k _ _ hn]
      by_cases hk : W (4 + s) = k
      · simp [hk]
      · simp [hk]
theorem getV_wantR (W : Nat → Int) (k : Int) (h : AscS W (slotsW W)) : getV W k = .tuple #[.int .u64 (wantR k (entsW W (slotsW W))).1, .int .i64 (if (wantR k (entsW W (slotsW W))).2 then 0 else 5)] := by
  rw [wantR_get W k _ h]
  unfold getV
  cases foundB W k (slotsW W) <;> simp
theorem IsNode.asc {n : NodeP} {W : Nat → Int} (h : IsNode W n) : AscS W (slotsW W) := by
  rw [h.slots]
  unfold AscS
  rw [List.pairwise_iff_getElem]
  intro i j hi hj hij
  rw [(h.entry i _ (List.getElem?_eq_getElem hi)).1, (h.entry j _ (List.getElem?_eq_getElem hj)).1]
  exact nKeys_asc n i j hij (by rw [← nSlots_len]; exact hj)
theorem keysOf_ents (W : Nat → Int) (l : List Nat) : keysOf W l = (entsW W l).map (·.1) := by simp [keysOf, entsW]
end Go.Proofs.YtgdcjedcinapdaaGreat

/- Programs on a device, plain: groups of stores, flushes and a fence; what the power leaves of them. No program in sight. -/
namespace Go.Proofs.YtgdcjedcinapdaaGreat
open Go.RowKit

/-- One instruction: its kind, its offset, its value. -/
def Dev.step (D : Dev) (j : Nat) (e : Nat × Nat × Int) : Dev := if e.1 = 1 then D.store j e.2.1 e.2.2 else if e.1 = 2 then D.flush j e.2.1 else D.fence j
def Dev.run (D : Dev) (j : Nat) (l : List (Nat × Nat × Int)) : Dev := l.foldl (fun D e => D.step j e) D
def instrOk (l : List (Nat × Nat × Int)) : Prop := ∀ e ∈ l, 1 ≤ e.1 ∧ e.1 ≤ 3 ∧ e.2.1 < 18446744073709551616
theorem Dev.run_snoc (D : Dev) (j : Nat) (l : List (Nat × Nat × Int)) (e : Nat × Nat × Int) : D.run j (l ++ [e]) = (D.run j l).step j e := by simp [Dev.run, List.foldl_append]
theorem Dev.run_append (D : Dev) (j : Nat) (l m : List (Nat × Nat × Int)) : D.run j (l ++ m) = (D.run j l).run j m := by simp [Dev.run, List.foldl_append]
theorem Dev.fail_exec (D : Dev) (j : Nat) (e : Int) : (D.fail j e).exec = D.exec := by unfold Dev.fail; split <;> rfl
theorem Dev.onD_exec (D : Dev) (j : Nat) (b : Bool) : (D.onD j b).exec = D.exec := by unfold Dev.onD; split <;> (try split) <;> simp [Dev.fail_exec]
theorem Dev.countedD_exec (D : Dev) (j : Nat) (b : Bool) : (D.countedD j b).exec ≤ D.exec + 1 := by
  unfold Dev.countedD
  split
  · split
    · rw [Dev.fail_exec]; exact Nat.le_succ _
    · simp [Dev.tick]
  · rw [Dev.onD_exec]; omega
theorem Dev.step_exec (D : Dev) (j : Nat) (e : Nat × Nat × Int) : (D.step j e).exec ≤ D.exec + 1 := by
  unfold Dev.step Dev.store Dev.flush Dev.fence
  repeat' split
  all_goals exact Dev.countedD_exec _ _ _
theorem Dev.run_exec (D : Dev) (j : Nat) (l : List (Nat × Nat × Int)) : (D.run j l).exec ≤ D.exec + l.length := by
  induction l generalizing D with
  | nil => simp [Dev.run]
  | cons e l ih => have h1 := ih (D.step j e); have h2 := D.step_exec j e; simp only [Dev.run, List.foldl_cons, List.length_cons] at *; omega

/-- The crash image in which the first ks l stores of line l have come through. -/
def Dev.img (D : Dev) (ks : Nat → Nat) (i : Nat) : Int := look ((D.hist (i / 8)).take (ks (i / 8))) (D.pers i) i
theorem look_other (l : List (Nat × Int)) (d : Int) (i : Nat) (h : ∀ e ∈ l, e.1 / 8 ≠ i) : look l d i = d := by
  induction l generalizing d with
  | nil => rfl
  | cons e l ih =>
    simp only [look, List.foldl_cons, if_neg (h e (List.mem_cons_self ..))]
    exact ih d (fun x hx => h x (List.mem_cons_of_mem _ hx))
/-- A word behind stores is what it was, or what one of them has put there. -/
theorem look_may (l : List (Nat × Int)) (d : Int) (i : Nat) : look l d i = d ∨ ∃ e ∈ l, e.1 / 8 = i ∧ look l d i = e.2 := by
  induction l generalizing d with
  | nil => exact .inl rfl
  | cons e l ih =>
    simp only [look, List.foldl_cons]
    by_cases h : e.1 / 8 = i
    · rw [if_pos h]
      rcases ih e.2 with h1 | ⟨x, hx, h2, h3⟩
      · exact .inr ⟨e, by simp, h, h1⟩
      · exact .inr ⟨x, by simp [hx], h2, h3⟩
    · rw [if_neg h]
      rcases ih d with h1 | ⟨x, hx, h2, h3⟩
      · exact .inl h1
      · exact .inr ⟨x, by simp [hx], h2, h3⟩
/-- Stores on other lines do not matter to a word. -/
theorem look_line (ws : List (Nat × Int)) (d : Int) (i : Nat) : look (ws.filter fun e => e.1 / 64 == i / 8) d i = look ws d i := by
  induction ws generalizing d with
  | nil => rfl
  | cons e l ih =>
    by_cases h : e.1 / 64 = i / 8
    · rw [List.filter_cons_of_pos (by simpa using h)]
      simp only [look, List.foldl_cons]; exact ih _
    · rw [List.filter_cons_of_neg (by simpa using h)]
      simp only [look, List.foldl_cons]
      rw [if_neg (by omega)]; exact ih d

/-- The values of a device are words. -/
structure Dev.VB (D : Dev) : Prop where
  pers : ∀ i, 0 ≤ D.pers i ∧ D.pers i < 18446744073709551616
  hist : ∀ l, ∀ e ∈ D.hist l, 0 ≤ e.2 ∧ e.2 < 18446744073709551616
theorem look_bd (l : List (Nat × Int)) (d : Int) (i : Nat) (hd : 0 ≤ d ∧ d < 18446744073709551616) (h : ∀ e ∈ l, 0 ≤ e.2 ∧ e.2 < 18446744073709551616) : 0 ≤ look l d i ∧ look l d i < 18446744073709551616 := by
  rcases look_may l d i with h1 | ⟨e, he, _, h1⟩
  · rw [h1]; exact hd
  · rw [h1]; exact h e he
theorem Dev.VB.cur {D : Dev} (h : D.VB) (i : Nat) : 0 ≤ D.cur i ∧ D.cur i < 18446744073709551616 := look_bd _ _ _ (h.pers i) (h.hist _)
theorem Dev.VB.img {D : Dev} (h : D.VB) (ks : Nat → Nat) (i : Nat) : 0 ≤ D.img ks i ∧ D.img ks i < 18446744073709551616 := look_bd _ _ _ (h.pers i) (fun e he => h.hist _ e (List.mem_of_mem_take he))
theorem Dev.VB.same {D D' : Dev} (h : D.VB) (h1 : D'.pers = D.pers) (h2 : D'.hist = D.hist) : D'.VB := ⟨by rw [h1]; exact h.pers, by rw [h2]; exact h.hist⟩
theorem Dev.countedD_same (D : Dev) (j : Nat) (b : Bool) : (D.countedD j b).pers = D.pers ∧ (D.countedD j b).hist = D.hist := by
  unfold Dev.countedD Dev.onD Dev.fail
  repeat' split
  all_goals exact ⟨rfl, rfl⟩
theorem Dev.VB.step {D : Dev} (h : D.VB) (j : Nat) (e : Nat × Nat × Int) (he : e.1 = 1 → 0 ≤ e.2.2 ∧ e.2.2 < 18446744073709551616) : (D.step j e).VB := by
  have hc := fun b => h.same (D.countedD_same j b).1 (D.countedD_same j b).2
  unfold Dev.step
  split
  · next h1 =>
    unfold Dev.store
    split
    · refine ⟨(hc _).pers, fun l x hx => ?_⟩
      have hx' : x ∈ (if l = e.2.1 / 64 then (D.countedD j (D.wordB e.2.1)).hist l ++ [(e.2.1, e.2.2)] else (D.countedD j (D.wordB e.2.1)).hist l) := hx
      split at hx'
      · rcases List.mem_append.1 hx' with h2 | h2
        · exact (hc _).hist l x h2
        · simp at h2; subst h2; exact he h1
      · exact (hc _).hist l x hx'
    · exact hc _
  · split
    · unfold Dev.flush
      split
      · exact (hc _).same rfl rfl
      · exact hc _
    · unfold Dev.fence
      split
      · refine ⟨fun i => look_bd _ _ _ ((hc _).pers i) (fun x hx => (hc _).hist _ x (List.mem_of_mem_take hx)), fun l x hx => (hc _).hist l x (List.mem_of_mem_drop hx)⟩
      · exact hc _
def valP (p : List (Nat × Nat × Int)) : Prop := ∀ e ∈ p, e.1 = 1 → 0 ≤ e.2.2 ∧ e.2.2 < 18446744073709551616
theorem Dev.VB.run (p : List (Nat × Nat × Int)) : ∀ {D : Dev}, D.VB → ∀ j, valP p → (D.run j p).VB := by
  induction p with
  | nil => intro D h _ _; exact h
  | cons e p ih => intro D h j hp; exact ih (h.step j e (hp e (by simp))) j (fun x hx => hp x (by simp [hx]))
/-- The persisted words are C; the stores ws have not been fenced. -/
structure Hst (D : Dev) (C : Nat → Int) (ws : List (Nat × Int)) : Prop where
  pers : ∀ i, D.pers i = C i
  hist : ∀ l, D.hist l = ws.filter fun e => e.1 / 64 == l
theorem Hst.cur {D : Dev} {C : Nat → Int} {ws : List (Nat × Int)} (h : Hst D C ws) (i : Nat) : D.cur i = look ws (C i) i := by
  unfold Dev.cur; rw [h.pers, h.hist, look_line]
/-- A word of a crash image is the persisted one or one of those that were stored. -/
theorem Hst.img {D : Dev} {C : Nat → Int} {ws : List (Nat × Int)} (h : Hst D C ws) (ks : Nat → Nat) (i : Nat) : D.img ks i = C i ∨ ∃ e ∈ ws, e.1 / 8 = i ∧ D.img ks i = e.2 := by
  unfold Dev.img
  rw [h.pers, h.hist]
  rcases look_may ((ws.filter fun e => e.1 / 64 == i / 8).take (ks (i / 8))) (C i) i with h1 | ⟨e, he, h2, h3⟩
  · exact .inl h1
  · exact .inr ⟨e, (List.mem_filter.1 (List.mem_of_mem_take he)).1, h2, h3⟩
theorem Hst.clean {D : Dev} {C : Nat → Int} (h : Hst D C []) (ks : Nat → Nat) (i : Nat) : D.img ks i = C i := by
  rcases h.img ks i with h | ⟨e, he, _⟩
  · exact h
  · simp at he
/-- A device that is on; thread j has no error. -/
structure OnJ (D : Dev) (j n : Nat) : Prop where
  n : D.n = n
  off : D.off = false
  err : D.err j = 0
/-- Within a group: ws is stored, the lines of fs are flushed. -/
structure Grp (D : Dev) (j n : Nat) (C : Nat → Int) (ws : List (Nat × Int)) (fs : List Nat) : Prop where
  on : OnJ D j n
  hst : Hst D C ws
  yes : ∀ o ∈ fs, D.note j (o / 64) = some (D.done (o / 64) + (D.hist (o / 64)).length)
  no : ∀ l, (∀ o ∈ fs, o / 64 ≠ l) → D.note j l = none
/-- So many instructions are left before the power fails. -/
def Dev.may (D : Dev) (k : Nat) : Prop := D.armed = false ∨ k ≤ D.left
theorem Dev.may.mono {D : Dev} {k m : Nat} (h : D.may m) (hk : k ≤ m) : D.may k := h.imp id (fun h => Nat.le_trans hk h)
section
variable {D : Dev} {j n : Nat} {C : Nat → Int} {ws : List (Nat × Int)} {fs : List Nat}
theorem counted_on (h : OnJ D j n) {k : Nat} (hm : D.may (k + 1)) : D.countedB true = true ∧ D.countedD j true = D.tick ∧ D.tick.may k ∧ OnJ D.tick j n := by
  have hc : D.cut = false := by
    unfold Dev.cut
    rcases hm with h1 | h1
    · simp [h1]
    · have : (D.left == 0) = false := by simp; omega
      simp [this]
  refine ⟨by simp [Dev.countedB, Dev.onB, h.off, hc], by simp [Dev.countedD, Dev.onB, h.off, hc], ?_, ⟨h.n, h.off, h.err⟩⟩
  rcases hm with h1 | h1
  · exact .inl h1
  · unfold Dev.may Dev.tick
    by_cases ha : D.armed = true
    · right; simp only [ha, if_true]; omega
    · left; simpa using ha
theorem Grp.tick (h : Grp D j n C ws fs) : Grp D.tick j n C ws fs := ⟨⟨h.on.n, h.on.off, h.on.err⟩, ⟨h.hst.pers, h.hst.hist⟩, h.yes, h.no⟩
theorem Grp.store (h : Grp D j n C ws []) {k : Nat} (hm : D.may (k + 1)) (off : Nat) (x : Int) (h8 : off % 8 = 0) (hl : off < 64 * n) : Grp (D.store j off x) j n C (ws ++ [(off, x)]) [] ∧ (D.store j off x).may k := by
  obtain ⟨h1, h2, h3, h4⟩ := counted_on h.on hm
  have hw : D.wordB off = true := by simp [Dev.wordB, h.on.n, h8, hl]
  have e : D.store j off x = D.tick.put off x := by unfold Dev.store; rw [hw, h1, h2]; rfl
  have t := h.tick
  rw [e]
  refine ⟨⟨⟨t.on.n, t.on.off, t.on.err⟩, ⟨t.hst.pers, fun l => ?_⟩, fun o ho => by simp at ho, t.no⟩, h3⟩
  show (if l = off / 64 then D.tick.hist l ++ [(off, x)] else D.tick.hist l) = _
  rw [List.filter_append, t.hst.hist]
  by_cases e : l = off / 64
  · rw [if_pos e]; subst e; simp
  · rw [if_neg e, List.filter_cons_of_neg (by simp; omega)]; simp
theorem Grp.flush (h : Grp D j n C ws fs) {k : Nat} (hm : D.may (k + 1)) (off : Nat) (hl : off < 64 * n) : Grp (D.flush j off) j n C ws (fs ++ [off]) ∧ (D.flush j off).may k := by
  obtain ⟨h1, h2, h3, h4⟩ := counted_on h.on hm
  have hw : D.inB off = true := by simp [Dev.inB, h.on.n, hl]
  have e : D.flush j off = D.tick.jot j (off / 64) := by unfold Dev.flush; rw [hw, h1, h2]; rfl
  have t := h.tick
  rw [e]
  refine ⟨⟨⟨t.on.n, t.on.off, t.on.err⟩, ⟨t.hst.pers, t.hst.hist⟩, fun o ho => ?_, fun l hl => ?_⟩, h3⟩
  · show (if j = j ∧ o / 64 = off / 64 then some (D.tick.done (off / 64) + (D.tick.hist (off / 64)).length) else D.tick.note j (o / 64)) = _
    by_cases e : o / 64 = off / 64
    · rw [if_pos ⟨rfl, e⟩, e]; rfl
    · rw [if_neg (fun h => e h.2)]
      rcases List.mem_append.1 ho with h' | h'
      · exact t.yes o h'
      · simp at h'; subst h'; exact absurd rfl e
  · show (if j = j ∧ l = off / 64 then some (D.tick.done (off / 64) + (D.tick.hist (off / 64)).length) else D.tick.note j l) = _
    rw [if_neg (fun h => hl off (by simp) h.2.symm)]
    exact t.no l (fun o ho => hl o (by simp [ho]))
theorem Grp.fence (h : Grp D j n C ws fs) {k : Nat} (hm : D.may (k + 1)) (hc : ∀ e ∈ ws, ∃ o ∈ fs, o / 64 = e.1 / 64) : Grp (D.fence j) j n (fun i => look ws (C i) i) [] [] ∧ (D.fence j).may k := by
  obtain ⟨h1, h2, h3, h4⟩ := counted_on h.on hm
  have e : D.fence j = D.tick.sync j := by unfold Dev.fence; rw [h1, h2]; rfl
  have t := h.tick
  have howed : ∀ l, D.tick.owed j l = (D.tick.hist l).length := fun l => by
    unfold Dev.owed
    by_cases hf : ∃ o ∈ fs, o / 64 = l
    · obtain ⟨o, ho, rfl⟩ := hf
      rw [t.yes o ho]; simp
    · have hf' : ∀ o ∈ fs, o / 64 ≠ l := fun o ho e => hf ⟨o, ho, e⟩
      rw [t.no l hf', t.hst.hist]
      have : ws.filter (fun e => e.1 / 64 == l) = [] := List.filter_eq_nil_iff.2 (fun e he => by
        obtain ⟨o, ho, e2⟩ := hc e he
        have := hf' o ho
        simp; omega)
      rw [this]; rfl
  rw [e]
  refine ⟨⟨⟨t.on.n, t.on.off, t.on.err⟩, ⟨fun i => ?_, fun l => ?_⟩, fun o ho => by simp at ho, fun l _ => ?_⟩, h3⟩
  · show look ((D.tick.hist (i / 8)).take (D.tick.owed j (i / 8))) (D.tick.pers i) i = _
    rw [howed, List.take_length, t.hst.pers, t.hst.hist, look_line]
  · show (D.tick.hist l).drop (D.tick.owed j l) = _
    rw [howed, List.drop_length]; rfl
  · show (if j = j then none else D.tick.note j l) = none
    simp

/-- A group: stores, flushes of their lines (and perhaps of others), a fence. -/
def groupP (g : List (Nat × Int) × List Nat) : List (Nat × Nat × Int) := (g.1.map fun e => (1, e.1, e.2)) ++ (g.2.map fun o => (2, o, 0)) ++ [(3, 0, 0)]
def groupOk (n : Nat) (g : List (Nat × Int) × List Nat) : Prop := (∀ e ∈ g.1, e.1 % 8 = 0 ∧ e.1 < 64 * n ∧ ∃ o ∈ g.2, o / 64 = e.1 / 64) ∧ ∀ o ∈ g.2, o < 64 * n
def groupsP (gs : List (List (Nat × Int) × List Nat)) : List (Nat × Nat × Int) := gs.flatMap groupP
/-- The words behind whole groups. -/
def laidG (C : Nat → Int) (gs : List (List (Nat × Int) × List Nat)) : Nat → Int := gs.foldl (fun C g i => look g.1 (C i) i) C
theorem laidG_nil (C : Nat → Int) : laidG C [] = C := rfl
theorem laidG_cons (C : Nat → Int) (g : List (Nat × Int) × List Nat) (gs : List (List (Nat × Int) × List Nat)) : laidG C (g :: gs) = laidG (fun i => look g.1 (C i) i) gs := rfl
theorem groupP_length (g : List (Nat × Int) × List Nat) : (groupP g).length = g.1.length + g.2.length + 1 := by simp [groupP]; omega
theorem run_stores (l : List (Nat × Int)) : ∀ {D : Dev} {ws : List (Nat × Int)} {k : Nat}, Grp D j n C ws [] → D.may (l.length + k) → (∀ e ∈ l, e.1 % 8 = 0 ∧ e.1 < 64 * n) →
    Grp (D.run j (l.map fun e => (1, e.1, e.2))) j n C (ws ++ l) [] ∧ (D.run j (l.map fun e => (1, e.1, e.2))).may k := by
  induction l with
  | nil => intro D ws k h hm _; exact ⟨by simpa [Dev.run] using h, by simpa [Dev.run] using hm⟩
  | cons e l ih =>
    intro D ws k h hm hl
    obtain ⟨h1, h2⟩ := h.store (k := l.length + k) (by simp at hm; exact hm.mono (by omega)) e.1 e.2 (hl e (by simp)).1 (hl e (by simp)).2
    have := ih h1 h2 (fun x hx => hl x (by simp [hx]))
    simp only [List.append_assoc, List.singleton_append] at this
    exact this
theorem run_flushes (l : List Nat) : ∀ {D : Dev} {fs : List Nat} {k : Nat}, Grp D j n C ws fs → D.may (l.length + k) → (∀ o ∈ l, o < 64 * n) →
    Grp (D.run j (l.map fun o => (2, o, 0))) j n C ws (fs ++ l) ∧ (D.run j (l.map fun o => (2, o, 0))).may k := by
  induction l with
  | nil => intro D fs k h hm _; exact ⟨by simpa [Dev.run] using h, by simpa [Dev.run] using hm⟩
  | cons e l ih =>
    intro D fs k h hm hl
    obtain ⟨h1, h2⟩ := h.flush (k := l.length + k) (by simp at hm; exact hm.mono (by omega)) e (hl e (by simp))
    have := ih h1 h2 (fun x hx => hl x (by simp [hx]))
    simp only [List.append_assoc, List.singleton_append] at this
    exact this
/-- A part of a group. -/
theorem run_part (g : List (Nat × Int) × List Nat) (h : Grp D j n C [] []) (hg : groupOk n g) (k : Nat) (hk : k < (groupP g).length) (hm : D.may k) :
    ∃ ws fs, ws <+: g.1 ∧ Grp (D.run j ((groupP g).take k)) j n C ws fs := by
  rw [groupP_length] at hk
  have hs : ∀ e ∈ g.1, e.1 % 8 = 0 ∧ e.1 < 64 * n := fun e he => ⟨(hg.1 e he).1, (hg.1 e he).2.1⟩
  by_cases h1 : k ≤ g.1.length
  · have e : (groupP g).take k = (g.1.take k).map fun e => (1, e.1, e.2) := by
      unfold groupP
      rw [List.append_assoc, List.take_append_of_le_length (by simpa using h1), List.map_take]
    have hl : (g.1.take k).length = k := by rw [List.length_take]; omega
    obtain ⟨h2, _⟩ := run_stores (k := 0) (g.1.take k) h (by rw [hl]; exact hm) (fun e he => hs e (List.mem_of_mem_take he))
    rw [e]
    exact ⟨g.1.take k, [], List.take_prefix _ _, by simpa using h2⟩
  · have e : (groupP g).take k = (g.1.map fun e => (1, e.1, e.2)) ++ (g.2.take (k - g.1.length)).map fun o => (2, o, 0) := by
      unfold groupP
      rw [List.append_assoc, List.take_append, List.take_of_length_le (by simp; omega), List.length_map, List.take_append_of_le_length (by simp; omega), List.map_take]
    obtain ⟨h2, h3⟩ := run_stores (k := k - g.1.length) g.1 h (hm.mono (by omega)) hs
    have hl : (g.2.take (k - g.1.length)).length = k - g.1.length := by rw [List.length_take]; omega
    obtain ⟨h4, _⟩ := run_flushes (k := 0) (g.2.take (k - g.1.length)) h2 (by rw [hl]; exact h3) (fun o ho => hg.2 o (List.mem_of_mem_take ho))
    rw [e, Dev.run_append]
    exact ⟨g.1, _, List.prefix_refl _, by simpa using h4⟩
/-- A whole group. -/
theorem run_whole (g : List (Nat × Int) × List Nat) (h : Grp D j n C [] []) (hg : groupOk n g) (k : Nat) (hm : D.may ((groupP g).length + k)) :
    Grp (D.run j (groupP g)) j n (fun i => look g.1 (C i) i) [] [] ∧ (D.run j (groupP g)).may k := by
  rw [groupP_length] at hm
  obtain ⟨h2, h3⟩ := run_stores (k := g.2.length + 1 + k) g.1 h (hm.mono (by omega)) (fun e he => ⟨(hg.1 e he).1, (hg.1 e he).2.1⟩)
  obtain ⟨h4, h5⟩ := run_flushes (k := 1 + k) g.2 h2 (h3.mono (by omega)) hg.2
  obtain ⟨h6, h7⟩ := h4.fence (k := k) (h5.mono (by omega)) (fun e he => by
    obtain ⟨o, ho, e2⟩ := (hg.1 e (by simpa using he)).2.2
    exact ⟨o, by simpa using ho, e2⟩)
  have e : D.run j (groupP g) = ((D.run j (g.1.map fun e => (1, e.1, e.2))).run j (g.2.map fun o => (2, o, 0))).fence j := by
    unfold groupP
    rw [Dev.run_snoc, Dev.run_append]; rfl
  rw [e]
  exact ⟨by simpa using h6, h7⟩
/-- How far a program of groups has come: a groups are whole, of the next one the stores ws. -/
structure Far (D : Dev) (j n : Nat) (C : Nat → Int) (gs : List (List (Nat × Int) × List Nat)) (a : Nat) (ws : List (Nat × Int)) : Prop where
  le : a ≤ gs.length
  pre : ∃ t, (gs[a]?.map (·.1)).getD [] = ws ++ t
  grp : ∃ fs, Grp D j n (laidG C (gs.take a)) ws fs
theorem run_far (gs : List (List (Nat × Int) × List Nat)) : ∀ {D : Dev} {C : Nat → Int} (k : Nat), Grp D j n C [] [] → (∀ g ∈ gs, groupOk n g) → k ≤ (groupsP gs).length → D.may k → ∃ a ws, Far (D.run j ((groupsP gs).take k)) j n C gs a ws ∧
    (k = (groupsP gs).length → a = gs.length ∧ ws = [] ∧ Grp (D.run j ((groupsP gs).take k)) j n (laidG C gs) [] []) := by
  induction gs with
  | nil =>
    intro D C k h _ hk _
    have : k = 0 := by simpa [groupsP] using hk
    subst this
    exact ⟨0, [], ⟨Nat.le_refl _, ⟨[], rfl⟩, ⟨[], h⟩⟩, fun _ => ⟨rfl, rfl, h⟩⟩
  | cons g gs ih =>
    intro D C k h hg hk hm
    have hgl : groupsP (g :: gs) = groupP g ++ groupsP gs := by simp [groupsP]
    rw [hgl] at hk ⊢
    rw [List.length_append] at hk
    by_cases h1 : k < (groupP g).length
    · rw [List.take_append_of_le_length (by omega)]
      obtain ⟨ws, fs, ⟨t, ht⟩, hG⟩ := run_part g h (hg g (by simp)) k h1 hm
      exact ⟨0, ws, ⟨Nat.zero_le _, ⟨t, by simp [ht]⟩, ⟨fs, hG⟩⟩, fun e => by rw [List.length_append] at e; omega⟩
    · rw [List.take_append, List.take_of_length_le (by omega), Dev.run_append]
      obtain ⟨h2, h3⟩ := run_whole g h (hg g (by simp)) (k - (groupP g).length) (hm.mono (by omega))
      obtain ⟨a, ws, hF, hE⟩ := ih (k - (groupP g).length) h2 (fun x hx => hg x (by simp [hx])) (by omega) h3
      refine ⟨a + 1, ws, ⟨by have := hF.le; simp; omega, by simpa using hF.pre, ?_⟩, fun e => ?_⟩
      · obtain ⟨fs, hG⟩ := hF.grp
        exact ⟨fs, by simpa [laidG_cons] using hG⟩
      · obtain ⟨e1, e2, e3⟩ := hE (by rw [List.length_append] at e; omega)
        exact ⟨by simp [e1], e2, by rw [laidG_cons]; exact e3⟩

/-- Instructions that are valid on n lines. -/
def okP (n : Nat) (p : List (Nat × Nat × Int)) : Prop := ∀ e ∈ p, (e.1 = 1 ∧ e.2.1 % 8 = 0 ∧ e.2.1 < 64 * n) ∨ (e.1 = 2 ∧ e.2.1 < 64 * n) ∨ e.1 = 3
theorem okP_groups {gs : List (List (Nat × Int) × List Nat)} (h : ∀ g ∈ gs, groupOk n g) : okP n (groupsP gs) := by
  intro e he
  obtain ⟨g, hg, he⟩ := List.mem_flatMap.1 he
  have hk := h g hg
  unfold groupP at he
  rcases List.mem_append.1 he with he | he
  · rcases List.mem_append.1 he with he | he
    · obtain ⟨x, hx, rfl⟩ := List.mem_map.1 he
      exact .inl ⟨rfl, (hk.1 x hx).1, (hk.1 x hx).2.1⟩
    · obtain ⟨x, hx, rfl⟩ := List.mem_map.1 he
      exact .inr (.inl ⟨rfl, hk.2 x hx⟩)
  · simp at he; subst he; exact .inr (.inr rfl)
/-- A valid instruction is one of three that count. -/
theorem step_valid (hn : D.n = n) {e : Nat × Nat × Int} (he : (e.1 = 1 ∧ e.2.1 % 8 = 0 ∧ e.2.1 < 64 * n) ∨ (e.1 = 2 ∧ e.2.1 < 64 * n) ∨ e.1 = 3) :
    D.step j e = if D.countedB true then (if e.1 = 1 then (D.countedD j true).put e.2.1 e.2.2 else if e.1 = 2 then (D.countedD j true).jot j (e.2.1 / 64) else (D.countedD j true).sync j) else D.countedD j true := by
  unfold Dev.step Dev.store Dev.flush Dev.fence
  rcases he with ⟨h1, h2, h3⟩ | ⟨h1, h3⟩ | h1
  · have hw : D.wordB e.2.1 = true := by simp [Dev.wordB, hn, h2, h3]
    simp [h1, hw]
  · have hw : D.inB e.2.1 = true := by simp [Dev.inB, hn, h3]
    simp [h1, hw]
  · simp [h1]
theorem step_left (h : OnJ D j n) {k : Nat} (hm : D.may (k + 1)) {e : Nat × Nat × Int} (he : (e.1 = 1 ∧ e.2.1 % 8 = 0 ∧ e.2.1 < 64 * n) ∨ (e.1 = 2 ∧ e.2.1 < 64 * n) ∨ e.1 = 3) :
    OnJ (D.step j e) j n ∧ (D.step j e).armed = D.armed ∧ (D.step j e).left = (if D.armed then D.left - 1 else D.left) := by
  obtain ⟨h1, h2, h3, h4⟩ := counted_on h hm
  rw [step_valid h.n he, h1, h2, if_pos rfl]
  split
  · exact ⟨⟨h.n, h.off, h.err⟩, rfl, rfl⟩
  · split
    · exact ⟨⟨h.n, h.off, h.err⟩, rfl, rfl⟩
    · exact ⟨⟨h.n, h.off, h.err⟩, rfl, rfl⟩
theorem run_left (p : List (Nat × Nat × Int)) : ∀ {D : Dev}, OnJ D j n → D.armed = true → p.length ≤ D.left → okP n p → OnJ (D.run j p) j n ∧ (D.run j p).armed = true ∧ (D.run j p).left = D.left - p.length := by
  induction p with
  | nil => intro D h ha _ _; exact ⟨h, ha, by simp [Dev.run]⟩
  | cons e p ih =>
    intro D h ha hl hp
    have hl' : p.length + 1 ≤ D.left := hl
    obtain ⟨h1, h2, h3⟩ := step_left h (k := 0) (.inr (by omega)) (hp e (by simp))
    rw [ha] at h2 h3
    rw [if_pos rfl] at h3
    obtain ⟨h4, h5, h6⟩ := ih h1 h2 (by omega) (fun x hx => hp x (by simp [hx]))
    refine ⟨h4, h5, ?_⟩
    show ((D.step j e).run j p).left = _
    rw [h6, h3]; simp; omega
/-- The power fails at this instruction. -/
theorem step_cut (h : OnJ D j n) (ha : D.armed = true) (hl : D.left = 0) {e : Nat × Nat × Int} (he : (e.1 = 1 ∧ e.2.1 % 8 = 0 ∧ e.2.1 < 64 * n) ∨ (e.1 = 2 ∧ e.2.1 < 64 * n) ∨ e.1 = 3) :
    D.step j e = ({ D with off := true } : Dev).setErr j 3 := by
  have hc : D.cut = true := by simp [Dev.cut, ha, hl]
  have hb : D.countedB true = false := by simp [Dev.countedB, hc]
  have hd : D.countedD j true = ({ D with off := true } : Dev).setErr j 3 := by
    simp [Dev.countedD, Dev.onB, h.off, hc, Dev.fail, h.err]
  rw [step_valid h.n he, hb, hd]; rfl
theorem step_off (hoff : D.off = true) (he3 : D.err j ≠ 0) (hn : D.n = n) {e : Nat × Nat × Int} (he : (e.1 = 1 ∧ e.2.1 % 8 = 0 ∧ e.2.1 < 64 * n) ∨ (e.1 = 2 ∧ e.2.1 < 64 * n) ∨ e.1 = 3) : D.step j e = D := by
  have hb : D.countedB true = false := by simp [Dev.countedB, Dev.onB, hoff]
  have hd : D.countedD j true = D := by simp [Dev.countedD, Dev.onB, hoff, Dev.onD, Dev.fail, he3]
  rw [step_valid hn he, hb, hd]; rfl
theorem run_off (p : List (Nat × Nat × Int)) (hoff : D.off = true) (he3 : D.err j ≠ 0) (hn : D.n = n) (hp : okP n p) : D.run j p = D := by
  induction p with
  | nil => rfl
  | cons e p ih =>
    show (D.step j e).run j p = D
    rw [step_off hoff he3 hn (hp e (by simp))]
    exact ih (fun x hx => hp x (by simp [hx]))
/-- What a program of groups leaves, wherever the power fails. -/
inductive Came (D D' : Dev) (j n : Nat) (C : Nat → Int) (gs : List (List (Nat × Int) × List Nat)) : Prop where
  | all (on : Grp D' j n (laidG C gs) [] []) (armed : D'.armed = D.armed) (left : D'.left = if D.armed then D.left - (groupsP gs).length else D.left) : Came D D' j n C gs
  | cut (off : D'.off = true) (err : D'.err j = 3) (hn : D'.n = n) (a : Nat) (ws : List (Nat × Int)) (le : a ≤ gs.length) (pre : ∃ t, (gs[a]?.map (·.1)).getD [] = ws ++ t) (hst : Hst D' (laidG C (gs.take a)) ws)
      (armed : D.armed = true) (left : D.left < (groupsP gs).length) : Came D D' j n C gs
theorem run_unarmed (p : List (Nat × Nat × Int)) : ∀ {D : Dev}, OnJ D j n → D.armed = false → okP n p → (D.run j p).armed = false ∧ (D.run j p).left = D.left := by
  induction p with
  | nil => intro D _ ha _; exact ⟨ha, rfl⟩
  | cons e p ih =>
    intro D h ha hp
    obtain ⟨h1, h2, h3⟩ := step_left h (k := 0) (.inl ha) (hp e (by simp))
    rw [ha] at h2 h3
    obtain ⟨h4, h5⟩ := ih h1 h2 (fun x hx => hp x (by simp [hx]))
    exact ⟨h4, h5.trans h3⟩
theorem run_came {gs : List (List (Nat × Int) × List Nat)} (h : Grp D j n C [] []) (hg : ∀ g ∈ gs, groupOk n g) : Came D (D.run j (groupsP gs)) j n C gs := by
  have hok := okP_groups hg
  by_cases hm : D.may (groupsP gs).length
  · obtain ⟨a, ws, _, hE⟩ := run_far gs (groupsP gs).length h hg (Nat.le_refl _) hm
    have := (hE rfl).2.2
    rw [List.take_length] at this
    rcases hm with h1 | h1
    · obtain ⟨h2, h3⟩ := run_unarmed _ h.on h1 hok
      exact .all this (by rw [h2, h1]) (by rw [h3, h1]; rfl)
    · by_cases ha : D.armed = true
      · obtain ⟨_, h2, h3⟩ := run_left _ h.on ha h1 hok
        exact .all this (by rw [h2, ha]) (by rw [h3, ha]; rfl)
      · have ha' : D.armed = false := by simpa using ha
        obtain ⟨h2, h3⟩ := run_unarmed _ h.on ha' hok
        exact .all this (by rw [h2, ha']) (by rw [h3, ha']; rfl)
  · have ha : D.armed = true := by
      cases e : D.armed
      · exact absurd (.inl e) hm
      · rfl
    have hl : D.left < (groupsP gs).length := Nat.lt_of_not_le (fun h => hm (.inr h))
    obtain ⟨a, ws, hF, _⟩ := run_far gs D.left h hg (by omega) (.inr (Nat.le_refl _))
    have htl : ((groupsP gs).take D.left).length = D.left := by rw [List.length_take]; omega
    obtain ⟨h1, h2, h3⟩ := run_left ((groupsP gs).take D.left) h.on ha (by omega) (fun e he => hok e (List.mem_of_mem_take he))
    obtain ⟨fs, hG⟩ := hF.grp
    generalize hD1 : D.run j ((groupsP gs).take D.left) = D1 at *
    obtain ⟨e, rest, hr⟩ : ∃ e rest, (groupsP gs).drop D.left = e :: rest := by
      cases hd : (groupsP gs).drop D.left with
      | nil => have := congrArg List.length hd; simp at this; omega
      | cons e rest => exact ⟨e, rest, rfl⟩
    have hmem : ∀ x ∈ e :: rest, (x.1 = 1 ∧ x.2.1 % 8 = 0 ∧ x.2.1 < 64 * n) ∨ (x.1 = 2 ∧ x.2.1 < 64 * n) ∨ x.1 = 3 := fun x hx => hok x (List.mem_of_mem_drop (by rw [hr]; exact hx))
    have hrun : D.run j (groupsP gs) = ({ D1 with off := true } : Dev).setErr j 3 := by
      rw [← List.take_append_drop D.left (groupsP gs), Dev.run_append, hD1, hr]
      show (D1.step j e).run j rest = _
      rw [step_cut h1 h2 (by rw [h3, htl]; omega) (hmem e (by simp))]
      exact run_off rest rfl (by simp [Dev.setErr]) h1.n (fun x hx => hmem x (by simp [hx]))
    rw [hrun]
    exact .cut rfl (by simp [Dev.setErr]) h1.n a ws hF.le hF.pre ⟨hG.hst.pers, hG.hst.hist⟩ ha hl
end
end Go.Proofs.YtgdcjedcinapdaaGreat

/- Programs of instructions: execute, valid, Run, over any device. -/
namespace Go.Proofs.YtgdcjedcinapdaaGreat
open Go.RowKit

theorem instrC_get (l : List (Nat × Nat × Int)) : ∀ (k : Nat) (e : Nat × Nat × Int), l[k]? = some e → (instrC l)[k * 3]? = some (.int .u8 e.1) ∧ (instrC l)[k * 3 + 1]? = some (.int .u64 e.2.1) ∧ (instrC l)[k * 3 + 2]? = some (.int .u64 e.2.2) := by
  induction l with
  | nil => intro k e h; simp at h
  | cons x l ih =>
    intro k e he
    have hf : instrC (x :: l) = .int .u8 x.1 :: .int .u64 x.2.1 :: .int .u64 x.2.2 :: instrC l := rfl
    cases k with
    | zero => simp at he; subst he; simp [hf]
    | succ k =>
      have := ih k e (by simpa using he)
      rw [hf, show (k + 1) * 3 = k * 3 + 1 + 1 + 1 from by omega]
      simpa using this
theorem take_snocI (l : List (Nat × Nat × Int)) (k : Nat) (e : Nat × Nat × Int) (h : l[k]? = some e) : l.take (k + 1) = l.take k ++ [e] := by rw [List.take_add_one, h]; rfl

section
variable {w : World} {v : DV} {own : Nat → Option Role} {D : Dev} {j : Nat}
theorem DPost.start {w1 : World} {D' : Dev} (o : Obj) (h : DPost v own (w.alloc o) D' w1) : DPost v own w D' w1 := by
  obtain ⟨own', h1, h2, h3⟩ := h
  exact ⟨own', h1, fun k hk => h2 k (by simp; omega), ((Upd.refl _ w).alloc o).trans h3 (fun _ _ h => h)⟩
set_option maxRecDepth 100000 in
set_option maxHeartbeats 1000000 in
theorem execute_any (h : IsDev w v own D) (hj : j < 8) (e : Nat × Nat × Int) (h1 : 1 ≤ e.1) (h3 : e.1 ≤ 3) (ho : e.2.1 < 18446744073709551616) (hx : D.exec < 4294967296) :
    Calls Tryz.prog 84 #[.agg #[.int .u8 e.1, .int .u64 e.2.1, .int .u64 e.2.2], .iface 76 (.pointer (some ⟨v.tb j, 0, none⟩))] w fun r w' => r = .returned (.tuple #[]) ∧ DPost v own w (D.step j e) w' := by
  obtain ⟨op, off, x⟩ := e
  have hm1 := meth_Store ⟨v.tb j, 0, none⟩; have hm2 := meth_Flush ⟨v.tb j, 0, none⟩; have hm3 := meth_Fence ⟨v.tb j, 0, none⟩
  have HS := Lib.hid (fun o => store_any (h.alloc o) hj off x hx)
  have HF := Lib.hid (fun o => flush_any (h.alloc o) hj off ho hx)
  have HN := Lib.hid (fun o => fence_any (h.alloc o) hj hx)
  clear h
  simp only at h1 h3 ho ⊢
  obtain rfl | rfl | rfl : op = 1 ∨ op = 2 ∨ op = 3 := by omega
  · go_enter Tryz.func84, Tryz.ntmps84
    go_wp2_with fail
    (with_reducible refine (HS.out _).mono ?_)
    rintro e w1 ⟨rfl, hp⟩
    have HP := Lib.hid hp; clear hp
    go_wp2_with fail
    go_end0
    exact ⟨rfl, HP.out.start⟩
  · go_enter Tryz.func84, Tryz.ntmps84
    go_wp2_with fail
    (with_reducible refine (HF.out _).mono ?_)
    rintro e w1 ⟨rfl, hp⟩
    have HP := Lib.hid hp; clear hp
    go_wp2_with fail
    go_end0
    exact ⟨rfl, HP.out.start⟩
  · go_enter Tryz.func84, Tryz.ntmps84
    go_wp2_with fail
    (with_reducible refine (HN.out _).mono ?_)
    rintro e w1 ⟨rfl, hp⟩
    have HP := Lib.hid hp; clear hp
    go_wp2_with fail
    go_end0
    exact ⟨rfl, HP.out.start⟩

set_option maxRecDepth 100000 in
set_option maxHeartbeats 1000000 in
theorem mvalid_any (pv : Value) (l : List (Nat × Nat × Int)) (hp : RdSl w 3 pv l.length (instrC l)) (hi : instrOk l) (hl : l.length ≤ 100000) :
    Calls Tryz.prog 83 #[pv] w fun r w' => r = .returned (.bool true) ∧ Below w.heap.size w w' := by
  have H := Lib.hid hp; have HI := Lib.hid hi; clear hi
  obtain ⟨_, a, c, rfl, hc, _⟩ := hp
  generalize hn : l.length = n at *
  have HN := Lib.hid hn; clear hn
  go_enter Tryz.func83, Tryz.ntmps83
  go_wp2_with fail
  go_loopw [7] (fun y wr => ∃ k : Nat, k ≤ n ∧ y = .int .i64 k ∧ Below w.heap.size w wr) (fun y _ => n - (intOf y).toNat)
  case atStart => exact ⟨0, by omega, rfl, Below.refl _ _⟩
  case round =>
    obtain ⟨k, hk, rfl, hb⟩ := hrel
    have HB := Lib.hid hb; clear hb
    by_cases hlt : k < n
    · have hk' : (k : Int) < n := by omega
      obtain ⟨e, he⟩ : ∃ e, l[k]? = some e := ⟨_, List.getElem?_eq_getElem (by rw [HN.out]; exact hlt)⟩
      obtain ⟨_, a', c', e', _, hE⟩ := H.out.below HB.out
      cases e'
      have hg := instrC_get l k e he
      obtain ⟨eb, eo, rfl, hE2⟩ := rd_at hE hg.1
      have c1 := hE2 _ _ hg.1; have c2 := hE2 _ _ hg.2.1; have c3 := hE2 _ _ hg.2.2
      rw [← Nat.add_assoc] at c2 c3
      obtain ⟨i1, i2, _⟩ := HI.out e (List.mem_of_getElem? he)
      clear hE hE2 he hg
      obtain ⟨op, off, x⟩ := e
      simp only at c1 c2 c3 i1 i2
      have i1' : ¬ (op : Int) < 1 := by omega
      have i2' : ¬ (3 : Int) < (op : Int) := by omega
      go_wp2_with fail
      go_roundw
      case rel => exact ⟨k + 1, by omega, by go_num, HB.out.trans ((below_alloc wr _).mono HB.out.size)⟩
      case measure => simp [intOf]; omega
    · go_wp2_with fail
      go_ret
      exact ⟨rfl, HB.out⟩

/-- The state of Run: k instructions are executed. -/
structure RunSt (w : World) (v : DV) (own : Nat → Option Role) (D : Dev) (j : Nat) (l : List (Nat × Nat × Int)) (k : Nat) (wr : World) : Prop where
  post : DPost v own w (D.run j (l.take k)) wr
theorem DPost.next {own1 : Nat → Option Role} {D2 : Dev} {w1 w2 : World} (ho : ∀ k, k < w.heap.size → own1 k = own k) (hu : Upd (fun k => own k ≠ none) w w1) (h : DPost v own1 w1 D2 w2) : DPost v own w D2 w2 := DPost.trans hu.size ho hu h
set_option maxRecDepth 100000 in
set_option maxHeartbeats 2000000 in
theorem run_any (h : IsDev w v own D) (hj : j < 8) (pv : Value) (l : List (Nat × Nat × Int)) (hp : RdSl w 3 pv l.length (instrC l)) (hown : ∀ k, pv.ownBlock = some k → own k = none) (hi : instrOk l) (hl : l.length ≤ 100000) (hx : D.exec + l.length < 4294967296) :
    Calls Tryz.prog 33 #[pv, .iface 76 (.pointer (some ⟨v.tb j, 0, none⟩))] w fun r w' => r = .returned (.int .i64 ((D.run j l).err j)) ∧ DPost v own w (D.run j l) w' := by
  have HV := Lib.hid (mvalid_any pv l hp hi hl)
  have HP := Lib.hid hp; have HI := Lib.hid hi; have HO := Lib.hid hown; have H := Lib.hid h; clear h hi hown
  have hm2 := meth_Err ⟨v.tb j, 0, none⟩
  obtain ⟨_, a, c, rfl, hc, _⟩ := hp
  generalize hn : l.length = n at *
  have HN := Lib.hid hn; clear hn
  go_enter Tryz.func33, Tryz.ntmps33
  go_wp2_with fail
  (with_reducible refine HV.out.mono ?_)
  rintro e w1 ⟨rfl, b1⟩
  have R1 : Hid (RunSt w v own D j l 0 w1) := ⟨⟨own, H.out.kept b1.size (fun k hk => b1.block k (H.out.lt k hk)), fun _ _ => rfl, Upd.of_below b1⟩⟩
  clear b1
  go_wp2_with fail
  go_loopw [16] (fun y wr => ∃ k : Nat, k ≤ n ∧ y = .int .i64 k ∧ RunSt w v own D j l k wr) (fun y _ => n - (intOf y).toNat)
  case atStart => exact ⟨0, by omega, rfl, R1.out⟩
  case round =>
    obtain ⟨k, hk, rfl, hr⟩ := hrel
    obtain ⟨own1, d1, o1, u1⟩ := hr.post
    have D1 := Lib.hid d1; have O1 := Lib.hid o1; have U1 := Lib.hid u1; clear hr d1 o1 u1 R1
    by_cases hlt : k < n
    · have hk' : (k : Int) < n := by omega
      obtain ⟨e, he⟩ : ∃ e, l[k]? = some e := ⟨_, List.getElem?_eq_getElem (by rw [HN.out]; exact hlt)⟩
      obtain ⟨_, a', c', e', _, hE⟩ := HP.out.upd U1.out (fun k hk => by simpa using HO.out k hk)
      cases e'
      have hg := instrC_get l k e he
      obtain ⟨eb, eo, rfl, hE2⟩ := rd_at hE hg.1
      have c1 := hE2 _ _ hg.1; have c2 := hE2 _ _ hg.2.1; have c3 := hE2 _ _ hg.2.2
      rw [← Nat.add_assoc] at c2 c3
      obtain ⟨i1, i2, i3⟩ := HI.out e (List.mem_of_getElem? he)
      have hx1 : (D.run j (l.take k)).exec < 4294967296 := by
        have := D.run_exec j (l.take k); have h2 := List.length_take_le k l; omega
      have HT := Lib.hid (take_snocI l k e he)
      have HX := Lib.hid (fun o => execute_any (D1.out.alloc o) hj e i1 i2 i3 hx1)
      clear hE hE2 he hg hx1
      go_wp2_with fail
      (with_reducible refine (HX.out _).mono ?_)
      rintro e' w2 ⟨rfl, hp⟩
      have P2 : Hid (RunSt w v own D j l (k + 1) w2) := ⟨by rw [HT.out, Dev.run_snoc]; exact DPost.next O1.out U1.out hp.start⟩
      clear hp
      go_wp2_with fail
      go_roundw
      case rel => exact ⟨k + 1, by omega, by go_num, P2.out⟩
      case measure => simp [intOf]; omega
    · have HF : Hid (l.take k = l) := List.take_of_length_le (by rw [HN.out]; omega)
      rw [HF.out] at D1
      have HE := Lib.hid (err_any D1.out hj)
      go_wp2_with fail
      (with_reducible refine HE.out.mono ?_)
      rintro e w' ⟨rfl, rfl⟩
      go_wp2_with fail
      go_ret
      exact ⟨rfl, own1, D1.out, O1.out, U1.out⟩
end
end Go.Proofs.YtgdcjedcinapdaaGreat

/- The walk of PlanPut, all cases. -/
namespace Go.Proofs.YtgdcjedcinapdaaGreat
open Go.RowKit
attribute [local go_sem ↓] Go.wp_at_zero Go.wp_at_succ

section
variable {w : World} {v : DV} {own : Nat → Option Role} {D : Dev} {j p : Nat}
theorem PAt.nil (wc : World) : PAt wc [] (.slice none 0 0) wc := ⟨OwnSl.nil _ _ _, Below.refl _ _, fun g hg => by simp [Value.ownBlock] at hg⟩
/-- The content is read; its slots as a slice, entry idx of them being s. -/
structure PutSet (w : World) (v : DV) (j p cb : Nat) (W : Nat → Int) (sv : Value) (b o s : Nat) (wx : World) : Prop where
  at' : PutAt w v j p cb W wx
  h28 : wx.cell? ⟨cb, 28, none⟩ = some sv
  hs : wx.cell? ⟨b, o, none⟩ = some (.int .i64 (s : Nat))
theorem PutSet.next {cb b o s : Nat} {W : Nat → Int} {sv : Value} {w1 w2 : World} (h : PutSet w v j p cb W sv b o s w1) (hb : Below w1.heap.size w1 w2) : PutSet w v j p cb W sv b o s w2 :=
  ⟨h.at'.next hb, cell_bel hb h.h28, cell_bel hb h.hs⟩
theorem PutSet.cells {cb b o s : Nat} {W : Nat → Int} {sv : Value} {wx : World} (h : PutSet w v j p cb W sv b o s wx) :
    wx.cell? ⟨w.heap.size, 0, none⟩ = some (.iface 76 (.pointer (some ⟨v.tb j, 0, none⟩))) ∧ wx.cell? ⟨w.heap.size, 1, none⟩ = some (.int .u64 p) ∧ wx.cell? ⟨cb, 28, none⟩ = some sv ∧ wx.cell? ⟨b, o, none⟩ = some (.int .i64 (s : Nat)) := ⟨h.at'.l0, h.at'.l1, h.h28, h.hs⟩
theorem commitN {w8 : World} (off : Nat) (x : Int) : Calls Tryz.prog 67 #[.slice none 0 0, .int .u64 off, .int .u64 x] w8 fun r w9 => ∃ v9, r = .returned v9 ∧ PAt w8 (lastC off x) v9 w9 :=
  commitP (.slice none 0 0) [] off x (by simp) (PAt.nil w8)
theorem commitI {w8 : World} (o : Int) (off : Nat) (x : Int) (ho : o = (off : Nat)) : Calls Tryz.prog 67 #[.slice none 0 0, .int .u64 o, .int .u64 x] w8 fun r w9 => ∃ v9, r = .returned v9 ∧ PAt w8 (lastC off x) v9 w9 := by
  subst ho; exact commitN off x
theorem PAt.bel {w4 w9 : World} {l : List (Nat × Nat × Int)} {pv : Value} (h : PAt w4 l pv w9) : Below w4.heap.size w4 w9 := h.2.1

set_option maxRecDepth 100000 in
set_option maxHeartbeats 2000000 in
theorem planPut_any (h : NodeAt w v own D j p) (key value : Int) : Calls Tryz.prog 19 #[.agg #[.iface 76 (.pointer (some ⟨v.tb j, 0, none⟩)), .int .u64 p], .int .u64 key, .int .u64 value] w
    (PlanPost w (nodeW D p) (D.n * 64) (putP (nodeW D p) (ptrOff p) key value).1 (putP (nodeW D p) (ptrOff p) key value).2) := by
  by_cases hok : nodeOk (nodeW D p) (D.n * 64)
  case neg =>
    have hrd := (h.alloc (.cells #[.iface 76 (.pointer (some ⟨v.tb j, 0, none⟩)), .int .u64 p] 35)).read
    have HR := Lib.hid hrd; have HO := Lib.hid hok; clear hrd hok h
    go_enter Tryz.func19, Tryz.ntmps19
    go_wp2_with fail
    (with_reducible refine HR.out.mono ?_)
    rintro e w1 ⟨hb, ⟨hk, _⟩ | ⟨_, rfl⟩⟩
    · exact absurd hk HO.out
    · have HB := Lib.hid hb; clear hb HR
      go_wp2_with fail
      go_ret2
      exact ⟨below_of (Below.refl _ _) HB.out (Below.refl _ _), .inr ⟨HO.out, rfl⟩⟩
  case pos =>
  by_cases hnr : nodeW D p 3 = 1 ∧ nodeW D p 2 ≤ key
  · have hP : putP (nodeW D p) (ptrOff p) key value = ([], 2) := by unfold putP; rw [if_pos hnr]
    rw [hP]
    have hrd := (h.alloc (.cells #[.iface 76 (.pointer (some ⟨v.tb j, 0, none⟩)), .int .u64 p] 35)).read
    have HR := Lib.hid hrd; have HO := Lib.hid hok; clear hrd hok h hP
    generalize nodeW D p = W at *
    have e3 : (W 3 == 1) = true := by simp [hnr.1]
    have e2 : W 2 ≤ key := hnr.2
    clear hnr
    go_enter Tryz.func19, Tryz.ntmps19
    go_wp2_with fail
    (with_reducible refine HR.out.mono ?_)
    rintro e w1 ⟨hb, ⟨_, cb, rfl, hcb, hc⟩ | ⟨hbad, _⟩⟩
    · have HB := Lib.hid hb
      have c3 := hc.words 3 (by omega); have c2 := hc.words 2 (by omega)
      clear hb hc HR
      go_wp2_with fail
      go_ret2
      exact ⟨below_of (Below.refl _ _) HB.out (Below.refl _ _), .inl ⟨HO.out, nilProg _ _ _⟩⟩
    · exact absurd HO.out hbad
  · rcases hf : foundB (nodeW D p) key (slotsW (nodeW D p)) with _ | _
    · by_cases hlen : (slotsW (nodeW D p)).length = 12
      · have hP : putP (nodeW D p) (ptrOff p) key value = ([], 4) := by unfold putP; rw [if_neg hnr, if_neg (by simp [hf]), if_pos hlen]
        rw [hP]
        have hrd := (h.alloc (.cells #[.iface 76 (.pointer (some ⟨v.tb j, 0, none⟩)), .int .u64 p] 35)).read
        have HR := Lib.hid hrd; have HO := Lib.hid hok; have HNF := Lib.hid hf; clear hrd hok h hP hf
        generalize nodeW D p = W at *
        have hn12 : (((slotsW W).length : Int) == 12) = true := by simp; omega
        have hcase : (W 3 == 1) = true ∧ ¬ W 2 ≤ key ∨ (W 3 == 1) = false := by
          by_cases h : W 3 = 1
          · exact .inl ⟨by simp [h], fun h' => hnr ⟨h, h'⟩⟩
          · exact .inr (by simp [h])
        clear hnr
        go_enter Tryz.func19, Tryz.ntmps19
        go_wp2_with fail
        (with_reducible refine HR.out.mono ?_)
        rintro e w1 ⟨hb, ⟨_, cb, rfl, hcb, hc⟩ | ⟨hbad, _⟩⟩
        · have HB := Lib.hid hb; have HC : Hid (IsCont w1 cb W (slotsW W) ((W 0).toNat / 4503599627370496)) := hc
          have c3 := hc.words 3 (by omega); have c2 := hc.words 2 (by omega)
          clear hb hc HR
          rcases hcase with ⟨e3, e2⟩ | e3
          all_goals
            go_wp2_with fail
            (with_reducible refine (find_any HC.out key).mono ?_)
            rintro e w2 ⟨rfl, q2⟩
            rw [HNF.out]
            have HC2 := Lib.hid (HC.out.qt q2); have Q2 := Lib.hid q2.below
            clear e3 c3 c2 q2 HC
            obtain ⟨sv, c28, hsv⟩ := HC2.out.sl
            obtain ⟨sa, sc, rfl⟩ : ∃ a c, sv = .slice a (slotsW W).length c := by obtain ⟨_, a, c, e, _⟩ := hsv; exact ⟨a, c, e⟩
            clear hsv
            go_wp2_with fail
            go_ret2
            exact ⟨below_of (Below.refl _ _) HB.out Q2.out, .inl ⟨HO.out, nilProg _ _ _⟩⟩
        · exact absurd HO.out hbad
      · have hP : putP (nodeW D p) (ptrOff p) key value = (putNew (nodeW D p) (ptrOff p) key value (findIdx (nodeW D p) key (slotsW (nodeW D p))) (unusedN (slotsW (nodeW D p))), 0) := by unfold putP; rw [if_neg hnr, if_neg (by simp [hf]), if_neg hlen]
        rw [hP]
        have h12 : (slotsW (nodeW D p)).length ≤ 12 := by
          have := hok.1.1; simp only [slotsW, slotsN, List.length_map, List.length_range]; exact this
        refine (planPut_new h key value hok hnr hf (by omega)).mono ?_
        rintro r w' ⟨hb, hp⟩
        exact ⟨hb, .inl ⟨hok, hp⟩⟩
    · obtain ⟨s, hs, _⟩ := found_at _ _ _ hf
      have hP : putP (nodeW D p) (ptrOff p) key value = (lastC (ptrOff p + 8 * (16 + s)) value, 0) := by unfold putP; rw [if_neg hnr, if_pos hf]; simp [List.getD, hs]
      rw [hP]
      have hp := h.hp
      have hrd := (h.alloc (.cells #[.iface 76 (.pointer (some ⟨v.tb j, 0, none⟩)), .int .u64 p] 35)).read
      have HR := Lib.hid hrd; have HO := Lib.hid hok; have HNF := Lib.hid hf; have HS := Lib.hid hs; clear hrd hok h hP hf hs
      generalize nodeW D p = W at *
      have hcase : (W 3 == 1) = true ∧ ¬ W 2 ≤ key ∨ (W 3 == 1) = false := by
        by_cases h : W 3 = 1
        · exact .inl ⟨by simp [h], fun h' => hnr ⟨h, h'⟩⟩
        · exact .inr (by simp [h])
      clear hnr
      go_enter Tryz.func19, Tryz.ntmps19
      go_wp2_with fail
      (with_reducible refine HR.out.mono ?_)
      rintro e w1 ⟨hb, ⟨_, cb, rfl, hcb, hc⟩ | ⟨hbad, _⟩⟩
      · have HA : Hid (PutAt w v j p cb W w1) := ⟨hc, cell_bel hb ((Blk.new w _ 35).cell rfl), cell_bel hb ((Blk.new w _ 35).cell rfl), (below_alloc w _).trans (hb.mono (by simp)), by have := hb.size; simp at this; omega⟩
        have c3 := hc.words 3 (by omega); have c2 := hc.words 2 (by omega)
        clear hb hc HR
        rcases hcase with ⟨e3, e2⟩ | e3
        all_goals
          go_wp2_with fail
          (with_reducible refine (find_any HA.out.cont key).mono ?_)
          rintro e w2 ⟨rfl, q2⟩
          rw [HNF.out]
          have HA2 := Lib.hid (HA.out.next q2.below)
          clear e3 c3 c2 q2 HA
          generalize hid : findIdx W key (slotsW W) = idx at *
          clear hid
          have hs12 := HA2.out.cont.lt12 s (List.mem_of_getElem? HS.out)
          have hil : idx < (slotsW W).length := by
            rcases Nat.lt_or_ge idx (slotsW W).length with h | h
            · exact h
            · have := HS.out; rw [List.getElem?_eq_none h] at this; cases this
          obtain ⟨sv, c28, hsv⟩ := HA2.out.cont.sl
          have hv : (natsI (slotsW W))[idx]? = some (.int .i64 s) := by simp [natsI, HS.out]
          obtain ⟨_, a, c, rfl, hc, ha⟩ := hsv
          obtain ⟨sb, so, rfl, hcell⟩ := rd_at ha hv
          have P2 : Hid (PutSet w v j p cb W (.slice (some ⟨sb, so, none⟩) (slotsW W).length c) sb (so + idx) s w2) := ⟨HA2.out, c28, hcell _ _ hv⟩
          have b1 : (idx : Int) < (slotsW W).length := by omega
          have y2 : IntKind.i64.wrap (16 + (s : Int)) = 16 + (s : Int) := IntWalk.i64_in _ (by omega)
          have L16 := Lib.hid (fun wx => leafAt_int (w := wx) (v := v) (j := j) p 16 s 16 rfl hp hs12 (by omega))
          clear c28 ha hcell hv HA2 HS
          go_wp2_with fail
          go_region_held3 (fun wx => wx.cell? ⟨w.heap.size, 0, none⟩ = some (.iface 76 (.pointer (some ⟨v.tb j, 0, none⟩))) ∧ wx.cell? ⟨w.heap.size, 1, none⟩ = some (.int .u64 p) ∧ wx.cell? ⟨cb, 28, none⟩ = some (.slice (some ⟨sb, so, none⟩) (slotsW W).length c) ∧ wx.cell? ⟨sb, so + idx, none⟩ = some (.int .i64 (s : Nat))) (first | (with_reducible exact P4.out.cells) | (with_reducible exact P3.out.cells) | (with_reducible exact (P2.out.next ((Below.refl _ _).drew)).cells)) (first | (go_at_call 68; (with_reducible refine (L16.out _).mono ?_); rintro e w' ⟨rfl, rfl⟩; have P3 := Lib.hid (P2.out.next (below_alloc_drew w2 (.cells #[.iface 76 (.pointer (some ⟨v.tb j, 0, none⟩)), .int .u64 p] 35)))) | (go_at_call 67; (with_reducible refine (commitI _ (ptrOff p + 8 * (16 + s)) _ (by omega)).mono ?_); rintro e w4 ⟨v9, rfl, q4⟩; have P4 := Lib.hid (P3.out.next q4.bel); have Q4 := Lib.hid q4; clear q4))
          all_goals go_wp2_with fail
          all_goals go_ret2
          all_goals exact ⟨P4.out.at'.bel, .inl ⟨HO.out, (put_end P3.out.at'.bel Q4.out rfl).2⟩⟩
      · exact absurd HO.out hbad
end
end Go.Proofs.YtgdcjedcinapdaaGreat

/- The walk of PlanDelete. -/
namespace Go.Proofs.YtgdcjedcinapdaaGreat
open Go.RowKit
attribute [local go_sem ↓] Go.wp_at_zero Go.wp_at_succ

def delP (W : Nat → Int) (off : Nat) (key : Int) : List (Nat × Nat × Int) × Nat :=
  if foundB W key (slotsW W) then (lastC off (ordN ((slotsW W).take (findIdx W key (slotsW W)) ++ (slotsW W).drop (findIdx W key (slotsW W) + 1)) ((W 0).toNat / 4503599627370496 + 1) : Nat), 0) else ([], 5)

section
variable {w : World} {v : DV} {own : Nat → Option Role} {D : Dev} {j p : Nat}
/-- The slots without one of them, behind the world wc. -/
def DelAt (wc : World) (l : List Nat) (nv : Value) (wx : World) : Prop := OwnSl wx 3 1 nv l.length (natsI l) ∧ Below wc.heap.size wc wx
theorem del_end {wc wx : World} {slots : List Nat} {i : Nat} {nv : Value} (hi : i < slots.length) (h : OwnSl wx 3 1 nv (0 + i + (slots.length - (i + 1))) ([] ++ natsI (slots.take i) ++ natsI (slots.drop (i + 1)))) (hb : Below wc.heap.size wc wx) : DelAt wc (slots.take i ++ slots.drop (i + 1)) nv wx := by
  refine ⟨?_, hb⟩
  have e1 : (slots.take i ++ slots.drop (i + 1)).length = 0 + i + (slots.length - (i + 1)) := by simp; omega
  have e2 : natsI (slots.take i ++ slots.drop (i + 1)) = [] ++ natsI (slots.take i) ++ natsI (slots.drop (i + 1)) := by simp [natsI]
  rw [e1, e2]; exact h
theorem order_del {w : World} (nv : Value) (slots : List Nat) (i ch : Nat) (hl : slots.length ≤ 12) (h12 : ∀ s ∈ slots, s < 12) (hch : ch < 4096)
    (h : OwnSl w 3 1 nv (slots.take i ++ slots.drop (i + 1)).length (natsI (slots.take i ++ slots.drop (i + 1)))) :
    Calls Tryz.prog 71 #[nv, .int .u64 ((ch : Int) + 1)] w fun r w' => r = .returned (.int .u64 (ordN (slots.take i ++ slots.drop (i + 1)) (ch + 1) : Nat)) ∧ w = w' := by
  rw [show (ch : Int) + 1 = ((ch + 1 : Nat) : Int) by omega]
  refine order_any nv _ (ch + 1) h.rd (by simp; omega) (fun t ht => ?_) (by omega)
  rcases List.mem_append.1 ht with h1 | h1
  · have := h12 t (List.mem_of_mem_take h1); omega
  · have := h12 t (List.mem_of_mem_drop h1); omega

set_option maxRecDepth 100000 in
set_option maxHeartbeats 2000000 in
theorem planDelete_any (h : NodeAt w v own D j p) (key : Int) : Calls Tryz.prog 20 #[.agg #[.iface 76 (.pointer (some ⟨v.tb j, 0, none⟩)), .int .u64 p], .int .u64 key] w
    (PlanPost w (nodeW D p) (D.n * 64) (delP (nodeW D p) (ptrOff p) key).1 (delP (nodeW D p) (ptrOff p) key).2) := by
  have hp := h.hp
  have hrd := (h.alloc (.cells #[.iface 76 (.pointer (some ⟨v.tb j, 0, none⟩)), .int .u64 p] 35)).read
  have hx0 : (nodeW D p 0).toNat < 18446744073709551616 := by have := h.hW 0 (by omega); omega
  have HR := Lib.hid hrd; clear hrd h
  generalize nodeW D p = W at *
  obtain ⟨i0, hi0, hz0, hz1, hz2⟩ := info_parts infoInt
  have I := Lib.hid (And.intro hi0 (And.intro hz0 (And.intro hz1 hz2))); clear hi0 hz0 hz1 hz2
  go_enter Tryz.func20, Tryz.ntmps20
  go_wp2_with fail
  (with_reducible refine HR.out.mono ?_)
  rintro e w1 ⟨hb, ⟨hk, cb, rfl, hcb, hc⟩ | ⟨hbad, rfl⟩⟩
  · have HO : Hid (nodeOk W (D.n * 64)) := hk
    have HA : Hid (PutAt w v j p cb W w1) := ⟨hc, cell_bel hb ((Blk.new w _ 35).cell rfl), cell_bel hb ((Blk.new w _ 35).cell rfl), (below_alloc w _).trans (hb.mono (by simp)), by have := hb.size; simp at this; omega⟩
    clear hb hc HR hk
    go_wp2_with fail
    (with_reducible refine (find_any HA.out.cont key).mono ?_)
    rintro e w2 ⟨rfl, q2⟩
    have HA2 := Lib.hid (HA.out.next q2.below)
    clear q2 HA
    rcases hf : foundB W key (slotsW W) with _ | _
    · have hP : delP W (ptrOff p) key = ([], 5) := by unfold delP; rw [if_neg (by simp [hf])]
      have HP := Lib.hid hP
      clear hP hf
      go_wp2_with fail
      go_ret2
      exact ⟨HA2.out.bel, .inl ⟨HO.out, by rw [HP.out]; exact nilProg _ _ _⟩⟩
    · obtain ⟨s, hs, _⟩ := found_at _ _ _ hf
      have hP : delP W (ptrOff p) key = (lastC (ptrOff p) (ordN ((slotsW W).take (findIdx W key (slotsW W)) ++ (slotsW W).drop (findIdx W key (slotsW W) + 1)) ((W 0).toNat / 4503599627370496 + 1) : Nat), 0) := by unfold delP; rw [if_pos hf]
      generalize findIdx W key (slotsW W) = idx at *
      have HP := Lib.hid hP
      clear hP hf
      have hil : idx < (slotsW W).length := by
        rcases Nat.lt_or_ge idx (slotsW W).length with h | h
        · exact h
        · rw [List.getElem?_eq_none h] at hs; cases hs
      clear hs
      obtain ⟨sv, c28, hsv⟩ := HA2.out.cont.sl
      obtain ⟨a, c, rfl⟩ : ∃ a c, sv = .slice a (slotsW W).length c := by obtain ⟨_, a, c, e, _⟩ := hsv; exact ⟨a, c, e⟩
      have hcap : (slotsW W).length ≤ c := by obtain ⟨_, _, _, e, hc, _⟩ := hsv; cases e; exact hc
      have hl12 := HA2.out.cont.len
      have t1 : RdSl w2 1 (.slice a idx c) idx (natsI ((slotsW W).take idx)) := by have := hsv.takeG idx (by omega); rw [Nat.mul_one, natsI_take] at this; exact this
      have t2 : RdSl w2 1 (.slice (if c = idx + 1 then a else a.map (·.add (idx + 1))) ((slotsW W).length - (idx + 1)) (c - (idx + 1))) ((slotsW W).length - (idx + 1)) (natsI ((slotsW W).drop (idx + 1))) := by have := hsv.dropG (idx + 1) (by omega); rw [natsI_drop, Nat.mul_one] at this; exact this
      have T1 := Lib.hid t1; have T2 := Lib.hid t2; clear t1 t2 hsv
      have hic : (idx : Int) ≤ c := by omega
      have hil' : (idx : Int) ≤ (slotsW W).length := by omega
      have hic2 : (idx : Int) + 1 ≤ c := by omega
      have hil2 : (idx : Int) + 1 ≤ (slotsW W).length := by omega
      have y1 : IntKind.i64.wrap ((idx : Int) + 1) = (idx : Int) + 1 := IntWalk.i64_in _ (by omega)
      have h0 : (0 : Int) ≤ (idx : Int) + 1 := by omega
      have HC28 := Lib.hid (fun wx (hx : Below w2.heap.size w2 wx) => cell_bel hx c28)
      have HK := Lib.hid (fun wx (hx : Below w2.heap.size w2 wx) => HA2.out.four c28 hx)
      clear c28
      go_wp2_with fail
      go_cut [10] (DelAt w2 ((slotsW W).take idx ++ (slotsW W).drop (idx + 1)))
      case first =>
        by_cases hci : c = idx + 1
        · have HX := Lib.hid (show (if c = idx + 1 then a else a.map (·.add (idx + 1))) = a from if_pos hci)
          rw [HX.out] at T2
          subst hci
          have hz : (slotsW W).length - (idx + 1) = 0 := by omega
          rw [Nat.sub_self, hz] at T2
          have HZ := Lib.hid hz
          have hic3 : (idx : Int) ≤ (idx : Int) + 1 := by omega
          have hic4 : (idx : Int) ≤ ((idx + 1 : Nat) : Int) := by omega
          clear hz HX hic hic2
          go_region_held3 (fun wx => wx.cell? ⟨cb, 28, none⟩ = some (.slice a (slotsW W).length (idx + 1))) (first | (with_reducible exact C4.out) | (with_reducible exact C3.out) | (with_reducible exact HC28.out _ (below_alloc_drew w2 _)) | (with_reducible exact HC28.out _ (below_drew_alloc w2 _)) | (with_reducible exact HC28.out _ (Below.refl _ _).drew)) (first | (refine step_append_sl rfl (.tmp 27) (.tmp 33) 113 rfl 3 i0 _ 1 8 Tryz.underlying113 I.out.1 I.out.2.1 I.out.2.2.1 I.out.2.2.2 rfl (by decide) (.slice (some ⟨w2.heap.size, 0, none⟩) 0 0) 0 [] rfl (by exact (OwnSl.new w2 #[] 3 1 0 0 rfl (Nat.le_refl _) (Nat.zero_le _)).drew) _ idx (natsI ((slotsW W).take idx)) rfl (by exact (T1.out.alloc _).drew) (natsI_one _) (by unfold maxLen; omega) (by omega) ?_; intro v3 w3 o3 g3 b3; have hb3 := own_chain (v1 := .slice (some ⟨w2.heap.size, 0, none⟩) 0 0) ⟨below_alloc w2 (.cells #[] 3), fun g hg => by cases hg; exact Nat.le_refl _⟩ ((Below.refl _ _).drew) g3 b3 (by simp [World.drew]); have O3 := Lib.hid (And.intro o3 hb3); have R3 := Lib.hid (T2.out.below hb3.1); have C3 := Lib.hid (HC28.out _ hb3.1); clear o3 g3 b3 hb3) | (refine step_append_sl rfl (.tmp 34) (.tmp 41) 113 rfl 3 i0 _ 1 8 Tryz.underlying113 I.out.1 I.out.2.1 I.out.2.2.1 I.out.2.2.2 rfl (by decide) v3 (0 + idx) _ rfl (by exact O3.out.1) _ 0 (natsI ((slotsW W).drop (idx + 1))) rfl (by exact R3.out) (natsI_one _) (by unfold maxLen; omega) (by omega) ?_; intro v4 w4 o4 g4 b4; have hb4 := own_chain O3.out.2 (Below.refl _ _) g4 b4 (by have := O3.out.2.1.size; omega); have O4 := Lib.hid (And.intro o4 hb4); have C4 := Lib.hid (HC28.out _ hb4.1); clear o4 g4 b4 hb4))
          all_goals go_wp2_with fail
          all_goals go_meet
          all_goals exact del_end hil (by rw [HZ.out]; exact O4.out.1) O4.out.2.1
        · have hci' : ¬ (c : Int) = (idx : Int) + 1 := by omega
          have HX := Lib.hid (show (if c = idx + 1 then a else a.map (·.add (idx + 1))) = a.map (·.add (idx + 1)) from if_neg hci)
          rw [HX.out] at T2
          go_region_held3 (fun wx => wx.cell? ⟨cb, 28, none⟩ = some (.slice a (slotsW W).length c)) (first | (with_reducible exact C4.out) | (with_reducible exact C3.out) | (with_reducible exact HC28.out _ (below_alloc_drew w2 _)) | (with_reducible exact HC28.out _ (below_drew_alloc w2 _)) | (with_reducible exact HC28.out _ (Below.refl _ _).drew)) (first | (refine step_append_sl rfl (.tmp 27) (.tmp 33) 113 rfl 3 i0 _ 1 8 Tryz.underlying113 I.out.1 I.out.2.1 I.out.2.2.1 I.out.2.2.2 rfl (by decide) (.slice (some ⟨w2.heap.size, 0, none⟩) 0 0) 0 [] rfl (by exact (OwnSl.new w2 #[] 3 1 0 0 rfl (Nat.le_refl _) (Nat.zero_le _)).drew) _ idx (natsI ((slotsW W).take idx)) rfl (by exact (T1.out.alloc _).drew) (natsI_one _) (by unfold maxLen; omega) (by omega) ?_; intro v3 w3 o3 g3 b3; have hb3 := own_chain (v1 := .slice (some ⟨w2.heap.size, 0, none⟩) 0 0) ⟨below_alloc w2 (.cells #[] 3), fun g hg => by cases hg; exact Nat.le_refl _⟩ ((Below.refl _ _).drew) g3 b3 (by simp [World.drew]); have O3 := Lib.hid (And.intro o3 hb3); have R3 := Lib.hid (T2.out.below hb3.1); have C3 := Lib.hid (HC28.out _ hb3.1); clear o3 g3 b3 hb3) | (refine step_append_sl rfl (.tmp 34) (.tmp 41) 113 rfl 3 i0 _ 1 8 Tryz.underlying113 I.out.1 I.out.2.1 I.out.2.2.1 I.out.2.2.2 rfl (by decide) v3 (0 + idx) _ rfl (by exact O3.out.1) _ ((slotsW W).length - (idx + 1)) (natsI ((slotsW W).drop (idx + 1))) rfl (by exact R3.out) (natsI_one _) (by unfold maxLen; omega) (by omega) ?_; intro v4 w4 o4 g4 b4; have hb4 := own_chain O3.out.2 (Below.refl _ _) g4 b4 (by have := O3.out.2.1.size; omega); have O4 := Lib.hid (And.intro o4 hb4); have C4 := Lib.hid (HC28.out _ hb4.1); clear o4 g4 b4 hb4))
          all_goals go_wp2_with fail
          all_goals go_meet
          all_goals exact del_end hil O4.out.1 O4.out.2.1
      case rest =>
        have DA := Lib.hid hcut
        obtain ⟨na, nc, hnv⟩ := hcut.1.slice
        subst hnv
        clear hcut T1 T2
        obtain ⟨w3, hw3⟩ : ∃ x, x = wc := ⟨_, rfl⟩
        subst hw3
        have hlt12 := HA2.out.cont.lt12
        generalize hch : (W 0).toNat / 4503599627370496 = ch at *
        have hch4 : ch < 4096 := by omega
        have z1 : IntKind.u64.wrap ((ch : Int) + 1) = (ch : Int) + 1 := by rw [IntKind.wrap_u64]; omega
        have ORD := Lib.hid (fun wx nv => order_del (w := wx) nv (slotsW W) idx ch hl12 hlt12 hch4)
        have L0 := Lib.hid (fun wx => leafAt_zero (w := wx) (v := v) (j := j) p hp)
        have Hch := Lib.hid hch; have HB := Lib.hid HA2.out.bel
        clear hch hx0 hch4 hlt12 HA2 hic hil' hic2 hil2 y1 h0
        have DA1 := Lib.hid DA.out.1; have DA2 := Lib.hid DA.out.2
        generalize hnl : ((slotsW W).take idx ++ (slotsW W).drop (idx + 1)).length = nl at *
        have Hnl := Lib.hid hnl; clear hnl DA
        go_wp2_with fail
        go_region_held3 (fun wx => wx.cell? ⟨w.heap.size, 0, none⟩ = some (.iface 76 (.pointer (some ⟨v.tb j, 0, none⟩))) ∧ wx.cell? ⟨w.heap.size, 1, none⟩ = some (.int .u64 p) ∧ wx.cell? ⟨cb, 28, none⟩ = some (.slice a (slotsW W).length c) ∧ wx.cell? ⟨cb, 29, none⟩ = some (.int .u64 ch)) (first | (with_reducible exact K9.out) | (with_reducible exact HK.out _ (DA2.out.drew)) | (with_reducible exact HK.out _ ((DA2.out.alloc DA2.out.size _).drew)) | (with_reducible exact HK.out _ (DA2.out.drew.alloc DA2.out.size _))) (first | (go_at_call 68; (with_reducible refine (L0.out _).mono ?_); rintro e w' ⟨rfl, rfl⟩) | (go_at_call 71; (with_reducible refine (ORD.out _ _ (by first | exact (DA1.out.alloc _).drew | exact DA1.out.drew.alloc _ | exact DA1.out.drew)).mono ?_); rintro e w' ⟨rfl, rfl⟩) | (go_at_call 67; (with_reducible refine (commitN _ _).mono ?_); rintro e w9 ⟨v9, rfl, q9⟩; have hb9 : Below w2.heap.size w2 w9 := (DA2.out.trans ((below_alloc_drew _ _).mono DA2.out.size)).trans (q9.bel.mono (by have := DA2.out.size; simp [World.drew]; omega)); have K9 := Lib.hid (HK.out _ hb9); have B9 := Lib.hid hb9; have P9 := Lib.hid q9; clear q9 hb9))
        all_goals go_wp2_with fail
        all_goals go_ret2
        all_goals exact ⟨HB.out.trans (B9.out.mono HB.out.size), .inl ⟨HO.out, by rw [HP.out]; exact (put_end (HB.out.trans ((DA2.out.trans ((below_alloc_drew _ _).mono DA2.out.size)).mono HB.out.size)) P9.out rfl).2⟩⟩
  · have HB := Lib.hid hb; have HO : Hid (¬ nodeOk W (D.n * 64)) := hbad; clear hb hbad
    go_wp2_with fail
    go_ret2
    exact ⟨below_of (Below.refl _ _) HB.out (Below.refl _ _), .inr ⟨HO.out, rfl⟩⟩
end
end Go.Proofs.YtgdcjedcinapdaaGreat

/- What the programs of PlanPut and PlanDelete make of a node's words: plain facts. -/
namespace Go.Proofs.YtgdcjedcinapdaaGreat
open Go.RowKit

/-- A node's slots as they should be. -/
structure NGood (W : Nat → Int) (l : List Nat) (size : Nat) : Prop where
  len : l.length ≤ 12
  lt : ∀ s ∈ l, s < 12
  nd : l.Nodup
  asc : AscS W l
  bd : W 3 = 0 ∧ W 2 = 0 ∨ W 3 = 1 ∧ ∀ s ∈ l, W (4 + s) < W 2
  nx : W 1 = 0 ∨ ptrValid (W 1).toNat size = true

theorem keyAt_get (W : Nat → Int) (l : List Nat) (i : Nat) (h : i < l.length) : keyAt W l i = W (4 + l[i]) := by simp [keyAt, List.getD, h]
theorem asc_of_C (W : Nat → Int) (l : List Nat) (h : ascC W l l.length) : AscS W l := by
  unfold AscS
  rw [List.pairwise_iff_getElem]
  intro i j hi hj hij
  rw [← keyAt_get W l i hi, ← keyAt_get W l j hj]
  clear hi
  induction j with
  | zero => omega
  | succ j ih =>
    have h1 := h (j + 1) (by omega) hj
    rw [Nat.add_sub_cancel] at h1
    rcases Nat.lt_or_ge i j with h2 | h2
    · exact Int.lt_trans (ih (by omega) h2) h1
    · obtain rfl : i = j := by omega
      exact h1
theorem asc_C (W : Nat → Int) (l : List Nat) (h : AscS W l) : ascC W l l.length := by
  intro i h0 hi
  rw [keyAt_get W l _ (by omega), keyAt_get W l i hi]
  exact (List.pairwise_iff_getElem.1 h) _ _ _ _ (by omega)
theorem ok_good {W : Nat → Int} {size : Nat} (h : nodeOk W size) : NGood W (slotsW W) size := by
  obtain ⟨⟨h1, h2⟩, h3, h4, h5⟩ := h
  have hasc := asc_of_C W _ h3
  refine ⟨?_, ?_, ?_, hasc, ?_, h5⟩
  · simpa [slotsW, slotsN] using h1
  · intro s hs
    simp only [slotsW, slotsN, List.mem_map, List.mem_range] at hs
    obtain ⟨i, hi, rfl⟩ := hs
    exact ((h2 i (by omega)).2 hi).1
  · unfold slotsW slotsN List.Nodup
    rw [List.pairwise_map]
    refine List.Pairwise.imp_of_mem ?_ List.pairwise_lt_range
    intro a b _ hb hab
    have hb' := List.mem_range.1 hb
    exact ((h2 b (by omega)).2 hb').2 a hab
  · rcases h4 with h4 | ⟨h4, h6⟩
    · exact .inl h4
    · refine .inr ⟨h4, fun s hs => ?_⟩
      obtain ⟨i, hi, rfl⟩ := List.getElem_of_mem hs
      have h7 := h6 (by omega)
      rw [keyAt_get W _ _ (by omega)] at h7
      rcases Nat.lt_or_ge i ((slotsW W).length - 1) with h8 | h8
      · exact Int.lt_trans ((List.pairwise_iff_getElem.1 hasc) i _ hi (by omega) h8) h7
      · have : i = (slotsW W).length - 1 := by omega
        subst this; exact h7
theorem good_valid {W : Nat → Int} {l : List Nat} {size : Nat} (h : NGood W l size) (e : slotsW W = l) (hp : parseOk (W 0).toNat) : nodeOk W size := by
  refine ⟨hp, ?_⟩
  rw [e]
  refine ⟨asc_C W l h.asc, ?_, h.nx⟩
  rcases h.bd with hb | ⟨hb, hb2⟩
  · exact .inl hb
  · refine .inr ⟨hb, fun h1 => ?_⟩
    rw [keyAt_get W l _ (by omega)]
    exact hb2 _ (List.getElem_mem _)
theorem good_ok {W : Nat → Int} {l : List Nat} {c size : Nat} (h : NGood W l size) (h0 : W 0 = (ordN l c : Nat)) : nodeOk W size ∧ slotsW W = l := by
  have h16 : ∀ s ∈ l, s < 16 := fun s hs => by have := h.lt s hs; omega
  have e : slotsW W = l := by unfold slotsW; rw [h0, Int.toNat_natCast, ord_mod l c h.len, slotsN_ord l c h16 h.len]
  exact ⟨good_valid h e (by rw [h0, Int.toNat_natCast]; exact parse_ord l c h.lt h.len h.nd), e⟩

/-- One word of a node is another. -/
def setW (W : Nat → Int) (j : Nat) (x : Int) : Nat → Int := fun i => if i = j then x else W i
theorem setW_ne (W : Nat → Int) (j : Nat) (x : Int) (i : Nat) (h : i ≠ j) : setW W j x i = W i := if_neg h
theorem setW_eq (W : Nat → Int) (j : Nat) (x : Int) : setW W j x j = x := if_pos rfl

theorem AscS.congr {W W' : Nat → Int} {l : List Nat} (h : AscS W l) (he : ∀ s ∈ l, W' (4 + s) = W (4 + s)) : AscS W' l :=
  List.Pairwise.imp_of_mem (fun ha hb hab => by rw [he _ ha, he _ hb]; exact hab) h
theorem NGood.congr {W W' : Nat → Int} {l : List Nat} {size : Nat} (h : NGood W l size) (he : ∀ s ∈ l, W' (4 + s) = W (4 + s)) (h1 : W' 1 = W 1) (h2 : W' 2 = W 2) (h3 : W' 3 = W 3) : NGood W' l size := by
  refine ⟨h.len, h.lt, h.nd, h.asc.congr he, ?_, by rw [h1]; exact h.nx⟩
  rw [h2, h3]
  rcases h.bd with hb | ⟨hb, hb2⟩
  · exact .inl hb
  · exact .inr ⟨hb, fun s hs => by rw [he s hs]; exact hb2 s hs⟩
theorem NGood.sub {W : Nat → Int} {l l' : List Nat} {size : Nat} (h : NGood W l size) (hs : l'.Sublist l) : NGood W l' size := by
  refine ⟨Nat.le_trans hs.length_le h.len, fun s h1 => h.lt s (hs.subset h1), hs.nodup h.nd, List.Pairwise.sublist hs h.asc, ?_, h.nx⟩
  rcases h.bd with hb | ⟨hb, hb2⟩
  · exact .inl hb
  · exact .inr ⟨hb, fun s h1 => hb2 s (hs.subset h1)⟩
theorem entsW_congr {W W' : Nat → Int} {l : List Nat} (he : ∀ s ∈ l, W' (4 + s) = W (4 + s) ∧ W' (16 + s) = W (16 + s)) : entsW W' l = entsW W l :=
  List.map_congr_left (fun s hs => by rw [(he s hs).1, (he s hs).2])
theorem entsW_append (W : Nat → Int) (l m : List Nat) : entsW W (l ++ m) = entsW W l ++ entsW W m := by simp [entsW]

/-- Below and above the place of a key. -/
theorem find_lt (W : Nat → Int) (k : Int) (l : List Nat) : ∀ s ∈ l.take (findIdx W k l), W (4 + s) < k := by
  induction l with
  | nil => intro s hs; simp at hs
  | cons t l ih =>
    intro s hs
    by_cases ht : W (4 + t) < k
    · rw [show findIdx W k (t :: l) = findIdx W k l + 1 by simp [findIdx, ht], List.take_succ_cons, List.mem_cons] at hs
      rcases hs with rfl | hs
      · exact ht
      · exact ih s hs
    · rw [show findIdx W k (t :: l) = 0 by simp [findIdx, ht]] at hs; simp at hs
theorem find_ge (W : Nat → Int) (k : Int) (l : List Nat) (h : AscS W l) : ∀ s ∈ l.drop (findIdx W k l), k ≤ W (4 + s) := by
  induction l with
  | nil => intro s hs; simp at hs
  | cons t l ih =>
    intro s hs
    obtain ⟨h1, h2⟩ := List.pairwise_cons.1 h
    by_cases ht : W (4 + t) < k
    · rw [show findIdx W k (t :: l) = findIdx W k l + 1 by simp [findIdx, ht], List.drop_succ_cons] at hs
      exact ih h2 s hs
    · rw [show findIdx W k (t :: l) = 0 by simp [findIdx, ht], List.drop_zero, List.mem_cons] at hs
      rcases hs with rfl | hs
      · omega
      · have := h1 s hs; omega
theorem find_split {W : Nat → Int} {k : Int} {l : List Nat} (h : AscS W l) (hf : foundB W k l = true) :
    ∃ s, l[findIdx W k l]? = some s ∧ W (4 + s) = k ∧ l.drop (findIdx W k l) = s :: l.drop (findIdx W k l + 1) ∧ ∀ t ∈ l.drop (findIdx W k l + 1), k < W (4 + t) := by
  obtain ⟨s, hs, hk⟩ := found_at W k l hf
  have hlt : findIdx W k l < l.length := by
    rcases Nat.lt_or_ge (findIdx W k l) l.length with h | h
    · exact h
    · rw [List.getElem?_eq_none h] at hs; cases hs
  have hd : l.drop (findIdx W k l) = s :: l.drop (findIdx W k l + 1) := by
    rw [List.drop_eq_getElem_cons hlt]
    rw [List.getElem?_eq_getElem hlt] at hs; rw [Option.some.inj hs]
  refine ⟨s, hs, hk, hd, fun t ht => ?_⟩
  have hp := List.Pairwise.sublist (List.drop_sublist (findIdx W k l) l) h
  rw [hd] at hp
  have := (List.pairwise_cons.1 hp).1 t ht
  omega
theorem find_none {W : Nat → Int} {k : Int} {l : List Nat} (h : AscS W l) (hf : foundB W k l = false) : ∀ t ∈ l.drop (findIdx W k l), k < W (4 + t) := by
  intro t ht
  have h1 := find_ge W k l h t ht
  rcases hd : l.drop (findIdx W k l) with _ | ⟨s, r⟩
  · rw [hd] at ht; cases ht
  · have hs : l[findIdx W k l]? = some s := by
      have : (l.drop (findIdx W k l))[0]? = some s := by rw [hd]; rfl
      simpa [List.getElem?_drop] using this
    have hne : W (4 + s) ≠ k := by unfold foundB at hf; rw [hs] at hf; simpa using hf
    have hge := find_ge W k l h s (by rw [hd]; simp)
    have hp := List.Pairwise.sublist (List.drop_sublist (findIdx W k l) l) h
    rw [hd] at hp ht
    rcases List.mem_cons.1 ht with rfl | ht
    · omega
    · have := (List.pairwise_cons.1 hp).1 t ht; omega

/-- The reference's Unset and Set, on entries. -/
def unsetL (k : Int) (E : List (Int × Int)) : List (Int × Int) := E.filter fun e => decide (¬ e.1 = k)
def hasL (k : Int) (E : List (Int × Int)) : Bool := E.any fun e => decide (e.1 = k)
def setStep (k v : Int) (s : List (Int × Int) × Bool) (e : Int × Int) : List (Int × Int) × Bool :=
  if s.2 = false ∧ k ≤ e.1 then (if e.1 = k then (s.1 ++ [(k, v)], true) else (s.1 ++ [(k, v)] ++ [e], true)) else (if e.1 = k then s else (s.1 ++ [e], s.2))
def setS (k v : Int) (E : List (Int × Int)) : List (Int × Int) × Bool := E.foldl (setStep k v) ([], false)
def setL (k v : Int) (E : List (Int × Int)) : List (Int × Int) := if (setS k v E).2 then (setS k v E).1 else (setS k v E).1 ++ [(k, v)]

theorem ents_take_drop (W : Nat → Int) (l : List Nat) (i : Nat) : entsW W l = entsW W (l.take i) ++ entsW W (l.drop i) := by rw [← entsW_append, List.take_append_drop]
theorem ents_mem {W : Nat → Int} {l : List Nat} {e : Int × Int} (h : e ∈ entsW W l) : ∃ s ∈ l, e = (W (4 + s), W (16 + s)) := by
  simp only [entsW, List.mem_map] at h
  obtain ⟨s, hs, rfl⟩ := h; exact ⟨s, hs, rfl⟩
theorem unset_keep (k : Int) (E : List (Int × Int)) (h : ∀ e ∈ E, e.1 ≠ k) : unsetL k E = E := by
  unfold unsetL; rw [List.filter_eq_self]; intro e he; simpa using h e he
theorem unset_append (k : Int) (E F : List (Int × Int)) : unsetL k (E ++ F) = unsetL k E ++ unsetL k F := by simp [unsetL]
theorem unset_found {W : Nat → Int} {k : Int} {l : List Nat} (h : AscS W l) (hf : foundB W k l = true) :
    unsetL k (entsW W l) = entsW W (l.take (findIdx W k l) ++ l.drop (findIdx W k l + 1)) ∧ hasL k (entsW W l) = true := by
  obtain ⟨s, hs, hk, hd, hgt⟩ := find_split h hf
  refine ⟨?_, ?_⟩
  · rw [ents_take_drop W l (findIdx W k l), unset_append, hd, entsW_append, unset_keep k (entsW W (l.take _)) (fun e he => ?_)]
    · congr 1
      rw [show entsW W (s :: l.drop (findIdx W k l + 1)) = (W (4 + s), W (16 + s)) :: entsW W (l.drop (findIdx W k l + 1)) from rfl]
      rw [show unsetL k ((W (4 + s), W (16 + s)) :: entsW W (l.drop (findIdx W k l + 1))) = unsetL k (entsW W (l.drop (findIdx W k l + 1))) by simp [unsetL, hk]]
      refine unset_keep k _ (fun e he => ?_)
      obtain ⟨t, ht, rfl⟩ := ents_mem he
      have := hgt t ht; simp; omega
    · obtain ⟨t, ht, rfl⟩ := ents_mem he
      have := find_lt W k l t ht; simp; omega
  · unfold hasL
    rw [List.any_eq_true]
    exact ⟨(W (4 + s), W (16 + s)), List.mem_map.2 ⟨s, List.mem_of_getElem? hs, rfl⟩, by simpa using hk⟩
theorem unset_none {W : Nat → Int} {k : Int} {l : List Nat} (h : AscS W l) (hf : foundB W k l = false) : unsetL k (entsW W l) = entsW W l ∧ hasL k (entsW W l) = false := by
  have hne : ∀ e ∈ entsW W l, e.1 ≠ k := by
    intro e he
    obtain ⟨t, ht, rfl⟩ := ents_mem he
    rw [← List.take_append_drop (findIdx W k l) l, List.mem_append] at ht
    rcases ht with ht | ht
    · have := find_lt W k l t ht; simp; omega
    · have := find_none h hf t ht; simp; omega
  refine ⟨unset_keep k _ hne, ?_⟩
  unfold hasL
  rw [List.any_eq_false]
  intro e he; simpa using hne e he

theorem set_low (k v : Int) (E : List (Int × Int)) : ∀ o, (∀ e ∈ E, e.1 < k) → E.foldl (setStep k v) (o, false) = (o ++ E, false) := by
  induction E with
  | nil => intro o _; simp
  | cons e E ih =>
    intro o h
    have he := h e (by simp)
    rw [List.foldl_cons, show setStep k v (o, false) e = (o ++ [e], false) by unfold setStep; rw [if_neg (by simp; omega), if_neg (by omega)], ih _ (fun x hx => h x (by simp [hx]))]
    simp
theorem set_high (k v : Int) (E : List (Int × Int)) : ∀ o, (∀ e ∈ E, k < e.1) → E.foldl (setStep k v) (o, true) = (o ++ E, true) := by
  induction E with
  | nil => intro o _; simp
  | cons e E ih =>
    intro o h
    have he := h e (by simp)
    rw [List.foldl_cons, show setStep k v (o, true) e = (o ++ [e], true) by unfold setStep; rw [if_neg (by simp), if_neg (by omega)], ih _ (fun x hx => h x (by simp [hx]))]
    simp
theorem set_found {W : Nat → Int} {k : Int} (v : Int) {l : List Nat} (h : AscS W l) (hf : foundB W k l = true) :
    setL k v (entsW W l) = entsW W (l.take (findIdx W k l)) ++ (k, v) :: entsW W (l.drop (findIdx W k l + 1)) := by
  obtain ⟨s, hs, hk, hd, hgt⟩ := find_split h hf
  have e : setS k v (entsW W l) = (entsW W (l.take (findIdx W k l)) ++ (k, v) :: entsW W (l.drop (findIdx W k l + 1)), true) := by
    unfold setS
    rw [ents_take_drop W l (findIdx W k l), hd, List.foldl_append, set_low k v _ [] (fun e he => ?_)]
    · rw [show entsW W (s :: l.drop (findIdx W k l + 1)) = (W (4 + s), W (16 + s)) :: entsW W (l.drop (findIdx W k l + 1)) from rfl, List.foldl_cons]
      rw [show setStep k v ([] ++ entsW W (l.take (findIdx W k l)), false) (W (4 + s), W (16 + s)) = (entsW W (l.take (findIdx W k l)) ++ [(k, v)], true) by unfold setStep; rw [if_pos (by simp [hk]), if_pos hk]; simp]
      rw [set_high k v _ _ (fun e he => ?_)]
      · simp
      · obtain ⟨t, ht, rfl⟩ := ents_mem he
        exact hgt t ht
    · obtain ⟨t, ht, rfl⟩ := ents_mem he
      exact find_lt W k l t ht
  unfold setL; rw [e]; rfl
theorem set_none {W : Nat → Int} {k : Int} (v : Int) {l : List Nat} (h : AscS W l) (hf : foundB W k l = false) :
    setL k v (entsW W l) = entsW W (l.take (findIdx W k l)) ++ (k, v) :: entsW W (l.drop (findIdx W k l)) := by
  have hlow : ∀ e ∈ entsW W (l.take (findIdx W k l)), e.1 < k := fun e he => by
    obtain ⟨t, ht, rfl⟩ := ents_mem he
    exact find_lt W k l t ht
  have hgt := find_none h hf
  unfold setL setS
  rw [ents_take_drop W l (findIdx W k l), List.foldl_append, set_low k v _ [] hlow]
  generalize l.drop (findIdx W k l) = m at *
  cases m with
  | nil => simp [entsW]
  | cons s m =>
    have hs := hgt s (by simp)
    rw [show entsW W (s :: m) = (W (4 + s), W (16 + s)) :: entsW W m from rfl, List.foldl_cons]
    rw [show setStep k v ([] ++ entsW W (l.take (findIdx W k l)), false) (W (4 + s), W (16 + s)) = (entsW W (l.take (findIdx W k l)) ++ [(k, v)] ++ [(W (4 + s), W (16 + s))], true) by unfold setStep; rw [if_pos (by simp; omega), if_neg (by simp; omega)]; simp]
    rw [set_high k v _ _ (fun e he => ?_)]
    · simp
    · obtain ⟨t, ht, rfl⟩ := ents_mem he
      exact hgt t (by simp [ht])

/-- The words behind a program. -/
def runC (C : Nat → Int) (p : List (Nat × Nat × Int)) : Nat → Int := p.foldl (fun C e => if e.1 = 1 then (fun i => if i = e.2.1 / 8 then e.2.2 else C i) else C) C
def progOk (n : Nat) (p : List (Nat × Nat × Int)) : Prop := ∀ e ∈ p, (e.1 = 1 ∧ e.2.1 % 8 = 0 ∧ e.2.1 < 64 * n) ∨ (e.1 = 2 ∧ e.2.1 < 64 * n) ∨ (e.1 = 3 ∧ e.2.1 = 0)
theorem Live.run {D : Dev} {n x : Nat} {C : Nat → Int} (h : Live D n x C) (j : Nat) (p : List (Nat × Nat × Int)) (hp : progOk n p) : Live (D.run j p) n (x + p.length) (runC C p) := by
  induction p generalizing D x C with
  | nil => exact h
  | cons e p ih =>
    have hs : Live (D.step j e) n (x + 1) (if e.1 = 1 then (fun i => if i = e.2.1 / 8 then e.2.2 else C i) else C) := by
      unfold Dev.step
      rcases hp e (by simp) with ⟨h1, h2, h3⟩ | ⟨h1, h2⟩ | ⟨h1, _⟩
      · rw [if_pos h1, if_pos h1]; exact h.store j _ _ h2 h3
      · rw [if_neg (by omega), if_pos h1, if_neg (by omega)]; exact h.flush j _ h2
      · rw [if_neg (by omega), if_neg (by omega), if_neg (by omega)]; exact h.fence j
    have := ih hs (fun e he => hp e (by simp [he]))
    rw [show x + (e :: p).length = x + 1 + p.length by simp; omega]
    exact this
theorem lineN_lt (o n : Nat) (h : o < 64 * n) : lineN o < 64 * n := by unfold lineN; omega
theorem lastC_ok (off n : Nat) (x : Int) (h8 : off % 8 = 0) (hn : off < 64 * n) : progOk n (lastC off x) := by
  intro e he
  simp only [lastC, List.mem_cons, List.not_mem_nil, or_false] at he
  rcases he with rfl | rfl | rfl
  · exact .inl ⟨rfl, h8, hn⟩
  · exact .inr (.inl ⟨rfl, hn⟩)
  · exact .inr (.inr ⟨rfl, rfl⟩)
theorem progOk_append {n : Nat} {p q : List (Nat × Nat × Int)} (hp : progOk n p) (hq : progOk n q) : progOk n (p ++ q) := fun e he => (List.mem_append.1 he).elim (hp e) (hq e)
theorem putNew_ok (W : Nat → Int) (off : Nat) (key value : Int) (i s n : Nat) (h8 : off % 8 = 0) (hn : off + 224 ≤ 64 * n) (hs : s < 12) : progOk n (putNew W off key value i s) := by
  unfold putNew
  refine progOk_append (progOk_append (progOk_append ?_ ?_) ?_) (lastC_ok _ _ _ h8 (by omega))
  · intro e he
    simp only [List.mem_cons, List.not_mem_nil, or_false] at he
    rcases he with rfl | rfl | rfl
    · exact .inl ⟨rfl, by simp only; omega, by simp only; omega⟩
    · exact .inl ⟨rfl, by simp only; omega, by simp only; omega⟩
    · exact .inr (.inl ⟨rfl, lineN_lt _ _ (by omega)⟩)
  · split
    · intro e he; simp at he
    · intro e he
      simp only [List.mem_cons, List.not_mem_nil, or_false] at he
      subst he
      exact .inr (.inl ⟨rfl, lineN_lt _ _ (by omega)⟩)
  · intro e he
    simp only [List.mem_cons, List.not_mem_nil, or_false] at he
    subst he; exact .inr (.inr ⟨rfl, rfl⟩)
theorem runC_last (C : Nat → Int) (off : Nat) (x : Int) (i : Nat) : runC C (lastC off x) i = if i = off / 8 then x else C i := by simp [runC, lastC]
theorem runC_append (C : Nat → Int) (p q : List (Nat × Nat × Int)) : runC C (p ++ q) = runC (runC C p) q := by simp [runC, List.foldl_append]
theorem runC_new (C W : Nat → Int) (off : Nat) (key value : Int) (k s : Nat) (h8 : off % 8 = 0) (i : Nat) :
    runC C (putNew W off key value k s) (off / 8 + i) = if i = 0 then ((ordN ((slotsW W).take k ++ s :: (slotsW W).drop k) ((W 0).toNat / 4503599627370496 + 1) : Nat) : Int) else if i = 16 + s then value else if i = 4 + s then key else C (off / 8 + i) := by
  unfold putNew
  rw [runC_append, runC_last]
  by_cases h0 : i = 0
  · rw [if_pos (by omega), if_pos h0]
  · rw [if_neg (by omega), if_neg h0]
    have e2 : ∀ c : Nat, (off + 8 * (c + s)) / 8 = off / 8 + (c + s) := fun c => by omega
    by_cases hc : lineN (off + 8 * (16 + s)) = lineN (off + 8 * (4 + s))
    · rw [if_pos hc]; simp [runC, e2]
    · rw [if_neg hc]; simp [runC, e2]
end Go.Proofs.YtgdcjedcinapdaaGreat
