/- The walks of from, Keys, Next, High. -/
import Derived.Test.YtkoijmoendepgaaLeafL
import Derived.Test.YtkoijmoendepgaaNodeC
namespace Go.Proofs.Ytkoijmoendepgaa
open Go.RowKit

/-- Two slices of words that a call collects, in blocks of their own. -/
structure Two (w : World) (B : Nat) (wr : World) (k v : Value) (ks vs : List Int) : Prop where
  a : Acc w B wr 23 1 k ks.length (intsU ks)
  b : Acc w B wr 23 1 v vs.length (intsU vs)
  ne : ∀ g, k.ownBlock = some g → v.ownBlock ≠ some g
section
variable {w : World} {B : Nat} {wr wz w1 : World} {k v k' : Value} {ks vs : List Int} {x : Int} {q : Nat}
theorem Two.swap (h : Two w B wr k v ks vs) : Two w B wr v k vs ks := ⟨h.b, h.a, fun g h1 h2 => h.ne g h2 h1⟩
theorem Two.keep (h : Two w B wr k v ks vs) (hz : Below wr.heap.size wr wz) : Two w B wz k v ks vs := ⟨h.a.keep hz, h.b.keep hz, h.ne⟩
theorem Two.left (h : Two w B wr k v ks vs) (hz : Below wr.heap.size wr wz) (o1 : OwnSl w1 23 1 k' (ks.length + 1) (intsU ks ++ [.int .u64 x])) (g1 : wz.grownBy w1 k.ownBlock)
    (b1 : slAddr k' = slAddr k ∨ slAddr k' = some ⟨q, 0, none⟩) (hq : wr.heap.size ≤ q) : Two w B w1 k' v (ks ++ [x]) vs := by
  have hb : ∀ g, v.ownBlock = some g → w1.heap[g]? = wr.heap[g]? := fun g hg => by
    have hlt := h.b.own.lt g hg
    rw [g1.block g (Nat.lt_of_lt_of_le hlt hz.size) (fun e => h.ne g e.symm hg)]
    exact hz.block g hlt
  have A1 := (h.a.next hz o1 g1 b1 hq).congr (n' := (ks ++ [x]).length) (xs' := intsU (ks ++ [x])) (by simp) (by simp [intsU])
  refine ⟨A1, ⟨h.b.own.kept hb, h.b.new, A1.bel, A1.lt⟩, fun g hg hg2 => ?_⟩
  rcases b1 with b1 | b1
  · rw [ownBlock_addr, b1, ← ownBlock_addr] at hg; exact h.ne g hg hg2
  · rw [ownBlock_addr, b1] at hg; cases hg; have := h.b.own.lt q hg2; omega

def keysOf (W : Nat → Int) (slots : List Nat) : List Int := slots.map fun s => W (4 + s)
def valsOf (W : Nat → Int) (slots : List Nat) : List Int := slots.map fun s => W (16 + s)
/-- Two slices came out. -/
def TwoPost (w : World) (ks vs : List Int) (r : Ending) (w' : World) : Prop := ∃ k v, r = .returned (.tuple #[k, v]) ∧ Two w w.heap.size w' k v ks vs

set_option maxRecDepth 100000 in
set_option maxHeartbeats 2000000 in
theorem from_any {cb : Nat} {W : Nat → Int} {slots : List Nat} {ch : Nat} (h : IsCont w cb W slots ch) (i : Nat) (hi : i ≤ slots.length) :
    Calls Try.prog 72 #[.pointer (some ⟨cb, 0, none⟩), .int .i64 i] w (TwoPost w (keysOf W (slots.drop i)) (valsOf W (slots.drop i))) := by
  have h12 := h.len
  have H := Lib.hid h; clear h
  obtain ⟨i0, hi0, hz0, hz1, hz2⟩ := info_parts infoU64
  have I := Lib.hid (And.intro hi0 (And.intro hz0 (And.intro hz1 hz2))); clear hi0 hz0 hz1 hz2
  go_enter Try.func72, Try.ntmps72
  go_wp2_with fail
  go_loopw [1, 4, 5] (fun x kv vv wr => ∃ k : Nat, i ≤ k ∧ k ≤ slots.length ∧ x = .int .i64 k ∧ Two w w.heap.size wr kv vv (keysOf W ((slots.drop i).take (k - i))) (valsOf W ((slots.drop i).take (k - i))) ∧ IsCont wr cb W slots ch) (fun x _ _ _ => slots.length - (intOf x).toNat)
  case atStart => exact ⟨i, Nat.le_refl _, hi, rfl, by rw [Nat.sub_self]; exact ⟨Acc.nil w _ _ _ _ (Below.refl _ _) (Nat.le_refl _), Acc.nil w _ _ _ _ (Below.refl _ _) (Nat.le_refl _), fun g hg => by simp [Value.ownBlock] at hg⟩, H.out⟩
  case round =>
    obtain ⟨k, hk1, hk2, rfl, ht, hc⟩ := hrel
    obtain ⟨sv, c28, hsv⟩ := hc.sl
    obtain ⟨sa, sc, rfl⟩ : ∃ a c, sv = .slice a slots.length c := by obtain ⟨_, a, c, e, _⟩ := hsv; exact ⟨a, c, e⟩
    obtain ⟨ka, kc, rfl⟩ := ht.a.slice
    obtain ⟨va, vc, rfl⟩ := ht.b.slice
    have T := Lib.hid ht; have HC := Lib.hid hc
    clear hsv hc ht
    by_cases hlt : k < slots.length
    · obtain ⟨s, hs⟩ : ∃ s, slots[k]? = some s := ⟨_, List.getElem?_eq_getElem hlt⟩
      have hds : (slots.drop i)[k - i]? = some s := by rw [List.getElem?_drop, show i + (k - i) = k by omega]; exact hs
      have HK := Lib.hid (fun wx (hx : IsCont wx cb W slots ch) => key_any hx k s hs)
      have HV := Lib.hid (fun wx (hx : IsCont wx cb W slots ch) => value_any hx k s hs)
      have HD := Lib.hid (take_snoc_get _ _ _ hds)
      clear hds hs
      generalize hkl : keysOf W ((slots.drop i).take (k - i)) = kl at *
      generalize hvl : valsOf W ((slots.drop i).take (k - i)) = vl at *
      have hll : kl.length ≤ 12 ∧ vl.length ≤ 12 := by rw [← hkl, ← hvl]; simp [keysOf, valsOf]; omega
      obtain ⟨hl1, hl2⟩ := hll
      have HKL := Lib.hid (And.intro hkl hvl); clear hkl hvl
      go_wp2_with fail
      (with_reducible refine (HK.out _ HC.out).mono ?_)
      rintro e w2 ⟨rfl, q2⟩
      have T2 := Lib.hid (T.out.keep q2.below); have HC2 := Lib.hid (HC.out.qt q2); clear q2 T HC c28
      go_wp2_with (at_builtin; refine wpList_append_sl _ rfl _ _ 22 rfl 23 i0 _ 1 8 Try.underlying22 I.out.1 I.out.2.1 I.out.2.2.1 I.out.2.2.2 rfl (by decide) _ kl.length (intsU kl) rfl (by exact T2.out.a.own.alloc _) _ 1 _ rfl (by exact RdSl.newAt _ _ _ 1 1 _ rfl rfl) (one_int _ _) (by unfold maxLen; omega) (by omega) ?_)
      intro v1 w3 o1 g1 b1 n1
      have T3 := Lib.hid (T2.out.left (below_alloc _ _) o1 g1 b1 (by simp))
      have HC3 := Lib.hid (H.out.below T3.out.a.bel)
      clear o1 g1 b1 n1 T2 HC2
      go_wp2_with fail
      (with_reducible refine (HV.out _ HC3.out).mono ?_)
      rintro e w4 ⟨rfl, q4⟩
      have T4 := Lib.hid (T3.out.keep q4.below); clear q4 T3 HC3
      go_wp2_with (at_builtin; refine wpList_append_sl _ rfl _ _ 22 rfl 23 i0 _ 1 8 Try.underlying22 I.out.1 I.out.2.1 I.out.2.2.1 I.out.2.2.2 rfl (by decide) _ vl.length (intsU vl) rfl (by exact T4.out.b.own.alloc _) _ 1 _ rfl (by exact RdSl.newAt _ _ _ 1 1 _ rfl rfl) (one_int _ _) (by unfold maxLen; omega) (by omega) ?_)
      intro v2 w5 o2 g2 b2 n2
      have T5 := Lib.hid ((T4.out.swap.left (below_alloc _ _) o2 g2 b2 (by simp)).swap)
      clear o2 g2 b2 n2 T4
      go_wp2_with fail
      go_roundw
      case rel =>
        refine ⟨k + 1, by omega, by omega, by go_num, ?_, H.out.below T5.out.a.bel⟩
        rw [show k + 1 - i = k - i + 1 by omega, HD.out]
        have e1 : keysOf W ((slots.drop i).take (k - i) ++ [s]) = kl ++ [W (4 + s)] := by rw [← HKL.out.1]; simp [keysOf]
        have e2 : valsOf W ((slots.drop i).take (k - i) ++ [s]) = vl ++ [W (16 + s)] := by rw [← HKL.out.2]; simp [valsOf]
        rw [e1, e2]; exact T5.out
      case measure => simp [intOf]; omega
    · have hfull : (slots.drop i).take (k - i) = slots.drop i := List.take_of_length_le (by rw [List.length_drop]; omega)
      rw [hfull] at T ⊢
      go_wp2_with fail
      go_ret2
      exact ⟨_, _, rfl, T.out⟩

variable {v0 : DV} {own : Nat → Option Role} {D : Dev} {j p : Nat}
def KeysPost (w : World) (W : Nat → Int) (size : Nat) (r : Ending) (w' : World) : Prop :=
  ∃ kv ks, r = .returned kv ∧ Acc w w.heap.size w' 23 1 kv ks.length (intsU ks) ∧ ((nodeOk W size ∧ ks = keysOf W (slotsW W)) ∨ (¬ nodeOk W size ∧ ks = []))
set_option maxRecDepth 100000 in
set_option maxHeartbeats 1000000 in
theorem keysL_any (h : NodeAt w v0 own D j p) : Calls Try.prog 38 #[.agg #[.iface 39 (.pointer (some ⟨v0.tb j, 0, none⟩)), .int .u64 p]] w (KeysPost w (nodeW D p) (D.n * 64)) := by
  have H := Lib.hid h; clear h
  go_enter Try.func38, Try.ntmps38
  go_wp2_with fail
  (with_reducible refine (H.out.alloc _).read.mono ?_)
  rintro e w1 ⟨hb, ⟨hok, cb, rfl, _, hc⟩ | ⟨hbad, rfl⟩⟩
  · have HB := Lib.hid hb; have HO := Lib.hid hok; have HC : Hid (IsCont w1 cb (nodeW D p) (slotsW (nodeW D p)) ((nodeW D p 0).toNat / 4503599627370496)) := hc; clear hb hok hc
    have hF := from_any HC.out 0 (by omega)
    rw [show ((0 : Nat) : Int) = 0 from rfl, List.drop_zero] at hF
    have HF := Lib.hid hF; clear hF
    go_wp2_with fail
    (with_reducible refine HF.out.mono ?_)
    rintro e w2 ⟨k, v, rfl, t⟩
    have T := Lib.hid t; clear t
    go_wp2_with fail
    go_ret
    exact ⟨k, _, rfl, ⟨T.out.a.own, fun g hg => Nat.le_trans (Nat.le_trans (by simp) HB.out.size) (T.out.a.new g hg), below_of (Below.refl _ _) HB.out T.out.a.bel, (below_of (Below.refl _ _) HB.out T.out.a.bel).size⟩, .inl ⟨HO.out, rfl⟩⟩
  · have HB := Lib.hid hb; have HO := Lib.hid hbad; clear hb hbad
    go_wp2_with fail
    go_ret
    exact ⟨_, [], rfl, Acc.nil w _ _ _ _ (below_of (Below.refl _ _) HB.out (Below.refl _ _)) (below_of (Below.refl _ _) HB.out (Below.refl _ _)).size, .inr ⟨HO.out, rfl⟩⟩

set_option maxRecDepth 100000 in
set_option maxHeartbeats 1000000 in
theorem next_any (h : NodeAt w v0 own D j p) : Calls Try.prog 40 #[.agg #[.iface 39 (.pointer (some ⟨v0.tb j, 0, none⟩)), .int .u64 p]] w
    (NodePost w (nodeW D p) (D.n * 64) (.int .u64 (nodeW D p 1)) (.int .u64 0)) := by
  have H := Lib.hid h; clear h
  go_enter Try.func40, Try.ntmps40
  go_wp2_with fail
  (with_reducible refine (H.out.alloc _).read.mono ?_)
  rintro e w1 ⟨hb, ⟨hok, cb, rfl, _, hc⟩ | ⟨hbad, rfl⟩⟩
  · have HB := Lib.hid hb; have HO := Lib.hid hok
    have c1 := hc.words 1 (by omega)
    clear hb hok hc
    go_wp2_with fail
    go_ret
    exact ⟨below_of (Below.refl _ _) HB.out (Below.refl _ _), .inl ⟨HO.out, rfl⟩⟩
  · have HB := Lib.hid hb; have HO := Lib.hid hbad; clear hb hbad
    go_wp2_with fail
    go_ret
    exact ⟨below_of (Below.refl _ _) HB.out (Below.refl _ _), .inr ⟨HO.out, rfl⟩⟩
set_option maxRecDepth 100000 in
set_option maxHeartbeats 1000000 in
theorem high_any (h : NodeAt w v0 own D j p) : Calls Try.prog 37 #[.agg #[.iface 39 (.pointer (some ⟨v0.tb j, 0, none⟩)), .int .u64 p]] w
    (NodePost w (nodeW D p) (D.n * 64) (.tuple #[.int .u64 (nodeW D p 2), .bool (nodeW D p 3 == 1)]) (.tuple #[.int .u64 0, .bool false])) := by
  have H := Lib.hid h; clear h
  go_enter Try.func37, Try.ntmps37
  go_wp2_with fail
  (with_reducible refine (H.out.alloc _).read.mono ?_)
  rintro e w1 ⟨hb, ⟨hok, cb, rfl, _, hc⟩ | ⟨hbad, rfl⟩⟩
  · have HB := Lib.hid hb; have HO := Lib.hid hok
    have c2 := hc.words 2 (by omega); have c3 := hc.words 3 (by omega)
    clear hb hok hc
    go_wp2_with fail
    go_quiet (fail)
    go_wp2_with fail
    go_ret2
    exact ⟨below_of (Below.refl _ _) HB.out (Qt.drewN _ _).below, .inl ⟨HO.out, rfl⟩⟩
  · have HB := Lib.hid hb; have HO := Lib.hid hbad; clear hb hbad
    go_wp2_with fail
    go_ret2
    exact ⟨below_of (Below.refl _ _) HB.out (Below.refl _ _), .inr ⟨HO.out, rfl⟩⟩
end
end Go.Proofs.Ytkoijmoendepgaa
