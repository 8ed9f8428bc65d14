/- Encode at lengths that it refuses; the walk of LeafEncodes. -/
import Derived.Test.YtkoijmoendepgaaLeafO
namespace Go.Proofs.Ytkoijmoendepgaa
open Go.RowKit

section
variable {w : World}
/-- What both Encodes do: the words, or ErrArg. -/
def EncAll (w : World) (ks vs : List Int) (next high : Int) (b : Bool) (r : Ending) (w' : World) : Prop :=
  (encOk ks vs high b ∧ Encoded w ks vs next high b r w') ∨ (¬ encOk ks vs high b ∧ Refused w r w')

theorem encAll_of {ks vs : List Int} {next high : Int} {b : Bool} {r : Ending} {w' : World} (hl : ks.length = vs.length) (h12 : ks.length ≤ 12) (h : EncPost w ks vs next high b r w') : EncAll w ks vs next high b r w' := by
  by_cases hk : ∀ i, i < ks.length → ¬ badAt ks high b i
  · exact .inl ⟨⟨hl, h12, hk⟩, h.1 hk⟩
  · exact .inr ⟨fun h' => hk h'.2.2, h.2 hk⟩

set_option maxRecDepth 100000 in
set_option maxHeartbeats 1000000 in
theorem encode_no (n m ca cb : Nat) (a b : Option Addr) (x y : Int) (z : Bool) (h : n ≠ m ∨ 12 < n) :
    Calls Try.prog 9 #[.slice a n ca, .slice b m cb, .int .u64 x, .int .u64 y, .bool z] w (Refused w) := by
  by_cases hne : n = m
  · have h12 : (12 : Int) < n := by omega
    have hb : ((n : Int) != (m : Int)) = false := by simp; omega
    go_enter Try.func9, Try.ntmps9
    go_wp2_with fail
    go_ret2
    exact ⟨rfl, Below.refl _ _⟩
  · have hb : ((n : Int) != (m : Int)) = true := by simp; omega
    go_enter Try.func9, Try.ntmps9
    go_wp2_with fail
    go_ret2
    exact ⟨rfl, Below.refl _ _⟩

set_option maxRecDepth 100000 in
set_option maxHeartbeats 1000000 in
theorem refEncode_no (n m ca cb : Nat) (a b : Option Addr) (x y : Int) (z : Bool) (h : n ≠ m ∨ 12 < n) :
    Calls Try.prog 10 #[.slice a n ca, .slice b m cb, .int .u64 x, .int .u64 y, .bool z] w (Refused w) := by
  by_cases hne : n = m
  · have h12 : (12 : Int) < n := by omega
    have hb : ((n : Int) != (m : Int)) = false := by simp; omega
    go_enter Try.func10, Try.ntmps10
    go_wp2_with fail
    go_ret2
    exact ⟨rfl, Below.refl _ _⟩
  · have hb : ((n : Int) != (m : Int)) = true := by simp; omega
    go_enter Try.func10, Try.ntmps10
    go_wp2_with fail
    go_ret2
    exact ⟨rfl, Below.refl _ _⟩

theorem encode_all (kv vv : Value) (ks vs : List Int) (next high : Int) (b : Bool) (hk : RdSl w 1 kv ks.length (intsU ks)) (hv : RdSl w 1 vv vs.length (intsU vs)) :
    Calls Try.prog 9 #[kv, vv, .int .u64 next, .int .u64 high, .bool b] w (EncAll w ks vs next high b) := by
  by_cases h : ks.length = vs.length ∧ ks.length ≤ 12
  · exact (encode_any kv vv ks vs next high b hk hv h.1 h.2).mono fun r w' h' => encAll_of h.1 h.2 h'
  · obtain ⟨_, a, c, rfl, _⟩ := hk
    obtain ⟨_, a', c', rfl, _⟩ := hv
    exact (encode_no _ _ _ _ _ _ _ _ _ (by omega)).mono fun r w' h' => .inr ⟨fun e => h ⟨e.1, e.2.1⟩, h'⟩
theorem refEncode_all (kv vv : Value) (ks vs : List Int) (next high : Int) (b : Bool) (hk : RdSl w 1 kv ks.length (intsU ks)) (hv : RdSl w 1 vv vs.length (intsU vs)) :
    Calls Try.prog 10 #[kv, vv, .int .u64 next, .int .u64 high, .bool b] w (EncAll w ks vs next high b) := by
  by_cases h : ks.length = vs.length ∧ ks.length ≤ 12
  · exact (refEncode_any kv vv ks vs next high b hk hv h.1 h.2).mono fun r w' h' => encAll_of h.1 h.2 h'
  · obtain ⟨_, a, c, rfl, _⟩ := hk
    obtain ⟨_, a', c', rfl, _⟩ := hv
    exact (refEncode_no _ _ _ _ _ _ _ _ _ (by omega)).mono fun r w' h' => .inr ⟨fun e => h ⟨e.1, e.2.1⟩, h'⟩

/-- The words that came out, or none. -/
def encL (ks vs : List Int) (next high : Int) (b : Bool) : List Int := (List.range 28).map (encW ks vs next high b)
theorem encAll_form {ks vs : List Int} {next high : Int} {b : Bool} {r : Ending} {w' : World} (h : EncAll w ks vs next high b r w') :
    ∃ (xs : List Int) (sv : Value) (e : Int), r = .returned (.tuple #[sv, .int .i64 e]) ∧ RdSl w' 1 sv xs.length (intsU xs) ∧ xs.length ≤ 28 ∧ Below w.heap.size w w' ∧
      ((encOk ks vs high b ∧ xs = encL ks vs next high b ∧ e = 0) ∨ (¬ encOk ks vs high b ∧ xs = [] ∧ e = 1)) := by
  rcases h with ⟨hk, g, rfl, hr, hg, hb⟩ | ⟨hk, rfl, hb⟩
  · refine ⟨encL ks vs next high b, _, 0, rfl, ⟨by simp [intsU], _, _, by rw [show (encL ks vs next high b).length = 28 by simp [encL]], by simp [encL], .inr ⟨g, 0, rfl, fun j u hu => ?_⟩⟩, by simp [encL], hb, .inl ⟨hk, rfl, rfl⟩⟩
    have hj : j < 28 := by
      rcases Nat.lt_or_ge j 28 with h | h
      · exact h
      · rw [List.getElem?_eq_none (by simp [intsU, encL]; exact h)] at hu; cases hu
    have : u = .int .u64 (encW ks vs next high b j) := by simp [intsU, encL, hj] at hu; exact hu.symm
    rw [this, Nat.zero_add]; exact hr.cell hj
  · exact ⟨[], _, 1, rfl, (OwnSl.nil w' 0 1).rd, by simp, hb, .inr ⟨hk, rfl, rfl⟩⟩
theorem enc_same {ks vs xs ys : List Int} {next high e f : Int} {b : Bool} (h : (encOk ks vs high b ∧ xs = encL ks vs next high b ∧ e = 0) ∨ (¬ encOk ks vs high b ∧ xs = [] ∧ e = 1))
    (h' : (encOk ks vs high b ∧ ys = encL ks vs next high b ∧ f = 0) ∨ (¬ encOk ks vs high b ∧ ys = [] ∧ f = 1)) : e = f ∧ xs = ys := by
  rcases h with ⟨k, rfl, rfl⟩ | ⟨k, rfl, rfl⟩ <;> rcases h' with ⟨k', rfl, rfl⟩ | ⟨k', rfl, rfl⟩
  · exact ⟨rfl, rfl⟩
  · exact absurd k k'
  · exact absurd k' k
  · exact ⟨rfl, rfl⟩
theorem RdSl.takeU {a : Option Addr} {c : Nat} {xs : List Int} (h : RdSl w 1 (.slice a xs.length c) xs.length (intsU xs)) (k : Nat) (hk : k ≤ xs.length) : RdSl w 1 (.slice a k c) (xs.take k).length (intsU (xs.take k)) := by
  have hkl : (xs.take k).length = k := by rw [List.length_take]; omega
  obtain ⟨_, a', c', e, hc, h2⟩ := h
  cases e
  refine ⟨by simp [intsU], a, c, by rw [hkl], by omega, ?_⟩
  rcases h2 with h2 | ⟨b, o, rfl, h3⟩
  · have : xs = [] := by simpa [intsU] using h2
    subst this; left; simp [intsU]
  · refine .inr ⟨b, o, rfl, fun j u hu => h3 j u ?_⟩
    rw [intsU, List.getElem?_map, List.getElem?_take] at hu
    rw [intsU, List.getElem?_map]
    split at hu
    · exact hu
    · cases hu

theorem enc_below {w1 w2 w3 w4 : World} {q : Nat} (h1 : Below w.heap.size w w1) (h2 : Below (w1.drewN q).heap.size (w1.drewN q) w2) (h3 : Below w2.heap.size w2 w3) (h4 : Below w3.heap.size w3 w4) : Below w.heap.size w w4 := by
  have a2 := h1.trans ((Qt.below ⟨q, rfl⟩ : Below w1.heap.size w1 (w1.drewN q)).mono h1.size)
  have a3 := a2.trans (h2.mono a2.size)
  have a4 := a3.trans (h3.mono a3.size)
  exact a4.trans (h4.mono a4.size)

set_option maxRecDepth 100000 in
set_option maxHeartbeats 4000000 in
theorem leafEncodes_walk (ka va : Option Addr) (kc vc : Nat) (ks vs : List Int) (next high : Int) (b : Bool) (hk : RdSl w 1 (.slice ka ks.length kc) ks.length (intsU ks)) (hv : RdSl w 1 (.slice va vs.length vc) vs.length (intsU vs))
    (hm1 : ks.length ≤ maxLen) (hm2 : vs.length ≤ maxLen) :
    Calls Try.prog 3 #[.slice ka ks.length kc, .slice va vs.length vc, .agg #[.int .u64 next, .int .u64 high, .bool b]] w fun r w' => r = .returned (.bool true) ∧ Below w.heap.size w w' := by
  unfold maxLen at hm1 hm2
  have hkc : ks.length ≤ kc := by obtain ⟨_, _, _, e, h, _⟩ := hk; cases e; exact h
  have hvc : vs.length ≤ vc := by obtain ⟨_, _, _, e, h, _⟩ := hv; cases e; exact h
  obtain ⟨k, hk1, hkm⟩ : ∃ k : Nat, k ≤ ks.length ∧ (k = ks.length ∧ (k : Int) ≤ 14 ∨ k = 14 ∧ (14 : Int) < ks.length) := ⟨min ks.length 14, by omega, by omega⟩
  obtain ⟨m, hm1, hmm⟩ : ∃ k : Nat, k ≤ vs.length ∧ (k = vs.length ∧ (k : Int) ≤ 14 ∨ k = 14 ∧ (14 : Int) < vs.length) := ⟨min vs.length 14, by omega, by omega⟩
  have HK := Lib.hid (hk.takeU k hk1); have HV := Lib.hid (hv.takeU m hm1)
  clear hk hv
  have i1 : (0 : Int) ≤ k := by omega
  have i2 : (k : Int) ≤ kc := by omega
  have i3 : (0 : Int) ≤ m := by omega
  have i4 : (m : Int) ≤ vc := by omega
  generalize hn1 : ks.length = n1 at *
  generalize hn2 : vs.length = n2 at *
  clear hn1 hn2
  generalize ks.take k = ks' at *
  generalize vs.take m = vs' at *
  have main : ∀ (w1 : World), Below (w.alloc (.cells #[.int .u64 next, .int .u64 high, .bool b] 25)).heap.size (w.alloc (.cells #[.int .u64 next, .int .u64 high, .bool b] 25)) w1 →
      (Below w.heap.size w w1 ∧ RdSl w1 1 (.slice ka k kc) ks'.length (intsU ks') ∧ RdSl w1 1 (.slice va m vc) vs'.length (intsU vs') ∧ w1.cell? ⟨w.heap.size, 0, none⟩ = some (.int .u64 next) ∧ w1.cell? ⟨w.heap.size, 1, none⟩ = some (.int .u64 high) ∧ w1.cell? ⟨w.heap.size, 2, none⟩ = some (.bool b)) := by
    intro w1 b1
    have hb : Below w.heap.size w w1 := (below_alloc w _).trans (b1.mono (by simp))
    exact ⟨hb, HK.out.below hb, HV.out.below hb, cell_bel b1 ((Blk.new w _ 25).cell rfl), cell_bel b1 ((Blk.new w _ 25).cell rfl), cell_bel b1 ((Blk.new w _ 25).cell rfl)⟩
  have MAIN := Lib.hid main; clear main HK HV
  rcases hkm with ⟨rfl, hkm⟩ | ⟨rfl, hkm⟩ <;> rcases hmm with ⟨rfl, hmm⟩ | ⟨rfl, hmm⟩
  all_goals
    go_enter Try.func3, Try.ntmps3
    go_wp2_with fail
    (with_reducible refine awake_any.mono ?_)
    rintro e w1 ⟨rfl, b1⟩
    obtain ⟨hb, hk, hv, c0, c1, c2⟩ := MAIN.out w1 b1
    have HB := Lib.hid hb; have HK := Lib.hid hk; have HV := Lib.hid hv
    clear b1 hb hk hv
    go_wp2_with fail
    go_quiet (fail)
    go_wp2_with fail
    (with_reducible refine (encode_all _ _ ks' vs' _ _ _ ?_ ?_).mono ?_)
    · exact HK.out.drewN _
    · exact HV.out.drewN _
    rintro e w2 he
    obtain ⟨xs, sv, e2, rfl, r2, l2, b2, o2⟩ := encAll_form he
    have c0' := cell_bel b2 c0; have c1' := cell_bel b2 c1; have c2' := cell_bel b2 c2
    have E2 := Lib.hid (And.intro r2 (And.intro l2 (And.intro b2 o2))); clear he r2 l2 b2 o2 c0 c1 c2
    go_wp2_with fail
    (with_reducible refine (refEncode_all _ _ ks' vs' _ _ _ ?_ ?_).mono ?_)
    · exact (HK.out.drewN _).below E2.out.2.2.1
    · exact (HV.out.drewN _).below E2.out.2.2.1
    rintro e w3 he
    obtain ⟨ys, tv, e3, rfl, r3, l3, b3, o3⟩ := encAll_form he
    obtain ⟨ee, exy⟩ := enc_same E2.out.2.2.2 o3
    have HE := Lib.hid exy
    subst ee
    have hee : (e2 == e2) = true := by simp
    have E3 := Lib.hid (And.intro r3 (And.intro l3 b3)); clear he r3 l3 b3 o3 exy c0' c1' c2'
    go_wp2_with fail
    (with_reducible refine (equalU_any _ _ xs ys ?_ ?_ ?_ ?_).mono ?_)
    · exact E2.out.1.below E3.out.2.2
    · exact E3.out.1
    · have := E2.out.2.1; omega
    · have := E3.out.2.1; omega
    rintro e w4 ⟨rfl, b4⟩
    have hdd : decide (xs = ys) = true := by simp [HE.out]
    rw [hdd]
    have B4 := Lib.hid b4; clear b4 hdd
    go_wp2_with fail
    go_ret
    exact ⟨rfl, enc_below HB.out E2.out.2.2.1 E3.out.2.2 B4.out⟩
end
end Go.Proofs.Ytkoijmoendepgaa
