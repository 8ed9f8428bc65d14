/- Arguments opened: [4]uint8 and [3]uint8 by value. -/
import Derived.Test.YtbpaamnofkhonaaDoorFrame
import Derived.Test.YtbpaamnofkhonaaDoorSbY
import Derived.Laws.IdiomArrays
import Derived.Lib.SmallJoins
import Derived.Deep.Fields
import Derived.Test.YtbpaamnofkhonaaDoorSbT
import Derived.Test.YtbpaamnofkhonaaDoorSbB
namespace Go.Proofs.YtbpaamnofkhonaaDoor
open Go.ChangeShapes Go.WideShapes Go.ChangeAt Go.RowKit Go.Joins Go.Deep

section
variable {H : Type} {enc : TypeId × Value → H}
theorem cells_u8 : Tryd.prog.cellsOf 5 = 1 := by kernel_rfl
theorem cells_arr4b : Tryd.prog.cellsOf 38 = 4 := by kernel_rfl
theorem cells_arr3b : Tryd.prog.cellsOf 80 = 3 := by kernel_rfl
theorem u8_in {x : Int} (h : (Lit.int .u8 x).wf = true) : ∃ n : Nat, x = n ∧ n < 256 := by
  simp [Lit.wf, IntKind.min, IntKind.max, IntKind.signed, IntKind.bits] at h
  exact ⟨x.toNat, by omega, by omega⟩
set_option maxRecDepth 100000 in
theorem open_arr4b {W : World} {base b : Nat} {sp : Nat → Bool} {hd : Bool} {v : Value} {d : DataW H} {p : List MemPlace} (hv : Value.okWide Tryd.prog W .any b 38 v) (h : DataW.Trod enc Tryd.prog W base sp hd 38 v d p) :
    ∃ c0 c1 c2 c3 : Nat, v = .agg #[.int .u8 c0, .int .u8 c1, .int .u8 c2, .int .u8 c3] ∧ c0 < 256 ∧ c1 < 256 ∧ c2 < 256 ∧ c3 < 256 := by
  simp only [Value.okWide, Tryd.underlying38] at hv
  obtain ⟨cs, rfl, hsz, _⟩ := hv
  rw [cells_arr4b] at hsz
  obtain ⟨l⟩ := cs
  obtain ⟨v0, v1, v2, v3, rfl⟩ : ∃ v0 v1 v2 v3, l = [v0, v1, v2, v3] := by
    match l, hsz with
    | [a, b, c, d], _ => exact ⟨a, b, c, d, rfl⟩
  obtain ⟨fuel, hf⟩ := h
  obtain ⟨y0, y1, y2, y3, m, _, hy0, hy1, hy2, hy3⟩ := trod_array4 Tryd.underlying38 cells_u8 hf
  obtain ⟨x0, e0, _, w0⟩ := DataW.trod_int Tryd.underlying5 hy0
  obtain ⟨x1, e1, _, w1⟩ := DataW.trod_int Tryd.underlying5 hy1
  obtain ⟨x2, e2, _, w2⟩ := DataW.trod_int Tryd.underlying5 hy2
  obtain ⟨x3, e3, _, w3⟩ := DataW.trod_int Tryd.underlying5 hy3
  simp at e0 e1 e2 e3
  subst e0 e1 e2 e3
  obtain ⟨c0, rfl, k0⟩ := u8_in w0
  obtain ⟨c1, rfl, k1⟩ := u8_in w1
  obtain ⟨c2, rfl, k2⟩ := u8_in w2
  obtain ⟨c3, rfl, k3⟩ := u8_in w3
  exact ⟨c0, c1, c2, c3, rfl, k0, k1, k2, k3⟩
set_option maxRecDepth 100000 in
theorem open_arr3b {W : World} {base b : Nat} {sp : Nat → Bool} {hd : Bool} {v : Value} {d : DataW H} {p : List MemPlace} (hv : Value.okWide Tryd.prog W .any b 80 v) (h : DataW.Trod enc Tryd.prog W base sp hd 80 v d p) :
    ∃ c0 c1 c2 : Nat, v = .agg #[.int .u8 c0, .int .u8 c1, .int .u8 c2] ∧ c0 < 256 ∧ c1 < 256 ∧ c2 < 256 := by
  simp only [Value.okWide, Tryd.underlying80] at hv
  obtain ⟨cs, rfl, hsz, _⟩ := hv
  rw [cells_arr3b] at hsz
  obtain ⟨l⟩ := cs
  obtain ⟨v0, v1, v2, rfl⟩ : ∃ v0 v1 v2, l = [v0, v1, v2] := by
    match l, hsz with
    | [a, b, c], _ => exact ⟨a, b, c, rfl⟩
  obtain ⟨fuel, hf⟩ := h
  obtain ⟨y0, y1, y2, m, _, hy0, hy1, hy2⟩ := trod_array3 Tryd.underlying80 cells_u8 hf
  obtain ⟨x0, e0, _, w0⟩ := DataW.trod_int Tryd.underlying5 hy0
  obtain ⟨x1, e1, _, w1⟩ := DataW.trod_int Tryd.underlying5 hy1
  obtain ⟨x2, e2, _, w2⟩ := DataW.trod_int Tryd.underlying5 hy2
  simp at e0 e1 e2
  subst e0 e1 e2
  obtain ⟨c0, rfl, k0⟩ := u8_in w0
  obtain ⟨c1, rfl, k1⟩ := u8_in w1
  obtain ⟨c2, rfl, k2⟩ := u8_in w2
  exact ⟨c0, c1, c2, rfl, k0, k1, k2⟩
end
end Go.Proofs.YtbpaamnofkhonaaDoor

/- A superblock that came in as an argument, opened. -/
namespace Go.Proofs.YtbpaamnofkhonaaDoor
open Go.ChangeShapes Go.WideShapes Go.ChangeAt Go.RowKit Go.Joins Go.Deep

section
variable {H : Type} {enc : TypeId × Value → H} {P : Program}
/-- A struct of one-cell fields, by value, opened: each field's value and its reading. -/
theorem open_fields {W : World} {base b : Nat} {sp : Nat → Bool} {hd : Bool} {r : Reach} {t : TypeId} {fs : Array Field} {v : Value} {d : DataW H} {p : List MemPlace} (hs : P.underlying t = some (.struct fs)) (hone : oneCellFields P fs = true)
    (hC : P.cellsOf t = fs.size) (hv : Value.okWide P W r b t v) (h : DataW.Trod enc P W base sp hd t v d p) :
    ∃ (l : List Value) (n : Nat), v = .agg l.toArray ∧ l.length = fs.size ∧ ∀ (j : Nat) (f : Field), fs[j]? = some f → ∃ (c : Value) (y : DataW H × List MemPlace), l[j]? = some c ∧ DataW.trod enc P W base sp hd n f.type [c] = some y := by
  obtain ⟨cs, rfl, hsz⟩ := okWide_struct hs hv
  obtain ⟨l⟩ := cs
  obtain ⟨fuel, hf⟩ := h
  obtain ⟨xs, n, _, hx, _, hlen, hg⟩ := DataW.trod_struct hs hf
  have hl : l.length = fs.size := by simpa using hsz.trans hC
  refine ⟨l, n, rfl, hl, fun j f hj => ?_⟩
  obtain ⟨ho, hk⟩ := hone_of hone j f hj
  have hjl : j < fs.size := (Array.getElem?_eq_some_iff.1 hj).1
  have h1 := hg j f hj
  rw [ho, hk] at h1
  have hone' : (l.drop j).take 1 = [l[j]'(by omega)] := by
    rw [List.drop_eq_getElem_cons (by omega)]; rfl
  have hys : xs[j]? = some (xs[j]'(by omega)) := List.getElem?_eq_getElem (by omega)
  refine ⟨l[j]'(by omega), xs[j]'(by omega), List.getElem?_eq_getElem (by omega), ?_⟩
  rw [← hys, ← h1, ← hone']
  rfl
end
/-- The numbers of a superblock are Go's. -/
structure Sup.I64 (s : Sup) : Prop where
  v : -9223372036854775808 ≤ s.ver ∧ s.ver < 9223372036854775808
  l : -9223372036854775808 ≤ s.lin ∧ s.lin < 9223372036854775808
  g : 0 ≤ s.gen ∧ s.gen < 18446744073709551616
section
variable {H : Type} {enc : TypeId × Value → H}
theorem i64_in {x : Int} (h : (Lit.int .i64 x).wf = true) : -9223372036854775808 ≤ x ∧ x < 9223372036854775808 := by
  simp [Lit.wf, IntKind.min, IntKind.max, IntKind.signed, IntKind.bits] at h
  exact ⟨by omega, by omega⟩
theorem u64_in {x : Int} (h : (Lit.int .u64 x).wf = true) : 0 ≤ x ∧ x < 18446744073709551616 := by
  simp [Lit.wf, IntKind.min, IntKind.max, IntKind.signed, IntKind.bits] at h
  exact ⟨by omega, by omega⟩
theorem u8_nat {x : Int} (h : (Lit.int .u8 x).wf = true) : ∃ n : Nat, x = n ∧ n < 256 := by
  simp [Lit.wf, IntKind.min, IntKind.max, IntKind.signed, IntKind.bits] at h
  exact ⟨x.toNat, by omega, by omega⟩
set_option maxRecDepth 100000 in
theorem open_super {W : World} {base b : Nat} {sp : Nat → Bool} {hd : Bool} {v : Value} {d : DataW H} {p : List MemPlace} (hv : Value.okWide Tryd.prog W .any b 24 v) (h : DataW.Trod enc Tryd.prog W base sp hd 24 v d p) :
    ∃ s : Sup, v = .agg s.cells ∧ s.I64 := by
  obtain ⟨l, n, rfl, hl, hf⟩ := open_fields Tryd.underlying24 (by kernel_rfl) (by kernel_rfl) hv h
  obtain ⟨v0, v1, v2, v3, v4, v5, v6, v7, rfl⟩ : ∃ v0 v1 v2 v3 v4 v5 v6 v7, l = [v0, v1, v2, v3, v4, v5, v6, v7] := by
    match l, hl with
    | [a, b, c, d, e, f, g, h], _ => exact ⟨a, b, c, d, e, f, g, h, rfl⟩
  obtain ⟨u0, y0, e0, t0⟩ := hf 0 _ rfl
  obtain ⟨u1, y1, e1, t1⟩ := hf 1 _ rfl
  obtain ⟨u2, y2, e2, t2⟩ := hf 2 _ rfl
  obtain ⟨u3, y3, e3, t3⟩ := hf 3 _ rfl
  obtain ⟨u4, y4, e4, t4⟩ := hf 4 _ rfl
  obtain ⟨u5, y5, e5, t5⟩ := hf 5 _ rfl
  obtain ⟨u6, y6, e6, t6⟩ := hf 6 _ rfl
  obtain ⟨u7, y7, e7, t7⟩ := hf 7 _ rfl
  obtain ⟨x0, h0, _, w0⟩ := DataW.trod_int Tryd.underlying3 t0
  obtain ⟨x1, h1, _, w1⟩ := DataW.trod_int Tryd.underlying3 t1
  obtain ⟨x2, h2, _, w2⟩ := DataW.trod_int Tryd.underlying3 t2
  obtain ⟨x3, h3, _, w3⟩ := DataW.trod_int Tryd.underlying3 t3
  obtain ⟨x4, h4, _, w4⟩ := DataW.trod_int Tryd.underlying3 t4
  obtain ⟨x5, h5, _, w5⟩ := DataW.trod_int Tryd.underlying3 t5
  obtain ⟨x6, h6, _, w6⟩ := DataW.trod_int Tryd.underlying3 t6
  obtain ⟨x7, h7, _, w7⟩ := DataW.trod_int Tryd.underlying22 t7
  simp only [List.getElem?_cons_zero, List.getElem?_cons_succ, Option.some.injEq, List.cons.injEq, and_true] at e0 e1 e2 e3 e4 e5 e6 e7 h0 h1 h2 h3 h4 h5 h6 h7
  subst e0 e1 e2 e3 e4 e5 e6 e7
  subst h0 h1 h2 h3 h4 h5 h6 h7
  exact ⟨⟨x0, x1, x2, x3, x4, x5, x6, x7⟩, rfl, i64_in w0, i64_in w1, u64_in w7⟩
end
end Go.Proofs.YtbpaamnofkhonaaDoor

/- Arguments opened: the description of a copy, by value; [6]uint8 and [2]uint8 by value. -/
namespace Go.Proofs.YtbpaamnofkhonaaDoor
open Go.ChangeShapes Go.WideShapes Go.ChangeAt Go.RowKit Go.Joins Go.Deep

section
variable {H : Type} {enc : TypeId × Value → H}
theorem cells_u16 : Tryd.prog.cellsOf 39 = 1 := by kernel_rfl
theorem cells_arr8u : Tryd.prog.cellsOf 40 = 8 := by kernel_rfl
theorem cells_Half : Tryd.prog.cellsOf 42 = 15 := by kernel_rfl
theorem cells_arr6b : Tryd.prog.cellsOf 83 = 6 := by kernel_rfl
theorem cells_arr2b : Tryd.prog.cellsOf 85 = 2 := by kernel_rfl
theorem u64_nat' {x : Int} (h : (Lit.int .u64 x).wf = true) : ∃ n : Nat, x = n ∧ n < 18446744073709551616 := by
  obtain ⟨h1, h2⟩ := u64_in h
  exact ⟨x.toNat, by omega, by omega⟩
theorem u16_nat {x : Int} (h : (Lit.int .u16 x).wf = true) : ∃ n : Nat, x = n ∧ n < 65536 := by
  simp [Lit.wf, IntKind.min, IntKind.max, IntKind.signed, IntKind.bits] at h
  exact ⟨x.toNat, by omega, by omega⟩
/-- The numbers of an array of one-cell numbers. -/
theorem trod_nums {W : World} {base : Nat} {sp : Nat → Bool} {hd : Bool} {fuel : Nat} {t e : TypeId} {n : Nat} {cs : List Value} {x : DataW H × List MemPlace} (k : IntKind) (ht : Tryd.prog.underlying t = some (.array n e)) (hc : Tryd.prog.cellsOf e = 1) (he : Tryd.prog.underlying e = some (.int k)) (hn : cs.length = n)
    (h : DataW.trod enc Tryd.prog W base sp hd fuel t cs = some x) : ∀ i, i < n → ∃ y : Int, cs[i]? = some (.int k y) ∧ (Lit.int k y).wf = true := by
  obtain ⟨xs, m, _, _, _, hlen, hg⟩ := DataW.trod_array ht h
  intro i hi
  have h1 := hg i hi
  rw [hc, Nat.mul_one] at h1
  have hone : (cs.drop i).take 1 = [cs[i]'(by omega)] := by
    rw [List.drop_eq_getElem_cons (by omega)]; rfl
  rw [hone, List.getElem?_eq_getElem (show i < xs.length by omega)] at h1
  obtain ⟨z, h2, _, hw⟩ := DataW.trod_int he h1
  exact ⟨z, by rw [List.getElem?_eq_getElem (by omega)]; simpa using h2, hw⟩
set_option maxRecDepth 100000 in
theorem open_half {W : World} {base b : Nat} {sp : Nat → Bool} {hd : Bool} {v : Value} {d : DataW H} {p : List MemPlace} (hv : Value.okWide Tryd.prog W .any b 42 v) (h : DataW.Trod enc Tryd.prog W base sp hd 42 v d p) :
    ∃ h : Hf, v = .agg h.cells ∧ h.Ok := by
  obtain ⟨cs, rfl, hsz⟩ := okWide_struct Tryd.underlying42 hv
  rw [cells_Half] at hsz
  obtain ⟨l⟩ := cs
  obtain ⟨c0, c1, c2, c3, c4, c5, c6, c7, c8, c9, c10, c11, c12, c13, c14, rfl⟩ : ∃ c0 c1 c2 c3 c4 c5 c6 c7 c8 c9 c10 c11 c12 c13 c14, l = [c0, c1, c2, c3, c4, c5, c6, c7, c8, c9, c10, c11, c12, c13, c14] := by
    match l, hsz with
    | [c0, c1, c2, c3, c4, c5, c6, c7, c8, c9, c10, c11, c12, c13, c14], _ => exact ⟨c0, c1, c2, c3, c4, c5, c6, c7, c8, c9, c10, c11, c12, c13, c14, rfl⟩
  obtain ⟨fuel, hf⟩ := h
  obtain ⟨xs, n, _, _, _, hlen, hg⟩ := DataW.trod_struct Tryd.underlying42 hf
  have hlen5 : xs.length = 5 := hlen
  obtain ⟨y0, y1, y2, y3, y4, rfl⟩ : ∃ y0 y1 y2 y3 y4, xs = [y0, y1, y2, y3, y4] := by
    match xs, hlen5 with
    | [a, b, c, d, e], _ => exact ⟨a, b, c, d, e, rfl⟩
  have g0 : DataW.trod enc Tryd.prog W base sp hd n 5 [c0] = some y0 := by have := hg 0 _ rfl; simpa [cells_u8, Value.cells] using this
  have g1 : DataW.trod enc Tryd.prog W base sp hd n 38 [c1, c2, c3, c4] = some y1 := by have := hg 1 _ rfl; simpa [cells_arr4b, Value.cells] using this
  have g2 : DataW.trod enc Tryd.prog W base sp hd n 22 [c5] = some y2 := by have := hg 2 _ rfl; simpa [cells_u64, Value.cells] using this
  have g3 : DataW.trod enc Tryd.prog W base sp hd n 39 [c6] = some y3 := by have := hg 3 _ rfl; simpa [cells_u16, Value.cells] using this
  have g4 : DataW.trod enc Tryd.prog W base sp hd n 40 [c7, c8, c9, c10, c11, c12, c13, c14] = some y4 := by have := hg 4 _ rfl; simpa [cells_arr8u, Value.cells] using this
  obtain ⟨x0, e0, _, w0⟩ := DataW.trod_int Tryd.underlying5 g0
  obtain ⟨x5, e5, _, w5⟩ := DataW.trod_int Tryd.underlying22 g2
  obtain ⟨x6, e6, _, w6⟩ := DataW.trod_int Tryd.underlying39 g3
  have n1 := trod_nums .u8 Tryd.underlying38 cells_u8 Tryd.underlying5 rfl g1
  have n4 := trod_nums .u64 Tryd.underlying40 cells_u64 Tryd.underlying22 rfl g4
  obtain ⟨z1, e1, w1⟩ := n1 0 (by omega)
  obtain ⟨z2, e2, w2⟩ := n1 1 (by omega)
  obtain ⟨z3, e3, w3⟩ := n1 2 (by omega)
  obtain ⟨z4, e4, w4⟩ := n1 3 (by omega)
  obtain ⟨q0, f0, r0⟩ := n4 0 (by omega)
  obtain ⟨q1, f1, r1⟩ := n4 1 (by omega)
  obtain ⟨q2, f2, r2⟩ := n4 2 (by omega)
  obtain ⟨q3, f3, r3⟩ := n4 3 (by omega)
  obtain ⟨q4, f4, r4⟩ := n4 4 (by omega)
  obtain ⟨q5, f5, r5⟩ := n4 5 (by omega)
  obtain ⟨q6, f6, r6⟩ := n4 6 (by omega)
  obtain ⟨q7, f7, r7⟩ := n4 7 (by omega)
  simp only [List.getElem?_cons_zero, List.getElem?_cons_succ, Option.some.injEq, List.cons.injEq, and_true] at e0 e1 e2 e3 e4 e5 e6 f0 f1 f2 f3 f4 f5 f6 f7
  subst e0 e1 e2 e3 e4 e5 e6 f0 f1 f2 f3 f4 f5 f6 f7
  obtain ⟨k, rfl, hk⟩ := u8_nat w0
  obtain ⟨s0, rfl, h0⟩ := u8_nat w1
  obtain ⟨s1, rfl, h1⟩ := u8_nat w2
  obtain ⟨s2, rfl, h2⟩ := u8_nat w3
  obtain ⟨s3, rfl, h3⟩ := u8_nat w4
  obtain ⟨gn, rfl, h5⟩ := u64_nat' w5
  obtain ⟨bt, rfl, h6⟩ := u16_nat w6
  obtain ⟨v0, rfl, m0⟩ := u64_nat' r0
  obtain ⟨v1, rfl, m1⟩ := u64_nat' r1
  obtain ⟨v2, rfl, m2⟩ := u64_nat' r2
  obtain ⟨v3, rfl, m3⟩ := u64_nat' r3
  obtain ⟨v4, rfl, m4⟩ := u64_nat' r4
  obtain ⟨v5, rfl, m5⟩ := u64_nat' r5
  obtain ⟨v6, rfl, m6⟩ := u64_nat' r6
  obtain ⟨v7, rfl, m7⟩ := u64_nat' r7
  refine ⟨⟨k, s0, s1, s2, s3, gn, bt, [v0, v1, v2, v3, v4, v5, v6, v7]⟩, rfl, hk, h0, h1, h2, h3, h5, h6, rfl, fun x hx => ?_⟩
  simp only [List.mem_cons, List.not_mem_nil, or_false] at hx
  omega
set_option maxRecDepth 100000 in
theorem open_arr6b {W : World} {base b : Nat} {sp : Nat → Bool} {hd : Bool} {v : Value} {d : DataW H} {p : List MemPlace} (hv : Value.okWide Tryd.prog W .any b 83 v) (h : DataW.Trod enc Tryd.prog W base sp hd 83 v d p) :
    ∃ c0 c1 c2 c3 c4 c5 : Nat, v = .agg #[.int .u8 c0, .int .u8 c1, .int .u8 c2, .int .u8 c3, .int .u8 c4, .int .u8 c5] ∧ c0 < 256 ∧ c1 < 256 ∧ c2 < 256 ∧ c3 < 256 ∧ c4 < 256 ∧ c5 < 256 := by
  unfold Value.okWide at hv
  rw [Tryd.underlying83] at hv
  obtain ⟨cs, rfl, hsz, _⟩ := hv
  rw [cells_arr6b] at hsz
  obtain ⟨l⟩ := cs
  obtain ⟨v0, v1, v2, v3, v4, v5, rfl⟩ : ∃ v0 v1 v2 v3 v4 v5, l = [v0, v1, v2, v3, v4, v5] := by
    match l, hsz with
    | [a, b, c, d, e, f], _ => exact ⟨a, b, c, d, e, f, rfl⟩
  obtain ⟨fuel, hf⟩ := h
  have n1 : ∀ i, i < 6 → ∃ y : Int, [v0, v1, v2, v3, v4, v5][i]? = some (.int .u8 y) ∧ (Lit.int .u8 y).wf = true := trod_nums .u8 Tryd.underlying83 cells_u8 Tryd.underlying5 rfl hf
  obtain ⟨z0, e0, w0⟩ := n1 0 (by omega)
  obtain ⟨z1, e1, w1⟩ := n1 1 (by omega)
  obtain ⟨z2, e2, w2⟩ := n1 2 (by omega)
  obtain ⟨z3, e3, w3⟩ := n1 3 (by omega)
  obtain ⟨z4, e4, w4⟩ := n1 4 (by omega)
  obtain ⟨z5, e5, w5⟩ := n1 5 (by omega)
  simp only [List.getElem?_cons_zero, List.getElem?_cons_succ, Option.some.injEq] at e0 e1 e2 e3 e4 e5
  subst e0 e1 e2 e3 e4 e5
  obtain ⟨c0, rfl, k0⟩ := u8_in w0
  obtain ⟨c1, rfl, k1⟩ := u8_in w1
  obtain ⟨c2, rfl, k2⟩ := u8_in w2
  obtain ⟨c3, rfl, k3⟩ := u8_in w3
  obtain ⟨c4, rfl, k4⟩ := u8_in w4
  obtain ⟨c5, rfl, k5⟩ := u8_in w5
  exact ⟨c0, c1, c2, c3, c4, c5, rfl, k0, k1, k2, k3, k4, k5⟩
set_option maxRecDepth 100000 in
theorem open_arr2b {W : World} {base b : Nat} {sp : Nat → Bool} {hd : Bool} {v : Value} {d : DataW H} {p : List MemPlace} (hv : Value.okWide Tryd.prog W .any b 85 v) (h : DataW.Trod enc Tryd.prog W base sp hd 85 v d p) :
    ∃ c0 c1 : Nat, v = .agg #[.int .u8 c0, .int .u8 c1] ∧ c0 < 256 ∧ c1 < 256 := by
  unfold Value.okWide at hv
  rw [Tryd.underlying85] at hv
  obtain ⟨cs, rfl, hsz, _⟩ := hv
  rw [cells_arr2b] at hsz
  obtain ⟨l⟩ := cs
  obtain ⟨v0, v1, rfl⟩ : ∃ v0 v1, l = [v0, v1] := by
    match l, hsz with
    | [a, b], _ => exact ⟨a, b, rfl⟩
  obtain ⟨fuel, hf⟩ := h
  have n1 : ∀ i, i < 2 → ∃ y : Int, [v0, v1][i]? = some (.int .u8 y) ∧ (Lit.int .u8 y).wf = true := trod_nums .u8 Tryd.underlying85 cells_u8 Tryd.underlying5 rfl hf
  obtain ⟨z0, e0, w0⟩ := n1 0 (by omega)
  obtain ⟨z1, e1, w1⟩ := n1 1 (by omega)
  simp only [List.getElem?_cons_zero, List.getElem?_cons_succ, Option.some.injEq] at e0 e1
  subst e0 e1
  obtain ⟨c0, rfl, k0⟩ := u8_in w0
  obtain ⟨c1, rfl, k1⟩ := u8_in w1
  exact ⟨c0, c1, rfl, k0, k1⟩
end
end Go.Proofs.YtbpaamnofkhonaaDoor
