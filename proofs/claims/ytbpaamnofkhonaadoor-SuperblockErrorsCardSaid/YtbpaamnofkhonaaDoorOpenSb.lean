/- A superblock that came in as an argument, opened. -/
import Derived.Test.YtbpaamnofkhonaaDoorFrame
import Derived.Test.YtbpaamnofkhonaaDoorSbT
import Derived.Lib.SmallJoins
import Derived.Deep.Fields
namespace Go.Proofs.YtbpaamnofkhonaaDoor
open Go.ChangeShapes Go.WideShapes Go.ChangeAt Go.RowKit Go.Joins Go.Deep

section
variable {H : Type} {enc : TypeId × Value → H} {P : Program}
/-- A struct of one-cell fields, by value, opened: each field's value and its reading. -/
theorem open_fields {W : World} {base b : Nat} {sp : Nat → Bool} {hd : Bool} {r : Reach} {t : TypeId} {fs : Array Field} {v : Value} {d : DataW H} {p : List MemPlace} (hs : P.underlying t = some (.struct fs)) (hone : oneCellFields P fs = true)
    (hC : P.cellsOf t = fs.size) (hv : Value.okWide P W r b t v) (h : DataW.Trod enc P W base sp hd t v d p) :
    ∃ (l : List Value) (n : Nat), v = .agg l.toArray ∧ l.length = fs.size ∧ ∀ (j : Nat) (f : Field), fs[j]? = some f → ∃ (c : Value) (y : DataW H × List MemPlace), l[j]? = some c ∧ DataW.trod enc P W base sp hd n f.type [c] = some y := by
  obtain ⟨cs, rfl, hsz⟩ := okWide_struct hs hv
  obtain ⟨l⟩ := cs
  obtain ⟨fuel, hf⟩ := h
  obtain ⟨xs, n, _, hx, _, hlen, hg⟩ := DataW.trod_struct hs hf
  have hl : l.length = fs.size := by simpa using hsz.trans hC
  refine ⟨l, n, rfl, hl, fun j f hj => ?_⟩
  obtain ⟨ho, hk⟩ := hone_of hone j f hj
  have hjl : j < fs.size := (Array.getElem?_eq_some_iff.1 hj).1
  have h1 := hg j f hj
  rw [ho, hk] at h1
  have hone' : (l.drop j).take 1 = [l[j]'(by omega)] := by
    rw [List.drop_eq_getElem_cons (by omega)]; rfl
  have hys : xs[j]? = some (xs[j]'(by omega)) := List.getElem?_eq_getElem (by omega)
  refine ⟨l[j]'(by omega), xs[j]'(by omega), List.getElem?_eq_getElem (by omega), ?_⟩
  rw [← hys, ← h1, ← hone']
  rfl
end
/-- The numbers of a superblock are Go's. -/
structure Sup.I64 (s : Sup) : Prop where
  v : -9223372036854775808 ≤ s.ver ∧ s.ver < 9223372036854775808
  l : -9223372036854775808 ≤ s.lin ∧ s.lin < 9223372036854775808
  g : 0 ≤ s.gen ∧ s.gen < 18446744073709551616
section
variable {H : Type} {enc : TypeId × Value → H}
theorem i64_in {x : Int} (h : (Lit.int .i64 x).wf = true) : -9223372036854775808 ≤ x ∧ x < 9223372036854775808 := by
  simp [Lit.wf, IntKind.min, IntKind.max, IntKind.signed, IntKind.bits] at h
  exact ⟨by omega, by omega⟩
theorem u64_in {x : Int} (h : (Lit.int .u64 x).wf = true) : 0 ≤ x ∧ x < 18446744073709551616 := by
  simp [Lit.wf, IntKind.min, IntKind.max, IntKind.signed, IntKind.bits] at h
  exact ⟨by omega, by omega⟩
theorem u8_nat {x : Int} (h : (Lit.int .u8 x).wf = true) : ∃ n : Nat, x = n ∧ n < 256 := by
  simp [Lit.wf, IntKind.min, IntKind.max, IntKind.signed, IntKind.bits] at h
  exact ⟨x.toNat, by omega, by omega⟩
set_option maxRecDepth 100000 in
theorem open_super {W : World} {base b : Nat} {sp : Nat → Bool} {hd : Bool} {v : Value} {d : DataW H} {p : List MemPlace} (hv : Value.okWide Tryd.prog W .any b 24 v) (h : DataW.Trod enc Tryd.prog W base sp hd 24 v d p) :
    ∃ s : Sup, v = .agg s.cells ∧ s.I64 := by
  obtain ⟨l, n, rfl, hl, hf⟩ := open_fields Tryd.underlying24 (by kernel_rfl) (by kernel_rfl) hv h
  obtain ⟨v0, v1, v2, v3, v4, v5, v6, v7, rfl⟩ : ∃ v0 v1 v2 v3 v4 v5 v6 v7, l = [v0, v1, v2, v3, v4, v5, v6, v7] := by
    match l, hl with
    | [a, b, c, d, e, f, g, h], _ => exact ⟨a, b, c, d, e, f, g, h, rfl⟩
  obtain ⟨u0, y0, e0, t0⟩ := hf 0 _ rfl
  obtain ⟨u1, y1, e1, t1⟩ := hf 1 _ rfl
  obtain ⟨u2, y2, e2, t2⟩ := hf 2 _ rfl
  obtain ⟨u3, y3, e3, t3⟩ := hf 3 _ rfl
  obtain ⟨u4, y4, e4, t4⟩ := hf 4 _ rfl
  obtain ⟨u5, y5, e5, t5⟩ := hf 5 _ rfl
  obtain ⟨u6, y6, e6, t6⟩ := hf 6 _ rfl
  obtain ⟨u7, y7, e7, t7⟩ := hf 7 _ rfl
  obtain ⟨x0, h0, _, w0⟩ := DataW.trod_int Tryd.underlying3 t0
  obtain ⟨x1, h1, _, w1⟩ := DataW.trod_int Tryd.underlying3 t1
  obtain ⟨x2, h2, _, w2⟩ := DataW.trod_int Tryd.underlying3 t2
  obtain ⟨x3, h3, _, w3⟩ := DataW.trod_int Tryd.underlying3 t3
  obtain ⟨x4, h4, _, w4⟩ := DataW.trod_int Tryd.underlying3 t4
  obtain ⟨x5, h5, _, w5⟩ := DataW.trod_int Tryd.underlying3 t5
  obtain ⟨x6, h6, _, w6⟩ := DataW.trod_int Tryd.underlying3 t6
  obtain ⟨x7, h7, _, w7⟩ := DataW.trod_int Tryd.underlying22 t7
  simp only [List.getElem?_cons_zero, List.getElem?_cons_succ, Option.some.injEq, List.cons.injEq, and_true] at e0 e1 e2 e3 e4 e5 e6 e7 h0 h1 h2 h3 h4 h5 h6 h7
  subst e0 e1 e2 e3 e4 e5 e6 e7
  subst h0 h1 h2 h3 h4 h5 h6 h7
  exact ⟨⟨x0, x1, x2, x3, x4, x5, x6, x7⟩, rfl, i64_in w0, i64_in w1, u64_in w7⟩
end
end Go.Proofs.YtbpaamnofkhonaaDoor
