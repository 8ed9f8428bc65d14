/- Arguments opened: a call of the laws of layer 14, a slice of them. -/
import Derived.Test.YtmfchlliechikaaGreatDoorOpenS
import Derived.Test.YtmfchlliechikaaGreatDoorRuK
import Derived.ChangeMaps5
namespace Go.Proofs.YtmfchlliechikaaGreatDoor
open Go.ChangeShapes Go.WideShapes Go.ChangeAt Go.RowKit Go.Joins Go.Deep

section
variable {H : Type} {enc : TypeId × Value → H} {P : Program}
/-- A struct of one-cell fields, by value, opened: each field's value and its reading. -/
theorem open_fields {W : World} {base b : Nat} {sp : Nat → Bool} {hd : Bool} {r : Reach} {t : TypeId} {fs : Array Field} {v : Value} {d : DataW H} {p : List MemPlace} (hs : P.underlying t = some (.struct fs)) (hone : oneCellFields P fs = true)
    (hC : P.cellsOf t = fs.size) (hv : Value.okWide P W r b t v) (h : DataW.Trod enc P W base sp hd t v d p) :
    ∃ (l : List Value) (n : Nat), v = .agg l.toArray ∧ l.length = fs.size ∧ ∀ (j : Nat) (f : Field), fs[j]? = some f → ∃ (c : Value) (y : DataW H × List MemPlace), l[j]? = some c ∧ DataW.trod enc P W base sp hd n f.type [c] = some y := by
  obtain ⟨cs, rfl, hsz⟩ := okWide_struct hs hv
  obtain ⟨l⟩ := cs
  obtain ⟨fuel, hf⟩ := h
  obtain ⟨xs, n, _, hx, _, hlen, hg⟩ := DataW.trod_struct hs hf
  have hl : l.length = fs.size := by simpa using hsz.trans hC
  refine ⟨l, n, rfl, hl, fun j f hj => ?_⟩
  obtain ⟨ho, hk⟩ := hone_of hone j f hj
  have hjl : j < fs.size := (Array.getElem?_eq_some_iff.1 hj).1
  have h1 := hg j f hj
  rw [ho, hk] at h1
  have hone' : (l.drop j).take 1 = [l[j]'(by omega)] := by
    rw [List.drop_eq_getElem_cons (by omega)]; rfl
  have hys : xs[j]? = some (xs[j]'(by omega)) := List.getElem?_eq_getElem (by omega)
  refine ⟨l[j]'(by omega), xs[j]'(by omega), List.getElem?_eq_getElem (by omega), ?_⟩
  rw [← hys, ← h1, ← hone']
  rfl
end
theorem u8_nat {x : Int} (h : (Lit.int .u8 x).wf = true) : ∃ n : Nat, x = n ∧ n < 256 := by
  simp [Lit.wf, IntKind.min, IntKind.max, IntKind.signed, IntKind.bits] at h
  exact ⟨x.toNat, by omega, by omega⟩
section
variable {H : Type} {enc : TypeId × Value → H}
set_option maxRecDepth 100000 in
theorem open_opsR {W : World} {base b : Nat} {sp : Nat → Bool} {hd : Bool} {v : Value} {d : DataW H} {p : List MemPlace} (hv : Value.okWide Tryz.prog W .any b 24 v) (h : DataW.Trod enc Tryz.prog W base sp hd 24 v d p) :
    ∃ (n : Nat) (xs : List Value), RdSl W 3 v n xs ∧ n ≤ maxLen ∧ ∀ i, i < n → OpR xs i := by
  obtain ⟨a0, len, cap, rfl⟩ := okWide_slice Tryz.underlying24 hv
  obtain ⟨fuel, hf⟩ := h
  obtain ⟨a, n, c, xs, hv', hrd, hn, hfl⟩ := open_structs Tryz.underlying24 Tryz.underlying40 (by kernel_rfl) (by kernel_rfl) (by decide) hf
  obtain ⟨rfl, rfl, rfl⟩ : a0 = a ∧ len = n ∧ cap = c := by simpa using hv'
  refine ⟨len, xs, hrd, hn, fun i hi => ?_⟩
  obtain ⟨q, hq⟩ := hfl i hi
  obtain ⟨u0, y0, e0, t0⟩ := hq 0 _ rfl
  obtain ⟨u1, y1, e1, t1⟩ := hq 1 _ rfl
  obtain ⟨u2, y2, e2, t2⟩ := hq 2 _ rfl
  obtain ⟨x0, h0, _, w0⟩ := DataW.trod_int Tryz.underlying5 t0
  obtain ⟨x1, h1, _, _⟩ := DataW.trod_string Tryz.underlying9 t1
  obtain ⟨x2, h2, _, w2⟩ := DataW.trod_int Tryz.underlying32 t2
  simp only [List.cons.injEq, and_true] at h0 h1 h2
  subst h0 h1 h2
  obtain ⟨m0, rfl, b0⟩ := u8_nat w0
  obtain ⟨m2, rfl, b2⟩ := u64_nat w2
  exact ⟨m0, x1, m2, e0, e1, e2, b0, b2⟩
set_option maxRecDepth 100000 in
theorem open_opR {W : World} {base b : Nat} {sp : Nat → Bool} {hd : Bool} {r : Reach} {v : Value} {d : DataW H} {p : List MemPlace} (hv : Value.okWide Tryz.prog W r b 40 v) (h : DataW.Trod enc Tryz.prog W base sp hd 40 v d p) :
    ∃ (o : Nat) (s : ByteArray) (x : Nat), v = .agg #[.int .u8 o, .string s, .int .u64 x] ∧ o < 256 ∧ x < 18446744073709551616 := by
  obtain ⟨l, n, rfl, hl, hf⟩ := open_fields Tryz.underlying40 (by kernel_rfl) (by kernel_rfl) hv h
  match l, hl with
  | [c0, c1, c2], _ =>
    obtain ⟨_, y0, e0, t0⟩ := hf 0 _ rfl; cases e0
    obtain ⟨_, y1, e1, t1⟩ := hf 1 _ rfl; cases e1
    obtain ⟨_, y2, e2, t2⟩ := hf 2 _ rfl; cases e2
    obtain ⟨x0, h0, _, w0⟩ := DataW.trod_int Tryz.underlying5 t0
    obtain ⟨x1, h1, _, _⟩ := DataW.trod_string Tryz.underlying9 t1
    obtain ⟨x2, h2, _, w2⟩ := DataW.trod_int Tryz.underlying32 t2
    simp only [List.cons.injEq, and_true] at h0 h1 h2
    subst h0 h1 h2
    obtain ⟨m0, rfl, b0⟩ := u8_nat w0
    obtain ⟨m2, rfl, b2⟩ := u64_nat w2
    exact ⟨m0, x1, m2, rfl, b0, b2⟩
end
end Go.Proofs.YtmfchlliechikaaGreatDoor
