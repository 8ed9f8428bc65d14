/- Arguments opened: a call of the laws of layer 14, a slice of them. -/
import Derived.Test.YtmfchlliechikaaGreatDoorOpenS
import Derived.Test.YtmfchlliechikaaGreatDoorRuK
import Derived.ChangeMaps5
namespace Go.Proofs.YtmfchlliechikaaGreatDoor
open Go.ChangeShapes Go.WideShapes Go.ChangeAt Go.RowKit Go.Joins Go.Deep

section
variable {H : Type} {enc : TypeId × Value → H} {P : Program}
/-- A struct of one-cell fields, by value, opened: each field's value and its reading. -/
theorem open_fields {W : World} {base b : Nat} {sp : Nat → Bool} {hd : Bool} {r : Reach} {t : TypeId} {fs : Array Field} {v : Value} {d : DataW H} {p : List MemPlace} (hs : P.underlying t = some (.struct fs)) (hone : oneCellFields P fs = true)
    (hC : P.cellsOf t = fs.size) (hv : Value.okWide P W r b t v) (h : DataW.Trod enc P W base sp hd t v d p) :
    ∃ (l : List Value) (n : Nat), v = .agg l.toArray ∧ l.length = fs.size ∧ ∀ (j : Nat) (f : Field), fs[j]? = some f → ∃ (c : Value) (y : DataW H × List MemPlace), l[j]? = some c ∧ DataW.trod enc P W base sp hd n f.type [c] = some y := by
  obtain ⟨cs, rfl, hsz⟩ := okWide_struct hs hv
  obtain ⟨l⟩ := cs
  obtain ⟨fuel, hf⟩ := h
  obtain ⟨xs, n, _, hx, _, hlen, hg⟩ := DataW.trod_struct hs hf
  have hl : l.length = fs.size := by simpa using hsz.trans hC
  refine ⟨l, n, rfl, hl, fun j f hj => ?_⟩
  obtain ⟨ho, hk⟩ := hone_of hone j f hj
  have hjl : j < fs.size := (Array.getElem?_eq_some_iff.1 hj).1
  have h1 := hg j f hj
  rw [ho, hk] at h1
  have hone' : (l.drop j).take 1 = [l[j]'(by omega)] := by
    rw [List.drop_eq_getElem_cons (by omega)]; rfl
  have hys : xs[j]? = some (xs[j]'(by omega)) := List.getElem?_eq_getElem (by omega)
  refine ⟨l[j]'(by omega), xs[j]'(by omega), List.getElem?_eq_getElem (by omega), ?_⟩
  rw [← hys, ← h1, ← hone']
  rfl
end
theorem u8_nat {x : Int} (h : (Lit.int .u8 x).wf = true) : ∃ n : Nat, x = n ∧ n < 256 := by
  simp [Lit.wf, IntKind.min, IntKind.max, IntKind.signed, IntKind.bits] at h
  exact ⟨x.toNat, by omega, by omega⟩
section
variable {H : Type} {enc : TypeId × Value → H}
set_option maxRecDepth 100000 in
theorem open_opsR {W : World} {base b : Nat} {sp : Nat → Bool} {hd : Bool} {v : Value} {d : DataW H} {p : List MemPlace} (hv : Value.okWide Tryz.prog W .any b 24 v) (h : DataW.Trod enc Tryz.prog W base sp hd 24 v d p) :
    ∃ (n : Nat) (xs : List Value), RdSl W 3 v n xs ∧ n ≤ maxLen ∧ ∀ i, i < n → OpR xs i := by
  obtain ⟨a0, len, cap, rfl⟩ := okWide_slice Tryz.underlying24 hv
  obtain ⟨fuel, hf⟩ := h
  obtain ⟨a, n, c, xs, hv', hrd, hn, hfl⟩ := open_structs Tryz.underlying24 Tryz.underlying40 (by kernel_rfl) (by kernel_rfl) (by decide) hf
  obtain ⟨rfl, rfl, rfl⟩ : a0 = a ∧ len = n ∧ cap = c := by simpa using hv'
  refine ⟨len, xs, hrd, hn, fun i hi => ?_⟩
  obtain ⟨q, hq⟩ := hfl i hi
  obtain ⟨u0, y0, e0, t0⟩ := hq 0 _ rfl
  obtain ⟨u1, y1, e1, t1⟩ := hq 1 _ rfl
  obtain ⟨u2, y2, e2, t2⟩ := hq 2 _ rfl
  obtain ⟨x0, h0, _, w0⟩ := DataW.trod_int Tryz.underlying5 t0
  obtain ⟨x1, h1, _, _⟩ := DataW.trod_string Tryz.underlying9 t1
  obtain ⟨x2, h2, _, w2⟩ := DataW.trod_int Tryz.underlying32 t2
  simp only [List.cons.injEq, and_true] at h0 h1 h2
  subst h0 h1 h2
  obtain ⟨m0, rfl, b0⟩ := u8_nat w0
  obtain ⟨m2, rfl, b2⟩ := u64_nat w2
  exact ⟨m0, x1, m2, e0, e1, e2, b0, b2⟩
set_option maxRecDepth 100000 in
theorem open_opR {W : World} {base b : Nat} {sp : Nat → Bool} {hd : Bool} {r : Reach} {v : Value} {d : DataW H} {p : List MemPlace} (hv : Value.okWide Tryz.prog W r b 40 v) (h : DataW.Trod enc Tryz.prog W base sp hd 40 v d p) :
    ∃ (o : Nat) (s : ByteArray) (x : Nat), v = .agg #[.int .u8 o, .string s, .int .u64 x] ∧ o < 256 ∧ x < 18446744073709551616 := by
  obtain ⟨l, n, rfl, hl, hf⟩ := open_fields Tryz.underlying40 (by kernel_rfl) (by kernel_rfl) hv h
  match l, hl with
  | [c0, c1, c2], _ =>
    obtain ⟨_, y0, e0, t0⟩ := hf 0 _ rfl; cases e0
    obtain ⟨_, y1, e1, t1⟩ := hf 1 _ rfl; cases e1
    obtain ⟨_, y2, e2, t2⟩ := hf 2 _ rfl; cases e2
    obtain ⟨x0, h0, _, w0⟩ := DataW.trod_int Tryz.underlying5 t0
    obtain ⟨x1, h1, _, _⟩ := DataW.trod_string Tryz.underlying9 t1
    obtain ⟨x2, h2, _, w2⟩ := DataW.trod_int Tryz.underlying32 t2
    simp only [List.cons.injEq, and_true] at h0 h1 h2
    subst h0 h1 h2
    obtain ⟨m0, rfl, b0⟩ := u8_nat w0
    obtain ⟨m2, rfl, b2⟩ := u64_nat w2
    exact ⟨m0, x1, m2, rfl, b0, b2⟩
end
end Go.Proofs.YtmfchlliechikaaGreatDoor

/- Arguments opened: two bytes by value. For layer 14. -/
namespace Go.Proofs.YtmfchlliechikaaGreatDoor
open Go.ChangeShapes Go.WideShapes Go.ChangeAt Go.RowKit Go.Joins Go.Deep

theorem cells_u8 : Tryz.prog.cellsOf 5 = 1 := by kernel_rfl
theorem cells_arr2b : Tryz.prog.cellsOf 26 = 2 := by kernel_rfl
section
variable {H : Type} {enc : TypeId × Value → H}
/-- The numbers of an array of one-cell numbers. -/
theorem trod_nums {W : World} {base : Nat} {sp : Nat → Bool} {hd : Bool} {fuel : Nat} {t e : TypeId} {n : Nat} {cs : List Value} {x : DataW H × List MemPlace} (k : IntKind) (ht : Tryz.prog.underlying t = some (.array n e)) (hc : Tryz.prog.cellsOf e = 1) (he : Tryz.prog.underlying e = some (.int k)) (hn : cs.length = n)
    (h : DataW.trod enc Tryz.prog W base sp hd fuel t cs = some x) : ∀ i, i < n → ∃ y : Int, cs[i]? = some (.int k y) ∧ (Lit.int k y).wf = true := by
  obtain ⟨xs, m, _, _, _, hlen, hg⟩ := DataW.trod_array ht h
  intro i hi
  have h1 := hg i hi
  rw [hc, Nat.mul_one] at h1
  have hone : (cs.drop i).take 1 = [cs[i]'(by omega)] := by
    rw [List.drop_eq_getElem_cons (by omega)]; rfl
  rw [hone, List.getElem?_eq_getElem (show i < xs.length by omega)] at h1
  obtain ⟨z, h2, _, hw⟩ := DataW.trod_int he h1
  exact ⟨z, by rw [List.getElem?_eq_getElem (by omega)]; simpa using h2, hw⟩
set_option maxRecDepth 100000 in
theorem open_arr2b {W : World} {base b : Nat} {sp : Nat → Bool} {hd : Bool} {v : Value} {d : DataW H} {p : List MemPlace} (hv : Value.okWide Tryz.prog W .any b 26 v) (h : DataW.Trod enc Tryz.prog W base sp hd 26 v d p) :
    ∃ c0 c1 : Nat, v = .agg #[.int .u8 c0, .int .u8 c1] ∧ c0 < 256 ∧ c1 < 256 := by
  unfold Value.okWide at hv
  rw [Tryz.underlying26] at hv
  obtain ⟨cs, rfl, hsz, _⟩ := hv
  rw [cells_arr2b] at hsz
  obtain ⟨l⟩ := cs
  obtain ⟨v0, v1, rfl⟩ : ∃ v0 v1, l = [v0, v1] := by
    match l, hsz with
    | [a, b], _ => exact ⟨a, b, rfl⟩
  obtain ⟨fuel, hf⟩ := h
  have n1 : ∀ i, i < 2 → ∃ y : Int, [v0, v1][i]? = some (.int .u8 y) ∧ (Lit.int .u8 y).wf = true := trod_nums .u8 Tryz.underlying26 cells_u8 Tryz.underlying5 rfl hf
  obtain ⟨z0, e0, w0⟩ := n1 0 (by omega)
  obtain ⟨z1, e1, w1⟩ := n1 1 (by omega)
  simp only [List.getElem?_cons_zero, List.getElem?_cons_succ, Option.some.injEq] at e0 e1
  subst e0 e1
  obtain ⟨c0, rfl, k0⟩ := u8_nat w0
  obtain ⟨c1, rfl, k1⟩ := u8_nat w1
  exact ⟨c0, c1, rfl, k0, k1⟩
end
end Go.Proofs.YtmfchlliechikaaGreatDoor
