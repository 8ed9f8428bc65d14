/- Arguments opened: a program of instructions, a witness. For layer 54. -/
import Derived.Test.YtoakngofgkkpnaaFrame
import Derived.Test.YtoakngofgkkpnaaNcL
import Derived.Lib.SmallJoins
import Derived.Deep.Fields
import Derived.Deep.Slices
import Derived.ChangeSame
namespace Go.Proofs.Ytoakngofgkkpnaa
open Go.ChangeShapes Go.WideShapes Go.ChangeAt Go.RowKit Go.Joins Go.Deep

section
variable {H : Type} {enc : TypeId × Value → H} {P : Program}
/-- A struct of one-cell fields, by value, opened: each field's value and its reading. -/
theorem open_fields {W : World} {base b : Nat} {sp : Nat → Bool} {hd : Bool} {r : Reach} {t : TypeId} {fs : Array Field} {v : Value} {d : DataW H} {p : List MemPlace} (hs : P.underlying t = some (.struct fs)) (hone : oneCellFields P fs = true)
    (hC : P.cellsOf t = fs.size) (hv : Value.okWide P W r b t v) (h : DataW.Trod enc P W base sp hd t v d p) :
    ∃ (l : List Value) (n : Nat), v = .agg l.toArray ∧ l.length = fs.size ∧ ∀ (j : Nat) (f : Field), fs[j]? = some f → ∃ (c : Value) (y : DataW H × List MemPlace), l[j]? = some c ∧ DataW.trod enc P W base sp hd n f.type [c] = some y := by
  obtain ⟨cs, rfl, hsz⟩ := okWide_struct hs hv
  obtain ⟨l⟩ := cs
  obtain ⟨fuel, hf⟩ := h
  obtain ⟨xs, n, _, hx, _, hlen, hg⟩ := DataW.trod_struct hs hf
  have hl : l.length = fs.size := by simpa using hsz.trans hC
  refine ⟨l, n, rfl, hl, fun j f hj => ?_⟩
  obtain ⟨ho, hk⟩ := hone_of hone j f hj
  have hjl : j < fs.size := (Array.getElem?_eq_some_iff.1 hj).1
  have h1 := hg j f hj
  rw [ho, hk] at h1
  have hone' : (l.drop j).take 1 = [l[j]'(by omega)] := by
    rw [List.drop_eq_getElem_cons (by omega)]; rfl
  have hys : xs[j]? = some (xs[j]'(by omega)) := List.getElem?_eq_getElem (by omega)
  refine ⟨l[j]'(by omega), xs[j]'(by omega), List.getElem?_eq_getElem (by omega), ?_⟩
  rw [← hys, ← h1, ← hone']
  rfl

theorem addr_flat {W : World} {a : Addr} {u : Value} (h : W.cell? (a.add 0) = some u) : a = ⟨a.block, a.off, none⟩ ∧ ∀ j, a.add j = ⟨a.block, a.off + j, none⟩ := by
  have hsp := World.cell?_spot h
  simp only [Addr.add, if_true] at hsp
  have e : a = ⟨a.block, a.off, none⟩ := by rw [← hsp]
  refine ⟨e, fun j => ?_⟩
  unfold Addr.add; split
  · rename_i h0; subst h0; exact e
  · rfl
/-- The cells of a slice of structs, and each field's reading. -/
theorem open_structs {W : World} {base : Nat} {sp : Nat → Bool} {hd : Bool} {t e : TypeId} {fs : Array Field} {fuel : Nat} {v : Value} {x : DataW H × List MemPlace} (ht : P.underlying t = some (.slice e)) (he : P.underlying e = some (.struct fs))
    (hone : oneCellFields P fs = true) (hC : P.cellsOf e = fs.size) (hpos : 0 < fs.size) (h : DataW.trod enc P W base sp hd fuel t [v] = some x) :
    ∃ (a : Option Addr) (n c : Nat) (xs : List Value), v = .slice a n c ∧ RdSl W fs.size (.slice a n c) n xs ∧ n ≤ maxLen ∧
      ∀ i, i < n → ∃ q : Nat, ∀ (j : Nat) (f : Field), fs[j]? = some f → ∃ (u : Value) (y : DataW H × List MemPlace), xs[i * fs.size + j]? = some u ∧ DataW.trod enc P W base sp hd q f.type [u] = some y := by
  rcases open_slice ht h with ⟨h0, _⟩ | ⟨a, len, cap, m, n, D, Pl, hcs, hb, hl, hm, hmm, hx, hi⟩
  · simp at h0; subst h0
    exact ⟨none, 0, 0, [], rfl, (OwnSl.nil W 0 _).rd, by simp, fun i hi => by omega⟩
  · simp at hcs; subst hcs
    have hlm : len ≤ m := by rw [hmm]; split <;> omega
    have hcell : ∀ i, i < len → ∃ (q : Nat) (cs : List Value), cs.length = fs.size ∧ (∀ j, j < fs.size → W.cell? (a.add (i * fs.size + j)) = cs[j]?) ∧ ∀ (j : Nat) (f : Field), fs[j]? = some f → ∃ (u : Value) (y : DataW H × List MemPlace), cs[j]? = some u ∧ DataW.trod enc P W base sp hd q f.type [u] = some y := by
      intro i hil
      obtain ⟨cs', hc, ht'⟩ := hi i (by omega)
      rw [hC] at hc
      obtain ⟨ys, n', hn', hy, hlen, hyl, hf⟩ := DataW.trod_struct he ht'
      obtain ⟨_, hcl, hat⟩ := World.cells?_some hc
      refine ⟨n', cs', hcl, fun j hj => by rw [← Go.Deep.add_add]; exact hat j hj, fun j f hj => ?_⟩
      obtain ⟨ho, hk⟩ := hone_of hone j f hj
      have hjl : j < fs.size := (Array.getElem?_eq_some_iff.1 hj).1
      have h1 := hf j f hj
      rw [ho, hk] at h1
      have hone' : (cs'.drop j).take 1 = [cs'[j]'(by omega)] := by
        rw [List.drop_eq_getElem_cons (by omega)]; rfl
      rw [hone'] at h1
      have hys : ys[j]? = some (ys[j]'(by omega)) := List.getElem?_eq_getElem (by omega)
      exact ⟨_, _, List.getElem?_eq_getElem (by omega), h1.trans hys⟩
    refine ⟨some a, len, cap, (List.range (len * fs.size)).map fun j => (W.cell? (a.add j)).getD (.bool false), rfl, ⟨by simp, some a, cap, rfl, hl, ?_⟩, by omega, fun i hil => ?_⟩
    · by_cases h0 : len = 0
      · left; simp [h0]
      · obtain ⟨q, cs, hcl, hat, _⟩ := hcell 0 (by omega)
        have c0 := hat 0 hpos
        simp only [Nat.zero_mul, Nat.zero_add] at c0
        rw [List.getElem?_eq_getElem (by omega)] at c0
        obtain ⟨ha, hadd⟩ := addr_flat c0
        refine .inr ⟨a.block, a.off, by rw [← ha], fun j u hu => ?_⟩
        have hj : j < len * fs.size := by
          rcases Nat.lt_or_ge j (len * fs.size) with h | h
          · exact h
          · rw [List.getElem?_eq_none (by simpa using h)] at hu; cases hu
        have hd : j / fs.size < len := Nat.div_lt_of_lt_mul (by rw [Nat.mul_comm]; exact hj)
        obtain ⟨q, cs, hcl, hat, _⟩ := hcell (j / fs.size) hd
        have hmod := Nat.mod_lt j hpos
        have c1 := hat (j % fs.size) hmod
        rw [Nat.mul_comm, Nat.div_add_mod, List.getElem?_eq_getElem (by omega)] at c1
        simp only [List.getElem?_map, List.getElem?_range hj, Option.map_some, c1, Option.getD_some, Option.some.injEq] at hu
        rw [← hadd, c1, hu]
    · obtain ⟨q, cs, hcl, hat, hf⟩ := hcell i hil
      refine ⟨q, fun j f hj => ?_⟩
      have hjl : j < fs.size := (Array.getElem?_eq_some_iff.1 hj).1
      obtain ⟨u, y, hu, hy⟩ := hf j f hj
      refine ⟨u, y, ?_, hy⟩
      have hlt : i * fs.size + j < len * fs.size := by
        have : (i + 1) * fs.size ≤ len * fs.size := Nat.mul_le_mul_right _ hil
        rw [Nat.add_mul] at this; omega
      rw [List.getElem?_map, List.getElem?_range hlt, Option.map_some, hat j hjl, hu]; rfl
end
section
variable {H : Type} {enc : TypeId × Value → H} {P : Program}
/-- A slice of numbers that came in. -/
theorem open_nums {W : World} {base : Nat} {sp : Nat → Bool} {hd : Bool} {t e : TypeId} {k : IntKind} {fuel : Nat} {v : Value} {x : DataW H × List MemPlace} (ht : P.underlying t = some (.slice e)) (he : P.underlying e = some (.int k)) (hc : P.cellsOf e = 1)
    (hf : DataW.trod enc P W base sp hd fuel t [v] = some x) :
    ∃ (a : Option Addr) (c : Nat) (xs : List Int), v = .slice a xs.length c ∧ RdSl W 1 (.slice a xs.length c) xs.length (xs.map fun n => .int k n) ∧ xs.length ≤ maxLen ∧ ∀ n ∈ xs, (Lit.int k n).wf = true := by
  rcases open_ints ht he hc hf with ⟨hcs, _⟩ | ⟨a, len', cap', zs, hcs, _, hl, hm, hz, _, hcell, hwf⟩
  · simp at hcs
    subst hcs
    exact ⟨none, 0, [], rfl, (OwnSl.nil W 0 1).rd, by simp, by simp⟩
  · simp at hcs
    subst hcs
    have hlen : (zs.take len').length = len' := by
      rw [List.length_take, hz]; split <;> omega
    refine ⟨some a, cap', zs.take len', by rw [hlen], ?_, by omega, fun n hn => hwf n (List.mem_of_mem_take hn)⟩
    rw [hlen]
    refine ⟨by rw [List.length_map, hlen, Nat.mul_one], some a, cap', rfl, hl, ?_⟩
    by_cases h0 : len' = 0
    · left; simp [h0]
    · have hz1 : len' ≤ zs.length := by rw [hz]; split <;> omega
      have c0 := hcell 0 (by omega)
      have hsp := World.cell?_spot c0
      simp only [Addr.add, if_true] at hsp
      refine .inr ⟨a.block, a.off, by rw [← hsp], fun j u hu => ?_⟩
      have hj : j < len' := by
        rcases Nat.lt_or_ge j len' with h | h
        · exact h
        · rw [List.getElem?_eq_none (by simp; omega)] at hu; cases hu
      have hcj := hcell j (by omega)
      have ea : a.add j = ⟨a.block, a.off + j, none⟩ := by
        unfold Addr.add; split
        · rename_i e; subst e; rw [← hsp]; rfl
        · rfl
      rw [← ea, hcj]
      simp only [List.getElem?_map, List.getElem?_take, if_pos hj] at hu
      rw [List.getElem?_eq_getElem (by omega)] at hu
      rw [List.getD, List.getElem?_eq_getElem (by omega)]
      simpa using hu
end
theorem cells_u8 : Try.prog.cellsOf 5 = 1 := by kernel_rfl
theorem u8_in54 {x : Int} (h : (Lit.int .u8 x).wf = true) : 0 ≤ x ∧ x < 256 := by
  simp [Lit.wf, IntKind.min, IntKind.max, IntKind.signed, IntKind.bits] at h
  omega
theorem i64_in54 {x : Int} (h : (Lit.int .i64 x).wf = true) : -9223372036854775808 ≤ x ∧ x ≤ 9223372036854775807 := by
  simp [Lit.wf, IntKind.min, IntKind.max, IntKind.signed, IntKind.bits] at h
  omega
section
variable {H : Type} {enc : TypeId × Value → H}
theorem list3 {xs : List Value} {n : Nat} (h0 : xs.length = n * 3) (h : ∀ i, i < n → ∃ e : Int × Nat × Int, xs[i * 3]? = some (.int .i64 e.1) ∧ xs[i * 3 + 1]? = some (.int .u64 e.2.1) ∧ xs[i * 3 + 2]? = some (.int .u64 e.2.2) ∧ ArgOk e) :
    ∃ l : List (Int × Nat × Int), l.length = n ∧ xs = argP l ∧ ∀ e ∈ l, ArgOk e := by
  induction n generalizing xs with
  | zero => exact ⟨[], rfl, List.eq_nil_of_length_eq_zero (by omega), by simp⟩
  | succ n ih =>
    obtain ⟨e, h1, h2, h3, h4⟩ := h 0 (by omega)
    match xs, h0 with
    | a :: b :: c :: ys, h0 =>
      simp only [Nat.zero_mul, Nat.zero_add, List.getElem?_cons_zero, List.getElem?_cons_succ, Option.some.injEq] at h1 h2 h3
      subst h1 h2 h3
      obtain ⟨l, l1, l2, l3⟩ := ih (xs := ys) (by simp at h0; omega) (fun i hi => by
        obtain ⟨e', k1, k2, k3, k4⟩ := h (i + 1) (by omega)
        rw [show (i + 1) * 3 = i * 3 + 1 + 1 + 1 by omega] at k1 k2 k3
        simp only [List.getElem?_cons_succ] at k1
        refine ⟨e', k1, ?_, ?_, k4⟩
        · rw [show i * 3 + 1 + 1 + 1 + 1 = (i * 3 + 1) + 1 + 1 + 1 by omega] at k2
          simpa only [List.getElem?_cons_succ] using k2
        · rw [show i * 3 + 1 + 1 + 1 + 2 = (i * 3 + 2) + 1 + 1 + 1 by omega] at k3
          simpa only [List.getElem?_cons_succ] using k3)
      refine ⟨e :: l, by simp [l1], by rw [l2]; rfl, fun x hx => ?_⟩
      rcases List.mem_cons.1 hx with rfl | hx
      · exact h4
      · exact l3 x hx
set_option maxRecDepth 100000 in
theorem open_prog {W : World} {base b : Nat} {sp : Nat → Bool} {hd : Bool} {v : Value} {d : DataW H} {p : List MemPlace} (hv : Value.okWide Try.prog W .any b 22 v) (h : DataW.Trod enc Try.prog W base sp hd 22 v d p) :
    ∃ (l : List (Int × Nat × Int)), RdSl W 3 v l.length (argP l) ∧ l.length ≤ 9223372036854775807 ∧ ∀ e ∈ l, ArgOk e := by
  obtain ⟨a0, len, cap, rfl⟩ := okWide_slice Try.underlying22 hv
  obtain ⟨fuel, hf⟩ := h
  obtain ⟨a, n, c, xs, hv', hrd, hn, hfl⟩ := open_structs Try.underlying22 Try.underlying52 (by kernel_rfl) (by kernel_rfl) (by decide) hf
  obtain ⟨rfl, rfl, rfl⟩ : a0 = a ∧ len = n ∧ cap = c := by simpa using hv'
  obtain ⟨l, l1, l2, l3⟩ := list3 (xs := xs) (n := len) hrd.1 (fun i hi => by
    obtain ⟨q, hq⟩ := hfl i hi
    obtain ⟨u0, y0, e0, t0⟩ := hq 0 _ rfl
    obtain ⟨u1, y1, e1, t1⟩ := hq 1 _ rfl
    obtain ⟨u2, y2, e2, t2⟩ := hq 2 _ rfl
    obtain ⟨x0, h0, _, w0⟩ := DataW.trod_int Try.underlying3 t0
    obtain ⟨x1, h1, _, w1⟩ := DataW.trod_int Try.underlying30 t1
    obtain ⟨x2, h2, _, w2⟩ := DataW.trod_int Try.underlying30 t2
    simp only [List.cons.injEq, and_true] at h0 h1 h2
    subst h0 h1 h2
    obtain ⟨m1, rfl, b1⟩ := u64_nat w1
    obtain ⟨m2, rfl, b2⟩ := u64_nat w2
    exact ⟨(x0, m1, (m2 : Int)), e0, e1, e2, i64_in54 w0, b1, by simp only; omega, by simp only; omega⟩)
  subst l2
  refine ⟨l, by rw [l1]; exact hrd, by unfold maxLen at hn; omega, l3⟩
set_option maxRecDepth 100000 in
theorem open_wit {W : World} {base b : Nat} {sp : Nat → Bool} {hd : Bool} {r : Reach} {v : Value} {d : DataW H} {p : List MemPlace} (hv : Value.okWide Try.prog W r b 36 v) (h : DataW.Trod enc Try.prog W base sp hd 36 v d p) :
    ∃ (f k : Int) (cv : Value) (cs : List Int), v = .agg #[.int .i64 f, .int .i64 k, cv] ∧ (-9223372036854775808 ≤ f ∧ f ≤ 9223372036854775807) ∧ (-9223372036854775808 ≤ k ∧ k ≤ 9223372036854775807) ∧ RdSl W 1 cv cs.length (cs.map fun x => .int .u8 x) ∧ ∀ x ∈ cs, 0 ≤ x ∧ x < 256 := by
  obtain ⟨l, n, rfl, hl, hf⟩ := open_fields Try.underlying36 (by kernel_rfl) (by kernel_rfl) hv h
  match l, hl with
  | [c0, c1, c2], _ =>
    obtain ⟨_, y0, e0, t0⟩ := hf 0 _ rfl; cases e0
    obtain ⟨_, y1, e1, t1⟩ := hf 1 _ rfl; cases e1
    obtain ⟨_, y2, e2, t2⟩ := hf 2 _ rfl; cases e2
    obtain ⟨x0, h0, _, w0⟩ := DataW.trod_int Try.underlying3 t0
    obtain ⟨x1, h1, _, w1⟩ := DataW.trod_int Try.underlying3 t1
    simp only [List.cons.injEq, and_true] at h0 h1
    subst h0 h1
    obtain ⟨a, c, xs, rfl, rk, lk, wk⟩ := open_nums Try.underlying34 Try.underlying5 cells_u8 t2
    exact ⟨x0, x1, _, xs, rfl, i64_in54 w0, i64_in54 w1, rk, fun x hx => u8_in54 (wk x hx)⟩
end
end Go.Proofs.Ytoakngofgkkpnaa
