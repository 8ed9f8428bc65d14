/- Arguments opened: slices of numbers, of structs of one-cell fields, of slices. For layer 15. -/
import Derived.Test.YtdidpppjkbgccaaDoorRdoN
import Derived.Lib.SmallJoins
import Derived.Deep.Fields
import Derived.Deep.Slices
import Derived.ChangeSame
namespace Go.Proofs.YtdidpppjkbgccaaDoor
open Go.ChangeShapes Go.WideShapes Go.ChangeAt Go.RowKit Go.Joins Go.Deep

def natsB (l : List Nat) : List Value := l.map fun (n : Nat) => Value.int .u8 n
section
variable {H : Type} {enc : TypeId × Value → H} {P : Program}
/-- A slice of numbers that came in. -/
theorem open_nums {W : World} {base : Nat} {sp : Nat → Bool} {hd : Bool} {t e : TypeId} {k : IntKind} {fuel : Nat} {v : Value} {x : DataW H × List MemPlace} (ht : P.underlying t = some (.slice e)) (he : P.underlying e = some (.int k)) (hc : P.cellsOf e = 1)
    (hf : DataW.trod enc P W base sp hd fuel t [v] = some x) :
    ∃ (a : Option Addr) (c : Nat) (xs : List Int), v = .slice a xs.length c ∧ RdSl W 1 (.slice a xs.length c) xs.length (xs.map fun n => .int k n) ∧ xs.length ≤ maxLen ∧ ∀ n ∈ xs, (Lit.int k n).wf = true := by
  rcases open_ints ht he hc hf with ⟨hcs, _⟩ | ⟨a, len', cap', zs, hcs, _, hl, hm, hz, _, hcell, hwf⟩
  · simp at hcs
    subst hcs
    exact ⟨none, 0, [], rfl, (OwnSl.nil W 0 1).rd, by simp, by simp⟩
  · simp at hcs
    subst hcs
    have hlen : (zs.take len').length = len' := by
      rw [List.length_take, hz]; split <;> omega
    refine ⟨some a, cap', zs.take len', by rw [hlen], ?_, by omega, fun n hn => hwf n (List.mem_of_mem_take hn)⟩
    rw [hlen]
    refine ⟨by rw [List.length_map, hlen, Nat.mul_one], some a, cap', rfl, hl, ?_⟩
    by_cases h0 : len' = 0
    · left; simp [h0]
    · have hz1 : len' ≤ zs.length := by rw [hz]; split <;> omega
      have c0 := hcell 0 (by omega)
      have hsp := World.cell?_spot c0
      simp only [Addr.add, if_true] at hsp
      refine .inr ⟨a.block, a.off, by rw [← hsp], fun j u hu => ?_⟩
      have hj : j < len' := by
        rcases Nat.lt_or_ge j len' with h | h
        · exact h
        · rw [List.getElem?_eq_none (by simp; omega)] at hu; cases hu
      have hcj := hcell j (by omega)
      have ea : a.add j = ⟨a.block, a.off + j, none⟩ := by
        unfold Addr.add; split
        · rename_i e; subst e; rw [← hsp]; rfl
        · rfl
      rw [← ea, hcj]
      simp only [List.getElem?_map, List.getElem?_take, if_pos hj] at hu
      rw [List.getElem?_eq_getElem (by omega)] at hu
      rw [List.getD, List.getElem?_eq_getElem (by omega)]
      simpa using hu
theorem addr_flat {W : World} {a : Addr} {u : Value} (h : W.cell? (a.add 0) = some u) : a = ⟨a.block, a.off, none⟩ ∧ ∀ j, a.add j = ⟨a.block, a.off + j, none⟩ := by
  have hsp := World.cell?_spot h
  simp only [Addr.add, if_true] at hsp
  have e : a = ⟨a.block, a.off, none⟩ := by rw [← hsp]
  refine ⟨e, fun j => ?_⟩
  unfold Addr.add; split
  · rename_i h0; subst h0; exact e
  · rfl
/-- The cells of a slice of structs, and each field's reading. -/
theorem open_structs {W : World} {base : Nat} {sp : Nat → Bool} {hd : Bool} {t e : TypeId} {fs : Array Field} {fuel : Nat} {v : Value} {x : DataW H × List MemPlace} (ht : P.underlying t = some (.slice e)) (he : P.underlying e = some (.struct fs))
    (hone : oneCellFields P fs = true) (hC : P.cellsOf e = fs.size) (hpos : 0 < fs.size) (h : DataW.trod enc P W base sp hd fuel t [v] = some x) :
    ∃ (a : Option Addr) (n c : Nat) (xs : List Value), v = .slice a n c ∧ RdSl W fs.size (.slice a n c) n xs ∧ n ≤ maxLen ∧
      ∀ i, i < n → ∃ q : Nat, ∀ (j : Nat) (f : Field), fs[j]? = some f → ∃ (u : Value) (y : DataW H × List MemPlace), xs[i * fs.size + j]? = some u ∧ DataW.trod enc P W base sp hd q f.type [u] = some y := by
  rcases open_slice ht h with ⟨h0, _⟩ | ⟨a, len, cap, m, n, D, Pl, hcs, hb, hl, hm, hmm, hx, hi⟩
  · simp at h0; subst h0
    exact ⟨none, 0, 0, [], rfl, (OwnSl.nil W 0 _).rd, by simp, fun i hi => by omega⟩
  · simp at hcs; subst hcs
    have hlm : len ≤ m := by rw [hmm]; split <;> omega
    have hcell : ∀ i, i < len → ∃ (q : Nat) (cs : List Value), cs.length = fs.size ∧ (∀ j, j < fs.size → W.cell? (a.add (i * fs.size + j)) = cs[j]?) ∧ ∀ (j : Nat) (f : Field), fs[j]? = some f → ∃ (u : Value) (y : DataW H × List MemPlace), cs[j]? = some u ∧ DataW.trod enc P W base sp hd q f.type [u] = some y := by
      intro i hil
      obtain ⟨cs', hc, ht'⟩ := hi i (by omega)
      rw [hC] at hc
      obtain ⟨ys, n', hn', hy, hlen, hyl, hf⟩ := DataW.trod_struct he ht'
      obtain ⟨_, hcl, hat⟩ := World.cells?_some hc
      refine ⟨n', cs', hcl, fun j hj => by rw [← Go.Deep.add_add]; exact hat j hj, fun j f hj => ?_⟩
      obtain ⟨ho, hk⟩ := hone_of hone j f hj
      have hjl : j < fs.size := (Array.getElem?_eq_some_iff.1 hj).1
      have h1 := hf j f hj
      rw [ho, hk] at h1
      have hone' : (cs'.drop j).take 1 = [cs'[j]'(by omega)] := by
        rw [List.drop_eq_getElem_cons (by omega)]; rfl
      rw [hone'] at h1
      have hys : ys[j]? = some (ys[j]'(by omega)) := List.getElem?_eq_getElem (by omega)
      exact ⟨_, _, List.getElem?_eq_getElem (by omega), h1.trans hys⟩
    refine ⟨some a, len, cap, (List.range (len * fs.size)).map fun j => (W.cell? (a.add j)).getD (.bool false), rfl, ⟨by simp, some a, cap, rfl, hl, ?_⟩, by omega, fun i hil => ?_⟩
    · by_cases h0 : len = 0
      · left; simp [h0]
      · obtain ⟨q, cs, hcl, hat, _⟩ := hcell 0 (by omega)
        have c0 := hat 0 hpos
        simp only [Nat.zero_mul, Nat.zero_add] at c0
        rw [List.getElem?_eq_getElem (by omega)] at c0
        obtain ⟨ha, hadd⟩ := addr_flat c0
        refine .inr ⟨a.block, a.off, by rw [← ha], fun j u hu => ?_⟩
        have hj : j < len * fs.size := by
          rcases Nat.lt_or_ge j (len * fs.size) with h | h
          · exact h
          · rw [List.getElem?_eq_none (by simpa using h)] at hu; cases hu
        have hd : j / fs.size < len := Nat.div_lt_of_lt_mul (by rw [Nat.mul_comm]; exact hj)
        obtain ⟨q, cs, hcl, hat, _⟩ := hcell (j / fs.size) hd
        have hmod := Nat.mod_lt j hpos
        have c1 := hat (j % fs.size) hmod
        rw [Nat.mul_comm, Nat.div_add_mod, List.getElem?_eq_getElem (by omega)] at c1
        simp only [List.getElem?_map, List.getElem?_range hj, Option.map_some, c1, Option.getD_some, Option.some.injEq] at hu
        rw [← hadd, c1, hu]
    · obtain ⟨q, cs, hcl, hat, hf⟩ := hcell i hil
      refine ⟨q, fun j f hj => ?_⟩
      have hjl : j < fs.size := (Array.getElem?_eq_some_iff.1 hj).1
      obtain ⟨u, y, hu, hy⟩ := hf j f hj
      refine ⟨u, y, ?_, hy⟩
      have hlt : i * fs.size + j < len * fs.size := by
        have : (i + 1) * fs.size ≤ len * fs.size := Nat.mul_le_mul_right _ hil
        rw [Nat.add_mul] at this; omega
      rw [List.getElem?_map, List.getElem?_range hlt, Option.map_some, hat j hjl, hu]; rfl
theorem cells_u8 : Tryd.prog.cellsOf 5 = 1 := by kernel_rfl
theorem u8_nat {x : Int} (h : (Lit.int .u8 x).wf = true) : ∃ n : Nat, x = n ∧ n < 256 := by
  simp [Lit.wf, IntKind.min, IntKind.max, IntKind.signed, IntKind.bits] at h
  exact ⟨x.toNat, by omega, by omega⟩
theorem u16_nat {x : Int} (h : (Lit.int .u16 x).wf = true) : ∃ n : Nat, x = n ∧ n < 65536 := by
  simp [Lit.wf, IntKind.min, IntKind.max, IntKind.signed, IntKind.bits] at h
  exact ⟨x.toNat, by omega, by omega⟩
theorem nums_natB (xs : List Int) (h : ∀ x ∈ xs, ∃ n : Nat, x = n ∧ n < 256) : ∃ l : List Nat, (xs.map fun n => Value.int .u8 n) = natsB l ∧ l.length = xs.length ∧ ∀ n ∈ l, n < 256 := by
  refine ⟨xs.map Int.toNat, ?_, by simp, fun n hn => ?_⟩
  · unfold natsB
    rw [List.map_map]
    refine List.map_congr_left fun x hx => ?_
    obtain ⟨n, rfl, _⟩ := h x hx
    simp
  · simp at hn
    obtain ⟨x, hx, rfl⟩ := hn
    obtain ⟨n, rfl, hn⟩ := h x hx
    simpa using hn
set_option maxRecDepth 100000 in
theorem open_bytesN {W : World} {base b : Nat} {sp : Nat → Bool} {hd : Bool} {v : Value} {d : DataW H} {p : List MemPlace} (hv : Value.okWide Tryd.prog W .any b 23 v) (h : DataW.Trod enc Tryd.prog W base sp hd 23 v d p) :
    ∃ l : List Nat, RdSl W 1 v l.length (natsB l) ∧ (∀ n ∈ l, n < 256) ∧ l.length ≤ maxLen := by
  obtain ⟨fuel, hf⟩ := h
  obtain ⟨a0, len, cap, rfl⟩ := okWide_slice Tryd.underlying23 hv
  obtain ⟨a, c, xs, e, rd, hl, hw⟩ := open_nums Tryd.underlying23 Tryd.underlying5 cells_u8 hf
  obtain ⟨l, h1, h2, h3⟩ := nums_natB xs (fun x hx => u8_nat (hw x hx))
  rw [e]
  refine ⟨l, ?_, h3, by omega⟩
  rw [h2, ← h1]; exact rd
theorem u64_in {x : Int} (h : (Lit.int .u64 x).wf = true) : 0 ≤ x ∧ x < 18446744073709551616 := by
  simp [Lit.wf, IntKind.min, IntKind.max, IntKind.signed, IntKind.bits] at h
  exact ⟨by omega, by omega⟩
/-- A slice of elements of one cell each. -/
theorem open_elems {W : World} {base : Nat} {sp : Nat → Bool} {hd : Bool} {t e : TypeId} {fuel : Nat} {v : Value} {x : DataW H × List MemPlace} (ht : P.underlying t = some (.slice e))
    (hC : P.cellsOf e = 1) (h : DataW.trod enc P W base sp hd fuel t [v] = some x) :
    ∃ (a : Option Addr) (n c : Nat) (xs : List Value), v = .slice a n c ∧ RdSl W 1 (.slice a n c) n xs ∧ n ≤ maxLen ∧
      ∀ i, i < n → ∃ (q : Nat) (u : Value) (y : DataW H × List MemPlace), xs[i]? = some u ∧ DataW.trod enc P W base sp hd q e [u] = some y := by
  rcases open_slice ht h with ⟨h0, _⟩ | ⟨a, len, cap, m, n, D, Pl, hcs, hb, hl, hm, hmm, hx, hi⟩
  · simp at h0; subst h0
    exact ⟨none, 0, 0, [], rfl, (OwnSl.nil W 0 _).rd, by simp, fun i hi => by omega⟩
  · simp at hcs; subst hcs
    have hlm : len ≤ m := by rw [hmm]; split <;> omega
    have hcell : ∀ i, i < len → ∃ (q : Nat) (u : Value) (y : DataW H × List MemPlace), W.cell? (a.add i) = some u ∧ DataW.trod enc P W base sp hd q e [u] = some y := by
      intro i hil
      obtain ⟨cs', hc, ht'⟩ := hi i (by omega)
      rw [hC] at hc
      obtain ⟨_, hcl, hat⟩ := World.cells?_some hc
      match cs', hcl with
      | [u], _ =>
        have := hat 0 (by omega)
        rw [Go.Deep.add_add, Nat.mul_one, Nat.add_zero] at this
        exact ⟨_, u, _, this, ht'⟩
    refine ⟨some a, len, cap, (List.range len).map fun j => (W.cell? (a.add j)).getD (.bool false), rfl, ⟨by simp, some a, cap, rfl, hl, ?_⟩, by omega, fun i hil => ?_⟩
    · by_cases h0 : len = 0
      · left; simp [h0]
      · obtain ⟨q, u0, y0, c0, _⟩ := hcell 0 (by omega)
        obtain ⟨ha, hadd⟩ := addr_flat c0
        refine .inr ⟨a.block, a.off, by rw [← ha], fun j u hu => ?_⟩
        have hj : j < len := by
          rcases Nat.lt_or_ge j len with h | h
          · exact h
          · rw [List.getElem?_eq_none (by simpa using h)] at hu; cases hu
        obtain ⟨q, u1, y1, c1, _⟩ := hcell j hj
        simp only [List.getElem?_map, List.getElem?_range hj, Option.map_some, c1, Option.getD_some, Option.some.injEq] at hu
        rw [← hadd, c1, hu]
    · obtain ⟨q, u, y, hu, hy⟩ := hcell i hil
      exact ⟨q, u, y, by rw [List.getElem?_map, List.getElem?_range hil, Option.map_some, hu]; rfl, hy⟩
set_option maxRecDepth 100000 in
theorem open_pairs {W : World} {base : Nat} {sp : Nat → Bool} {hd : Bool} {v : Value} {fuel : Nat} {x : DataW H × List MemPlace} (hf : DataW.trod enc Tryd.prog W base sp hd fuel 30 [v] = some x) :
    ∃ l : List (Nat × Int), RdSl W 2 v l.length (pairC l) ∧ l.length ≤ maxLen ∧ ∀ e ∈ l, e.1 < 256 ∧ 0 ≤ e.2 ∧ e.2 < 18446744073709551616 := by
  obtain ⟨a, len, c, xs, rfl, hrd, hn, hfl⟩ := open_structs Tryd.underlying30 Tryd.underlying86 (by kernel_rfl) (by kernel_rfl) (by decide) hf
  have key : ∀ i, i < len → ∃ (x : Nat) (y : Int), xs[i * 2]? = some (.int .u8 x) ∧ xs[i * 2 + 1]? = some (.int .u64 y) ∧ x < 256 ∧ (0 ≤ y ∧ y < 18446744073709551616) := by
    intro i hi
    obtain ⟨q, hq⟩ := hfl i hi
    obtain ⟨u0, y0, e0, t0⟩ := hq 0 _ rfl
    obtain ⟨u1, y1, e1, t1⟩ := hq 1 _ rfl
    obtain ⟨x0, h0, _, w0⟩ := DataW.trod_int Tryd.underlying5 t0
    obtain ⟨x1, h1, _, w1⟩ := DataW.trod_int Tryd.underlying42 t1
    simp only [List.cons.injEq, and_true] at h0 h1
    subst h0 h1
    obtain ⟨m0, rfl, b0⟩ := u8_nat w0
    have b1 := u64_in w1
    exact ⟨m0, _, e0, e1, b0, b1⟩
  let l : List (Nat × Int) := (List.range len).map fun i => ((intOf (xs.getD (i * 2) (.bool false))).toNat, intOf (xs.getD (i * 2 + 1) (.bool false)))
  have hll : l.length = len := by simp [l]
  have hget : ∀ i, i < len → ∀ (x : Nat) (y : Int), xs[i * 2]? = some (.int .u8 x) → xs[i * 2 + 1]? = some (.int .u64 y) → l[i]? = some (x, y) := by
    intro i hi x y h0 h1
    simp only [l, List.getElem?_map, List.getElem?_range hi, Option.map_some, List.getD, h0, h1, Option.getD_some, intOf, Int.toNat_natCast]
  have hx : pairC l = xs := by
    have hxl : xs.length = len * 2 := hrd.1
    refine List.ext_getElem? fun j => ?_
    by_cases hj : j < len * 2
    · obtain ⟨x, y, h0, h1, _, _⟩ := key (j / 2) (by omega)
      obtain ⟨g0, g1⟩ := pairC_get l (j / 2) _ (hget (j / 2) (by omega) x y h0 h1)
      obtain hm | hm : j % 2 = 0 ∨ j % 2 = 1 := by omega
      · rw [show j = j / 2 * 2 by omega, h0]; exact g0
      · rw [show j = j / 2 * 2 + 1 by omega, h1]; exact g1
    · rw [List.getElem?_eq_none (by rw [pairC_len]; omega), List.getElem?_eq_none (by omega)]
  refine ⟨l, by rw [hll, hx]; exact hrd, by omega, fun e he => ?_⟩
  obtain ⟨i, hi, rfl⟩ := List.getElem_of_mem he
  have hi' : i < len := by omega
  obtain ⟨x, y, h0, h1, hy, hz⟩ := key i hi'
  have := hget i hi' x y h0 h1
  rw [List.getElem?_eq_getElem hi] at this
  rw [Option.some.inj this]
  exact ⟨hy, hz⟩
set_option maxRecDepth 100000 in
theorem open_pairss {W : World} {base b : Nat} {sp : Nat → Bool} {hd : Bool} {v : Value} {d : DataW H} {p : List MemPlace} (hv : Value.okWide Tryd.prog W .any b 22 v) (h : DataW.Trod enc Tryd.prog W base sp hd 22 v d p) :
    ∃ (n : Nat) (xs : List Value), RdSl W 1 v n xs ∧ n ≤ maxLen ∧ ∀ i, i < n → PairsAt W xs i := by
  obtain ⟨fuel, hf⟩ := h
  obtain ⟨a0, len, cap, rfl⟩ := okWide_slice Tryd.underlying22 hv
  obtain ⟨a, n, c, xs, e, hrd, hn, hfl⟩ := open_elems Tryd.underlying22 (by kernel_rfl) hf
  rw [e]
  refine ⟨n, xs, hrd, hn, fun i hi => ?_⟩
  obtain ⟨q, u, y, hu, hy⟩ := hfl i hi
  obtain ⟨l, h1, h2, h3⟩ := open_pairs hy
  exact ⟨u, l, hu, h1, h3, h2⟩
set_option maxRecDepth 100000 in
theorem open_pairsN {W : World} {base b : Nat} {sp : Nat → Bool} {hd : Bool} {v : Value} {d : DataW H} {p : List MemPlace} (hv : Value.okWide Tryd.prog W .any b 30 v) (h : DataW.Trod enc Tryd.prog W base sp hd 30 v d p) :
    ∃ l : List (Nat × Int), RdSl W 2 v l.length (pairC l) ∧ l.length ≤ maxLen ∧ ∀ e ∈ l, e.1 < 256 ∧ 0 ≤ e.2 ∧ e.2 < 18446744073709551616 := by
  obtain ⟨fuel, hf⟩ := h
  obtain ⟨a0, len, cap, rfl⟩ := okWide_slice Tryd.underlying30 hv
  exact open_pairs hf
end
end Go.Proofs.YtdidpppjkbgccaaDoor
