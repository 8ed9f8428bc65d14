/- A slice of structs that came in as an argument: opened. -/
import Derived.Test.YtmfchlliechikaaGreatDoorFrame
import Derived.Lib.SmallJoins
import Derived.Deep.Fields
import Derived.Deep.Slices
import Derived.ChangeSame
namespace Go.Proofs.YtmfchlliechikaaGreatDoor
open Go.ChangeShapes Go.WideShapes Go.ChangeAt Go.RowKit Go.Joins Go.Deep

section
variable {H : Type} {enc : TypeId × Value → H} {P : Program}
theorem addr_flat {W : World} {a : Addr} {u : Value} (h : W.cell? (a.add 0) = some u) : a = ⟨a.block, a.off, none⟩ ∧ ∀ j, a.add j = ⟨a.block, a.off + j, none⟩ := by
  have hsp := World.cell?_spot h
  simp only [Addr.add, if_true] at hsp
  have e : a = ⟨a.block, a.off, none⟩ := by rw [← hsp]
  refine ⟨e, fun j => ?_⟩
  unfold Addr.add; split
  · rename_i h0; subst h0; exact e
  · rfl
/-- The cells of a slice of structs, and each field's reading. -/
theorem open_structs {W : World} {base : Nat} {sp : Nat → Bool} {hd : Bool} {t e : TypeId} {fs : Array Field} {fuel : Nat} {v : Value} {x : DataW H × List MemPlace} (ht : P.underlying t = some (.slice e)) (he : P.underlying e = some (.struct fs))
    (hone : oneCellFields P fs = true) (hC : P.cellsOf e = fs.size) (hpos : 0 < fs.size) (h : DataW.trod enc P W base sp hd fuel t [v] = some x) :
    ∃ (a : Option Addr) (n c : Nat) (xs : List Value), v = .slice a n c ∧ RdSl W fs.size (.slice a n c) n xs ∧ n ≤ maxLen ∧
      ∀ i, i < n → ∃ q : Nat, ∀ (j : Nat) (f : Field), fs[j]? = some f → ∃ (u : Value) (y : DataW H × List MemPlace), xs[i * fs.size + j]? = some u ∧ DataW.trod enc P W base sp hd q f.type [u] = some y := by
  rcases open_slice ht h with ⟨h0, _⟩ | ⟨a, len, cap, m, n, D, Pl, hcs, hb, hl, hm, hmm, hx, hi⟩
  · simp at h0; subst h0
    exact ⟨none, 0, 0, [], rfl, (OwnSl.nil W 0 _).rd, by simp, fun i hi => by omega⟩
  · simp at hcs; subst hcs
    have hlm : len ≤ m := by rw [hmm]; split <;> omega
    have hcell : ∀ i, i < len → ∃ (q : Nat) (cs : List Value), cs.length = fs.size ∧ (∀ j, j < fs.size → W.cell? (a.add (i * fs.size + j)) = cs[j]?) ∧ ∀ (j : Nat) (f : Field), fs[j]? = some f → ∃ (u : Value) (y : DataW H × List MemPlace), cs[j]? = some u ∧ DataW.trod enc P W base sp hd q f.type [u] = some y := by
      intro i hil
      obtain ⟨cs', hc, ht'⟩ := hi i (by omega)
      rw [hC] at hc
      obtain ⟨ys, n', hn', hy, hlen, hyl, hf⟩ := DataW.trod_struct he ht'
      obtain ⟨_, hcl, hat⟩ := World.cells?_some hc
      refine ⟨n', cs', hcl, fun j hj => by rw [← Go.Deep.add_add]; exact hat j hj, fun j f hj => ?_⟩
      obtain ⟨ho, hk⟩ := hone_of hone j f hj
      have hjl : j < fs.size := (Array.getElem?_eq_some_iff.1 hj).1
      have h1 := hf j f hj
      rw [ho, hk] at h1
      have hone' : (cs'.drop j).take 1 = [cs'[j]'(by omega)] := by
        rw [List.drop_eq_getElem_cons (by omega)]; rfl
      rw [hone'] at h1
      have hys : ys[j]? = some (ys[j]'(by omega)) := List.getElem?_eq_getElem (by omega)
      exact ⟨_, _, List.getElem?_eq_getElem (by omega), h1.trans hys⟩
    refine ⟨some a, len, cap, (List.range (len * fs.size)).map fun j => (W.cell? (a.add j)).getD (.bool false), rfl, ⟨by simp, some a, cap, rfl, hl, ?_⟩, by omega, fun i hil => ?_⟩
    · by_cases h0 : len = 0
      · left; simp [h0]
      · obtain ⟨q, cs, hcl, hat, _⟩ := hcell 0 (by omega)
        have c0 := hat 0 hpos
        simp only [Nat.zero_mul, Nat.zero_add] at c0
        rw [List.getElem?_eq_getElem (by omega)] at c0
        obtain ⟨ha, hadd⟩ := addr_flat c0
        refine .inr ⟨a.block, a.off, by rw [← ha], fun j u hu => ?_⟩
        have hj : j < len * fs.size := by
          rcases Nat.lt_or_ge j (len * fs.size) with h | h
          · exact h
          · rw [List.getElem?_eq_none (by simpa using h)] at hu; cases hu
        have hd : j / fs.size < len := Nat.div_lt_of_lt_mul (by rw [Nat.mul_comm]; exact hj)
        obtain ⟨q, cs, hcl, hat, _⟩ := hcell (j / fs.size) hd
        have hmod := Nat.mod_lt j hpos
        have c1 := hat (j % fs.size) hmod
        rw [Nat.mul_comm, Nat.div_add_mod, List.getElem?_eq_getElem (by omega)] at c1
        simp only [List.getElem?_map, List.getElem?_range hj, Option.map_some, c1, Option.getD_some, Option.some.injEq] at hu
        rw [← hadd, c1, hu]
    · obtain ⟨q, cs, hcl, hat, hf⟩ := hcell i hil
      refine ⟨q, fun j f hj => ?_⟩
      have hjl : j < fs.size := (Array.getElem?_eq_some_iff.1 hj).1
      obtain ⟨u, y, hu, hy⟩ := hf j f hj
      refine ⟨u, y, ?_, hy⟩
      have hlt : i * fs.size + j < len * fs.size := by
        have : (i + 1) * fs.size ≤ len * fs.size := Nat.mul_le_mul_right _ hil
        rw [Nat.add_mul] at this; omega
      rw [List.getElem?_map, List.getElem?_range hlt, Option.map_some, hat j hjl, hu]; rfl
end
end Go.Proofs.YtmfchlliechikaaGreatDoor
