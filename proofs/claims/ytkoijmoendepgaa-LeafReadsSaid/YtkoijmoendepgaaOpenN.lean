/- A node that came in as an argument: opened. -/
import Derived.Test.YtkoijmoendepgaaFrame
import Derived.Test.YtkoijmoendepgaaNodeB
import Derived.Lib.SmallJoins
import Derived.Deep.Fields
namespace Go.Proofs.Ytkoijmoendepgaa
open Go.ChangeShapes Go.WideShapes Go.ChangeAt Go.RowKit Go.Joins Go.Deep

section
variable {H : Type} {enc : TypeId × Value → H} {P : Program}
/-- A struct of one-cell fields, by value, opened: each field's value and its reading. -/
theorem open_fields {W : World} {base b : Nat} {sp : Nat → Bool} {hd : Bool} {r : Reach} {t : TypeId} {fs : Array Field} {v : Value} {d : DataW H} {p : List MemPlace} (hs : P.underlying t = some (.struct fs)) (hone : oneCellFields P fs = true)
    (hC : P.cellsOf t = fs.size) (hv : Value.okWide P W r b t v) (h : DataW.Trod enc P W base sp hd t v d p) :
    ∃ (l : List Value) (n : Nat), v = .agg l.toArray ∧ l.length = fs.size ∧ ∀ (j : Nat) (f : Field), fs[j]? = some f → ∃ (c : Value) (y : DataW H × List MemPlace), l[j]? = some c ∧ DataW.trod enc P W base sp hd n f.type [c] = some y := by
  obtain ⟨cs, rfl, hsz⟩ := okWide_struct hs hv
  obtain ⟨l⟩ := cs
  obtain ⟨fuel, hf⟩ := h
  obtain ⟨xs, n, _, hx, _, hlen, hg⟩ := DataW.trod_struct hs hf
  have hl : l.length = fs.size := by simpa using hsz.trans hC
  refine ⟨l, n, rfl, hl, fun j f hj => ?_⟩
  obtain ⟨ho, hk⟩ := hone_of hone j f hj
  have hjl : j < fs.size := (Array.getElem?_eq_some_iff.1 hj).1
  have h1 := hg j f hj
  rw [ho, hk] at h1
  have hone' : (l.drop j).take 1 = [l[j]'(by omega)] := by
    rw [List.drop_eq_getElem_cons (by omega)]; rfl
  have hys : xs[j]? = some (xs[j]'(by omega)) := List.getElem?_eq_getElem (by omega)
  refine ⟨l[j]'(by omega), xs[j]'(by omega), List.getElem?_eq_getElem (by omega), ?_⟩
  rw [← hys, ← h1, ← hone']
  rfl
/-- A slice of numbers that came in. -/
theorem open_nums {W : World} {base : Nat} {sp : Nat → Bool} {hd : Bool} {t e : TypeId} {k : IntKind} {fuel : Nat} {v : Value} {x : DataW H × List MemPlace} (ht : P.underlying t = some (.slice e)) (he : P.underlying e = some (.int k)) (hc : P.cellsOf e = 1)
    (hf : DataW.trod enc P W base sp hd fuel t [v] = some x) :
    ∃ (a : Option Addr) (c : Nat) (xs : List Int), v = .slice a xs.length c ∧ RdSl W 1 (.slice a xs.length c) xs.length (xs.map fun n => .int k n) ∧ xs.length ≤ maxLen ∧ ∀ n ∈ xs, (Lit.int k n).wf = true := by
  rcases open_ints ht he hc hf with ⟨hcs, _⟩ | ⟨a, len', cap', zs, hcs, _, hl, hm, hz, _, hcell, hwf⟩
  · simp at hcs
    subst hcs
    exact ⟨none, 0, [], rfl, (OwnSl.nil W 0 1).rd, by simp, by simp⟩
  · simp at hcs
    subst hcs
    have hlen : (zs.take len').length = len' := by
      rw [List.length_take, hz]; split <;> omega
    refine ⟨some a, cap', zs.take len', by rw [hlen], ?_, by omega, fun n hn => hwf n (List.mem_of_mem_take hn)⟩
    rw [hlen]
    refine ⟨by rw [List.length_map, hlen, Nat.mul_one], some a, cap', rfl, hl, ?_⟩
    by_cases h0 : len' = 0
    · left; simp [h0]
    · have hz1 : len' ≤ zs.length := by rw [hz]; split <;> omega
      have c0 := hcell 0 (by omega)
      have hsp := World.cell?_spot c0
      simp only [Addr.add, if_true] at hsp
      refine .inr ⟨a.block, a.off, by rw [← hsp], fun j u hu => ?_⟩
      have hj : j < len' := by
        rcases Nat.lt_or_ge j len' with h | h
        · exact h
        · rw [List.getElem?_eq_none (by simp; omega)] at hu; cases hu
      have hcj := hcell j (by omega)
      have ea : a.add j = ⟨a.block, a.off + j, none⟩ := by
        unfold Addr.add; split
        · rename_i e; subst e; rw [← hsp]; rfl
        · rfl
      rw [← ea, hcj]
      simp only [List.getElem?_map, List.getElem?_take, if_pos hj] at hu
      rw [List.getElem?_eq_getElem (by omega)] at hu
      rw [List.getD, List.getElem?_eq_getElem (by omega)]
      simpa using hu
theorem cells_u8 : Try.prog.cellsOf 5 = 1 := by kernel_rfl
theorem u8_nat {x : Int} (h : (Lit.int .u8 x).wf = true) : ∃ n : Nat, x = n ∧ n < 256 := by
  simp [Lit.wf, IntKind.min, IntKind.max, IntKind.signed, IntKind.bits] at h
  exact ⟨x.toNat, by omega, by omega⟩
theorem u16_nat {x : Int} (h : (Lit.int .u16 x).wf = true) : ∃ n : Nat, x = n ∧ n < 65536 := by
  simp [Lit.wf, IntKind.min, IntKind.max, IntKind.signed, IntKind.bits] at h
  exact ⟨x.toNat, by omega, by omega⟩
theorem nums_nat (k : IntKind) (xs : List Int) (B : Nat) (h : ∀ x ∈ xs, ∃ n : Nat, x = n ∧ n < B) : ∃ l : List Nat, (xs.map fun n => Value.int k n) = natsK k l ∧ l.length = xs.length ∧ ∀ n ∈ l, n < B := by
  refine ⟨xs.map Int.toNat, ?_, by simp, fun n hn => ?_⟩
  · unfold natsK
    rw [List.map_map]
    refine List.map_congr_left fun x hx => ?_
    obtain ⟨n, rfl, _⟩ := h x hx
    simp
  · simp at hn
    obtain ⟨x, hx, rfl⟩ := hn
    obtain ⟨n, rfl, hn⟩ := h x hx
    simpa using hn
set_option maxRecDepth 100000 in
theorem open_node {W : World} {base b : Nat} {sp : Nat → Bool} {hd : Bool} {r : Reach} {v : Value} {d : DataW H} {p : List MemPlace} (hv : Value.okWide Try.prog W r b 63 v) (h : DataW.Trod enc Try.prog W base sp hd 63 v d p) :
    ∃ (n : NodeP) (ka sa va : Option Addr) (kc sc vc : Nat), v = .agg (nodeAgg n ka sa va kc sc vc) ∧ NodeIn W n ka sa va kc sc vc := by
  obtain ⟨l, n, rfl, hl, hf⟩ := open_fields Try.underlying63 (by kernel_rfl) (by kernel_rfl) hv h
  match l, hl with
  | [c0, c1, c2, c3, c4, c5, c6, c7], _ =>
    obtain ⟨_, y0, e0, t0⟩ := hf 0 _ rfl; cases e0
    obtain ⟨_, y1, e1, t1⟩ := hf 1 _ rfl; cases e1
    obtain ⟨_, y2, e2, t2⟩ := hf 2 _ rfl; cases e2
    obtain ⟨_, y3, e3, t3⟩ := hf 3 _ rfl; cases e3
    obtain ⟨_, y4, e4, t4⟩ := hf 4 _ rfl; cases e4
    obtain ⟨_, y5, e5, t5⟩ := hf 5 _ rfl; cases e5
    obtain ⟨_, y6, e6, t6⟩ := hf 6 _ rfl; cases e6
    obtain ⟨_, y7, e7, t7⟩ := hf 7 _ rfl; cases e7
    obtain ⟨x0, h0, _, w0⟩ := DataW.trod_int Try.underlying5 t0
    obtain ⟨x4, h4, _, w4⟩ := DataW.trod_int Try.underlying5 t4
    obtain ⟨x5, h5, _⟩ := DataW.trod_bool Try.underlying4 t5
    obtain ⟨x6, h6, _⟩ := DataW.trod_bool Try.underlying4 t6
    obtain ⟨x7, h7, _, w7⟩ := DataW.trod_int Try.underlying43 t7
    simp only [List.cons.injEq, and_true] at h0 h4 h5 h6 h7
    subst h0 h4 h5 h6 h7
    obtain ⟨n0, rfl, b0⟩ := u8_nat w0
    obtain ⟨n4, rfl, b4⟩ := u8_nat w4
    obtain ⟨n7, rfl, b7⟩ := u16_nat w7
    obtain ⟨ka, kc, ks, rfl, rk, lk, wk⟩ := open_nums Try.underlying61 Try.underlying5 cells_u8 t1
    obtain ⟨sa, sc, ss, rfl, rs, ls, ws⟩ := open_nums Try.underlying61 Try.underlying5 cells_u8 t2
    obtain ⟨va, vc, vs, rfl, rv, lv, wv⟩ := open_nums Try.underlying22 Try.underlying23 cells_u64 t3
    obtain ⟨kn, ek, elk, bk⟩ := nums_nat .u8 ks 256 (fun x hx => u8_nat (wk x hx))
    obtain ⟨sn, es, els, bs⟩ := nums_nat .u8 ss 256 (fun x hx => u8_nat (ws x hx))
    rw [ek, ← elk] at rk; rw [es, ← els] at rs
    rw [← elk] at lk ⊢; rw [← els] at ls ⊢
    refine ⟨⟨n0, kn, sn, vs, n4, x5, x6, n7⟩, ka, sa, va, kc, sc, vc, rfl, ⟨rk, rs, rv, lk, ls, lv, bk, bs, fun x hx => ?_, b0, b4, b7⟩⟩
    obtain ⟨m, rfl, hm⟩ := u64_nat (wv x hx)
    omega
end
end Go.Proofs.Ytkoijmoendepgaa
