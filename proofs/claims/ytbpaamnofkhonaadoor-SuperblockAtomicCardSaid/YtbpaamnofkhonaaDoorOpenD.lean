/- Arguments opened: [4]uint8 and [3]uint8 by value. -/
import Derived.Test.YtbpaamnofkhonaaDoorFrame
import Derived.Test.YtbpaamnofkhonaaDoorSbY
import Derived.Laws.IdiomArrays
import Derived.Lib.SmallJoins
import Derived.Deep.Fields
namespace Go.Proofs.YtbpaamnofkhonaaDoor
open Go.ChangeShapes Go.WideShapes Go.ChangeAt Go.RowKit Go.Joins Go.Deep

section
variable {H : Type} {enc : TypeId × Value → H}
theorem cells_u8 : Tryd.prog.cellsOf 5 = 1 := by kernel_rfl
theorem cells_arr4b : Tryd.prog.cellsOf 38 = 4 := by kernel_rfl
theorem cells_arr3b : Tryd.prog.cellsOf 80 = 3 := by kernel_rfl
theorem u8_in {x : Int} (h : (Lit.int .u8 x).wf = true) : ∃ n : Nat, x = n ∧ n < 256 := by
  simp [Lit.wf, IntKind.min, IntKind.max, IntKind.signed, IntKind.bits] at h
  exact ⟨x.toNat, by omega, by omega⟩
set_option maxRecDepth 100000 in
theorem open_arr4b {W : World} {base b : Nat} {sp : Nat → Bool} {hd : Bool} {v : Value} {d : DataW H} {p : List MemPlace} (hv : Value.okWide Tryd.prog W .any b 38 v) (h : DataW.Trod enc Tryd.prog W base sp hd 38 v d p) :
    ∃ c0 c1 c2 c3 : Nat, v = .agg #[.int .u8 c0, .int .u8 c1, .int .u8 c2, .int .u8 c3] ∧ c0 < 256 ∧ c1 < 256 ∧ c2 < 256 ∧ c3 < 256 := by
  simp only [Value.okWide, Tryd.underlying38] at hv
  obtain ⟨cs, rfl, hsz, _⟩ := hv
  rw [cells_arr4b] at hsz
  obtain ⟨l⟩ := cs
  obtain ⟨v0, v1, v2, v3, rfl⟩ : ∃ v0 v1 v2 v3, l = [v0, v1, v2, v3] := by
    match l, hsz with
    | [a, b, c, d], _ => exact ⟨a, b, c, d, rfl⟩
  obtain ⟨fuel, hf⟩ := h
  obtain ⟨y0, y1, y2, y3, m, _, hy0, hy1, hy2, hy3⟩ := trod_array4 Tryd.underlying38 cells_u8 hf
  obtain ⟨x0, e0, _, w0⟩ := DataW.trod_int Tryd.underlying5 hy0
  obtain ⟨x1, e1, _, w1⟩ := DataW.trod_int Tryd.underlying5 hy1
  obtain ⟨x2, e2, _, w2⟩ := DataW.trod_int Tryd.underlying5 hy2
  obtain ⟨x3, e3, _, w3⟩ := DataW.trod_int Tryd.underlying5 hy3
  simp at e0 e1 e2 e3
  subst e0 e1 e2 e3
  obtain ⟨c0, rfl, k0⟩ := u8_in w0
  obtain ⟨c1, rfl, k1⟩ := u8_in w1
  obtain ⟨c2, rfl, k2⟩ := u8_in w2
  obtain ⟨c3, rfl, k3⟩ := u8_in w3
  exact ⟨c0, c1, c2, c3, rfl, k0, k1, k2, k3⟩
set_option maxRecDepth 100000 in
theorem open_arr3b {W : World} {base b : Nat} {sp : Nat → Bool} {hd : Bool} {v : Value} {d : DataW H} {p : List MemPlace} (hv : Value.okWide Tryd.prog W .any b 80 v) (h : DataW.Trod enc Tryd.prog W base sp hd 80 v d p) :
    ∃ c0 c1 c2 : Nat, v = .agg #[.int .u8 c0, .int .u8 c1, .int .u8 c2] ∧ c0 < 256 ∧ c1 < 256 ∧ c2 < 256 := by
  simp only [Value.okWide, Tryd.underlying80] at hv
  obtain ⟨cs, rfl, hsz, _⟩ := hv
  rw [cells_arr3b] at hsz
  obtain ⟨l⟩ := cs
  obtain ⟨v0, v1, v2, rfl⟩ : ∃ v0 v1 v2, l = [v0, v1, v2] := by
    match l, hsz with
    | [a, b, c], _ => exact ⟨a, b, c, rfl⟩
  obtain ⟨fuel, hf⟩ := h
  obtain ⟨y0, y1, y2, m, _, hy0, hy1, hy2⟩ := trod_array3 Tryd.underlying80 cells_u8 hf
  obtain ⟨x0, e0, _, w0⟩ := DataW.trod_int Tryd.underlying5 hy0
  obtain ⟨x1, e1, _, w1⟩ := DataW.trod_int Tryd.underlying5 hy1
  obtain ⟨x2, e2, _, w2⟩ := DataW.trod_int Tryd.underlying5 hy2
  simp at e0 e1 e2
  subst e0 e1 e2
  obtain ⟨c0, rfl, k0⟩ := u8_in w0
  obtain ⟨c1, rfl, k1⟩ := u8_in w1
  obtain ⟨c2, rfl, k2⟩ := u8_in w2
  exact ⟨c0, c1, c2, rfl, k0, k1, k2⟩
end
end Go.Proofs.YtbpaamnofkhonaaDoor
