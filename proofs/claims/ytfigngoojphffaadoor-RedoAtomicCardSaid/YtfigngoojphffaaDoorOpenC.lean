/- Arguments opened: [4]uint16 by value. -/
import Derived.Test.YtfigngoojphffaaDoorGen
import Derived.Laws.IdiomArrays
import Derived.Lib.SmallJoins
import Derived.Deep.Fields
import Derived.Deep.Slices
import Derived.ChangeSame
namespace Go.Proofs.YtfigngoojphffaaDoor
open Go.ChangeShapes Go.WideShapes Go.ChangeAt Go.RowKit Go.Joins Go.Deep

section
variable {H : Type} {enc : TypeId × Value → H}
theorem cells_u16 : Tryd.prog.cellsOf 86 = 1 := by kernel_rfl
theorem cells_arr : Tryd.prog.cellsOf 87 = 4 := by kernel_rfl
theorem u16_in {x : Int} (h : (Lit.int .u16 x).wf = true) : 0 ≤ x ∧ x < 65536 := by
  simp [Lit.wf, IntKind.min, IntKind.max, IntKind.signed, IntKind.bits] at h
  exact ⟨by omega, by omega⟩
set_option maxRecDepth 100000 in
theorem open_cut4 {W : World} {base b : Nat} {sp : Nat → Bool} {hd : Bool} {v : Value} {d : DataW H} {p : List MemPlace} (hv : Value.okWide Tryd.prog W .any b 87 v) (h : DataW.Trod enc Tryd.prog W base sp hd 87 v d p) :
    ∃ c0 c1 c2 c3 : Int, v = .agg #[.int .u16 c0, .int .u16 c1, .int .u16 c2, .int .u16 c3] ∧ (0 ≤ c0 ∧ c0 < 65536) ∧ (0 ≤ c1 ∧ c1 < 65536) ∧ (0 ≤ c2 ∧ c2 < 65536) ∧ (0 ≤ c3 ∧ c3 < 65536) := by
  simp only [Value.okWide, Tryd.underlying87] at hv
  obtain ⟨cs, rfl, hsz, _⟩ := hv
  rw [cells_arr] at hsz
  obtain ⟨l⟩ := cs
  obtain ⟨v0, v1, v2, v3, rfl⟩ : ∃ v0 v1 v2 v3, l = [v0, v1, v2, v3] := by
    match l, hsz with
    | [a, b, c, d], _ => exact ⟨a, b, c, d, rfl⟩
  obtain ⟨fuel, hf⟩ := h
  obtain ⟨y0, y1, y2, y3, m, _, hy0, hy1, hy2, hy3⟩ := trod_array4 Tryd.underlying87 cells_u16 hf
  obtain ⟨x0, e0, _, w0⟩ := DataW.trod_int Tryd.underlying86 hy0
  obtain ⟨x1, e1, _, w1⟩ := DataW.trod_int Tryd.underlying86 hy1
  obtain ⟨x2, e2, _, w2⟩ := DataW.trod_int Tryd.underlying86 hy2
  obtain ⟨x3, e3, _, w3⟩ := DataW.trod_int Tryd.underlying86 hy3
  simp at e0 e1 e2 e3
  subst e0 e1 e2 e3
  exact ⟨x0, x1, x2, x3, rfl, u16_in w0, u16_in w1, u16_in w2, u16_in w3⟩
end
end Go.Proofs.YtfigngoojphffaaDoor
