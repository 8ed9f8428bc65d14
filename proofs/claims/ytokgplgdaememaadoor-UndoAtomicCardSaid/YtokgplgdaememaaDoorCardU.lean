/- What the rows' condition on the package's variable gives; the frame of a law of layer 16. -/
import Derived.Test.YtokgplgdaememaaDoorUndB
import Derived.Test.YtokgplgdaememaaDoorFrame
import Derived.Test.YtokgplgdaememaaDoorTie
import Derived.LaidMore
import Derived.Lay
import Derived.Stop.Joined
import Derived.Lib.SmallJoins
namespace Go.Proofs.YtokgplgdaememaaDoor
open Go.ChangeShapes Go.WideShapes Go.ChangeAt Go.RowKit Go.Joins

def laidU : List (String × DataW Unit) := [("bedrock/bedrocklaw16.where", Rows.laid_bedrock_bedrocklaw16_where)]
set_option maxRecDepth 100000 in
theorem wh_of_laid {W : World} (h : laidMetH Tryd.prog laidU W) : Wh W := by
  rw [MakeChecks.laidMetH_plain _ _ _ (by kernel_rfl)] at h
  obtain ⟨ps, ⟨g, t, cs, fuel, p, q, hg, ht, hv, hd, _, _⟩, _, _⟩ := h
  obtain rfl := Option.some.inj ((show Tryd.prog.globalNamed "bedrock/bedrocklaw16.where" = some 0 by kernel_rfl).symm.trans hg)
  obtain rfl := Option.some.inj ((show (Tryd.prog.globals[0]?).map (·.type) = some 37 by kernel_rfl).symm.trans ht)
  have c5 : Tryd.prog.cellsOf 35 = 1 := by kernel_rfl
  have c29 : Tryd.prog.cellsOf 37 = 3 := by kernel_rfl
  obtain ⟨xs, m, _, ex, hlen, hl, hel⟩ := DataW.trod_struct Tryd.underlying37 hd
  rw [c29] at hlen
  obtain ⟨l⟩ := cs
  match l, hlen with
  | [a, b, c], _ =>
    match xs, hl with
    | [x0, x1, x2], _ =>
      have e3 := (DataW.agg.inj (Prod.mk.inj ex).1)
      simp only [List.map_cons, List.map_nil, List.cons.injEq, and_true] at e3
      have k0 := hel 0 _ rfl; have k1 := hel 1 _ rfl; have k2 := hel 2 _ rfl
      simp only at k0 k1 k2
      obtain ⟨z0, a0, b0, _⟩ := DataW.trod_int Tryd.underlying35 k0
      obtain ⟨z1, a1, b1, _⟩ := DataW.trod_int Tryd.underlying35 k1
      obtain ⟨z2, a2, b2, _⟩ := DataW.trod_int Tryd.underlying35 k2
      have hc := fun j => World.var?_cell hg hv j
      refine ⟨(hc 0).trans ?_, (hc 1).trans ?_, (hc 2).trans ?_⟩ <;> simp_all
end Go.Proofs.YtokgplgdaememaaDoor
