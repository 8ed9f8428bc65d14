/- What the rows' conditions on the package's variables give; the frame of a law of layer 15. -/
import Derived.Test.YtdidpppjkbgccaaDoorRdoI
import Derived.Test.YtdidpppjkbgccaaDoorFrame
import Derived.Test.YtdidpppjkbgccaaDoorTie
import Derived.LaidMore
import Derived.Lay
import Derived.Stop.Joined
import Derived.Lib.SmallJoins
namespace Go.Proofs.YtdidpppjkbgccaaDoor
open Go.ChangeShapes Go.WideShapes Go.ChangeAt Go.RowKit Go.Joins

def laidN : List (String × DataW Unit) := [("bedrock/crc.nibbles", Rows.laid_bedrock_crc_nibbles)]
def laidR : List (String × DataW Unit) := [("bedrock/crc.nibbles", Rows.laid_bedrock_crc_nibbles), ("bedrock/bedrocklaw15.where", Rows.laid_bedrock_bedrocklaw15_where)]
def nibD : List (DataW Unit) := (List.range 16).map fun i => .lit (.int .u32 (nibA i : Nat))
theorem nibD_eq : (Rows.laid_bedrock_crc_nibbles : DataW Unit) = .agg nibD := by rfl
set_option maxRecDepth 100000 in
theorem nib_cells {w : World} {base : Nat} {spare : Nat → Bool} {held : Bool} {fuel : Nat} {enc : TypeId × Value → Unit} {cs : List Value} {ps : List MemPlace} (h : DataW.trod enc Tryd.prog w base spare held fuel 139 cs = some (.agg nibD, ps)) (i : Nat) (hi : i < 16) : cs[i]? = some (.int .u32 (nibA i : Nat)) := by
  have c5 : Tryd.prog.cellsOf 114 = 1 := by kernel_rfl
  obtain ⟨xs, m, _, ex, hlen, hl, hel⟩ := DataW.trod_array Tryd.underlying139 h
  have e1 : nibD = xs.map (·.1) := DataW.agg.inj (Prod.mk.inj ex).1
  have hk := hel i hi
  rw [c5, Nat.mul_one] at hk
  have hcl : cs.length = 16 := by rw [hlen]; kernel_rfl
  obtain ⟨c, hc⟩ : ∃ c, cs[i]? = some c := ⟨_, List.getElem?_eq_getElem (by omega)⟩
  have ht : (cs.drop i).take 1 = [c] := by
    rw [List.drop_eq_getElem_cons (by omega)]
    rw [List.getElem?_eq_getElem (by omega)] at hc
    rw [Option.some.inj hc]; rfl
  rw [ht] at hk
  obtain ⟨x, hx⟩ : ∃ x, xs[i]? = some x := ⟨_, List.getElem?_eq_getElem (by omega)⟩
  rw [hx] at hk
  obtain ⟨z, a0, b0, _⟩ := DataW.trod_int Tryd.underlying114 hk
  have e2 : nibD[i]? = some (.lit (.int .u32 (nibA i : Nat))) := by unfold nibD; rw [List.getElem?_map, List.getElem?_range hi]; rfl
  rw [e1, List.getElem?_map, hx] at e2
  simp only [Option.map_some, Option.some.injEq] at e2
  rw [hc]
  simp_all
set_option maxRecDepth 100000 in
theorem nib_of_laidN {W : World} (h : laidMetH Tryd.prog laidN W) : Nib W := by
  rw [MakeChecks.laidMetH_plain _ _ _ (by kernel_rfl)] at h
  obtain ⟨ps, ⟨g, t, cs, fuel, p, q, hg, ht, hv, hd, _, _⟩, _, _⟩ := h
  obtain rfl := Option.some.inj ((show Tryd.prog.globalNamed "bedrock/crc.nibbles" = some 1 by kernel_rfl).symm.trans hg)
  obtain rfl := Option.some.inj ((show (Tryd.prog.globals[1]?).map (·.type) = some 139 by kernel_rfl).symm.trans ht)
  rw [nibD_eq] at hd
  exact fun i hi => (World.var?_cell hg hv i).trans (by have := nib_cells hd i hi; simpa using this)
set_option maxRecDepth 100000 in
theorem nib_of_laidR {W : World} (h : laidMetH Tryd.prog laidR W) : Nib W := by
  rw [MakeChecks.laidMetH_plain _ _ _ (by kernel_rfl)] at h
  obtain ⟨ps, ⟨g, t, cs, fuel, p, q, hg, ht, hv, hd, _, _⟩, _⟩ := h
  obtain rfl := Option.some.inj ((show Tryd.prog.globalNamed "bedrock/crc.nibbles" = some 1 by kernel_rfl).symm.trans hg)
  obtain rfl := Option.some.inj ((show (Tryd.prog.globals[1]?).map (·.type) = some 139 by kernel_rfl).symm.trans ht)
  rw [nibD_eq] at hd
  exact fun i hi => (World.var?_cell hg hv i).trans (by have := nib_cells hd i hi; simpa using this)
/-- The package's variable where. -/
structure Wr (w : World) : Prop where
  c0 : w.cell? ⟨0, 0, none⟩ = some (.int .u64 320)
  c1 : w.cell? ⟨0, 1, none⟩ = some (.int .u64 1984)
  c2 : w.cell? ⟨0, 2, none⟩ = some (.int .u64 2560)
theorem Wr.below {w w1 : World} (h : Wr w) (hb : Below w.heap.size w w1) : Wr w1 := ⟨cell_bel hb h.c0, cell_bel hb h.c1, cell_bel hb h.c2⟩
set_option maxRecDepth 100000 in
theorem wr_of_laidR {W : World} (h : laidMetH Tryd.prog laidR W) : Wr W := by
  rw [MakeChecks.laidMetH_plain _ _ _ (by kernel_rfl)] at h
  obtain ⟨ps, ⟨g0, t0, cs0, fuel0, p0, q0, _, _, _, _, hr, _⟩, _⟩ := h
  obtain ⟨g, t, cs, fuel, p, q, hg, ht, hv, hd, _, _⟩ := hr
  obtain rfl := Option.some.inj ((show Tryd.prog.globalNamed "bedrock/bedrocklaw15.where" = some 0 by kernel_rfl).symm.trans hg)
  obtain rfl := Option.some.inj ((show (Tryd.prog.globals[0]?).map (·.type) = some 45 by kernel_rfl).symm.trans ht)
  have c5 : Tryd.prog.cellsOf 42 = 1 := by kernel_rfl
  have c29 : Tryd.prog.cellsOf 45 = 3 := by kernel_rfl
  obtain ⟨xs, m, _, ex, hlen, hl, hel⟩ := DataW.trod_struct Tryd.underlying45 hd
  rw [c29] at hlen
  obtain ⟨l⟩ := cs
  match l, hlen with
  | [a, b, c], _ =>
    match xs, hl with
    | [x0, x1, x2], _ =>
      have e3 := (DataW.agg.inj (Prod.mk.inj ex).1)
      simp only [List.map_cons, List.map_nil, List.cons.injEq, and_true] at e3
      have k0 := hel 0 _ rfl; have k1 := hel 1 _ rfl; have k2 := hel 2 _ rfl
      simp only at k0 k1 k2
      obtain ⟨z0, a0, b0, _⟩ := DataW.trod_int Tryd.underlying42 k0
      obtain ⟨z1, a1, b1, _⟩ := DataW.trod_int Tryd.underlying42 k1
      obtain ⟨z2, a2, b2, _⟩ := DataW.trod_int Tryd.underlying42 k2
      have hc := fun j => World.var?_cell hg hv j
      refine ⟨(hc 0).trans ?_, (hc 1).trans ?_, (hc 2).trans ?_⟩ <;> simp_all
end Go.Proofs.YtdidpppjkbgccaaDoor
