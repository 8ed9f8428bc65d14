/- LeafReadable returns true for every input: in every image of a crash in the midst of a put's or a delete's program the node is valid and has the entries of before or of after. No condition. -/
import Derived.Test.YtkoijmoendepgaaGreatJ10
import Derived.Lib.SmallJoins
namespace Go.Proofs.YtkoijmoendepgaaGreat
open Go.ChangeShapes Go.WideShapes Go.ChangeAt Go.RowKit Go.Joins

section
variable {H : Type} {enc : TypeId × Value → H}
set_option maxRecDepth 100000 in
theorem open_act {W : World} {base b : Nat} {sp : Nat → Bool} {hd : Bool} {r : Reach} {v : Value} {d : DataW H} {p : List MemPlace} (hv : Value.okWide Tryz.prog W r b 85 v) (h : DataW.Trod enc Tryz.prog W base sp hd 85 v d p) :
    ∃ (x : Bool) (y z : Int), v = .agg #[.bool x, .int .u64 y, .int .u64 z] ∧ (0 ≤ y ∧ y < 18446744073709551616) ∧ (0 ≤ z ∧ z < 18446744073709551616) := by
  obtain ⟨l, n, rfl, hl, hf⟩ := open_fields Tryz.underlying85 (by kernel_rfl) (by kernel_rfl) hv h
  match l, hl with
  | [c0, c1, c2], _ =>
    obtain ⟨_, y0, e0, t0⟩ := hf 0 _ rfl; cases e0
    obtain ⟨_, y1, e1, t1⟩ := hf 1 _ rfl; cases e1
    obtain ⟨_, y2, e2, t2⟩ := hf 2 _ rfl; cases e2
    obtain ⟨x0, h0, _⟩ := DataW.trod_bool Tryz.underlying4 t0
    obtain ⟨x1, h1, _, w1⟩ := DataW.trod_int Tryz.underlying28 t1
    obtain ⟨x2, h2, _, w2⟩ := DataW.trod_int Tryz.underlying28 t2
    simp only [List.cons.injEq, and_true] at h0 h1 h2
    subst h0 h1 h2
    obtain ⟨m1, rfl, b1⟩ := u64_nat w1
    obtain ⟨m2, rfl, b2⟩ := u64_nat w2
    exact ⟨x0, m1, m2, rfl, by omega, by omega⟩
set_option maxRecDepth 100000 in
theorem open_bytes {W : World} {base b : Nat} {sp : Nat → Bool} {hd : Bool} {v : Value} {d : DataW H} {p : List MemPlace} (hv : Value.okWide Tryz.prog W .any b 22 v) (h : DataW.Trod enc Tryz.prog W base sp hd 22 v d p) :
    ∃ cs : List Int, RdSl W 1 v cs.length (cs.map fun x => .int .u8 x) ∧ (∀ x ∈ cs, 0 ≤ x ∧ x < 256) ∧ cs.length ≤ maxLen := by
  obtain ⟨fuel, hf⟩ := h
  obtain ⟨a0, len, cap, rfl⟩ := okWide_slice Tryz.underlying22 hv
  obtain ⟨a, c, xs, e, rd, hl, hw⟩ := open_nums Tryz.underlying22 Tryz.underlying5 cells_u8 hf
  rw [e]
  refine ⟨xs, rd, fun x hx => ?_, hl⟩
  obtain ⟨m, rfl, hm⟩ := u8_nat (hw x hx)
  omega
end
set_option maxRecDepth 100000 in
theorem leafReadable_lifted (os : Os) (started : os.Started) (H : Type) (enc : TypeId × Value → H) :
    ReturnsInHanded {} Tryz.checked os 6 .any (Rows.leafReadableSpec.pre6 enc Tryz.prog Tryz.f6 Rows.leafReadableRow.domain false) (Rows.leafReadableSpec.post enc Tryz.prog Tryz.f6 false true false false) := by
  refine returnsInHanded_of_change (C := Tryz.checked) own_knob started (by kernel_rfl) Tryz.func6
    (ChangeSpec.witness6 (enc := enc) (C := Tryz.checked) false ⟨#[], #[.agg #[.int .u8 0, .slice none 0 0, .slice none 0 0, .slice none 0 0, .int .u8 0, .bool false, .bool false, .int .u16 0], .agg #[.bool false, .int .u64 0, .int .u64 0], .slice none 0 0], []⟩ 8 (by kernel_rfl) (by kernel_rfl) (by kernel_rfl) (by kernel_rfl)) ?_
  intro W base args ds gs before hval0 hW hcnd _
  have hval : ∀ (j : Nat) t v, Tryz.f6.params[j]? = some t → args[j]? = some v → Value.okWide Tryz.prog W .any base t v := hval0
  have hW' := hW
  obtain ⟨p, q, hA0, hV, rfl, hfz, hnd⟩ := hW
  have hA : DataW.TrodAll enc Tryz.prog W 0 (fun _ => true) true Tryz.f6.params.toList args.toList ds p := hA0
  rw [Tryz.params6] at hA hval
  clear hA0 hval0
  obtain ⟨v0, vs0, d0, ds0, p0, q0, hargs, rfl, rfl, h0, r0⟩ := trodAll_cons hA
  obtain ⟨v1, vs1, d1, ds1, p1, q1, rfl, rfl, rfl, h1, r1⟩ := trodAll_cons r0
  obtain ⟨v2, vs2, d2, ds2, p2, q2, rfl, rfl, rfl, h2, r2⟩ := trodAll_cons r1
  obtain ⟨rfl, rfl, rfl⟩ := trodAll_nil r2
  obtain rfl : args = #[v0, v1, v2] := by cases args; simp_all
  obtain ⟨a, ka, sa, va, kc, sc, vc, rfl, ha⟩ := open_node (hval 0 26 v0 rfl rfl) h0
  obtain ⟨x, y, z, rfl, hk, hv⟩ := open_act (hval 1 85 v1 rfl rfl) h1
  obtain ⟨cs, hrd, hcb, hcl⟩ := open_bytes (hval 2 22 v2 rfl rfl) h2
  refine (leafReadable_any ha x y z hk hv v2 cs hrd hcb hcl).mono fun e W' ⟨he, hg⟩ => ?_
  subst he
  refine ⟨_, rfl, law_post hW' rfl (by kernel_rfl) rfl ?_ hg⟩
  rw [Tryz.params6]
  intro t ht
  have hall : ([26, 85, 22].all fun t => Tryz.prog.readableRec t && decide (t < Tryz.prog.types.size)) = true := by kernel_rfl
  have := List.all_eq_true.1 hall t ht
  simpa using this

theorem leafReadable_holds : Rows.LeafReadableSaid :=
  OpenClaim.holds_of_wide 6 Tryz.f6 rfl rfl rfl rfl rfl rfl rfl ⟨rfl, rfl, rfl, rfl, rfl⟩ rfl rfl rfl rfl rfl (by kernel_rfl) Tryz.func6 (by kernel_rfl)
    (of_decide_eq_true (by kernel_rfl)) (by unfold Func.isWrapper; first | (rw [if_pos (by decide +kernel)]; kernel_rfl) | (rw [if_neg (by decide +kernel)]; exact ⟨rfl, rfl⟩))
    (fun os started H enc _ => leafReadable_lifted os started H enc)
#print axioms leafReadable_holds
end Go.Proofs.YtkoijmoendepgaaGreat
