/- RedoAtomic returns true for every input: whenever the power fails in a commit, and again in the recovery, recovery leads to all of its writes or to none; to all, if the commit returned OK. No condition besides. -/
import Derived.Test.YtfigngoojphffaaDoorRdoX
import Derived.Test.YtfigngoojphffaaDoorOpenR
import Derived.Test.YtfigngoojphffaaDoorOpenC
import Derived.Test.YtfigngoojphffaaDoorCardR
import Derived.Test.YtfigngoojphffaaDoorCards
import Derived.Lib.SmallJoins
import Derived.SevenTiedAt
namespace Go.Proofs.YtfigngoojphffaaDoor
open Go.ChangeShapes Go.WideShapes Go.ChangeAt Go.RowKit Go.Joins

set_option maxRecDepth 100000 in
theorem redoAtomic_lifted (os : Os) (started : os.Started) (H : Type) (enc : TypeId × Value → H) :
    ReturnsInHanded {} Tryd.checked os 8 .any (fun w args => (Rows.redoAtomicSpec.pre enc Tryd.prog Tryd.f8 Rows.redoAtomicRow.domain false w args ∧ laidMetH Tryd.prog laidR w) ∧ sizedMet enc Tryd.prog Tryd.f8 (OpenSpec.ofChange Rows.redoAtomicSpec) false w args)
      (Rows.redoAtomicSpec.post enc Tryd.prog Tryd.f8 false true false false) := by
  refine returnsInHanded_of_change_and (C := Tryd.checked) (X := fun w _ => laidMetH Tryd.prog laidR w) (fun _ _ _ hh h => h.of_heap hh) own_knob started (by kernel_rfl) Tryd.func8
    (ChangeSpec.witness_shaped (enc := enc) (C := Tryd.checked) (os := os) (X := fun w _ => laidMetH Tryd.prog laidR w) false (World.laidAll Tryd.prog os laidR) #[.slice none 0 0, .slice none 0 0, .agg #[.int .u16 0, .int .u16 0, .int .u16 0, .int .u16 0]] 8 (World.laidAll_os _ _ _)
      (World.shaped_of_ZipB (by kernel_rfl) (by kernel_rfl)) (by kernel_rfl) (by kernel_rfl) (by kernel_rfl)
      (by rw [MakeChecks.laidMetH_plain _ _ _ (by kernel_rfl)]; exact laidMet_laidAll _ (by kernel_rfl) (by kernel_rfl))) ?_
  intro W base args ds gs before hval0 hW _ _ hL _
  have hval : ∀ (j : Nat) t v, Tryd.f8.params[j]? = some t → args[j]? = some v → Value.okWide Tryd.prog W .any base t v := hval0
  have hW' := hW
  have HNB := nib_of_laidR hL; have HWR := wr_of_laidR hL
  obtain ⟨p, q, hA0, hV, rfl, hfz, hnd⟩ := hW
  have hA : DataW.TrodAll enc Tryd.prog W 0 (fun _ => true) true Tryd.f8.params.toList args.toList ds p := hA0
  rw [Tryd.params8] at hA hval
  clear hA0 hval0
  obtain ⟨v0, vs0, d0, ds0, p0, q0, hargs, rfl, rfl, h0, r0⟩ := trodAll_cons hA
  obtain ⟨v1, vs1, d1, ds1, p1, q1, hargs1, rfl, rfl, h1, r1⟩ := trodAll_cons r0
  obtain ⟨v2, vs2, d2, ds2, p2, q2, hargs2, rfl, rfl, h2, r2⟩ := trodAll_cons r1
  obtain ⟨rfl, rfl, rfl⟩ := trodAll_nil r2
  obtain rfl : args = #[v0, v1, v2] := by cases args; simp_all
  obtain ⟨l0, hr0, hm0, ho0⟩ := open_pairsN (hval 0 22 v0 rfl rfl) h0
  obtain ⟨l1, hr1, hm1, ho1⟩ := open_pairsN (hval 1 22 v1 rfl rfl) h1
  obtain ⟨c0, c1, c2, c3, rfl, k0, k1, k2, k3⟩ := open_cut4 (hval 2 87 v2 rfl rfl) h2
  refine (redoAtomic_any HNB HWR v0 v1 l0 l1 hr0 hr1 ho0 ho1 hm0 hm1 c0 c1 c2 c3 k0 k1 k2 k3).mono fun e W' ⟨he, hg⟩ => ?_
  subst he
  refine ⟨_, rfl, law_post hW' rfl (by kernel_rfl) rfl ?_ hg⟩
  rw [Tryd.params8]
  intro t ht
  have hall : ([22, 22, 87].all fun t => Tryd.prog.readableRec t && decide (t < Tryd.prog.types.size)) = true := by kernel_rfl
  have := List.all_eq_true.1 hall t ht
  simpa using this

theorem redoAtomic_row : Rows.RedoAtomicSaid :=
  OpenClaim.holds_of_wide 8 Tryd.f8 rfl rfl rfl rfl rfl rfl rfl ⟨rfl, rfl, rfl, rfl, rfl⟩ rfl rfl rfl rfl rfl (by kernel_rfl) Tryd.func8 (by kernel_rfl)
    (of_decide_eq_true (by kernel_rfl)) (by unfold Func.isWrapper; first | (rw [if_pos (by decide +kernel)]; kernel_rfl) | (rw [if_neg (by decide +kernel)]; exact ⟨rfl, rfl⟩))
    (fun os started H enc _ => redoAtomic_lifted os started H enc)
theorem redoAtomic_holds : Rows.RedoAtomicCardSaid :=
  Claim7.holds_tied_plain_at .later [] [.data, .data] true (true, "6c8382d66fed74331e36732d3b63920c0171efd836e9d9d810685add84560283") false redoAtomic_row (fun _ h => by cases h) (by kernel_rfl) (fun _ h => by cases h) redoAtomic_row_tie rfl ⟨rfl, rfl⟩ (by kernel_rfl) rfl
    (fun f fn hf hfn => by
      obtain rfl : f = 8 := Option.some.inj ((show Tryd.prog.funcNamed "bedrock/bedrocklaw15.RedoAtomic" = some 8 by kernel_rfl).symm.trans hf) |>.symm
      obtain rfl : fn = Tryd.f8 := (Option.some.inj (Tryd.func8.symm.trans hfn)).symm
      exact ⟨by kernel_rfl, fun j t ht => by
        rw [Tryd.params8] at ht
        have hm : t ∈ [22, 22, 87] := by simpa using Array.mem_of_getElem? ht
        have hall : ([22, 22, 87].all fun u => !Tryd.prog.wantsStandIn u) = true := by kernel_rfl
        exact (show Tryd.prog.wantsStandIn t = false by simpa using List.all_eq_true.1 hall t hm)⟩)
    (by kernel_rfl)
#print axioms redoAtomic_holds
end Go.Proofs.YtfigngoojphffaaDoor
