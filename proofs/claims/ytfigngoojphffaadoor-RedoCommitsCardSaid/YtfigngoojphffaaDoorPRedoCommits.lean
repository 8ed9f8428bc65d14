/- RedoCommits returns true for every input: after any sequence of commits each word has its last value, all is persistent, and the log is idle in every image. No condition besides. -/
import Derived.Test.YtfigngoojphffaaDoorRdoN
import Derived.Test.YtfigngoojphffaaDoorOpenR
import Derived.Test.YtfigngoojphffaaDoorCardR
import Derived.Test.YtfigngoojphffaaDoorCards
import Derived.Lib.SmallJoins
import Derived.SevenTiedAt
namespace Go.Proofs.YtfigngoojphffaaDoor
open Go.ChangeShapes Go.WideShapes Go.ChangeAt Go.RowKit Go.Joins

set_option maxRecDepth 100000 in
theorem redoCommits_lifted (os : Os) (started : os.Started) (H : Type) (enc : TypeId × Value → H) :
    ReturnsInHanded {} Tryd.checked os 5 .any (fun w args => (Rows.redoCommitsSpec.pre enc Tryd.prog Tryd.f5 Rows.redoCommitsRow.domain false w args ∧ laidMetH Tryd.prog laidR w) ∧ sizedMet enc Tryd.prog Tryd.f5 (OpenSpec.ofChange Rows.redoCommitsSpec) false w args)
      (Rows.redoCommitsSpec.post enc Tryd.prog Tryd.f5 false true false false) := by
  refine returnsInHanded_of_change_and (C := Tryd.checked) (X := fun w _ => laidMetH Tryd.prog laidR w) (fun _ _ _ hh h => h.of_heap hh) own_knob started (by kernel_rfl) Tryd.func5
    (ChangeSpec.witness_shaped (enc := enc) (C := Tryd.checked) (os := os) (X := fun w _ => laidMetH Tryd.prog laidR w) false (World.laidAll Tryd.prog os laidR) #[.slice none 0 0, .slice none 0 0] 8 (World.laidAll_os _ _ _)
      (World.shaped_of_ZipB (by kernel_rfl) (by kernel_rfl)) (by kernel_rfl) (by kernel_rfl) (by kernel_rfl)
      (by rw [MakeChecks.laidMetH_plain _ _ _ (by kernel_rfl)]; exact laidMet_laidAll _ (by kernel_rfl) (by kernel_rfl))) ?_
  intro W base args ds gs before hval0 hW _ _ hL _
  have hval : ∀ (j : Nat) t v, Tryd.f5.params[j]? = some t → args[j]? = some v → Value.okWide Tryd.prog W .any base t v := hval0
  have hW' := hW
  have HNB := nib_of_laidR hL; have HWR := wr_of_laidR hL
  obtain ⟨p, q, hA0, hV, rfl, hfz, hnd⟩ := hW
  have hA : DataW.TrodAll enc Tryd.prog W 0 (fun _ => true) true Tryd.f5.params.toList args.toList ds p := hA0
  rw [Tryd.params5] at hA hval
  clear hA0 hval0
  obtain ⟨v0, vs0, d0, ds0, p0, q0, hargs, rfl, rfl, h0, r0⟩ := trodAll_cons hA
  obtain ⟨v1, vs1, d1, ds1, p1, q1, hargs1, rfl, rfl, h1, r1⟩ := trodAll_cons r0
  obtain ⟨rfl, rfl, rfl⟩ := trodAll_nil r1
  obtain rfl : args = #[v0, v1] := by cases args; simp_all
  obtain ⟨n, xs, hs, hn, hac⟩ := open_pairss (hval 0 70 v0 rfl rfl) h0
  obtain ⟨l1, hs1, hb1, hl1⟩ := open_bytesN (hval 1 28 v1 rfl rfl) h1
  have hml : (l1.map fun (n : Nat) => (n : Int)).length = l1.length := by simp
  have hmc : ((l1.map fun (n : Nat) => (n : Int)).map fun x => Value.int .u8 x) = natsB l1 := by simp [natsB]
  refine (redoCommits_any HNB HWR v0 v1 n xs (l1.map fun (n : Nat) => (n : Int)) hs hn hac (by rw [hml, hmc]; exact hs1) (fun x hx => by obtain ⟨m, hm, rfl⟩ := List.mem_map.1 hx; have := hb1 m hm; omega) (by rw [hml]; exact hl1)).mono fun e W' ⟨he, hg⟩ => ?_
  subst he
  refine ⟨_, rfl, law_post hW' rfl (by kernel_rfl) rfl ?_ hg⟩
  rw [Tryd.params5]
  intro t ht
  have hall : ([70, 28].all fun t => Tryd.prog.readableRec t && decide (t < Tryd.prog.types.size)) = true := by kernel_rfl
  have := List.all_eq_true.1 hall t ht
  simpa using this

theorem redoCommits_row : Rows.RedoCommitsSaid :=
  OpenClaim.holds_of_wide 5 Tryd.f5 rfl rfl rfl rfl rfl rfl rfl ⟨rfl, rfl, rfl, rfl, rfl⟩ rfl rfl rfl rfl rfl (by kernel_rfl) Tryd.func5 (by kernel_rfl)
    (of_decide_eq_true (by kernel_rfl)) (by unfold Func.isWrapper; first | (rw [if_pos (by decide +kernel)]; kernel_rfl) | (rw [if_neg (by decide +kernel)]; exact ⟨rfl, rfl⟩))
    (fun os started H enc _ => redoCommits_lifted os started H enc)
theorem redoCommits_holds : Rows.RedoCommitsCardSaid :=
  Claim7.holds_tied_plain_at .later [] [.data, .data] true (true, "6c8382d66fed74331e36732d3b63920c0171efd836e9d9d810685add84560283") false redoCommits_row (fun _ h => by cases h) (by kernel_rfl) (fun _ h => by cases h) redoCommits_row_tie rfl ⟨rfl, rfl⟩ (by kernel_rfl) rfl
    (fun f fn hf hfn => by
      obtain rfl : f = 5 := Option.some.inj ((show Tryd.prog.funcNamed "bedrock/bedrocklaw15.RedoCommits" = some 5 by kernel_rfl).symm.trans hf) |>.symm
      obtain rfl : fn = Tryd.f5 := (Option.some.inj (Tryd.func5.symm.trans hfn)).symm
      exact ⟨by kernel_rfl, fun j t ht => by
        rw [Tryd.params5] at ht
        have hm : t ∈ [70, 28] := by simpa using Array.mem_of_getElem? ht
        have hall : ([70, 28].all fun u => !Tryd.prog.wantsStandIn u) = true := by kernel_rfl
        exact (show Tryd.prog.wantsStandIn t = false by simpa using List.all_eq_true.1 hall t hm)⟩)
    (by kernel_rfl)
#print axioms redoCommits_holds
end Go.Proofs.YtfigngoojphffaaDoor
