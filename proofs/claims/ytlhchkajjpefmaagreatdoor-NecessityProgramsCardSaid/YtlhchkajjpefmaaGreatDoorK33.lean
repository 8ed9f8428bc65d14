/- Lemmas and walks, part 33: each theorem says what it proves; no condition beside its own. -/
import Derived.Test.YtlhchkajjpefmaaGreatDoorK32
import Derived.Test.YtlhchkajjpefmaaGreatDoorCards
set_option maxHeartbeats 16000000
set_option maxRecDepth 100000
namespace Go.Proofs.YtlhchkajjpefmaaGreatDoor
open Lib(hid)
open Go.RowKit Go.Proofs.Tryz
section
open Go.ChangeShapes Go.WideShapes Go.ChangeAt Go.RowKit Go.Joins
theorem Ky(os:Os)(started:os.Started)(H:Type)(enc:TypeId×Value->H) :
  ReturnsInHanded {} Tryz.checked os 6 .any (fun w args=>(Rows.necessityProgramsSpec.pre enc prog Tryz.f6 Rows.necessityProgramsRow.domain false w args/\laidMetH prog Gw w)/\sizedMet enc prog Tryz.f6 (OpenSpec.ofChange Rows.necessityProgramsSpec) false w args)
   (Rows.necessityProgramsSpec.post enc prog Tryz.f6 false true false false):=by
 refine returnsInHanded_of_change_and (C:=Tryz.checked) (X:=fun w _=>laidMetH prog Gw w) (fun _ _ _ hh h=>h.of_heap hh) Af started (by kernel_rfl) func6
  (ChangeSpec.witness_shaped (enc:=enc) (C:=Tryz.checked) (os:=os) (X:=fun w _=>laidMetH prog Gw w) false (World.laidAll prog os Gw) #[.int .i64 0] 8 (World.laidAll_os _ _ _)
   (World.shaped_of_ZipB (by kernel_rfl) (by kernel_rfl)) (by kernel_rfl) (by kernel_rfl) (by kernel_rfl)
   (by rw[MakeChecks.laidMetH_plain _ _ _ (by kernel_rfl)];exact laidMet_laidAll _ (by kernel_rfl) (by kernel_rfl))) ?_
 intro W base args ds gs before hval0 hW _ _ hL _;have hval:∀ (j:Nat) t v,Tryz.f6.params[j]? = some t->args[j]? = some v->Value.okWide prog W .any base t v:=hval0;have hW':=hW;have HNB:=Kc hL;obtain⟨p,q,hA0,hV,rfl,hfz,hnd⟩:=hW;have hA:DataW.TrodAll enc prog W 0 (fun _=>true) true Tryz.f6.params.toList args.toList ds p:=hA0;rw[params6]at hA hval;clear hA0 hval0;obtain⟨v0,vs0,d0,ds0,p0,q0,hargs,rfl,rfl,h0,r0⟩:=trodAll_cons hA;obtain⟨rfl,rfl,rfl⟩:=trodAll_nil r0;obtain rfl:args = #[v0]:=by cases args;simp_all
 obtain⟨a,rfl,_,_,_⟩:=open_int underlying3 (hval 0 3 v0 rfl rfl) h0;refine(Bx a HNB).mono fun e W' ⟨he,hg⟩ => ?_
 subst he;refine⟨_,rfl,Ab hW' rfl (by kernel_rfl) rfl ?_ hg⟩
 rw[params6];intro t ht;have hall:([3].all fun t=>Tryz.prog.readableRec t&&decide (t<Tryz.prog.types.size))=true:=by kernel_rfl
 have:=List.all_eq_true.1 hall t ht;simpa using this
theorem Fb:Rows.NecessityProgramsSaid:=
 OpenClaim.holds_of_wide 6 Tryz.f6 rfl rfl rfl rfl rfl rfl rfl ⟨rfl,rfl,rfl,rfl,rfl⟩ rfl rfl rfl rfl rfl (by kernel_rfl) func6 (by kernel_rfl)
  (of_decide_eq_true (by kernel_rfl)) (by unfold Func.isWrapper;first | (rw[if_pos (by decide +kernel)];kernel_rfl) | (rw[if_neg (by decide +kernel)];exact⟨rfl,rfl⟩))
  (fun os started H enc _=>Ky os started H enc)
theorem necessityPrograms_holds:Rows.NecessityProgramsCardSaid:=
 Claim7.holds_tied_plain_at .later [] [.data,.data,.pinned] true (true, "b5f6d9d790a8d3e0fc89ba715c3978f7e4ce583c46d2305e0114f01e1416f344") true Fb (fun _ h=>by cases h) (by kernel_rfl) (fun _ h=>by cases h) necessityPrograms_row_tie rfl ⟨rfl,rfl⟩ (by kernel_rfl) rfl
  (fun f fn hf hfn=>by
   obtain rfl:f=6:=Option.some.inj ((show Tryz.prog.funcNamed "bedrock/bedrocklaw54.NecessityPrograms" = some 6 by kernel_rfl).symm.trans hf) |>.symm
   obtain rfl:fn=Tryz.f6:=(Option.some.inj (func6.symm.trans hfn)).symm;exact⟨by kernel_rfl,fun j t ht=>by
    rw[params6]at ht;have hm:t ∈ [3]:=by simpa using Array.mem_of_getElem? ht
    have hall:([3].all fun u => !Tryz.prog.wantsStandIn u)=true:=by kernel_rfl
    exact(show Tryz.prog.wantsStandIn t=false by simpa using List.all_eq_true.1 hall t hm)⟩)
  (by kernel_rfl)
#print axioms necessityPrograms_holds
end
end Go.Proofs.YtlhchkajjpefmaaGreatDoor
