/- Lemmas and walks, part 32: each theorem says what it proves; no condition beside its own. -/
import Derived.Test.YtlhchkajjpefmaaGreatDoorJ31
import Derived.Test.YtlhchkajjpefmaaGreatDoorCards
set_option maxHeartbeats 16000000
set_option maxRecDepth 100000
namespace Go.Proofs.YtlhchkajjpefmaaGreatDoor
open Lib(hid)
open Go.RowKit Go.Proofs.Tryz
section
open Go.ChangeShapes Go.WideShapes Go.ChangeAt Go.RowKit Go.Joins
theorem Gi(os:Os)(started:os.Started)(H:Type)(enc:TypeId×Value->H) :
  ReturnsInHanded {} Tryz.checked os 4 .any (fun w args=>(Rows.necessityJudgesSpec.pre enc prog Tryz.f4 Rows.necessityJudgesRow.domain false w args/\laidMetH prog Gw w)/\sizedMet enc prog Tryz.f4 (OpenSpec.ofChange Rows.necessityJudgesSpec) false w args)
   (Rows.necessityJudgesSpec.post enc prog Tryz.f4 false true false false):=by
 refine returnsInHanded_of_change_and (C:=Tryz.checked) (X:=fun w _=>laidMetH prog Gw w) (fun _ _ _ hh h=>h.of_heap hh) Af started (by kernel_rfl) func4
  (ChangeSpec.witness_shaped (enc:=enc) (C:=Tryz.checked) (os:=os) (X:=fun w _=>laidMetH prog Gw w) false (World.laidAll prog os Gw) #[.int .i64 0,.int .i64 0,.int .u64 0] 8 (World.laidAll_os _ _ _)
   (World.shaped_of_ZipB (by kernel_rfl) (by kernel_rfl)) (by kernel_rfl) (by kernel_rfl) (by kernel_rfl)
   (by rw[MakeChecks.laidMetH_plain _ _ _ (by kernel_rfl)];exact laidMet_laidAll _ (by kernel_rfl) (by kernel_rfl))) ?_
 intro W base args ds gs before hval0 hW _ _ hL _;have hval:∀ (j:Nat) t v,Tryz.f4.params[j]? = some t->args[j]? = some v->Value.okWide prog W .any base t v:=hval0;have hW':=hW;have HNB:=Kc hL;obtain⟨p,q,hA0,hV,rfl,hfz,hnd⟩:=hW;have hA:DataW.TrodAll enc prog W 0 (fun _=>true) true Tryz.f4.params.toList args.toList ds p:=hA0;rw[params4]at hA hval;clear hA0 hval0;obtain⟨v0,vs0,d0,ds0,p0,q0,hargs,rfl,rfl,h0,r0⟩:=trodAll_cons hA;obtain⟨v1,vs1,d1,ds1,p1,q1,rfl,rfl,rfl,h1,r1⟩:=trodAll_cons r0;obtain⟨v2,vs2,d2,ds2,p2,q2,rfl,rfl,rfl,h2,r2⟩:=trodAll_cons r1;obtain⟨rfl,rfl,rfl⟩:=trodAll_nil r2;obtain rfl:args = #[v0,v1,v2]:=by cases args;simp_all
 obtain⟨a,rfl,_,_,_⟩:=open_int underlying3 (hval 0 3 v0 rfl rfl) h0;obtain⟨b,rfl,_,_,_⟩:=open_int underlying3 (hval 1 3 v1 rfl rfl) h1;obtain⟨c,rfl,_,_,hc⟩:=open_int underlying31 (hval 2 31 v2 rfl rfl) h2;obtain⟨c,rfl,hc2⟩:=Qy2 hc;refine(Qaq a b c hc2 HNB).mono fun e W' ⟨he,hg⟩ => ?_
 subst he;refine⟨_,rfl,Ab hW' rfl (by kernel_rfl) rfl ?_ hg⟩
 rw[params4];intro t ht;have hall:([3,3,31].all fun t=>Tryz.prog.readableRec t&&decide (t<Tryz.prog.types.size))=true:=by kernel_rfl
 have:=List.all_eq_true.1 hall t ht;simpa using this
theorem Ri:Rows.NecessityJudgesSaid:=
 OpenClaim.holds_of_wide 4 Tryz.f4 rfl rfl rfl rfl rfl rfl rfl ⟨rfl,rfl,rfl,rfl,rfl⟩ rfl rfl rfl rfl rfl (by kernel_rfl) func4 (by kernel_rfl)
  (of_decide_eq_true (by kernel_rfl)) (by unfold Func.isWrapper;first | (rw[if_pos (by decide +kernel)];kernel_rfl) | (rw[if_neg (by decide +kernel)];exact⟨rfl,rfl⟩))
  (fun os started H enc _=>Gi os started H enc)
theorem necessityJudges_holds:Rows.NecessityJudgesCardSaid:=
 Claim7.holds_tied_plain_at .later [] [.data,.data,.pinned] true (true, "b5f6d9d790a8d3e0fc89ba715c3978f7e4ce583c46d2305e0114f01e1416f344") true Ri (fun _ h=>by cases h) (by kernel_rfl) (fun _ h=>by cases h) necessityJudges_row_tie rfl ⟨rfl,rfl⟩ (by kernel_rfl) rfl
  (fun f fn hf hfn=>by
   obtain rfl:f=4:=Option.some.inj ((show Tryz.prog.funcNamed "bedrock/bedrocklaw54.NecessityJudges" = some 4 by kernel_rfl).symm.trans hf) |>.symm
   obtain rfl:fn=Tryz.f4:=(Option.some.inj (func4.symm.trans hfn)).symm;exact⟨by kernel_rfl,fun j t ht=>by
    rw[params4]at ht;have hm:t ∈ [3,3,31]:=by simpa using Array.mem_of_getElem? ht
    have hall:([3,3,31].all fun u => !Tryz.prog.wantsStandIn u)=true:=by kernel_rfl
    exact(show Tryz.prog.wantsStandIn t=false by simpa using List.all_eq_true.1 hall t hm)⟩)
  (by kernel_rfl)
#print axioms necessityJudges_holds
end
end Go.Proofs.YtlhchkajjpefmaaGreatDoor
