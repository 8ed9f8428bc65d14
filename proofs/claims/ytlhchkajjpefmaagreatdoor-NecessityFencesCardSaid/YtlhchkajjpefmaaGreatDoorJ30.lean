/- Lemmas and walks, part 30: each theorem says what it proves; no condition beside its own. -/
import Derived.Test.YtlhchkajjpefmaaGreatDoorJ3
import Derived.ProofKit
import Derived.OpenShut
set_option maxHeartbeats 16000000
set_option maxRecDepth 100000
namespace Go.Proofs.YtlhchkajjpefmaaGreatDoor
open Lib(hid)
open Go.RowKit Go.Proofs.Tryz
section
open Go.ChangeShapes Go.WideShapes Go.ChangeAt Go.RowKit
theorem Af:ownKnob Tryz.prog.godebug=none:=by kernel_rfl
theorem Qnt:laidOutB prog=true:=by kernel_rfl
section
variable{H:Type}{enc:TypeId×Value->H}
theorem Mg{W W':World}{sp':Nat->Bool}:∀ {ts:List TypeId} {vs:List Value} {ds:List (DataW H)} {ps:List MemPlace},(∀ t∈ts,Tryz.prog.readableRec t=true/\t<Tryz.prog.types.size) ->
  DataW.TrodAll enc prog W 0 (fun _=>true) true ts vs ds ps->(∀ p∈ps,W.sameAt W' p)->(∀ p∈ps,sp' p.block=true)->DataW.TrodAll enc prog W' 0 sp' true ts vs ds ps
 | [],[],[],_,_,h,_,_=>h
 | t::_,_::_,_::_,_,hT,⟨p,q,h1,h2,e⟩,hw,hs=>
  ⟨p,q,WideElems.Trod_stays Qnt (hT t (List.mem_cons.2 (.inl rfl))).1 (hT t (List.mem_cons.2 (.inl rfl))).2 h1 (fun x hx=>hw x (by rw[e];exact List.mem_append_left _ hx)) (fun x hx=>hs x (by rw[e];exact List.mem_append_left _ hx)),
   Mg (fun t ht=>hT t (List.mem_cons.2 (.inr ht))) h2 (fun x hx=>hw x (by rw[e];exact List.mem_append_right _ hx)) (fun x hx=>hs x (by rw[e];exact List.mem_append_right _ hx)),e⟩
theorem Ab{f:Func}{s:ChangeSpec}{W W':World}{args:Array Value}{ds gs:List (DataW H)}{before:List MemPlace}
  (hW:DataW.Whole enc prog f.params.toList s.vars false W args.toList ds gs before) (hvars:s.vars = []) (hr:f.resultTypes = #[4])
  (hs:s.fn H ds={results := [.lit (.bool true)],args:=ds}) (hrd:∀ t∈f.params.toList,Tryz.prog.readableRec t=true/\t<Tryz.prog.types.size) (hb:Below W.heap.size W W') :
  s.post enc prog f false true false false W args (.bool true) W':=by
 have hlt:∀ p∈before,p.block<W.heap.size:=fun p hp=>hW.lt p hp
 have hW':=hW;obtain⟨p,q,hA,hV,rfl,_,_⟩:=hW;rw[hvars]at hV;obtain⟨rfl,rfl⟩:=trodVars_none hV;simp only[List.append_nil]at hlt hW';refine⟨ds,[],p,[],p,[],hW',?_,?_,?_,World.keptBut_mono (fun x hx=>⟨hx,.inr (.inl hx)⟩) (hb.frame (· ∈ p)),fun h=>(Bool.false_ne_true h).elim⟩
 ·rw[hr,List.append_nil,hs];exact trodAll_mk1 (shut_bool underlying4 _)
 ·rw[List.append_nil,hs]
  exact Mg hrd hA (fun x hx=>hb.same (hlt x hx)) (fun x hx=>by simpa using hlt x hx)
 ·rw[hvars,List.append_nil,hs];rfl
theorem Qy2{x:Int}(h:(Lit.int .u64 x).wf=true):∃ n:Nat,x=n/\n<18446744073709551616:=by
 simp[Lit.wf,IntKind.min,IntKind.max,IntKind.signed,IntKind.bits]at h;exact⟨x.toNat,by omega,by omega⟩
end
end
end Go.Proofs.YtlhchkajjpefmaaGreatDoor
