/- From a walk to a given statement: a law that returns true and changes nothing that was there answers as its row says, whatever its arguments are. -/
import Derived.Test.YtahpadhejjlpoaaGreatDoorGen
import Derived.WalkKit
import Derived.ProofKit
import Derived.OpenShut
namespace Go.Proofs.YtahpadhejjlpoaaGreatDoor
open Go.ChangeShapes Go.WideShapes Go.ChangeAt Go.RowKit

theorem own_knob : ownKnob Tryz.prog.godebug = none := by kernel_rfl
theorem laid_outP : laidOutB Tryz.prog = true := by kernel_rfl

section
variable {H : Type} {enc : TypeId × Value → H}

theorem trodAll_stays {W W' : World} {sp' : Nat → Bool} : ∀ {ts : List TypeId} {vs : List Value} {ds : List (DataW H)} {ps : List MemPlace}, (∀ t ∈ ts, Tryz.prog.readableRec t = true ∧ t < Tryz.prog.types.size) →
    DataW.TrodAll enc Tryz.prog W 0 (fun _ => true) true ts vs ds ps → (∀ p ∈ ps, W.sameAt W' p) → (∀ p ∈ ps, sp' p.block = true) → DataW.TrodAll enc Tryz.prog W' 0 sp' true ts vs ds ps
  | [], [], [], _, _, h, _, _ => h
  | t :: _, _ :: _, _ :: _, _, hT, ⟨p, q, h1, h2, e⟩, hw, hs =>
    ⟨p, q, WideElems.Trod_stays laid_outP (hT t (List.mem_cons.2 (.inl rfl))).1 (hT t (List.mem_cons.2 (.inl rfl))).2 h1 (fun x hx => hw x (by rw [e]; exact List.mem_append_left _ hx)) (fun x hx => hs x (by rw [e]; exact List.mem_append_left _ hx)),
      trodAll_stays (fun t ht => hT t (List.mem_cons.2 (.inr ht))) h2 (fun x hx => hw x (by rw [e]; exact List.mem_append_right _ hx)) (fun x hx => hs x (by rw [e]; exact List.mem_append_right _ hx)), e⟩

theorem law_post {f : Func} {s : ChangeSpec} {W W' : World} {args : Array Value} {ds gs : List (DataW H)} {before : List MemPlace}
    (hW : DataW.Whole enc Tryz.prog f.params.toList s.vars false W args.toList ds gs before) (hvars : s.vars = []) (hr : f.resultTypes = #[4])
    (hs : s.fn H ds = { results := [.lit (.bool true)], args := ds }) (hrd : ∀ t ∈ f.params.toList, Tryz.prog.readableRec t = true ∧ t < Tryz.prog.types.size) (hb : Below W.heap.size W W') :
    s.post enc Tryz.prog f false true false false W args (.bool true) W' := by
  have hlt : ∀ p ∈ before, p.block < W.heap.size := fun p hp => hW.lt p hp
  have hW' := hW
  obtain ⟨p, q, hA, hV, rfl, _, _⟩ := hW
  rw [hvars] at hV
  obtain ⟨rfl, rfl⟩ := trodVars_none hV
  simp only [List.append_nil] at hlt hW'
  refine ⟨ds, [], p, [], p, [], hW', ?_, ?_, ?_, World.keptBut_mono (fun x hx => ⟨hx, .inr (.inl hx)⟩) (hb.frame (· ∈ p)), fun h => (Bool.false_ne_true h).elim⟩
  · rw [hr, List.append_nil, hs]; exact trodAll_mk1 (shut_bool Tryz.underlying4 _)
  · rw [List.append_nil, hs]
    exact trodAll_stays hrd hA (fun x hx => hb.same (hlt x hx)) (fun x hx => by simpa using hlt x hx)
  · rw [hvars, List.append_nil, hs]; rfl

/-- A word that came in. -/
theorem u64_nat {x : Int} (h : (Lit.int .u64 x).wf = true) : ∃ n : Nat, x = n ∧ n < 18446744073709551616 := by
  simp [Lit.wf, IntKind.min, IntKind.max, IntKind.signed, IntKind.bits] at h
  exact ⟨x.toNat, by omega, by omega⟩
theorem cells_u64 : Tryz.prog.cellsOf 39 = 1 := by kernel_rfl
set_option maxRecDepth 100000 in
/-- A slice of words that came in. -/
theorem open_u64s {W : World} {base b : Nat} {sp : Nat → Bool} {hd : Bool} {v : Value} {d : DataW H} {p : List MemPlace} (hv : Value.okWide Tryz.prog W .any b 90 v) (h : DataW.Trod enc Tryz.prog W base sp hd 90 v d p) :
    ∃ a c xs, v = .slice a xs.length c ∧ RdSl W 1 (.slice a xs.length c) xs.length (intsU xs) ∧ xs.length ≤ maxLen := by
  obtain ⟨a0, len, cap, rfl⟩ := okWide_slice Tryz.underlying90 hv
  obtain ⟨fuel, hf⟩ := h
  rcases open_ints Tryz.underlying90 Tryz.underlying39 cells_u64 hf with ⟨hcs, _⟩ | ⟨a, len', cap', zs, hcs, _, hl, hm, hz, _, hcell, _⟩
  · simp [Value.cells] at hcs
    obtain ⟨rfl, rfl, rfl⟩ := hcs
    exact ⟨none, 0, [], rfl, (OwnSl.nil W 0 1).rd, by simp⟩
  · simp [Value.cells] at hcs
    obtain ⟨rfl, rfl, rfl⟩ := hcs
    have hlen : (zs.take len).length = len := by
      rw [List.length_take, hz]; split <;> omega
    refine ⟨some a, cap, zs.take len, by rw [hlen], ?_, by omega⟩
    rw [hlen]
    refine ⟨by rw [intsU, List.length_map, hlen, Nat.mul_one], some a, cap, rfl, hl, ?_⟩
    by_cases h0 : len = 0
    · left; simp [intsU, h0]
    · have hz1 : len ≤ zs.length := by rw [hz]; split <;> omega
      have c0 := hcell 0 (by omega)
      have hsp := World.cell?_spot c0
      simp only [Addr.add, if_true] at hsp
      refine .inr ⟨a.block, a.off, by rw [← hsp], fun j u hu => ?_⟩
      have hj : j < len := by
        rcases Nat.lt_or_ge j len with h | h
        · exact h
        · rw [List.getElem?_eq_none (by simp [intsU]; omega)] at hu; cases hu
      have hcj := hcell j (by omega)
      have ea : a.add j = ⟨a.block, a.off + j, none⟩ := by
        unfold Addr.add; split
        · rename_i e; subst e; rw [← hsp]; rfl
        · rfl
      rw [← ea, hcj]
      simp only [intsU, List.getElem?_map, List.getElem?_take, if_pos hj] at hu
      rw [List.getElem?_eq_getElem (by omega)] at hu
      rw [List.getD, List.getElem?_eq_getElem (by omega)]
      simpa using hu
end
end Go.Proofs.YtahpadhejjlpoaaGreatDoor
