/- Steps through a region that draws its order, under a condition that is held; a load of a whole row. No program in sight. -/
import Derived.Test.YtoakngofgkkpnaaBase
import Derived.OrdersHeld
import Derived.Laws.Rows
namespace Go.Proofs.Ytoakngofgkkpnaa
open Go.RowKit

section
variable {P : Program} {ops : Array Oper} {Q : Exit → Act → World → Prop} {md : Region.Mode} {S : World → Prop}
theorem wpAnyH_one {i : Nat} {oi : Oper} {fuel : Nat} {listed : Array Bool} {a : Act} {w : World} (hr : Region.ready md ops listed = [i]) (hi : ops[i]? = some oi) (hw : Region.wanted oi (yielded ops a.tmps) = true)
    (h : ∀ K : Act → World → Prop, (∀ a' w', S w' ∧ wpAnyH P md ops Q S fuel (listed.setIfInBounds i true) a' w' → K a' w') → oi.wp P a w K Q) : wpAnyH P md ops Q S (fuel + 1) listed a w :=
  wpAnyH_all hr (by simp) (fun j hj => by
    rw [List.mem_singleton] at hj
    subst hj
    unfold wpOp
    simp only [hi, hw, if_true]
    exact .inl (h _ (fun _ _ hk => hk)))
theorem wpAnyH_two {i j : Nat} {oi oj : Oper} {fuel : Nat} {listed : Array Bool} {a : Act} {w : World} (hr : Region.ready md ops listed = [i, j]) (hi : ops[i]? = some oi) (hwi : Region.wanted oi (yielded ops a.tmps) = true) (hj : ops[j]? = some oj) (hwj : Region.wanted oj (yielded ops a.tmps) = true)
    (h1 : ∀ K : Act → World → Prop, (∀ a' w', S w' ∧ wpAnyH P md ops Q S fuel (listed.setIfInBounds i true) a' w' → K a' w') → oi.wp P a w K Q)
    (h2 : ∀ K : Act → World → Prop, (∀ a' w', S w' ∧ wpAnyH P md ops Q S fuel (listed.setIfInBounds j true) a' w' → K a' w') → oj.wp P a w K Q) : wpAnyH P md ops Q S (fuel + 1) listed a w :=
  wpAnyH_all hr (by simp) (fun k hk => by
    rw [List.mem_cons, List.mem_singleton] at hk
    rcases hk with rfl | rfl
    · unfold wpOp
      simp only [hi, hwi, if_true]
      exact .inl (h1 _ (fun _ _ hk => hk))
    · unfold wpOp
      simp only [hj, hwj, if_true]
      exact .inl (h2 _ (fun _ _ hk => hk)))
/-- The condition may be made sharper on the way. -/
theorem wpAnyH_narrow {S' : World → Prop} (hs : ∀ w, S' w → S w) : ∀ (fuel : Nat) (listed : Array Bool) (a : Act) (w : World), wpAnyH P md ops Q S' fuel listed a w → wpAnyH P md ops Q S fuel listed a w
  | 0, _, _, _, h => h
  | fuel + 1, _, _, _, h => ⟨h.1, fun i hi => wpOp_mono (fun a' w' h' => ⟨hs w' h'.1, wpAnyH_narrow hs fuel _ a' w' h'.2⟩) (h.2 i hi)⟩
theorem exec_load_row {o : Oper} {ev : Operand → Value} {w : World} (ty : TypeId) (x : Operand) (ho : o.op = .load ty x)
    (g : Nat) (hx : ev x = .pointer (some ⟨g, 0, none⟩)) (t : TypeId) (cs : Array Value) (fr : Nat × Nat) (d : TypeDesc) (hg : w.heap[g]? = some (.cells cs t fr))
    (hu : P.underlying ty = some d) (hd : (match d with | .struct _ | .array _ _ => true | _ => false) = true) (hi : (P.info? ty).map (·.size) = some cs.size) :
    (execOp ev o).run P w = .ok (.value (.agg cs)) w := by
  unfold execOp
  simp only [ho, hx, Instr.loadAt, Instr.sureAddr, Sem.run_bind, Sem.run_pure, Result.andThen_ok, run_loadVar_row w g t ty cs fr d hg hu hd hi]
end
end Go.Proofs.Ytoakngofgkkpnaa
