/- The walks of the reference of layer 54: Without, Found. -/
import Derived.Test.YtahpadhejjlpoaaGreatDoorNcP
import Derived.OwnWalk
namespace Go.Proofs.YtahpadhejjlpoaaGreatDoor
open Go.RowKit
attribute [local go_sem ↓] Go.wp_at_zero Go.wp_at_succ

theorem infoI54 : (Tryz.prog.info? 41).map (fun i => (i.zero, i.size, i.bytes)) = some (some (.agg #[.int .i64 0, .int .u64 0, .int .u64 0]), 3, 24) := by kernel_rfl
theorem ret_tup2 {u : Value} {a b : Bool} (h : a = b) : Ending.returned (.tuple #[u, .bool a]) = .returned (.tuple #[u, .bool b]) := by rw [h]
theorem three_one (a b c : Value) (ha : a.oneCell' = true) (hb : b.oneCell' = true) (hc : c.oneCell' = true) : ∀ u ∈ [a, b, c], u.oneCell' = true := by
  intro u hu
  simp only [List.mem_cons, List.not_mem_nil, or_false] at hu
  rcases hu with rfl | rfl | rfl
  · exact ha
  · exact hb
  · exact hc
section
variable {w : World}
structure WoSt (w : World) (f : Int) (q : List (Nat × Nat × Int)) (t : TypeId) (C : List (Nat × Nat × Int) → List Value) (k : Nat) (v : Value) (wr : World) : Prop where
  acc : Acc w w.heap.size wr t 3 v (woI f (q.take k) 0).length (C (woI f (q.take k) 0))
theorem WoSt.skip {f : Int} {q : List (Nat × Nat × Int)} {t : TypeId} {C : List (Nat × Nat × Int) → List Value} {k : Nat} {v : Value} {wr wz : World} {e : Nat × Nat × Int} (h : WoSt w f q t C k v wr) (he : q[k]? = some e) (h3 : e.1 = 3 ∧ (fenN (q.take k) : Int) = f) (hb : Below wr.heap.size wr wz) : WoSt w f q t C (k + 1) v wz := by
  have e1 : woI f (q.take (k + 1)) 0 = woI f (q.take k) 0 := by
    rw [List.take_add_one, he]
    show woI f (q.take k ++ [e]) 0 = _
    rw [woI_snoc, Nat.zero_add, if_pos h3, List.append_nil]
  exact ⟨by rw [e1]; exact h.acc.keep hb⟩
theorem WoSt.add {f : Int} {q : List (Nat × Nat × Int)} {t : TypeId} {C : List (Nat × Nat × Int) → List Value} {k : Nat} {v : Value} {wz : World} {e : Nat × Nat × Int} {x : List Value} (he : q[k]? = some e) (h3 : ¬ (e.1 = 3 ∧ (fenN (q.take k) : Int) = f)) (hC : C (woI f (q.take k) 0 ++ [e]) = C (woI f (q.take k) 0) ++ x)
    (h : Acc w w.heap.size wz t 3 v ((woI f (q.take k) 0).length + 1) (C (woI f (q.take k) 0) ++ x)) : WoSt w f q t C (k + 1) v wz := by
  have e1 : woI f (q.take (k + 1)) 0 = woI f (q.take k) 0 ++ [e] := by
    rw [List.take_add_one, he]
    show woI f (q.take k ++ [e]) 0 = _
    rw [woI_snoc, Nat.zero_add, if_neg h3]
  exact ⟨by rw [e1, hC]; exact h.congr (by simp) rfl⟩
/-- What Found answers. -/
def FdRet (r : Nat × Nat × Nat) : Ending := .returned (.tuple #[.int .i64 r.1, .int .u64 r.2.1, .int .i64 r.2.2])
end
end Go.Proofs.YtahpadhejjlpoaaGreatDoor
