/- A device that stands beside what was there; entries as a slice. -/
import Derived.Test.YtkoijmoendepgaaLeafT
namespace Go.Proofs.Ytkoijmoendepgaa
open Go.RowKit

section
variable {w : World} {v : DV} {own : Nat → Option Role} {D : Dev} {j p : Nat}
theorem isMem_nil : IsMem .nilIface := .inl rfl
theorem isMem_thr (a : Addr) : IsMem (.iface 39 (.pointer (some a))) := .inr ⟨a, rfl⟩
/-- The device stands where nothing of w has changed. -/
structure DevSt (w : World) (v : DV) (own : Nat → Option Role) (D : Dev) (wc : World) : Prop where
  dev : IsDev wc v own D
  ob : ∀ k, own k ≠ none → w.heap.size ≤ k
  bel : Below w.heap.size w wc
theorem DevSt.step {wc w1 : World} {D' : Dev} (h : DevSt w v own D wc) (hp : DPost v own wc D' w1) : ∃ own', DevSt w v own' D' w1 := by
  obtain ⟨own', h1, h2, h3⟩ := hp.from h.ob h.bel.size
  exact ⟨own', h1, h2, h.bel.trans h3⟩
theorem thread0_any (h : IsDev w v own D) : Calls Try.prog 14 #[.pointer (some ⟨v.db, 0, none⟩), .int .i64 0] w fun r w' => r = .returned (.pointer (some ⟨v.tb 0, 0, none⟩)) ∧ w = w' := thread_any h (j := 0) (by omega)
theorem thread1_any (h : IsDev w v own D) : Calls Try.prog 14 #[.pointer (some ⟨v.db, 0, none⟩), .int .i64 1] w fun r w' => r = .returned (.pointer (some ⟨v.tb 1, 0, none⟩)) ∧ w = w' := thread_any h (j := 1) (by omega)
theorem ents_len {es : List (Int × Int)} {r : Ending} {w' : World} (h : EntsPost w es r w') : ∃ a c, r = .returned (.slice a es.length c) ∧ Below w.heap.size w w' := by
  obtain ⟨v, rfl, h1, h2⟩ := h
  obtain ⟨a, c, rfl⟩ := ownsRow_slice h1
  exact ⟨a, c, rfl, h2⟩
end
end Go.Proofs.Ytkoijmoendepgaa
