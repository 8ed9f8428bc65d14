/- Small facts that several laws of the leaf use. -/
import Derived.Test.YtkoijmoendepgaaEntM
import Derived.Test.YtkoijmoendepgaaRefB
namespace Go.Proofs.Ytkoijmoendepgaa
open Go.RowKit Go.Shelf

section
variable {w wr wz w1 : World} {B : Nat} {e : TypeId} {size n : Nat} {v : Value} {xs : List Value}
theorem Acc.other (h : Acc w B wr e size v n xs) {a : Addr} (hb : B ≤ a.block) (hne : v.ownBlock ≠ some a.block) (u : Value) : Acc w B (wr.setCell a u) e size v n xs :=
  ⟨h.own.other (fun k hk e => hne (e ▸ hk)) u, h.new, ⟨h.bel.os, h.bel.tape, h.bel.output, Nat.le_trans h.bel.size (by simp [World.setCell]), fun k hk => (Below.heap_setCell _ _ _ _ (by omega)).trans (h.bel.block k hk)⟩, Nat.le_trans h.lt (by simp [World.setCell])⟩
end

theorem rd_of_row {W : World} {base e size : Nat} {v : Value} {k : Nat} {xs : List Value} (h : W.ownsRow base e size v k xs) : RdSl W size v k xs := by
  refine OwnSl.rd (e := e) ⟨h.1, ?_⟩
  rcases h.2 with h | ⟨g, cap, cur, hv, _, hb, hn, hm, hs, ht⟩
  · exact .inl h
  · exact .inr ⟨g, 0, cap, cur, hv, hb, hn, hm, by omega, by simpa using ht⟩
theorem cell_setOther (w : World) (a b : Addr) (h : a.block ≠ b.block) (u : Value) : (w.setCell b u).cell? a = w.cell? a := World.cell?_of_block (Below.heap_setCell _ _ _ _ h)
theorem refSame_same {w : World} (u v : Value) (xs : List (Int × Int)) (hx : RdSl w 2 u xs.length (entC xs)) (hy : RdSl w 2 v xs.length (entC xs)) (hl : xs.length ≤ 100000) :
    Calls Try.prog 39 #[u, v] w fun r w' => r = .returned (.bool true) ∧ Below w.heap.size w w' := by
  have := refSame_any u v xs xs hx hy hl hl
  simpa using this

/-- A valid node yields its entries from a key on. -/
theorem yields_ok {W : World} {v : DV} {own : Nat → Option Role} {D : Dev} {j p : Nat} (h : NodeAt W v own D j p) (hok : nodeOk (nodeW D p) (D.n * 64)) (from' : Int) :
    Yields W (.iface 39 (.pointer (some ⟨v.tb j, 0, none⟩))) p from' ((entsW (nodeW D p) (slotsW (nodeW D p))).drop (findIdx (nodeW D p) from' (slotsW (nodeW D p)))) := by
  intro W' hb
  refine (h.below hb).read.mono ?_
  rintro r w1 ⟨hb1, ⟨_, cb, rfl, _, hc⟩ | ⟨hbad, _⟩⟩
  · exact ⟨hb1, .inr ⟨cb, _, _, _, rfl, hc, rfl⟩⟩
  · exact absurd hok hbad
end Go.Proofs.Ytkoijmoendepgaa
