/- made, get: a device with the node that the law draws. -/
import Derived.Test.YtkoijmoendepgaaNodeF
import Derived.Test.YtkoijmoendepgaaDevS
namespace Go.Proofs.Ytkoijmoendepgaa
open Go.RowKit

def nodeOff (n : NodeP) : Nat := 8 + 8 * (n.pos % 30)
theorem nodeOff_le (n : NodeP) : 8 ≤ nodeOff n ∧ nodeOff n ≤ 240 ∧ nodeOff n % 8 = 0 := by unfold nodeOff; omega

section
variable {w : World}
set_option maxRecDepth 100000 in
set_option maxHeartbeats 1000000 in
theorem nodeAt_any (n : NodeP) (ka sa va : Option Addr) (kc sc vc : Nat) (hp : n.pos < 256) : Calls Try.prog 31 #[.agg (nodeAgg n ka sa va kc sc vc)] w fun r w' => r = .returned (.int .u64 (nodeOff n : Nat)) ∧ Below w.heap.size w w' := by
  unfold nodeAgg
  go_enter Try.func31, Try.ntmps31
  go_wp2_with fail
  go_ret
  exact ⟨ret_int (by unfold nodeOff; omega), below_alloc _ _⟩

theorem pointerN_any (off : Nat) (h0 : 0 < off) (h8 : off % 8 = 0) (ho : off ≤ 34359738360) : Calls Try.prog 28 #[.int .u64 off] w fun r w' => r = .returned (.int .u64 (ptrN off : Nat)) ∧ w = w' := pointer_any off h0 h8 ho
theorem new12_any : Calls Try.prog 12 #[.int .i64 12] w fun r w' => ∃ v own, r = .returned (.tuple #[.pointer (some ⟨v.db, 0, none⟩), .int .i64 0]) ∧ IsDev w' v own (Dev.fresh 12 (fun _ => 0)) ∧ (∀ k, own k ≠ none → w.heap.size ≤ k) ∧ Below w.heap.size w w' := new_any 12 (by omega) (by omega)

def nList (n : NodeP) : List Int := (List.range 28).map (nWords n)
/-- The words C, with the node n at its place. -/
def withNode (C : Nat → Int) (off : Nat) (n : NodeP) : Nat → Int := laid C (off / 8) (nList n)
theorem withNode_at (C : Nat → Int) (off : Nat) (n : NodeP) (i : Nat) (hi : i < 28) : withNode C off n (off / 8 + i) = nWords n i := by
  unfold withNode laid nList
  rw [if_pos (by simp; omega), show off / 8 + i - off / 8 = i by omega]
  simp [List.getD, hi]
theorem row_list {W : World} {g : Nat} (n : NodeP) (h : Row W g 28 23 (fun i => .int .u64 (nWords n i))) : RdSl W 1 (.slice (some ⟨g, 0, none⟩) 28 28) (nList n).length (intsV (nList n)) := by
  refine ⟨by simp [intsV], _, _, by rw [show (nList n).length = 28 by simp [nList]], by simp [nList], .inr ⟨g, 0, rfl, fun j u hu => ?_⟩⟩
  have hj : j < 28 := by
    rcases Nat.lt_or_ge j 28 with h | h
    · exact h
    · rw [List.getElem?_eq_none (by simp [intsV, nList]; exact h)] at hu; cases hu
  have : u = .int .u64 (nWords n j) := by simp [intsV, nList, hj] at hu; exact hu.symm
  rw [this, Nat.zero_add]; exact h.cell hj

/-- A device that is on, of 12 lines, with the words C; nothing of w has changed. -/
structure LiveSt (w : World) (v : DV) (own : Nat → Option Role) (D : Dev) (x : Nat) (C : Nat → Int) (wc : World) : Prop extends DevSt w v own D wc where
  live : Live D 12 x C
theorem LiveSt.next {v : DV} {own : Nat → Option Role} {D : Dev} {x : Nat} {C : Nat → Int} {wc w1 : World} (h : LiveSt w v own D x C wc) (hb : Below wc.heap.size wc w1) : LiveSt w v own D x C w1 :=
  ⟨⟨h.dev.below hb, h.ob, h.bel.trans (hb.mono h.bel.size)⟩, h.live⟩
theorem LiveSt.put {v : DV} {own : Nat → Option Role} {D : Dev} {x : Nat} {C : Nat → Int} {wc : World} (h : LiveSt w v own D x C wc) (off : Nat) (sv : Value) (l : List Int) (h8 : off % 8 = 0) (hb : off + 8 * l.length ≤ 768) (hx : x + 2 * l.length < 4294967295)
    (hs : RdSl wc 1 sv l.length (intsV l)) (hown : ∀ k, sv.ownBlock = some k → own k = none) :
    Calls Try.prog 26 #[.pointer (some ⟨v.db, 0, none⟩), .int .u64 off, sv] wc fun r w' => r = .returned (.tuple #[]) ∧ ∃ own' D', LiveSt w v own' D' (x + 2 * l.length + 1) (laid C (off / 8) l) w' ∧ (∀ k, k < wc.heap.size → own' k = own k) ∧ Upd (fun k => own k ≠ none) wc w' := by
  refine (put_any h.dev h.live off sv l h8 (by omega) hx hs hown).mono ?_
  rintro r w' ⟨h1, D', hp, hl⟩
  obtain ⟨own', d, o, u⟩ := hp
  obtain ⟨own2, d2, o2, b2⟩ := DPost.from (B := w.heap.size) ⟨own', d, o, u⟩ h.ob h.bel.size
  refine ⟨h1, own', D', ⟨⟨d, fun k hk => ?_, h.bel.trans b2⟩, hl⟩, o, u⟩
  rcases Nat.lt_or_ge k wc.heap.size with hlt | hge
  · rw [o k hlt] at hk; exact h.ob k hk
  · have := h.bel.size; omega
/-- The node at off can be read through thread j. -/
theorem LiveSt.node {v : DV} {own : Nat → Option Role} {D : Dev} {x : Nat} {C : Nat → Int} {wc : World} (h : LiveSt w v own D x C wc) (j off : Nat) (hj : j < 8) (h0 : 0 < off) (h8 : off % 8 = 0) (hb : off + 224 ≤ 768)
    (hW : ∀ i, i < 28 → 0 ≤ C (off / 8 + i) ∧ C (off / 8 + i) < 18446744073709551616) : NodeAt wc v own D j (ptrN off) ∧ ∀ i, nodeW D (ptrN off) i = C (off / 8 + i) := by
  have hp := refD_ptr off h8 (by omega)
  have e : ∀ i, nodeW D (ptrN off) i = C (off / 8 + i) := fun i => by unfold nodeW; rw [hp, h.live.cur]
  exact ⟨⟨h.dev, hj, ptrN_lt off (by omega), ptrN_pos off, h.live.off, h.live.err j, by rw [hp, h.live.n]; omega, fun i hi => by rw [e]; exact hW i hi⟩, e⟩
end
end Go.Proofs.Ytkoijmoendepgaa
