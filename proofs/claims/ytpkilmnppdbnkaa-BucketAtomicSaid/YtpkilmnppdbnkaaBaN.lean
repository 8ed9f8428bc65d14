/- BucketAtomic: the law's states. -/
import Derived.Test.YtpkilmnppdbnkaaBaM
import Derived.Test.YtpkilmnppdbnkaaBkX
import Derived.Test.YtpkilmnppdbnkaaStepA
import Derived.Test.YtpkilmnppdbnkaaCpyW
import Derived.Test.YtpkilmnppdbnkaaCsF
namespace Go.Proofs.Ytpkilmnppdbnkaa
open Go.RowKit

/-- What the law's pairs answers. -/
theorem row_all31 {w : World} {v : Value} {n B : Nat} {xs : List Value} (h : w.ownsRow B 86 2 v n xs) : (∃ a c, v = .slice a n c) ∧ RdSl w 2 v n xs ∧ ∀ g, v.ownBlock = some g → B ≤ g ∧ g < w.heap.size := by
  refine ⟨?_, rd_row31 h, fun g hg => ?_⟩
  · rcases h.2 with ⟨rfl, rfl⟩ | ⟨g, cap, _, rfl, _⟩
    · exact ⟨_, _, rfl⟩
    · exact ⟨_, _, rfl⟩
  · rcases h.2 with ⟨rfl, rfl⟩ | ⟨g', cap, cur, rfl, h1, h2, _⟩
    · simp [Value.ownBlock] at hg
    · simp [Value.ownBlock] at hg
      subst hg
      exact ⟨h1, lt_of_block h2⟩
/-- What is known of a plan. -/
structure PrG (C : Nat → Int) (off : Nat) (L : List (Nat × Nat × Int)) (C1 : Nat → Int) : Prop where
  two : ∃ gs, L = groupsP gs ∧ TwoB C off (entB C off 7) (entB C1 off 7) gs 4
  cl : ∀ D x, BCl D 4 C x → BCl (D.run 0 L) 4 C1 (x + 9)
  ok : instrOk L
  len : L.length ≤ 9
  ne : 0 < L.length
theorem PrG.put {C : Nat → Int} {off k : Nat} {x : Int} (h8 : off % 8 = 0) (hl : off + 128 ≤ 256) (hk : k < 18446744073709551616) (hv : 0 ≤ x ∧ x < 18446744073709551616) (hh : bkH C off < 18446744073709551616) (h0 : putE C off k = 0) : PrG C off (putL C off k x) (putC C off k x) := by
  refine ⟨two_put h8 (by omega) hk hv hh h0, fun D y hD => hD.put h8 (by omega) hk hv hh, putL_ok C off k x (by omega), putL_len C off k x, ?_⟩
  unfold putE at h0
  unfold putL
  split
  · unfold bkRep; rw [stores1]; simp
  · rename_i h1
    rw [if_neg h1] at h0
    split
    · rw [bkNew_eq]; simp
    · rename_i h2; rw [if_neg h2] at h0; cases h0
theorem PrG.del {C : Nat → Int} {off k : Nat} (h8 : off % 8 = 0) (hl : off + 128 ≤ 256) (hh : bkH C off < 18446744073709551616) (h0 : delE C off k = 0) : PrG C off (delL C off k) (delC C off k) := by
  refine ⟨two_del h8 (by omega) hh h0, fun D y hD => hD.del h8 (by omega) k hh, delL_ok C off k (by omega), delL_len C off k, ?_⟩
  unfold delE at h0
  unfold delL
  split
  · unfold bkHd; rw [stores1]; simp
  · rename_i h1; rw [if_neg h1] at h0; cases h0
/-- A slice that a stepper and a device leave alone. -/
structure Kpt (own : Nat → Option Role) (sb : Nat) (wx : World) (u : Value) (E : List (Int × Int)) : Prop where
  rd : RdSl wx 2 u E.length (prC E)
  ap : ∀ g, u.ownBlock = some g → own g = none ∧ g ≠ sb ∧ g < wx.heap.size
/-- The law while the stepper goes: L' is what it still has to do. -/
structure AtS (w0 : World) (v : DV) (own : Nat → Option Role) (D : Dev) (off bl xb : Nat) (C : Nat → Int) (sb : Nat) (L' : List (Nat × Nat × Int)) (u0 u1 : Value) (E0 E1 : List (Int × Int)) (wx : World) : Prop where
  dev : IsDev wx v own D
  stp : StpAt wx own sb ⟨v.tb 0, 0, none⟩ L'
  ob : ∀ k, own k ≠ none → w0.heap.size ≤ k
  bb : Blk wx bl #[.iface 56 (.pointer (some ⟨v.tb 0, 0, none⟩)), .int .u64 off] 29
  fb : own bl = none
  nb : bl ≠ sb
  xs : Blk wx xb (refC C off) 32
  fx : own xb = none
  nx : xb ≠ sb
  k0 : Kpt own sb wx u0 E0
  k1 : Kpt own sb wx u1 E1
  bel : Below w0.heap.size w0 wx
  ls : w0.heap.size ≤ sb
section
variable {w0 wx wy : World} {v : DV} {own own' : Nat → Option Role} {D D' : Dev} {off bl xb sb : Nat} {C : Nat → Int} {L' : List (Nat × Nat × Int)} {u0 u1 u : Value} {E0 E1 E : List (Int × Int)} {e : Nat × Nat × Int}
theorem Kpt.next (h : Kpt own sb wx u E) (hb : Below wx.heap.size wx wy) : Kpt own sb wy u E := ⟨h.rd.below hb, fun g hg => ⟨(h.ap g hg).1, (h.ap g hg).2.1, Nat.lt_of_lt_of_le (h.ap g hg).2.2 hb.size⟩⟩
theorem Kpt.step (h : Kpt own sb wx u E) (ho : ∀ k, k < wx.heap.size → own' k = own k) (hu : Upd (fun k => own k ≠ none ∨ k = sb) wx wy) : Kpt own' sb wy u E :=
  ⟨h.rd.upd hu (fun g hg e => by have := h.ap g hg; rcases e with e | e; exact e this.1; exact this.2.1 e), fun g hg => by
    obtain ⟨h1, h2, h3⟩ := h.ap g hg
    exact ⟨by rw [ho g h3]; exact h1, h2, Nat.lt_of_lt_of_le h3 hu.size⟩⟩
theorem AtS.next (h : AtS w0 v own D off bl xb C sb L' u0 u1 E0 E1 wx) (hb : Below wx.heap.size wx wy) : AtS w0 v own D off bl xb C sb L' u0 u1 E0 E1 wy :=
  ⟨h.dev.below hb, h.stp.below hb, h.ob, h.bb.below hb, h.fb, h.nb, h.xs.below hb, h.fx, h.nx, h.k0.next hb, h.k1.next hb, h.bel.trans (hb.mono h.bel.size), h.ls⟩
theorem AtS.step (h : AtS w0 v own D off bl xb C sb (e :: L') u0 u1 E0 E1 wx) {r : Ending} (hp : StpPost wx v own D' sb ⟨v.tb 0, 0, none⟩ L' r wy) : ∃ b own', r = .returned (.bool b) ∧ AtS w0 v own' D' off bl xb C sb L' u0 u1 E0 E1 wy := by
  obtain ⟨hr, own', s1, d1, ho, hu⟩ := hp
  refine ⟨_, own', hr, d1, s1, fun k hk => ?_, h.bb.upd hu (fun e => by rcases e with e | e; exact e h.fb; exact h.nb e), by rw [ho _ h.bb.lt]; exact h.fb, h.nb, h.xs.upd hu (fun e => by rcases e with e | e; exact e h.fx; exact h.nx e), by rw [ho _ h.xs.lt]; exact h.fx, h.nx, h.k0.step ho hu, h.k1.step ho hu, ?_, h.ls⟩
  · rcases Nat.lt_or_ge k wx.heap.size with hlt | hge
    · rw [ho k hlt] at hk; exact h.ob k hk
    · exact Nat.le_trans h.bel.size hge
  · refine ⟨hu.os.trans h.bel.os, hu.tape.trans h.bel.tape, hu.output.trans h.bel.output, Nat.le_trans h.bel.size hu.size, fun k hk => ?_⟩
    rw [hu.block k (Nat.lt_of_lt_of_le hk h.bel.size) (fun e => ?_)]
    · exact h.bel.block k hk
    · rcases e with e | e
      · have := h.ob k e; omega
      · have := h.ls; omega
theorem same31_yes (u q : Value) (l m : List (Int × Int)) (h1 : RdSl wx 2 u l.length (prC l)) (h2 : RdSl wx 2 q m.length (prC m)) (hl : l.length ≤ 7) (hm : m.length ≤ 7) (e : l = m) :
    Calls Try.prog 24 #[u, q] wx fun r w' => r = .returned (.bool true) ∧ Below wx.heap.size wx w' := by
  refine (r31Same_any u q l m h1 h2 (by omega) (by omega)).mono ?_
  rintro r w' ⟨hr, hb⟩
  refine ⟨?_, hb⟩
  rw [hr]
  exact congrArg (fun b => Ending.returned (.bool b)) (decide_eq_true e)
theorem same31_no (u q : Value) (l m : List (Int × Int)) (h1 : RdSl wx 2 u l.length (prC l)) (h2 : RdSl wx 2 q m.length (prC m)) (hl : l.length ≤ 7) (hm : m.length ≤ 7) (e : ¬ l = m) :
    Calls Try.prog 24 #[u, q] wx fun r w' => r = .returned (.bool false) ∧ Below wx.heap.size wx w' := by
  refine (r31Same_any u q l m h1 h2 (by omega) (by omega)).mono ?_
  rintro r w' ⟨hr, hb⟩
  refine ⟨?_, hb⟩
  rw [hr]
  exact congrArg (fun b => Ending.returned (.bool b)) (decide_eq_false e)
theorem BaAt.ok {n x : Nat} (h : BaAt D off E0 E1 n x) (h8 : off % 8 = 0) (hl : off + 128 ≤ 64 * n) : BOk D off := ⟨h.vb, h.on.off, h.on.err, h8, by rw [h.on.n]; exact hl⟩
/-- An image's device can be read. -/
theorem fresh_bok {f : Nat → Int} (hf : ∀ i, 0 ≤ f i ∧ f i < 18446744073709551616) {n : Nat} (h8 : off % 8 = 0) (hl : off + 128 ≤ 64 * n) : BOk (Dev.fresh n f) off := ⟨⟨hf, fun l e he => by simp [Dev.fresh] at he⟩, rfl, rfl, h8, hl⟩
theorem fresh_cur (n : Nat) (f : Nat → Int) : (Dev.fresh n f).cur = f := by
  funext i
  unfold Dev.cur
  simp [Dev.fresh, look]
theorem fresh_words {n : Nat} {f g : Nat → Int} (h : IsDev wx v own (Dev.fresh n f)) (hfg : ∀ i, i < 8 * n → f i = g i) : IsDev wx v own (Dev.fresh n g) :=
  { wf := ⟨h.wf.pos, h.wf.le, h.wf.line, h.wf.cnt, h.wf.note, h.wf.left⟩, dev := h.dev, pers := h.pers.congr (fun i hi => by show Value.int .u64 (f i) = .int .u64 (g i); rw [hfg i hi]), cur := h.cur.congr (fun i hi => by show Value.int .u64 (f i) = .int .u64 (g i); rw [hfg i hi]),
    lines := h.lines, thr := h.thr, notes := h.notes, odb := h.odb, opb := h.opb, ocb := h.ocb, olb := h.olb, otb := h.otb, onb := h.onb, lt := h.lt, pcs := h.pcs }
/-- The device behind some instructions of the plan. -/
theorem PrG.at {y : Nat} {L : List (Nat × Nat × Int)} {C1 : Nat → Int} (h : PrG C off L C1) (hD : BCl D 4 C y) (k : Nat) (hk : k ≤ L.length) : BaAt (D.run 0 (L.take k)) off (entB C off 7) (entB C1 off 7) 4 (y + k) := by
  obtain ⟨gs, rfl, T⟩ := h.two
  exact ba_at_k T hD k hk
end
end Go.Proofs.Ytpkilmnppdbnkaa
