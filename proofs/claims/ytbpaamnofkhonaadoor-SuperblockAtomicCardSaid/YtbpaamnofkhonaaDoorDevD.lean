/- The walk of a flush. -/
import Derived.Test.YtbpaamnofkhonaaDoorDevC
import Derived.StillTailTactics
namespace Go.Proofs.YtbpaamnofkhonaaDoor
open Go.RowKit Go.Maps

section
variable {w : World} {v : DV} {own : Nat → Option Role} {D : Dev}

theorem NotesAt.put {P : Program} {kt et : TypeId} {w' : World} {b B : Nat} {f : Nat → Option Nat} {m : Nat} {N : DataW Unit} (l p : Nat) (hp : p < 18446744073709551616)
    (h1 : m ≤ B) (h2 : IsMap N) (h3 : ∀ l p, f l = some p → p < 18446744073709551616) (h4 : ∀ x : Int, Maps.has N (.int .i64 x) = true → ∃ l p : Nat, x = l ∧ f l = some p)
    (h5 : ∀ l p, f l = some p → Maps.has N (.int .i64 l) = true ∧ ∀ z, N.atKey (.int .i64 l) z = .lit (.int .u64 p))
    (h : w'.ownsMap P kt (plainElem P et) b (m + 1) (N.put (.int .i64 l) (.lit (.int .u64 p)))) : NotesAt P kt et w' b (B + 1) (fun k => if k = l then some p else f k) := by
  refine ⟨m + 1, _, by omega, h, ?_, ?_, ?_⟩
  · intro l' p' h'
    simp only at h'
    split at h'
    · cases h'; exact hp
    · exact h3 _ _ h'
  · intro x hx
    by_cases e : x = l
    · exact ⟨l, p, e, if_pos rfl⟩
    · rw [has_put_other (by simpa using e)] at hx
      obtain ⟨l', p', rfl, h'⟩ := h4 x hx
      exact ⟨l', p', rfl, by simp only; rw [if_neg (fun e' => e (by rw [e']))]; exact h'⟩
  · intro l' p' h'
    simp only at h'
    split at h'
    · rename_i e; subst e; cases h'
      exact ⟨has_put_same h2 (show WideAt.IsKeyLit (.int .i64 (l' : Int)) from trivial) _, fun z => atKey_put_same h2 (show WideAt.IsKeyLit (.int .i64 (l' : Int)) from trivial) _ _⟩
    · rename_i e
      have e' : (Lit.int .i64 (l' : Int)) ≠ .int .i64 l := by intro h; injection h with _ h; exact e (by omega)
      rw [has_put_other e']
      refine ⟨(h5 _ _ h').1, fun z => ?_⟩
      rw [atKey_put_other e']
      exact (h5 _ _ h').2 z

theorem IsDev.jot_post (h : IsDev w v own D) {j : Nat} (hj : j < 8) {l : Nat} (hl : l < D.n) {w1 : World} (hg : w.grownBy w1 (some (v.nb j)))
    (hN : NotesAt Tryd.prog 3 22 w1 (v.nb j) D.exec (fun k => if k = l then some (D.done l + (D.hist l).length) else D.note j k)) : IsDev w1 v own (D.jot j l) := by
  have ne : ∀ k r, own k = some r → r ≠ .notes j → w1.heap[k]? = w.heap[k]? := fun k r hk hr =>
    hg.block k (h.lt k (by simp [hk])) (fun e => own_ne hk (h.onb j hj) hr (Option.some.inj e))
  have nB : ∀ k r c t, own k = some r → r ≠ .notes j → Blk w k c t → Blk w1 k c t := fun k r c t hk hr hb => (ne k r hk hr).trans hb
  have nR : ∀ k r n t f, own k = some r → r ≠ .notes j → Row w k n t f → Row w1 k n t f := fun k r n t f hk hr ⟨c, h1, h2⟩ => ⟨c, nB k r c t hk hr h1, h2⟩
  obtain ⟨hv, l1, l2⟩ := h.lines
  exact {
    wf := ⟨h.wf.pos, h.wf.le, h.wf.line, h.wf.cnt, fun j' l' p' hp => by
      simp only [Dev.jot] at hp
      split at hp
      · rename_i e; obtain ⟨rfl, rfl⟩ := e; cases hp; exact ⟨hl, Nat.le_refl _⟩
      · exact h.wf.note j' l' p' hp, h.wf.left⟩
    dev := nB _ _ _ _ h.odb (by simp) h.dev
    pers := nR _ _ _ _ _ h.opb (by simp) h.pers
    cur := nR _ _ _ _ _ h.ocb (by simp) h.cur
    lines := ⟨hv, nR _ _ _ _ _ h.olb (by simp) l1, fun i hi => (l2 i hi).mono (fun _ hg _ => hg) (fun g hg _ => ne g _ hg (by simp))⟩
    thr := fun k hk => nB _ _ _ _ (h.otb k hk) (by simp) (h.thr k hk)
    notes := fun k hk => by
      by_cases e : k = j
      · subst e
        have : (D.jot k l).note k = (fun m => if m = l then some (D.done l + (D.hist l).length) else D.note k m) := by funext m; simp [Dev.jot]
        rw [this]; exact hN
      · have : (D.jot j l).note k = D.note k := by funext m; simp [Dev.jot, e]
        rw [this]; exact (h.notes k hk).kept (Nat.le_refl _) (ne _ _ (h.onb k hk) (by simpa using e))
    odb := h.odb, opb := h.opb, ocb := h.ocb, olb := h.olb, otb := h.otb, onb := h.onb
    lt := fun k hk => Nat.lt_of_lt_of_le (h.lt k hk) hg.size
    pcs := h.pcs }

set_option maxRecDepth 100000 in
set_option maxHeartbeats 1000000 in
theorem flush_any (h : IsDev w v own D) {j : Nat} (hj : j < 8) (off : Nat) (ho : off < 18446744073709551616) (hx : D.exec < 4294967296) :
    Calls Tryd.prog 121 #[.pointer (some ⟨v.tb j, 0, none⟩), .int .u64 off] w fun r w' => r = .returned (.tuple #[]) ∧ DPost v own w (D.flush j off) w' := by
  have c0 : w.cell? ⟨v.tb j, 0, none⟩ = some (.pointer (some ⟨v.db, 0, none⟩)) := (h.thr j hj).cell rfl
  have hn := h.wf.le
  by_cases hb : D.countedB (D.inB off) = true
  · have h2 : D.inB off = true := by revert hb; cases D.inB off <;> simp [Dev.countedB, Dev.onB]
    have h3 : off < 64 * D.n := by simpa [Dev.inB] using h2
    have Hd : Hid (D.flush j off = D.tick.jot j (off / 64)) := by
      show D.flush j off = _
      have h4 : D.onB (D.inB off) = true ∧ D.cut = false := by simpa [Dev.countedB] using hb
      simp only [Dev.flush, hb, if_true, Dev.countedD, h4.1, h4.2, Bool.false_eq_true, if_false]
    rw [h2] at hb
    have hlt : (off : Int) < (D.n : Int) * 64 := by omega
    have hl : off / 64 < D.n := by omega
    have b1 : (off : Int) / 64 < D.n := by omega
    have H := Lib.hid h; have Hb := Lib.hid hb; have H2 := Lib.hid h2; clear h hb h2
    go_enter Tryd.func121, Tryd.ntmps121
    go_wp2_with (go_at_call 118; refine (size_any H.out).mono ?_; rintro e w' ⟨rfl, rfl⟩)
    refine (counted_yes H.out hj (by omega) Hb.out).mono ?_
    rintro e w1 ⟨rfl, d1, o1, u1⟩
    have c0' : w1.cell? ⟨v.tb j, 0, none⟩ = some (.pointer (some ⟨v.db, 0, none⟩)) := (d1.thr j hj).cell rfl
    have c3' : w1.cell? ⟨v.tb j, 3, none⟩ = some (.map (some (v.nb j))) := (d1.thr j hj).cell rfl
    have c2' : w1.cell? ⟨v.db, 2, none⟩ = some (.slice (some ⟨v.lb, 0, none⟩) D.n D.n) := d1.dev.cell rfl
    obtain ⟨hv, l1, l2⟩ := line_at d1
    have e0 : w1.cell? ⟨v.lb, off / 64 * 2, none⟩ = some (.int .u64 (D.done (off / 64))) := (l1 _ hl).1
    have e1 := (l1 _ hl).2
    obtain ⟨a, c, hve⟩ := (l2 _ hl).1.slice
    rw [hve] at e1
    have e1' : w1.cell? ⟨v.lb, off / 64 * 2 + 1, none⟩ = some (.slice a (D.hist (off / 64)).length c) := e1
    have hcn := H.out.wf.cnt _ hl
    have Hp := Lib.hid (And.intro d1 (And.intro o1 u1))
    clear d1 o1 u1 c0 hve l1 l2 e1
    go_wp2_with fail
    have hw1 : IntKind.u64.wrap ((D.hist (off / 64)).length : Int) = ((D.hist (off / 64)).length : Int) := IntWalk.u64_in _ (by omega)
    have hw2 : IntKind.u64.wrap ((D.done (off / 64) : Int) + ((D.hist (off / 64)).length : Int)) = (D.done (off / 64) : Int) + ((D.hist (off / 64)).length : Int) := IntWalk.u64_in _ (by omega)
    go_still_tail 16, (by kernel_rfl)
    change wpList _ _ _ _ _ w1.drew
    clear hw1 hw2
    obtain ⟨m, N, n1, n2, n3, n4, n5⟩ := (H.out.notes j hj).kept (w' := w1) (Nat.le_refl _) (Hp.out.2.1 _ (own_ne (H.out.onb j hj) H.out.odb (by simp)))
    have hk : keyOf Tryd.prog 3 (.int .i64 ((off : Int) / 64)) = some (.int .i64 ((off / 64 : Nat) : Int)) := by
      rw [show ((off : Int) / 64) = ((off / 64 : Nat) : Int) from by omega]
      exact keyOf_int_mk Tryd.underlying3 (WalkArith.wf_i64 (by omega))
    have hval : plainElem (H := Unit) Tryd.prog 22 (.int .u64 ((D.done (off / 64) : Int) + ((D.hist (off / 64)).length : Int))) = some (.lit (.int .u64 ((D.done (off / 64) + (D.hist (off / 64)).length : Nat) : Int)), []) := by
      rw [show ((D.done (off / 64) : Int) + ((D.hist (off / 64)).length : Int)) = ((D.done (off / 64) + (D.hist (off / 64)).length : Nat) : Int) from by omega]
      exact plainElem_int Tryd.underlying22 (WalkArith.wf_u64 (by omega))
    refine wpList_mapUpdate_own _ rfl _ _ _ 117 rfl 3 22 law3 Tryd.underlying117 _ (v.nb j) m _ rfl n2.drew (by unfold maxLen; omega) _ _ _ rfl rfl hk _ [] hval ?_
    intro w2 o2 g2
    go_frame
    refine wpList_nil ?_
    go_end0
    refine ⟨rfl, ?_⟩
    rw [Hd.out]
    have hN := NotesAt.put (off / 64) (D.done (off / 64) + (D.hist (off / 64)).length) (by omega) n1 n2.isMap n3 n4 n5 o2
    have g2' : w1.grownBy w2 (some (v.nb j)) := ⟨g2.os, g2.tape, g2.output, g2.size, g2.block⟩
    refine ⟨own, Hp.out.1.jot_post hj hl g2' hN, fun _ _ => rfl, Hp.out.2.2.grown g2' (fun k hk _ => ?_)⟩
    cases hk; simp [H.out.onb j hj]
  · have hf : D.countedB (D.inB off) = false := by simpa using hb
    have hd : decide ((off : Int) < (D.n : Int) * 64) = D.inB off := by simp only [Dev.inB, decide_eq_decide]; omega
    have H := Lib.hid h; have Hf := Lib.hid hf; clear h hb hf
    go_enter Tryd.func121, Tryd.ntmps121
    go_wp2_with (first | (go_at_call 118; refine (size_any H.out).mono ?_; rintro e w' ⟨rfl, rfl⟩) | (go_at_call 56; refine (counted_no H.out hj _ Hf.out).mono ?_; rintro e w1 ⟨rfl, hp⟩; have Hp := Lib.hid hp; clear hp))
    (try simp only [Exit.inBlock, Exit.then]); refine bodyPost_ret (results_none rfl _ _ _) rfl ?_
    refine ⟨rfl, ?_⟩
    simp only [Dev.flush, Hf.out, Bool.false_eq_true, if_false]
    exact Hp.out
end
end Go.Proofs.YtbpaamnofkhonaaDoor
