/- The walk of a store. -/
import Derived.Test.YtbpaamnofkhonaaDoorDevB
namespace Go.Proofs.YtbpaamnofkhonaaDoor
open Go.RowKit Go.Maps

theorem infoWrite : (Tryd.prog.info? 114).map (fun i => (i.zero, i.size, i.bytes)) = some (some (.agg #[.int .u64 0, .int .u64 0]), 2, 16) := by kernel_rfl

section
variable {w : World} {v : DV} {own : Nat → Option Role} {D : Dev}

theorem line_at (h : IsDev w v own D) : ∃ hv : Nat → Value, (∀ l, l < D.n → w.cell? ⟨v.lb, l * 2, none⟩ = some (.int .u64 (D.done l)) ∧ w.cell? ⟨v.lb, l * 2 + 1, none⟩ = some (hv l)) ∧
    ∀ i, i < D.n → HistAt w own 114 i (hv i) (D.hist i) := by
  obtain ⟨hv, l1, l2⟩ := h.lines
  refine ⟨hv, fun l hl => ⟨?_, ?_⟩, l2⟩
  · rw [l1.cell (i := l * 2) (by omega)]; simp
  · rw [l1.cell (i := l * 2 + 1) (by omega)]; rw [if_neg (by omega), show (l * 2 + 1) / 2 = l from by omega]

theorem Dev.put_cur (D : Dev) (off : Nat) (x : Int) (i : Nat) : (D.put off x).cur i = if i = off / 8 then x else D.cur i := by
  simp only [Dev.cur, Dev.put]
  by_cases h : i / 8 = off / 64
  · rw [if_pos h, look_snoc]
    by_cases e : off / 8 = i
    · simp [e]
    · rw [if_neg (by simpa using e), if_neg (fun h => e h.symm)]
  · rw [if_neg h, if_neg (by omega)]

theorem IsDev.put_post (h : IsDev w v own D) (off : Nat) (x : Int) (_hoff : off < 64 * D.n) (h8 : off % 8 = 0) (hc : ∀ i, i < D.n → D.done i + (D.hist i).length < D.exec)
    {w1 : World} {v' : Value} (ne1 : ∀ k r, own k = some r → r ≠ .hist (off / 64) → w1.heap[k]? = w.heap[k]?) (hU : Upd (fun k => own k ≠ none) w w1)
    (ho1 : OwnSl w1 114 2 v' ((D.hist (off / 64)).length + 1) (flat (D.hist (off / 64)) ++ [.int .u64 off, .int .u64 x]))
    (hb1 : ∀ g, v'.ownBlock = some g → own g = some (.hist (off / 64)) ∨ w.heap.size ≤ g) :
    DPost v own w (D.put off x) ((w1.setCell ⟨v.lb, off / 64 * 2 + 1, none⟩ v').setCell ⟨v.cb, off / 8, none⟩ (.int .u64 x)) := by
  obtain ⟨hv, l1, l2⟩ := h.lines
  have hs : w.heap.size ≤ w1.heap.size := hU.size
  have wne : ∀ k, k ≠ v.lb → k ≠ v.cb → ((w1.setCell ⟨v.lb, off / 64 * 2 + 1, none⟩ v').setCell ⟨v.cb, off / 8, none⟩ (.int .u64 x)).heap[k]? = w1.heap[k]? := fun k k1 k2 =>
    (Below.heap_setCell _ _ _ _ k2).trans (Below.heap_setCell _ _ _ _ k1)
  have wn : ∀ k r, own k = some r → r ≠ .hist (off / 64) → r ≠ .lines → r ≠ .cur → ((w1.setCell ⟨v.lb, off / 64 * 2 + 1, none⟩ v').setCell ⟨v.cb, off / 8, none⟩ (.int .u64 x)).heap[k]? = w.heap[k]? := fun k r hk r1 r2 r3 =>
    (wne k (own_ne hk h.olb r2) (own_ne hk h.ocb r3)).trans (ne1 k r hk r1)
  have bne : ∀ g, v'.ownBlock = some g → g ≠ v.lb ∧ g ≠ v.cb := fun g hg => by
    rcases hb1 g hg with hg | hg
    · exact ⟨own_ne hg h.olb (by simp), own_ne hg h.ocb (by simp)⟩
    · exact ⟨fun e => by have := h.lt v.lb (by simp [h.olb]); omega, fun e => by have := h.lt v.cb (by simp [h.ocb]); omega⟩
  have lc : v.lb ≠ v.cb := own_ne h.olb h.ocb (by simp)
  refine ⟨fun k => if v'.ownBlock = some k ∧ w.heap.size ≤ k then some (.hist (off / 64)) else own k, ?_, fun k hk => if_neg (by omega),
    (hU.setCell (p := ⟨v.lb, off / 64 * 2 + 1, none⟩) (fun _ => by simp [h.olb]) v').setCell (p := ⟨v.cb, off / 8, none⟩) (fun _ => by simp [h.ocb]) _⟩
  have old : ∀ k r, own k = some r → (if v'.ownBlock = some k ∧ w.heap.size ≤ k then some (.hist (off / 64)) else own k) = some r := fun k r hk => by
    rw [if_neg (fun e => by have := h.lt k (by simp [hk]); omega)]; exact hk
  exact {
    wf := ⟨h.wf.pos, h.wf.le, fun i hi e he => by
        simp only [Dev.put] at he
        split at he
        · rename_i hi'
          rcases List.mem_append.1 he with he | he
          · exact h.wf.line i hi e he
          · simp at he; subst he; exact ⟨hi'.symm, h8⟩
        · exact h.wf.line i hi e he,
      fun i hi => by
        have := hc i hi
        simp only [Dev.put]
        split <;> (try simp only [List.length_append, List.length_cons, List.length_nil]) <;> omega,
      fun j l p hp => by
        have := h.wf.note j l p hp
        refine ⟨this.1, ?_⟩
        simp only [Dev.put]
        split <;> (try simp only [List.length_append, List.length_cons, List.length_nil]) <;> omega, h.wf.left⟩
    dev := (wn _ _ h.odb (by simp) (by simp) (by simp)).trans h.dev
    pers := by
      obtain ⟨c, p1, p2⟩ := h.pers
      exact ⟨c, (wn _ _ h.opb (by simp) (by simp) (by simp)).trans p1, p2⟩
    cur := by
      have : Row w1 v.cb (8 * D.n) 22 (fun i => .int .u64 (D.cur i)) := by
        obtain ⟨c, p1, p2⟩ := h.cur
        exact ⟨c, (ne1 _ _ h.ocb (by simp)).trans p1, p2⟩
      refine ((this.other (a := ⟨v.lb, off / 64 * 2 + 1, none⟩) (Ne.symm lc) v').set (off / 8) (.int .u64 x)).congr (fun i _ => ?_)
      simp only [Dev.put_cur]
      split <;> rfl
    lines := by
      have : Row w1 v.lb (2 * D.n) 122 (fun j => if j % 2 = 0 then .int .u64 (D.done (j / 2)) else hv (j / 2)) := by
        obtain ⟨c, p1, p2⟩ := l1
        exact ⟨c, (ne1 _ _ h.olb (by simp)).trans p1, p2⟩
      refine ⟨fun i => if i = off / 64 then v' else hv i, ((this.set (off / 64 * 2 + 1) v').other lc _).congr (fun i _ => ?_), fun i hi => ?_⟩
      · simp only [Dev.put]
        by_cases e : i = off / 64 * 2 + 1
        · rw [if_pos e, if_neg (by omega), if_pos (by omega)]
        · rw [if_neg e]
          by_cases e2 : i % 2 = 0
          · rw [if_pos e2, if_pos e2]
          · rw [if_neg e2, if_neg e2, if_neg (by omega)]
      · simp only [Dev.put]
        by_cases e : i = off / 64
        · subst e
          simp only [if_true]
          refine ⟨?_, fun g hg => ?_⟩
          · rw [flat_append, List.length_append]
            exact ho1.kept (fun k hk => wne k (bne k hk).1 (bne k hk).2)
          · rcases hb1 g hg with hg' | hg'
            · exact old g _ hg'
            · simp [hg, hg']
        · rw [if_neg e, if_neg e]
          exact (l2 i hi).mono (fun g hg _ => old g _ hg) (fun g hg _ => wn g _ hg (by simp [e]) (by simp) (by simp))
    thr := fun j hj => (wn _ _ (h.otb j hj) (by simp) (by simp) (by simp)).trans (h.thr j hj)
    notes := fun j hj => (h.notes j hj).kept (Nat.le_refl _) (wn _ _ (h.onb j hj) (by simp) (by simp) (by simp))
    odb := old _ _ h.odb, opb := old _ _ h.opb, ocb := old _ _ h.ocb, olb := old _ _ h.olb
    otb := fun j hj => old _ _ (h.otb j hj), onb := fun j hj => old _ _ (h.onb j hj)
    lt := fun k hk => by
      have e : ((w1.setCell ⟨v.lb, off / 64 * 2 + 1, none⟩ v').setCell ⟨v.cb, off / 8, none⟩ (.int .u64 x)).heap.size = w1.heap.size := by simp [World.setCell]
      rw [e]
      by_cases c : v'.ownBlock = some k ∧ w.heap.size ≤ k
      · exact ho1.lt k c.1
      · rw [if_neg c] at hk; exact Nat.lt_of_lt_of_le (h.lt k hk) hs
    pcs := h.pcs }

set_option maxHeartbeats 400000 in
theorem write_any (h : IsDev w v own D) {j : Nat} (hj : j < 8) (off : Nat) (x : Int) (hx : D.exec < 4611686018) (hoff : off < 64 * D.n) (h8 : off % 8 = 0)
   (hc : ∀ i, i < D.n → D.done i + (D.hist i).length < D.exec) :
    Calls Tryd.prog 126 #[.pointer (some ⟨v.tb j, 0, none⟩), .int .u64 off, .int .u64 x] w fun r w' => r = .returned (.tuple #[]) ∧ DPost v own w (D.put off x) w' := by
  have c0 : w.cell? ⟨v.tb j, 0, none⟩ = some (.pointer (some ⟨v.db, 0, none⟩)) := (h.thr j hj).cell rfl
  have c1 : w.cell? ⟨v.db, 1, none⟩ = some (.slice (some ⟨v.cb, 0, none⟩) (8 * D.n) v.cc) := h.dev.cell rfl
  have c2 : w.cell? ⟨v.db, 2, none⟩ = some (.slice (some ⟨v.lb, 0, none⟩) D.n D.n) := h.dev.cell rfl
  have hn := h.wf.le
  obtain ⟨hv, l1, l2⟩ := line_at h
  have hl : off / 64 < D.n := by omega
  have c3 := (l1 _ hl).2
  have hh := l2 _ hl
  obtain ⟨a, c, hve⟩ := hh.1.slice
  rw [hve] at c3 hh
  have b1 : (off : Int) / 64 < D.n := by omega
  have b2 : (off : Int) / 8 < (8 * D.n : Nat) := by omega
  obtain ⟨i0, hi, hz0, hz1, hz2⟩ := info_parts infoWrite
  have I := Lib.hid (And.intro hi (And.intro hz0 (And.intro hz1 hz2))); clear hi hz0 hz1 hz2
  have H := Lib.hid h; have HH := Lib.hid hh; have HC := Lib.hid hc; have L1 := Lib.hid l1; have L2 := Lib.hid l2; clear h hh hve hc l1 l2
  go_enter Tryd.func126, Tryd.ntmps126
  go_wp2_with (at_builtin; refine wpList_append_sl _ rfl _ _ 115 rfl 114 i0 _ 2 16 Tryd.underlying115 I.out.1 I.out.2.1 I.out.2.2.1 I.out.2.2.2 rfl (by decide) _ _ _ rfl (HH.out.1.alloc _) _ 1 _ rfl (RdSl.new _ _ _ 2 1 rfl) ?h1 ?h2 ?h3 ?_)
  case h1 => exact ⟨rfl, rfl⟩
  case h2 => have := HC.out _ hl; unfold maxLen; omega
  case h3 => have := HC.out _ hl; omega
  intro v' w1 ho1 hg1 hb1 hn1
  have ne1 : ∀ k r, own k = some r → r ≠ .hist (off / 64) → w1.heap[k]? = w.heap[k]? := by
    intro k r hk hr
    have hlt := H.out.lt k (by simp [hk])
    rw [hg1.block k (by simp; omega) (fun e => ?_)]
    · exact Below.heap_alloc _ _ _ hlt
    · have := HH.out.2 k e.symm; rw [hk] at this; exact hr (Option.some.inj this)
  have c0' : w1.cell? ⟨v.tb j, 0, none⟩ = some (.pointer (some ⟨v.db, 0, none⟩)) := (World.cell?_of_block (ne1 _ _ (H.out.otb j hj) (by simp))).trans c0
  have c1' : w1.cell? ⟨v.db, 1, none⟩ = some (.slice (some ⟨v.cb, 0, none⟩) (8 * D.n) v.cc) := (World.cell?_of_block (ne1 _ _ H.out.odb (by simp))).trans c1
  have c3' : w1.cell? ⟨v.lb, off / 64 * 2 + 1, none⟩ = some (.slice a (D.hist (off / 64)).length c) := (World.cell?_of_block (ne1 _ _ H.out.olb (by simp))).trans c3
  have f3' : w1.frozen? ⟨v.lb, off / 64 * 2 + 1, none⟩ = false := by
    rw [World.frozen?_of_block (w := w) (ne1 _ _ H.out.olb (by simp))]; obtain ⟨_, l1, _⟩ := H.out.lines; exact l1.frozen _
  have c4' : w1.cell? ⟨v.cb, off / 8, none⟩ = some (.int .u64 (D.cur (off / 8))) := (World.cell?_of_block (ne1 _ _ H.out.ocb (by simp))).trans (cur_at H.out (by omega))
  have f4' : w1.frozen? ⟨v.cb, off / 8, none⟩ = false := by
    rw [World.frozen?_of_block (w := w) (ne1 _ _ H.out.ocb (by simp))]; exact H.out.cur.frozen _
  have n1 : v.tb j ≠ v.lb := own_ne (H.out.otb j hj) H.out.olb (by simp)
  have n2 : v.db ≠ v.lb := own_ne H.out.odb H.out.olb (by simp)
  have n3 : v.cb ≠ v.lb := own_ne H.out.ocb H.out.olb (by simp)
  obtain ⟨a', c', hv'⟩ := ho1.slice
  have Ho1 := Lib.hid ho1; have Hg1 := Lib.hid hg1; have Hb1 := Lib.hid hb1; have Hn1 := Lib.hid hn1; have Ne1 := Lib.hid ne1
  clear ho1 hg1 hb1 hn1 ne1 c0 c1 c2 c3
  rw [hv'] 
  have Hv' := Lib.hid hv'; clear hv'
  go_wp2
  go_end0
  refine ⟨rfl, ?_⟩
  rw [← Hv'.out]
  refine H.out.put_post off x hoff h8 HC.out Ne1.out ?_ Ho1.out ?_
  · refine ((Upd.refl _ w).alloc _).grown Hg1.out (fun k hk _ => ?_)
    simp [HH.out.2 k hk]
  · intro g hg
    rcases Hb1.out with hb | hb
    · rw [ownBlock_addr, hb, ← ownBlock_addr] at hg; exact .inl (HH.out.2 g hg)
    · rw [ownBlock_addr, hb] at hg; cases hg; exact .inr (Nat.le_succ _)

set_option maxHeartbeats 400000 in
theorem store_any (h : IsDev w v own D) {j : Nat} (hj : j < 8) (off : Nat) (x : Int) (hx : D.exec < 4294967296) :
    Calls Tryd.prog 124 #[.pointer (some ⟨v.tb j, 0, none⟩), .int .u64 off, .int .u64 x] w fun r w' => r = .returned (.tuple #[]) ∧ DPost v own w (D.store j off x) w' := by
  have c0 : w.cell? ⟨v.tb j, 0, none⟩ = some (.pointer (some ⟨v.db, 0, none⟩)) := (h.thr j hj).cell rfl
  by_cases hb : D.countedB (D.wordB off) = true
  · have h2 : D.wordB off = true := by revert hb; cases D.wordB off <;> simp [Dev.countedB, Dev.onB]
    have h3 : off % 8 = 0 ∧ off < 64 * D.n := by simpa [Dev.wordB] using h2
    have Hd : Hid (D.store j off x = D.tick.put off x) := by
      show D.store j off x = _
      have h4 : D.onB (D.wordB off) = true ∧ D.cut = false := by simpa [Dev.countedB] using hb
      simp only [Dev.store, hb, if_true, Dev.countedD, h4.1, h4.2, Bool.false_eq_true, if_false]
    rw [h2] at hb
    have H := Lib.hid h; have Hb := Lib.hid hb; have H2 := Lib.hid h2; clear h hb h2
    go_enter Tryd.func124, Tryd.ntmps124
    go_wp2_with (first | (go_at_call 125; refine (word_any H.out hj off).mono ?_; rintro e w' ⟨rfl, rfl⟩; rw [H2.out]) | (go_at_call 56; refine (counted_yes H.out hj (by omega) Hb.out).mono ?_; rintro e w1 ⟨rfl, d1, o1, u1⟩; have Hp := Lib.hid (And.intro d1 u1); clear d1 o1 u1) | (go_at_call 126; refine (write_any Hp.out.1 hj off x (by simp only [Dev.tick]; omega) h3.2 h3.1 (fun i hi => Nat.lt_succ_of_le (H.out.wf.cnt i hi))).mono ?_; rintro e w2 ⟨rfl, hq⟩; have Hq := Lib.hid hq; clear hq))
    go_end0
    refine ⟨rfl, ?_⟩
    rw [Hd.out]
    exact DPost.trans Hp.out.2.size (fun _ _ => rfl) Hp.out.2 Hq.out
  · have hf : D.countedB (D.wordB off) = false := by simpa using hb
    have H := Lib.hid h; have Hf := Lib.hid hf; clear h hb hf
    go_enter Tryd.func124, Tryd.ntmps124
    go_wp2_with (first | (go_at_call 125; refine (word_any H.out hj off).mono ?_; rintro e w' ⟨rfl, rfl⟩) | (go_at_call 56; refine (counted_no H.out hj _ Hf.out).mono ?_; rintro e w1 ⟨rfl, hp⟩; have Hp := Lib.hid hp; clear hp))
    (try simp only [Exit.inBlock, Exit.then]); refine bodyPost_ret (results_none rfl _ _ _) rfl ?_
    refine ⟨rfl, ?_⟩
    simp only [Dev.store, Hf.out, Bool.false_eq_true, if_false]
    exact Hp.out
end
end Go.Proofs.YtbpaamnofkhonaaDoor
