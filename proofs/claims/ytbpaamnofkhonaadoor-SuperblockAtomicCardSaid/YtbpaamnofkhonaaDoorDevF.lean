/- The walk of a fence. -/
import Derived.Test.YtbpaamnofkhonaaDoorDevE
namespace Go.Proofs.YtbpaamnofkhonaaDoor
open Go.RowKit Go.Maps

namespace Dev
/-- The lines of thread j's notes that are no longer to come have been persisted. -/
def owedP (D : Dev) (j : Nat) (left : Nat → Bool) (l : Nat) : Nat := if left l then 0 else D.owed j l
def part (D : Dev) (j : Nat) (left : Nat → Bool) : Dev :=
  { D with pers := fun i => look ((D.hist (i / 8)).take (D.owedP j left (i / 8))) (D.pers i) i
           hist := fun i => (D.hist i).drop (D.owedP j left i)
           done := fun i => D.done i + D.owedP j left i }
theorem part_start (D : Dev) (j : Nat) (left : Nat → Bool) (h : ∀ l, left l = false → D.note j l = none) : D.part j left = D := by
  have e : ∀ l, D.owedP j left l = 0 := fun l => by
    unfold owedP owed
    split
    · rfl
    · rename_i hl; rw [h l (by simpa using hl)]
  simp only [part, e, List.take_zero, List.drop_zero, Nat.add_zero, look_nil]
theorem part_step (D : Dev) (j : Nat) (left : Nat → Bool) (l : Nat) (hl : left l = true) : D.part j (fun k => left k && !(k == l)) = (D.part j left).persist l (D.owed j l) := by
  have e1 : ∀ k, k ≠ l → D.owedP j (fun k => left k && !(k == l)) k = D.owedP j left k := fun k hk => by simp [owedP, hk]
  have e2 : D.owedP j (fun k => left k && !(k == l)) l = D.owed j l := by simp [owedP]
  have e3 : D.owedP j left l = 0 := by simp [owedP, hl]
  unfold part persist
  simp only [mk.injEq, true_and, and_true]
  refine ⟨?_, ?_, ?_⟩
  · funext i
    by_cases h : i / 8 = l
    · rw [if_pos h, h, e2, e3]; simp [look_nil]
    · rw [if_neg h, e1 _ h]
  · funext i
    by_cases h : i = l
    · rw [if_pos h, h, e2, e3]; simp
    · rw [if_neg h, e1 _ h]
  · funext i
    by_cases h : i = l
    · rw [if_pos h, h, e2, e3]; simp
    · rw [if_neg h, e1 _ h]
theorem part_skip (D : Dev) (j : Nat) (left : Nat → Bool) (l : Nat) (h0 : D.owed j l = 0) : D.part j (fun k => left k && !(k == l)) = D.part j left := by
  have e1 : ∀ k, D.owedP j (fun k => left k && !(k == l)) k = D.owedP j left k := fun k => by
    by_cases hk : k = l
    · subst hk; simp [owedP, h0]
    · simp [owedP, hk]
  simp only [part, e1]
theorem part_done (D : Dev) (j : Nat) (left : Nat → Bool) (l : Nat) (h : left l = true) : (D.part j left).done l = D.done l := by simp [part, owedP, h]
theorem part_hist (D : Dev) (j : Nat) (left : Nat → Bool) (l : Nat) (h : left l = true) : (D.part j left).hist l = D.hist l := by simp [part, owedP, h]
theorem part_end (D : Dev) (j : Nat) (left : Nat → Bool) (h : ∀ l, left l = false) : D.sync j = { D.part j left with note := fun k m => if k = j then none else D.note k m } := by
  have e : ∀ l, D.owedP j left l = D.owed j l := fun l => by simp [owedP, h]
  simp only [sync, part, e]
end Dev

/-- clear(m). -/
theorem wpList_clear_own {H : Type} {P : Program} (w : World) {ops : Array Oper} {rest : List Oper} {o : Oper} {a : Act} {Q : Exit → Act → World → Prop}
    (hg : o.guard = none) (m : Operand) (t : TypeId) (hop : o.op = Op.call { callee := Callee.builtin Builtin.clear, args := #[m], argTypes := #[t] })
    (k e : TypeId) (ht : P.underlying t = some (.map k e)) (R : Value → Option (DataW H × List MemPlace)) (b n : Nat) (D : DataW H)
    (hm : a.eval m = .map (some b)) (hown : w.ownsMap P k R b n D)
    (hK : ∀ w', w'.ownsMap P k R b 0 (.map []) → w.grownBy w' (some b) → wpList P ops Q rest (a.put o.dst (.tuple #[])) w') :
    wpList P ops Q (o :: rest) a w := by
  refine wpList_plain hg fun K' hK' => ?_
  obtain ⟨es, clock, hb, F, _⟩ := hown
  have hlt : b < w.heap.size := lt_of_block hb
  have hrun : (Builtin.clear_ #[t] o.type #[.map (some b)]).run P w = .ok (.tuple #[]) { w with heap := w.heap.setIfInBounds b (.map #[] clock) } := by
    simp [Builtin.clear_, run_underlying ht, getObj, setObj, Sem.run, hb]
  unfold Oper.wp
  simp [execOp, hop, resolve, invoke, builtin, hm, hrun, Result.andThen]
  refine hK' _ _ (hK _ ⟨#[], clock, by simp [hlt], ⟨by simp, ?_, by simp⟩, by simp, by simp⟩ ⟨rfl, rfl, rfl, by simp, fun i hi hne => ?_⟩)
  · exact MapKept.stamped_empty clock
  · have : b ≠ i := fun e => hne (by rw [e])
    simp [this]

section
variable {w : World} {v : DV} {own : Nat → Option Role} {D : Dev}

/-- What is still to come, line by line. -/
def lineLeft (left : Lit → Bool) (l : Nat) : Bool := left (.int .i64 l)

theorem lineLeft_strike (left : Lit → Bool) (l : Nat) : lineLeft (fun z => left z && !z.sameKey (.int .i64 (l : Int))) = fun k => lineLeft left k && !(k == l) := by
  funext k
  simp only [lineLeft]
  congr 2
  by_cases e : k = l
  · subst e; simp [Lit.sameKey]
  · rw [sameKey_ne (by intro h; injection h with _ h; exact e (by omega))]; simp [e]

theorem strike_skip {j l : Nat} {left : Lit → Bool} (h : IsDev w v own (D.part j (lineLeft left))) (h0 : D.owed j l = 0) : IsDev w v own (D.part j (lineLeft fun z => left z && !z.sameKey (.int .i64 (l : Int)))) := by
  rw [lineLeft_strike, Dev.part_skip _ _ _ _ h0]; exact h
theorem strike_step {j l k : Nat} {left : Lit → Bool} (h : IsDev w v own ((D.part j (lineLeft left)).persist l k)) (hk : D.owed j l = k) (hl : lineLeft left l = true) : IsDev w v own (D.part j (lineLeft fun z => left z && !z.sameKey (.int .i64 (l : Int)))) := by
  rw [lineLeft_strike, Dev.part_step _ _ _ _ hl, hk]; exact h

theorem ranges_upd {H : Type} {P : Program} {k : TypeId} {R : Value → Option (DataW H × List MemPlace)} {b r n : Nat} {N : DataW H} {left : Lit → Bool} {cnt : Nat} {w' : World} {S : Nat → Prop}
    (h : w.ranges P k R b r n N left cnt) (hu : Upd S w w') (hb : ¬ S b) (hr : ¬ S r) : w'.ranges P k R b r n N left cnt := by
  have e1 : w'.heap[b]? = w.heap[b]? := hu.block b h.owns.lt hb
  have e2 : w'.heap[r]? = w.heap[r]? := hu.block r h.lt hr
  unfold World.ranges at *
  rw [e1, e2]; exact h

theorem IsDev.clear_post (h : IsDev w v own D) {j : Nat} (hj : j < 8) {w1 : World} (hg : w.grownBy w1 (some (v.nb j)))
    (ho : w1.ownsMap Tryd.prog 3 (plainElem Tryd.prog 22) (v.nb j) 0 (.map [] : DataW Unit)) : IsDev w1 v own { D with note := fun k m => if k = j then none else D.note k m } := by
  have ne : ∀ k r, own k = some r → r ≠ .notes j → w1.heap[k]? = w.heap[k]? := fun k r hk hr =>
    hg.block k (h.lt k (by simp [hk])) (fun e => own_ne hk (h.onb j hj) hr (Option.some.inj e))
  have nB : ∀ k r c t, own k = some r → r ≠ .notes j → Blk w k c t → Blk w1 k c t := fun k r c t hk hr hb => (ne k r hk hr).trans hb
  have nR : ∀ k r n t f, own k = some r → r ≠ .notes j → Row w k n t f → Row w1 k n t f := fun k r n t f hk hr ⟨c, h1, h2⟩ => ⟨c, nB k r c t hk hr h1, h2⟩
  obtain ⟨hv, l1, l2⟩ := h.lines
  exact {
    wf := ⟨h.wf.pos, h.wf.le, h.wf.line, h.wf.cnt, fun j' l' p' hp => by
      simp only at hp
      split at hp
      · cases hp
      · exact h.wf.note j' l' p' hp, h.wf.left⟩
    dev := nB _ _ _ _ h.odb (by simp) h.dev
    pers := nR _ _ _ _ _ h.opb (by simp) h.pers
    cur := nR _ _ _ _ _ h.ocb (by simp) h.cur
    lines := ⟨hv, nR _ _ _ _ _ h.olb (by simp) l1, fun i hi => (l2 i hi).mono (fun _ hg _ => hg) (fun g hg _ => ne g _ hg (by simp))⟩
    thr := fun k hk => nB _ _ _ _ (h.otb k hk) (by simp) (h.thr k hk)
    notes := fun k hk => by
      by_cases e : k = j
      · subst e
        simp only [if_true]
        exact ⟨0, _, Nat.zero_le _, ho, by simp, fun x hx => by simp [has] at hx, by simp⟩
      · simp only [e, if_false]
        exact (h.notes k hk).kept (Nat.le_refl _) (ne _ _ (h.onb k hk) (by simpa using e))
    odb := h.odb, opb := h.opb, ocb := h.ocb, olb := h.olb, otb := h.otb, onb := h.onb
    lt := fun k hk => Nat.lt_of_lt_of_le (h.lt k hk) hg.size
    pcs := h.pcs }

set_option maxRecDepth 100000 in
set_option maxHeartbeats 2000000 in
theorem fence_any (h : IsDev w v own D) {j : Nat} (hj : j < 8) (hx : D.exec < 4294967296) :
    Calls Tryd.prog 31 #[.pointer (some ⟨v.tb j, 0, none⟩)] w fun r w' => r = .returned (.tuple #[]) ∧ DPost v own w (D.fence j) w' := by
  have c0 : w.cell? ⟨v.tb j, 0, none⟩ = some (.pointer (some ⟨v.db, 0, none⟩)) := (h.thr j hj).cell rfl
  have hn := h.wf.le
  by_cases hb : D.countedB true = true
  · have Hd : Hid (D.fence j = D.tick.sync j) := by
      show D.fence j = _
      have h4 : D.onB true = true ∧ D.cut = false := by simpa [Dev.countedB] using hb
      simp only [Dev.fence, hb, if_true, Dev.countedD, h4.1, h4.2, Bool.false_eq_true, if_false]
    have H := Lib.hid h; have Hb := Lib.hid hb; clear h hb
    go_enter Tryd.func31, Tryd.ntmps31
    go_wp2_with fail
    refine (counted_yes H.out hj (by omega) Hb.out).mono ?_
    rintro e w1 ⟨rfl, d1, o1, u1⟩
    have c3 : w1.cell? ⟨v.tb j, 3, none⟩ = some (.map (some (v.nb j))) := (d1.thr j hj).cell rfl
    obtain ⟨m, N, n1, n2, n3, n4, n5⟩ := d1.notes j hj
    have Hp := Lib.hid (And.intro d1 (And.intro o1 u1))
    have N1 := Lib.hid (And.intro n1 (And.intro n3 (And.intro n4 n5)))
    clear d1 o1 u1 c0 n1 n3 n4 n5
    go_wp2_with (at_range; refine wpList_range_own _ rfl _ 117 rfl 3 22 law3 Tryd.underlying117 _ (v.nb j) m _ rfl n2 ?_; intro w0 hrg0 hg0 hs0)
    go_frame
    go_loopw [2] (fun _ wr => ∃ (left : Lit → Bool) (cnt : Nat), wr.ranges Tryd.prog 3 (plainElem Tryd.prog 22) (v.nb j) w1.heap.size m N left cnt ∧ (∀ k, left k = true → Maps.has N k = true) ∧ IsDev wr v own (D.tick.part j (lineLeft left)) ∧ Upd (fun k => own k = some .pers ∨ own k = some .lines) w1 wr) (fun _ wr => wr.rangeLeft (v.nb j) w1.heap.size)
    case atStart =>
      have hu : Upd (fun k => own k = some .pers ∨ own k = some .lines) w1 w0 := (Upd.refl _ _).grown hg0 (fun k hk _ => by cases hk)
      refine ⟨_, _, hrg0, fun k hk => hk, ?_, hu⟩
      rw [Dev.part_start]
      · exact Hp.out.1.kept hg0.size (fun k hk => hg0.block k (Hp.out.1.lt k hk) (by simp))
      · intro l hl
        cases hnl : D.tick.note j l with
        | none => rfl
        | some p => have := (N1.out.2.2.2 l p hnl).1; simp only [lineLeft] at hl; rw [this] at hl; cases hl
    case round =>
      obtain ⟨left, cnt, hrg, hlh, hd, hu⟩ := hrel
      have Hlh := Lib.hid hlh; have HD := Lib.hid hd; have HU := Lib.hid hu; clear hlh hd hu
      go_wp2_with (at_next; refine wpList_next_ranges_ii _ rfl _ rfl 3 22 .i64 .u64 law3 Tryd.underlying3 Tryd.underlying22 (v.nb j) w1.heap.size m _ _ _ rfl hrg ?_ ?_)
      · intro _ hl0
        have c3' : wr.cell? ⟨v.tb j, 3, none⟩ = some (.map (some (v.nb j))) := (HD.out.thr j hj).cell rfl
        have ho := hrg.owns
        have Hl0 := Lib.hid hl0
        clear hl0 hrg c3
        have Ho := Lib.hid ho; clear ho
        go_wp2_with ((with_reducible refine wpList_clear_own _ rfl _ 117 rfl 3 22 Tryd.underlying117 _ (v.nb j) m _ rfl Ho.out ?_); intro w3 o3 g3)
        go_end0
        refine ⟨rfl, own, ?_, fun _ _ => rfl, ?_⟩
        · rw [Hd.out, Dev.part_end D.tick j (lineLeft left) (fun l => Hl0.out _)]
          exact HD.out.clear_post hj g3 o3
        · refine (Hp.out.2.2.trans HU.out (fun i _ hi => ?_)).grown g3 (fun k hk _ => ?_)
          · rcases hi with hi | hi <;> simp [hi]
          · cases hk; simp [H.out.onb j hj]
      · intro x c w2 cnt2 hwx hwc hlx hat hrg2 hlt hg2 hs2 hen
        obtain ⟨l, p, rfl, hnl⟩ := N1.out.2.2.1 x (Hlh.out _ hlx)
        have hcp : c = p := by
          have := (N1.out.2.2.2 l p hnl).2 (.lit (.bool true))
          rw [hat] at this; injection this with this; injection this
        subst hcp
        have hw := H.out.wf.note j l p hnl
        have hcn := H.out.wf.cnt l hw.1
        have d2 : IsDev w2 v own (D.tick.part j (lineLeft left)) := HD.out.kept (by omega) (fun k hk => hg2.block k (HD.out.lt k hk) (fun e => by have := Hp.out.1.lt k hk; cases e; omega))
        have u2 : Upd (fun k => own k = some .pers ∨ own k = some .lines) w1 w2 := HU.out.grown hg2 (fun k hk hlt => by cases hk; omega)
        have c0' : w2.cell? ⟨v.tb j, 0, none⟩ = some (.pointer (some ⟨v.db, 0, none⟩)) := (d2.thr j hj).cell rfl
        have c2' : w2.cell? ⟨v.db, 2, none⟩ = some (.slice (some ⟨v.lb, 0, none⟩) D.n D.n) := d2.dev.cell rfl
        obtain ⟨hv, l1, l2⟩ := line_at d2
        have e0 : w2.cell? ⟨v.lb, l * 2, none⟩ = some (.int .u64 (D.done l)) := by
          rw [(l1 l hw.1).1, Dev.part_done _ _ _ _ hlx]; rfl
        have hl' : (l : Int) < D.n := by omega
        have how : D.tick.owed j l = p - D.done l := by unfold Dev.owed; rw [hnl]; rfl
        have hph : ((D.tick.part j (lineLeft left)).hist l) = D.hist l := (Dev.part_hist _ _ _ _ hlx).trans rfl
        have D2 := Lib.hid d2; have U2 := Lib.hid u2; have Hlx := Lib.hid hlx; have How := Lib.hid how; have Hph := Lib.hid hph; have Hw := Lib.hid hw
        have Hrg := Lib.hid hrg; have Hrg2 := Lib.hid hrg2
        have hls : ∀ k, (left k && !k.sameKey (.int .i64 (l : Int))) = true → has N k = true := fun k hk => Hlh.out k (by revert hk; cases left k <;> simp)
        have Hls := Lib.hid hls
        clear d2 u2 hlx how hph hw hat hnl l1 l2 hrg hrg2 hls hwx hwc
        clear hs2 hs0 hg0 hrg0 hg2 c3 n2
        by_cases hpd : D.done l < p
        · have hpd' : (D.done l : Int) < p := by omega
          have hpb : p ≤ 4294967296 := by have := Hw.out.2; omega
          have hkk : p - D.done l ≤ ((D.tick.part j (lineLeft left)).hist l).length := by rw [Hph.out]; have := Hw.out.2; omega
          have hxx : (D.tick.part j (lineLeft left)).exec < 4611686018 := by show D.exec + 1 < _; omega
          have HC := Lib.hid (persist_any D2.out l (p - D.done l) Hw.out.1 hkk hxx)
          clear hkk hxx
          go_wp2_with fail
          rw [show ((p : Int) - (D.done l : Int)) = ((p - D.done l : Nat) : Int) from by omega]
          (with_reducible refine HC.out.mono ?_)
          rintro e w3 ⟨rfl, d3, u3⟩
          have D3 := Lib.hid (strike_step d3 How.out Hlx.out)
          have U3 := Lib.hid (U2.out.trans u3 (fun _ _ h => h))
          have R3 := Lib.hid (ranges_upd Hrg2.out u3 (by rw [H.out.onb j hj]; simp) (fun hs => by have := Hp.out.1.lt w1.heap.size (by rcases hs with hs | hs <;> rw [hs] <;> simp); omega))
          clear d3 u3
          go_wp2_with fail
          go_roundw
          case rel => exact ⟨_, cnt2, R3.out, Hls.out, D3.out, U3.out⟩
          case measure => rw [R3.out.left_eq, Hrg.out.left_eq]; omega
        · have hpd' : ¬ (D.done l : Int) < p := by omega
          have h0 : D.tick.owed j l = 0 := by rw [How.out]; omega
          have D3 := Lib.hid (strike_skip D2.out h0)
          clear h0
          go_wp2_with fail
          go_roundw
          case rel => exact ⟨_, cnt2, Hrg2.out, Hls.out, D3.out, U2.out⟩
          case measure => rw [Hrg2.out.left_eq, Hrg.out.left_eq]; omega
  · have hf : D.countedB true = false := by simpa using hb
    have H := Lib.hid h; have Hf := Lib.hid hf; clear h hb hf
    go_enter Tryd.func31, Tryd.ntmps31
    go_wp2_with (go_at_call 56; refine (counted_no H.out hj _ Hf.out).mono ?_; rintro e w1 ⟨rfl, hp⟩; have Hp := Lib.hid hp; clear hp)
    (try simp only [Exit.inBlock, Exit.then]); refine bodyPost_ret (results_none rfl _ _ _) rfl ?_
    refine ⟨rfl, ?_⟩
    simp only [Dev.fence, Hf.out, Bool.false_eq_true, if_false]
    exact Hp.out
end
end Go.Proofs.YtbpaamnofkhonaaDoor
