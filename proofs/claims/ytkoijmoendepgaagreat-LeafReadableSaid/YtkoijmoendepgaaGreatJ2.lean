/- The walk of a fence. -/
import Derived.Test.YtkoijmoendepgaaGreatJ1
import Derived.Deep.RegionWith
import Derived.Deep.DeepCutAuto
import Derived.Laws.BitsAllLaws
namespace Go.Proofs.YtkoijmoendepgaaGreat
open Go.RowKit Go.Maps

namespace Dev
/-- The lines of thread j's notes that are no longer to come have been persisted. -/
def owedP (D : Dev) (j : Nat) (left : Nat → Bool) (l : Nat) : Nat := if left l then 0 else D.owed j l
def part (D : Dev) (j : Nat) (left : Nat → Bool) : Dev :=
  { D with pers := fun i => look ((D.hist (i / 8)).take (D.owedP j left (i / 8))) (D.pers i) i
           hist := fun i => (D.hist i).drop (D.owedP j left i)
           done := fun i => D.done i + D.owedP j left i }
theorem part_start (D : Dev) (j : Nat) (left : Nat → Bool) (h : ∀ l, left l = false → D.note j l = none) : D.part j left = D := by
  have e : ∀ l, D.owedP j left l = 0 := fun l => by
    unfold owedP owed
    split
    · rfl
    · rename_i hl; rw [h l (by simpa using hl)]
  simp only [part, e, List.take_zero, List.drop_zero, Nat.add_zero, look_nil]
theorem part_step (D : Dev) (j : Nat) (left : Nat → Bool) (l : Nat) (hl : left l = true) : D.part j (fun k => left k && !(k == l)) = (D.part j left).persist l (D.owed j l) := by
  have e1 : ∀ k, k ≠ l → D.owedP j (fun k => left k && !(k == l)) k = D.owedP j left k := fun k hk => by simp [owedP, hk]
  have e2 : D.owedP j (fun k => left k && !(k == l)) l = D.owed j l := by simp [owedP]
  have e3 : D.owedP j left l = 0 := by simp [owedP, hl]
  unfold part persist
  simp only [mk.injEq, true_and, and_true]
  refine ⟨?_, ?_, ?_⟩
  · funext i
    by_cases h : i / 8 = l
    · rw [if_pos h, h, e2, e3]; simp [look_nil]
    · rw [if_neg h, e1 _ h]
  · funext i
    by_cases h : i = l
    · rw [if_pos h, h, e2, e3]; simp
    · rw [if_neg h, e1 _ h]
  · funext i
    by_cases h : i = l
    · rw [if_pos h, h, e2, e3]; simp
    · rw [if_neg h, e1 _ h]
theorem part_skip (D : Dev) (j : Nat) (left : Nat → Bool) (l : Nat) (h0 : D.owed j l = 0) : D.part j (fun k => left k && !(k == l)) = D.part j left := by
  have e1 : ∀ k, D.owedP j (fun k => left k && !(k == l)) k = D.owedP j left k := fun k => by
    by_cases hk : k = l
    · subst hk; simp [owedP, h0]
    · simp [owedP, hk]
  simp only [part, e1]
theorem part_done (D : Dev) (j : Nat) (left : Nat → Bool) (l : Nat) (h : left l = true) : (D.part j left).done l = D.done l := by simp [part, owedP, h]
theorem part_hist (D : Dev) (j : Nat) (left : Nat → Bool) (l : Nat) (h : left l = true) : (D.part j left).hist l = D.hist l := by simp [part, owedP, h]
theorem part_end (D : Dev) (j : Nat) (left : Nat → Bool) (h : ∀ l, left l = false) : D.sync j = { D.part j left with note := fun k m => if k = j then none else D.note k m } := by
  have e : ∀ l, D.owedP j left l = D.owed j l := fun l => by simp [owedP, h]
  simp only [sync, part, e]
end Dev

/-- clear(m). -/
theorem wpList_clear_own {H : Type} {P : Program} (w : World) {ops : Array Oper} {rest : List Oper} {o : Oper} {a : Act} {Q : Exit → Act → World → Prop}
    (hg : o.guard = none) (m : Operand) (t : TypeId) (hop : o.op = Op.call { callee := Callee.builtin Builtin.clear, args := #[m], argTypes := #[t] })
    (k e : TypeId) (ht : P.underlying t = some (.map k e)) (R : Value → Option (DataW H × List MemPlace)) (b n : Nat) (D : DataW H)
    (hm : a.eval m = .map (some b)) (hown : w.ownsMap P k R b n D)
    (hK : ∀ w', w'.ownsMap P k R b 0 (.map []) → w.grownBy w' (some b) → wpList P ops Q rest (a.put o.dst (.tuple #[])) w') :
    wpList P ops Q (o :: rest) a w := by
  refine wpList_plain hg fun K' hK' => ?_
  obtain ⟨es, clock, hb, F, _⟩ := hown
  have hlt : b < w.heap.size := lt_of_block hb
  have hrun : (Builtin.clear_ #[t] o.type #[.map (some b)]).run P w = .ok (.tuple #[]) { w with heap := w.heap.setIfInBounds b (.map #[] clock) } := by
    simp [Builtin.clear_, run_underlying ht, getObj, setObj, Sem.run, hb]
  unfold Oper.wp
  simp [execOp, hop, resolve, invoke, builtin, hm, hrun, Result.andThen]
  refine hK' _ _ (hK _ ⟨#[], clock, by simp [hlt], ⟨by simp, ?_, by simp⟩, by simp, by simp⟩ ⟨rfl, rfl, rfl, by simp, fun i hi hne => ?_⟩)
  · exact MapKept.stamped_empty clock
  · have : b ≠ i := fun e => hne (by rw [e])
    simp [this]

section
variable {w : World} {v : DV} {own : Nat → Option Role} {D : Dev}

/-- What is still to come, line by line. -/
def lineLeft (left : Lit → Bool) (l : Nat) : Bool := left (.int .i64 l)

theorem lineLeft_strike (left : Lit → Bool) (l : Nat) : lineLeft (fun z => left z && !z.sameKey (.int .i64 (l : Int))) = fun k => lineLeft left k && !(k == l) := by
  funext k
  simp only [lineLeft]
  congr 2
  by_cases e : k = l
  · subst e; simp [Lit.sameKey]
  · rw [sameKey_ne (by intro h; injection h with _ h; exact e (by omega))]; simp [e]

theorem strike_skip {j l : Nat} {left : Lit → Bool} (h : IsDev w v own (D.part j (lineLeft left))) (h0 : D.owed j l = 0) : IsDev w v own (D.part j (lineLeft fun z => left z && !z.sameKey (.int .i64 (l : Int)))) := by
  rw [lineLeft_strike, Dev.part_skip _ _ _ _ h0]; exact h
theorem strike_step {j l k : Nat} {left : Lit → Bool} (h : IsDev w v own ((D.part j (lineLeft left)).persist l k)) (hk : D.owed j l = k) (hl : lineLeft left l = true) : IsDev w v own (D.part j (lineLeft fun z => left z && !z.sameKey (.int .i64 (l : Int)))) := by
  rw [lineLeft_strike, Dev.part_step _ _ _ _ hl, hk]; exact h

theorem ranges_upd {H : Type} {P : Program} {k : TypeId} {R : Value → Option (DataW H × List MemPlace)} {b r n : Nat} {N : DataW H} {left : Lit → Bool} {cnt : Nat} {w' : World} {S : Nat → Prop}
    (h : w.ranges P k R b r n N left cnt) (hu : Upd S w w') (hb : ¬ S b) (hr : ¬ S r) : w'.ranges P k R b r n N left cnt := by
  have e1 : w'.heap[b]? = w.heap[b]? := hu.block b h.owns.lt hb
  have e2 : w'.heap[r]? = w.heap[r]? := hu.block r h.lt hr
  unfold World.ranges at *
  rw [e1, e2]; exact h

theorem IsDev.clear_post (h : IsDev w v own D) {j : Nat} (hj : j < 8) {w1 : World} (hg : w.grownBy w1 (some (v.nb j)))
    (ho : w1.ownsMap Tryz.prog 3 (plainElem Tryz.prog 28) (v.nb j) 0 (.map [] : DataW Unit)) : IsDev w1 v own { D with note := fun k m => if k = j then none else D.note k m } := by
  have ne : ∀ k r, own k = some r → r ≠ .notes j → w1.heap[k]? = w.heap[k]? := fun k r hk hr =>
    hg.block k (h.lt k (by simp [hk])) (fun e => own_ne hk (h.onb j hj) hr (Option.some.inj e))
  have nB : ∀ k r c t, own k = some r → r ≠ .notes j → Blk w k c t → Blk w1 k c t := fun k r c t hk hr hb => (ne k r hk hr).trans hb
  have nR : ∀ k r n t f, own k = some r → r ≠ .notes j → Row w k n t f → Row w1 k n t f := fun k r n t f hk hr ⟨c, h1, h2⟩ => ⟨c, nB k r c t hk hr h1, h2⟩
  obtain ⟨hv, l1, l2⟩ := h.lines
  exact {
    wf := ⟨h.wf.pos, h.wf.le, h.wf.line, h.wf.cnt, fun j' l' p' hp => by
      simp only at hp
      split at hp
      · cases hp
      · exact h.wf.note j' l' p' hp, h.wf.left⟩
    dev := nB _ _ _ _ h.odb (by simp) h.dev
    pers := nR _ _ _ _ _ h.opb (by simp) h.pers
    cur := nR _ _ _ _ _ h.ocb (by simp) h.cur
    lines := ⟨hv, nR _ _ _ _ _ h.olb (by simp) l1, fun i hi => (l2 i hi).mono (fun _ hg _ => hg) (fun g hg _ => ne g _ hg (by simp))⟩
    thr := fun k hk => nB _ _ _ _ (h.otb k hk) (by simp) (h.thr k hk)
    notes := fun k hk => by
      by_cases e : k = j
      · subst e
        simp only [if_true]
        exact ⟨0, _, Nat.zero_le _, ho, by simp, fun x hx => by simp [has] at hx, by simp⟩
      · simp only [e, if_false]
        exact (h.notes k hk).kept (Nat.le_refl _) (ne _ _ (h.onb k hk) (by simpa using e))
    odb := h.odb, opb := h.opb, ocb := h.ocb, olb := h.olb, otb := h.otb, onb := h.onb
    lt := fun k hk => Nat.lt_of_lt_of_le (h.lt k hk) hg.size
    pcs := h.pcs }

set_option maxRecDepth 100000 in
set_option maxHeartbeats 2000000 in
theorem fence_any (h : IsDev w v own D) {j : Nat} (hj : j < 8) (hx : D.exec < 4294967296) :
    Calls Tryz.prog 56 #[.pointer (some ⟨v.tb j, 0, none⟩)] w fun r w' => r = .returned (.tuple #[]) ∧ DPost v own w (D.fence j) w' := by
  have c0 : w.cell? ⟨v.tb j, 0, none⟩ = some (.pointer (some ⟨v.db, 0, none⟩)) := (h.thr j hj).cell rfl
  have hn := h.wf.le
  by_cases hb : D.countedB true = true
  · have Hd : Hid (D.fence j = D.tick.sync j) := by
      show D.fence j = _
      have h4 : D.onB true = true ∧ D.cut = false := by simpa [Dev.countedB] using hb
      simp only [Dev.fence, hb, if_true, Dev.countedD, h4.1, h4.2, Bool.false_eq_true, if_false]
    have H := Lib.hid h; have Hb := Lib.hid hb; clear h hb
    go_enter Tryz.func56, Tryz.ntmps56
    go_wp2_with fail
    refine (counted_yes H.out hj (by omega) Hb.out).mono ?_
    rintro e w1 ⟨rfl, d1, o1, u1⟩
    have c3 : w1.cell? ⟨v.tb j, 3, none⟩ = some (.map (some (v.nb j))) := (d1.thr j hj).cell rfl
    obtain ⟨m, N, n1, n2, n3, n4, n5⟩ := d1.notes j hj
    have Hp := Lib.hid (And.intro d1 (And.intro o1 u1))
    have N1 := Lib.hid (And.intro n1 (And.intro n3 (And.intro n4 n5)))
    clear d1 o1 u1 c0 n1 n3 n4 n5
    go_wp2_with (at_range; refine wpList_range_own _ rfl _ 165 rfl 3 28 law3 Tryz.underlying165 _ (v.nb j) m _ rfl n2 ?_; intro w0 hrg0 hg0 hs0)
    go_frame
    go_loopw [2] (fun _ wr => ∃ (left : Lit → Bool) (cnt : Nat), wr.ranges Tryz.prog 3 (plainElem Tryz.prog 28) (v.nb j) w1.heap.size m N left cnt ∧ (∀ k, left k = true → Maps.has N k = true) ∧ IsDev wr v own (D.tick.part j (lineLeft left)) ∧ Upd (fun k => own k = some .pers ∨ own k = some .lines) w1 wr) (fun _ wr => wr.rangeLeft (v.nb j) w1.heap.size)
    case atStart =>
      have hu : Upd (fun k => own k = some .pers ∨ own k = some .lines) w1 w0 := (Upd.refl _ _).grown hg0 (fun k hk _ => by cases hk)
      refine ⟨_, _, hrg0, fun k hk => hk, ?_, hu⟩
      rw [Dev.part_start]
      · exact Hp.out.1.kept hg0.size (fun k hk => hg0.block k (Hp.out.1.lt k hk) (by simp))
      · intro l hl
        cases hnl : D.tick.note j l with
        | none => rfl
        | some p => have := (N1.out.2.2.2 l p hnl).1; simp only [lineLeft] at hl; rw [this] at hl; cases hl
    case round =>
      obtain ⟨left, cnt, hrg, hlh, hd, hu⟩ := hrel
      have Hlh := Lib.hid hlh; have HD := Lib.hid hd; have HU := Lib.hid hu; clear hlh hd hu
      go_wp2_with (at_next; refine wpList_next_ranges_ii _ rfl _ rfl 3 28 .i64 .u64 law3 Tryz.underlying3 Tryz.underlying28 (v.nb j) w1.heap.size m _ _ _ rfl hrg ?_ ?_)
      · intro _ hl0
        have c3' : wr.cell? ⟨v.tb j, 3, none⟩ = some (.map (some (v.nb j))) := (HD.out.thr j hj).cell rfl
        have ho := hrg.owns
        have Hl0 := Lib.hid hl0
        clear hl0 hrg c3
        have Ho := Lib.hid ho; clear ho
        go_wp2_with ((with_reducible refine wpList_clear_own _ rfl _ 165 rfl 3 28 Tryz.underlying165 _ (v.nb j) m _ rfl Ho.out ?_); intro w3 o3 g3)
        go_end0
        refine ⟨rfl, own, ?_, fun _ _ => rfl, ?_⟩
        · rw [Hd.out, Dev.part_end D.tick j (lineLeft left) (fun l => Hl0.out _)]
          exact HD.out.clear_post hj g3 o3
        · refine (Hp.out.2.2.trans HU.out (fun i _ hi => ?_)).grown g3 (fun k hk _ => ?_)
          · rcases hi with hi | hi <;> simp [hi]
          · cases hk; simp [H.out.onb j hj]
      · intro x c w2 cnt2 hwx hwc hlx hat hrg2 hlt hg2 hs2 hen
        obtain ⟨l, p, rfl, hnl⟩ := N1.out.2.2.1 x (Hlh.out _ hlx)
        have hcp : c = p := by
          have := (N1.out.2.2.2 l p hnl).2 (.lit (.bool true))
          rw [hat] at this; injection this with this; injection this
        subst hcp
        have hw := H.out.wf.note j l p hnl
        have hcn := H.out.wf.cnt l hw.1
        have d2 : IsDev w2 v own (D.tick.part j (lineLeft left)) := HD.out.kept (by omega) (fun k hk => hg2.block k (HD.out.lt k hk) (fun e => by have := Hp.out.1.lt k hk; cases e; omega))
        have u2 : Upd (fun k => own k = some .pers ∨ own k = some .lines) w1 w2 := HU.out.grown hg2 (fun k hk hlt => by cases hk; omega)
        have c0' : w2.cell? ⟨v.tb j, 0, none⟩ = some (.pointer (some ⟨v.db, 0, none⟩)) := (d2.thr j hj).cell rfl
        have c2' : w2.cell? ⟨v.db, 2, none⟩ = some (.slice (some ⟨v.lb, 0, none⟩) D.n D.n) := d2.dev.cell rfl
        obtain ⟨hv, l1, l2⟩ := line_at d2
        have e0 : w2.cell? ⟨v.lb, l * 2, none⟩ = some (.int .u64 (D.done l)) := by
          rw [(l1 l hw.1).1, Dev.part_done _ _ _ _ hlx]; rfl
        have hl' : (l : Int) < D.n := by omega
        have how : D.tick.owed j l = p - D.done l := by unfold Dev.owed; rw [hnl]; rfl
        have hph : ((D.tick.part j (lineLeft left)).hist l) = D.hist l := (Dev.part_hist _ _ _ _ hlx).trans rfl
        have D2 := Lib.hid d2; have U2 := Lib.hid u2; have Hlx := Lib.hid hlx; have How := Lib.hid how; have Hph := Lib.hid hph; have Hw := Lib.hid hw
        have Hrg := Lib.hid hrg; have Hrg2 := Lib.hid hrg2
        have hls : ∀ k, (left k && !k.sameKey (.int .i64 (l : Int))) = true → has N k = true := fun k hk => Hlh.out k (by revert hk; cases left k <;> simp)
        have Hls := Lib.hid hls
        clear d2 u2 hlx how hph hw hat hnl l1 l2 hrg hrg2 hls hwx hwc
        clear hs2 hs0 hg0 hrg0 hg2 c3 n2
        by_cases hpd : D.done l < p
        · have hpd' : (D.done l : Int) < p := by omega
          have hpb : p ≤ 4294967296 := by have := Hw.out.2; omega
          have hkk : p - D.done l ≤ ((D.tick.part j (lineLeft left)).hist l).length := by rw [Hph.out]; have := Hw.out.2; omega
          have hxx : (D.tick.part j (lineLeft left)).exec < 4611686018 := by show D.exec + 1 < _; omega
          have HC := Lib.hid (persist_any D2.out l (p - D.done l) Hw.out.1 hkk hxx)
          clear hkk hxx
          go_wp2_with fail
          rw [show ((p : Int) - (D.done l : Int)) = ((p - D.done l : Nat) : Int) from by omega]
          (with_reducible refine HC.out.mono ?_)
          rintro e w3 ⟨rfl, d3, u3⟩
          have D3 := Lib.hid (strike_step d3 How.out Hlx.out)
          have U3 := Lib.hid (U2.out.trans u3 (fun _ _ h => h))
          have R3 := Lib.hid (ranges_upd Hrg2.out u3 (by rw [H.out.onb j hj]; simp) (fun hs => by have := Hp.out.1.lt w1.heap.size (by rcases hs with hs | hs <;> rw [hs] <;> simp); omega))
          clear d3 u3
          go_wp2_with fail
          go_roundw
          case rel => exact ⟨_, cnt2, R3.out, Hls.out, D3.out, U3.out⟩
          case measure => rw [R3.out.left_eq, Hrg.out.left_eq]; omega
        · have hpd' : ¬ (D.done l : Int) < p := by omega
          have h0 : D.tick.owed j l = 0 := by rw [How.out]; omega
          have D3 := Lib.hid (strike_skip D2.out h0)
          clear h0
          go_wp2_with fail
          go_roundw
          case rel => exact ⟨_, cnt2, Hrg2.out, Hls.out, D3.out, U2.out⟩
          case measure => rw [Hrg2.out.left_eq, Hrg.out.left_eq]; omega
  · have hf : D.countedB true = false := by simpa using hb
    have H := Lib.hid h; have Hf := Lib.hid hf; clear h hb hf
    go_enter Tryz.func56, Tryz.ntmps56
    go_wp2_with (go_at_call 95; refine (counted_no H.out hj _ Hf.out).mono ?_; rintro e w1 ⟨rfl, hp⟩; have Hp := Lib.hid hp; clear hp)
    (try simp only [Exit.inBlock, Exit.then]); refine bodyPost_ret (results_none rfl _ _ _) rfl ?_
    refine ⟨rfl, ?_⟩
    simp only [Dev.fence, Hf.out, Bool.false_eq_true, if_false]
    exact Hp.out
end
end Go.Proofs.YtkoijmoendepgaaGreat

/- The walks of slices.Clone, of and New: a new device. -/
namespace Go.Proofs.YtkoijmoendepgaaGreat
open Go.RowKit Go.Maps

theorem infoU64 : (Tryz.prog.info? 28).map (fun i => (i.zero, i.size, i.bytes)) = some (some (.int .u64 0), 1, 8) := by kernel_rfl
theorem infoLine : (Tryz.prog.info? 171).map (fun i => (i.zero, i.size, i.bytes)) = some (some (.agg #[.int .u64 0, .slice none 0 0]), 2, 32) := by kernel_rfl

section
variable {w : World}

set_option maxRecDepth 100000 in
set_option maxHeartbeats 1000000 in
theorem cloneU_any (a : Addr) (n c : Nat) (xs : List Value) (h : RdSl w 1 (.slice (some a) n c) n xs) (h1 : ∀ u ∈ xs, u.oneCell' = true) (hn : n ≤ 4611686018) :
    Calls Tryz.prog 109 #[.slice (some a) n c] w fun r w' => ∃ g cap, r = .returned (.slice (some ⟨g, 0, none⟩) n cap) ∧ OwnSl w' 28 1 (.slice (some ⟨g, 0, none⟩) n cap) n xs ∧ w.heap.size ≤ g ∧ Below w.heap.size w w' := by
  obtain ⟨i0, hi, hz0, hz1, hz2⟩ := info_parts infoU64
  have I := Lib.hid (And.intro hi (And.intro hz0 (And.intro hz1 hz2))); clear hi hz0 hz1 hz2
  have H := Lib.hid h; have H1 := Lib.hid h1; clear h h1
  have hq := fun wx => Lib.run_eql_slice_nil (P := Tryz.prog) wx 23 28 (some a) n c 0 0 Tryz.underlying23
  go_enter Tryz.func109, Tryz.ntmps109
  go_wp2_with (at_builtin; refine wpList_append_sl _ rfl _ _ 23 rfl 28 i0 _ 1 8 Tryz.underlying23 I.out.1 I.out.2.1 I.out.2.2.1 I.out.2.2.2 rfl (by decide) _ 0 [] rfl ?h0 _ n xs rfl ?h1 ?h2 ?h3 ?h4 ?_)
  case h0 => exact OwnSl.new _ _ _ 1 0 0 rfl (Nat.le_refl _) (Nat.zero_le _)
  case h1 => exact H.out.alloc _
  case h2 => exact H1.out
  case h3 => unfold maxLen; omega
  case h4 => omega
  intro v' w1 o1 g1 b1 n1
  have O1 := Lib.hid o1; have G1 := Lib.hid g1; have B1 := Lib.hid b1; clear o1 g1 b1 n1
  go_wp2
  go_ret
  have hb : Below w.heap.size w w1 := ((Below.refl _ _).alloc (Nat.le_refl _) _).grown G1.out (by simp) (fun k hk => by cases hk; exact Nat.le_refl _)
  obtain ⟨a', c', hv⟩ := O1.out.slice
  have O2 := O1.out
  have B2 := B1.out
  rw [hv] at O2 B2
  rcases B2 with h | h
  · simp only [slAddr] at h
    subst h
    exact ⟨w.heap.size, c', by rw [← hv]; rfl, O2, Nat.le_refl _, hb⟩
  · simp only [slAddr] at h
    subst h
    exact ⟨w.heap.size + 1, c', by rw [← hv]; rfl, O2, Nat.le_succ _, hb⟩

def Dev.fresh (n : Nat) (f : Nat → Int) : Dev :=
  { n := n, pers := f, hist := fun _ => [], done := fun _ => 0, err := fun _ => 0, note := fun _ _ => none, off := false, armed := false, left := 0, exec := 0 }

/-- A new device over the words of block pb. -/
def NewDev (w : World) (pb pc n : Nat) (f : Nat → Int) (r : Ending) (w' : World) : Prop :=
  ∃ v own, r = .returned (.pointer (some ⟨v.db, 0, none⟩)) ∧ v.pb = pb ∧ v.pc = pc ∧ IsDev w' v own (Dev.fresh n f) ∧ (∀ k, own k ≠ none → k = pb ∨ w.heap.size ≤ k) ∧ Below w.heap.size w w'

def halfCells (pb pc n cb cc lb : Nat) (t : Nat → Option Addr) : Array Value :=
  #[.slice (some ⟨pb, 0, none⟩) (8 * n) pc, .slice (some ⟨cb, 0, none⟩) (8 * n) cc, .slice (some ⟨lb, 0, none⟩) n n, .pointer (t 0), .pointer (t 1), .pointer (t 2), .pointer (t 3), .pointer (t 4), .pointer (t 5), .pointer (t 6), .pointer (t 7),
    .bool false, .bool false, .int .i64 0, .int .u64 0]

/-- The device's struct is made; its threads are not yet. -/
def OfMid (w : World) (pb pc n : Nat) (f : Nat → Int) (s : Value) (w2 : World) : Prop :=
  ∃ db cb cc lb, s = .pointer (some ⟨db, 0, none⟩) ∧ Blk w2 db (halfCells pb pc n cb cc lb (fun _ => none)) 153 ∧ Row w2 cb (8 * n) 28 (fun i => .int .u64 (f i)) ∧
    Row w2 lb (2 * n) 171 (fun j => if j % 2 = 0 then .int .u64 0 else .slice none 0 0) ∧ 8 * n ≤ cc ∧ db ≠ cb ∧ db ≠ lb ∧ cb ≠ lb ∧ w.heap.size ≤ db ∧ w.heap.size ≤ cb ∧ w.heap.size ≤ lb ∧ Below w.heap.size w w2

theorem OwnSl.row {e : TypeId} {g n cap : Nat} {F : Nat → Value} (h : OwnSl w e 1 (.slice (some ⟨g, 0, none⟩) n cap) n ((List.range n).map F)) : Row w g n e F ∧ n ≤ cap := by
  rcases h.2 with ⟨h1, _⟩ | ⟨g', o, cap', cur, h1, hb, hc, _, _, ht⟩
  · cases h1
  · cases h1
    refine ⟨⟨cur, hb, fun i hi => ?_⟩, hc⟩
    have := congrArg (fun l => l[i]?) ht
    simp only [List.drop_zero, Nat.mul_one, List.getElem?_take, hi, if_true, List.getElem?_map, List.getElem?_range hi, Option.map_some] at this
    simpa using this
theorem row_madeLines (w : World) (t : TypeId) (n : Nat) : Row (w.alloc (.cells (madeCells #[.int .u64 0, .slice none 0 0] (n * 2)) t)) w.heap.size (2 * n) t (fun j => if j % 2 = 0 then .int .u64 0 else .slice none 0 0) := by
  refine Row.new w _ t _ _ (fun i hi => ?_)
  have hi' : i < n * 2 := by omega
  simp only [madeCells, Array.getElem?_map, Array.getElem?_range, hi', if_true, Option.map_some]
  rcases Nat.mod_two_eq_zero_or_one i with h | h <;> simp [h]

theorem of_mid1 {pb pc n cb cc : Nat} {f : Nat → Int} {w1 : World} (co : OwnSl w1 28 1 (.slice (some ⟨cb, 0, none⟩) (8 * n) cc) (8 * n) ((List.range (8 * n)).map fun i => .int .u64 (f i)))
    (cg : w.heap.size ≤ cb) (cw : Below w.heap.size w w1) :
    OfMid w pb pc n f (.pointer (some ⟨w1.heap.size + 1, 0, none⟩)) ((w1.alloc (.cells (madeCells #[.int .u64 0, .slice none 0 0] (n * 2)) 171)).alloc (.cells (halfCells pb pc n cb cc w1.heap.size (fun _ => none)) 153)) := by
  have hr := co.row
  have hlt := hr.1.lt
  have hs := cw.size
  have e : w1.heap.size + 1 = (w1.alloc (.cells (madeCells #[.int .u64 0, .slice none 0 0] (n * 2)) 171)).heap.size := by simp
  refine ⟨w1.heap.size + 1, cb, cc, w1.heap.size, rfl, ?_, (hr.1.alloc _).alloc _, (row_madeLines w1 171 n).alloc _, hr.2, by omega, by omega, by omega, by omega, by omega, by omega, (cw.alloc hs _).alloc (by simp; omega) _⟩
  rw [e]; exact Blk.new _ _ _
theorem of_mid2 {pb pc n cb cc : Nat} {f : Nat → Int} {w1 w0 : World} (h0 : w0 = (w.alloc (.cells (madeCells #[.int .u64 0, .slice none 0 0] (n * 2)) 171)).drew) (co : OwnSl w1 28 1 (.slice (some ⟨cb, 0, none⟩) (8 * n) cc) (8 * n) ((List.range (8 * n)).map fun i => .int .u64 (f i)))
    (cg : w0.heap.size ≤ cb) (cw : Below w0.heap.size w0 w1) :
    OfMid w pb pc n f (.pointer (some ⟨w1.heap.size, 0, none⟩)) (w1.alloc (.cells (halfCells pb pc n cb cc w.heap.size (fun _ => none)) 153)) := by
  have hr := co.row
  have hlt := hr.1.lt
  have hs := cw.size
  have e : w0.heap.size = w.heap.size + 1 := by rw [h0]; simp [World.drew]
  have hb : Below w.heap.size w w1 := by
    refine Below.trans (b := w0) ?_ (cw.mono (by omega))
    rw [h0]; exact ((Below.refl _ _).alloc (Nat.le_refl _) _).drew
  have hl : Row w1 w.heap.size (2 * n) 171 (fun j => if j % 2 = 0 then .int .u64 0 else .slice none 0 0) := by
    obtain ⟨c, h1, h2⟩ := row_madeLines w 171 n
    refine ⟨c, (cw.block _ (by omega)).trans ?_, h2⟩
    rw [h0]; exact h1
  exact ⟨w1.heap.size, cb, cc, w.heap.size, rfl, Blk.new _ _ _, hr.1.alloc _, hl.alloc _, hr.2, by omega, by omega, by omega, by omega, by omega, by omega, hb.alloc (by omega) _⟩

/-- k of the eight threads are made. -/
def OfLoop (wc : World) (db pb pc n cb cc lb k : Nat) (wr : World) : Prop :=
  Blk wr db (halfCells pb pc n cb cc lb (fun j => if j < k then some ⟨wc.heap.size + 2 * j + 1, 0, none⟩ else none)) 153 ∧ wr.heap.size = wc.heap.size + 2 * k ∧
  (∀ j, j < k → Blk wr (wc.heap.size + 2 * j + 1) #[.pointer (some ⟨db, 0, none⟩), .int .i64 j, .int .i64 0, .map (some (wc.heap.size + 2 * j))] 167 ∧ wr.ownsMap Tryz.prog 3 (plainElem Tryz.prog 28) (wc.heap.size + 2 * j) 0 (.map [] : DataW Unit)) ∧
  Upd (fun b => b = db) wc wr

theorem halfCells_at (pb pc n cb cc lb : Nat) (t : Nat → Option Addr) (j : Nat) (h : j < 8) : (halfCells pb pc n cb cc lb t)[3 + j]? = some (.pointer (t j)) := by
  obtain rfl | rfl | rfl | rfl | rfl | rfl | rfl | rfl : j = 0 ∨ j = 1 ∨ j = 2 ∨ j = 3 ∨ j = 4 ∨ j = 5 ∨ j = 6 ∨ j = 7 := by omega
  all_goals rfl
theorem halfCells_set (pb pc n cb cc lb : Nat) (t : Nat → Option Addr) (j : Nat) (a : Option Addr) (h : j < 8) : (halfCells pb pc n cb cc lb t).setIfInBounds (3 + j) (.pointer a) = halfCells pb pc n cb cc lb (fun i => if i = j then a else t i) := by
  obtain rfl | rfl | rfl | rfl | rfl | rfl | rfl | rfl : j = 0 ∨ j = 1 ∨ j = 2 ∨ j = 3 ∨ j = 4 ∨ j = 5 ∨ j = 6 ∨ j = 7 := by omega
  all_goals simp [halfCells]

theorem of_round {wc wr : World} {db pb pc n cb cc lb k : Nat} (hdb : db < wc.heap.size) (h : OfLoop wc db pb pc n cb cc lb k wr) (hk : k < 8) :
    OfLoop wc db pb pc n cb cc lb (k + 1) (((wr.setCell ⟨db, 3 + k, none⟩ (.pointer (some ⟨wr.heap.size + 1, 0, none⟩))).alloc (.map #[] 0)).alloc (.cells #[.pointer (some ⟨db, 0, none⟩), .int .i64 k, .int .i64 0, .map (some wr.heap.size)] 167)) := by
  obtain ⟨h1, h2, h3, h4⟩ := h
  have es : (wr.setCell ⟨db, 3 + k, none⟩ (.pointer (some ⟨wr.heap.size + 1, 0, none⟩))).heap.size = wr.heap.size := by simp [World.setCell]
  refine ⟨?_, by simp [es]; omega, ?_, ((h4.setCell (p := ⟨db, 3 + k, none⟩) (fun _ => rfl) _).alloc _).alloc _⟩
  · refine ((?_ : Blk _ _ _ _).alloc _).alloc _
    have := h1.set (3 + k) (.pointer (some ⟨wr.heap.size + 1, 0, none⟩))
    rw [halfCells_set _ _ _ _ _ _ _ _ _ hk] at this
    have ef : (fun i => if i = k then some ⟨wr.heap.size + 1, 0, none⟩ else if i < k then some (⟨wc.heap.size + 2 * i + 1, 0, none⟩ : Addr) else none) = fun j => if j < k + 1 then some ⟨wc.heap.size + 2 * j + 1, 0, none⟩ else none := by
      funext i
      by_cases e : i = k
      · subst e; rw [if_pos rfl, if_pos (Nat.lt_succ_self _), h2]
      · rw [if_neg e]
        by_cases e2 : i < k
        · rw [if_pos e2, if_pos (by omega)]
        · rw [if_neg e2, if_neg (by omega)]
    rw [ef] at this
    exact this
  · intro j hj
    by_cases e : j = k
    · subst e
      constructor
      · have := Blk.new ((wr.setCell ⟨db, 3 + j, none⟩ (.pointer (some ⟨wr.heap.size + 1, 0, none⟩))).alloc (.map #[] 0)) #[.pointer (some ⟨db, 0, none⟩), .int .i64 j, .int .i64 0, .map (some wr.heap.size)] 167
        simp only [World.size_alloc, es] at this
        rw [h2] at this ⊢
        exact this
      · have := (World.ownsMap_made (H := Unit) (wr.setCell ⟨db, 3 + j, none⟩ (.pointer (some ⟨wr.heap.size + 1, 0, none⟩))) Tryz.prog 3 (plainElem Tryz.prog 28)).alloc (.cells #[.pointer (some ⟨db, 0, none⟩), .int .i64 j, .int .i64 0, .map (some wr.heap.size)] 167)
        rw [es, h2] at this
        rw [h2]
        exact this
    · have := h3 j (by omega)
      refine ⟨((this.1.other (a := ⟨db, 3 + k, none⟩) (by show _ ≠ db; omega) _).alloc _).alloc _, ((this.2.setCell (a := ⟨db, 3 + k, none⟩) (by show _ ≠ db; omega) _).alloc _).alloc _⟩

theorem of_end {wc wr : World} {db pb pc n cb cc lb : Nat} {f : Nat → Int} (h0 : 0 < n) (hn : n ≤ 4096) (hpc : 8 * n ≤ pc) (hpb : pb < w.heap.size) (h : OfLoop wc db pb pc n cb cc lb 8 wr) (hp : Row w pb (8 * n) 28 (fun i => .int .u64 (f i)))
    (b1 : db < wc.heap.size) (b2 : Row wc cb (8 * n) 28 (fun i => .int .u64 (f i))) (b3 : Row wc lb (2 * n) 171 (fun j => if j % 2 = 0 then .int .u64 0 else .slice none 0 0)) (b4 : 8 * n ≤ cc)
    (n1 : db ≠ cb) (n2 : db ≠ lb) (n3 : cb ≠ lb) (s1 : w.heap.size ≤ db) (s2 : w.heap.size ≤ cb) (s3 : w.heap.size ≤ lb) (hb : Below w.heap.size w wc) :
    NewDev w pb pc n f (.returned (.pointer (some ⟨db, 0, none⟩))) wr := by
  obtain ⟨h1, h2, h3, h4⟩ := h
  have hcb := b2.lt
  have hlb := b3.lt
  have hb' : Below w.heap.size w wr := hb.trans ⟨h4.os, h4.tape, h4.output, h4.size, fun k hk => h4.block k (by have := hb.size; omega) (by omega)⟩
  let B := wc.heap.size
  let own : Nat → Option Role := fun k => if k = db then some .dev else if k = pb then some .pers else if k = cb then some .cur else if k = lb then some .lines else
    if B ≤ k ∧ k < B + 16 then (if (k - B) % 2 = 0 then some (.notes ((k - B) / 2)) else some (.thr ((k - B) / 2))) else none
  have hB : B = wc.heap.size := rfl
  refine ⟨⟨db, pb, pc, cb, cc, lb, fun j => B + 2 * j + 1, fun j => B + 2 * j⟩, own, rfl, rfl, rfl, ?_, ?_, hb'⟩
  · exact {
      wf := ⟨h0, hn, by simp [Dev.fresh], by simp [Dev.fresh], by simp [Dev.fresh], by simp [Dev.fresh]⟩
      dev := h1
      pers := by
        obtain ⟨c, p1, p2⟩ := hp
        exact ⟨c, (hb'.block pb hpb).trans p1, p2⟩
      cur := b2.upd h4 (Ne.symm n1)
      lines := by
        refine ⟨fun _ => .slice none 0 0, b3.upd h4 (Ne.symm n2), fun i _ => ⟨OwnSl.nil _ _ _, fun g hg => by simp [Value.ownBlock] at hg⟩⟩
      thr := fun j hj => (h3 j hj).1
      notes := fun j hj => ⟨0, _, Nat.zero_le _, (h3 j hj).2, by simp [Dev.fresh], fun x hx => by simp [has] at hx, by simp [Dev.fresh]⟩
      odb := by simp [own]
      opb := by show own pb = _; simp only [own]; rw [if_neg (by omega), if_pos trivial]
      ocb := by show own cb = _; simp only [own]; rw [if_neg (Ne.symm n1), if_neg (by omega), if_pos trivial]
      olb := by show own lb = _; simp only [own]; rw [if_neg (Ne.symm n2), if_neg (by omega), if_neg (Ne.symm n3), if_pos trivial]
      otb := fun j hj => by
        show own (B + 2 * j + 1) = _
        simp only [own]
        rw [if_neg (by omega), if_neg (by have := hb.size; omega), if_neg (by omega), if_neg (by omega), if_pos (by omega), if_neg (by omega), show (B + 2 * j + 1 - B) / 2 = j from by omega]
      onb := fun j hj => by
        show own (B + 2 * j) = _
        simp only [own]
        rw [if_neg (by omega), if_neg (by have := hb.size; omega), if_neg (by omega), if_neg (by omega), if_pos (by omega), if_pos (by omega), show (B + 2 * j - B) / 2 = j from by omega]
      lt := fun k hk => by
        have hs := hb'.size
        by_cases e1 : k = db
        · omega
        by_cases e2 : k = pb
        · omega
        by_cases e3 : k = cb
        · omega
        by_cases e4 : k = lb
        · omega
        by_cases e5 : B ≤ k ∧ k < B + 16
        · omega
        simp only [own] at hk
        rw [if_neg e1, if_neg e2, if_neg e3, if_neg e4, if_neg e5] at hk
        exact absurd rfl hk
      pcs := ⟨hpc, b4⟩ }
  · intro k hk
    by_cases e1 : k = db
    · omega
    by_cases e2 : k = pb
    · exact .inl e2
    by_cases e3 : k = cb
    · omega
    by_cases e4 : k = lb
    · omega
    by_cases e5 : B ≤ k ∧ k < B + 16
    · have := hb.size; omega
    simp only [own] at hk
    rw [if_neg e1, if_neg e2, if_neg e3, if_neg e4, if_neg e5] at hk
    exact absurd rfl hk

set_option maxRecDepth 100000 in
set_option maxHeartbeats 1000000 in
theorem of_any (pb pc n : Nat) (f : Nat → Int) (h : Row w pb (8 * n) 28 (fun i => .int .u64 (f i))) (h0 : 0 < n) (hn : n ≤ 4096) (hpc : 8 * n ≤ pc) :
    Calls Tryz.prog 91 #[.slice (some ⟨pb, 0, none⟩) (8 * n) pc] w (NewDev w pb pc n f) := by
  obtain ⟨i0, hi, hz0, hz1, hz2⟩ := info_parts infoLine
  have hmk := fun (wx : World) => run_make (P := Tryz.prog) wx 150 171 i0 _ Tryz.underlying150 hi hz0 .i64 .i64 (n : Int) (n : Int) (by omega) (by omega) (by rw [hz2]; omega) (by omega)
  simp only [Int.toNat_natCast, hz1] at hmk
  clear hi hz0 hz1 hz2
  have hrd : RdSl w 1 (.slice (some ⟨pb, 0, none⟩) (8 * n) pc) (8 * n) ((List.range (8 * n)).map fun i => .int .u64 (f i)) := by
    refine ⟨by simp, _, _, rfl, hpc, .inr ⟨pb, 0, rfl, fun j u hu => ?_⟩⟩
    rw [List.getElem?_map] at hu
    cases hj : (List.range (8 * n))[j]? with
    | none => rw [hj] at hu; cases hu
    | some k =>
      have hj' := List.getElem?_eq_some_iff.1 hj
      obtain ⟨hjl, hjk⟩ := hj'
      rw [List.length_range] at hjl
      rw [hj] at hu; simp at hjk hu; subst hjk; subst hu
      rw [Nat.zero_add]
      exact h.cell hjl
  have hone : ∀ u ∈ ((List.range (8 * n)).map fun i => Value.int .u64 (f i)), u.oneCell' = true := by
    intro u hu; simp at hu; obtain ⟨i, _, rfl⟩ := hu; rfl
  have H := Lib.hid h; have HR := Lib.hid hrd; have H1 := Lib.hid hone; clear h hrd hone
  have hq : ((8 * n : Nat) : Int) / 8 = (n : Int) := by omega
  have hwr : IntKind.i64.wrap (n : Int) = (n : Int) := IntWalk.i64_in _ (by omega)
  go_enter Tryz.func91, Tryz.ntmps91
  go_upto_region 1 with fail
  go_cut [3] (OfMid w pb pc n f)
  case first =>
    go_region_with (first | (go_at_call 109; refine (cloneU_any _ _ _ _ ?hr H1.out (by omega)).mono ?_; (case hr => first | exact HR.out.drew | exact (HR.out.alloc _).drew); rintro e w1 ⟨cb, cc, rfl, co, cg, cw⟩; have CO := Lib.hid (And.intro co (And.intro cg cw)); clear co cg cw))
    all_goals go_wp2_with fail
    all_goals go_meet
    · exact of_mid1 CO.out.1 CO.out.2.1 ⟨CO.out.2.2.os, CO.out.2.2.tape, CO.out.2.2.output, CO.out.2.2.size, CO.out.2.2.block⟩
    · exact of_mid2 rfl CO.out.1 CO.out.2.1 CO.out.2.2
  case rest =>
    obtain ⟨db, cb, cc, lb, rfl, b1, b2, b3, b4, n1, n2, n3, s1, s2, s3, hb⟩ := hcut
    have hdb := b1.lt
    have B1 := Lib.hid (And.intro b1 (And.intro b2 (And.intro b3 hb)))
    clear b1 b2 b3 hb hmk hq hwr
    have hmm := @run_makeMap Tryz.prog
    go_wp2_with fail
    go_loopw [14] (fun i wr => ∃ k : Nat, k ≤ 8 ∧ i = .int .i64 k ∧ OfLoop wc db pb pc n cb cc lb k wr) (fun i _ => 8 - (intOf i).toNat)
    case atStart => exact ⟨0, by omega, rfl, B1.out.1, rfl, fun j hj => absurd hj (Nat.not_lt_zero _), Upd.refl _ _⟩
    case round =>
      obtain ⟨k, hk, rfl, hl⟩ := hrel
      by_cases hlt : k < 8
      · have c3 : wr.cell? ⟨db, 3 + k, none⟩ = some (.pointer none) := by rw [hl.1.cell (halfCells_at _ _ _ _ _ _ _ k hlt)]; simp
        have f3 := hl.1.frozen (3 + k)
        have hdw : db < wr.heap.size := hl.1.lt
        have HL := Lib.hid hl; clear hl
        go_wp2_with fail
        go_roundw
        case rel => exact ⟨k + 1, by omega, by go_num, of_round hdb HL.out hlt⟩
        case measure => simp [intOf]; omega
      · obtain rfl : k = 8 := by omega
        have HL := Lib.hid hl; clear hl
        go_wp2_with fail
        go_ret
        exact of_end h0 hn hpc H.out.lt HL.out H.out hdb B1.out.2.1 B1.out.2.2.1 b4 n1 n2 n3 s1 s2 s3 B1.out.2.2.2

set_option maxRecDepth 100000 in
set_option maxHeartbeats 1000000 in
theorem new_any (n : Nat) (h0 : 0 < n) (hn : n ≤ 4096) :
    Calls Tryz.prog 49 #[.int .i64 n] w fun r w' => ∃ v own, r = .returned (.tuple #[.pointer (some ⟨v.db, 0, none⟩), .int .i64 0]) ∧ IsDev w' v own (Dev.fresh n (fun _ => 0)) ∧ (∀ k, own k ≠ none → w.heap.size ≤ k) ∧ Below w.heap.size w w' := by
  obtain ⟨i0, hi, hz0, hz1, hz2⟩ := info_parts infoU64
  have hmk := fun (wx : World) => run_make (P := Tryz.prog) wx 23 28 i0 _ Tryz.underlying23 hi hz0 .i64 .i64 ((n : Int) * 8) ((n : Int) * 8) (by omega) (by omega) (by rw [hz2]; omega) (by omega)
  simp only [hz1] at hmk
  rw [show ((n : Int) * 8).toNat = 8 * n from by omega] at hmk
  clear hi hz0 hz1 hz2
  have h1 : ¬ (n : Int) < 1 := by omega
  have h2 : ¬ (4096 : Int) < n := by omega
  have hrow : Row (w.alloc (.cells (madeCells #[.int .u64 0] (8 * n)) 28)) w.heap.size (8 * n) 28 (fun i => .int .u64 0) := by
    refine Row.new w _ _ _ _ (fun i hi => ?_)
    simp [madeCells, hi, Nat.mod_one]
  have HR := Lib.hid (of_any w.heap.size (8 * n) n (fun _ => 0) hrow h0 hn (Nat.le_refl _))
  clear hrow
  go_enter Tryz.func49, Tryz.ntmps49
  go_wp2_with fail
  (with_reducible refine HR.out.mono ?_)
  rintro e w1 ⟨v, own, rfl, e1, e2, d, o, b⟩
  have X := Lib.hid (And.intro e1 (And.intro d (And.intro o b)))
  clear e1 e2 d o b
  go_wp2_with fail
  go_ret2
  refine ⟨v, own, rfl, X.out.2.1, fun k hk => ?_, ?_⟩
  · rcases X.out.2.2.1 k hk with h | h
    · omega
    · simp at h; omega
  · refine Below.trans ((Below.refl _ _).alloc (Nat.le_refl _) _) (X.out.2.2.2.mono (by simp))
end

section
variable {w : World} {v : DV} {own : Nat → Option Role} {D : Dev}
def Dev.arm (D : Dev) (n : Nat) : Dev := if D.off then D else { D with armed := true, left := n }
def Dev.disarm (D : Dev) : Dev := if D.off then D else { D with armed := false, left := 0 }
end
end Go.Proofs.YtkoijmoendepgaaGreat

/- Plain arithmetic of the permutation word. -/
namespace Go.Proofs.YtkoijmoendepgaaGreat

/-- Slots as digits, the first one lowest. -/
def digs : List Nat → Nat
  | [] => 0
  | s :: l => s + 16 * digs l
/-- The permutation word. -/
def ordN (slots : List Nat) (c : Nat) : Nat := (c % 4096) * 4503599627370496 + 16 * digs slots + slots.length

theorem digs_append (l m : List Nat) : digs (l ++ m) = digs l + 16 ^ l.length * digs m := by
  induction l with
  | nil => simp [digs]
  | cons s l ih => simp only [List.cons_append, digs, ih, List.length_cons, Nat.pow_succ, Nat.mul_add]; rw [← Nat.mul_assoc, Nat.mul_comm 16 (16 ^ l.length)]; omega
theorem digs_lt (l : List Nat) (h : ∀ s ∈ l, s < 16) : digs l < 16 ^ l.length := by
  induction l with
  | nil => simp [digs]
  | cons s l ih =>
    have h1 := ih (fun x hx => h x (by simp [hx]))
    have h2 := h s (by simp)
    simp only [digs, List.length_cons, Nat.pow_succ]
    omega
theorem pow16 (k : Nat) : (16 : Nat) ^ k = 2 ^ (4 * k) := by rw [Nat.pow_mul]

/-- One round of order: the next slot's digit is or-ed in. -/
theorem ord_step (l : List Nat) (n c s : Nat) (hl : ∀ x ∈ l, x < 16) (hs : s < 16) (hn : n < 16) (hk : l.length < 12) :
    ((c % 4096) * 4503599627370496 + 16 * digs l + n) ||| (s * 2 ^ (4 + 4 * l.length)) = (c % 4096) * 4503599627370496 + 16 * digs (l ++ [s]) + n := by
  have h1 := digs_lt l hl
  rw [pow16] at h1
  have e1 : digs (l ++ [s]) = digs l + 2 ^ (4 * l.length) * s := by rw [digs_append, pow16]; simp [digs]
  have hp : (2 : Nat) ^ (4 + 4 * l.length) = 16 * 2 ^ (4 * l.length) := by rw [Nat.pow_add]
  have hlo : 16 * digs l + n < 2 ^ (4 + 4 * l.length) := by rw [hp]; omega
  have hq : (2 : Nat) ^ (8 + 4 * l.length) ≤ 2 ^ 52 := Nat.pow_le_pow_right (by omega) (by omega)
  have hq2 : (2 : Nat) ^ (8 + 4 * l.length) = 16 * 2 ^ (4 + 4 * l.length) := by rw [show 8 + 4 * l.length = 4 + (4 + 4 * l.length) from by omega, Nat.pow_add]
  have hx : s * 2 ^ (4 + 4 * l.length) + (16 * digs l + n) < 2 ^ 52 := by
    have : s * 2 ^ (4 + 4 * l.length) ≤ 15 * 2 ^ (4 + 4 * l.length) := Nat.mul_le_mul_right _ (by omega)
    omega
  have j1 : (c % 4096) * 4503599627370496 ||| (16 * digs l + n) = (c % 4096) * 4503599627370496 + (16 * digs l + n) := nat_join 52 _ _ (by omega) (by omega)
  have j2 : s * 2 ^ (4 + 4 * l.length) ||| (16 * digs l + n) = s * 2 ^ (4 + 4 * l.length) + (16 * digs l + n) := nat_join (4 + 4 * l.length) _ _ (Nat.mul_mod_left _ _) hlo
  have j3 : (c % 4096) * 4503599627370496 ||| (s * 2 ^ (4 + 4 * l.length) + (16 * digs l + n)) = (c % 4096) * 4503599627370496 + (s * 2 ^ (4 + 4 * l.length) + (16 * digs l + n)) := nat_join 52 _ _ (by omega) hx
  rw [Nat.add_assoc, ← j1, Nat.or_assoc, Nat.or_comm (16 * digs l + n), j2, j3, e1, hp]
  rw [← Nat.mul_assoc s 16, Nat.mul_comm s 16, Nat.mul_assoc 16 s, Nat.mul_comm s]
  omega
theorem ord_lt (l : List Nat) (n c : Nat) (hl : ∀ x ∈ l, x < 16) (hn : n < 16) (hk : l.length ≤ 12) : (c % 4096) * 4503599627370496 + 16 * digs l + n < 18446744073709551616 := by
  have h1 := digs_lt l hl
  have h2 : (16 : Nat) ^ l.length ≤ 16 ^ 12 := Nat.pow_le_pow_right (by omega) hk
  have h3 : (16 : Nat) ^ 12 = 281474976710656 := by decide
  omega
/-- The word behind k rounds of order. -/
def ordP (slots : List Nat) (c k : Nat) : Nat := (c % 4096) * 4503599627370496 + 16 * digs (slots.take k) + slots.length
theorem ordP_end (slots : List Nat) (c : Nat) : ordP slots c slots.length = ordN slots c := by unfold ordP ordN; rw [List.take_length]
theorem ordP_lt (slots : List Nat) (c k : Nat) (h16 : ∀ x ∈ slots, x < 16) (hl : slots.length ≤ 12) : ordP slots c k < 18446744073709551616 :=
  ord_lt _ _ _ (fun x hx => h16 x (List.mem_of_mem_take hx)) (by omega) (by rw [List.length_take]; omega)
theorem ordP_step (slots : List Nat) (c k s : Nat) (h16 : ∀ x ∈ slots, x < 16) (hl : slots.length ≤ 12) (he : slots[k]? = some s) :
    bits .or .u64 (ordP slots c k : Int) (IntKind.u64.wrap ((s : Int) * 2 ^ (4 + 4 * k))) = (ordP slots c (k + 1) : Int) := by
  have hk : k < slots.length := by
    rcases Nat.lt_or_ge k slots.length with h | h
    · exact h
    · rw [List.getElem?_eq_none h] at he; cases he
  have hs : s < 16 := h16 s (List.mem_of_getElem? he)
  have ht : slots.take (k + 1) = slots.take k ++ [s] := by rw [List.take_add_one, he]; rfl
  have hl' : (slots.take k).length = k := by rw [List.length_take]; omega
  have hst := ord_step (slots.take k) slots.length c s (fun x hx => h16 x (List.mem_of_mem_take hx)) hs (by omega) (by omega)
  have hp : (2 : Nat) ^ (4 + 4 * k) ≤ 2 ^ 48 := Nat.pow_le_pow_right (by omega) (by omega)
  have hx : s * 2 ^ (4 + 4 * k) < 18446744073709551616 := by
    have : s * 2 ^ (4 + 4 * k) ≤ 15 * 2 ^ (4 + 4 * k) := Nat.mul_le_mul_right _ (by omega)
    omega
  have ew : IntKind.u64.wrap ((s : Int) * 2 ^ (4 + 4 * k)) = ((s * 2 ^ (4 + 4 * k) : Nat) : Int) := by
    rw [IntKind.wrap_u64]
    have : ((s : Int) * 2 ^ (4 + 4 * k)) = ((s * 2 ^ (4 + 4 * k) : Nat) : Int) := by simp
    rw [this]; omega
  rw [ew, u64_or_nat _ _ (ordP_lt slots c k h16 hl) hx]
  rw [hl'] at hst
  unfold ordP
  rw [hst, ht]
theorem ordP_start (slots : List Nat) (c : Nat) (hl : slots.length ≤ 12) : bits .or .u64 (slots.length : Int) ((c : Int) % 4096 * 4503599627370496) = (ordP slots c 0 : Int) := by
  have e : ((c : Int) % 4096 * 4503599627370496) = ((c % 4096 * 4503599627370496 : Nat) : Int) := by omega
  rw [e, u64_or_nat _ _ (by omega) (by omega), Nat.or_comm, nat_join 52 _ _ (by omega) (by omega)]
  simp [ordP, digs]
/-- The reference's word when the digits from t on are in. -/
def permP (slots : List Nat) (c t : Nat) : Nat := (c % 4096) * 16 ^ (12 - t) + digs (slots.drop t)
theorem permP_start (slots : List Nat) (c : Nat) (hl : slots.length ≤ 12) : permP slots c 12 = c % 4096 := by
  simp [permP, List.drop_of_length_le hl, digs]
theorem getD_none {α : Type} (l : List α) (t : Nat) (h : l.length ≤ t) {d : α} : l.getD t d = d := by simp [List.getD, List.getElem?_eq_none h]
theorem digs_drop (slots : List Nat) (t : Nat) : digs (slots.drop t) = slots.getD t 0 + 16 * digs (slots.drop (t + 1)) := by
  by_cases h : t < slots.length
  · rw [List.drop_eq_getElem_cons h]
    simp [digs, h]
  · rw [List.drop_of_length_le (by omega), List.drop_of_length_le (by omega), getD_none _ _ (by omega)]
    rfl
theorem permP_step (slots : List Nat) (c t : Nat) (ht : t < 12) : permP slots c t = permP slots c (t + 1) * 16 + slots.getD t 0 := by
  unfold permP
  rw [digs_drop, show 12 - t = (12 - (t + 1)) + 1 from by omega, Nat.pow_succ]
  generalize (16 : Nat) ^ (12 - (t + 1)) = q
  rw [Nat.add_mul, Nat.mul_assoc]
  omega
theorem permP_lt (slots : List Nat) (c t : Nat) (h16 : ∀ x ∈ slots, x < 16) (hl : slots.length ≤ 12) (ht : 0 < t) (ht2 : t ≤ 12) : permP slots c t < 72057594037927936 := by
  have h1 := digs_lt (slots.drop t) (fun x hx => h16 x (List.mem_of_mem_drop hx))
  rw [List.length_drop] at h1
  have h2 : (16 : Nat) ^ (slots.length - t) ≤ 16 ^ (12 - t) := Nat.pow_le_pow_right (by omega) (by omega)
  have h3 : (16 : Nat) ^ (12 - t) ≤ 16 ^ 11 := Nat.pow_le_pow_right (by omega) (by omega)
  have h4 : (16 : Nat) ^ 11 = 17592186044416 := by decide
  unfold permP
  have h5 : (c % 4096) * 16 ^ (12 - t) ≤ 4095 * 16 ^ (12 - t) := Nat.mul_le_mul_right _ (by omega)
  omega
theorem permP_end (slots : List Nat) (c : Nat) : permP slots c 0 * 16 + slots.length = ordN slots c := by
  have h4 : (16 : Nat) ^ 12 = 281474976710656 := by decide
  simp only [permP, ordN, List.drop_zero, Nat.sub_zero, h4]
  omega
theorem permP_zero_lt (slots : List Nat) (c : Nat) (h16 : ∀ x ∈ slots, x < 16) (hl : slots.length ≤ 12) : permP slots c 0 < 1152921504606846976 := by
  have h := permP_step slots c 0 (by omega)
  have h1 := permP_lt slots c 1 h16 hl (by omega) (by omega)
  have h2 : slots.getD 0 0 < 16 := by
    cases slots with
    | nil => simp
    | cons s l => simpa using h16 s (by simp)
  simp only [Nat.zero_add] at h
  omega
end Go.Proofs.YtkoijmoendepgaaGreat

/- The walk of leaf.order. -/
namespace Go.Proofs.YtkoijmoendepgaaGreat
open Go.RowKit

section
variable {w : World}

def natsI (l : List Nat) : List Value := l.map fun (s : Nat) => Value.int .i64 s

set_option maxRecDepth 100000 in
set_option maxHeartbeats 1000000 in
theorem order_any (sv : Value) (slots : List Nat) (c : Nat) (hs : RdSl w 1 sv slots.length (natsI slots)) (hl : slots.length ≤ 12) (h16 : ∀ s ∈ slots, s < 16) (hc : c < 18446744073709551616) :
    Calls Tryz.prog 71 #[sv, .int .u64 c] w fun r w' => r = .returned (.int .u64 (ordN slots c)) ∧ w = w' := by
  obtain ⟨_, a, cap, rfl, hcap, ha⟩ := hs
  have HA := Lib.hid ha; have H16 := Lib.hid h16; clear ha h16
  have hlz : (0 : Int) ≤ slots.length := by omega
  go_enter Tryz.func71, Tryz.ntmps71
  go_wp2_with fail
  rw [ordP_start slots c hl]
  go_loop [5, 17] (fun x i => ∃ k : Nat, k ≤ slots.length ∧ i = .int .i64 k ∧ x = .int .u64 (ordP slots c k : Nat)) (fun _ i => slots.length - (intOf i).toNat)
  case atStart => exact ⟨0, Nat.zero_le _, rfl, rfl⟩
  case round =>
    obtain ⟨k, hk, rfl, rfl⟩ := hrel
    by_cases hlt : k < slots.length
    · obtain ⟨s, he⟩ : ∃ s, slots[k]? = some s := ⟨_, List.getElem?_eq_getElem hlt⟩
      have hs16 := H16.out s (List.mem_of_getElem? he)
      have hv : (natsI slots)[k]? = some (.int .i64 s) := by simp [natsI, he]
      obtain ⟨sb, so, rfl, hc'⟩ : ∃ sb so, a = some ⟨sb, so, none⟩ ∧ ∀ j u, (natsI slots)[j]? = some u → w.cell? ⟨sb, so + j, none⟩ = some u := by
        rcases HA.out with h0 | h0
        · rw [h0] at hv; simp at hv
        · exact h0
      have e1 := hc' _ _ hv
      have Hst := Lib.hid (ordP_step slots c k s H16.out hl he)
      clear hc' hv he
      go_wp2_with fail
      go_round
      case rel => exact ⟨k + 1, by omega, by go_num, by rw [Hst.out]⟩
      case measure => simp [intOf]; omega
    · obtain rfl : k = slots.length := by omega
      go_wp2_with fail
      go_ret
      exact ⟨ret_int (by rw [ordP_end]), rfl⟩
end
end Go.Proofs.YtkoijmoendepgaaGreat

/- The walks of slices.Equal and of the reference's permutation. -/
namespace Go.Proofs.YtkoijmoendepgaaGreat
open Go.RowKit

def intsU (l : List Int) : List Value := l.map fun s => Value.int .u64 s
theorem intsU_get (l : List Int) (k : Nat) (x : Int) (h : l[k]? = some x) : (intsU l)[k]? = some (.int .u64 x) := by simp [intsU, h]

section
variable {w : World}

set_option maxRecDepth 100000 in
set_option maxHeartbeats 1000000 in
theorem equalU_any (u v : Value) (xs ys : List Int) (hx : RdSl w 1 u xs.length (intsU xs)) (hy : RdSl w 1 v ys.length (intsU ys)) (hl : xs.length ≤ 4611686018) (_hl2 : ys.length ≤ 4611686018) :
    Calls Tryz.prog 31 #[u, v] w fun r w' => r = .returned (.bool (decide (xs = ys))) ∧ Below w.heap.size w w' := by
  obtain ⟨_, a, ca, rfl, hca, ha⟩ := hx
  obtain ⟨_, b, cb, rfl, hcb, hb⟩ := hy
  have HA := Lib.hid ha; have HB := Lib.hid hb; clear ha hb
  by_cases hlen : xs.length = ys.length
  · have hne : ((xs.length : Int) != (ys.length : Int)) = false := by simp; omega
    have Hlen := Lib.hid hlen
    go_enter Tryz.func31, Tryz.ntmps31
    clear hlen
    go_wp2_with fail
    go_loopw [13] (fun i wr => ∃ k : Nat, k ≤ xs.length ∧ i = .int .i64 k ∧ xs.take k = ys.take k ∧ ∃ q, wr = w.drewN q) (fun i _ => xs.length - (intOf i).toNat)
    case atStart => exact ⟨0, Nat.zero_le _, rfl, rfl, 0, rfl⟩
    case round =>
      obtain ⟨k, hk, rfl, heq, q, rfl⟩ := hrel
      have Heq := Lib.hid heq; clear heq
      by_cases hlt : k < xs.length
      · obtain ⟨x, hx⟩ : ∃ x, xs[k]? = some x := ⟨_, List.getElem?_eq_getElem hlt⟩
        obtain ⟨y, hy⟩ : ∃ y, ys[k]? = some y := ⟨_, List.getElem?_eq_getElem (by rw [← Hlen.out]; exact hlt)⟩
        obtain ⟨ba, oa, rfl, hca'⟩ := rd_at HA.out (intsU_get xs k x hx)
        obtain ⟨bb, ob, rfl, hcb'⟩ := rd_at HB.out (intsU_get ys k y hy)
        have e1 := hca' _ _ (intsU_get xs k x hx)
        have e2 := hcb' _ _ (intsU_get ys k y hy)
        have hlt2 : (k : Int) < ys.length := by have := Hlen.out; omega
        have hlt1 : (k : Int) < xs.length := by omega
        have Hx := Lib.hid hx; have Hy := Lib.hid hy
        clear hca' hcb' hx hy
        go_wp2_with fail
        go_quiet (fail)
        by_cases hxy : x = y
        · have hb : (x != y) = false := by simp [hxy]
          have Hxy := Lib.hid hxy; clear hxy
          go_wp2_with fail
          go_roundw
          case rel => exact ⟨k + 1, by omega, by go_num, by rw [List.take_add_one, List.take_add_one, Hx.out, Hy.out, Heq.out, Hxy.out], _, rfl⟩
          case measure => simp [intOf]; omega
        · have hb : (x != y) = true := by simp [hxy]
          have Hd : Hid (decide (xs = ys) = false) := by
            show decide (xs = ys) = false
            simp; intro h; apply hxy
            have h1 := Hx.out; rw [h, Hy.out] at h1; exact (Option.some.inj h1).symm
          clear hxy
          go_wp2_with fail
          go_ret
          exact ⟨ret_bool Hd.out.symm, ⟨rfl, rfl, rfl, Nat.le_refl _, fun _ _ => rfl⟩⟩
      · have Hd : Hid (decide (xs = ys) = true) := by
          show decide (xs = ys) = true
          have h1 := Heq.out
          rw [List.take_of_length_le (by omega), List.take_of_length_le (by have := Hlen.out; omega)] at h1
          simp [h1]
        go_wp2_with fail
        go_ret
        exact ⟨ret_bool Hd.out.symm, ⟨rfl, rfl, rfl, Nat.le_refl _, fun _ _ => rfl⟩⟩
  · have hne : ((xs.length : Int) != (ys.length : Int)) = true := by simp; omega
    have hd : decide (xs = ys) = false := by simp; intro h; exact hlen (by rw [h])
    have Hd := Lib.hid hd; clear hd hlen
    go_enter Tryz.func31, Tryz.ntmps31
    go_wp2_with fail
    go_ret
    exact ⟨ret_bool Hd.out.symm, Below.refl _ _⟩

set_option maxRecDepth 100000 in
set_option maxHeartbeats 1000000 in
theorem permutation_any (sv : Value) (slots : List Nat) (c : Nat) (hs : RdSl w 1 sv slots.length (natsI slots)) (hl : slots.length ≤ 12) (h16 : ∀ s ∈ slots, s < 16) (hc : c < 18446744073709551616) :
    Calls Tryz.prog 80 #[sv, .int .u64 c] w fun r w' => r = .returned (.int .u64 (ordN slots c)) ∧ w = w' := by
  obtain ⟨_, a, cap, rfl, hcap, ha⟩ := hs
  have HA := Lib.hid ha; have H16 := Lib.hid h16; clear ha h16
  have hst : ((c : Int) % 4096) = (permP slots c 12 : Nat) := by rw [permP_start slots c hl]; omega
  have Hst := Lib.hid hst; clear hst
  go_enter Tryz.func80, Tryz.ntmps80
  go_wp2_with fail
  rw [Hst.out]
  go_loop [5, 6] (fun x i => ∃ t : Nat, t ≤ 12 ∧ (t = 0 ∧ i = .int .i64 (-1) ∨ ∃ s : Nat, t = s + 1 ∧ i = .int .i64 s) ∧ x = .int .u64 (permP slots c t : Nat)) (fun _ i => (intOf i + 1).toNat)
  case atStart => exact ⟨12, Nat.le_refl _, .inr ⟨11, rfl, rfl⟩, rfl⟩
  case round =>
    obtain ⟨t, ht, hti, rfl⟩ := hrel
    rcases hti with ⟨rfl, rfl⟩ | ⟨s, rfl, rfl⟩
    · have h1 := permP_zero_lt slots c H16.out hl
      have He := Lib.hid (permP_end slots c)
      go_wp2_with fail
      go_ret
      exact ⟨ret_int (by rw [← He.out]; simp), rfl⟩
    · have h1 := permP_lt slots c (s + 1) H16.out hl (by omega) ht
      have He := Lib.hid (permP_step slots c s (by omega))
      by_cases hlt : s < slots.length
      · obtain ⟨d, hd⟩ : ∃ d, slots[s]? = some d := ⟨_, List.getElem?_eq_getElem hlt⟩
        have hd16 := H16.out d (List.mem_of_getElem? hd)
        have hv : (natsI slots)[s]? = some (.int .i64 d) := by simp [natsI, hd]
        obtain ⟨sb, so, rfl, hc'⟩ := rd_at HA.out hv
        have e1 := hc' _ _ hv
        have Hd : Hid (slots.getD s 0 = d) := by show slots.getD s 0 = d; simp [List.getD, hd]
        clear hc' hv hd
        go_wp2_with fail
        go_round
        case rel =>
          refine ⟨s, by omega, ?_, by rw [He.out, Hd.out]; simp⟩
          cases s with
          | zero => exact .inl ⟨rfl, by simp⟩
          | succ s => exact .inr ⟨s, rfl, by go_num⟩
        case measure => simp [intOf]
      · have Hd : Hid (slots.getD s 0 = 0) := by show slots.getD s 0 = 0; exact getD_none _ _ (by omega)
        go_wp2_with fail
        go_round
        case rel =>
          refine ⟨s, by omega, ?_, by rw [He.out, Hd.out]; simp⟩
          cases s with
          | zero => exact .inl ⟨rfl, by simp⟩
          | succ s => exact .inr ⟨s, rfl, by go_num⟩
        case measure => simp [intOf]
end
end Go.Proofs.YtkoijmoendepgaaGreat
