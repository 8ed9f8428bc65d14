/- The device in memory, and the walks of its small functions. -/
import Derived.Test.YtbpaamnofkhonaaDoorDevM
import Derived.Test.YtbpaamnofkhonaaDoorRows
namespace Go.Proofs.YtbpaamnofkhonaaDoor
open Go.RowKit Go.Maps

theorem law3 : Keyed Tryd.prog 3 := int_keyed Tryd.underlying3

structure IsDev (w : World) (v : DV) (own : Nat → Option Role) (D : Dev) : Prop where
  wf : D.WF
  dev : Blk w v.db (devCells v D) 107
  pers : Row w v.pb (8 * D.n) 22 (fun i => .int .u64 (D.pers i))
  cur : Row w v.cb (8 * D.n) 22 (fun i => .int .u64 (D.cur i))
  lines : ∃ hv : Nat → Value, Row w v.lb (2 * D.n) 122 (fun j => if j % 2 = 0 then .int .u64 (D.done (j / 2)) else hv (j / 2)) ∧ ∀ i, i < D.n → HistAt w own 114 i (hv i) (D.hist i)
  thr : ∀ j, j < 8 → Blk w (v.tb j) (thrCells v D j) 119
  notes : ∀ j, j < 8 → NotesAt Tryd.prog 3 22 w (v.nb j) D.exec (D.note j)
  odb : own v.db = some .dev
  opb : own v.pb = some .pers
  ocb : own v.cb = some .cur
  olb : own v.lb = some .lines
  otb : ∀ j, j < 8 → own (v.tb j) = some (.thr j)
  onb : ∀ j, j < 8 → own (v.nb j) = some (.notes j)
  lt : ∀ k, own k ≠ none → k < w.heap.size
  pcs : 8 * D.n ≤ v.pc ∧ 8 * D.n ≤ v.cc

/-- The device is now D'; nothing but its own blocks has changed. -/
def DPost (v : DV) (own : Nat → Option Role) (w : World) (D' : Dev) (w' : World) : Prop :=
  ∃ own', IsDev w' v own' D' ∧ (∀ k, k < w.heap.size → own' k = own k) ∧ Upd (fun k => own k ≠ none) w w'

theorem DPost.refl {v : DV} {own : Nat → Option Role} {w : World} {D : Dev} (h : IsDev w v own D) : DPost v own w D w := ⟨own, h, fun _ _ => rfl, Upd.refl _ _⟩
theorem DPost.trans {v : DV} {own own1 : Nat → Option Role} {w w1 w2 : World} {D2 : Dev} (hs : w.heap.size ≤ w1.heap.size) (ho : ∀ k, k < w.heap.size → own1 k = own k) (hu : Upd (fun k => own k ≠ none) w w1)
    (h : DPost v own1 w1 D2 w2) : DPost v own w D2 w2 := by
  obtain ⟨own2, h1, h2, h3⟩ := h
  exact ⟨own2, h1, fun k hk => (h2 k (Nat.lt_of_lt_of_le hk hs)).trans (ho k hk), hu.trans h3 (fun i hi hS => by rw [← ho i hi]; exact hS)⟩

theorem own_ne {own : Nat → Option Role} {a b : Nat} {x y : Role} (ha : own a = some x) (hb : own b = some y) (h : x ≠ y) : a ≠ b := by
  rintro rfl; rw [ha] at hb; exact h (Option.some.inj hb)

section
variable {w : World} {v : DV} {own : Nat → Option Role} {D : Dev}

theorem NotesAt.kept {P : Program} {kt et : TypeId} {w w' : World} {b B B' : Nat} {f : Nat → Option Nat} (h : NotesAt P kt et w b B f) (hB : B ≤ B') (hb : w'.heap[b]? = w.heap[b]?) : NotesAt P kt et w' b B' f := by
  obtain ⟨m, N, h1, h2, h3⟩ := h
  refine ⟨m, N, Nat.le_trans h1 hB, ?_, h3⟩
  unfold World.ownsMap at *
  rw [hb]; exact h2

/-- The device where nothing of it has changed. -/
theorem IsDev.kept {w' : World} (h : IsDev w v own D) (hs : w.heap.size ≤ w'.heap.size) (hb : ∀ k, own k ≠ none → w'.heap[k]? = w.heap[k]?) : IsDev w' v own D := by
  have hB : ∀ k c t, own k ≠ none → Blk w k c t → Blk w' k c t := fun k c t hk hc => (hb k hk).trans hc
  have hR : ∀ k n t f, own k ≠ none → Row w k n t f → Row w' k n t f := fun k n t f hk ⟨c, h1, h2⟩ => ⟨c, hB k c t hk h1, h2⟩
  obtain ⟨hv, l1, l2⟩ := h.lines
  exact {
    wf := h.wf
    dev := hB _ _ _ (by simp [h.odb]) h.dev
    pers := hR _ _ _ _ (by simp [h.opb]) h.pers
    cur := hR _ _ _ _ (by simp [h.ocb]) h.cur
    lines := ⟨hv, hR _ _ _ _ (by simp [h.olb]) l1, fun i hi => (l2 i hi).mono (fun _ hg _ => hg) (fun g hg _ => hb g (by simp [hg]))⟩
    thr := fun j hj => hB _ _ _ (by simp [h.otb j hj]) (h.thr j hj)
    notes := fun j hj => (h.notes j hj).kept (Nat.le_refl _) (hb _ (by simp [h.onb j hj]))
    odb := h.odb, opb := h.opb, ocb := h.ocb, olb := h.olb, otb := h.otb, onb := h.onb
    lt := fun k hk => Nat.lt_of_lt_of_le (h.lt k hk) hs
    pcs := h.pcs }

theorem IsDev.upd {w' : World} {S : Nat → Prop} (h : IsDev w v own D) (hu : Upd S w w') (hS : ∀ k, own k ≠ none → ¬ S k) : IsDev w' v own D :=
  h.kept hu.size (fun k hk => hu.block k (h.lt k hk) (hS k hk))
theorem IsDev.alloc (h : IsDev w v own D) (o : Obj) : IsDev (w.alloc o) v own D := h.kept (by simp) (fun k hk => Below.heap_alloc _ _ _ (h.lt k hk))
theorem IsDev.drew (h : IsDev w v own D) : IsDev w.drew v own D := h.kept (Nat.le_refl _) (fun _ _ => rfl)

/-- A cell of the device's own struct is written. -/
theorem IsDev.setDev (h : IsDev w v own D) (i : Nat) (u : Value) (D' : Dev) (hw : D'.WF) (hc : (devCells v D).setIfInBounds i u = devCells v D')
    (hn : D'.n = D.n) (hp : D'.pers = D.pers) (hh : D'.hist = D.hist) (hd : D'.done = D.done) (he : D'.err = D.err) (hno : D'.note = D.note) (hx : D.exec ≤ D'.exec) :
    IsDev (w.setCell ⟨v.db, i, none⟩ u) v own D' := by
  have ne : ∀ k, own k ≠ some .dev → k ≠ v.db := fun k hk e => hk (by rw [e]; exact h.odb)
  obtain ⟨hv, l1, l2⟩ := h.lines
  exact {
    wf := hw
    dev := by rw [← hc]; exact h.dev.set i u
    pers := by rw [hn, hp]; exact h.pers.other (ne _ (by simp [h.opb])) u
    cur := by
      have : D'.cur = D.cur := by funext i; simp [Dev.cur, hh, hp]
      rw [hn, this]; exact h.cur.other (ne _ (by simp [h.ocb])) u
    lines := ⟨hv, by rw [hn, hd]; exact l1.other (ne _ (by simp [h.olb])) u, fun i hi => by
      rw [hh]; exact (l2 i (hn ▸ hi)).mono (fun _ hg _ => hg) (fun g hg _ => Below.heap_setCell _ _ _ _ (ne g (by simp [hg])))⟩
    thr := fun j hj => by
      have : thrCells v D' j = thrCells v D j := by simp [thrCells, he]
      rw [this]; exact (h.thr j hj).other (ne _ (by simp [h.otb j hj])) u
    notes := fun j hj => by rw [hno]; exact (h.notes j hj).kept hx (Below.heap_setCell _ _ _ _ (ne _ (by simp [h.onb j hj])))
    odb := h.odb, opb := h.opb, ocb := h.ocb, olb := h.olb, otb := h.otb, onb := h.onb
    lt := fun k hk => by simpa [World.setCell] using h.lt k hk
    pcs := by rw [hn]; exact h.pcs }

/-- A thread's error is written. -/
theorem IsDev.setErr (h : IsDev w v own D) {j : Nat} (hj : j < 8) (e : Int) : IsDev (w.setCell ⟨v.tb j, 2, none⟩ (.int .i64 e)) v own (D.setErr j e) := by
  have ne : ∀ k, own k ≠ some (.thr j) → k ≠ v.tb j := fun k hk e => hk (by rw [e]; exact h.otb j hj)
  obtain ⟨hv, l1, l2⟩ := h.lines
  exact {
    wf := ⟨h.wf.pos, h.wf.le, h.wf.line, h.wf.cnt, h.wf.note, h.wf.left⟩
    dev := h.dev.other (ne _ (by simp [h.odb])) _
    pers := h.pers.other (ne _ (by simp [h.opb])) _
    cur := h.cur.other (ne _ (by simp [h.ocb])) _
    lines := ⟨hv, l1.other (ne _ (by simp [h.olb])) _, fun i hi => (l2 i hi).mono (fun _ hg _ => hg) (fun g hg _ => Below.heap_setCell _ _ _ _ (ne g (by simp [hg])))⟩
    thr := fun k hk => by
      by_cases ek : k = j
      · subst ek
        have := (h.thr k hk).set 2 (.int .i64 e)
        simpa [thrCells, Dev.setErr] using this
      · have : thrCells v (D.setErr j e) k = thrCells v D k := by simp [thrCells, Dev.setErr, ek]
        rw [this]; exact (h.thr k hk).other (ne _ (by simp [h.otb k hk, ek])) _
    notes := fun k hk => (h.notes k hk).kept (Nat.le_refl _) (Below.heap_setCell _ _ _ _ (ne _ (by simp [h.onb k hk])))
    odb := h.odb, opb := h.opb, ocb := h.ocb, olb := h.olb, otb := h.otb, onb := h.onb
    lt := fun k hk => by simpa [World.setCell] using h.lt k hk
    pcs := h.pcs }

set_option maxHeartbeats 400000 in
theorem fail_any (h : IsDev w v own D) {j : Nat} (hj : j < 8) (e : Int) :
    Calls Tryd.prog 74 #[.pointer (some ⟨v.tb j, 0, none⟩), .int .i64 e] w fun r w' => r = .returned (.tuple #[]) ∧ DPost v own w (D.fail j e) w' := by
  have c2 : w.cell? ⟨v.tb j, 2, none⟩ = some (.int .i64 (D.err j)) := (h.thr j hj).cell rfl
  have f2 := (h.thr j hj).frozen 2
  have H := Lib.hid h; clear h
  by_cases he : D.err j = 0
  · have hb : (D.err j == 0) = true := by simp [he]
    have He := Lib.hid he; clear he
    go_enter Tryd.func74, Tryd.ntmps74
    go_wp2
    go_end0
    refine ⟨rfl, own, ?_, fun _ _ => rfl, (Upd.refl _ _).setCell (fun _ => by simp [H.out.otb j hj]) _⟩
    simp only [Dev.fail, He.out, if_true]
    exact H.out.setErr hj e
  · have hb : (D.err j == 0) = false := by simp [he]
    have He := Lib.hid he; clear he
    go_enter Tryd.func74, Tryd.ntmps74
    go_wp2
    go_end0
    refine ⟨rfl, ?_⟩
    simp only [Dev.fail, He.out, if_false]
    exact DPost.refl H.out

set_option maxHeartbeats 400000 in
theorem lines_any (h : IsDev w v own D) : Calls Tryd.prog 119 #[.pointer (some ⟨v.db, 0, none⟩)] w fun r w' => r = .returned (.int .i64 D.n) ∧ w = w' := by
  have c2 : w.cell? ⟨v.db, 2, none⟩ = some (.slice (some ⟨v.lb, 0, none⟩) D.n D.n) := h.dev.cell rfl
  clear h
  go_enter Tryd.func119, Tryd.ntmps119
  go_wp2
  go_ret
  exact ⟨rfl, rfl⟩

set_option maxHeartbeats 400000 in
theorem size_any (h : IsDev w v own D) : Calls Tryd.prog 118 #[.pointer (some ⟨v.db, 0, none⟩)] w fun r w' => r = .returned (.int .u64 (D.n * 64)) ∧ w = w' := by
  have hn := h.wf.le
  have H := Lib.hid h; clear h
  go_enter Tryd.func118, Tryd.ntmps118
  go_wp2_with (go_at_call 119; refine (lines_any H.out).mono ?_; rintro e w' ⟨rfl, rfl⟩)
  go_ret
  exact ⟨rfl, rfl⟩

theorem ret_bool {a b : Bool} (h : a = b) : Ending.returned (.bool a) = .returned (.bool b) := by rw [h]
theorem ret_int {k : IntKind} {a b : Int} (h : a = b) : Ending.returned (.int k a) = .returned (.int k b) := by rw [h]

set_option maxHeartbeats 400000 in
theorem word_any (h : IsDev w v own D) {j : Nat} (hj : j < 8) (off : Nat) :
    Calls Tryd.prog 125 #[.pointer (some ⟨v.tb j, 0, none⟩), .int .u64 off] w fun r w' => r = .returned (.bool (D.wordB off)) ∧ w = w' := by
  have c0 : w.cell? ⟨v.tb j, 0, none⟩ = some (.pointer (some ⟨v.db, 0, none⟩)) := (h.thr j hj).cell rfl
  have hn := h.wf.le
  have H := Lib.hid h; clear h
  by_cases h8 : off % 8 = 0
  · have hb : (((off : Int) % 8) == 0) = true := by simp; omega
    go_enter Tryd.func125, Tryd.ntmps125
    go_wp2_with (go_at_call 118; refine (size_any H.out).mono ?_; rintro e w' ⟨rfl, rfl⟩)
    go_ret
    exact ⟨ret_bool (by simp only [Dev.wordB, decide_eq_decide]; omega), rfl⟩
  · have hb : (((off : Int) % 8) == 0) = false := by simp; omega
    go_enter Tryd.func125, Tryd.ntmps125
    go_wp2_with (go_at_call 118; refine (size_any H.out).mono ?_; rintro e w' ⟨rfl, rfl⟩)
    go_ret
    exact ⟨ret_bool (by simp [Dev.wordB, h8]), rfl⟩

set_option maxHeartbeats 400000 in
theorem on_yes (h : IsDev w v own D) {j : Nat} (hj : j < 8) (ho : D.off = false) :
    Calls Tryd.prog 73 #[.pointer (some ⟨v.tb j, 0, none⟩), .bool true] w fun r w' => r = .returned (.bool true) ∧ w = w' := by
  have c0 : w.cell? ⟨v.tb j, 0, none⟩ = some (.pointer (some ⟨v.db, 0, none⟩)) := (h.thr j hj).cell rfl
  have c1 : w.cell? ⟨v.db, 11, none⟩ = some (.bool D.off) := h.dev.cell rfl
  rw [ho] at c1; clear ho h
  go_enter Tryd.func73, Tryd.ntmps73
  go_wp2_with fail
  go_ret
  exact ⟨rfl, rfl⟩

set_option maxHeartbeats 400000 in
theorem on_no (h : IsDev w v own D) {j : Nat} (hj : j < 8) (b : Bool) (hb : D.onB b = false) :
    Calls Tryd.prog 73 #[.pointer (some ⟨v.tb j, 0, none⟩), .bool b] w fun r w' => r = .returned (.bool false) ∧ DPost v own w (D.onD j b) w' := by
  have c0 : w.cell? ⟨v.tb j, 0, none⟩ = some (.pointer (some ⟨v.db, 0, none⟩)) := (h.thr j hj).cell rfl
  have c1 : w.cell? ⟨v.db, 11, none⟩ = some (.bool D.off) := h.dev.cell rfl
  have H := Lib.hid h; clear h
  have Hb := Lib.hid hb; clear hb
  have ho : D.off = true ∨ D.off = false := by cases D.off <;> simp
  rcases ho with ho | ho
  · have Ho := Lib.hid ho
    rw [ho] at c1; clear ho
    go_enter Tryd.func73, Tryd.ntmps73
    go_wp2_with (go_at_call 74; refine (fail_any H.out hj _).mono ?_; rintro e w' ⟨rfl, hp⟩; have Hp := Lib.hid hp; clear hp)
    go_ret
    refine ⟨rfl, ?_⟩
    simp only [Dev.onD, Ho.out, if_true]
    exact Hp.out
  · have Ho := Lib.hid ho
    rw [ho] at c1
    have hbf : b = false := by have := Hb.out; simpa [Dev.onB, ho] using this
    clear ho; subst hbf
    go_enter Tryd.func73, Tryd.ntmps73
    go_wp2_with (go_at_call 74; refine (fail_any H.out hj _).mono ?_; rintro e w' ⟨rfl, hp⟩; have Hp := Lib.hid hp; clear hp)
    go_ret
    refine ⟨rfl, ?_⟩
    simp only [Dev.onD, Ho.out, if_false, Bool.false_eq_true]
    exact Hp.out

theorem Dev.WF.off (h : D.WF) (b : Bool) : ({ D with off := b } : Dev).WF := ⟨h.pos, h.le, h.line, h.cnt, h.note, h.left⟩
theorem Dev.WF.tick (h : D.WF) : D.tick.WF := ⟨h.pos, h.le, h.line, fun i hi => Nat.le_succ_of_le (h.cnt i hi), h.note, by
  have := h.left; simp only [Dev.tick]; split <;> omega⟩

/-- The counters of an executed instruction. -/
theorem IsDev.tickArmed (h : IsDev w v own D) (ha : D.armed = true) (hl : 0 < D.left) : IsDev ((w.setCell ⟨v.db, 13, none⟩ (.int .i64 ((D.left : Int) - 1))).setCell ⟨v.db, 14, none⟩ (.int .u64 ((D.exec : Int) + 1))) v own D.tick := by
  have h1 := h.setDev 13 (.int .i64 ((D.left : Int) - 1)) { D with left := D.left - 1 } ⟨h.wf.pos, h.wf.le, h.wf.line, h.wf.cnt, h.wf.note, by have := h.wf.left; show D.left - 1 ≤ _; omega⟩
    (by have : ((D.left - 1 : Nat) : Int) = (D.left : Int) - 1 := by omega
        simp [devCells, this]) rfl rfl rfl rfl rfl rfl (Nat.le_refl _)
  have h2 := h1.setDev 14 (.int .u64 ((D.exec : Int) + 1)) D.tick h.wf.tick (by simp [devCells, Dev.tick, ha]) rfl rfl rfl rfl rfl rfl (Nat.le_succ _)
  exact h2
theorem IsDev.tickPlain (h : IsDev w v own D) (ha : D.armed = false) : IsDev (w.setCell ⟨v.db, 14, none⟩ (.int .u64 ((D.exec : Int) + 1))) v own D.tick :=
  h.setDev 14 (.int .u64 ((D.exec : Int) + 1)) D.tick h.wf.tick (by simp [devCells, Dev.tick, ha]) rfl rfl rfl rfl rfl rfl (Nat.le_succ _)
theorem IsDev.turnOff (h : IsDev w v own D) : IsDev (w.setCell ⟨v.db, 11, none⟩ (.bool true)) v own { D with off := true } :=
  h.setDev 11 (.bool true) { D with off := true } (h.wf.off true) (by simp [devCells]) rfl rfl rfl rfl rfl rfl (Nat.le_refl _)

set_option maxHeartbeats 400000 in
theorem counted_yes (h : IsDev w v own D) {j : Nat} (hj : j < 8) (hx : D.exec < 4611686018427387904) (hb : D.countedB true = true) :
    Calls Tryd.prog 56 #[.pointer (some ⟨v.tb j, 0, none⟩), .bool true] w fun r w' => r = .returned (.bool true) ∧ IsDev w' v own D.tick ∧ (∀ k, k ≠ v.db → w'.heap[k]? = w.heap[k]?) ∧ Upd (fun k => own k ≠ none) w w' := by
  have c0 : w.cell? ⟨v.tb j, 0, none⟩ = some (.pointer (some ⟨v.db, 0, none⟩)) := (h.thr j hj).cell rfl
  have c12 : w.cell? ⟨v.db, 12, none⟩ = some (.bool D.armed) := h.dev.cell rfl
  have c13 : w.cell? ⟨v.db, 13, none⟩ = some (.int .i64 D.left) := h.dev.cell rfl
  have c14 : w.cell? ⟨v.db, 14, none⟩ = some (.int .u64 D.exec) := h.dev.cell rfl
  have f13 := h.dev.frozen 13
  have f14 := h.dev.frozen 14
  have hl := h.wf.left
  simp only [Dev.countedB, Dev.onB, Bool.and_true, Bool.and_eq_true, Bool.not_eq_true', Dev.cut] at hb
  obtain ⟨hoff, hcut⟩ := hb
  have H := Lib.hid h; have Hoff := Lib.hid hoff; clear h hoff
  have hu : ∀ (w' : World) p u, p.block = v.db → Upd (fun k => own k ≠ none) w w' → Upd (fun k => own k ≠ none) w (w'.setCell p u) := fun w' p u hp hw => hw.setCell (fun _ => by rw [hp]; simp [H.out.odb]) u
  have ha : D.armed = true ∨ D.armed = false := by cases D.armed <;> simp
  rcases ha with ha | ha
  · have hl0 : 0 < D.left := by rw [ha] at hcut; simp at hcut; omega
    have hlb : ((D.left : Int) == 0) = false := by simp; omega
    have Ha := Lib.hid ha
    rw [ha] at c12; clear ha hcut
    have Hu := Lib.hid hu; clear hu
    go_enter Tryd.func56, Tryd.ntmps56
    go_wp2_with (go_at_call 73; refine (on_yes H.out hj Hoff.out).mono ?_; rintro e w' ⟨rfl, rfl⟩)
    go_ret
    exact ⟨rfl, H.out.tickArmed Ha.out hl0, fun k hk => (Below.heap_setCell _ _ _ _ hk).trans (Below.heap_setCell _ _ _ _ hk), Hu.out _ _ _ rfl (Hu.out _ _ _ rfl (Upd.refl _ _))⟩
  · have Ha := Lib.hid ha
    rw [ha] at c12; clear ha hcut
    have Hu := Lib.hid hu; clear hu
    go_enter Tryd.func56, Tryd.ntmps56
    go_wp2_with (go_at_call 73; refine (on_yes H.out hj Hoff.out).mono ?_; rintro e w' ⟨rfl, rfl⟩)
    go_ret
    exact ⟨rfl, H.out.tickPlain Ha.out, fun k hk => Below.heap_setCell _ _ _ _ hk, Hu.out _ _ _ rfl (Upd.refl _ _)⟩

set_option maxHeartbeats 400000 in
theorem counted_no (h : IsDev w v own D) {j : Nat} (hj : j < 8) (b : Bool) (hb : D.countedB b = false) :
    Calls Tryd.prog 56 #[.pointer (some ⟨v.tb j, 0, none⟩), .bool b] w fun r w' => r = .returned (.bool false) ∧ DPost v own w (D.countedD j b) w' := by
  have c0 : w.cell? ⟨v.tb j, 0, none⟩ = some (.pointer (some ⟨v.db, 0, none⟩)) := (h.thr j hj).cell rfl
  have c12 : w.cell? ⟨v.db, 12, none⟩ = some (.bool D.armed) := h.dev.cell rfl
  have c13 : w.cell? ⟨v.db, 13, none⟩ = some (.int .i64 D.left) := h.dev.cell rfl
  have c11 : w.cell? ⟨v.db, 11, none⟩ = some (.bool D.off) := h.dev.cell rfl
  have f11 := h.dev.frozen 11
  have H := Lib.hid h; have Hb := Lib.hid hb; clear h hb
  by_cases hon : D.onB b = true
  · have hbt : b = true ∧ D.off = false := by simpa [Dev.onB, and_comm] using hon
    obtain ⟨rfl, hoff⟩ := hbt
    have hcut : D.armed = true ∧ D.left = 0 := by have := Hb.out; simpa [Dev.countedB, hon, Dev.cut] using this
    have Hc : Hid (D.cut = true) := by show D.cut = true; simp [Dev.cut, hcut.1, hcut.2]
    have Hon := Lib.hid hon; have Hoff := Lib.hid hoff
    rw [hcut.1] at c12
    rw [hcut.2] at c13
    clear hcut hon hoff
    go_enter Tryd.func56, Tryd.ntmps56
    go_wp2_with (first | (go_at_call 73; refine (on_yes H.out hj Hoff.out).mono ?_; rintro e w' ⟨rfl, rfl⟩) | (go_at_call 74; refine (fail_any H.out.turnOff hj _).mono ?_; rintro e w' ⟨rfl, hp⟩; have Hp := Lib.hid hp; clear hp))
    go_ret
    refine ⟨rfl, ?_⟩
    simp only [Dev.countedD, Hon.out, Hc.out, if_true]
    exact DPost.trans (by simp [World.setCell]) (fun _ _ => rfl) ((Upd.refl _ _).setCell (fun _ => by simp [H.out.odb]) _) Hp.out
  · have Hon := Lib.hid hon
    have Hf : Hid (D.onB b = false) := by show D.onB b = false; simpa using hon
    clear hon
    go_enter Tryd.func56, Tryd.ntmps56
    go_wp2_with (go_at_call 73; refine (on_no H.out hj _ Hf.out).mono ?_; rintro e w' ⟨rfl, hp⟩; have Hp := Lib.hid hp; clear hp)
    go_ret
    refine ⟨rfl, ?_⟩
    simp only [Dev.countedD, Hf.out, if_false, Bool.false_eq_true]
    exact Hp.out
end
end Go.Proofs.YtbpaamnofkhonaaDoor
