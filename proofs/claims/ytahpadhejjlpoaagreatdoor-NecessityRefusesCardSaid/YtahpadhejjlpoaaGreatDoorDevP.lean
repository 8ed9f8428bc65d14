/- Programs on a device, plain: groups of stores, flushes and a fence; what the power leaves of them. No program in sight. -/
import Derived.Test.YtahpadhejjlpoaaGreatDoorDevM
namespace Go.Proofs.YtahpadhejjlpoaaGreatDoor
open Go.RowKit

/-- One instruction: its kind, its offset, its value. -/
def Dev.step (D : Dev) (j : Nat) (e : Nat × Nat × Int) : Dev := if e.1 = 1 then D.store j e.2.1 e.2.2 else if e.1 = 2 then D.flush j e.2.1 else D.fence j
def Dev.run (D : Dev) (j : Nat) (l : List (Nat × Nat × Int)) : Dev := l.foldl (fun D e => D.step j e) D
def instrOk (l : List (Nat × Nat × Int)) : Prop := ∀ e ∈ l, 1 ≤ e.1 ∧ e.1 ≤ 3 ∧ e.2.1 < 18446744073709551616
theorem Dev.run_snoc (D : Dev) (j : Nat) (l : List (Nat × Nat × Int)) (e : Nat × Nat × Int) : D.run j (l ++ [e]) = (D.run j l).step j e := by simp [Dev.run, List.foldl_append]
theorem Dev.run_append (D : Dev) (j : Nat) (l m : List (Nat × Nat × Int)) : D.run j (l ++ m) = (D.run j l).run j m := by simp [Dev.run, List.foldl_append]
theorem Dev.fail_exec (D : Dev) (j : Nat) (e : Int) : (D.fail j e).exec = D.exec := by unfold Dev.fail; split <;> rfl
theorem Dev.onD_exec (D : Dev) (j : Nat) (b : Bool) : (D.onD j b).exec = D.exec := by unfold Dev.onD; split <;> (try split) <;> simp [Dev.fail_exec]
theorem Dev.countedD_exec (D : Dev) (j : Nat) (b : Bool) : (D.countedD j b).exec ≤ D.exec + 1 := by
  unfold Dev.countedD
  split
  · split
    · rw [Dev.fail_exec]; exact Nat.le_succ _
    · simp [Dev.tick]
  · rw [Dev.onD_exec]; omega
theorem Dev.step_exec (D : Dev) (j : Nat) (e : Nat × Nat × Int) : (D.step j e).exec ≤ D.exec + 1 := by
  unfold Dev.step Dev.store Dev.flush Dev.fence
  repeat' split
  all_goals exact Dev.countedD_exec _ _ _
theorem Dev.run_exec (D : Dev) (j : Nat) (l : List (Nat × Nat × Int)) : (D.run j l).exec ≤ D.exec + l.length := by
  induction l generalizing D with
  | nil => simp [Dev.run]
  | cons e l ih => have h1 := ih (D.step j e); have h2 := D.step_exec j e; simp only [Dev.run, List.foldl_cons, List.length_cons] at *; omega

/-- The crash image in which the first ks l stores of line l have come through. -/
def Dev.img (D : Dev) (ks : Nat → Nat) (i : Nat) : Int := look ((D.hist (i / 8)).take (ks (i / 8))) (D.pers i) i
theorem look_other (l : List (Nat × Int)) (d : Int) (i : Nat) (h : ∀ e ∈ l, e.1 / 8 ≠ i) : look l d i = d := by
  induction l generalizing d with
  | nil => rfl
  | cons e l ih =>
    simp only [look, List.foldl_cons, if_neg (h e (List.mem_cons_self ..))]
    exact ih d (fun x hx => h x (List.mem_cons_of_mem _ hx))
/-- A word behind stores is what it was, or what one of them has put there. -/
theorem look_may (l : List (Nat × Int)) (d : Int) (i : Nat) : look l d i = d ∨ ∃ e ∈ l, e.1 / 8 = i ∧ look l d i = e.2 := by
  induction l generalizing d with
  | nil => exact .inl rfl
  | cons e l ih =>
    simp only [look, List.foldl_cons]
    by_cases h : e.1 / 8 = i
    · rw [if_pos h]
      rcases ih e.2 with h1 | ⟨x, hx, h2, h3⟩
      · exact .inr ⟨e, by simp, h, h1⟩
      · exact .inr ⟨x, by simp [hx], h2, h3⟩
    · rw [if_neg h]
      rcases ih d with h1 | ⟨x, hx, h2, h3⟩
      · exact .inl h1
      · exact .inr ⟨x, by simp [hx], h2, h3⟩
/-- Stores on other lines do not matter to a word. -/
theorem look_line (ws : List (Nat × Int)) (d : Int) (i : Nat) : look (ws.filter fun e => e.1 / 64 == i / 8) d i = look ws d i := by
  induction ws generalizing d with
  | nil => rfl
  | cons e l ih =>
    by_cases h : e.1 / 64 = i / 8
    · rw [List.filter_cons_of_pos (by simpa using h)]
      simp only [look, List.foldl_cons]; exact ih _
    · rw [List.filter_cons_of_neg (by simpa using h)]
      simp only [look, List.foldl_cons]
      rw [if_neg (by omega)]; exact ih d

/-- The values of a device are words. -/
structure Dev.VB (D : Dev) : Prop where
  pers : ∀ i, 0 ≤ D.pers i ∧ D.pers i < 18446744073709551616
  hist : ∀ l, ∀ e ∈ D.hist l, 0 ≤ e.2 ∧ e.2 < 18446744073709551616
theorem look_bd (l : List (Nat × Int)) (d : Int) (i : Nat) (hd : 0 ≤ d ∧ d < 18446744073709551616) (h : ∀ e ∈ l, 0 ≤ e.2 ∧ e.2 < 18446744073709551616) : 0 ≤ look l d i ∧ look l d i < 18446744073709551616 := by
  rcases look_may l d i with h1 | ⟨e, he, _, h1⟩
  · rw [h1]; exact hd
  · rw [h1]; exact h e he
theorem Dev.VB.cur {D : Dev} (h : D.VB) (i : Nat) : 0 ≤ D.cur i ∧ D.cur i < 18446744073709551616 := look_bd _ _ _ (h.pers i) (h.hist _)
theorem Dev.VB.img {D : Dev} (h : D.VB) (ks : Nat → Nat) (i : Nat) : 0 ≤ D.img ks i ∧ D.img ks i < 18446744073709551616 := look_bd _ _ _ (h.pers i) (fun e he => h.hist _ e (List.mem_of_mem_take he))
theorem Dev.VB.same {D D' : Dev} (h : D.VB) (h1 : D'.pers = D.pers) (h2 : D'.hist = D.hist) : D'.VB := ⟨by rw [h1]; exact h.pers, by rw [h2]; exact h.hist⟩
theorem Dev.countedD_same (D : Dev) (j : Nat) (b : Bool) : (D.countedD j b).pers = D.pers ∧ (D.countedD j b).hist = D.hist := by
  unfold Dev.countedD Dev.onD Dev.fail
  repeat' split
  all_goals exact ⟨rfl, rfl⟩
theorem Dev.VB.step {D : Dev} (h : D.VB) (j : Nat) (e : Nat × Nat × Int) (he : e.1 = 1 → 0 ≤ e.2.2 ∧ e.2.2 < 18446744073709551616) : (D.step j e).VB := by
  have hc := fun b => h.same (D.countedD_same j b).1 (D.countedD_same j b).2
  unfold Dev.step
  split
  · next h1 =>
    unfold Dev.store
    split
    · refine ⟨(hc _).pers, fun l x hx => ?_⟩
      have hx' : x ∈ (if l = e.2.1 / 64 then (D.countedD j (D.wordB e.2.1)).hist l ++ [(e.2.1, e.2.2)] else (D.countedD j (D.wordB e.2.1)).hist l) := hx
      split at hx'
      · rcases List.mem_append.1 hx' with h2 | h2
        · exact (hc _).hist l x h2
        · simp at h2; subst h2; exact he h1
      · exact (hc _).hist l x hx'
    · exact hc _
  · split
    · unfold Dev.flush
      split
      · exact (hc _).same rfl rfl
      · exact hc _
    · unfold Dev.fence
      split
      · refine ⟨fun i => look_bd _ _ _ ((hc _).pers i) (fun x hx => (hc _).hist _ x (List.mem_of_mem_take hx)), fun l x hx => (hc _).hist l x (List.mem_of_mem_drop hx)⟩
      · exact hc _
def valP (p : List (Nat × Nat × Int)) : Prop := ∀ e ∈ p, e.1 = 1 → 0 ≤ e.2.2 ∧ e.2.2 < 18446744073709551616
theorem Dev.VB.run (p : List (Nat × Nat × Int)) : ∀ {D : Dev}, D.VB → ∀ j, valP p → (D.run j p).VB := by
  induction p with
  | nil => intro D h _ _; exact h
  | cons e p ih => intro D h j hp; exact ih (h.step j e (hp e (by simp))) j (fun x hx => hp x (by simp [hx]))
/-- The persisted words are C; the stores ws have not been fenced. -/
structure Hst (D : Dev) (C : Nat → Int) (ws : List (Nat × Int)) : Prop where
  pers : ∀ i, D.pers i = C i
  hist : ∀ l, D.hist l = ws.filter fun e => e.1 / 64 == l
theorem Hst.cur {D : Dev} {C : Nat → Int} {ws : List (Nat × Int)} (h : Hst D C ws) (i : Nat) : D.cur i = look ws (C i) i := by
  unfold Dev.cur; rw [h.pers, h.hist, look_line]
/-- A word of a crash image is the persisted one or one of those that were stored. -/
theorem Hst.img {D : Dev} {C : Nat → Int} {ws : List (Nat × Int)} (h : Hst D C ws) (ks : Nat → Nat) (i : Nat) : D.img ks i = C i ∨ ∃ e ∈ ws, e.1 / 8 = i ∧ D.img ks i = e.2 := by
  unfold Dev.img
  rw [h.pers, h.hist]
  rcases look_may ((ws.filter fun e => e.1 / 64 == i / 8).take (ks (i / 8))) (C i) i with h1 | ⟨e, he, h2, h3⟩
  · exact .inl h1
  · exact .inr ⟨e, (List.mem_filter.1 (List.mem_of_mem_take he)).1, h2, h3⟩
theorem Hst.clean {D : Dev} {C : Nat → Int} (h : Hst D C []) (ks : Nat → Nat) (i : Nat) : D.img ks i = C i := by
  rcases h.img ks i with h | ⟨e, he, _⟩
  · exact h
  · simp at he
/-- A device that is on; thread j has no error. -/
structure OnJ (D : Dev) (j n : Nat) : Prop where
  n : D.n = n
  off : D.off = false
  err : D.err j = 0
/-- Within a group: ws is stored, the lines of fs are flushed. -/
structure Grp (D : Dev) (j n : Nat) (C : Nat → Int) (ws : List (Nat × Int)) (fs : List Nat) : Prop where
  on : OnJ D j n
  hst : Hst D C ws
  yes : ∀ o ∈ fs, D.note j (o / 64) = some (D.done (o / 64) + (D.hist (o / 64)).length)
  no : ∀ l, (∀ o ∈ fs, o / 64 ≠ l) → D.note j l = none
/-- So many instructions are left before the power fails. -/
def Dev.may (D : Dev) (k : Nat) : Prop := D.armed = false ∨ k ≤ D.left
theorem Dev.may.mono {D : Dev} {k m : Nat} (h : D.may m) (hk : k ≤ m) : D.may k := h.imp id (fun h => Nat.le_trans hk h)
section
variable {D : Dev} {j n : Nat} {C : Nat → Int} {ws : List (Nat × Int)} {fs : List Nat}
theorem counted_on (h : OnJ D j n) {k : Nat} (hm : D.may (k + 1)) : D.countedB true = true ∧ D.countedD j true = D.tick ∧ D.tick.may k ∧ OnJ D.tick j n := by
  have hc : D.cut = false := by
    unfold Dev.cut
    rcases hm with h1 | h1
    · simp [h1]
    · have : (D.left == 0) = false := by simp; omega
      simp [this]
  refine ⟨by simp [Dev.countedB, Dev.onB, h.off, hc], by simp [Dev.countedD, Dev.onB, h.off, hc], ?_, ⟨h.n, h.off, h.err⟩⟩
  rcases hm with h1 | h1
  · exact .inl h1
  · unfold Dev.may Dev.tick
    by_cases ha : D.armed = true
    · right; simp only [ha, if_true]; omega
    · left; simpa using ha
theorem Grp.tick (h : Grp D j n C ws fs) : Grp D.tick j n C ws fs := ⟨⟨h.on.n, h.on.off, h.on.err⟩, ⟨h.hst.pers, h.hst.hist⟩, h.yes, h.no⟩
theorem Grp.store (h : Grp D j n C ws []) {k : Nat} (hm : D.may (k + 1)) (off : Nat) (x : Int) (h8 : off % 8 = 0) (hl : off < 64 * n) : Grp (D.store j off x) j n C (ws ++ [(off, x)]) [] ∧ (D.store j off x).may k := by
  obtain ⟨h1, h2, h3, h4⟩ := counted_on h.on hm
  have hw : D.wordB off = true := by simp [Dev.wordB, h.on.n, h8, hl]
  have e : D.store j off x = D.tick.put off x := by unfold Dev.store; rw [hw, h1, h2]; rfl
  have t := h.tick
  rw [e]
  refine ⟨⟨⟨t.on.n, t.on.off, t.on.err⟩, ⟨t.hst.pers, fun l => ?_⟩, fun o ho => by simp at ho, t.no⟩, h3⟩
  show (if l = off / 64 then D.tick.hist l ++ [(off, x)] else D.tick.hist l) = _
  rw [List.filter_append, t.hst.hist]
  by_cases e : l = off / 64
  · rw [if_pos e]; subst e; simp
  · rw [if_neg e, List.filter_cons_of_neg (by simp; omega)]; simp
theorem Grp.flush (h : Grp D j n C ws fs) {k : Nat} (hm : D.may (k + 1)) (off : Nat) (hl : off < 64 * n) : Grp (D.flush j off) j n C ws (fs ++ [off]) ∧ (D.flush j off).may k := by
  obtain ⟨h1, h2, h3, h4⟩ := counted_on h.on hm
  have hw : D.inB off = true := by simp [Dev.inB, h.on.n, hl]
  have e : D.flush j off = D.tick.jot j (off / 64) := by unfold Dev.flush; rw [hw, h1, h2]; rfl
  have t := h.tick
  rw [e]
  refine ⟨⟨⟨t.on.n, t.on.off, t.on.err⟩, ⟨t.hst.pers, t.hst.hist⟩, fun o ho => ?_, fun l hl => ?_⟩, h3⟩
  · show (if j = j ∧ o / 64 = off / 64 then some (D.tick.done (off / 64) + (D.tick.hist (off / 64)).length) else D.tick.note j (o / 64)) = _
    by_cases e : o / 64 = off / 64
    · rw [if_pos ⟨rfl, e⟩, e]; rfl
    · rw [if_neg (fun h => e h.2)]
      rcases List.mem_append.1 ho with h' | h'
      · exact t.yes o h'
      · simp at h'; subst h'; exact absurd rfl e
  · show (if j = j ∧ l = off / 64 then some (D.tick.done (off / 64) + (D.tick.hist (off / 64)).length) else D.tick.note j l) = _
    rw [if_neg (fun h => hl off (by simp) h.2.symm)]
    exact t.no l (fun o ho => hl o (by simp [ho]))
theorem Grp.fence (h : Grp D j n C ws fs) {k : Nat} (hm : D.may (k + 1)) (hc : ∀ e ∈ ws, ∃ o ∈ fs, o / 64 = e.1 / 64) : Grp (D.fence j) j n (fun i => look ws (C i) i) [] [] ∧ (D.fence j).may k := by
  obtain ⟨h1, h2, h3, h4⟩ := counted_on h.on hm
  have e : D.fence j = D.tick.sync j := by unfold Dev.fence; rw [h1, h2]; rfl
  have t := h.tick
  have howed : ∀ l, D.tick.owed j l = (D.tick.hist l).length := fun l => by
    unfold Dev.owed
    by_cases hf : ∃ o ∈ fs, o / 64 = l
    · obtain ⟨o, ho, rfl⟩ := hf
      rw [t.yes o ho]; simp
    · have hf' : ∀ o ∈ fs, o / 64 ≠ l := fun o ho e => hf ⟨o, ho, e⟩
      rw [t.no l hf', t.hst.hist]
      have : ws.filter (fun e => e.1 / 64 == l) = [] := List.filter_eq_nil_iff.2 (fun e he => by
        obtain ⟨o, ho, e2⟩ := hc e he
        have := hf' o ho
        simp; omega)
      rw [this]; rfl
  rw [e]
  refine ⟨⟨⟨t.on.n, t.on.off, t.on.err⟩, ⟨fun i => ?_, fun l => ?_⟩, fun o ho => by simp at ho, fun l _ => ?_⟩, h3⟩
  · show look ((D.tick.hist (i / 8)).take (D.tick.owed j (i / 8))) (D.tick.pers i) i = _
    rw [howed, List.take_length, t.hst.pers, t.hst.hist, look_line]
  · show (D.tick.hist l).drop (D.tick.owed j l) = _
    rw [howed, List.drop_length]; rfl
  · show (if j = j then none else D.tick.note j l) = none
    simp

/-- A group: stores, flushes of their lines (and perhaps of others), a fence. -/
def groupP (g : List (Nat × Int) × List Nat) : List (Nat × Nat × Int) := (g.1.map fun e => (1, e.1, e.2)) ++ (g.2.map fun o => (2, o, 0)) ++ [(3, 0, 0)]
def groupOk (n : Nat) (g : List (Nat × Int) × List Nat) : Prop := (∀ e ∈ g.1, e.1 % 8 = 0 ∧ e.1 < 64 * n ∧ ∃ o ∈ g.2, o / 64 = e.1 / 64) ∧ ∀ o ∈ g.2, o < 64 * n
def groupsP (gs : List (List (Nat × Int) × List Nat)) : List (Nat × Nat × Int) := gs.flatMap groupP
/-- The words behind whole groups. -/
def laidG (C : Nat → Int) (gs : List (List (Nat × Int) × List Nat)) : Nat → Int := gs.foldl (fun C g i => look g.1 (C i) i) C
theorem laidG_nil (C : Nat → Int) : laidG C [] = C := rfl
theorem laidG_cons (C : Nat → Int) (g : List (Nat × Int) × List Nat) (gs : List (List (Nat × Int) × List Nat)) : laidG C (g :: gs) = laidG (fun i => look g.1 (C i) i) gs := rfl
theorem groupP_length (g : List (Nat × Int) × List Nat) : (groupP g).length = g.1.length + g.2.length + 1 := by simp [groupP]; omega
theorem run_stores (l : List (Nat × Int)) : ∀ {D : Dev} {ws : List (Nat × Int)} {k : Nat}, Grp D j n C ws [] → D.may (l.length + k) → (∀ e ∈ l, e.1 % 8 = 0 ∧ e.1 < 64 * n) →
    Grp (D.run j (l.map fun e => (1, e.1, e.2))) j n C (ws ++ l) [] ∧ (D.run j (l.map fun e => (1, e.1, e.2))).may k := by
  induction l with
  | nil => intro D ws k h hm _; exact ⟨by simpa [Dev.run] using h, by simpa [Dev.run] using hm⟩
  | cons e l ih =>
    intro D ws k h hm hl
    obtain ⟨h1, h2⟩ := h.store (k := l.length + k) (by simp at hm; exact hm.mono (by omega)) e.1 e.2 (hl e (by simp)).1 (hl e (by simp)).2
    have := ih h1 h2 (fun x hx => hl x (by simp [hx]))
    simp only [List.append_assoc, List.singleton_append] at this
    exact this
theorem run_flushes (l : List Nat) : ∀ {D : Dev} {fs : List Nat} {k : Nat}, Grp D j n C ws fs → D.may (l.length + k) → (∀ o ∈ l, o < 64 * n) →
    Grp (D.run j (l.map fun o => (2, o, 0))) j n C ws (fs ++ l) ∧ (D.run j (l.map fun o => (2, o, 0))).may k := by
  induction l with
  | nil => intro D fs k h hm _; exact ⟨by simpa [Dev.run] using h, by simpa [Dev.run] using hm⟩
  | cons e l ih =>
    intro D fs k h hm hl
    obtain ⟨h1, h2⟩ := h.flush (k := l.length + k) (by simp at hm; exact hm.mono (by omega)) e (hl e (by simp))
    have := ih h1 h2 (fun x hx => hl x (by simp [hx]))
    simp only [List.append_assoc, List.singleton_append] at this
    exact this
/-- A part of a group. -/
theorem run_part (g : List (Nat × Int) × List Nat) (h : Grp D j n C [] []) (hg : groupOk n g) (k : Nat) (hk : k < (groupP g).length) (hm : D.may k) :
    ∃ ws fs, ws <+: g.1 ∧ Grp (D.run j ((groupP g).take k)) j n C ws fs := by
  rw [groupP_length] at hk
  have hs : ∀ e ∈ g.1, e.1 % 8 = 0 ∧ e.1 < 64 * n := fun e he => ⟨(hg.1 e he).1, (hg.1 e he).2.1⟩
  by_cases h1 : k ≤ g.1.length
  · have e : (groupP g).take k = (g.1.take k).map fun e => (1, e.1, e.2) := by
      unfold groupP
      rw [List.append_assoc, List.take_append_of_le_length (by simpa using h1), List.map_take]
    have hl : (g.1.take k).length = k := by rw [List.length_take]; omega
    obtain ⟨h2, _⟩ := run_stores (k := 0) (g.1.take k) h (by rw [hl]; exact hm) (fun e he => hs e (List.mem_of_mem_take he))
    rw [e]
    exact ⟨g.1.take k, [], List.take_prefix _ _, by simpa using h2⟩
  · have e : (groupP g).take k = (g.1.map fun e => (1, e.1, e.2)) ++ (g.2.take (k - g.1.length)).map fun o => (2, o, 0) := by
      unfold groupP
      rw [List.append_assoc, List.take_append, List.take_of_length_le (by simp; omega), List.length_map, List.take_append_of_le_length (by simp; omega), List.map_take]
    obtain ⟨h2, h3⟩ := run_stores (k := k - g.1.length) g.1 h (hm.mono (by omega)) hs
    have hl : (g.2.take (k - g.1.length)).length = k - g.1.length := by rw [List.length_take]; omega
    obtain ⟨h4, _⟩ := run_flushes (k := 0) (g.2.take (k - g.1.length)) h2 (by rw [hl]; exact h3) (fun o ho => hg.2 o (List.mem_of_mem_take ho))
    rw [e, Dev.run_append]
    exact ⟨g.1, _, List.prefix_refl _, by simpa using h4⟩
/-- A whole group. -/
theorem run_whole (g : List (Nat × Int) × List Nat) (h : Grp D j n C [] []) (hg : groupOk n g) (k : Nat) (hm : D.may ((groupP g).length + k)) :
    Grp (D.run j (groupP g)) j n (fun i => look g.1 (C i) i) [] [] ∧ (D.run j (groupP g)).may k := by
  rw [groupP_length] at hm
  obtain ⟨h2, h3⟩ := run_stores (k := g.2.length + 1 + k) g.1 h (hm.mono (by omega)) (fun e he => ⟨(hg.1 e he).1, (hg.1 e he).2.1⟩)
  obtain ⟨h4, h5⟩ := run_flushes (k := 1 + k) g.2 h2 (h3.mono (by omega)) hg.2
  obtain ⟨h6, h7⟩ := h4.fence (k := k) (h5.mono (by omega)) (fun e he => by
    obtain ⟨o, ho, e2⟩ := (hg.1 e (by simpa using he)).2.2
    exact ⟨o, by simpa using ho, e2⟩)
  have e : D.run j (groupP g) = ((D.run j (g.1.map fun e => (1, e.1, e.2))).run j (g.2.map fun o => (2, o, 0))).fence j := by
    unfold groupP
    rw [Dev.run_snoc, Dev.run_append]; rfl
  rw [e]
  exact ⟨by simpa using h6, h7⟩
/-- How far a program of groups has come: a groups are whole, of the next one the stores ws. -/
structure Far (D : Dev) (j n : Nat) (C : Nat → Int) (gs : List (List (Nat × Int) × List Nat)) (a : Nat) (ws : List (Nat × Int)) : Prop where
  le : a ≤ gs.length
  pre : ∃ t, (gs[a]?.map (·.1)).getD [] = ws ++ t
  grp : ∃ fs, Grp D j n (laidG C (gs.take a)) ws fs
theorem run_far (gs : List (List (Nat × Int) × List Nat)) : ∀ {D : Dev} {C : Nat → Int} (k : Nat), Grp D j n C [] [] → (∀ g ∈ gs, groupOk n g) → k ≤ (groupsP gs).length → D.may k → ∃ a ws, Far (D.run j ((groupsP gs).take k)) j n C gs a ws ∧
    (k = (groupsP gs).length → a = gs.length ∧ ws = [] ∧ Grp (D.run j ((groupsP gs).take k)) j n (laidG C gs) [] []) := by
  induction gs with
  | nil =>
    intro D C k h _ hk _
    have : k = 0 := by simpa [groupsP] using hk
    subst this
    exact ⟨0, [], ⟨Nat.le_refl _, ⟨[], rfl⟩, ⟨[], h⟩⟩, fun _ => ⟨rfl, rfl, h⟩⟩
  | cons g gs ih =>
    intro D C k h hg hk hm
    have hgl : groupsP (g :: gs) = groupP g ++ groupsP gs := by simp [groupsP]
    rw [hgl] at hk ⊢
    rw [List.length_append] at hk
    by_cases h1 : k < (groupP g).length
    · rw [List.take_append_of_le_length (by omega)]
      obtain ⟨ws, fs, ⟨t, ht⟩, hG⟩ := run_part g h (hg g (by simp)) k h1 hm
      exact ⟨0, ws, ⟨Nat.zero_le _, ⟨t, by simp [ht]⟩, ⟨fs, hG⟩⟩, fun e => by rw [List.length_append] at e; omega⟩
    · rw [List.take_append, List.take_of_length_le (by omega), Dev.run_append]
      obtain ⟨h2, h3⟩ := run_whole g h (hg g (by simp)) (k - (groupP g).length) (hm.mono (by omega))
      obtain ⟨a, ws, hF, hE⟩ := ih (k - (groupP g).length) h2 (fun x hx => hg x (by simp [hx])) (by omega) h3
      refine ⟨a + 1, ws, ⟨by have := hF.le; simp; omega, by simpa using hF.pre, ?_⟩, fun e => ?_⟩
      · obtain ⟨fs, hG⟩ := hF.grp
        exact ⟨fs, by simpa [laidG_cons] using hG⟩
      · obtain ⟨e1, e2, e3⟩ := hE (by rw [List.length_append] at e; omega)
        exact ⟨by simp [e1], e2, by rw [laidG_cons]; exact e3⟩

/-- Instructions that are valid on n lines. -/
def okP (n : Nat) (p : List (Nat × Nat × Int)) : Prop := ∀ e ∈ p, (e.1 = 1 ∧ e.2.1 % 8 = 0 ∧ e.2.1 < 64 * n) ∨ (e.1 = 2 ∧ e.2.1 < 64 * n) ∨ e.1 = 3
theorem okP_groups {gs : List (List (Nat × Int) × List Nat)} (h : ∀ g ∈ gs, groupOk n g) : okP n (groupsP gs) := by
  intro e he
  obtain ⟨g, hg, he⟩ := List.mem_flatMap.1 he
  have hk := h g hg
  unfold groupP at he
  rcases List.mem_append.1 he with he | he
  · rcases List.mem_append.1 he with he | he
    · obtain ⟨x, hx, rfl⟩ := List.mem_map.1 he
      exact .inl ⟨rfl, (hk.1 x hx).1, (hk.1 x hx).2.1⟩
    · obtain ⟨x, hx, rfl⟩ := List.mem_map.1 he
      exact .inr (.inl ⟨rfl, hk.2 x hx⟩)
  · simp at he; subst he; exact .inr (.inr rfl)
/-- A valid instruction is one of three that count. -/
theorem step_valid (hn : D.n = n) {e : Nat × Nat × Int} (he : (e.1 = 1 ∧ e.2.1 % 8 = 0 ∧ e.2.1 < 64 * n) ∨ (e.1 = 2 ∧ e.2.1 < 64 * n) ∨ e.1 = 3) :
    D.step j e = if D.countedB true then (if e.1 = 1 then (D.countedD j true).put e.2.1 e.2.2 else if e.1 = 2 then (D.countedD j true).jot j (e.2.1 / 64) else (D.countedD j true).sync j) else D.countedD j true := by
  unfold Dev.step Dev.store Dev.flush Dev.fence
  rcases he with ⟨h1, h2, h3⟩ | ⟨h1, h3⟩ | h1
  · have hw : D.wordB e.2.1 = true := by simp [Dev.wordB, hn, h2, h3]
    simp [h1, hw]
  · have hw : D.inB e.2.1 = true := by simp [Dev.inB, hn, h3]
    simp [h1, hw]
  · simp [h1]
theorem step_left (h : OnJ D j n) {k : Nat} (hm : D.may (k + 1)) {e : Nat × Nat × Int} (he : (e.1 = 1 ∧ e.2.1 % 8 = 0 ∧ e.2.1 < 64 * n) ∨ (e.1 = 2 ∧ e.2.1 < 64 * n) ∨ e.1 = 3) :
    OnJ (D.step j e) j n ∧ (D.step j e).armed = D.armed ∧ (D.step j e).left = (if D.armed then D.left - 1 else D.left) := by
  obtain ⟨h1, h2, h3, h4⟩ := counted_on h hm
  rw [step_valid h.n he, h1, h2, if_pos rfl]
  split
  · exact ⟨⟨h.n, h.off, h.err⟩, rfl, rfl⟩
  · split
    · exact ⟨⟨h.n, h.off, h.err⟩, rfl, rfl⟩
    · exact ⟨⟨h.n, h.off, h.err⟩, rfl, rfl⟩
theorem run_left (p : List (Nat × Nat × Int)) : ∀ {D : Dev}, OnJ D j n → D.armed = true → p.length ≤ D.left → okP n p → OnJ (D.run j p) j n ∧ (D.run j p).armed = true ∧ (D.run j p).left = D.left - p.length := by
  induction p with
  | nil => intro D h ha _ _; exact ⟨h, ha, by simp [Dev.run]⟩
  | cons e p ih =>
    intro D h ha hl hp
    have hl' : p.length + 1 ≤ D.left := hl
    obtain ⟨h1, h2, h3⟩ := step_left h (k := 0) (.inr (by omega)) (hp e (by simp))
    rw [ha] at h2 h3
    rw [if_pos rfl] at h3
    obtain ⟨h4, h5, h6⟩ := ih h1 h2 (by omega) (fun x hx => hp x (by simp [hx]))
    refine ⟨h4, h5, ?_⟩
    show ((D.step j e).run j p).left = _
    rw [h6, h3]; simp; omega
/-- The power fails at this instruction. -/
theorem step_cut (h : OnJ D j n) (ha : D.armed = true) (hl : D.left = 0) {e : Nat × Nat × Int} (he : (e.1 = 1 ∧ e.2.1 % 8 = 0 ∧ e.2.1 < 64 * n) ∨ (e.1 = 2 ∧ e.2.1 < 64 * n) ∨ e.1 = 3) :
    D.step j e = ({ D with off := true } : Dev).setErr j 3 := by
  have hc : D.cut = true := by simp [Dev.cut, ha, hl]
  have hb : D.countedB true = false := by simp [Dev.countedB, hc]
  have hd : D.countedD j true = ({ D with off := true } : Dev).setErr j 3 := by
    simp [Dev.countedD, Dev.onB, h.off, hc, Dev.fail, h.err]
  rw [step_valid h.n he, hb, hd]; rfl
theorem step_off (hoff : D.off = true) (he3 : D.err j ≠ 0) (hn : D.n = n) {e : Nat × Nat × Int} (he : (e.1 = 1 ∧ e.2.1 % 8 = 0 ∧ e.2.1 < 64 * n) ∨ (e.1 = 2 ∧ e.2.1 < 64 * n) ∨ e.1 = 3) : D.step j e = D := by
  have hb : D.countedB true = false := by simp [Dev.countedB, Dev.onB, hoff]
  have hd : D.countedD j true = D := by simp [Dev.countedD, Dev.onB, hoff, Dev.onD, Dev.fail, he3]
  rw [step_valid hn he, hb, hd]; rfl
theorem run_off (p : List (Nat × Nat × Int)) (hoff : D.off = true) (he3 : D.err j ≠ 0) (hn : D.n = n) (hp : okP n p) : D.run j p = D := by
  induction p with
  | nil => rfl
  | cons e p ih =>
    show (D.step j e).run j p = D
    rw [step_off hoff he3 hn (hp e (by simp))]
    exact ih (fun x hx => hp x (by simp [hx]))
/-- What a program of groups leaves, wherever the power fails. -/
inductive Came (D D' : Dev) (j n : Nat) (C : Nat → Int) (gs : List (List (Nat × Int) × List Nat)) : Prop where
  | all (on : Grp D' j n (laidG C gs) [] []) (armed : D'.armed = D.armed) (left : D'.left = if D.armed then D.left - (groupsP gs).length else D.left) : Came D D' j n C gs
  | cut (off : D'.off = true) (err : D'.err j = 3) (hn : D'.n = n) (a : Nat) (ws : List (Nat × Int)) (le : a ≤ gs.length) (pre : ∃ t, (gs[a]?.map (·.1)).getD [] = ws ++ t) (hst : Hst D' (laidG C (gs.take a)) ws)
      (armed : D.armed = true) (left : D.left < (groupsP gs).length) : Came D D' j n C gs
theorem run_unarmed (p : List (Nat × Nat × Int)) : ∀ {D : Dev}, OnJ D j n → D.armed = false → okP n p → (D.run j p).armed = false ∧ (D.run j p).left = D.left := by
  induction p with
  | nil => intro D _ ha _; exact ⟨ha, rfl⟩
  | cons e p ih =>
    intro D h ha hp
    obtain ⟨h1, h2, h3⟩ := step_left h (k := 0) (.inl ha) (hp e (by simp))
    rw [ha] at h2 h3
    obtain ⟨h4, h5⟩ := ih h1 h2 (fun x hx => hp x (by simp [hx]))
    exact ⟨h4, h5.trans h3⟩
theorem run_came {gs : List (List (Nat × Int) × List Nat)} (h : Grp D j n C [] []) (hg : ∀ g ∈ gs, groupOk n g) : Came D (D.run j (groupsP gs)) j n C gs := by
  have hok := okP_groups hg
  by_cases hm : D.may (groupsP gs).length
  · obtain ⟨a, ws, _, hE⟩ := run_far gs (groupsP gs).length h hg (Nat.le_refl _) hm
    have := (hE rfl).2.2
    rw [List.take_length] at this
    rcases hm with h1 | h1
    · obtain ⟨h2, h3⟩ := run_unarmed _ h.on h1 hok
      exact .all this (by rw [h2, h1]) (by rw [h3, h1]; rfl)
    · by_cases ha : D.armed = true
      · obtain ⟨_, h2, h3⟩ := run_left _ h.on ha h1 hok
        exact .all this (by rw [h2, ha]) (by rw [h3, ha]; rfl)
      · have ha' : D.armed = false := by simpa using ha
        obtain ⟨h2, h3⟩ := run_unarmed _ h.on ha' hok
        exact .all this (by rw [h2, ha']) (by rw [h3, ha']; rfl)
  · have ha : D.armed = true := by
      cases e : D.armed
      · exact absurd (.inl e) hm
      · rfl
    have hl : D.left < (groupsP gs).length := Nat.lt_of_not_le (fun h => hm (.inr h))
    obtain ⟨a, ws, hF, _⟩ := run_far gs D.left h hg (by omega) (.inr (Nat.le_refl _))
    have htl : ((groupsP gs).take D.left).length = D.left := by rw [List.length_take]; omega
    obtain ⟨h1, h2, h3⟩ := run_left ((groupsP gs).take D.left) h.on ha (by omega) (fun e he => hok e (List.mem_of_mem_take he))
    obtain ⟨fs, hG⟩ := hF.grp
    generalize hD1 : D.run j ((groupsP gs).take D.left) = D1 at *
    obtain ⟨e, rest, hr⟩ : ∃ e rest, (groupsP gs).drop D.left = e :: rest := by
      cases hd : (groupsP gs).drop D.left with
      | nil => have := congrArg List.length hd; simp at this; omega
      | cons e rest => exact ⟨e, rest, rfl⟩
    have hmem : ∀ x ∈ e :: rest, (x.1 = 1 ∧ x.2.1 % 8 = 0 ∧ x.2.1 < 64 * n) ∨ (x.1 = 2 ∧ x.2.1 < 64 * n) ∨ x.1 = 3 := fun x hx => hok x (List.mem_of_mem_drop (by rw [hr]; exact hx))
    have hrun : D.run j (groupsP gs) = ({ D1 with off := true } : Dev).setErr j 3 := by
      rw [← List.take_append_drop D.left (groupsP gs), Dev.run_append, hD1, hr]
      show (D1.step j e).run j rest = _
      rw [step_cut h1 h2 (by rw [h3, htl]; omega) (hmem e (by simp))]
      exact run_off rest rfl (by simp [Dev.setErr]) h1.n (fun x hx => hmem x (by simp [hx]))
    rw [hrun]
    exact .cut rfl (by simp [Dev.setErr]) h1.n a ws hF.le hF.pre ⟨hG.hst.pers, hG.hst.hist⟩ ha hl
end
end Go.Proofs.YtahpadhejjlpoaaGreatDoor
