/- Programs on a device whose other lines may hold stores that are not persistent, plain: groups of stores, flushes and a fence; what the power leaves of them. No program in sight. -/
import Derived.Test.YtahpadhejjlpoaaGreatDoorDevP
namespace Go.Proofs.YtahpadhejjlpoaaGreatDoor
open Go.RowKit

abbrev PerH := (Nat → Int) × (Nat → List (Nat × Int))
def filtL (ws : List (Nat × Int)) (l : Nat) : List (Nat × Int) := ws.filter fun e => e.1 / 64 == l
theorem filtL_append (a b : List (Nat × Int)) (l : Nat) : filtL (a ++ b) l = filtL a l ++ filtL b l := by simp [filtL]
def hitB (fs : List Nat) (l : Nat) : Bool := fs.any fun o => o / 64 == l
theorem hitB_iff (fs : List Nat) (l : Nat) : hitB fs l = true ↔ ∃ o ∈ fs, o / 64 = l := by simp [hitB]
/-- Persistent words and pending stores behind one group more. -/
def nextX (s : PerH) (g : List (Nat × Int) × List Nat) : PerH :=
  (fun i => if hitB g.2 (i / 8) = true then look (s.2 (i / 8) ++ filtL g.1 (i / 8)) (s.1 i) i else s.1 i, fun l => if hitB g.2 l = true then [] else s.2 l ++ filtL g.1 l)
def laidX (s : PerH) (gs : List (List (Nat × Int) × List Nat)) : PerH := gs.foldl nextX s
def curX (s : PerH) (i : Nat) : Int := look (s.2 (i / 8)) (s.1 i) i
theorem look_filt (ws : List (Nat × Int)) (d : Int) (i : Nat) : look (filtL ws (i / 8)) d i = look ws d i := look_line ws d i
theorem curX_next (s : PerH) (g : List (Nat × Int) × List Nat) (i : Nat) : curX (nextX s g) i = look g.1 (curX s i) i := by
  unfold curX nextX
  simp only
  split
  · rw [look_nil, look_append, look_filt]
  · rw [look_append, look_filt]
theorem curX_laid (gs : List (List (Nat × Int) × List Nat)) : ∀ (s : PerH) (i : Nat), curX (laidX s gs) i = look (gs.flatMap (·.1)) (curX s i) i := by
  induction gs with
  | nil => intro s i; rfl
  | cons g gs ih =>
    intro s i
    show curX (laidX (nextX s g) gs) i = _
    rw [ih, curX_next, List.flatMap_cons, look_append]
/-- Within a group: ws is stored, the lines of fs are flushed. -/
structure GX (D : Dev) (j n : Nat) (s : PerH) (ws : List (Nat × Int)) (fs : List Nat) : Prop where
  on : OnJ D j n
  pers : ∀ i, D.pers i = s.1 i
  hist : ∀ l, D.hist l = s.2 l ++ filtL ws l
  yes : ∀ o ∈ fs, D.note j (o / 64) = some (D.done (o / 64) + (D.hist (o / 64)).length)
  no : ∀ l, (∀ o ∈ fs, o / 64 ≠ l) → D.note j l = none
section
variable {D : Dev} {j n : Nat} {s : PerH} {ws : List (Nat × Int)} {fs : List Nat}
theorem GX.tick (h : GX D j n s ws fs) : GX D.tick j n s ws fs := ⟨⟨h.on.n, h.on.off, h.on.err⟩, h.pers, h.hist, h.yes, h.no⟩
theorem GX.store (h : GX D j n s ws []) {k : Nat} (hm : D.may (k + 1)) (off : Nat) (x : Int) (h8 : off % 8 = 0) (hl : off < 64 * n) : GX (D.store j off x) j n s (ws ++ [(off, x)]) [] ∧ (D.store j off x).may k := by
  obtain ⟨h1, h2, h3, h4⟩ := counted_on h.on hm
  have hw : D.wordB off = true := by simp [Dev.wordB, h.on.n, h8, hl]
  have e : D.store j off x = D.tick.put off x := by unfold Dev.store; rw [hw, h1, h2]; rfl
  have t := h.tick
  rw [e]
  refine ⟨⟨⟨t.on.n, t.on.off, t.on.err⟩, t.pers, fun l => ?_, fun o ho => by simp at ho, t.no⟩, h3⟩
  show (if l = off / 64 then D.tick.hist l ++ [(off, x)] else D.tick.hist l) = _
  rw [filtL_append, t.hist]
  by_cases e : l = off / 64
  · rw [if_pos e]; subst e; simp [filtL]
  · rw [if_neg e]
    have : filtL [(off, x)] l = [] := by simp [filtL]; omega
    rw [this, List.append_nil]
theorem GX.flush (h : GX D j n s ws fs) {k : Nat} (hm : D.may (k + 1)) (off : Nat) (hl : off < 64 * n) : GX (D.flush j off) j n s ws (fs ++ [off]) ∧ (D.flush j off).may k := by
  obtain ⟨h1, h2, h3, h4⟩ := counted_on h.on hm
  have hw : D.inB off = true := by simp [Dev.inB, h.on.n, hl]
  have e : D.flush j off = D.tick.jot j (off / 64) := by unfold Dev.flush; rw [hw, h1, h2]; rfl
  have t := h.tick
  rw [e]
  refine ⟨⟨⟨t.on.n, t.on.off, t.on.err⟩, t.pers, t.hist, fun o ho => ?_, fun l hl => ?_⟩, h3⟩
  · show (if j = j ∧ o / 64 = off / 64 then some (D.tick.done (off / 64) + (D.tick.hist (off / 64)).length) else D.tick.note j (o / 64)) = _
    by_cases e : o / 64 = off / 64
    · rw [if_pos ⟨rfl, e⟩, e]; rfl
    · rw [if_neg (fun h => e h.2)]
      rcases List.mem_append.1 ho with h' | h'
      · exact t.yes o h'
      · simp at h'; subst h'; exact absurd rfl e
  · show (if j = j ∧ l = off / 64 then some (D.tick.done (off / 64) + (D.tick.hist (off / 64)).length) else D.tick.note j l) = _
    rw [if_neg (fun h => hl off (by simp) h.2.symm)]
    exact t.no l (fun o ho => hl o (by simp [ho]))
theorem GX.fence (h : GX D j n s ws fs) {k : Nat} (hm : D.may (k + 1)) : GX (D.fence j) j n (nextX s (ws, fs)) [] [] ∧ (D.fence j).may k := by
  obtain ⟨h1, h2, h3, h4⟩ := counted_on h.on hm
  have e : D.fence j = D.tick.sync j := by unfold Dev.fence; rw [h1, h2]; rfl
  have t := h.tick
  have howed : ∀ l, D.tick.owed j l = if hitB fs l = true then (D.tick.hist l).length else 0 := fun l => by
    unfold Dev.owed
    by_cases hf : ∃ o ∈ fs, o / 64 = l
    · rw [if_pos ((hitB_iff fs l).2 hf)]
      obtain ⟨o, ho, rfl⟩ := hf
      rw [t.yes o ho]; simp
    · rw [if_neg (fun h => hf ((hitB_iff fs l).1 h)), t.no l (fun o ho e => hf ⟨o, ho, e⟩)]
  rw [e]
  refine ⟨⟨⟨t.on.n, t.on.off, t.on.err⟩, fun i => ?_, fun l => ?_, fun o ho => by simp at ho, fun l _ => ?_⟩, h3⟩
  · show look ((D.tick.hist (i / 8)).take (D.tick.owed j (i / 8))) (D.tick.pers i) i = (if hitB fs (i / 8) = true then look (s.2 (i / 8) ++ filtL ws (i / 8)) (s.1 i) i else s.1 i)
    rw [howed, t.pers]
    split
    · rw [List.take_length, t.hist]
    · rw [List.take_zero]; rfl
  · show (D.tick.hist l).drop (D.tick.owed j l) = (if hitB fs l = true then [] else s.2 l ++ filtL ws l) ++ []
    rw [howed, List.append_nil]
    split
    · rw [List.drop_length]
    · rw [List.drop_zero, t.hist]
  · show (if j = j then none else D.tick.note j l) = none
    simp
theorem runX_stores (l : List (Nat × Int)) : ∀ {D : Dev} {ws : List (Nat × Int)} {k : Nat}, GX D j n s ws [] → D.may (l.length + k) → (∀ e ∈ l, e.1 % 8 = 0 ∧ e.1 < 64 * n) →
    GX (D.run j (l.map fun e => (1, e.1, e.2))) j n s (ws ++ l) [] ∧ (D.run j (l.map fun e => (1, e.1, e.2))).may k := by
  induction l with
  | nil => intro D ws k h hm _; exact ⟨by simpa [Dev.run] using h, by simpa [Dev.run] using hm⟩
  | cons e l ih =>
    intro D ws k h hm hl
    obtain ⟨h1, h2⟩ := h.store (k := l.length + k) (by simp at hm; exact hm.mono (by omega)) e.1 e.2 (hl e (by simp)).1 (hl e (by simp)).2
    have := ih h1 h2 (fun x hx => hl x (by simp [hx]))
    simp only [List.append_assoc, List.singleton_append] at this
    exact this
theorem runX_flushes (l : List Nat) : ∀ {D : Dev} {fs : List Nat} {k : Nat}, GX D j n s ws fs → D.may (l.length + k) → (∀ o ∈ l, o < 64 * n) →
    GX (D.run j (l.map fun o => (2, o, 0))) j n s ws (fs ++ l) ∧ (D.run j (l.map fun o => (2, o, 0))).may k := by
  induction l with
  | nil => intro D fs k h hm _; exact ⟨by simpa [Dev.run] using h, by simpa [Dev.run] using hm⟩
  | cons e l ih =>
    intro D fs k h hm hl
    obtain ⟨h1, h2⟩ := h.flush (k := l.length + k) (by simp at hm; exact hm.mono (by omega)) e (hl e (by simp))
    have := ih h1 h2 (fun x hx => hl x (by simp [hx]))
    simp only [List.append_assoc, List.singleton_append] at this
    exact this
def groupOkX (n : Nat) (g : List (Nat × Int) × List Nat) : Prop := (∀ e ∈ g.1, e.1 % 8 = 0 ∧ e.1 < 64 * n) ∧ ∀ o ∈ g.2, o < 64 * n
theorem runX_part (g : List (Nat × Int) × List Nat) (h : GX D j n s [] []) (hg : groupOkX n g) (k : Nat) (hk : k < (groupP g).length) (hm : D.may k) :
    ∃ ws fs, ws <+: g.1 ∧ GX (D.run j ((groupP g).take k)) j n s ws fs := by
  rw [groupP_length] at hk
  have hs := hg.1
  by_cases h1 : k ≤ g.1.length
  · have e : (groupP g).take k = (g.1.take k).map fun e => (1, e.1, e.2) := by
      unfold groupP
      rw [List.append_assoc, List.take_append_of_le_length (by simpa using h1), List.map_take]
    have hl : (g.1.take k).length = k := by rw [List.length_take]; omega
    obtain ⟨h2, _⟩ := runX_stores (k := 0) (g.1.take k) h (by rw [hl]; exact hm) (fun e he => hs e (List.mem_of_mem_take he))
    rw [e]
    exact ⟨g.1.take k, [], List.take_prefix _ _, by simpa using h2⟩
  · have e : (groupP g).take k = (g.1.map fun e => (1, e.1, e.2)) ++ (g.2.take (k - g.1.length)).map fun o => (2, o, 0) := by
      unfold groupP
      rw [List.append_assoc, List.take_append, List.take_of_length_le (by simp; omega), List.length_map, List.take_append_of_le_length (by simp; omega), List.map_take]
    obtain ⟨h2, h3⟩ := runX_stores (k := k - g.1.length) g.1 h (hm.mono (by omega)) hs
    have hl : (g.2.take (k - g.1.length)).length = k - g.1.length := by rw [List.length_take]; omega
    obtain ⟨h4, _⟩ := runX_flushes (k := 0) (g.2.take (k - g.1.length)) h2 (by rw [hl]; exact h3) (fun o ho => hg.2 o (List.mem_of_mem_take ho))
    rw [e, Dev.run_append]
    exact ⟨g.1, _, List.prefix_refl _, by simpa using h4⟩
theorem runX_whole (g : List (Nat × Int) × List Nat) (h : GX D j n s [] []) (hg : groupOkX n g) (k : Nat) (hm : D.may ((groupP g).length + k)) :
    GX (D.run j (groupP g)) j n (nextX s g) [] [] ∧ (D.run j (groupP g)).may k := by
  rw [groupP_length] at hm
  obtain ⟨h2, h3⟩ := runX_stores (k := g.2.length + 1 + k) g.1 h (hm.mono (by omega)) hg.1
  obtain ⟨h4, h5⟩ := runX_flushes (k := 1 + k) g.2 h2 (h3.mono (by omega)) hg.2
  obtain ⟨h6, h7⟩ := h4.fence (k := k) (h5.mono (by omega))
  have e : D.run j (groupP g) = ((D.run j (g.1.map fun e => (1, e.1, e.2))).run j (g.2.map fun o => (2, o, 0))).fence j := by
    unfold groupP
    rw [Dev.run_snoc, Dev.run_append]; rfl
  rw [e]
  exact ⟨by simpa using h6, h7⟩
/-- How far a program of groups has come. -/
structure FarX (D : Dev) (j n : Nat) (s : PerH) (gs : List (List (Nat × Int) × List Nat)) (a : Nat) (ws : List (Nat × Int)) : Prop where
  le : a ≤ gs.length
  pre : ∃ t, (gs[a]?.map (·.1)).getD [] = ws ++ t
  grp : ∃ fs, GX D j n (laidX s (gs.take a)) ws fs
theorem runX_far (gs : List (List (Nat × Int) × List Nat)) : ∀ {D : Dev} {s : PerH} (k : Nat), GX D j n s [] [] → (∀ g ∈ gs, groupOkX n g) → k ≤ (groupsP gs).length → D.may k → ∃ a ws, FarX (D.run j ((groupsP gs).take k)) j n s gs a ws ∧
    (k = (groupsP gs).length → a = gs.length ∧ ws = [] ∧ GX (D.run j ((groupsP gs).take k)) j n (laidX s gs) [] []) := by
  induction gs with
  | nil =>
    intro D s k h _ hk _
    have : k = 0 := by simpa [groupsP] using hk
    subst this
    exact ⟨0, [], ⟨Nat.le_refl _, ⟨[], rfl⟩, ⟨[], h⟩⟩, fun _ => ⟨rfl, rfl, h⟩⟩
  | cons g gs ih =>
    intro D s k h hg hk hm
    have hgl : groupsP (g :: gs) = groupP g ++ groupsP gs := by simp [groupsP]
    rw [hgl] at hk ⊢
    rw [List.length_append] at hk
    by_cases h1 : k < (groupP g).length
    · rw [List.take_append_of_le_length (by omega)]
      obtain ⟨ws, fs, ⟨t, ht⟩, hG⟩ := runX_part g h (hg g (by simp)) k h1 hm
      exact ⟨0, ws, ⟨Nat.zero_le _, ⟨t, by simp [ht]⟩, ⟨fs, hG⟩⟩, fun e => by rw [List.length_append] at e; omega⟩
    · rw [List.take_append, List.take_of_length_le (by omega), Dev.run_append]
      obtain ⟨h2, h3⟩ := runX_whole g h (hg g (by simp)) (k - (groupP g).length) (hm.mono (by omega))
      obtain ⟨a, ws, hF, hE⟩ := ih (k - (groupP g).length) h2 (fun x hx => hg x (by simp [hx])) (by omega) h3
      refine ⟨a + 1, ws, ⟨by have := hF.le; simp; omega, by simpa using hF.pre, ?_⟩, fun e => ?_⟩
      · obtain ⟨fs, hG⟩ := hF.grp
        exact ⟨fs, by simpa [laidX] using hG⟩
      · obtain ⟨e1, e2, e3⟩ := hE (by rw [List.length_append] at e; omega)
        exact ⟨by simp [e1], e2, e3⟩
theorem okP_groupsX {gs : List (List (Nat × Int) × List Nat)} (h : ∀ g ∈ gs, groupOkX n g) : okP n (groupsP gs) := by
  intro e he
  obtain ⟨g, hg, he⟩ := List.mem_flatMap.1 he
  have hk := h g hg
  unfold groupP at he
  rcases List.mem_append.1 he with h1 | h1
  · rcases List.mem_append.1 h1 with h2 | h2
    · obtain ⟨x, hx, rfl⟩ := List.mem_map.1 h2; exact .inl ⟨rfl, hk.1 x hx⟩
    · obtain ⟨x, hx, rfl⟩ := List.mem_map.1 h2; exact .inr (.inl ⟨rfl, hk.2 x hx⟩)
  · simp at h1; subst h1; exact .inr (.inr rfl)
/-- What a program of groups leaves, wherever the power fails. -/
inductive CameX (D D' : Dev) (j n : Nat) (s : PerH) (gs : List (List (Nat × Int) × List Nat)) : Prop where
  | all (on : GX D' j n (laidX s gs) [] []) (armed : D'.armed = D.armed) (left : D'.left = if D.armed then D.left - (groupsP gs).length else D.left) : CameX D D' j n s gs
  | cut (off : D'.off = true) (err : D'.err j = 3) (hn : D'.n = n) (a : Nat) (ws : List (Nat × Int)) (le : a ≤ gs.length) (pre : ∃ t, (gs[a]?.map (·.1)).getD [] = ws ++ t)
      (pers : ∀ i, D'.pers i = (laidX s (gs.take a)).1 i) (hist : ∀ l, D'.hist l = (laidX s (gs.take a)).2 l ++ filtL ws l) (armed : D.armed = true) (left : D.left < (groupsP gs).length) : CameX D D' j n s gs
theorem runX_came {gs : List (List (Nat × Int) × List Nat)} (h : GX D j n s [] []) (hg : ∀ g ∈ gs, groupOkX n g) : CameX D (D.run j (groupsP gs)) j n s gs := by
  have hok := okP_groupsX hg
  by_cases hm : D.may (groupsP gs).length
  · obtain ⟨a, ws, _, hE⟩ := runX_far gs (groupsP gs).length h hg (Nat.le_refl _) hm
    have := (hE rfl).2.2
    rw [List.take_length] at this
    rcases hm with h1 | h1
    · obtain ⟨h2, h3⟩ := run_unarmed _ h.on h1 hok
      exact .all this (by rw [h2, h1]) (by rw [h3, h1]; rfl)
    · by_cases ha : D.armed = true
      · obtain ⟨_, h2, h3⟩ := run_left _ h.on ha h1 hok
        exact .all this (by rw [h2, ha]) (by rw [h3, ha]; rfl)
      · have ha' : D.armed = false := by simpa using ha
        obtain ⟨h2, h3⟩ := run_unarmed _ h.on ha' hok
        exact .all this (by rw [h2, ha']) (by rw [h3, ha']; rfl)
  · have ha : D.armed = true := by
      cases e : D.armed
      · exact absurd (.inl e) hm
      · rfl
    have hl : D.left < (groupsP gs).length := Nat.lt_of_not_le (fun h => hm (.inr h))
    obtain ⟨a, ws, hF, _⟩ := runX_far gs D.left h hg (by omega) (.inr (Nat.le_refl _))
    have htl : ((groupsP gs).take D.left).length = D.left := by rw [List.length_take]; omega
    obtain ⟨h1, h2, h3⟩ := run_left ((groupsP gs).take D.left) h.on ha (by omega) (fun e he => hok e (List.mem_of_mem_take he))
    obtain ⟨fs, hG⟩ := hF.grp
    generalize hD1 : D.run j ((groupsP gs).take D.left) = D1 at *
    obtain ⟨e, rest, hr⟩ : ∃ e rest, (groupsP gs).drop D.left = e :: rest := by
      cases hd : (groupsP gs).drop D.left with
      | nil => have := congrArg List.length hd; simp at this; omega
      | cons e rest => exact ⟨e, rest, rfl⟩
    have hmem : ∀ x ∈ e :: rest, (x.1 = 1 ∧ x.2.1 % 8 = 0 ∧ x.2.1 < 64 * n) ∨ (x.1 = 2 ∧ x.2.1 < 64 * n) ∨ x.1 = 3 := fun x hx => hok x (List.mem_of_mem_drop (by rw [hr]; exact hx))
    have hrun : D.run j (groupsP gs) = ({ D1 with off := true } : Dev).setErr j 3 := by
      rw [← List.take_append_drop D.left (groupsP gs), Dev.run_append, hD1, hr]
      show (D1.step j e).run j rest = _
      rw [step_cut h1 h2 (by rw [h3, htl]; omega) (hmem e (by simp))]
      exact run_off rest rfl (by simp [Dev.setErr]) h1.n (fun x hx => hmem x (by simp [hx]))
    rw [hrun]
    exact .cut rfl (by simp [Dev.setErr]) h1.n a ws hF.le hF.pre hG.pers hG.hist ha hl
theorem GX.cur (h : GX D j n s [] []) (i : Nat) : D.cur i = curX s i := by
  unfold Dev.cur curX; rw [h.pers, h.hist]; simp [filtL]
end
end Go.Proofs.YtahpadhejjlpoaaGreatDoor
