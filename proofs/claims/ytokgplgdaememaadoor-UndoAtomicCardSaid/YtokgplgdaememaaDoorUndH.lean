/- Programs on a device whose other lines may hold stores that are not persistent, plain: groups of stores, flushes and a fence; what the power leaves of them. No program in sight. -/
import Derived.Test.YtokgplgdaememaaDoorDevP
import Derived.Test.YtokgplgdaememaaDoorUndX
import Derived.Test.YtokgplgdaememaaDoorUndRB
import Derived.Test.YtokgplgdaememaaDoorUndO
namespace Go.Proofs.YtokgplgdaememaaDoor
open Go.RowKit

abbrev PerH := (Nat → Int) × (Nat → List (Nat × Int))
def filtL (ws : List (Nat × Int)) (l : Nat) : List (Nat × Int) := ws.filter fun e => e.1 / 64 == l
theorem filtL_append (a b : List (Nat × Int)) (l : Nat) : filtL (a ++ b) l = filtL a l ++ filtL b l := by simp [filtL]
def hitB (fs : List Nat) (l : Nat) : Bool := fs.any fun o => o / 64 == l
theorem hitB_iff (fs : List Nat) (l : Nat) : hitB fs l = true ↔ ∃ o ∈ fs, o / 64 = l := by simp [hitB]
/-- Persistent words and pending stores behind one group more. -/
def nextX (s : PerH) (g : List (Nat × Int) × List Nat) : PerH :=
  (fun i => if hitB g.2 (i / 8) = true then look (s.2 (i / 8) ++ filtL g.1 (i / 8)) (s.1 i) i else s.1 i, fun l => if hitB g.2 l = true then [] else s.2 l ++ filtL g.1 l)
def laidX (s : PerH) (gs : List (List (Nat × Int) × List Nat)) : PerH := gs.foldl nextX s
def curX (s : PerH) (i : Nat) : Int := look (s.2 (i / 8)) (s.1 i) i
theorem look_filt (ws : List (Nat × Int)) (d : Int) (i : Nat) : look (filtL ws (i / 8)) d i = look ws d i := look_line ws d i
theorem curX_next (s : PerH) (g : List (Nat × Int) × List Nat) (i : Nat) : curX (nextX s g) i = look g.1 (curX s i) i := by
  unfold curX nextX
  simp only
  split
  · rw [look_nil, look_append, look_filt]
  · rw [look_append, look_filt]
theorem curX_laid (gs : List (List (Nat × Int) × List Nat)) : ∀ (s : PerH) (i : Nat), curX (laidX s gs) i = look (gs.flatMap (·.1)) (curX s i) i := by
  induction gs with
  | nil => intro s i; rfl
  | cons g gs ih =>
    intro s i
    show curX (laidX (nextX s g) gs) i = _
    rw [ih, curX_next, List.flatMap_cons, look_append]
/-- Within a group: ws is stored, the lines of fs are flushed. -/
structure GX (D : Dev) (j n : Nat) (s : PerH) (ws : List (Nat × Int)) (fs : List Nat) : Prop where
  on : OnJ D j n
  pers : ∀ i, D.pers i = s.1 i
  hist : ∀ l, D.hist l = s.2 l ++ filtL ws l
  yes : ∀ o ∈ fs, D.note j (o / 64) = some (D.done (o / 64) + (D.hist (o / 64)).length)
  no : ∀ l, (∀ o ∈ fs, o / 64 ≠ l) → D.note j l = none
section
variable {D : Dev} {j n : Nat} {s : PerH} {ws : List (Nat × Int)} {fs : List Nat}
theorem GX.tick (h : GX D j n s ws fs) : GX D.tick j n s ws fs := ⟨⟨h.on.n, h.on.off, h.on.err⟩, h.pers, h.hist, h.yes, h.no⟩
theorem GX.store (h : GX D j n s ws []) {k : Nat} (hm : D.may (k + 1)) (off : Nat) (x : Int) (h8 : off % 8 = 0) (hl : off < 64 * n) : GX (D.store j off x) j n s (ws ++ [(off, x)]) [] ∧ (D.store j off x).may k := by
  obtain ⟨h1, h2, h3, h4⟩ := counted_on h.on hm
  have hw : D.wordB off = true := by simp [Dev.wordB, h.on.n, h8, hl]
  have e : D.store j off x = D.tick.put off x := by unfold Dev.store; rw [hw, h1, h2]; rfl
  have t := h.tick
  rw [e]
  refine ⟨⟨⟨t.on.n, t.on.off, t.on.err⟩, t.pers, fun l => ?_, fun o ho => by simp at ho, t.no⟩, h3⟩
  show (if l = off / 64 then D.tick.hist l ++ [(off, x)] else D.tick.hist l) = _
  rw [filtL_append, t.hist]
  by_cases e : l = off / 64
  · rw [if_pos e]; subst e; simp [filtL]
  · rw [if_neg e]
    have : filtL [(off, x)] l = [] := by simp [filtL]; omega
    rw [this, List.append_nil]
theorem GX.flush (h : GX D j n s ws fs) {k : Nat} (hm : D.may (k + 1)) (off : Nat) (hl : off < 64 * n) : GX (D.flush j off) j n s ws (fs ++ [off]) ∧ (D.flush j off).may k := by
  obtain ⟨h1, h2, h3, h4⟩ := counted_on h.on hm
  have hw : D.inB off = true := by simp [Dev.inB, h.on.n, hl]
  have e : D.flush j off = D.tick.jot j (off / 64) := by unfold Dev.flush; rw [hw, h1, h2]; rfl
  have t := h.tick
  rw [e]
  refine ⟨⟨⟨t.on.n, t.on.off, t.on.err⟩, t.pers, t.hist, fun o ho => ?_, fun l hl => ?_⟩, h3⟩
  · show (if j = j ∧ o / 64 = off / 64 then some (D.tick.done (off / 64) + (D.tick.hist (off / 64)).length) else D.tick.note j (o / 64)) = _
    by_cases e : o / 64 = off / 64
    · rw [if_pos ⟨rfl, e⟩, e]; rfl
    · rw [if_neg (fun h => e h.2)]
      rcases List.mem_append.1 ho with h' | h'
      · exact t.yes o h'
      · simp at h'; subst h'; exact absurd rfl e
  · show (if j = j ∧ l = off / 64 then some (D.tick.done (off / 64) + (D.tick.hist (off / 64)).length) else D.tick.note j l) = _
    rw [if_neg (fun h => hl off (by simp) h.2.symm)]
    exact t.no l (fun o ho => hl o (by simp [ho]))
theorem GX.fence (h : GX D j n s ws fs) {k : Nat} (hm : D.may (k + 1)) : GX (D.fence j) j n (nextX s (ws, fs)) [] [] ∧ (D.fence j).may k := by
  obtain ⟨h1, h2, h3, h4⟩ := counted_on h.on hm
  have e : D.fence j = D.tick.sync j := by unfold Dev.fence; rw [h1, h2]; rfl
  have t := h.tick
  have howed : ∀ l, D.tick.owed j l = if hitB fs l = true then (D.tick.hist l).length else 0 := fun l => by
    unfold Dev.owed
    by_cases hf : ∃ o ∈ fs, o / 64 = l
    · rw [if_pos ((hitB_iff fs l).2 hf)]
      obtain ⟨o, ho, rfl⟩ := hf
      rw [t.yes o ho]; simp
    · rw [if_neg (fun h => hf ((hitB_iff fs l).1 h)), t.no l (fun o ho e => hf ⟨o, ho, e⟩)]
  rw [e]
  refine ⟨⟨⟨t.on.n, t.on.off, t.on.err⟩, fun i => ?_, fun l => ?_, fun o ho => by simp at ho, fun l _ => ?_⟩, h3⟩
  · show look ((D.tick.hist (i / 8)).take (D.tick.owed j (i / 8))) (D.tick.pers i) i = (if hitB fs (i / 8) = true then look (s.2 (i / 8) ++ filtL ws (i / 8)) (s.1 i) i else s.1 i)
    rw [howed, t.pers]
    split
    · rw [List.take_length, t.hist]
    · rw [List.take_zero]; rfl
  · show (D.tick.hist l).drop (D.tick.owed j l) = (if hitB fs l = true then [] else s.2 l ++ filtL ws l) ++ []
    rw [howed, List.append_nil]
    split
    · rw [List.drop_length]
    · rw [List.drop_zero, t.hist]
  · show (if j = j then none else D.tick.note j l) = none
    simp
theorem runX_stores (l : List (Nat × Int)) : ∀ {D : Dev} {ws : List (Nat × Int)} {k : Nat}, GX D j n s ws [] → D.may (l.length + k) → (∀ e ∈ l, e.1 % 8 = 0 ∧ e.1 < 64 * n) →
    GX (D.run j (l.map fun e => (1, e.1, e.2))) j n s (ws ++ l) [] ∧ (D.run j (l.map fun e => (1, e.1, e.2))).may k := by
  induction l with
  | nil => intro D ws k h hm _; exact ⟨by simpa [Dev.run] using h, by simpa [Dev.run] using hm⟩
  | cons e l ih =>
    intro D ws k h hm hl
    obtain ⟨h1, h2⟩ := h.store (k := l.length + k) (by simp at hm; exact hm.mono (by omega)) e.1 e.2 (hl e (by simp)).1 (hl e (by simp)).2
    have := ih h1 h2 (fun x hx => hl x (by simp [hx]))
    simp only [List.append_assoc, List.singleton_append] at this
    exact this
theorem runX_flushes (l : List Nat) : ∀ {D : Dev} {fs : List Nat} {k : Nat}, GX D j n s ws fs → D.may (l.length + k) → (∀ o ∈ l, o < 64 * n) →
    GX (D.run j (l.map fun o => (2, o, 0))) j n s ws (fs ++ l) ∧ (D.run j (l.map fun o => (2, o, 0))).may k := by
  induction l with
  | nil => intro D fs k h hm _; exact ⟨by simpa [Dev.run] using h, by simpa [Dev.run] using hm⟩
  | cons e l ih =>
    intro D fs k h hm hl
    obtain ⟨h1, h2⟩ := h.flush (k := l.length + k) (by simp at hm; exact hm.mono (by omega)) e (hl e (by simp))
    have := ih h1 h2 (fun x hx => hl x (by simp [hx]))
    simp only [List.append_assoc, List.singleton_append] at this
    exact this
def groupOkX (n : Nat) (g : List (Nat × Int) × List Nat) : Prop := (∀ e ∈ g.1, e.1 % 8 = 0 ∧ e.1 < 64 * n) ∧ ∀ o ∈ g.2, o < 64 * n
theorem runX_part (g : List (Nat × Int) × List Nat) (h : GX D j n s [] []) (hg : groupOkX n g) (k : Nat) (hk : k < (groupP g).length) (hm : D.may k) :
    ∃ ws fs, ws <+: g.1 ∧ GX (D.run j ((groupP g).take k)) j n s ws fs := by
  rw [groupP_length] at hk
  have hs := hg.1
  by_cases h1 : k ≤ g.1.length
  · have e : (groupP g).take k = (g.1.take k).map fun e => (1, e.1, e.2) := by
      unfold groupP
      rw [List.append_assoc, List.take_append_of_le_length (by simpa using h1), List.map_take]
    have hl : (g.1.take k).length = k := by rw [List.length_take]; omega
    obtain ⟨h2, _⟩ := runX_stores (k := 0) (g.1.take k) h (by rw [hl]; exact hm) (fun e he => hs e (List.mem_of_mem_take he))
    rw [e]
    exact ⟨g.1.take k, [], List.take_prefix _ _, by simpa using h2⟩
  · have e : (groupP g).take k = (g.1.map fun e => (1, e.1, e.2)) ++ (g.2.take (k - g.1.length)).map fun o => (2, o, 0) := by
      unfold groupP
      rw [List.append_assoc, List.take_append, List.take_of_length_le (by simp; omega), List.length_map, List.take_append_of_le_length (by simp; omega), List.map_take]
    obtain ⟨h2, h3⟩ := runX_stores (k := k - g.1.length) g.1 h (hm.mono (by omega)) hs
    have hl : (g.2.take (k - g.1.length)).length = k - g.1.length := by rw [List.length_take]; omega
    obtain ⟨h4, _⟩ := runX_flushes (k := 0) (g.2.take (k - g.1.length)) h2 (by rw [hl]; exact h3) (fun o ho => hg.2 o (List.mem_of_mem_take ho))
    rw [e, Dev.run_append]
    exact ⟨g.1, _, List.prefix_refl _, by simpa using h4⟩
theorem runX_whole (g : List (Nat × Int) × List Nat) (h : GX D j n s [] []) (hg : groupOkX n g) (k : Nat) (hm : D.may ((groupP g).length + k)) :
    GX (D.run j (groupP g)) j n (nextX s g) [] [] ∧ (D.run j (groupP g)).may k := by
  rw [groupP_length] at hm
  obtain ⟨h2, h3⟩ := runX_stores (k := g.2.length + 1 + k) g.1 h (hm.mono (by omega)) hg.1
  obtain ⟨h4, h5⟩ := runX_flushes (k := 1 + k) g.2 h2 (h3.mono (by omega)) hg.2
  obtain ⟨h6, h7⟩ := h4.fence (k := k) (h5.mono (by omega))
  have e : D.run j (groupP g) = ((D.run j (g.1.map fun e => (1, e.1, e.2))).run j (g.2.map fun o => (2, o, 0))).fence j := by
    unfold groupP
    rw [Dev.run_snoc, Dev.run_append]; rfl
  rw [e]
  exact ⟨by simpa using h6, h7⟩
/-- How far a program of groups has come. -/
structure FarX (D : Dev) (j n : Nat) (s : PerH) (gs : List (List (Nat × Int) × List Nat)) (a : Nat) (ws : List (Nat × Int)) : Prop where
  le : a ≤ gs.length
  pre : ∃ t, (gs[a]?.map (·.1)).getD [] = ws ++ t
  grp : ∃ fs, GX D j n (laidX s (gs.take a)) ws fs
theorem runX_far (gs : List (List (Nat × Int) × List Nat)) : ∀ {D : Dev} {s : PerH} (k : Nat), GX D j n s [] [] → (∀ g ∈ gs, groupOkX n g) → k ≤ (groupsP gs).length → D.may k → ∃ a ws, FarX (D.run j ((groupsP gs).take k)) j n s gs a ws ∧
    (k = (groupsP gs).length → a = gs.length ∧ ws = [] ∧ GX (D.run j ((groupsP gs).take k)) j n (laidX s gs) [] []) := by
  induction gs with
  | nil =>
    intro D s k h _ hk _
    have : k = 0 := by simpa [groupsP] using hk
    subst this
    exact ⟨0, [], ⟨Nat.le_refl _, ⟨[], rfl⟩, ⟨[], h⟩⟩, fun _ => ⟨rfl, rfl, h⟩⟩
  | cons g gs ih =>
    intro D s k h hg hk hm
    have hgl : groupsP (g :: gs) = groupP g ++ groupsP gs := by simp [groupsP]
    rw [hgl] at hk ⊢
    rw [List.length_append] at hk
    by_cases h1 : k < (groupP g).length
    · rw [List.take_append_of_le_length (by omega)]
      obtain ⟨ws, fs, ⟨t, ht⟩, hG⟩ := runX_part g h (hg g (by simp)) k h1 hm
      exact ⟨0, ws, ⟨Nat.zero_le _, ⟨t, by simp [ht]⟩, ⟨fs, hG⟩⟩, fun e => by rw [List.length_append] at e; omega⟩
    · rw [List.take_append, List.take_of_length_le (by omega), Dev.run_append]
      obtain ⟨h2, h3⟩ := runX_whole g h (hg g (by simp)) (k - (groupP g).length) (hm.mono (by omega))
      obtain ⟨a, ws, hF, hE⟩ := ih (k - (groupP g).length) h2 (fun x hx => hg x (by simp [hx])) (by omega) h3
      refine ⟨a + 1, ws, ⟨by have := hF.le; simp; omega, by simpa using hF.pre, ?_⟩, fun e => ?_⟩
      · obtain ⟨fs, hG⟩ := hF.grp
        exact ⟨fs, by simpa [laidX] using hG⟩
      · obtain ⟨e1, e2, e3⟩ := hE (by rw [List.length_append] at e; omega)
        exact ⟨by simp [e1], e2, e3⟩
theorem okP_groupsX {gs : List (List (Nat × Int) × List Nat)} (h : ∀ g ∈ gs, groupOkX n g) : okP n (groupsP gs) := by
  intro e he
  obtain ⟨g, hg, he⟩ := List.mem_flatMap.1 he
  have hk := h g hg
  unfold groupP at he
  rcases List.mem_append.1 he with h1 | h1
  · rcases List.mem_append.1 h1 with h2 | h2
    · obtain ⟨x, hx, rfl⟩ := List.mem_map.1 h2; exact .inl ⟨rfl, hk.1 x hx⟩
    · obtain ⟨x, hx, rfl⟩ := List.mem_map.1 h2; exact .inr (.inl ⟨rfl, hk.2 x hx⟩)
  · simp at h1; subst h1; exact .inr (.inr rfl)
/-- What a program of groups leaves, wherever the power fails. -/
inductive CameX (D D' : Dev) (j n : Nat) (s : PerH) (gs : List (List (Nat × Int) × List Nat)) : Prop where
  | all (on : GX D' j n (laidX s gs) [] []) (armed : D'.armed = D.armed) (left : D'.left = if D.armed then D.left - (groupsP gs).length else D.left) : CameX D D' j n s gs
  | cut (off : D'.off = true) (err : D'.err j = 3) (hn : D'.n = n) (a : Nat) (ws : List (Nat × Int)) (le : a ≤ gs.length) (pre : ∃ t, (gs[a]?.map (·.1)).getD [] = ws ++ t)
      (pers : ∀ i, D'.pers i = (laidX s (gs.take a)).1 i) (hist : ∀ l, D'.hist l = (laidX s (gs.take a)).2 l ++ filtL ws l) (armed : D.armed = true) (left : D.left < (groupsP gs).length) : CameX D D' j n s gs
theorem runX_came {gs : List (List (Nat × Int) × List Nat)} (h : GX D j n s [] []) (hg : ∀ g ∈ gs, groupOkX n g) : CameX D (D.run j (groupsP gs)) j n s gs := by
  have hok := okP_groupsX hg
  by_cases hm : D.may (groupsP gs).length
  · obtain ⟨a, ws, _, hE⟩ := runX_far gs (groupsP gs).length h hg (Nat.le_refl _) hm
    have := (hE rfl).2.2
    rw [List.take_length] at this
    rcases hm with h1 | h1
    · obtain ⟨h2, h3⟩ := run_unarmed _ h.on h1 hok
      exact .all this (by rw [h2, h1]) (by rw [h3, h1]; rfl)
    · by_cases ha : D.armed = true
      · obtain ⟨_, h2, h3⟩ := run_left _ h.on ha h1 hok
        exact .all this (by rw [h2, ha]) (by rw [h3, ha]; rfl)
      · have ha' : D.armed = false := by simpa using ha
        obtain ⟨h2, h3⟩ := run_unarmed _ h.on ha' hok
        exact .all this (by rw [h2, ha']) (by rw [h3, ha']; rfl)
  · have ha : D.armed = true := by
      cases e : D.armed
      · exact absurd (.inl e) hm
      · rfl
    have hl : D.left < (groupsP gs).length := Nat.lt_of_not_le (fun h => hm (.inr h))
    obtain ⟨a, ws, hF, _⟩ := runX_far gs D.left h hg (by omega) (.inr (Nat.le_refl _))
    have htl : ((groupsP gs).take D.left).length = D.left := by rw [List.length_take]; omega
    obtain ⟨h1, h2, h3⟩ := run_left ((groupsP gs).take D.left) h.on ha (by omega) (fun e he => hok e (List.mem_of_mem_take he))
    obtain ⟨fs, hG⟩ := hF.grp
    generalize hD1 : D.run j ((groupsP gs).take D.left) = D1 at *
    obtain ⟨e, rest, hr⟩ : ∃ e rest, (groupsP gs).drop D.left = e :: rest := by
      cases hd : (groupsP gs).drop D.left with
      | nil => have := congrArg List.length hd; simp at this; omega
      | cons e rest => exact ⟨e, rest, rfl⟩
    have hmem : ∀ x ∈ e :: rest, (x.1 = 1 ∧ x.2.1 % 8 = 0 ∧ x.2.1 < 64 * n) ∨ (x.1 = 2 ∧ x.2.1 < 64 * n) ∨ x.1 = 3 := fun x hx => hok x (List.mem_of_mem_drop (by rw [hr]; exact hx))
    have hrun : D.run j (groupsP gs) = ({ D1 with off := true } : Dev).setErr j 3 := by
      rw [← List.take_append_drop D.left (groupsP gs), Dev.run_append, hD1, hr]
      show (D1.step j e).run j rest = _
      rw [step_cut h1 h2 (by rw [h3, htl]; omega) (hmem e (by simp))]
      exact run_off rest rfl (by simp [Dev.setErr]) h1.n (fun x hx => hmem x (by simp [hx]))
    rw [hrun]
    exact .cut rfl (by simp [Dev.setErr]) h1.n a ws hF.le hF.pre hG.pers hG.hist ha hl
theorem GX.cur (h : GX D j n s [] []) (i : Nat) : D.cur i = curX s i := by
  unfold Dev.cur curX; rw [h.pers, h.hist]; simp [filtL]
end
end Go.Proofs.YtokgplgdaememaaDoor

/- The undo log's programs as groups, plain. -/
namespace Go.Proofs.YtokgplgdaememaaDoor
open Go.RowKit

abbrev Gr := List (Nat × Int) × List Nat
def lineOffs (offs : List Nat) : List Nat := (linesL offs).map (64 * ·)
def storesGs (ws : List (Nat × Int)) : List Gr := if ws = [] then [] else [(ws, lineOffs (ws.map (·.1)))]
def flushGs (offs : List Nat) : List Gr := if offs = [] then [] else [([], lineOffs offs)]
theorem linesL_nil {offs : List Nat} : linesL offs = [] ↔ offs = [] := by
  constructor
  · intro h
    match offs with
    | [] => rfl
    | o :: l => exact absurd h (flC_pos (o :: l) (by simp))
  · intro h; subst h; rfl
theorem flush_groups (offs : List Nat) : flushL offs = groupsP (flushGs offs) := by
  unfold flushL flushGs
  by_cases h : offs = []
  · rw [if_pos (linesL_nil.2 h), if_pos h]; rfl
  · rw [if_neg (fun e => h (linesL_nil.1 e)), if_neg h]
    simp [groupsP, groupP, lineOffs]
theorem stores_groups (ws : List (Nat × Int)) : storesL ws = groupsP (storesGs ws) := by
  unfold storesL storesGs
  by_cases h : ws = []
  · rw [if_pos h]; subst h; rfl
  · rw [if_neg h]
    unfold flushL
    rw [if_neg (fun e => h (by have := linesL_nil.1 e; simpa using this))]
    simp [groupsP, groupP, lineOffs]
theorem groupsP_append (a b : List Gr) : groupsP (a ++ b) = groupsP a ++ groupsP b := by simp [groupsP]
def planGs (off s : Nat) (F : List (Nat × Int)) : List Gr := if F = [] then [] else storesGs (planWs (off + 64 + 16 * s) F) ++ storesGs [(off, ((s + F.length : Nat) : Int))]
def commitGs (off : Nat) (S V : List (Nat × Int)) : List Gr := if S = [] then [] else flushGs (V.map (·.1)) ++ storesGs [(off, 0)]
def restoreGs (off : Nat) (V : List (Nat × Int)) : List Gr := storesGs V ++ storesGs [(off, 0)]
theorem plan_groups (off s : Nat) (F : List (Nat × Int)) : planP off s F = groupsP (planGs off s F) := by
  unfold planP planGs
  split
  · rfl
  · rw [groupsP_append, stores_groups, stores_groups]
theorem commit_groups (off : Nat) (S V : List (Nat × Int)) : commitP off S V = groupsP (commitGs off S V) := by
  unfold commitP commitGs
  split
  · rfl
  · rw [groupsP_append, flush_groups, stores_groups]
theorem restore_groups (off : Nat) (V : List (Nat × Int)) : restoreP off V = groupsP (restoreGs off V) := by
  unfold restoreP restoreGs
  rw [groupsP_append, stores_groups, stores_groups]
theorem lineOffs_hit (offs : List Nat) (l : Nat) : hitB (lineOffs offs) l = true ↔ ∃ o ∈ offs, o / 64 = l := by
  rw [hitB_iff]
  unfold lineOffs
  constructor
  · rintro ⟨o, ho, rfl⟩
    obtain ⟨m, hm, rfl⟩ := List.mem_map.1 ho
    obtain ⟨p, hp, rfl⟩ := (linesL_mem _ _).1 hm
    exact ⟨p, hp, by omega⟩
  · rintro ⟨o, ho, rfl⟩
    exact ⟨64 * (o / 64), List.mem_map.2 ⟨o / 64, (linesL_mem _ _).2 ⟨o, ho, rfl⟩, rfl⟩, by omega⟩
theorem lineOffs_lt {offs : List Nat} {n : Nat} (h : ∀ o ∈ offs, o < 64 * n) : ∀ o ∈ lineOffs offs, o < 64 * n := fun o ho => by
  obtain ⟨m, hm, rfl⟩ := List.mem_map.1 ho
  obtain ⟨p, hp, rfl⟩ := (linesL_mem _ _).1 hm
  have := h p hp; omega
theorem storesGs_ok {ws : List (Nat × Int)} {n : Nat} (h : ∀ e ∈ ws, e.1 % 8 = 0 ∧ e.1 < 64 * n) : ∀ g ∈ storesGs ws, groupOkX n g := fun g hg => by
  unfold storesGs at hg
  split at hg
  · simp at hg
  · simp at hg; subst hg
    exact ⟨h, lineOffs_lt (fun o ho => by obtain ⟨e, he, rfl⟩ := List.mem_map.1 ho; exact (h e he).2)⟩
theorem flushGs_ok {offs : List Nat} {n : Nat} (h : ∀ o ∈ offs, o < 64 * n) : ∀ g ∈ flushGs offs, groupOkX n g := fun g hg => by
  unfold flushGs at hg
  split at hg
  · simp at hg
  · simp at hg; subst hg
    exact ⟨fun e he => by simp at he, lineOffs_lt h⟩
theorem oks_append {a b : List Gr} {n : Nat} (ha : ∀ g ∈ a, groupOkX n g) (hb : ∀ g ∈ b, groupOkX n g) : ∀ g ∈ a ++ b, groupOkX n g := fun g hg => by
  rcases List.mem_append.1 hg with h | h
  · exact ha g h
  · exact hb g h
theorem store1_ok {off n : Nat} {x : Int} (h8 : off % 8 = 0) (hl : off < 64 * n) : ∀ g ∈ storesGs [(off, x)], groupOkX n g := storesGs_ok (fun e he => by simp at he; subst he; exact ⟨h8, hl⟩)
theorem planWs_8 {l : List (Nat × Int)} : ∀ {b : Nat}, b % 8 = 0 → ∀ e ∈ planWs b l, e.1 % 8 = 0 := by
  induction l with
  | nil => intro b _ e he; simp [planWs] at he
  | cons x l ih =>
    intro b hb e he
    simp only [planWs, List.mem_cons] at he
    rcases he with rfl | rfl | h
    · exact hb
    · simp only; omega
    · exact ih (by omega) e h
theorem planGs_ok {off s n : Nat} {F : List (Nat × Int)} (h64 : off % 64 = 0) (hl : off + 64 + 16 * (s + F.length) ≤ 64 * n) : ∀ g ∈ planGs off s F, groupOkX n g := by
  unfold planGs
  split
  · intro g hg; simp at hg
  · exact oks_append (storesGs_ok (fun e he => ⟨planWs_8 (by omega) e he, by have := planWs_bd F _ e he; omega⟩)) (store1_ok (by omega) (by omega))
theorem commitGs_ok {off n : Nat} {S V : List (Nat × Int)} (h64 : off % 64 = 0) (hl : off < 64 * n) (hV : ∀ e ∈ V, e.1 % 8 = 0 ∧ e.1 < 64 * n) : ∀ g ∈ commitGs off S V, groupOkX n g := by
  unfold commitGs
  split
  · intro g hg; simp at hg
  · exact oks_append (flushGs_ok (fun o ho => by obtain ⟨e, he, rfl⟩ := List.mem_map.1 ho; exact (hV e he).2)) (store1_ok (by omega) hl)
theorem restoreGs_ok {off n : Nat} {V : List (Nat × Int)} (h64 : off % 64 = 0) (hl : off < 64 * n) (hV : ∀ e ∈ V, e.1 % 8 = 0 ∧ e.1 < 64 * n) : ∀ g ∈ restoreGs off V, groupOkX n g :=
  oks_append (storesGs_ok hV) (store1_ok (by omega) hl)
theorem storesGs_flat (ws : List (Nat × Int)) : (storesGs ws).flatMap (·.1) = ws := by
  unfold storesGs
  split
  · rename_i h; subst h; rfl
  · simp
theorem flushGs_flat (offs : List Nat) : (flushGs offs).flatMap (·.1) = [] := by unfold flushGs; split <;> simp
theorem planGs_flat (off s : Nat) (F : List (Nat × Int)) : (planGs off s F).flatMap (·.1) = if F = [] then [] else planWs (off + 64 + 16 * s) F ++ [(off, ((s + F.length : Nat) : Int))] := by
  unfold planGs
  split
  · rfl
  · rw [List.flatMap_append, storesGs_flat, storesGs_flat]
theorem commitGs_flat (off : Nat) (S V : List (Nat × Int)) : (commitGs off S V).flatMap (·.1) = if S = [] then [] else [(off, 0)] := by
  unfold commitGs
  split
  · rfl
  · rw [List.flatMap_append, flushGs_flat, storesGs_flat]; rfl
theorem restoreGs_flat (off : Nat) (V : List (Nat × Int)) : (restoreGs off V).flatMap (·.1) = V ++ [(off, 0)] := by
  unfold restoreGs
  rw [List.flatMap_append, storesGs_flat, storesGs_flat]
/-- A device that is on and unarmed; thread j has noted nothing. -/
structure Lv (D : Dev) (j n x : Nat) : Prop where
  on : OnJ D j n
  armed : D.armed = false
  no : ∀ l, D.note j l = none
  exec : D.exec ≤ x
  vb : D.VB
def perH (D : Dev) : PerH := (D.pers, D.hist)
theorem Lv.gx {D : Dev} {j n x : Nat} (h : Lv D j n x) : GX D j n (perH D) [] [] := ⟨h.on, fun _ => rfl, fun l => by simp [perH, filtL], fun o ho => by simp at ho, fun l _ => h.no l⟩
theorem GX.lv {D : Dev} {j n x : Nat} {s : PerH} (h : GX D j n s [] []) (ha : D.armed = false) (hx : D.exec ≤ x) (hv : D.VB) : Lv D j n x := ⟨h.on, ha, fun l => h.no l (by simp), hx, hv⟩
/-- A program of groups on a device that is not armed. -/
theorem Lv.run {D : Dev} {j n x : Nat} (h : Lv D j n x) {gs : List Gr} (hg : ∀ g ∈ gs, groupOkX n g) (hv : valP (groupsP gs)) :
    Lv (D.run j (groupsP gs)) j n (x + (groupsP gs).length) ∧ GX (D.run j (groupsP gs)) j n (laidX (perH D) gs) [] [] := by
  have hx := D.run_exec j (groupsP gs)
  have := h.exec
  rcases runX_came h.gx hg with ⟨h1, h2, _⟩ | ⟨_, _, _, _, _, _, _, _, _, h2, _⟩
  · exact ⟨h1.lv (by rw [h2]; exact h.armed) (by omega) (Dev.VB.run _ h.vb j hv), h1⟩
  · rw [h.armed] at h2; cases h2
theorem Lv.run_cur {D : Dev} {j n x : Nat} (h : Lv D j n x) {gs : List Gr} (hg : ∀ g ∈ gs, groupOkX n g) (hv : valP (groupsP gs)) (i : Nat) :
    (D.run j (groupsP gs)).cur i = look (gs.flatMap (·.1)) (D.cur i) i := by
  rw [(h.run hg hv).2.cur, curX_laid]; rfl
theorem valP_groups {gs : List Gr} (h : ∀ e ∈ gs.flatMap (·.1), 0 ≤ e.2 ∧ e.2 < 18446744073709551616) : valP (groupsP gs) := by
  intro e he h1
  obtain ⟨g, hg, he⟩ := List.mem_flatMap.1 he
  unfold groupP at he
  rcases List.mem_append.1 he with h2 | h2
  · rcases List.mem_append.1 h2 with h3 | h3
    · obtain ⟨x, hx, rfl⟩ := List.mem_map.1 h3
      exact h x (List.mem_flatMap.2 ⟨g, hg, hx⟩)
    · obtain ⟨x, hx, rfl⟩ := List.mem_map.1 h3; simp at h1
  · simp at h2; subst h2; simp at h1
end Go.Proofs.YtokgplgdaememaaDoor

/- What the laws of layer 16 share: a device of 24 lines with a log, its words, Save and Plan on it. -/
namespace Go.Proofs.YtokgplgdaememaaDoor
open Go.RowKit Go.Maps

/-- A live device of 24 lines. -/
structure Cl (D : Dev) (x : Nat) : Prop where
  lv : Lv D 0 24 x
  hist : ∀ l, D.hist l = []
theorem D0_cur : D0.cur = W0 := rfl
theorem D0_cl : Cl D0 0 := ⟨⟨⟨rfl, rfl, rfl⟩, rfl, fun _ => rfl, Nat.le_refl _, D0_vb⟩, fun _ => rfl⟩
theorem clean_stores {s : PerH} (h : ∀ l, s.2 l = []) (ws : List (Nat × Int)) : ∀ l, (laidX s (storesGs ws)).2 l = [] := by
  intro l
  unfold storesGs
  split
  · exact h l
  · show (if hitB (lineOffs (ws.map (·.1))) l = true then [] else s.2 l ++ filtL ws l) = []
    split
    · rfl
    · rename_i hn
      rw [h l, List.nil_append]
      unfold filtL
      rw [List.filter_eq_nil_iff]
      intro e he hl
      exact hn ((lineOffs_hit _ _).2 ⟨e.1, List.mem_map.2 ⟨e, he, rfl⟩, by simpa using hl⟩)
theorem laidX_append (s : PerH) (a b : List Gr) : laidX s (a ++ b) = laidX (laidX s a) b := by simp [laidX, List.foldl_append]
theorem clean_plan {s : PerH} (h : ∀ l, s.2 l = []) (off k : Nat) (F : List (Nat × Int)) : ∀ l, (laidX s (planGs off k F)).2 l = [] := by
  unfold planGs
  split
  · exact h
  · rw [laidX_append]; exact clean_stores (clean_stores h _) _
theorem planGs_val {off s : Nat} {F : List (Nat × Int)} (h : ∀ e ∈ F, e.1 < 18446744073709551616 ∧ 0 ≤ e.2 ∧ e.2 < 18446744073709551616) (hs : s + F.length < 18446744073709551616) : valP (groupsP (planGs off s F)) := by
  refine valP_groups (fun e he => ?_)
  rw [planGs_flat] at he
  split at he
  · simp at he
  · have key : ∀ (l : List (Nat × Int)) (b : Nat), (∀ e ∈ l, e.1 < 18446744073709551616 ∧ 0 ≤ e.2 ∧ e.2 < 18446744073709551616) → ∀ e ∈ planWs b l, 0 ≤ e.2 ∧ e.2 < 18446744073709551616 := by
      intro l
      induction l with
      | nil => intro b _ e he; simp [planWs] at he
      | cons x l ih =>
        intro b hl e he
        have hx := hl x (by simp)
        simp only [planWs, List.mem_cons] at he
        rcases he with rfl | rfl | he
        · simp only; omega
        · exact hx.2
        · exact ih _ (fun y hy => hl y (by simp [hy])) e he
    rcases List.mem_append.1 he with h1 | h1
    · exact key F _ h e h1
    · simp at h1; subst h1; simp only; omega
section
variable {w wc : World} {v : DV} {own : Nat → Option Role} {D : Dev} {lb x : Nat}
/-- The numbers of what is saved and of what is fresh. -/
def sN (C : Nat → Int) : Nat := (savedL C 192 5).length
def fL (C : Nat → Int) (offs : List Nat) : List (Nat × Int) := freshL C ((savedL C 192 5).map (·.1)) offs
theorem sN_le (C : Nat → Int) : sN C ≤ 16 := by unfold sN savedL; rw [entsL_len]; exact cntL_le C 192 5
theorem fL_len (C : Nat → Int) (offs : List Nat) : (fL C offs).length ≤ offs.length := freshL_len _ _ _
theorem fL_in (C : Nat → Int) (offs : List Nat) (hC : ∀ i, 0 ≤ C i ∧ C i < 18446744073709551616) (ho : ∀ o ∈ offs, o < 2048) : ∀ e ∈ fL C offs, e.1 < 18446744073709551616 ∧ 0 ≤ e.2 ∧ e.2 < 18446744073709551616 := fun e he => by
  obtain ⟨h1, h2⟩ := freshL_mem _ _ _ e he
  have := ho _ h1
  rw [h2]
  exact ⟨by omega, hC _⟩
/-- The device behind Save. -/
def savD (D : Dev) (offs : List Nat) : Dev := if 16 < sN D.cur + (fL D.cur offs).length then D else D.run 0 (planP 192 (sN D.cur) (fL D.cur offs))
theorem plan_fit {C : Nat → Int} {offs : List Nat} (h : ¬ 16 < sN C + (fL C offs).length) : ∀ g ∈ planGs 192 (sN C) (fL C offs), groupOkX 24 g := planGs_ok (by omega) (by omega)
theorem savD_lv (h : Lv D 0 24 x) (offs : List Nat) (ho : ∀ o ∈ offs, o < 2048) : Lv (savD D offs) 0 24 (x + 100) := by
  unfold savD
  split
  · exact ⟨h.on, h.armed, h.no, by have := h.exec; omega, h.vb⟩
  · rename_i hf
    rw [plan_groups]
    have := (h.run (plan_fit hf) (planGs_val (fL_in D.cur offs h.vb.cur ho) (by omega))).1
    have hl := planP_len 192 (sN D.cur) (fL D.cur offs)
    rw [plan_groups] at hl
    exact ⟨this.on, this.armed, this.no, by have := this.exec; omega, this.vb⟩
theorem savD_cl (h : Cl D x) (offs : List Nat) (ho : ∀ o ∈ offs, o < 2048) : Cl (savD D offs) (x + 100) := by
  refine ⟨savD_lv h.lv offs ho, fun l => ?_⟩
  unfold savD
  split
  · exact h.hist l
  · rename_i hf
    rw [plan_groups]
    have := (h.lv.run (plan_fit hf) (planGs_val (fL_in D.cur offs h.lv.vb.cur ho) (by omega))).2.hist l
    rw [this, clean_plan (fun l => h.hist l)]; rfl
theorem savD_err (h : Lv D 0 24 x) (offs : List Nat) (ho : ∀ o ∈ offs, o < 2048) : (savD D offs).err 0 = 0 := (savD_lv h offs ho).on.err
/-- The device has been worked on: all but its own blocks is as it was. -/
structure Mv (own own' : Nat → Option Role) (wc w1 : World) : Prop where
  old : ∀ k, k < wc.heap.size → own' k = own k
  upd : Upd (fun k => own k ≠ none) wc w1
theorem Mv.of_below {own : Nat → Option Role} {wc w1 : World} (hb : Below wc.heap.size wc w1) : Mv own own wc w1 := ⟨fun _ _ => rfl, Upd.of_below hb⟩
theorem LSt.stepM {w1 : World} {D' : Dev} {j off n : Nat} (h : LSt w v own D lb j off n wc) (hn : D'.n = D.n) (hp : DPost v own wc D' w1) : ∃ own', LSt w v own' D' lb j off n w1 ∧ Mv own own' wc w1 := by
  have hlt := h.log.blk.lt
  obtain ⟨own1, d1, o1, u1⟩ := hp
  refine ⟨own1, ⟨⟨d1, h.log.blk.upd u1 (by rw [h.log.ob]; simp), by rw [o1 lb hlt]; exact h.log.ob, h.log.hj, h.log.n2, h.log.o64, by rw [hn]; exact h.log.fit⟩, fun k hk => ?_, h.lb, ?_⟩, ⟨o1, u1⟩⟩
  · rcases Nat.lt_or_ge k wc.heap.size with hk2 | hk2
    · rw [o1 k hk2] at hk; exact h.ob k hk
    · exact Nat.le_trans h.bel.size hk2
  · refine h.bel.trans ⟨u1.os, u1.tape, u1.output, u1.size, fun k hk => u1.block k (Nat.lt_of_lt_of_le hk h.bel.size) (fun hk2 => ?_)⟩
    have := h.ob k hk2; omega
/-- A slice that lies apart from the device. -/
structure Kp (own : Nat → Option Role) (wc : World) (s : Nat) (sv : Value) (n : Nat) (xs : List Value) : Prop where
  rd : RdSl wc s sv n xs
  fr : ∀ k, sv.ownBlock = some k → own k = none ∧ k < wc.heap.size
theorem Kp.of {w3 : World} {j off n e s m : Nat} {sv : Value} {xs : List Value} (h : LSt w v own D lb j off n wc) (a : Acc wc wc.heap.size w3 e s sv m xs) : Kp own w3 s sv m xs :=
  ⟨a.rd, fun k hk => ⟨by
    have := a.new k hk
    cases ho : own k with
    | none => rfl
    | some r => have := h.log.dev.lt k (by rw [ho]; simp); omega, a.own.lt k hk⟩⟩
theorem Kp.next {w1 : World} {s m : Nat} {sv : Value} {xs : List Value} (h : Kp own wc s sv m xs) (hb : Below wc.heap.size wc w1) : Kp own w1 s sv m xs := ⟨h.rd.below hb, fun k hk => ⟨(h.fr k hk).1, Nat.lt_of_lt_of_le (h.fr k hk).2 hb.size⟩⟩
theorem Kp.step {w1 : World} {own' : Nat → Option Role} {s m : Nat} {sv : Value} {xs : List Value} (h : Kp own wc s sv m xs) (hm : Mv own own' wc w1) : Kp own' w1 s sv m xs :=
  ⟨h.rd.upd hm.upd (fun k hk => by simpa using (h.fr k hk).1), fun k hk => ⟨by rw [hm.old k (h.fr k hk).2]; exact (h.fr k hk).1, Nat.lt_of_lt_of_le (h.fr k hk).2 hm.upd.size⟩⟩
theorem Kp.wd {w3 : World} {j off n g m : Nat} {f : Nat → Int} (h : LSt w v own D lb j off n wc) (a : WdAt wc g f m w3) : Kp own w3 1 (.slice (some ⟨g, 0, none⟩) m m) m (intsU (getL f m)) :=
  ⟨a.rd, fun k hk => by
    simp [Value.ownBlock] at hk; subst hk
    refine ⟨?_, a.row.lt⟩
    have := a.new
    cases ho : own g with
    | none => rfl
    | some r => have := h.log.dev.lt g (by rw [ho]; simp); omega⟩
theorem Kp.win {g : Nat} {f : Nat → Int} (h : Kp own wc 1 (.slice (some ⟨g, 0, none⟩) 192 192) 192 (intsU (getL f 192))) (hf : ∀ i, 0 ≤ f i ∧ f i < 18446744073709551616) : WIn wc (.slice (some ⟨g, 0, none⟩) 192 192) f := ⟨h.rd, hf⟩
/-- Save of offsets that are allowed. -/
theorem save_lv (hL : LSt w v own D lb 0 192 5 wc) (h : Lv D 0 24 x) (hx : x < 1000000) (sv : Value) (offs : List Nat) (hs : RdSl wc 1 sv offs.length (natsU offs)) (hl : offs.length ≤ 24) (ho : ∀ o ∈ offs, o < 2048) (hg : ∀ o ∈ offs, allowedB 1536 192 5 o = true) :
    Calls Tryd.prog 21 #[.pointer (some ⟨lb, 0, none⟩), sv] wc fun r w' => ∃ own', r = .returned (.int .i64 (if 16 < sN D.cur + (fL D.cur offs).length then 4 else 0)) ∧ LSt w v own' (savD D offs) lb 0 192 5 w' ∧ Mv own own' wc w' := by
  have hP := uPlan_live hL.log h.on.off h.on.err h.vb sv offs hs (by omega) (fun o ho2 => by have := ho o ho2; omega) (fun o ho2 => by rw [h.on.n]; exact hg o ho2)
  refine (uSave_live hL.log sv _ _ (by have := h.exec; omega) hP).mono ?_
  have he := savD_err h offs ho
  rintro r w' (⟨hf, rfl, hb⟩ | ⟨hf, rfl, hp⟩)
  · have hf' : 16 < sN D.cur + (fL D.cur offs).length := hf
    rw [if_pos hf']
    refine ⟨own, rfl, ?_⟩
    unfold savD
    rw [if_pos hf']
    exact ⟨hL.next hb, Mv.of_below hb⟩
  · have hf' : ¬ 16 < sN D.cur + (fL D.cur offs).length := hf
    rw [if_neg hf']
    have hn := (savD_lv h offs ho).on.n
    unfold savD at he hn ⊢
    rw [if_neg hf'] at he hn ⊢
    obtain ⟨own', l', m'⟩ := hL.stepM (D' := D.run 0 (planP 192 (sN D.cur) (fL D.cur offs))) (by rw [hn, h.on.n]) hp
    exact ⟨own', by show Ending.returned (.int .i64 ((D.run 0 (planP 192 (sN D.cur) (fL D.cur offs))).err 0)) = _; rw [he], l', m'⟩
theorem check_good {C : Nat → Int} {offs : List Nat} (hg : ∀ o ∈ offs, allowedB 1536 192 5 o = true) : checkN C offs = if 16 < sN C + (fL C offs).length then 4 else 0 := by
  unfold checkN
  rw [if_pos (List.all_eq_true.2 hg)]; rfl
/-- Plan of any offsets. -/
theorem plan_lv (hL : LogAt wc v own D lb 0 192 5) (h : Lv D 0 24 x) (sv : Value) (offs : List Nat) (hs : RdSl wc 1 sv offs.length (natsU offs)) (hl : offs.length ≤ 24) (ho : ∀ o ∈ offs, o < 2048) :
    Calls Tryd.prog 30 #[.pointer (some ⟨lb, 0, none⟩), sv] wc fun r w' => (checkN D.cur offs ≠ 0 ∧ ErrNil wc (checkN D.cur offs) r w') ∨
      (checkN D.cur offs = 0 ∧ (∀ o ∈ offs, allowedB 1536 192 5 o = true) ∧ ∃ ov, r = .returned (.tuple #[ov, .int .i64 0]) ∧ Acc wc wc.heap.size w' 99 3 ov (planP 192 (sN D.cur) (fL D.cur offs)).length (instrC (planP 192 (sN D.cur) (fL D.cur offs)))) := by
  by_cases hall : offs.all (allowedB 1536 192 5) = true
  · have hg : ∀ o ∈ offs, allowedB 1536 192 5 o = true := List.all_eq_true.1 hall
    rw [check_good hg]
    refine (uPlan_live hL h.on.off h.on.err h.vb sv offs hs (by omega) (fun o ho2 => by have := ho o ho2; omega) (fun o ho2 => by rw [h.on.n]; exact hg o ho2)).mono ?_
    rintro r w' (⟨hf, hb⟩ | ⟨hf, hp⟩)
    · have hf' : 16 < sN D.cur + (fL D.cur offs).length := hf
      rw [if_pos hf']
      exact .inl ⟨by omega, hb⟩
    · have hf' : ¬ 16 < sN D.cur + (fL D.cur offs).length := hf
      rw [if_neg hf']
      exact .inr ⟨rfl, hg, hp⟩
  · have hc : checkN D.cur offs = 1 := by unfold checkN; rw [if_neg hall]
    rw [hc]
    have hf : offs.all (allowedB 1536 192 5) = false := by simpa using hall
    obtain ⟨o, ho2, hb⟩ := List.all_eq_false.1 hf
    have hb2 : allowedB 1536 192 5 o = false := by simpa using hb
    exact (uPlan_bad hL sv offs hs (by omega) (fun o ho2 => by have := ho o ho2; omega) ⟨o, ho2, by rw [h.on.n]; exact hb2⟩).mono fun r w' hp => .inl ⟨by omega, hp⟩
/-- The words of the device's bytes. -/
theorem current24 (hL : IsDev wc v own D) (h : Lv D 0 24 x) : Calls Tryd.prog 20 #[.pointer (some ⟨v.db, 0, none⟩)] wc
    fun r w' => r = .returned (.slice (some ⟨wc.heap.size, 0, none⟩) 1536 1536) ∧ Row w' wc.heap.size 1536 5 (fun i => .int .u8 (byteAt D.cur i)) ∧ Below wc.heap.size wc w' := by
  have := current_any hL h.vb
  unfold BytesPost at this
  rw [h.on.n] at this
  exact this
theorem persisted24 (hL : IsDev wc v own D) (hv : D.VB) (hn : D.n = 24) : Calls Tryd.prog 45 #[.pointer (some ⟨v.db, 0, none⟩)] wc
    fun r w' => r = .returned (.slice (some ⟨wc.heap.size, 0, none⟩) 1536 1536) ∧ Row w' wc.heap.size 1536 5 (fun i => .int .u8 (byteAt D.pers i)) ∧ Below wc.heap.size wc w' := by
  have := persisted_any hL hv
  unfold BytesPost at this
  rw [hn] at this
  exact this
theorem words24 {g : Nat} {f : Nat → Int} (hf : ∀ i, 0 ≤ f i ∧ f i < 18446744073709551616) (h : Row w g 1536 5 (fun i => .int .u8 (byteAt f i))) :
    Calls Tryd.prog 19 #[.slice (some ⟨g, 0, none⟩) 1536 1536] w fun r w' => r = .returned (.slice (some ⟨w.heap.size, 0, none⟩) 192 192) ∧ WdAt w w.heap.size f 192 w' := by
  refine (l16words_raw g 24 1536 (byteAt f) h (by omega) (by omega) (fun i _ => byteAt_bd f i)).mono ?_
  rintro r w' ⟨rfl, h1, h2⟩
  refine ⟨rfl, h1.congr (fun i hi => ?_), Nat.le_refl _, h2⟩
  rw [show 64 * 24 = 8 * 192 by omega, wordsOf_bytes f 192 i hi (hf i)]
theorem WdAt.win {g : Nat} {f : Nat → Int} (h : WdAt w g f 192 wc) (hf : ∀ i, 0 ≤ f i ∧ f i < 18446744073709551616) : WIn wc (.slice (some ⟨g, 0, none⟩) 192 192) f := ⟨h.rd, hf⟩
theorem dirty_cl (h : Cl D x) : D.dirtyL = [] := by
  unfold Dev.dirtyL
  rw [List.filter_eq_nil_iff]
  intro l _
  rw [h.hist l]; simp
theorem dirty24 (hL : IsDev wc v own D) (h : Cl D x) : Calls Tryd.prog 32 #[.pointer (some ⟨v.db, 0, none⟩)] wc fun r w' => ∃ a c, r = .returned (.slice a 0 c) ∧ Below wc.heap.size wc w' := by
  refine (dirty_any hL).mono ?_
  rintro r w' ⟨sv, rfl, ha⟩
  rw [dirty_cl h] at ha
  obtain ⟨a, c, rfl⟩ := ha.slice
  exact ⟨a, c, rfl, ha.bel⟩
/-- slices.Equal of the same words. -/
theorem eqW {a b : Option Addr} {c d : Nat} {f : Nat → Int} (h1 : RdSl w 1 (.slice a 192 c) 192 (intsU (getL f 192))) (h2 : RdSl w 1 (.slice b 192 d) 192 (intsU (getL f 192))) :
    Calls Tryd.prog 31 #[.slice a 192 c, .slice b 192 d] w fun r w' => r = .returned (.bool true) ∧ Below w.heap.size w w' :=
  equalU_same _ _ (getL f 192) (getL f 192) rfl (by rw [getL_len]; exact h1) (by rw [getL_len]; exact h2) (by rw [getL_len]; omega)
end
end Go.Proofs.YtokgplgdaememaaDoor

/- UndoSaves: the plain part, and the worlds in which a slice of words is written beside the log. -/
namespace Go.Proofs.YtokgplgdaememaaDoor
open Go.RowKit Go.Maps

/-- Word i behind the stores of a program. -/
def appL (P : List (Nat × Nat × Int)) (d : Int) (i : Nat) : Int := P.foldl (fun d e => if e.1 = 1 ∧ e.2.1 / 8 = i then e.2.2 else d) d
theorem appL_append (a b : List (Nat × Nat × Int)) (d : Int) (i : Nat) : appL (a ++ b) d i = appL b (appL a d i) i := by simp [appL, List.foldl_append]
theorem appL_snoc (a : List (Nat × Nat × Int)) (e : Nat × Nat × Int) (d : Int) (i : Nat) : appL (a ++ [e]) d i = if e.1 = 1 ∧ e.2.1 / 8 = i then e.2.2 else appL a d i := by simp [appL, List.foldl_append]
theorem appL_stores (ws : List (Nat × Int)) : ∀ (d : Int) (i : Nat), appL (ws.map fun e => (1, e.1, e.2)) d i = look ws d i := by
  induction ws with
  | nil => intro d i; rfl
  | cons e ws ih =>
    intro d i
    have := ih (if e.1 / 8 = i then e.2 else d) i
    simp only [appL, look, List.map_cons, List.foldl_cons, true_and] at this ⊢
    exact this
theorem appL_flush (l : List Nat) : ∀ (d : Int) (i : Nat), appL (l.map fun o => (2, o, 0)) d i = d := by
  induction l with
  | nil => intro d i; rfl
  | cons e l ih => intro d i; exact ih d i
theorem appL_groups (gs : List Gr) : ∀ (d : Int) (i : Nat), appL (groupsP gs) d i = look (gs.flatMap (·.1)) d i := by
  induction gs with
  | nil => intro d i; rfl
  | cons g gs ih =>
    intro d i
    have e : groupsP (g :: gs) = groupP g ++ groupsP gs := by simp [groupsP]
    rw [e, appL_append, ih, List.flatMap_cons, look_append]
    congr 1
    unfold groupP
    rw [appL_append, appL_append, appL_stores, appL_flush]
    rfl
/-- What Save's program makes of the words. -/
theorem appL_save {D : Dev} {x : Nat} (h : Lv D 0 24 x) (offs : List Nat) (ho : ∀ o ∈ offs, o < 2048) (hf : ¬ 16 < sN D.cur + (fL D.cur offs).length) (i : Nat) : appL (planP 192 (sN D.cur) (fL D.cur offs)) (D.cur i) i = (savD D offs).cur i := by
  unfold savD
  rw [if_neg hf, plan_groups, appL_groups]
  exact (h.run_cur (plan_fit hf) (planGs_val (fL_in D.cur offs h.vb.cur ho) (by omega)) i).symm
theorem savedL_congr {C C' : Nat → Int} (h : ∀ i, 24 ≤ i → i < 64 → C' i = C i) : savedL C' 192 5 = savedL C 192 5 := by
  have hc : cntL C' 192 5 = cntL C 192 5 := by unfold cntL; rw [h 24 (by omega) (by omega)]
  have hle : cntL C 192 5 ≤ 16 := cntL_le C 192 5
  unfold savedL
  rw [hc]
  unfold entsL
  refine List.map_congr_left (fun i hi => ?_)
  have hi := List.mem_range.1 hi
  rw [h (192 / 8 + 8 + 2 * i) (by omega) (by omega), h (192 / 8 + 9 + 2 * i) (by omega) (by omega)]
theorem allowed_out {o : Nat} (h : allowedB 1536 192 5 o = true) : o % 8 = 0 ∧ o < 1536 ∧ (o < 192 ∨ 512 ≤ o) := by
  simpa [allowedB] using h
theorem Lv.store {D : Dev} {x : Nat} (h : Lv D 0 24 x) (o : Nat) (v : Int) (ho : o % 8 = 0 ∧ o < 1536) (hv : 0 ≤ v ∧ v < 18446744073709551616) :
    Lv (D.store 0 o v) 0 24 (x + 1) ∧ (∀ i, (D.store 0 o v).cur i = if o / 8 = i then v else D.cur i) := by
  have hm : D.may (0 + 1) := .inl h.armed
  obtain ⟨g, _⟩ := h.gx.store hm o v ho.1 (by omega)
  have ha := (run_unarmed [(1, o, v)] h.on h.armed (fun e he => by simp at he; subst he; exact .inl ⟨rfl, ho.1, by show o < 64 * 24; omega⟩)).1
  have he := D.run_exec 0 [(1, o, v)]
  have hb := h.vb.step 0 (1, o, v) (fun _ => hv)
  refine ⟨⟨g.on, ha, fun l => g.no l (by simp), by have := h.exec; have e2 : D.run 0 [(1, o, v)] = D.store 0 o v := rfl; rw [e2] at he; simp at he; omega, hb⟩, fun i => ?_⟩
  unfold Dev.cur
  rw [g.pers, g.hist, List.nil_append]
  show look (D.hist (i / 8) ++ filtL [(o, v)] (i / 8)) (D.pers i) i = _
  rw [look_append, look_filt]
  rfl
theorem Lv.mono {D : Dev} {x y : Nat} (h : Lv D 0 24 x) (hxy : x ≤ y) : Lv D 0 24 y := ⟨h.on, h.armed, h.no, Nat.le_trans h.exec hxy, h.vb⟩
/-- What the loop asks of an act. -/
def ActAt (w : World) (xs : List Value) (k : Nat) : Prop := ∃ (wv : Value) (l : List Nat) (x : Int), xs[k * 2]? = some wv ∧ xs[k * 2 + 1]? = some (.int .u64 x) ∧ (0 ≤ x ∧ x < 18446744073709551616) ∧ RdSl w 1 wv l.length (natsB l) ∧ (∀ n ∈ l, n < 256) ∧ l.length ≤ maxLen
section
variable {w w1 wc : World} {v : DV} {own : Nat → Option Role} {D : Dev} {lb : Nat}
/-- Another slice's words are written. -/
theorem LSt.poke {j off n g : Nat} (h : LSt w v own D lb j off n wc) (hu : Upd (fun k => k = g) wc w1) (hg : own g = none) (hl : g ≠ lb) (hw : w.heap.size ≤ g) : LSt w v own D lb j off n w1 := by
  refine ⟨⟨h.log.dev.upd hu (fun k hk e => hk (by rw [e]; exact hg)), h.log.blk.upd hu (fun e => hl e.symm), h.log.ob, h.log.hj, h.log.n2, h.log.o64, h.log.fit⟩, h.ob, h.lb, ?_⟩
  exact h.bel.trans ⟨hu.os, hu.tape, hu.output, hu.size, fun k hk => hu.block k (Nat.lt_of_lt_of_le hk h.bel.size) (fun e => by omega)⟩
theorem Upd.set1 (w : World) (g i : Nat) (u : Value) : Upd (fun k => k = g) w (w.setCell ⟨g, i, none⟩ u) := (Upd.refl (fun k => k = g) w).setCell (p := ⟨g, i, none⟩) (fun _ => rfl) u
theorem Wh.all' {wx : World} (h : Wh wx) : wx.cell? ⟨0, 0, none⟩ = some (.int .u64 192) ∧ wx.cell? ⟨0, 1, none⟩ = some (.int .u64 512) ∧ wx.cell? ⟨0, 2, none⟩ = some (.int .u64 1536) := ⟨h.c0, h.c1, h.c2⟩
theorem thread2_any {wx : World} (h : IsDev wx v own D) : Calls Tryd.prog 15 #[.pointer (some ⟨v.db, 0, none⟩), .int .i64 2] wx fun r w' => r = .returned (.pointer (some ⟨v.tb 2, 0, none⟩)) ∧ wx = w' := thread_any h (j := 2) (by omega)
theorem thread3_any {wx : World} (h : IsDev wx v own D) : Calls Tryd.prog 15 #[.pointer (some ⟨v.db, 0, none⟩), .int .i64 3] wx fun r w' => r = .returned (.pointer (some ⟨v.tb 3, 0, none⟩)) ∧ wx = w' := thread_any h (j := 3) (by omega)
theorem open24 {wx : World} (h : IsDev wx v own D) (hn : D.n = 24) {j : Nat} (hj : j < 8) : Calls Tryd.prog 13 #[.iface 32 (.pointer (some ⟨v.tb j, 0, none⟩)), .int .i64 3, .int .i64 5] wx (OpenPost wx v own D j 192 5) := uOpen_ok h hj 3 5 (by omega) (by omega)
theorem look24 {wx : World} (h : IsDev wx v own D) (hn : D.n = 24) {j : Nat} (hj : j < 8) (hof : D.off = false) (hvb : D.VB) :
    Calls Tryd.prog 14 #[.iface 32 (.pointer (some ⟨v.tb j, 0, none⟩)), .int .i64 3, .int .i64 5] wx fun r w' => ∃ sv, r = .returned sv ∧ Acc wx wx.heap.size w' 102 2 sv (savedL D.cur 192 5).length (flat (savedL D.cur 192 5)) := uLook_any h hj 3 5 (by omega) (by omega) hof hvb
end
end Go.Proofs.YtokgplgdaememaaDoor

/- What Save and Commit make of the log and of what is pending, plain. -/
namespace Go.Proofs.YtokgplgdaememaaDoor
open Go.RowKit Go.Maps

theorem freshStep_sub (C : Nat → Int) (K : List Nat) (F : List (Nat × Int)) (o : Nat) : (∀ e ∈ F, e ∈ freshStep C K F o) ∧ (o ∈ K ∨ o ∈ (freshStep C K F o).map (·.1)) := by
  unfold freshStep
  split
  · rename_i h
    refine ⟨fun e he => he, ?_⟩
    simp at h
    rcases h with h | h
    · exact .inl h
    · right; simpa using h
  · exact ⟨fun e he => by simp [he], .inr (by simp)⟩
theorem freshF_all (C : Nat → Int) (K offs : List Nat) : ∀ F : List (Nat × Int), (∀ e ∈ F, e ∈ offs.foldl (freshStep C K) F) ∧ ∀ o ∈ offs, o ∈ K ∨ o ∈ (offs.foldl (freshStep C K) F).map (·.1) := by
  induction offs with
  | nil => intro F; exact ⟨fun e he => he, fun o ho => by simp at ho⟩
  | cons x offs ih =>
    intro F
    obtain ⟨h1, h2⟩ := freshStep_sub C K F x
    obtain ⟨i1, i2⟩ := ih (freshStep C K F x)
    refine ⟨fun e he => i1 e (h1 e he), fun o ho => ?_⟩
    rcases List.mem_cons.1 ho with rfl | ho
    · rcases h2 with h2 | h2
      · exact .inl h2
      · obtain ⟨e, he, rfl⟩ := List.mem_map.1 h2
        exact .inr (List.mem_map.2 ⟨e, i1 e he, rfl⟩)
    · exact i2 o ho
theorem freshL_all (C : Nat → Int) (K offs : List Nat) : ∀ o ∈ offs, o ∈ K ∨ o ∈ (freshL C K offs).map (·.1) := (freshF_all C K offs []).2
theorem look_plan (F : List (Nat × Int)) : ∀ (b : Nat) (d : Int) (i : Nat), b % 8 = 0 → (i < b / 8 → look (planWs b F) d i = d) ∧ ∀ (j : Nat) (e : Nat × Int), F[j]? = some e → (i = b / 8 + 2 * j → look (planWs b F) d i = e.1) ∧ (i = b / 8 + 2 * j + 1 → look (planWs b F) d i = e.2) := by
  induction F with
  | nil => intro b d i _; exact ⟨fun _ => rfl, fun j e h => by simp at h⟩
  | cons x F ih =>
    intro b d i hb
    have e0 : look (planWs b (x :: F)) d i = look (planWs (b + 16) F) (if (b + 8) / 8 = i then x.2 else if b / 8 = i then x.1 else d) i := rfl
    rw [e0]
    refine ⟨fun hi => ?_, fun j e hj => ?_⟩
    · rw [(ih (b + 16) _ i (by omega)).1 (by omega), if_neg (by omega), if_neg (by omega)]
    · cases j with
      | zero =>
        simp at hj; subst hj
        refine ⟨fun hi => ?_, fun hi => ?_⟩
        · rw [(ih (b + 16) _ i (by omega)).1 (by omega), if_neg (by omega), if_pos (by omega)]
        · rw [(ih (b + 16) _ i (by omega)).1 (by omega), if_pos (by omega)]
      | succ j =>
        simp at hj
        have := (ih (b + 16) (if (b + 8) / 8 = i then x.2 else if b / 8 = i then x.1 else d) i (by omega)).2 j e hj
        exact ⟨fun hi => this.1 (by omega), fun hi => this.2 (by omega)⟩
/-- Save adds the fresh entries behind those that are there. -/
theorem saved_plan {C C' : Nat → Int} {F : List (Nat × Int)} (hc0 : 0 ≤ C 24) (hc : C 24 ≤ 16) (hf : sN C + F.length ≤ 16) (hC : ∀ i, C' i = look (if F = [] then [] else planWs (192 + 64 + 16 * sN C) F ++ [(192, ((sN C + F.length : Nat) : Int))]) (C i) i) :
    savedL C' 192 5 = savedL C 192 5 ++ F ∧ 0 ≤ C' 24 ∧ C' 24 ≤ 16 := by
  have hs : sN C = (C 24).toNat := by
    unfold sN savedL; rw [entsL_len]; unfold cntL
    rw [show 192 / 8 = 24 from rfl, if_neg (by omega)]
  by_cases h0 : F = []
  · subst h0
    have : C' = C := by funext i; rw [hC]; rfl
    subst this
    exact ⟨by simp, hc0, hc⟩
  · have hC2 : ∀ i, C' i = if 24 = i then ((sN C + F.length : Nat) : Int) else look (planWs (192 + 64 + 16 * sN C) F) (C i) i := fun i => by
      rw [hC, if_neg h0, look_snoc]; simp only [show 192 / 8 = 24 from rfl]
    have h24 : C' 24 = ((sN C + F.length : Nat) : Int) := by rw [hC2, if_pos rfl]
    have hn : cntL C' 192 5 = sN C + F.length := by
      unfold cntL
      rw [show 192 / 8 = 24 from rfl, h24, if_neg (by omega), Int.toNat_natCast]
    have hn0 : cntL C 192 5 = sN C := by unfold sN savedL; rw [entsL_len]
    refine ⟨?_, by omega, by omega⟩
    unfold savedL
    rw [hn, hn0]
    refine List.ext_getElem? fun k => ?_
    have hl1 : (entsL C 192 (sN C)).length = sN C := entsL_len _ _ _
    by_cases hk : k < sN C
    · rw [List.getElem?_append_left (by omega)]
      unfold entsL
      rw [List.getElem?_map, List.getElem?_map, List.getElem?_range (by omega), List.getElem?_range hk]
      simp only [Option.map_some]
      have l1 := (look_plan F (192 + 64 + 16 * sN C) (C (192 / 8 + 8 + 2 * k)) (192 / 8 + 8 + 2 * k) (by omega)).1 (by omega)
      have l2 := (look_plan F (192 + 64 + 16 * sN C) (C (192 / 8 + 9 + 2 * k)) (192 / 8 + 9 + 2 * k) (by omega)).1 (by omega)
      rw [hC2, hC2, if_neg (by omega), if_neg (by omega), l1, l2]
    · rw [List.getElem?_append_right (by omega), hl1]
      by_cases hk2 : k - sN C < F.length
      · obtain ⟨e, he⟩ : ∃ e, F[k - sN C]? = some e := ⟨_, List.getElem?_eq_getElem hk2⟩
        rw [he]
        unfold entsL
        rw [List.getElem?_map, List.getElem?_range (by omega)]
        simp only [Option.map_some]
        have l1 := ((look_plan F (192 + 64 + 16 * sN C) (C (192 / 8 + 8 + 2 * k)) (192 / 8 + 8 + 2 * k) (by omega)).2 _ e he).1 (by omega)
        have l2 := ((look_plan F (192 + 64 + 16 * sN C) (C (192 / 8 + 9 + 2 * k)) (192 / 8 + 9 + 2 * k) (by omega)).2 _ e he).2 (by omega)
        rw [hC2, hC2, if_neg (by omega), if_neg (by omega), l1, l2, Int.toNat_natCast]
      · rw [List.getElem?_eq_none (by rw [entsL_len]; omega), List.getElem?_eq_none (by omega)]
theorem stores_hist {s : PerH} (ws : List (Nat × Int)) (l : Nat) (h : (laidX s (storesGs ws)).2 l ≠ []) : s.2 l ≠ [] := by
  intro h0
  apply h
  unfold storesGs
  split
  · exact h0
  · show (if hitB (lineOffs (ws.map (·.1))) l = true then [] else s.2 l ++ filtL ws l) = []
    split
    · rfl
    · rename_i hn
      rw [h0, List.nil_append]
      unfold filtL
      rw [List.filter_eq_nil_iff]
      intro e he hl
      exact hn ((lineOffs_hit _ _).2 ⟨e.1, List.mem_map.2 ⟨e, he, rfl⟩, by simpa using hl⟩)
theorem plan_hist {s : PerH} (off k : Nat) (F : List (Nat × Int)) (l : Nat) (h : (laidX s (planGs off k F)).2 l ≠ []) : s.2 l ≠ [] := by
  unfold planGs at h
  split at h
  · exact h
  · rw [laidX_append] at h; exact stores_hist _ _ (stores_hist _ _ h)
/-- A device on which words have been saved, and then stored to. -/
structure Cm (D : Dev) (x : Nat) : Prop where
  lv : Lv D 0 24 x
  c0 : 0 ≤ D.cur 24
  c1 : D.cur 24 ≤ 16
  ok : ∀ e ∈ savedL D.cur 192 5, allowedB 1536 192 5 e.1 = true
  hist : ∀ l, D.hist l ≠ [] → ∃ e ∈ savedL D.cur 192 5, e.1 / 64 = l
theorem W0_24 : W0 24 = 0 := by decide
theorem D0_cm : Cm D0 0 := by
  have h : savedL D0.cur 192 5 = [] := by
    unfold savedL cntL
    rw [show 192 / 8 = 24 from rfl, D0_cur, W0_24]; rfl
  exact ⟨D0_cl.lv, by rw [D0_cur, W0_24]; omega, by rw [D0_cur, W0_24]; omega, fun e he => by rw [h] at he; simp at he, fun l hl => absurd (D0_cl.hist l) hl⟩
theorem Cm.mono {D : Dev} {x y : Nat} (h : Cm D x) (hxy : x ≤ y) : Cm D y := ⟨h.lv.mono hxy, h.c0, h.c1, h.ok, h.hist⟩
/-- Save. -/
theorem Cm.save {D : Dev} {x : Nat} (h : Cm D x) (offs : List Nat) (ho : ∀ o ∈ offs, o < 2048) (hg : ∀ o ∈ offs, allowedB 1536 192 5 o = true) (hf : ¬ 16 < sN D.cur + (fL D.cur offs).length) :
    Cm (savD D offs) (x + 100) ∧ savedL (savD D offs).cur 192 5 = savedL D.cur 192 5 ++ fL D.cur offs ∧ ∀ o ∈ offs, ∃ e ∈ savedL (savD D offs).cur 192 5, e.1 = o := by
  have hl := savD_lv h.lv offs ho
  have hrun := (h.lv.run (plan_fit hf) (planGs_val (fL_in D.cur offs h.lv.vb.cur ho) (by omega)))
  have hcur : ∀ i, (savD D offs).cur i = look (if fL D.cur offs = [] then [] else planWs (192 + 64 + 16 * sN D.cur) (fL D.cur offs) ++ [(192, ((sN D.cur + (fL D.cur offs).length : Nat) : Int))]) (D.cur i) i := fun i => by
    unfold savD
    rw [if_neg hf, plan_groups, h.lv.run_cur (plan_fit hf) (planGs_val (fL_in D.cur offs h.lv.vb.cur ho) (by omega)), planGs_flat]
  obtain ⟨hs, h0, h1⟩ := saved_plan h.c0 h.c1 (by omega) hcur
  refine ⟨⟨hl, h0, h1, fun e he => ?_, fun l hh => ?_⟩, hs, fun o hm => ?_⟩
  · rw [hs] at he
    rcases List.mem_append.1 he with he | he
    · exact h.ok e he
    · exact hg _ (freshL_mem _ _ _ e he).1
  · unfold savD at hh
    rw [if_neg hf, plan_groups, hrun.2.hist l] at hh
    simp only [filtL, List.filter_nil, List.append_nil] at hh
    obtain ⟨e, he, h2⟩ := h.hist l (plan_hist (s := perH D) _ _ _ _ hh)
    exact ⟨e, by rw [hs]; exact List.mem_append_left _ he, h2⟩
  · rw [hs]
    rcases freshL_all D.cur ((savedL D.cur 192 5).map (·.1)) offs o hm with h2 | h2
    · obtain ⟨e, he, rfl⟩ := List.mem_map.1 h2
      exact ⟨e, List.mem_append_left _ he, rfl⟩
    · obtain ⟨e, he, rfl⟩ := List.mem_map.1 h2
      exact ⟨e, List.mem_append_right _ he, rfl⟩
/-- A store to a word that is saved. -/
theorem Cm.store {D : Dev} {x : Nat} (h : Cm D x) (o : Nat) (v : Int) (hs : ∃ e ∈ savedL D.cur 192 5, e.1 = o) (hv : 0 ≤ v ∧ v < 18446744073709551616) :
    Cm (D.store 0 o v) (x + 1) ∧ savedL (D.store 0 o v).cur 192 5 = savedL D.cur 192 5 ∧ ∀ i, (D.store 0 o v).cur i = if o / 8 = i then v else D.cur i := by
  obtain ⟨e0, he0, heo⟩ := hs
  have hao := allowed_out (heo ▸ h.ok e0 he0)
  obtain ⟨h1, h2⟩ := h.lv.store o v ⟨hao.1, hao.2.1⟩ hv
  have hsv : savedL (D.store 0 o v).cur 192 5 = savedL D.cur 192 5 := savedL_congr (fun i ha hb => by rw [h2, if_neg (by omega)])
  have h24 : (D.store 0 o v).cur 24 = D.cur 24 := by rw [h2, if_neg (by omega)]
  refine ⟨⟨h1, by rw [h24]; exact h.c0, by rw [h24]; exact h.c1, by rw [hsv]; exact h.ok, fun l hh => ?_⟩, hsv, h2⟩
  rw [hsv]
  obtain ⟨g, _⟩ := h.lv.gx.store (k := 0) (.inl h.lv.armed) o v hao.1 (by omega)
  rw [g.hist, List.nil_append] at hh
  by_cases hd : D.hist l = []
  · refine ⟨e0, he0, ?_⟩
    have : filtL [(o, v)] l ≠ [] := fun e => hh (by rw [e]; simp [perH, hd])
    simp [filtL] at this
    omega
  · exact h.hist l hd
/-- Commit. -/
theorem Cm.commit {D : Dev} {x : Nat} (h : Cm D x) : Cl (D.run 0 (commitP 192 (savedL D.cur 192 5) (validL 1536 192 5 (savedL D.cur 192 5)))) (x + 100) ∧
    ∀ i, (D.run 0 (commitP 192 (savedL D.cur 192 5) (validL 1536 192 5 (savedL D.cur 192 5)))).cur i = if i = 24 then 0 else D.cur i := by
  have hV : validL 1536 192 5 (savedL D.cur 192 5) = savedL D.cur 192 5 := by
    unfold validL
    exact List.filter_eq_self.2 (fun e he => h.ok e he)
  have hsl : (savedL D.cur 192 5).length ≤ 16 := by unfold savedL; rw [entsL_len]; exact cntL_le _ _ _
  have hln := commitP_len (off := 192) (savedL D.cur 192 5) (savedL D.cur 192 5)
  rw [hV, commit_groups]
  have hgo : ∀ g ∈ commitGs 192 (savedL D.cur 192 5) (savedL D.cur 192 5), groupOkX 24 g := commitGs_ok (by omega) (by omega) (fun e he => by have := allowed_out (h.ok e he); omega)
  have hgv : valP (groupsP (commitGs 192 (savedL D.cur 192 5) (savedL D.cur 192 5))) := valP_groups (fun e he => by
    rw [commitGs_flat] at he
    split at he
    · simp at he
    · simp at he; subst he; simp)
  obtain ⟨h1, h2⟩ := h.lv.run hgo hgv
  have hgl : (groupsP (commitGs 192 (savedL D.cur 192 5) (savedL D.cur 192 5))).length ≤ 100 := by
    rw [← commit_groups]
    unfold commitP
    split
    · simp
    · have a1 := flushL_len ((savedL D.cur 192 5).map (·.1)); have a2 := store1_len 192 0
      rw [List.length_map] at a1
      rw [List.length_append]; omega
  refine ⟨⟨h1.mono (by omega), fun l => ?_⟩, fun i => ?_⟩
  · rw [h2.hist l]
    simp only [filtL, List.filter_nil, List.append_nil]
    unfold commitGs
    split
    · rename_i hn
      show D.hist l = []
      by_cases hd : D.hist l = []
      · exact hd
      · obtain ⟨e, he, _⟩ := h.hist l hd; rw [hn] at he; simp at he
    · rw [laidX_append]
      refine clean_stores (fun l => ?_) _ l
      unfold flushGs
      split
      · rename_i hn hm; simp at hm; exact absurd hm hn
      · show (if hitB (lineOffs ((savedL D.cur 192 5).map (·.1))) l = true then [] else D.hist l ++ filtL [] l) = []
        split
        · rfl
        · rename_i hn
          by_cases hd : D.hist l = []
          · rw [hd]; rfl
          · obtain ⟨e, he, hel⟩ := h.hist l hd
            exact absurd ((lineOffs_hit _ _).2 ⟨e.1, List.mem_map.2 ⟨e, he, rfl⟩, hel⟩) hn
  · rw [h.lv.run_cur hgo hgv, commitGs_flat]
    split
    · rename_i hn
      by_cases hi : i = 24
      · subst hi
        rw [if_pos rfl]
        have : (savedL D.cur 192 5).length = 0 := by rw [hn]; rfl
        unfold savedL at this
        rw [entsL_len] at this
        unfold cntL at this
        rw [show 192 / 8 = 24 from rfl, if_neg (by have := h.c1; omega)] at this
        have := h.c0
        show D.cur 24 = 0
        omega
      · rw [if_neg hi]; rfl
    · show (if 192 / 8 = i then (0 : Int) else D.cur i) = _
      by_cases hi : i = 24
      · rw [if_pos (by omega), if_pos hi]
      · rw [if_neg (by omega), if_neg hi]
theorem Cl.img {D : Dev} {x : Nat} (h : Cl D x) (ks : Nat → Nat) (i : Nat) : D.img ks i = D.cur i := by
  unfold Dev.img Dev.cur; rw [h.hist]; simp
theorem Kp.two {own : Nat → Option Role} {wc : World} {b : Nat} {u z : Value} (h : Kp own wc 2 (.slice (some ⟨b, 0, none⟩) 1 1) 1 [u, z]) : wc.cell? ⟨b, 0, none⟩ = some u ∧ wc.cell? ⟨b, 1, none⟩ = some z := by
  obtain ⟨_, a, c, e, _, h2⟩ := h.rd
  cases e
  rcases h2 with h2 | ⟨b', o', e, h2⟩
  · cases h2
  · cases e
    exact ⟨h2 0 _ rfl, h2 1 _ rfl⟩
theorem Kp.boxed {w wc : World} {v : DV} {own : Nat → Option Role} {D : Dev} {lb j off n : Nat} (h : LSt w v own D lb j off n wc) (u z : Value) (t : TypeId) :
    Kp own (wc.alloc (.cells #[u, z] t)) 2 (.slice (some ⟨wc.heap.size, 0, none⟩) 1 1) 1 [u, z] := ⟨RdSl.new wc _ t 2 1 rfl, fun k hk => by
  simp [Value.ownBlock] at hk; subst hk
  refine ⟨?_, by simp⟩
  cases ho : own wc.heap.size with
  | none => rfl
  | some r => have := h.log.dev.lt wc.heap.size (by rw [ho]; simp); omega⟩
theorem savedL_le (C : Nat → Int) : (savedL C 192 5).length ≤ 16 := by unfold savedL; rw [entsL_len]; exact cntL_le _ _ _
theorem saved_vin {C : Nat → Int} (hC : ∀ i, 0 ≤ C i ∧ C i < 18446744073709551616) : VIn (validL 1536 192 5 (savedL C 192 5)) := by
  have h1 := validL_len 1536 192 5 (savedL C 192 5); have h2 := savedL_le C
  refine ⟨by omega, fun e he => ?_⟩
  unfold validL at he
  exact (saved_lt hC e (List.mem_filter.1 he).1).1
theorem load24 {w : World} {v : DV} {own : Nat → Option Role} {D : Dev} {lb x : Nat} (h : LogAt w v own D lb 0 192 5) (hl : Lv D 0 24 x) : LoadIs w lb (savedL D.cur 192 5) (validL 1536 192 5 (savedL D.cur 192 5)) := by
  have := uload_any h hl.on.off hl.on.err hl.vb
  rw [hl.on.n] at this
  exact this
theorem fresh_same {w : World} {v : DV} {own : Nat → Option Role} {n : Nat} {f g : Nat → Int} (h : IsDev w v own (Dev.fresh n f)) (hfg : ∀ i, i < 8 * n → f i = g i) : IsDev w v own (Dev.fresh n g) :=
  { wf := ⟨h.wf.pos, h.wf.le, h.wf.line, h.wf.cnt, h.wf.note, h.wf.left⟩, dev := h.dev, pers := h.pers.congr (fun i hi => by show Value.int .u64 (f i) = .int .u64 (g i); rw [hfg i hi]), cur := h.cur.congr (fun i hi => by show Value.int .u64 (f i) = .int .u64 (g i); rw [hfg i hi]),
    lines := h.lines, thr := h.thr, notes := h.notes, odb := h.odb, opb := h.opb, ocb := h.ocb, olb := h.olb, otb := h.otb, onb := h.onb, lt := h.lt, pcs := h.pcs }
theorem saved0 {C : Nat → Int} (h : C 24 = 0) : savedL C 192 5 = [] := by
  unfold savedL cntL
  rw [show 192 / 8 = 24 from rfl, h]; rfl
theorem wrap_bd (z : Int) : 0 ≤ IntKind.u64.wrap z ∧ IntKind.u64.wrap z < 18446744073709551616 := by rw [IntKind.wrap_u64]; omega
section
variable {w : World} {v : DV} {own : Nat → Option Role} {D : Dev} {x : Nat}
theorem image24 (hL : IsDev w v own D) (h : Cl D x) (cv : Value) (cs : List Int) (hc : RdSl w 1 cv cs.length (cs.map fun x => .int .u8 x)) (hcb : ∀ x ∈ cs, 0 ≤ x ∧ x < 256) (hcl : cs.length ≤ maxLen) (hex : D.exec < 4611686018427387904) :
    Calls Tryd.prog 46 #[.pointer (some ⟨v.db, 0, none⟩), cv] w fun r w' => ∃ g, r = .returned (.slice (some ⟨g, 0, none⟩) 1536 1536) ∧ Row w' g 1536 5 (fun i => .int .u8 (byteAt D.cur i)) ∧ Below w.heap.size w w' := by
  refine (image_any hL h.lv.vb cv cs hc hcb hcl hex).mono ?_
  rintro r w' ⟨ks, g, _, _, hr, hrow, hb⟩
  have himg : D.img ks = D.cur := funext (h.img ks)
  rw [himg, h.lv.on.n] at hrow
  rw [h.lv.on.n] at hr
  exact ⟨g, hr, hrow, hb⟩
theorem crash24 (hL : IsDev w v own D) (h : Cl D x) (cv : Value) (cs : List Int) (hc : RdSl w 1 cv cs.length (cs.map fun x => .int .u8 x)) (hcb : ∀ x ∈ cs, 0 ≤ x ∧ x < 256) (hcl : cs.length ≤ maxLen) (hex : D.exec < 4611686018427387904) :
    Calls Tryd.prog 47 #[.pointer (some ⟨v.db, 0, none⟩), cv] w fun r w' => ∃ (v' : DV) (own' : Nat → Option Role), r = .returned (.pointer (some ⟨v'.db, 0, none⟩)) ∧ IsDev w' v' own' (Dev.fresh 24 D.cur) ∧ Below w.heap.size w w' := by
  refine (crash_any hL h.lv.vb cv cs hc hcb hcl hex).mono ?_
  rintro r w' ⟨ks, v', own', _, hr, ⟨f, hf, hd⟩, _, hb⟩
  rw [h.lv.on.n] at hd hf
  exact ⟨v', own', hr, fresh_same hd (fun i hi => by rw [hf i hi, h.img]), hb⟩
theorem saved_none {lb j off n : Nat} (h : LogAt w v own D lb j off n) (ho : D.off = false) (hvb : D.VB) (h0 : savedL D.cur off n = []) :
    Calls Tryd.prog 28 #[.pointer (some ⟨lb, 0, none⟩)] w fun r w' => ∃ a c, r = .returned (.slice a 0 c) ∧ Below w.heap.size w w' := by
  refine (uSaved_any h ho hvb).mono ?_
  rintro r w' ⟨sv, rfl, ha⟩
  rw [h0] at ha
  obtain ⟨a, c, rfl⟩ := ha.slice
  exact ⟨a, c, rfl, ha.bel⟩
theorem look_none (h : IsDev w v own D) (hn : D.n = 24) (hof : D.off = false) (hvb : D.VB) (h0 : savedL D.cur 192 5 = []) :
    Calls Tryd.prog 14 #[.iface 32 (.pointer (some ⟨v.tb 0, 0, none⟩)), .int .i64 3, .int .i64 5] w fun r w' => ∃ a c, r = .returned (.slice a 0 c) ∧ Below w.heap.size w w' := by
  refine (look24 h hn (j := 0) (by omega) hof hvb).mono ?_
  rintro r w' ⟨sv, rfl, ha⟩
  rw [h0] at ha
  obtain ⟨a, c, rfl⟩ := ha.slice
  exact ⟨a, c, rfl, ha.bel⟩
theorem look_fresh {f : Nat → Int} (h : IsDev w v own (Dev.fresh 24 f)) (hf : ∀ i, 0 ≤ f i ∧ f i < 18446744073709551616) (h0 : savedL f 192 5 = []) :
    Calls Tryd.prog 14 #[.iface 32 (.pointer (some ⟨v.tb 0, 0, none⟩)), .int .i64 3, .int .i64 5] w fun r w' => ∃ a c, r = .returned (.slice a 0 c) ∧ Below w.heap.size w w' := look_none h rfl rfl (fresh_vb hf) h0
end
end Go.Proofs.YtokgplgdaememaaDoor

/- The reference of layer 16: Restored. -/
namespace Go.Proofs.YtokgplgdaememaaDoor
open Go.RowKit Go.Maps
attribute [local go_sem ↓] Go.wp_at_zero Go.wp_at_succ
/-- The words behind a rollback. -/
def resC (C : Nat → Int) (i : Nat) : Int := look (if savedL C 192 5 = [] then [] else validL 1536 192 5 (savedL C 192 5) ++ [(192, 0)]) (C i) i
theorem getL_set (f : Nat → Int) (n d : Nat) (x : Int) (_h : d < n) : (getL f n).set d x = getL (fun i => if i = d then x else f i) n := by
  unfold getL
  refine List.ext_getElem? fun k => ?_
  by_cases hk : k < n
  · by_cases e : k = d
    · subst e
      rw [List.getElem?_set_self (by simpa using hk), List.getElem?_map, List.getElem?_range hk]; simp
    · rw [List.getElem?_set_ne (fun h => e h.symm), List.getElem?_map, List.getElem?_map, List.getElem?_range hk]; simp [e]
  · rw [List.getElem?_eq_none (by simp; omega), List.getElem?_eq_none (by simp; omega)]
theorem getL_congr {f g : Nat → Int} {n : Nat} (h : ∀ i, f i = g i) : getL f n = getL g n := by rw [funext h]
section
variable {w : World} {sv : Value} {C : Nat → Int}
/-- A copy of words that is being written. -/
structure Cp (w0 w3 : World) (g o c : Nat) (f : Nat → Int) (wr : World) : Prop where
  own : WrU wr g o c (getL f 192)
  lo : w0.heap.size ≤ g
  bel : Below w0.heap.size w0 wr
  sz : w0.heap.size ≤ wr.heap.size
  upd : Upd (fun k => k = g) w3 wr
theorem Cp.acc {w0 w3 wr : World} {g o c : Nat} {f : Nat → Int} (h : Cp w0 w3 g o c f wr) : Acc w0 w0.heap.size wr 35 1 (.slice (some ⟨g, o, none⟩) 192 c) 192 (intsU (getL f 192)) := by
  have := h.own
  unfold WrU at this
  rw [getL_len] at this
  exact ⟨this, fun k hk => by simp [Value.ownBlock] at hk; subst hk; exact h.lo, h.bel, h.sz⟩
theorem Cp.set {w0 w3 wr w1 : World} {g o c : Nat} {f : Nat → Int} (h : Cp w0 w3 g o c f wr) (hb : Below wr.heap.size wr w1) (d : Nat) (hd : d < 192) (x : Int) : Cp w0 w3 g o c (fun i => if i = d then x else f i) (w1.setCell ⟨g, o + d, none⟩ (.int .u64 x)) := by
  have h1 : WrU w1 g o c (getL f 192) := h.own.upd (Upd.of_below (S := fun _ => False) hb) (fun h => h)
  have h2 := h1.set d (by rw [getL_len]; exact hd) x
  rw [getL_set f 192 d x hd] at h2
  refine ⟨h2, h.lo, ?_, Nat.le_trans h.sz (Nat.le_trans hb.size (by simp [World.setCell])), ?_⟩
  · exact below_upd (h.bel.trans (hb.mono h.sz)) ((Upd.refl (fun k => k = g) w1).setCell (p := ⟨g, o + d, none⟩) (fun _ => rfl) _) (Nat.le_trans h.sz hb.size) h.lo
  · exact (h.upd.trans (Upd.of_below (S := fun k => k = g) hb) (fun _ _ hk => hk)).setCell (p := ⟨g, o + d, none⟩) (fun _ => rfl) _
theorem Cp.next {w0 w3 wr w1 : World} {g o c : Nat} {f : Nat → Int} (h : Cp w0 w3 g o c f wr) (hb : Below wr.heap.size wr w1) : Cp w0 w3 g o c f w1 :=
  ⟨h.own.upd (Upd.of_below (S := fun _ => False) hb) (fun h => h), h.lo, h.bel.trans (hb.mono h.sz), Nat.le_trans h.sz hb.size, h.upd.trans (Upd.of_below (S := fun k => k = g) hb) (fun _ _ hk => hk)⟩
theorem Cp.congr {w0 w3 wr : World} {g o c : Nat} {f f' : Nat → Int} (h : Cp w0 w3 g o c f wr) (hf : ∀ i, f i = f' i) : Cp w0 w3 g o c f' wr := by
  have e : f = f' := funext hf
  subst e; exact h
theorem empty_own (w1 : World) : OwnSl (w1.alloc (.cells #[] 35)) 35 1 (.slice (some ⟨w1.heap.size, 0, none⟩) 0 0) 0 [] := OwnSl.new w1 #[] 35 1 0 0 rfl (Nat.le_refl _) (by unfold maxLen; omega)
set_option maxRecDepth 100000 in
set_option maxHeartbeats 8000000 in
theorem r16Restored_any (h : WIn w sv C) : Calls Tryd.prog 44 #[.agg #[.int .u64 192, .int .u64 512, .int .u64 1536], sv] w fun r w' => ∃ ov, r = .returned (.tuple #[ov, .int .i64 (validL 1536 192 5 (savedL C 192 5)).length]) ∧ Acc w w.heap.size w' 35 1 ov 192 (intsU (getL (resC C) 192)) := by
  have H := Lib.hid h
  have HS := Lib.hid (fun wx (hx : WIn wx sv C) => r16Saved_any hx)
  have HV := Lib.hid (fun wx (hx : WIn wx sv C) => r16valid_any hx)
  have hvm : ∀ e ∈ validL 1536 192 5 (savedL C 192 5), e.1 < 1536 := fun e he => by
    unfold validL at he
    exact (allowed_out (List.mem_filter.1 he).2).2.1
  have HVM := Lib.hid hvm
  have hrd := h.rd
  have HC64 := Lib.hid h.bd
  obtain ⟨sa, sc, hsv⟩ := h.slice
  subst hsv
  have hsl := savedL_le C
  have hvl := validL_len 1536 192 5 (savedL C 192 5)
  have HRES : Hid (∀ i, resC C i = look (if savedL C 192 5 = [] then [] else validL 1536 192 5 (savedL C 192 5) ++ [(192, 0)]) (C i) i) := fun i => rfl
  have HV0 : Hid (savedL C 192 5 = [] → validL 1536 192 5 (savedL C 192 5) = []) := fun e => by rw [e]; rfl
  generalize resC C = RC at *
  generalize validL 1536 192 5 (savedL C 192 5) = V at *
  generalize savedL C 192 5 = S at *
  generalize hs : S.length = s at *
  generalize hv : V.length = m at *
  have HL := Lib.hid (And.intro hs hv); clear hs hv h hvm
  obtain ⟨i0, hi0, hz0, hz1, hz2⟩ := info_parts infoU64
  have I := Lib.hid (And.intro hi0 (And.intro hz0 (And.intro hz1 hz2))); clear hi0 hz0 hz1 hz2
  have X0 := Lib.hid (Bx.new w)
  have HRD : Hid (RdSl w 1 (.slice sa 192 sc) 192 (intsU (getL C 192))) := hrd
  clear hrd
  go_enter Tryd.func44, Tryd.ntmps44
  go_wp2_with (at_builtin; refine wpList_append_sl _ rfl _ _ 44 rfl 35 i0 _ 1 8 Tryd.underlying44 I.out.1 I.out.2.1 I.out.2.2.1 I.out.2.2.2 rfl (by decide) _ 0 [] rfl (by have := empty_own (w.alloc (.cells #[.int .u64 192, .int .u64 512, .int .u64 1536] 37)); rw [show (w.alloc (.cells #[.int .u64 192, .int .u64 512, .int .u64 1536] 37)).heap.size = w.heap.size + 1 by simp] at this; exact this) _ 192 (intsU (getL C 192)) rfl (by exact (HRD.out.alloc _).alloc _) (fun u hu => by simp [intsU] at hu; obtain ⟨a, _, rfl⟩ := hu; rfl) (by unfold maxLen; omega) (by omega) ?_)
  intro v1 w1 o1 g1 b1 n1
  have A1 : Hid (Acc (w.alloc (.cells #[.int .u64 192, .int .u64 512, .int .u64 1536] 37)) (w.alloc (.cells #[.int .u64 192, .int .u64 512, .int .u64 1536] 37)).heap.size w1 35 1 v1 192 (intsU (getL C 192))) := by
    have A0 : Acc (w.alloc (.cells #[.int .u64 192, .int .u64 512, .int .u64 1536] 37)) (w.alloc (.cells #[.int .u64 192, .int .u64 512, .int .u64 1536] 37)).heap.size ((w.alloc (.cells #[.int .u64 192, .int .u64 512, .int .u64 1536] 37)).alloc (.cells #[] 35)) 35 1 (.slice (some ⟨w.heap.size + 1, 0, none⟩) 0 0) 0 [] :=
      ⟨by have := empty_own (w.alloc (.cells #[.int .u64 192, .int .u64 512, .int .u64 1536] 37)); rw [show (w.alloc (.cells #[.int .u64 192, .int .u64 512, .int .u64 1536] 37)).heap.size = w.heap.size + 1 by simp] at this; exact this, fun g hg => by simp [Value.ownBlock] at hg; simp; omega, below_alloc _ _, by simp⟩
    have := A0.next (m := 192) (news := intsU (getL C 192)) (Below.refl _ _) (by rw [List.nil_append]; exact o1) g1 b1 (by simp)
    rw [List.nil_append, Nat.zero_add] at this
    exact this
  clear o1 g1 b1 n1
  obtain ⟨g, o, c, hv1⟩ : ∃ g o c, v1 = .slice (some ⟨g, o, none⟩) 192 c := by
    rcases A1.out.own.2 with ⟨_, h0⟩ | ⟨g, o, cap, _, hg, _⟩
    · omega
    · exact ⟨g, o, cap, hg⟩
  subst hv1
  have X1 := Lib.hid (X0.out.below A1.out.bel)
  have B1 : Hid (Below w.heap.size w w1) := (below_alloc w _).trans (A1.out.bel.mono (by simp))
  obtain ⟨x0, x1, x2⟩ := X1.out.all
  go_wp2_with fail
  (with_reducible refine (HV.out _ (H.out.below B1.out)).mono ?_)
  rintro e w2 ⟨v2, rfl, a2⟩
  obtain ⟨a2a, a2c, hv2⟩ := a2.slice
  subst hv2
  have A2 := Lib.hid a2.rd
  have CP0 : Hid (Cp (w.alloc (.cells #[.int .u64 192, .int .u64 512, .int .u64 1536] 37)) w2 g o c C w2) := by
    have hw : WrU w1 g o c (getL C 192) := by unfold WrU; rw [getL_len]; exact A1.out.own
    exact ⟨hw.upd (Upd.of_below (S := fun _ => False) a2.bel) (fun h => h), A1.out.new g rfl, A1.out.bel.trans (a2.bel.mono A1.out.lt), Nat.le_trans A1.out.lt a2.bel.size, Upd.refl _ _⟩
  have HNE : Hid ((Value.slice a2a V.length a2c).ownBlock ≠ some g) := fun e => by
    have h1 := a2.new g e
    have h2 := A1.out.own.lt g rfl
    omega
  have hglt := A1.out.own.lt g rfl
  clear a2 A1 B1 x0 x1 x2 X1
  rw [HL.out.2] at HNE ⊢
  go_wp2_with fail
  go_loopw [18] (fun y wr => ∃ a : Nat, a ≤ m ∧ y = .int .i64 a ∧ Cp (w.alloc (.cells #[.int .u64 192, .int .u64 512, .int .u64 1536] 37)) w2 g o c (fun i => look (V.take a) (C i) i) wr) (fun y _ => m - (intOf y).toNat)
  case atStart => exact ⟨0, by omega, rfl, CP0.out⟩
  case round =>
    obtain ⟨a, ha, rfl, hcp⟩ := hrel
    have CP := Lib.hid hcp; clear hcp
    by_cases hlt : a < m
    · have ha' : (a : Int) < m := by omega
      obtain ⟨e, he⟩ : ∃ e, V[a]? = some e := ⟨_, List.getElem?_eq_getElem (by rw [HL.out.2]; exact hlt)⟩
      have hrd2 : RdSl wr 2 (.slice a2a m a2c) m (flat V) := by
        have := A2.out.upd CP.out.upd (fun k hk e => HNE.out (by rw [HL.out.2] at hk; rw [hk, e]))
        rwa [HL.out.2] at this
      obtain ⟨_, a', c', e', _, hE⟩ := hrd2
      cases e'
      have hg := flat_get' V a e he
      obtain ⟨eb, eo, rfl, hE2⟩ := rd_at hE hg.1
      have c1 := hE2 _ _ hg.1; have c2 := hE2 _ _ hg.2
      rw [← Nat.add_assoc] at c2
      have HT := Lib.hid (take_snoc_get V a e he)
      have hok := HVM.out e (List.mem_of_getElem? he)
      clear hE hE2 he hg
      obtain ⟨e1, e2⟩ := e
      simp only at c1 c2 hok
      obtain ⟨d, hd⟩ : ∃ d, e1 / 8 = d := ⟨_, rfl⟩
      have q1 : (e1 : Int) / 8 = (d : Int) := by omega
      have q2 : (e1 : Int).tdiv 8 = (d : Int) := by rw [Int.tdiv_eq_ediv_of_nonneg (by omega)]; omega
      have hdn : d < 192 := by omega
      have hdn' : (d : Int) < 192 := by omega
      have CA := Lib.hid (CP.out.next (below_alloc wr (.cells #[.int .u64 (e1 : Int), .int .u64 e2] 59)))
      have hcell := CA.out.own.cell d (by rw [getL_len]; exact hdn)
      have hfro := CA.out.own.frozen (o + d)
      have CS := Lib.hid ((CP.out.set (below_alloc wr (.cells #[.int .u64 (e1 : Int), .int .u64 e2] 59)) d hdn e2).congr (f' := fun i => look (V.take (a + 1)) (C i) i) (fun i => by
        rw [HT.out, look_snoc]
        by_cases e : i = d
        · rw [if_pos e, if_pos (by show e1 / 8 = i; omega)]
        · rw [if_neg e, if_neg (by show ¬ e1 / 8 = i; omega)]))
      generalize at0 (getL (fun i => look (V.take a) (C i) i) 192) d = old at *
      clear hok hd HT
      go_wp2_with fail
      go_roundw
      case rel => exact ⟨a + 1, by omega, by go_num, CS.out⟩
      case measure => simp [intOf]; omega
    · obtain rfl : a = m := by omega
      have hVt : V.take a = V := List.take_of_length_le (by rw [HL.out.2]; omega)
      rw [hVt] at CP
      have BW : Hid (Below w.heap.size w wr) := (below_alloc w (.cells #[.int .u64 192, .int .u64 512, .int .u64 1536] 37)).trans (CP.out.bel.mono (by simp))
      have XW := Lib.hid (X0.out.below CP.out.bel)
      obtain ⟨x0, x1, x2⟩ := XW.out.all
      clear hVt
      go_wp2_with fail
      (with_reducible refine (HS.out _ (H.out.below BW.out)).mono ?_)
      rintro e w4 ⟨v4, rfl, a4⟩
      obtain ⟨a4a, a4c, hv4⟩ := a4.slice
      subst hv4
      have CP4 := Lib.hid (CP.out.next a4.bel)
      have X4 := Lib.hid (XW.out.below a4.bel)
      clear a4 CP XW BW x0 x1 x2
      rw [HL.out.1]
      obtain ⟨x0, x1, x2⟩ := X4.out.all
      by_cases hs0 : s = 0
      · have hb0 : ¬ (0 : Int) < (s : Int) := by omega
        have hS : S = [] := List.eq_nil_of_length_eq_zero (by rw [HL.out.1]; exact hs0)
        have HF := Lib.hid (CP4.out.congr (f' := RC) (fun i => by rw [HRES.out, if_pos hS, HV0.out hS]))
        clear hs0 hS
        go_wp2_with fail
        go_ret2
        exact ⟨_, rfl, HF.out.acc.deeper (below_alloc w _)⟩
      · have hb0 : (0 : Int) < (s : Int) := by omega
        have hS : ¬ S = [] := fun e => hs0 (by rw [← HL.out.1, e]; rfl)
        have hcell := CP4.out.own.cell 24 (by rw [getL_len]; omega)
        have hfro := CP4.out.own.frozen (o + 24)
        have HF := Lib.hid ((CP4.out.set (Below.refl _ _) 24 (by omega) 0).congr (f' := RC) (fun i => by
          rw [HRES.out, if_neg hS, look_snoc]
          by_cases e : i = 24
          · rw [if_pos e, if_pos (by show 192 / 8 = i; omega)]
          · rw [if_neg e, if_neg (by show ¬ 192 / 8 = i; omega)]))
        generalize at0 (getL (fun i => look V (C i) i) 192) 24 = old at *
        clear hs0 hS
        go_wp2_with fail
        go_ret2
        exact ⟨_, rfl, HF.out.acc.deeper (below_alloc w _)⟩
end
end Go.Proofs.YtokgplgdaememaaDoor

/- The law's spoilt: a device whose log holds any words. -/
namespace Go.Proofs.YtokgplgdaememaaDoor
open Go.RowKit Go.Maps
attribute [local go_sem ↓] Go.wp_at_zero Go.wp_at_succ

theorem Dev.countedD_n (D : Dev) (j : Nat) (b : Bool) : (D.countedD j b).n = D.n := by
  unfold Dev.countedD Dev.onD Dev.fail
  repeat' split
  all_goals rfl
theorem Dev.step_n (D : Dev) (j : Nat) (e : Nat × Nat × Int) : (D.step j e).n = D.n := by
  unfold Dev.step Dev.store Dev.flush Dev.fence
  repeat' split
  all_goals exact Dev.countedD_n _ _ _
theorem Dev.run_n (j : Nat) (l : List (Nat × Nat × Int)) : ∀ D : Dev, (D.run j l).n = D.n := by
  induction l with
  | nil => intro D; rfl
  | cons e l ih => intro D; exact (ih (D.step j e)).trans (D.step_n j e)
/-- The law's spoils as cells. -/
def spoB (l : List (Nat × Int)) : List Value := l.flatMap fun e => [.int .u8 e.1, .int .u64 e.2]
theorem spoB_get (l : List (Nat × Int)) : ∀ (k : Nat) (e : Nat × Int), l[k]? = some e → (spoB l)[k * 2]? = some (.int .u8 e.1) ∧ (spoB l)[k * 2 + 1]? = some (.int .u64 e.2) := by
  induction l with
  | nil => intro k e h; simp at h
  | cons x l ih =>
    intro k e he
    have hf : spoB (x :: l) = .int .u8 x.1 :: .int .u64 x.2 :: spoB l := rfl
    cases k with
    | zero => simp at he; subst he; simp [hf]
    | succ k =>
      simp at he
      rw [hf, show (k + 1) * 2 = k * 2 + 1 + 1 by omega]
      simpa using ih k e he
def spE (i : Nat) : List (Nat × Int) := [(256 + 16 * i, (offN (9 * i % 152) : Int)), (264 + 16 * i, (i : Int))]
def spS (l : List (Nat × Int)) : List (Nat × Int) := l.map fun e => (256 + 8 * (e.1 % 32), e.2)
def spW (c : Int) (l : List (Nat × Int)) : List (Nat × Int) := (List.range 16).flatMap spE ++ spS (l.take 16) ++ [(192, c)]
def stP (ws : List (Nat × Int)) : List (Nat × Nat × Int) := ws.map fun e => (1, e.1, e.2)
def flP (k : Nat) : List Nat := (List.range k).map fun i => 192 + 64 * i
def spP (c : Int) (l : List (Nat × Int)) : List (Nat × Nat × Int) := groupP (spW c l, flP 5)
theorem spW_ok {c : Int} {l : List (Nat × Int)} : ∀ e ∈ spW c l, e.1 % 8 = 0 ∧ 192 ≤ e.1 ∧ e.1 < 512 := by
  intro e he
  unfold spW spS at he
  rcases List.mem_append.1 he with he | he
  · rcases List.mem_append.1 he with he | he
    · obtain ⟨i, hi, he⟩ := List.mem_flatMap.1 he
      have hi := List.mem_range.1 hi
      unfold spE at he
      simp at he
      rcases he with rfl | rfl
      · simp only; omega
      · simp only; omega
    · obtain ⟨x, _, rfl⟩ := List.mem_map.1 he
      simp only; omega
  · simp at he; subst he; simp
theorem spW_val {c : Int} {l : List (Nat × Int)} (hc : 0 ≤ c ∧ c < 18446744073709551616) (hl : ∀ e ∈ l, e.1 < 256 ∧ 0 ≤ e.2 ∧ e.2 < 18446744073709551616) : ∀ e ∈ spW c l, 0 ≤ e.2 ∧ e.2 < 18446744073709551616 := by
  intro e he
  unfold spW spS at he
  rcases List.mem_append.1 he with he | he
  · rcases List.mem_append.1 he with he | he
    · obtain ⟨i, hi, he⟩ := List.mem_flatMap.1 he
      have hi := List.mem_range.1 hi
      have := offN_lt (9 * i % 152) (by omega)
      unfold spE at he
      simp at he
      rcases he with rfl | rfl
      · simp only; omega
      · simp only; omega
    · obtain ⟨x, hx, rfl⟩ := List.mem_map.1 he
      exact (hl x (List.mem_of_mem_take hx)).2
  · simp at he; subst he; exact hc
/-- The spoilt device's words. -/
def spC (c : Int) (l : List (Nat × Int)) (i : Nat) : Int := look (spW c l) (W0 i) i
theorem spP_cl {c : Int} {l : List (Nat × Int)} (hc : 0 ≤ c ∧ c < 18446744073709551616) (hl : ∀ e ∈ l, e.1 < 256 ∧ 0 ≤ e.2 ∧ e.2 < 18446744073709551616) :
    Cl (D0.run 0 (spP c l)) 100 ∧ ∀ i, (D0.run 0 (spP c l)).cur i = spC c l i := by
  have e : spP c l = groupsP [(spW c l, flP 5)] := by simp [groupsP, spP]
  have hok : ∀ g ∈ [(spW c l, flP 5)], groupOkX 24 g := fun g hg => by
    simp at hg; subst hg
    refine ⟨fun e he => ?_, fun o ho => ?_⟩
    · have := spW_ok e he; omega
    · unfold flP at ho
      obtain ⟨i, hi, rfl⟩ := List.mem_map.1 ho
      have := List.mem_range.1 hi; omega
  have hv : valP (groupsP [(spW c l, flP 5)]) := valP_groups (fun e he => spW_val hc hl e (by simpa using he))
  obtain ⟨h1, h2⟩ := D0_cl.lv.run hok hv
  have hlen : (groupsP [(spW c l, flP 5)]).length ≤ 100 := by
    rw [← e]
    unfold spP
    rw [groupP_length]
    have h16 : (List.flatMap spE (List.range 16)).length = 32 := by decide
    have hfl : (flP 5).length = 5 := by decide
    unfold spW spS
    simp only [List.length_append, List.length_map, List.length_take, List.length_cons, List.length_nil, h16, hfl]
    omega
  rw [e]
  refine ⟨⟨h1.mono (by omega), fun m => ?_⟩, fun i => ?_⟩
  · rw [h2.hist m]
    show (if hitB (flP 5) m = true then [] else D0.hist m ++ filtL (spW c l) m) ++ [] = []
    rw [List.append_nil]
    split
    · rfl
    · rename_i hn
      rw [D0_cl.hist, List.nil_append]
      unfold filtL
      rw [List.filter_eq_nil_iff]
      intro x hx hm
      have hb := spW_ok x hx
      have hm : x.1 / 64 = m := by simpa using hm
      apply hn
      rw [hitB_iff]
      refine ⟨192 + 64 * (m - 3), ?_, by omega⟩
      unfold flP
      exact List.mem_map.2 ⟨m - 3, List.mem_range.2 (by omega), rfl⟩
  · rw [D0_cl.lv.run_cur hok hv, D0_cur]
    simp [spC]
theorem stP_snoc (ws : List (Nat × Int)) (o : Nat) (v : Int) : D0.run 0 (stP (ws ++ [(o, v)])) = (D0.run 0 (stP ws)).store 0 o v := by
  unfold stP; rw [List.map_append, List.map_singleton, Dev.run_snoc]; rfl
theorem stP_exec (P : List (Nat × Nat × Int)) (h : P.length ≤ 200) : (D0.run 0 P).exec < 4294967296 := by
  have := D0.run_exec 0 P
  have h0 : D0.exec = 0 := rfl
  omega
theorem stP_len (ws : List (Nat × Int)) : (stP ws).length = ws.length := by simp [stP]
theorem spE_len (i : Nat) : ((List.range i).flatMap spE).length = 2 * i := by
  induction i with
  | zero => rfl
  | succ i ih => rw [List.range_succ, List.flatMap_append, List.length_append, ih]; simp [spE]; omega
theorem spE_snoc (i : Nat) : (List.range (i + 1)).flatMap spE = ((List.range i).flatMap spE ++ [(256 + 16 * i, (offN (9 * i % 152) : Int))]) ++ [(264 + 16 * i, (i : Int))] := by
  rw [List.range_succ, List.flatMap_append]; simp [spE]
theorem spS_snoc (l : List (Nat × Int)) (e : Nat × Int) : spS (l ++ [e]) = spS l ++ [(256 + 8 * (e.1 % 32), e.2)] := by simp [spS]
section
variable {w : World}
set_option maxRecDepth 100000 in
set_option maxHeartbeats 16000000 in
theorem l16spoilt_any (h : Wh w) (c : Int) (sv : Value) (l : List (Nat × Int)) (hs : RdSl w 2 sv l.length (spoB l)) (hlb : ∀ e ∈ l, e.1 < 256 ∧ 0 ≤ e.2 ∧ e.2 < 18446744073709551616) (hll : l.length ≤ maxLen) :
    Calls Tryd.prog 42 #[.int .u64 c, sv] w fun r w' => ∃ v own lb, r = .returned (.tuple #[.pointer (some ⟨v.db, 0, none⟩), .pointer (some ⟨lb, 0, none⟩)]) ∧ LSt w v own (D0.run 0 (spP c l)) lb 0 192 5 w' := by
  have HW := Lib.hid h
  have HM := Lib.hid (made16 h); clear h
  have HS := Lib.hid hs; have HLB := Lib.hid hlb; clear hlb
  obtain ⟨_, sa, sc, rfl, hsc, _⟩ := hs
  generalize hn : l.length = n at *
  have HN := Lib.hid hn; clear hn
  go_enter Tryd.func42, Tryd.ntmps42
  go_wp2_with fail
  (with_reducible refine HM.out.mono ?_)
  rintro e w1 ⟨v, own, lb, rfl, l1⟩
  have L1 := Lib.hid l1; clear l1 HM
  go_wp2_with fail
  (with_reducible refine (thread0_any L1.out.dev).mono ?_)
  rintro e w' ⟨rfl, rfl⟩
  go_wp2_with fail
  go_loopw [21] (fun y wr => ∃ (i : Nat) (own : Nat → Option Role), i ≤ 16 ∧ y = .int .i64 i ∧ LSt w v own (D0.run 0 (stP ((List.range i).flatMap spE))) lb 0 192 5 wr) (fun y _ => 16 - (intOf y).toNat)
  case atStart => exact ⟨0, own, by omega, rfl, L1.out⟩
  case round =>
    obtain ⟨i, own1, hi, rfl, hl1⟩ := hrel
    have L := Lib.hid hl1; clear hl1
    by_cases hlt : i < 16
    · have hlt' : (i : Int) < 16 := by omega
      obtain ⟨q, hq⟩ : ∃ q, 9 * i % 152 = q := ⟨_, rfl⟩
      obtain ⟨t, ht⟩ : ∃ t, 256 + 16 * i = t := ⟨_, rfl⟩
      have z0 : IntKind.u64.wrap (256 : Int) = 256 := by decide
      have z1 : IntKind.u64.wrap (i : Int) = (i : Int) := IntWalk.u64_in _ (by omega)
      have z2 : IntKind.u64.wrap (16 * (i : Int)) = 16 * (i : Int) := IntWalk.u64_in _ (by omega)
      have z3 : IntKind.u64.wrap (256 + 16 * (i : Int)) = (t : Int) := by rw [IntWalk.u64_in _ (by omega)]; omega
      have z4 : IntKind.i64.wrap (9 * (i : Int)) = 9 * (i : Int) := IntWalk.i64_in _ (by omega)
      have z5 : (9 * (i : Int)).tmod 152 = (q : Int) := by rw [Int.tmod_eq_emod_of_nonneg (by omega)]; omega
      have z6 : (9 * (i : Int)) % 152 = (q : Int) := by omega
      have z7 : IntKind.u8.wrap (q : Int) = (q : Int) := u8_in _ (by omega)
      have HOF := Lib.hid (l16offset_any (w := wr.drew) q (by omega))
      have LD := Lib.hid (L.out.next ((Below.refl _ _).drew))
      have hex := stP_exec (stP ((List.range i).flatMap spE)) (by rw [stP_len, spE_len]; omega)
      have HST := Lib.hid (fun (wx : World) (hx : IsDev wx v own1 (D0.run 0 (stP ((List.range i).flatMap spE)))) => store_any hx (j := 0) (by omega) t (offN q) hex)
      have HE1 : Hid ((D0.run 0 (stP ((List.range i).flatMap spE))).store 0 t (offN q) = D0.run 0 (stP ((List.range i).flatMap spE ++ [(256 + 16 * i, (offN (9 * i % 152) : Int))]))) := by
        show _ = _
        rw [stP_snoc, hq, ht]
      have XD : Hid (wr.drew.cell? ⟨0, 0, none⟩ = some (.int .u64 192) ∧ wr.drew.cell? ⟨0, 1, none⟩ = some (.int .u64 512) ∧ wr.drew.cell? ⟨0, 2, none⟩ = some (.int .u64 1536)) := (HW.out.below L.out.bel).all'
      have HNN := Lib.hid (fun P Q => (Dev.run_n 0 P D0).trans (Dev.run_n 0 Q D0).symm)
      obtain ⟨u, hu⟩ : ∃ u, 264 + 16 * i = u := ⟨_, rfl⟩
      have y1 : (264 : Int) + 16 * (i : Int) = (u : Int) := by omega
      have hu64 : u < 18446744073709551616 := by omega
      have hex2 := stP_exec (stP ((List.range i).flatMap spE ++ [(256 + 16 * i, (offN (9 * i % 152) : Int))])) (by rw [stP_len, List.length_append, spE_len]; simp; omega)
      have HST2 := Lib.hid (fun (wx : World) (own : Nat → Option Role) (hx : IsDev wx v own (D0.run 0 (stP ((List.range i).flatMap spE ++ [(256 + 16 * i, (offN (9 * i % 152) : Int))])))) => store_any hx (j := 0) (by omega) u i hex2)
      have HE2 : Hid ((D0.run 0 (stP ((List.range i).flatMap spE ++ [(256 + 16 * i, (offN (9 * i % 152) : Int))]))).store 0 u i = D0.run 0 (stP ((List.range (i + 1)).flatMap spE))) := by
        show _ = _
        rw [spE_snoc, stP_snoc _ (264 + 16 * i), hu]
      clear hq ht hu hex hex2
      go_wp2_with fail
      go_region_held3 (fun wx => wx.cell? ⟨0, 0, none⟩ = some (.int .u64 192) ∧ wx.cell? ⟨0, 1, none⟩ = some (.int .u64 512) ∧ wx.cell? ⟨0, 2, none⟩ = some (.int .u64 1536)) (first | (with_reducible exact X3.out) | (with_reducible exact XD.out)) (first | (go_at_call 56; (with_reducible refine HOF.out.mono ?_); rintro e w' ⟨rfl, rfl⟩) | (go_at_call 25; (with_reducible refine (HST.out _ LD.out.dev).mono ?_); rintro e w3 ⟨rfl, p3⟩; rw [HE1.out] at p3; obtain ⟨own3, l3, _⟩ := LD.out.stepM (HNN.out _ _) p3; have L3 := Lib.hid l3; have X3 := Lib.hid ((HW.out.below l3.bel).all'); clear p3 l3))
      all_goals
        obtain ⟨g0, g1, g2⟩ := X3.out
        go_wp2_with fail
        (with_reducible refine (HST2.out _ _ L3.out.dev).mono ?_)
        rintro e w4 ⟨rfl, p4⟩
        rw [HE2.out] at p4
        obtain ⟨own4, l4, _⟩ := L3.out.stepM (HNN.out _ _) p4
        have L4 := Lib.hid l4; clear p4 l4
        go_wp2_with fail
        go_roundw
        case rel => exact ⟨i + 1, own4, by omega, by go_num, L4.out⟩
        case measure => simp [intOf]; omega
    · obtain rfl : i = 16 := by omega
      rw [show ((16 : Nat) : Int) = 16 from rfl]
      have HEL : Hid (((List.range 16).flatMap spE).length = 32) := spE_len 16
      have HNN := Lib.hid (fun P Q => (Dev.run_n 0 P D0).trans (Dev.run_n 0 Q D0).symm)
      obtain ⟨E, hE0⟩ : ∃ E, (List.range 16).flatMap spE = E := ⟨_, rfl⟩
      have L' := L.out
      rw [hE0] at HEL L'
      have LQ := Lib.hid L'
      have HEE := Lib.hid hE0
      clear L L' hE0 L1 hi hlt
      go_wp2_with fail
      go_loopw [52] (fun y wr => ∃ (b : Nat) (own : Nat → Option Role), b ≤ n ∧ b ≤ 16 ∧ y = .int .i64 b ∧ LSt w v own (D0.run 0 (stP (E ++ spS (l.take b)))) lb 0 192 5 wr) (fun y _ => n - (intOf y).toNat)
      case atStart => exact ⟨0, own1, by omega, by omega, rfl, by simpa [spS] using LQ.out⟩
      case round =>
        obtain ⟨b, own2, hb, hb16, rfl, hl2⟩ := hrel
        have L := Lib.hid hl2; clear hl2 LQ
        by_cases hlt : b < n
        · have hlt' : (b : Int) < n := by omega
          obtain ⟨e, he⟩ : ∃ e, l[b]? = some e := ⟨_, List.getElem?_eq_getElem (by rw [HN.out]; exact hlt)⟩
          obtain ⟨_, a', c', e', _, hE⟩ := HS.out.below L.out.bel
          cases e'
          have hg := spoB_get l b e he
          obtain ⟨eb, eo, rfl, hE2⟩ := rd_at hE hg.1
          have c1 := hE2 _ _ hg.1; have c2 := hE2 _ _ hg.2
          rw [← Nat.add_assoc] at c2
          have HT := Lib.hid (take_snoc_get l b e he)
          have hbd := HLB.out e (List.mem_of_getElem? he)
          clear hE hE2 he hg
          obtain ⟨e1, e2⟩ := e
          simp only at c1 c2 hbd
          by_cases h16 : b = 16
          · have hb8 : ((b : Int) == 16) = true := by simp; omega
            have LT : Hid (LSt w v own2 (D0.run 0 (stP (E ++ spS (l.take 16)))) lb 0 192 5 (wr.alloc (.cells #[.int .u8 (e1 : Int), .int .u64 e2] 140))) := by have := L.out.alloc (.cells #[.int .u8 (e1 : Int), .int .u64 e2] 140); rw [h16] at this; exact this
            clear h16 hbd HT
            have HL5 : Hid ((E ++ spS (l.take 16)).length ≤ 48) := by
              show (E ++ spS (l.take 16)).length ≤ 48
              simp only [spS, List.length_append, List.length_map, List.length_take]
              rw [HEL.out]; omega
            have HE4 : Hid ((D0.run 0 (stP (E ++ spS (l.take 16)))).store 0 192 c = D0.run 0 (stP (spW c l))) := by
              show _ = _
              rw [← stP_snoc]; unfold spW; rw [HEE.out]
            have hex := stP_exec (stP (E ++ spS (l.take 16))) (by rw [stP_len]; have := HL5.out; omega)
            have hst := fun (wx : World) (own : Nat → Option Role) (hx : IsDev wx v own (D0.run 0 (stP (E ++ spS (l.take 16))))) => store_any hx (j := 0) (by omega) 192 c hex
            rw [show ((192 : Nat) : Int) = 192 from rfl] at hst
            have HST := Lib.hid hst
            have HWL : Hid ((spW c l).length ≤ 49) := by
              show (spW c l).length ≤ 49
              unfold spW; rw [HEE.out]
              have := HL5.out
              rw [List.length_append]
              show (E ++ spS (l.take 16)).length + 1 ≤ 49
              omega
            clear hst hex
            obtain ⟨g0, g1, g2⟩ := (HW.out.below LT.out.bel).all'
            go_wp2_with fail
            (with_reducible refine (HST.out _ _ LT.out.dev).mono ?_)
            rintro e w6 ⟨rfl, p6⟩
            rw [HE4.out] at p6
            obtain ⟨own6, l6, _⟩ := LT.out.stepM (HNN.out _ _) p6
            have L6 := Lib.hid l6; clear p6 l6 LT HST HE4 g0 g1 g2
            obtain ⟨g0, g1, g2⟩ := (HW.out.below L6.out.bel).all'
            go_wp2_with fail
            go_loopw [12] (fun y wr => ∃ (b : Nat) (own : Nat → Option Role), b ≤ 5 ∧ y = .int .u64 ((192 + 64 * b : Nat) : Int) ∧ LSt w v own (D0.run 0 (stP (spW c l) ++ (flP b).map fun o => (2, o, 0))) lb 0 192 5 wr) (fun y _ => 512 - (intOf y).toNat)
            case atStart => exact ⟨0, own6, by omega, rfl, by simpa [flP] using L6.out⟩
            case round =>
              obtain ⟨b, own7, hb5, rfl, hl7⟩ := hrel
              have L7 := Lib.hid hl7; clear hl7 g0 g1 g2
              obtain ⟨g0, g1, g2⟩ := (HW.out.below L7.out.bel).all'
              have hex7 := stP_exec (stP (spW c l) ++ (flP b).map fun o => (2, o, 0)) (by rw [List.length_append, stP_len, List.length_map]; have := HWL.out; simp [flP]; omega)
              obtain ⟨t, ht⟩ : ∃ t, 192 + 64 * b = t := ⟨_, rfl⟩
              by_cases hlt7 : b < 5
              · have ht7 : (t : Int) < 512 := by omega
                have HE7 : Hid ((D0.run 0 (stP (spW c l) ++ (flP b).map fun o => (2, o, 0))).flush 0 t = D0.run 0 (stP (spW c l) ++ (flP (b + 1)).map fun o => (2, o, 0))) := by
                  show _ = _
                  rw [show flP (b + 1) = flP b ++ [t] by unfold flP; rw [List.range_succ, List.map_append, ← ht]; rfl, List.map_append, ← List.append_assoc, List.map_singleton, Dev.run_snoc]
                  rfl
                have HB : Hid (192 + 64 * (b + 1) = t + 64) := by show 192 + 64 * (b + 1) = t + 64; omega
                have HFL := Lib.hid (flush_any L7.out.dev (j := 0) (by omega) t (by omega) hex7)
                rw [ht]
                clear ht hex7
                go_wp2_with fail
                (with_reducible refine HFL.out.mono ?_)
                rintro e w8 ⟨rfl, p8⟩
                rw [HE7.out] at p8
                obtain ⟨own8, l8, _⟩ := L7.out.stepM (HNN.out _ _) p8
                have L8 := Lib.hid l8; clear p8 l8 g0 g1 g2
                go_wp2_with fail
                go_roundw
                case rel => exact ⟨b + 1, own8, by omega, by rw [HB.out]; go_num, L8.out⟩
                case measure => simp [intOf]; omega
              · have ht7 : ¬ (t : Int) < 512 := by omega
                have hb : b = 5 := by omega
                rw [hb] at hex7
                have L7' : Hid (LSt w v own7 (D0.run 0 (stP (spW c l) ++ (flP 5).map fun o => (2, o, 0))) lb 0 192 5 wr) := by have := L7.out; rw [hb] at this; exact this
                have HFE := Lib.hid (fence_any L7'.out.dev (j := 0) (by omega) hex7)
                have HE8 : Hid ((D0.run 0 (stP (spW c l) ++ (flP 5).map fun o => (2, o, 0))).fence 0 = D0.run 0 (spP c l)) := by
                  show _ = _
                  unfold spP groupP
                  rw [Dev.run_snoc]
                  rfl
                rw [ht]
                clear ht hex7 hb
                go_wp2_with fail
                (with_reducible refine HFE.out.mono ?_)
                rintro e w8 ⟨rfl, p8⟩
                rw [HE8.out] at p8
                obtain ⟨own8, l8, _⟩ := L7'.out.stepM (HNN.out _ _) p8
                have L8 := Lib.hid l8; clear p8 l8 g0 g1 g2
                go_wp2_with fail
                go_ret2
                exact ⟨v, own8, lb, rfl, L8.out⟩
          · have hb8 : ((b : Int) == 16) = false := by simp; omega
            obtain ⟨r, hr⟩ : ∃ r, e1 % 32 = r := ⟨_, rfl⟩
            obtain ⟨t, ht⟩ : ∃ t, 256 + 8 * r = t := ⟨_, rfl⟩
            have z1 : (e1 : Int) % 32 = (r : Int) := by omega
            have z2 : (e1 : Int).tmod 32 = (r : Int) := by rw [Int.tmod_eq_emod_of_nonneg (by omega)]; omega
            have z3 : (256 : Int) + 8 * (r : Int) = (t : Int) := by omega
            have hr32 : r < 32 := by omega
            have HB15 : Hid (b + 1 ≤ 16) := by show b + 1 ≤ 16; omega
            have LA := Lib.hid (L.out.alloc (.cells #[.int .u8 (e1 : Int), .int .u64 e2] 140))
            have hex := stP_exec (stP (E ++ spS (l.take b))) (by rw [stP_len]; simp only [spS, List.length_append, List.length_map, List.length_take]; rw [HEL.out]; omega)
            have HST := Lib.hid (store_any LA.out.dev (j := 0) (by omega) t e2 hex)
            have HE3 : Hid ((D0.run 0 (stP (E ++ spS (l.take b)))).store 0 t e2 = D0.run 0 (stP (E ++ spS (l.take (b + 1))))) := by
              show _ = _
              rw [HT.out, spS_snoc, ← List.append_assoc, stP_snoc, hr, ht]
            obtain ⟨g0, g1, g2⟩ := (HW.out.below LA.out.bel).all'
            clear h16 hr ht hex HT
            go_wp2_with fail
            (with_reducible refine HST.out.mono ?_)
            rintro e w5 ⟨rfl, p5⟩
            rw [HE3.out] at p5
            obtain ⟨own5, l5, _⟩ := LA.out.stepM (HNN.out _ _) p5
            have L5 := Lib.hid l5; clear p5 l5
            go_wp2_with fail
            go_roundw
            case rel => exact ⟨b + 1, own5, by omega, HB15.out, by go_num, L5.out⟩
            case measure => simp [intOf]; omega
        · obtain rfl : b = n := by omega
          have hlt16 : l.take b = l.take 16 := by rw [List.take_of_length_le (by rw [HN.out]; omega), List.take_of_length_le (by rw [HN.out]; exact hb16)]
          have LT : Hid (LSt w v own2 (D0.run 0 (stP (E ++ spS (l.take 16)))) lb 0 192 5 wr) := by have := L.out; rw [hlt16] at this; exact this
          clear hlt16
          have HL5 : Hid ((E ++ spS (l.take 16)).length ≤ 48) := by
            show (E ++ spS (l.take 16)).length ≤ 48
            simp only [spS, List.length_append, List.length_map, List.length_take]
            rw [HEL.out]; omega
          have HE4 : Hid ((D0.run 0 (stP (E ++ spS (l.take 16)))).store 0 192 c = D0.run 0 (stP (spW c l))) := by
            show _ = _
            rw [← stP_snoc]; unfold spW; rw [HEE.out]
          have hex := stP_exec (stP (E ++ spS (l.take 16))) (by rw [stP_len]; have := HL5.out; omega)
          have hst := fun (wx : World) (own : Nat → Option Role) (hx : IsDev wx v own (D0.run 0 (stP (E ++ spS (l.take 16))))) => store_any hx (j := 0) (by omega) 192 c hex
          rw [show ((192 : Nat) : Int) = 192 from rfl] at hst
          have HST := Lib.hid hst
          have HWL : Hid ((spW c l).length ≤ 49) := by
            show (spW c l).length ≤ 49
            unfold spW; rw [HEE.out]
            have := HL5.out
            rw [List.length_append]
            show (E ++ spS (l.take 16)).length + 1 ≤ 49
            omega
          clear hst hex
          obtain ⟨g0, g1, g2⟩ := (HW.out.below LT.out.bel).all'
          go_wp2_with fail
          (with_reducible refine (HST.out _ _ LT.out.dev).mono ?_)
          rintro e w6 ⟨rfl, p6⟩
          rw [HE4.out] at p6
          obtain ⟨own6, l6, _⟩ := LT.out.stepM (HNN.out _ _) p6
          have L6 := Lib.hid l6; clear p6 l6 LT HST HE4 g0 g1 g2
          obtain ⟨g0, g1, g2⟩ := (HW.out.below L6.out.bel).all'
          go_wp2_with fail
          go_loopw [12] (fun y wr => ∃ (b : Nat) (own : Nat → Option Role), b ≤ 5 ∧ y = .int .u64 ((192 + 64 * b : Nat) : Int) ∧ LSt w v own (D0.run 0 (stP (spW c l) ++ (flP b).map fun o => (2, o, 0))) lb 0 192 5 wr) (fun y _ => 512 - (intOf y).toNat)
          case atStart => exact ⟨0, own6, by omega, rfl, by simpa [flP] using L6.out⟩
          case round =>
            obtain ⟨b, own7, hb5, rfl, hl7⟩ := hrel
            have L7 := Lib.hid hl7; clear hl7 g0 g1 g2
            obtain ⟨g0, g1, g2⟩ := (HW.out.below L7.out.bel).all'
            have hex7 := stP_exec (stP (spW c l) ++ (flP b).map fun o => (2, o, 0)) (by rw [List.length_append, stP_len, List.length_map]; have := HWL.out; simp [flP]; omega)
            obtain ⟨t, ht⟩ : ∃ t, 192 + 64 * b = t := ⟨_, rfl⟩
            by_cases hlt7 : b < 5
            · have ht7 : (t : Int) < 512 := by omega
              have HE7 : Hid ((D0.run 0 (stP (spW c l) ++ (flP b).map fun o => (2, o, 0))).flush 0 t = D0.run 0 (stP (spW c l) ++ (flP (b + 1)).map fun o => (2, o, 0))) := by
                show _ = _
                rw [show flP (b + 1) = flP b ++ [t] by unfold flP; rw [List.range_succ, List.map_append, ← ht]; rfl, List.map_append, ← List.append_assoc, List.map_singleton, Dev.run_snoc]
                rfl
              have HB : Hid (192 + 64 * (b + 1) = t + 64) := by show 192 + 64 * (b + 1) = t + 64; omega
              have HFL := Lib.hid (flush_any L7.out.dev (j := 0) (by omega) t (by omega) hex7)
              rw [ht]
              clear ht hex7
              go_wp2_with fail
              (with_reducible refine HFL.out.mono ?_)
              rintro e w8 ⟨rfl, p8⟩
              rw [HE7.out] at p8
              obtain ⟨own8, l8, _⟩ := L7.out.stepM (HNN.out _ _) p8
              have L8 := Lib.hid l8; clear p8 l8 g0 g1 g2
              go_wp2_with fail
              go_roundw
              case rel => exact ⟨b + 1, own8, by omega, by rw [HB.out]; go_num, L8.out⟩
              case measure => simp [intOf]; omega
            · have ht7 : ¬ (t : Int) < 512 := by omega
              have hb : b = 5 := by omega
              rw [hb] at hex7
              have L7' : Hid (LSt w v own7 (D0.run 0 (stP (spW c l) ++ (flP 5).map fun o => (2, o, 0))) lb 0 192 5 wr) := by have := L7.out; rw [hb] at this; exact this
              have HFE := Lib.hid (fence_any L7'.out.dev (j := 0) (by omega) hex7)
              have HE8 : Hid ((D0.run 0 (stP (spW c l) ++ (flP 5).map fun o => (2, o, 0))).fence 0 = D0.run 0 (spP c l)) := by
                show _ = _
                unfold spP groupP
                rw [Dev.run_snoc]
                rfl
              rw [ht]
              clear ht hex7 hb
              go_wp2_with fail
              (with_reducible refine HFE.out.mono ?_)
              rintro e w8 ⟨rfl, p8⟩
              rw [HE8.out] at p8
              obtain ⟨own8, l8, _⟩ := L7'.out.stepM (HNN.out _ _) p8
              have L8 := Lib.hid l8; clear p8 l8 g0 g1 g2
              go_wp2_with fail
              go_ret2
              exact ⟨v, own8, lb, rfl, L8.out⟩
end
end Go.Proofs.YtokgplgdaememaaDoor

/- Recover and Rollback on a device with nothing pending, plain and walked; the walk of UndoLooks. -/
namespace Go.Proofs.YtokgplgdaememaaDoor
open Go.RowKit Go.Maps
attribute [local go_sem ↓] Go.wp_at_zero Go.wp_at_succ

theorem step_other (D : Dev) (e : Nat × Nat × Int) : (D.step 0 e).err 1 = D.err 1 ∧ ∀ l, (D.step 0 e).note 1 l = D.note 1 l := by
  unfold Dev.step Dev.store Dev.flush Dev.fence Dev.countedD Dev.onD Dev.fail
  repeat' split
  all_goals exact ⟨rfl, fun l => by simp [Dev.put, Dev.jot, Dev.sync, Dev.tick, Dev.setErr]⟩
theorem run_other (l : List (Nat × Nat × Int)) : ∀ D : Dev, (D.run 0 l).err 1 = D.err 1 ∧ ∀ m, (D.run 0 l).note 1 m = D.note 1 m := by
  induction l with
  | nil => intro D; exact ⟨rfl, fun _ => rfl⟩
  | cons e l ih =>
    intro D
    obtain ⟨h1, h2⟩ := ih (D.step 0 e)
    obtain ⟨h3, h4⟩ := step_other D e
    exact ⟨h1.trans h3, fun m => (h2 m).trans (h4 m)⟩
/-- Nothing pending, for thread j. -/
structure Cj (D : Dev) (j x : Nat) : Prop where
  lv : Lv D j 24 x
  hist : ∀ l, D.hist l = []
theorem Cj.pers {D : Dev} {j x : Nat} (h : Cj D j x) : D.pers = D.cur := by funext i; unfold Dev.cur; rw [h.hist]; rfl
/-- The device behind Recover. -/
def resD (D : Dev) (j : Nat) : Dev := if savedL D.cur 192 5 = [] then D else D.run j (restoreP 192 (validL 1536 192 5 (savedL D.cur 192 5)))
theorem valid_ok {C : Nat → Int} : ∀ e ∈ validL 1536 192 5 (savedL C 192 5), e.1 % 8 = 0 ∧ e.1 < 64 * 24 := fun e he => by
  unfold validL at he
  have := allowed_out (List.mem_filter.1 he).2; omega
theorem resD_cj {D : Dev} {j x : Nat} (h : Cj D j x) : Cj (resD D j) j (x + 200) ∧ (resD D j).cur = resC D.cur := by
  unfold resD
  by_cases h0 : savedL D.cur 192 5 = []
  · rw [if_pos h0]
    refine ⟨⟨⟨h.lv.on, h.lv.armed, h.lv.no, by have := h.lv.exec; omega, h.lv.vb⟩, h.hist⟩, ?_⟩
    funext i
    unfold resC; rw [if_pos h0]; rfl
  · rw [if_neg h0, restore_groups]
    have hok : ∀ g ∈ restoreGs 192 (validL 1536 192 5 (savedL D.cur 192 5)), groupOkX 24 g := restoreGs_ok (by omega) (by omega) valid_ok
    have hv : valP (groupsP (restoreGs 192 (validL 1536 192 5 (savedL D.cur 192 5)))) := valP_groups (fun e he => by
      rw [restoreGs_flat] at he
      rcases List.mem_append.1 he with he | he
      · unfold validL at he
        exact (saved_lt h.lv.vb.cur e (List.mem_filter.1 he).1).2
      · simp at he; subst he; simp)
    obtain ⟨h1, h2⟩ := h.lv.run hok hv
    have hlen : (groupsP (restoreGs 192 (validL 1536 192 5 (savedL D.cur 192 5)))).length ≤ 200 := by
      rw [← restore_groups]
      unfold restoreP
      have a1 := storesL_len (validL 1536 192 5 (savedL D.cur 192 5)); have a2 := store1_len 192 0
      have a3 := validL_len 1536 192 5 (savedL D.cur 192 5); have a4 := savedL_le D.cur
      rw [List.length_append]; omega
    refine ⟨⟨⟨h1.on, h1.armed, h1.no, by have := h1.exec; omega, h1.vb⟩, fun l => ?_⟩, ?_⟩
    · rw [h2.hist l]
      simp only [filtL, List.filter_nil, List.append_nil]
      unfold restoreGs
      rw [laidX_append]
      exact clean_stores (clean_stores (fun l => h.hist l) _) _ l
    · funext i
      rw [h.lv.run_cur hok hv, restoreGs_flat]
      unfold resC; rw [if_neg h0]
section
variable {w wc : World} {v : DV} {own : Nat → Option Role} {D : Dev} {lb j x : Nat}
theorem loadJ (h : LogAt w v own D lb j 192 5) (hl : Lv D j 24 x) : LoadIs w lb (savedL D.cur 192 5) (validL 1536 192 5 (savedL D.cur 192 5)) := by
  have := uload_any h hl.on.off hl.on.err hl.vb
  rw [hl.on.n] at this
  exact this
theorem recover_lv (hL : LSt w v own D lb j 192 5 wc) (h : Cj D j x) (hx : x < 1000000) :
    Calls Tryd.prog 39 #[.pointer (some ⟨lb, 0, none⟩)] wc fun r w' => ∃ own', r = .returned (.tuple #[.int .i64 (validL 1536 192 5 (savedL D.cur 192 5)).length, .int .i64 0]) ∧ LSt w v own' (resD D j) lb j 192 5 w' ∧ Mv own own' wc w' := by
  have hr := resD_cj h
  refine (uRecover_any hL.log _ _ (loadJ hL.log h.lv) (saved_vin h.lv.vb.cur) (by have := h.lv.exec; omega)).mono ?_
  unfold resD at hr ⊢
  rintro r w' (⟨hs, rfl, hb⟩ | ⟨hs, hp, hq⟩)
  · rw [if_pos hs, hs]
    exact ⟨own, rfl, hL.next hb, Mv.of_below hb⟩
  · rw [if_neg hs] at hr ⊢
    have he := hr.1.lv.on.err
    obtain ⟨own', l', m'⟩ := hL.stepM (by rw [hr.1.lv.on.n, h.lv.on.n]) hp
    rcases hq with ⟨_, rfl⟩ | ⟨hne, _⟩
    · exact ⟨own', rfl, l', m'⟩
    · exact absurd he hne
theorem rollback_lv (hL : LSt w v own D lb j 192 5 wc) (h : Cj D j x) (hx : x < 1000000) :
    Calls Tryd.prog 41 #[.pointer (some ⟨lb, 0, none⟩)] wc fun r w' => ∃ own', r = .returned (.int .i64 0) ∧ LSt w v own' (resD D j) lb j 192 5 w' ∧ Mv own own' wc w' := by
  have hr := resD_cj h
  refine (uRollback_any (uRecover_any hL.log _ _ (loadJ hL.log h.lv) (saved_vin h.lv.vb.cur) (by have := h.lv.exec; omega))).mono ?_
  unfold resD at hr ⊢
  rintro r w' (⟨hs, rfl, hb⟩ | ⟨hs, hp, rfl⟩)
  · rw [if_pos hs]
    exact ⟨own, rfl, hL.next hb, Mv.of_below hb⟩
  · rw [if_neg hs] at hr ⊢
    have he := hr.1.lv.on.err
    obtain ⟨own', l', m'⟩ := hL.stepM (by rw [hr.1.lv.on.n, h.lv.on.n]) hp
    exact ⟨own', by rw [he], l', m'⟩
end
end Go.Proofs.YtokgplgdaememaaDoor
