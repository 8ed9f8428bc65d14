/- The redo log as plain data: the last writes of a list, the programs, what Look tells. No program in sight. -/
import Derived.Test.YtdidpppjkbgccaaDoorLinesM
import Derived.Test.YtdidpppjkbgccaaDoorCrcM
import Derived.Test.YtdidpppjkbgccaaDoorDevP
import Derived.Test.YtdidpppjkbgccaaDoorDevG
namespace Go.Proofs.YtdidpppjkbgccaaDoor
open Go.RowKit

/-- Each write whose offset does not occur again later. -/
def lastL : List (Nat × Int) → List (Nat × Int)
  | [] => []
  | e :: l => if l.any (fun x => x.1 == e.1) then lastL l else e :: lastL l
theorem lastL_mem (l : List (Nat × Int)) : ∀ e ∈ lastL l, e ∈ l := by
  induction l with
  | nil => intro e h; simp [lastL] at h
  | cons x l ih =>
    intro e h
    unfold lastL at h
    split at h
    · exact List.mem_cons_of_mem _ (ih e h)
    · rcases List.mem_cons.1 h with rfl | h
      · exact List.mem_cons_self ..
      · exact List.mem_cons_of_mem _ (ih e h)
theorem lastL_len (l : List (Nat × Int)) : (lastL l).length ≤ l.length := by
  induction l with
  | nil => exact Nat.le_refl _
  | cons x l ih =>
    unfold lastL
    split
    · simp; omega
    · simp; omega
theorem lastL_nil {l : List (Nat × Int)} : lastL l = [] ↔ l = [] := by
  constructor
  · intro h
    induction l with
    | nil => rfl
    | cons x l ih =>
      unfold lastL at h
      split at h
      · rename_i hc
        rw [ih h] at hc
        simp at hc
      · cases h
  · rintro rfl; rfl
/-- Where offset x occurs last among the first k writes (0 if it does not). -/
def finI (l : List (Nat × Int)) : Nat → Nat → Int
  | 0, _ => 0
  | k + 1, x => if (l.getD k (0, 0)).1 = x then k else finI l k x
theorem finI_ge {l : List (Nat × Int)} {i : Nat} {e : Nat × Int} (he : l[i]? = some e) (k : Nat) (hk : i < k) : (i : Int) ≤ finI l k e.1 := by
  induction k with
  | zero => omega
  | succ k ih =>
    unfold finI
    by_cases h : i = k
    · subst h
      rw [if_pos (by simp [List.getD, he])]; omega
    · split
      · omega
      · exact ih (by omega)
theorem finI_eq {l : List (Nat × Int)} {i : Nat} {e : Nat × Int} (he : l[i]? = some e) (k : Nat) (hi : i < k) (hk : k ≤ l.length) : finI l k e.1 = i ↔ ∀ j x, i < j → j < k → l[j]? = some x → x.1 ≠ e.1 := by
  induction k with
  | zero => omega
  | succ k ih =>
    by_cases h : i = k
    · subst h
      constructor
      · intro _ j x h1 h2; omega
      · intro _; unfold finI; rw [if_pos (by simp [List.getD, he])]
    · obtain ⟨y, hy⟩ : ∃ y, l[k]? = some y := ⟨_, List.getElem?_eq_getElem (by omega)⟩
      have hyd : l.getD k (0, 0) = y := by simp [List.getD, hy]
      unfold finI
      rw [hyd]
      constructor
      · intro h1 j x h2 h3 hx
        split at h1
        · omega
        · rename_i hn
          by_cases hj : j = k
          · subst hj
            rw [hy] at hx; cases hx; exact hn
          · exact (ih (by omega) (by omega)).1 h1 j x h2 (by omega) hx
      · intro h1
        rw [if_neg (h1 k y (by omega) (by omega) hy)]
        exact (ih (by omega) (by omega)).2 (fun j x h2 h3 hx => h1 j x h2 (by omega) hx)
theorem finI_any {l : List (Nat × Int)} {i : Nat} {e : Nat × Int} (he : l[i]? = some e) : (finI l l.length e.1 = i) ↔ (l.drop (i + 1)).any (fun x => x.1 == e.1) = false := by
  have hi : i < l.length := (List.getElem?_eq_some_iff.1 he).1
  rw [finI_eq he l.length hi (Nat.le_refl _)]
  constructor
  · intro h
    rw [List.any_eq_false]
    intro x hx hc
    obtain ⟨j, hj, rfl⟩ := List.getElem_of_mem hx
    rw [List.getElem_drop] at hc
    rw [List.length_drop] at hj
    exact h (i + 1 + j) _ (by omega) (by omega) (List.getElem?_eq_getElem _) (by simpa using hc)
  · intro h j x h1 h2 hx hc
    rw [List.any_eq_false] at h
    refine h x ?_ (by simpa using hc)
    rw [List.mem_iff_getElem?]
    exact ⟨j - (i + 1), by rw [List.getElem?_drop, show i + 1 + (j - (i + 1)) = j by omega]; exact hx⟩
theorem lastL_drop {l : List (Nat × Int)} {i : Nat} {e : Nat × Int} (he : l[i]? = some e) : lastL (l.drop i) = (if (l.drop (i + 1)).any (fun x => x.1 == e.1) = true then [] else [e]) ++ lastL (l.drop (i + 1)) := by
  have hi : i < l.length := (List.getElem?_eq_some_iff.1 he).1
  have : l.drop i = e :: l.drop (i + 1) := by
    rw [List.drop_eq_getElem_cons hi]
    rw [List.getElem?_eq_getElem hi] at he
    rw [Option.some.inj he]
  rw [this]
  show (if (l.drop (i + 1)).any (fun x => x.1 == e.1) then lastL (l.drop (i + 1)) else e :: lastL (l.drop (i + 1))) = _
  split <;> rfl
/-- Behind all of them each word has the value of the last ones. -/
theorem look_last (l : List (Nat × Int)) : ∀ (d : Int) (i : Nat), (∀ e ∈ l, e.1 % 8 = 0) → look (lastL l) d i = look l d i := by
  induction l with
  | nil => intro d i _; rfl
  | cons x l ih =>
    intro d i h8
    have ihx := fun d => ih d i (fun e he => h8 e (List.mem_cons_of_mem _ he))
    show look (if l.any (fun y => y.1 == x.1) then lastL l else x :: lastL l) d i = look l (if x.1 / 8 = i then x.2 else d) i
    split
    · rename_i hc
      rw [ihx]
      by_cases hx : x.1 / 8 = i
      · rw [if_pos hx]
        obtain ⟨y, hy, h2⟩ := List.any_eq_true.1 hc
        have hh : ∀ (l : List (Nat × Int)) (d d' : Int), (∃ e ∈ l, e.1 / 8 = i) → look l d i = look l d' i := by
          intro l
          induction l with
          | nil => intro d d' h; obtain ⟨e, he, _⟩ := h; simp at he
          | cons z l ih =>
            intro d d' h
            show look l (if z.1 / 8 = i then z.2 else d) i = look l (if z.1 / 8 = i then z.2 else d') i
            by_cases hz : z.1 / 8 = i
            · rw [if_pos hz, if_pos hz]
            · rw [if_neg hz, if_neg hz]
              obtain ⟨e, he, h3⟩ := h
              rcases List.mem_cons.1 he with rfl | he
              · exact absurd h3 hz
              · exact ih d d' ⟨e, he, h3⟩
        exact hh l _ _ ⟨y, hy, by have : y.1 = x.1 := by simpa using h2
                                  rw [this]; exact hx⟩
      · rw [if_neg hx]
    · show look (lastL l) (if x.1 / 8 = i then x.2 else d) i = _
      rw [ihx]
/-- The words of the entries, and the commit word. -/
def entW (W : List (Nat × Int)) : List Nat := W.flatMap fun e => [e.1, e.2.toNat]
theorem entW_len (W : List (Nat × Int)) : (entW W).length = 2 * W.length := by
  induction W with
  | nil => rfl
  | cons x l ih => simp [entW] at *; omega
theorem entW_snoc (W : List (Nat × Int)) (e : Nat × Int) : entW (W ++ [e]) = entW W ++ [e.1, e.2.toNat] := by simp [entW]
theorem entW_bd {W : List (Nat × Int)} (h : ∀ e ∈ W, e.1 < 18446744073709551616 ∧ 0 ≤ e.2 ∧ e.2 < 18446744073709551616) : ∀ x ∈ entW W, x < 18446744073709551616 := by
  intro x hx
  obtain ⟨e, he, h2⟩ := List.mem_flatMap.1 hx
  have := h e he
  simp at h2
  rcases h2 with rfl | rfl <;> omega
def cmtN (W : List (Nat × Int)) : Nat := W.length + crcN (entW W) * 4294967296
theorem cmtN_bd {W : List (Nat × Int)} (h : W.length ≤ 96) : cmtN W < 18446744073709551616 := by
  have := crcN_lt (entW W)
  unfold cmtN; omega
/-- The entries as writes, from base on. -/
def planWs (base : Nat) : List (Nat × Int) → List (Nat × Int)
  | [] => []
  | e :: l => (base, (e.1 : Int)) :: (base + 8, e.2) :: planWs (base + 16) l
theorem planWs_snoc (l : List (Nat × Int)) (e : Nat × Int) : ∀ b, planWs b (l ++ [e]) = planWs b l ++ [(b + 16 * l.length, (e.1 : Int)), (b + 16 * l.length + 8, e.2)] := by
  induction l with
  | nil => intro b; simp [planWs]
  | cons x l ih => intro b; simp only [List.cons_append, planWs, ih, List.length_cons]; rw [show b + 16 + 16 * l.length = b + 16 * (l.length + 1) by omega]
theorem planWs_len (l : List (Nat × Int)) : ∀ b, (planWs b l).length = 2 * l.length := by
  induction l with
  | nil => intro b; rfl
  | cons x l ih => intro b; simp only [planWs, List.length_cons, ih]; omega
theorem planWs_bd (l : List (Nat × Int)) : ∀ b, ∀ e ∈ planWs b l, b ≤ e.1 ∧ e.1 < b + 16 * l.length := by
  induction l with
  | nil => intro b e he; simp [planWs] at he
  | cons x l ih =>
    intro b e he
    simp only [planWs, List.mem_cons] at he
    simp only [List.length_cons]
    rcases he with rfl | rfl | h
    · simp only; omega
    · simp only; omega
    · have := ih _ e h; omega
/-- Commit's program. -/
def rFinP (off : Nat) (W : List (Nat × Int)) : List (Nat × Nat × Int) := storesL W ++ storesL [(off, 0)]
def rPlanP (off : Nat) (W : List (Nat × Int)) : List (Nat × Nat × Int) := if W = [] then [] else (storesL (planWs (off + 64) W) ++ storesL [(off, (cmtN W : Int))]) ++ rFinP off W
def rAllowB (size off len o : Nat) : Bool := decide (o % 8 = 0 ∧ o < size ∧ (o < off ∨ off + len ≤ o))
/-- What Look tells: 1 idle, 2 committed (with the writes), 3 damaged. -/
def rLook (size off len : Nat) (C : Nat → Int) : Nat × List (Nat × Int) :=
  let c := (C (off / 8)).toNat
  let n := c % 65536
  let W := (List.range n).map fun i => ((C (off / 8 + 8 + 2 * i)).toNat, C (off / 8 + 9 + 2 * i))
  if c = 0 then (1, [])
  else if n = 0 ∨ 96 < n ∨ c / 65536 % 65536 ≠ 0 then (3, [])
  else if crcN (entW W) ≠ c / 4294967296 then (3, [])
  else if W.all (fun e => rAllowB size off len e.1) then (2, W) else (3, [])
end Go.Proofs.YtdidpppjkbgccaaDoor

/- A commit and a recovery of the redo log that are cut, plain. No program in sight. -/
namespace Go.Proofs.YtdidpppjkbgccaaDoor
open Go.RowKit

abbrev Gr := List (Nat × Int) × List Nat
def lineOffs (offs : List Nat) : List Nat := (linesL offs).map (64 * ·)
def storesGs (ws : List (Nat × Int)) : List Gr := if ws = [] then [] else [(ws, lineOffs (ws.map (·.1)))]
theorem linesL_nil {offs : List Nat} : linesL offs = [] ↔ offs = [] := by
  constructor
  · intro h
    match offs with
    | [] => rfl
    | o :: l =>
      have := (linesL_mem (o :: l) (o / 64)).2 ⟨o, by simp, rfl⟩
      rw [h] at this; simp at this
  · intro h; subst h; rfl
theorem stores_groups (ws : List (Nat × Int)) : storesL ws = groupsP (storesGs ws) := by
  unfold storesL storesGs
  by_cases h : ws = []
  · rw [if_pos h]; subst h; rfl
  · rw [if_neg h]
    unfold flushL
    rw [if_neg (fun e => h (by have := linesL_nil.1 e; simpa using this))]
    simp [groupsP, groupP, lineOffs]
theorem groupsP_append (a b : List Gr) : groupsP (a ++ b) = groupsP a ++ groupsP b := by simp [groupsP]
theorem lineOffs_lt {offs : List Nat} {n : Nat} (h : ∀ o ∈ offs, o < 64 * n) : ∀ o ∈ lineOffs offs, o < 64 * n := fun o ho => by
  obtain ⟨m, hm, rfl⟩ := List.mem_map.1 ho
  obtain ⟨p, hp, rfl⟩ := (linesL_mem _ _).1 hm
  have := h p hp; omega
theorem storesGs_ok {ws : List (Nat × Int)} {n : Nat} (h : ∀ e ∈ ws, e.1 % 8 = 0 ∧ e.1 < 64 * n) : ∀ g ∈ storesGs ws, groupOk n g := fun g hg => by
  unfold storesGs at hg
  split at hg
  · simp at hg
  · simp at hg; subst hg
    refine ⟨fun e he => ⟨(h e he).1, (h e he).2, 64 * (e.1 / 64), ?_, by omega⟩, lineOffs_lt (fun o ho => by obtain ⟨e, he, rfl⟩ := List.mem_map.1 ho; exact (h e he).2)⟩
    exact List.mem_map.2 ⟨e.1 / 64, (linesL_mem _ _).2 ⟨e.1, List.mem_map.2 ⟨e, he, rfl⟩, rfl⟩, rfl⟩
theorem oks_append {a b : List Gr} {n : Nat} (ha : ∀ g ∈ a, groupOk n g) (hb : ∀ g ∈ b, groupOk n g) : ∀ g ∈ a ++ b, groupOk n g := fun g hg => by
  rcases List.mem_append.1 hg with h | h
  · exact ha g h
  · exact hb g h
theorem store1_ok {off n : Nat} {x : Int} (h8 : off % 8 = 0) (hl : off < 64 * n) : ∀ g ∈ storesGs [(off, x)], groupOk n g := storesGs_ok (fun e he => by simp at he; subst he; exact ⟨h8, hl⟩)
theorem storesGs_flat (ws : List (Nat × Int)) : (storesGs ws).flatMap (·.1) = ws := by
  unfold storesGs
  split
  · rename_i h; subst h; rfl
  · simp
theorem laidG_flat (gs : List Gr) : ∀ (C : Nat → Int) (i : Nat), laidG C gs i = look (gs.flatMap (·.1)) (C i) i := by
  induction gs with
  | nil => intro C i; rfl
  | cons g gs ih =>
    intro C i
    rw [laidG_cons, ih, List.flatMap_cons, look_append]
def rFinGs (off : Nat) (W : List (Nat × Int)) : List Gr := storesGs W ++ storesGs [(off, 0)]
def rPlanGs (off : Nat) (W : List (Nat × Int)) : List Gr := if W = [] then [] else (storesGs (planWs (off + 64) W) ++ storesGs [(off, (cmtN W : Int))]) ++ rFinGs off W
theorem rFin_groups (off : Nat) (W : List (Nat × Int)) : rFinP off W = groupsP (rFinGs off W) := by
  unfold rFinP rFinGs
  rw [groupsP_append, stores_groups, stores_groups]
theorem rPlan_groups (off : Nat) (W : List (Nat × Int)) : rPlanP off W = groupsP (rPlanGs off W) := by
  unfold rPlanP rPlanGs
  split
  · rfl
  · rw [groupsP_append, groupsP_append, stores_groups, stores_groups, rFin_groups]
theorem look_hit (l : List (Nat × Int)) : ∀ (d d' : Int) (i : Nat), (∃ e ∈ l, e.1 / 8 = i) → look l d i = look l d' i := by
  induction l with
  | nil => intro d d' i h; obtain ⟨e, he, _⟩ := h; simp at he
  | cons x l ih =>
    intro d d' i h
    by_cases hx : x.1 / 8 = i
    · have e1 : ∀ d, look (x :: l) d i = look l x.2 i := fun d => by show look l (if x.1 / 8 = i then x.2 else d) i = _; rw [if_pos hx]
      rw [e1, e1]
    · have e1 : ∀ d, look (x :: l) d i = look l d i := fun d => by show look l (if x.1 / 8 = i then x.2 else d) i = _; rw [if_neg hx]
      rw [e1, e1]
      obtain ⟨e, he, h2⟩ := h
      rcases List.mem_cons.1 he with rfl | he
      · exact absurd h2 hx
      · exact ih d d' i ⟨e, he, h2⟩
theorem look_twice (l : List (Nat × Int)) (d : Int) (i : Nat) : look l (look l d i) i = look l d i := by
  by_cases hit : ∃ e ∈ l, e.1 / 8 = i
  · exact look_hit l _ _ i hit
  · rw [look_other l d i (fun e he h2 => hit ⟨e, he, h2⟩)]
    exact look_other l d i (fun e he h2 => hit ⟨e, he, h2⟩)

/-- The law's device: 40 lines, the log in the lines 5 to 30. -/
abbrev lk (C : Nat → Int) : Nat × List (Nat × Int) := rLook 2560 320 1664 C
/-- The words behind a recovery. -/
def rRes (C : Nat → Int) (i : Nat) : Int := if (lk C).1 = 2 then look ((lk C).2 ++ [(320, 0)]) (C i) i else C i
def OutR (f g : Nat → Int) : Prop := f 40 = 0 ∧ ∀ i, (i < 40 ∨ 248 ≤ i) → f i = g i
/-- A log that recovery takes to the words X. -/
def Good (X f : Nat → Int) : Prop := ((lk f).1 = 1 ∨ (lk f).1 = 2) ∧ OutR (rRes f) X
/-- Writes that a commit takes. -/
structure WOk (W : List (Nat × Int)) : Prop where
  len : W.length ≤ 96
  ok : ∀ e ∈ W, rAllowB 2560 320 1664 e.1 = true
  bd : ∀ e ∈ W, 0 ≤ e.2 ∧ e.2 < 18446744073709551616
theorem allow_out {o : Nat} (h : rAllowB 2560 320 1664 o = true) : o % 8 = 0 ∧ o < 2560 ∧ (o < 320 ∨ 1984 ≤ o) := by
  simpa [rAllowB] using h
theorem lk_zero {f : Nat → Int} (h : f 40 = 0) : lk f = (1, []) := by
  unfold lk rLook
  simp [show 320 / 8 = 40 from rfl, h]
theorem good_zero {X f : Nat → Int} (h : f 40 = 0) (ho : ∀ i, (i < 40 ∨ 248 ≤ i) → f i = X i) : Good X f := by
  have hl := lk_zero h
  have hr : ∀ i, rRes f i = f i := fun i => by unfold rRes; rw [hl]; rfl
  exact ⟨.inl (by rw [hl]), by rw [hr]; exact h, fun i hi => by rw [hr]; exact ho i hi⟩
theorem lk_cmt {W : List (Nat × Int)} {f : Nat → Int} (hW : WOk W) (h0 : W ≠ []) (h : f 40 = (cmtN W : Int)) (hE : ∀ (k : Nat) (e : Nat × Int), W[k]? = some e → f (48 + 2 * k) = e.1 ∧ f (49 + 2 * k) = e.2) : lk f = (2, W) := by
  have hlen : 0 < W.length := List.length_pos_iff.2 h0
  have hc := crcN_lt (entW W)
  have hcn : (f (320 / 8)).toNat = cmtN W := by rw [show 320 / 8 = 40 from rfl, h]; omega
  have h1 : cmtN W % 65536 = W.length := by unfold cmtN; have := hW.len; omega
  have h2 : cmtN W / 65536 % 65536 = 0 := by unfold cmtN; have := hW.len; omega
  have h3 : cmtN W / 4294967296 = crcN (entW W) := by unfold cmtN; have := hW.len; omega
  have h4 : cmtN W ≠ 0 := by unfold cmtN; omega
  have hw : ((List.range W.length).map fun i => ((f (320 / 8 + 8 + 2 * i)).toNat, f (320 / 8 + 9 + 2 * i))) = W := by
    refine List.ext_getElem? fun k => ?_
    by_cases hk : k < W.length
    · obtain ⟨e, he⟩ : ∃ e, W[k]? = some e := ⟨_, List.getElem?_eq_getElem hk⟩
      obtain ⟨e1, e2⟩ := hE k e he
      rw [List.getElem?_map, List.getElem?_range hk, he]
      simp only [Option.map_some]
      rw [show 320 / 8 + 8 + 2 * k = 48 + 2 * k by omega, show 320 / 8 + 9 + 2 * k = 49 + 2 * k by omega, e1, e2, Int.toNat_natCast]
    · rw [List.getElem?_eq_none (by simp; omega), List.getElem?_eq_none (by omega)]
  unfold lk rLook
  simp only [hcn, h1, h2, h3, hw, h4, if_false]
  have hl := hW.len
  rw [if_neg (by omega), if_neg (by simp), if_pos (List.all_eq_true.2 hW.ok)]
theorem good_two {W : List (Nat × Int)} {X f : Nat → Int} (hl : lk f = (2, W)) (ho : ∀ i, (i < 40 ∨ 248 ≤ i) → look W (f i) i = X i) : Good X f := by
  have hr : ∀ i, rRes f i = look (W ++ [(320, 0)]) (f i) i := fun i => by unfold rRes; rw [hl]; rfl
  refine ⟨.inr (by rw [hl]), by rw [hr, look_snoc, if_pos (show 320 / 8 = 40 from rfl)], fun i hi => ?_⟩
  rw [hr, look_snoc, if_neg (by show ¬ 320 / 8 = i; omega)]
  exact ho i hi
theorem look_plan (F : List (Nat × Int)) : ∀ (b : Nat) (d : Int) (i : Nat), b % 8 = 0 → (i < b / 8 → look (planWs b F) d i = d) ∧ ∀ (j : Nat) (e : Nat × Int), F[j]? = some e → (i = b / 8 + 2 * j → look (planWs b F) d i = e.1) ∧ (i = b / 8 + 2 * j + 1 → look (planWs b F) d i = e.2) := by
  induction F with
  | nil => intro b d i _; exact ⟨fun _ => rfl, fun j e h => by simp at h⟩
  | cons x F ih =>
    intro b d i hb
    have e0 : look (planWs b (x :: F)) d i = look (planWs (b + 16) F) (if (b + 8) / 8 = i then x.2 else if b / 8 = i then x.1 else d) i := rfl
    rw [e0]
    refine ⟨fun hi => ?_, fun j e hj => ?_⟩
    · rw [(ih (b + 16) _ i (by omega)).1 (by omega), if_neg (by omega), if_neg (by omega)]
    · cases j with
      | zero =>
        simp at hj; subst hj
        refine ⟨fun hi => ?_, fun hi => ?_⟩
        · rw [(ih (b + 16) _ i (by omega)).1 (by omega), if_neg (by omega), if_pos (by omega)]
        · rw [(ih (b + 16) _ i (by omega)).1 (by omega), if_pos (by omega)]
      | succ j =>
        simp at hj
        have := (ih (b + 16) (if (b + 8) / 8 = i then x.2 else if b / 8 = i then x.1 else d) i (by omega)).2 j e hj
        exact ⟨fun hi => this.1 (by omega), fun hi => this.2 (by omega)⟩
theorem planWs_8 {l : List (Nat × Int)} : ∀ {b : Nat}, b % 8 = 0 → ∀ e ∈ planWs b l, e.1 % 8 = 0 := by
  induction l with
  | nil => intro b _ e he; simp [planWs] at he
  | cons x l ih =>
    intro b hb e he
    simp only [planWs, List.mem_cons] at he
    rcases he with rfl | rfl | h
    · exact hb
    · simp only; omega
    · exact ih (by omega) e h
theorem WOk.fin {W : List (Nat × Int)} (hW : WOk W) : ∀ g ∈ rFinGs 320 W, groupOk 40 g := oks_append (storesGs_ok (fun e he => by have := allow_out (hW.ok e he); omega)) (store1_ok (by omega) (by omega))
theorem WOk.plan {W : List (Nat × Int)} (hW : WOk W) : ∀ g ∈ rPlanGs 320 W, groupOk 40 g := by
  unfold rPlanGs
  split
  · intro g hg; simp at hg
  · have hl := hW.len
    exact oks_append (oks_append (storesGs_ok (fun e he => ⟨planWs_8 (by omega) e he, by have := planWs_bd W _ e he; omega⟩)) (store1_ok (by omega) (by omega))) hW.fin
/-- The words of a log whose commit word and entries are laid. -/
structure Laid (W : List (Nat × Int)) (f : Nat → Int) : Prop where
  c : f 40 = (cmtN W : Int)
  e : ∀ (k : Nat) (e : Nat × Int), W[k]? = some e → f (48 + 2 * k) = e.1 ∧ f (49 + 2 * k) = e.2
theorem WOk.no {W : List (Nat × Int)} (hW : WOk W) (i : Nat) (h1 : 40 ≤ i) (h2 : i < 248) : ∀ e ∈ W, e.1 / 8 ≠ i := fun e he h3 => by have := allow_out (hW.ok e he); omega
theorem pre_mem {gs : List Gr} {a : Nat} {ws t : List (Nat × Int)} {g : Gr} (h : (gs[a]?.map (·.1)).getD [] = ws ++ t) (hg : gs[a]? = some g) : ∀ e ∈ ws, e ∈ g.1 := fun e he => by
  rw [hg] at h
  have h : g.1 = ws ++ t := by simpa using h
  rw [h]; exact List.mem_append_left _ he
theorem pre_nil {gs : List Gr} {a : Nat} {ws t : List (Nat × Int)} (h : (gs[a]?.map (·.1)).getD [] = ws ++ t) (hg : gs[a]? = none) : ws = [] := by
  rw [hg] at h
  exact (List.append_eq_nil_iff.1 (show ws ++ t = [] by simpa using h.symm)).1
/-- While the writes of a committed log are laid: a image has all of them behind a recovery. -/
theorem fin_img {W : List (Nat × Int)} (hW : WOk W) (h0 : W ≠ []) {f X : Nat → Int} (hL : Laid W f) (hX : ∀ i, (i < 40 ∨ 248 ≤ i) → look W (f i) i = X i) {E : Dev} {a : Nat} {ws : List (Nat × Int)}
    (le : a ≤ (rFinGs 320 W).length) (pre : ∃ t, ((rFinGs 320 W)[a]?.map (·.1)).getD [] = ws ++ t) (hst : Hst E (laidG f ((rFinGs 320 W).take a)) ws) (ks : Nat → Nat) : Good X (E.img ks) := by
  obtain ⟨t, ht⟩ := pre
  have hgs : rFinGs 320 W = [(W, lineOffs (W.map (·.1))), ([(320, (0 : Int))], lineOffs [320])] := by
    unfold rFinGs storesGs; rw [if_neg h0, if_neg (by simp)]; rfl
  rw [hgs] at le ht hst
  have hgood : ∀ g : Nat → Int, g 40 = f 40 → (∀ i, 41 ≤ i → i < 248 → g i = f i) → (∀ i, (i < 40 ∨ 248 ≤ i) → look W (g i) i = X i) → Good X g := fun g hc hlog hout => by
    have hl := hW.len
    refine good_two (W := W) (lk_cmt hW h0 (by rw [hc]; exact hL.c) (fun k e he => ?_)) hout
    have hk : k < W.length := (List.getElem?_eq_some_iff.1 he).1
    rw [hlog _ (by omega) (by omega), hlog _ (by omega) (by omega)]
    exact hL.e k e he
  have hle : a = 0 ∨ a = 1 ∨ a = 2 := by simp at le; omega
  rcases hle with ha | ha | ha
  · subst ha
    have hm : ∀ e ∈ ws, e ∈ W := pre_mem (g := (W, lineOffs (W.map (·.1)))) ht rfl
    have hst : Hst E f ws := hst
    have hno : ∀ i, 40 ≤ i → i < 248 → E.img ks i = f i := fun i h1 h2 => by
      rcases hst.img ks i with h | ⟨e, he, h3, _⟩
      · exact h
      · exact absurd h3 (hW.no i h1 h2 e (hm e he))
    refine hgood _ (hno 40 (by omega) (by omega)) (fun i h1 h2 => hno i (by omega) h2) (fun i hi => ?_)
    rw [← hX i hi]
    rcases hst.img ks i with h | ⟨e, he, h3, _⟩
    · rw [h]
    · exact look_hit W _ _ i ⟨e, hm e he, h3⟩
  · subst ha
    have hm : ∀ e ∈ ws, e = (320, (0 : Int)) := fun e he => by
      have := pre_mem (g := ([(320, (0 : Int))], lineOffs [320])) ht rfl e he
      simpa using this
    have hst : Hst E (fun i => look W (f i) i) ws := hst
    have hne : ∀ i, i ≠ 40 → E.img ks i = look W (f i) i := fun i hi => by
      rcases hst.img ks i with h | ⟨e, he, h3, _⟩
      · exact h
      · rw [hm e he] at h3; exact absurd h3.symm hi
    have h40 : E.img ks 40 = f 40 ∨ E.img ks 40 = 0 := by
      rcases hst.img ks 40 with h | ⟨e, he, _, h3⟩
      · left; rw [h]; exact look_other W _ _ (hW.no 40 (by omega) (by omega))
      · right; rw [h3, hm e he]
    rcases h40 with h40 | h40
    · refine hgood _ h40 (fun i h1 h2 => ?_) (fun i hi => ?_)
      · rw [hne i (by omega)]; exact look_other W _ _ (hW.no i (by omega) h2)
      · rw [hne i (by omega), look_twice]; exact hX i hi
    · exact good_zero h40 (fun i hi => by rw [hne i (by omega)]; exact hX i hi)
  · subst ha
    have hw := pre_nil ht rfl
    subst hw
    have hst : Hst E (fun i => look [(320, (0 : Int))] (look W (f i) i) i) [] := hst
    have hi : ∀ i, E.img ks i = look [(320, (0 : Int))] (look W (f i) i) i := fun i => by
      rcases hst.img ks i with h | ⟨e, he, _⟩
      · exact h
      · simp at he
    refine good_zero (by rw [hi]; rfl) (fun i h1 => ?_)
    rw [hi, look_other [(320, (0 : Int))] _ i (fun e he h2 => by simp at he; subst he; simp at h2; omega)]
    exact hX i h1
/-- Nothing pending for thread 0 on 40 lines. -/
structure RCl (D : Dev) (C : Nat → Int) (x : Nat) : Prop where
  grp : Grp D 0 40 C [] []
  vb : D.VB
  exec : D.exec ≤ x
theorem RCl.img {D : Dev} {C : Nat → Int} {x : Nat} (h : RCl D C x) (ks : Nat → Nat) : D.img ks = C := funext fun i => h.grp.hst.clean ks i
theorem RCl.cur {D : Dev} {C : Nat → Int} {x : Nat} (h : RCl D C x) : D.cur = C := funext fun i => by rw [h.grp.hst.cur]; rfl
theorem RCl.pers {D : Dev} {C : Nat → Int} {x : Nat} (h : RCl D C x) : D.pers = C := funext fun i => h.grp.hst.pers i
theorem flat_plan {W : List (Nat × Int)} (h0 : W ≠ []) : (rPlanGs 320 W).flatMap (·.1) = planWs 384 W ++ [(320, (cmtN W : Int))] ++ (W ++ [(320, 0)]) := by
  unfold rPlanGs rFinGs
  rw [if_neg h0]
  simp only [List.flatMap_append, storesGs_flat]
theorem flat_fin (W : List (Nat × Int)) : (rFinGs 320 W).flatMap (·.1) = W ++ [(320, 0)] := by
  unfold rFinGs
  simp only [List.flatMap_append, storesGs_flat]
theorem planE_no {W : List (Nat × Int)} (hW : WOk W) (i : Nat) (hi : i < 48 ∨ 248 ≤ i) : ∀ e ∈ planWs 384 W, e.1 / 8 ≠ i := fun e he h => by
  have := planWs_bd W _ e he; have := hW.len; omega
theorem laid_plan {W : List (Nat × Int)} (hW : WOk W) (C : Nat → Int) : Laid W (fun i => look [(320, (cmtN W : Int))] (look (planWs 384 W) (C i) i) i) := by
  have hl := hW.len
  refine ⟨by show look [(320, (cmtN W : Int))] (look (planWs 384 W) (C 40) 40) 40 = _; show (if 320 / 8 = 40 then (cmtN W : Int) else _) = _; rw [if_pos (show 320 / 8 = 40 from rfl)], fun k e he => ?_⟩
  have hk : k < W.length := (List.getElem?_eq_some_iff.1 he).1
  have h1 := (look_plan W 384 (C (48 + 2 * k)) (48 + 2 * k) (by omega)).2 k e he
  have h2 := (look_plan W 384 (C (49 + 2 * k)) (49 + 2 * k) (by omega)).2 k e he
  constructor
  · show look [(320, (cmtN W : Int))] (look (planWs 384 W) (C (48 + 2 * k)) (48 + 2 * k)) (48 + 2 * k) = _
    rw [look_other [(320, (cmtN W : Int))] _ _ (fun e he h2 => by simp at he; subst he; simp at h2; omega)]
    exact h1.1 (by omega)
  · show look [(320, (cmtN W : Int))] (look (planWs 384 W) (C (49 + 2 * k)) (49 + 2 * k)) (49 + 2 * k) = _
    rw [look_other [(320, (cmtN W : Int))] _ _ (fun e he h2 => by simp at he; subst he; simp at h2; omega)]
    exact h2.2 (by omega)
/-- While a commit is cut: an image leads to the words before or behind it. -/
theorem plan_img {W : List (Nat × Int)} (hW : WOk W) (h0 : W ≠ []) {C : Nat → Int} (hC : C 40 = 0) {E : Dev} {a : Nat} {ws : List (Nat × Int)}
    (le : a ≤ (rPlanGs 320 W).length) (pre : ∃ t, ((rPlanGs 320 W)[a]?.map (·.1)).getD [] = ws ++ t) (hst : Hst E (laidG C ((rPlanGs 320 W).take a)) ws) (ks : Nat → Nat) : Good C (E.img ks) ∨ Good (fun i => look W (C i) i) (E.img ks) := by
  have hne : planWs 384 W ≠ [] := fun e => by
    have := congrArg List.length e
    rw [planWs_len] at this
    have : W.length = 0 := by simp only [List.length_nil] at this; omega
    exact h0 (List.length_eq_zero_iff.1 this)
  have hgs : rPlanGs 320 W = [(planWs 384 W, lineOffs ((planWs 384 W).map (·.1))), ([(320, (cmtN W : Int))], lineOffs [320])] ++ rFinGs 320 W := by
    unfold rPlanGs
    rw [if_neg h0]
    unfold storesGs
    rw [if_neg hne, if_neg (by simp)]; rfl
  have hL := laid_plan hW C
  have hX : ∀ i, (i < 40 ∨ 248 ≤ i) → look W (look [(320, (cmtN W : Int))] (look (planWs 384 W) (C i) i) i) i = look W (C i) i := fun i hi => by
    rw [look_other [(320, (cmtN W : Int))] _ i (fun e he h2 => by simp at he; subst he; simp at h2; omega), look_other (planWs 384 W) _ i (planE_no hW i (by omega))]
  rw [hgs] at le pre hst
  by_cases ha2 : 2 ≤ a
  · right
    obtain ⟨b, rfl⟩ : ∃ b, a = 2 + b := ⟨a - 2, by omega⟩
    have hst : Hst E (laidG (fun i => look [(320, (cmtN W : Int))] (look (planWs 384 W) (C i) i) i) ((rFinGs 320 W).take b)) ws := by
      have e : ([(planWs 384 W, lineOffs ((planWs 384 W).map (·.1))), ([(320, (cmtN W : Int))], lineOffs [320])] ++ rFinGs 320 W).take (2 + b) = (planWs 384 W, lineOffs ((planWs 384 W).map (·.1))) :: ([(320, (cmtN W : Int))], lineOffs [320]) :: (rFinGs 320 W).take b := by
        rw [List.take_append, List.take_of_length_le (by simp)]
        simp [show 2 + b - 2 = b by omega]
      rw [e] at hst
      exact hst
    have e2 : ([(planWs 384 W, lineOffs ((planWs 384 W).map (·.1))), ([(320, (cmtN W : Int))], lineOffs [320])] ++ rFinGs 320 W)[2 + b]? = (rFinGs 320 W)[b]? := by
      rw [List.getElem?_append_right (by simp)]
      simp [show 2 + b - 2 = b by omega]
    rw [e2] at pre
    exact fin_img hW h0 hL hX (by simp at le; omega) pre hst ks
  · obtain ⟨t, ht⟩ := pre
    have ha : a = 0 ∨ a = 1 := by omega
    rcases ha with ha | ha
    · left
      subst ha
      have hm : ∀ e ∈ ws, e ∈ planWs 384 W := pre_mem (g := (planWs 384 W, lineOffs ((planWs 384 W).map (·.1)))) ht rfl
      have hst : Hst E C ws := hst
      have hi : ∀ i, (i < 48 ∨ 248 ≤ i) → E.img ks i = C i := fun i hi => by
        rcases hst.img ks i with h | ⟨e, he, h3, _⟩
        · exact h
        · exact absurd h3 (planE_no hW i hi e (hm e he))
      exact good_zero (by rw [hi 40 (by omega), hC]) (fun i h => hi i (by omega))
    · subst ha
      have hm : ∀ e ∈ ws, e = (320, (cmtN W : Int)) := fun e he => by
        have := pre_mem (g := ([(320, (cmtN W : Int))], lineOffs [320])) ht rfl e he
        simpa using this
      have hst : Hst E (fun i => look (planWs 384 W) (C i) i) ws := hst
      have hn : ∀ i, i ≠ 40 → E.img ks i = look (planWs 384 W) (C i) i := fun i hi => by
        rcases hst.img ks i with h | ⟨e, he, h3, _⟩
        · exact h
        · rw [hm e he] at h3; exact absurd (by simpa using h3.symm) hi
      have ho : ∀ i, (i < 40 ∨ 248 ≤ i) → E.img ks i = C i := fun i hi => by
        rw [hn i (by omega)]; exact look_other _ _ _ (planE_no hW i (by omega))
      have h40 : E.img ks 40 = 0 ∨ E.img ks 40 = (cmtN W : Int) := by
        rcases hst.img ks 40 with h | ⟨e, he, _, h3⟩
        · left; rw [h]; show look (planWs 384 W) (C 40) 40 = 0; rw [look_other _ _ _ (planE_no hW 40 (by omega)), hC]
        · right; rw [h3, hm e he]
      rcases h40 with h40 | h40
      · exact .inl (good_zero h40 ho)
      · right
        refine good_two (W := W) (lk_cmt hW h0 h40 (fun k e he => ?_)) (fun i hi => by rw [ho i hi])
        have h1 := hL.e k e he
        rw [hn _ (by omega), hn _ (by omega)]
        have q : ∀ i, i ≠ 40 → look [(320, (cmtN W : Int))] (look (planWs 384 W) (C i) i) i = look (planWs 384 W) (C i) i := fun i hi => look_other _ _ _ (fun e he h2 => by simp at he; subst he; simp at h2; omega)
        exact ⟨(q _ (by omega)).symm.trans h1.1, (q _ (by omega)).symm.trans h1.2⟩
end Go.Proofs.YtdidpppjkbgccaaDoor

/- The redo log on the law's device: what a commit and a recovery leave, plain. No program in sight. -/
namespace Go.Proofs.YtdidpppjkbgccaaDoor
open Go.RowKit

theorem valP_groups {gs : List Gr} (h : ∀ e ∈ gs.flatMap (·.1), 0 ≤ e.2 ∧ e.2 < 18446744073709551616) : valP (groupsP gs) := by
  intro e he h1
  obtain ⟨g, hg, he⟩ := List.mem_flatMap.1 he
  unfold groupP at he
  rcases List.mem_append.1 he with h2 | h2
  · rcases List.mem_append.1 h2 with h3 | h3
    · obtain ⟨x, hx, rfl⟩ := List.mem_map.1 h3
      exact h x (List.mem_flatMap.2 ⟨g, hg, hx⟩)
    · obtain ⟨x, hx, rfl⟩ := List.mem_map.1 h3; simp at h1
  · simp at h2; subst h2; simp at h1
theorem step_n (D : Dev) (j : Nat) (e : Nat × Nat × Int) : (D.step j e).n = D.n := by
  unfold Dev.step Dev.store Dev.flush Dev.fence Dev.countedD Dev.onD Dev.fail
  repeat' split
  all_goals rfl
theorem run_n (j : Nat) (l : List (Nat × Nat × Int)) : ∀ D : Dev, (D.run j l).n = D.n := by
  induction l with
  | nil => intro D; rfl
  | cons e l ih => intro D; exact (ih (D.step j e)).trans (step_n D j e)
section
variable {D : Dev} {C : Nat → Int} {x : Nat}
theorem RCl.mono {y : Nat} (h : RCl D C x) (hxy : x ≤ y) : RCl D C y := ⟨h.grp, h.vb, Nat.le_trans h.exec hxy⟩
theorem RCl.bd (h : RCl D C x) (i : Nat) : 0 ≤ C i ∧ C i < 18446744073709551616 := by rw [← h.cur]; exact h.vb.cur i
/-- A program of groups on a device that is not armed. -/
theorem RCl.go (h : RCl D C x) (ha : D.armed = false) {gs : List Gr} (hg : ∀ g ∈ gs, groupOk 40 g) (hv : valP (groupsP gs)) :
    RCl (D.run 0 (groupsP gs)) (fun i => look (gs.flatMap (·.1)) (C i) i) (x + (groupsP gs).length) ∧ (D.run 0 (groupsP gs)).armed = false := by
  have hx := D.run_exec 0 (groupsP gs)
  have := h.exec
  rcases run_came h.grp hg with ⟨h1, h2, _⟩ | ⟨_, _, _, _, _, _, _, _, h2, _⟩
  · have e : laidG C gs = fun i => look (gs.flatMap (·.1)) (C i) i := funext fun i => laidG_flat gs C i
    rw [e] at h1
    exact ⟨⟨h1, Dev.VB.run _ h.vb 0 hv, by omega⟩, by rw [h2]; exact ha⟩
  · rw [ha] at h2; cases h2
theorem WOk.finV {W : List (Nat × Int)} (hW : WOk W) : valP (groupsP (rFinGs 320 W)) := valP_groups (fun e he => by
  rw [flat_fin] at he
  rcases List.mem_append.1 he with he | he
  · exact hW.bd e he
  · simp at he; subst he; simp)
theorem planWs_val {W : List (Nat × Int)} : ∀ {b : Nat}, (∀ e ∈ W, e.1 < 18446744073709551616 ∧ 0 ≤ e.2 ∧ e.2 < 18446744073709551616) → ∀ e ∈ planWs b W, 0 ≤ e.2 ∧ e.2 < 18446744073709551616 := by
  induction W with
  | nil => intro b _ e he; simp [planWs] at he
  | cons y l ih =>
    intro b h e he
    have := h y (by simp)
    simp only [planWs, List.mem_cons] at he
    rcases he with rfl | rfl | he
    · simp only; omega
    · exact this.2
    · exact ih (fun z hz => h z (by simp [hz])) e he
theorem WOk.planV {W : List (Nat × Int)} (hW : WOk W) : valP (groupsP (rPlanGs 320 W)) := by
  by_cases h0 : W = []
  · unfold rPlanGs; rw [if_pos h0]; intro e he; simp [groupsP] at he
  · refine valP_groups (fun e he => ?_)
    rw [flat_plan h0] at he
    rcases List.mem_append.1 he with he | he
    · rcases List.mem_append.1 he with he | he
      · exact planWs_val (fun e he => ⟨by have := allow_out (hW.ok e he); omega, hW.bd e he⟩) e he
      · simp at he; subst he
        have := cmtN_bd hW.len
        simp only; omega
    · rcases List.mem_append.1 he with he | he
      · exact hW.bd e he
      · simp at he; subst he; simp
/-- The words behind a commit. -/
def cmtC (W : List (Nat × Int)) (C : Nat → Int) (i : Nat) : Int := if W = [] then C i else look (planWs 384 W ++ [(320, (cmtN W : Int))] ++ (W ++ [(320, 0)])) (C i) i
theorem cmtC_out {W : List (Nat × Int)} (hW : WOk W) (C : Nat → Int) (hC : C 40 = 0) : cmtC W C 40 = 0 ∧ ∀ i, (i < 40 ∨ 248 ≤ i) → cmtC W C i = look W (C i) i := by
  unfold cmtC
  by_cases h0 : W = []
  · subst h0; exact ⟨by rw [if_pos rfl]; exact hC, fun i _ => by rw [if_pos rfl]; rfl⟩
  · refine ⟨?_, fun i hi => ?_⟩
    · rw [if_neg h0, ← List.append_assoc, look_snoc, if_pos (show 320 / 8 = 40 from rfl)]
    · rw [if_neg h0, ← List.append_assoc, look_snoc, if_neg (by show ¬ 320 / 8 = i; omega), look_append, look_snoc, if_neg (by show ¬ 320 / 8 = i; omega), look_other (planWs 384 W) _ i (planE_no hW i (by omega))]
theorem flat_cmt (W : List (Nat × Int)) (C : Nat → Int) (i : Nat) : look ((rPlanGs 320 W).flatMap (·.1)) (C i) i = cmtC W C i := by
  unfold cmtC
  by_cases h0 : W = []
  · rw [if_pos h0]; unfold rPlanGs; rw [if_pos h0]; rfl
  · rw [if_neg h0, flat_plan h0]
/-- A commit on a device that is not armed. -/
theorem RCl.commit (h : RCl D C x) (ha : D.armed = false) {W : List (Nat × Int)} (hW : WOk W) : RCl (D.run 0 (rPlanP 320 W)) (cmtC W C) (x + (rPlanP 320 W).length) ∧ (D.run 0 (rPlanP 320 W)).armed = false := by
  rw [rPlan_groups]
  have := h.go ha hW.plan hW.planV
  rw [funext (flat_cmt W C)] at this
  exact this
theorem RCl.arm (h : RCl D C x) (k : Nat) : RCl (D.arm k) C x := by
  have hoff := h.grp.on.off
  have e : D.arm k = { D with armed := true, left := k } := by unfold Dev.arm; rw [if_neg (by rw [hoff]; simp)]
  rw [e]
  exact ⟨⟨⟨h.grp.on.n, h.grp.on.off, h.grp.on.err⟩, ⟨h.grp.hst.pers, h.grp.hst.hist⟩, h.grp.yes, h.grp.no⟩, h.vb.same rfl rfl, h.exec⟩
/-- A commit, wherever the power fails. -/
theorem RCl.commit_cut (h : RCl D C x) (hC : C 40 = 0) {W : List (Nat × Int)} (hW : WOk W) :
    let E := D.run 0 (rPlanP 320 W)
    E.n = 40 ∧ E.VB ∧ E.exec ≤ x + (rPlanP 320 W).length ∧ ((E.err 0 = 0 ∧ ∀ ks, Good (fun i => look W (C i) i) (E.img ks)) ∨ (E.err 0 = 3 ∧ ∀ ks, Good C (E.img ks) ∨ Good (fun i => look W (C i) i) (E.img ks))) := by
  intro E
  have hx := D.run_exec 0 (rPlanP 320 W)
  have hex := h.exec
  refine ⟨(run_n 0 _ D).trans h.grp.on.n, ?_, by show (D.run 0 (rPlanP 320 W)).exec ≤ _; omega, ?_⟩
  · show (D.run 0 (rPlanP 320 W)).VB
    rw [rPlan_groups]; exact Dev.VB.run _ h.vb 0 hW.planV
  · have hE : E = D.run 0 (groupsP (rPlanGs 320 W)) := by show D.run 0 (rPlanP 320 W) = _; rw [rPlan_groups]
    by_cases h0 : W = []
    · left
      have hED : E = D := by rw [hE]; unfold rPlanGs; rw [if_pos h0]; rfl
      rw [hED]
      refine ⟨h.grp.on.err, fun ks => ?_⟩
      rw [h.img]
      subst h0
      exact good_zero hC (fun i _ => rfl)
    · have hcame := run_came h.grp hW.plan
      rw [← hE] at hcame
      rcases hcame with ⟨h1, _, _⟩ | ⟨_, he, _, a, ws, le, pre, hst, _, _⟩
      · left
        refine ⟨h1.on.err, fun ks => ?_⟩
        obtain ⟨k1, k2⟩ := cmtC_out hW C hC
        have hi : ∀ i, E.img ks i = cmtC W C i := fun i => by rw [h1.hst.clean ks i, laidG_flat, flat_cmt]
        exact good_zero (by rw [hi]; exact k1) (fun i hi2 => by rw [hi]; exact k2 i hi2)
      · exact .inr ⟨he, fun ks => plan_img hW h0 hC le pre hst ks⟩
theorem lk_two {f : Nat → Int} (hf : ∀ i, 0 ≤ f i ∧ f i < 18446744073709551616) {W : List (Nat × Int)} (h : lk f = (2, W)) : WOk W ∧ W ≠ [] ∧ Laid W f := by
  unfold lk rLook at h
  simp only at h
  rw [show 320 / 8 = 40 from rfl] at h
  obtain ⟨c, hc⟩ : ∃ c, (f 40).toNat = c := ⟨_, rfl⟩
  rw [hc] at h
  by_cases h1 : c = 0
  · rw [if_pos h1] at h; cases h
  · rw [if_neg h1] at h
    by_cases h2 : c % 65536 = 0 ∨ 96 < c % 65536 ∨ c / 65536 % 65536 ≠ 0
    · rw [if_pos h2] at h; cases h
    · rw [if_neg h2] at h
      generalize hW : ((List.range (c % 65536)).map fun i => ((f (40 + 8 + 2 * i)).toNat, f (40 + 9 + 2 * i))) = V at h
      have hWl : V.length = c % 65536 := by rw [← hW]; simp
      by_cases h3 : crcN (entW V) ≠ c / 4294967296
      · rw [if_pos h3] at h; cases h
      · rw [if_neg h3] at h
        by_cases h4 : (V.all fun e => rAllowB 2560 320 1664 e.1) = true
        · rw [if_pos h4] at h
          obtain rfl : V = W := (Prod.mk.inj h).2
          have h3' : crcN (entW V) = c / 4294967296 := by simpa using h3
          refine ⟨⟨by omega, List.all_eq_true.1 h4, fun e he => ?_⟩, fun e => ?_, ⟨?_, fun k e he => ?_⟩⟩
          · rw [← hW] at he; obtain ⟨i, _, rfl⟩ := List.mem_map.1 he; exact hf _
          · rw [e] at hWl; simp at hWl; omega
          · have hfc : f 40 = (c : Int) := by have := hf 40; omega
            rw [hfc]
            unfold cmtN
            rw [h3', hWl]
            omega
          · have hk := (List.getElem?_eq_some_iff.1 he).1
            rw [← hW, List.getElem?_map, List.getElem?_range (by omega)] at he
            simp only [Option.map_some, Option.some.injEq] at he
            subst he
            have := hf (40 + 8 + 2 * k)
            rw [show 48 + 2 * k = 40 + 8 + 2 * k by omega, show 49 + 2 * k = 40 + 9 + 2 * k by omega]
            exact ⟨(Int.toNat_of_nonneg this.1).symm, rfl⟩
        · rw [if_neg h4] at h; cases h
/-- A recovery of a committed log, wherever the power fails. -/
theorem RCl.recov {f X : Nat → Int} (h : RCl D f x) (hG : Good X f) {W : List (Nat × Int)} (hl : lk f = (2, W)) :
    let E := D.run 0 (rFinP 320 W)
    E.n = 40 ∧ E.VB ∧ E.exec ≤ x + (rFinP 320 W).length ∧ ((E.err 0 = 0 ∧ OutR E.pers X) ∨ (D.armed = true ∧ E.err 0 = 3 ∧ ∀ ks, Good X (E.img ks))) := by
  intro E
  obtain ⟨hW, h0, hL⟩ := lk_two h.bd hl
  have hx := D.run_exec 0 (rFinP 320 W)
  have hex := h.exec
  have hr : ∀ i, rRes f i = look (W ++ [(320, 0)]) (f i) i := fun i => by unfold rRes; rw [hl]; rfl
  have hX : ∀ i, (i < 40 ∨ 248 ≤ i) → look W (f i) i = X i := fun i hi => by
    rw [← hG.2.2 i hi, hr, look_snoc, if_neg (by show ¬ 320 / 8 = i; omega)]
  refine ⟨(run_n 0 _ D).trans h.grp.on.n, ?_, by show (D.run 0 (rFinP 320 W)).exec ≤ _; omega, ?_⟩
  · show (D.run 0 (rFinP 320 W)).VB
    rw [rFin_groups]; exact Dev.VB.run _ h.vb 0 hW.finV
  · have hE : E = D.run 0 (groupsP (rFinGs 320 W)) := by show D.run 0 (rFinP 320 W) = _; rw [rFin_groups]
    have hcame := run_came h.grp hW.fin
    rw [← hE] at hcame
    rcases hcame with ⟨h1, _, _⟩ | ⟨_, he, _, a, ws, le, pre, hst, ha, _⟩
    · left
      have hp : ∀ i, E.pers i = rRes f i := fun i => by rw [h1.hst.pers, laidG_flat, flat_fin, hr]
      exact ⟨h1.on.err, by rw [hp]; exact hG.2.1, fun i hi => by rw [hp]; exact hG.2.2 i hi⟩
    · exact .inr ⟨ha, he, fun ks => fin_img hW h0 hL hX le pre hst ks⟩
theorem fresh_rcl {f : Nat → Int} (hf : ∀ i, 0 ≤ f i ∧ f i < 18446744073709551616) : RCl (Dev.fresh 40 f) f 0 :=
  ⟨⟨⟨rfl, rfl, rfl⟩, ⟨fun _ => rfl, fun _ => rfl⟩, fun o ho => by simp at ho, fun _ _ => rfl⟩, ⟨hf, fun l e he => by simp [Dev.fresh] at he⟩, Nat.le_refl _⟩
end
end Go.Proofs.YtdidpppjkbgccaaDoor
