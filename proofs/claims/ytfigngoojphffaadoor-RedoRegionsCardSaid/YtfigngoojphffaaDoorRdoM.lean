/- The redo log as plain data: the last writes of a list, the programs, what Look tells. No program in sight. -/
import Derived.Test.YtfigngoojphffaaDoorStoresM
import Derived.Test.YtfigngoojphffaaDoorCrcM
import Derived.Test.YtfigngoojphffaaDoorDevP
namespace Go.Proofs.YtfigngoojphffaaDoor
open Go.RowKit

/-- Each write whose offset does not occur again later. -/
def lastL : List (Nat × Int) → List (Nat × Int)
  | [] => []
  | e :: l => if l.any (fun x => x.1 == e.1) then lastL l else e :: lastL l
theorem lastL_mem (l : List (Nat × Int)) : ∀ e ∈ lastL l, e ∈ l := by
  induction l with
  | nil => intro e h; simp [lastL] at h
  | cons x l ih =>
    intro e h
    unfold lastL at h
    split at h
    · exact List.mem_cons_of_mem _ (ih e h)
    · rcases List.mem_cons.1 h with rfl | h
      · exact List.mem_cons_self ..
      · exact List.mem_cons_of_mem _ (ih e h)
theorem lastL_len (l : List (Nat × Int)) : (lastL l).length ≤ l.length := by
  induction l with
  | nil => exact Nat.le_refl _
  | cons x l ih =>
    unfold lastL
    split
    · simp; omega
    · simp; omega
theorem lastL_nil {l : List (Nat × Int)} : lastL l = [] ↔ l = [] := by
  constructor
  · intro h
    induction l with
    | nil => rfl
    | cons x l ih =>
      unfold lastL at h
      split at h
      · rename_i hc
        rw [ih h] at hc
        simp at hc
      · cases h
  · rintro rfl; rfl
/-- Where offset x occurs last among the first k writes (0 if it does not). -/
def finI (l : List (Nat × Int)) : Nat → Nat → Int
  | 0, _ => 0
  | k + 1, x => if (l.getD k (0, 0)).1 = x then k else finI l k x
theorem finI_ge {l : List (Nat × Int)} {i : Nat} {e : Nat × Int} (he : l[i]? = some e) (k : Nat) (hk : i < k) : (i : Int) ≤ finI l k e.1 := by
  induction k with
  | zero => omega
  | succ k ih =>
    unfold finI
    by_cases h : i = k
    · subst h
      rw [if_pos (by simp [List.getD, he])]; omega
    · split
      · omega
      · exact ih (by omega)
theorem finI_eq {l : List (Nat × Int)} {i : Nat} {e : Nat × Int} (he : l[i]? = some e) (k : Nat) (hi : i < k) (hk : k ≤ l.length) : finI l k e.1 = i ↔ ∀ j x, i < j → j < k → l[j]? = some x → x.1 ≠ e.1 := by
  induction k with
  | zero => omega
  | succ k ih =>
    by_cases h : i = k
    · subst h
      constructor
      · intro _ j x h1 h2; omega
      · intro _; unfold finI; rw [if_pos (by simp [List.getD, he])]
    · obtain ⟨y, hy⟩ : ∃ y, l[k]? = some y := ⟨_, List.getElem?_eq_getElem (by omega)⟩
      have hyd : l.getD k (0, 0) = y := by simp [List.getD, hy]
      unfold finI
      rw [hyd]
      constructor
      · intro h1 j x h2 h3 hx
        split at h1
        · omega
        · rename_i hn
          by_cases hj : j = k
          · subst hj
            rw [hy] at hx; cases hx; exact hn
          · exact (ih (by omega) (by omega)).1 h1 j x h2 (by omega) hx
      · intro h1
        rw [if_neg (h1 k y (by omega) (by omega) hy)]
        exact (ih (by omega) (by omega)).2 (fun j x h2 h3 hx => h1 j x h2 (by omega) hx)
theorem finI_any {l : List (Nat × Int)} {i : Nat} {e : Nat × Int} (he : l[i]? = some e) : (finI l l.length e.1 = i) ↔ (l.drop (i + 1)).any (fun x => x.1 == e.1) = false := by
  have hi : i < l.length := (List.getElem?_eq_some_iff.1 he).1
  rw [finI_eq he l.length hi (Nat.le_refl _)]
  constructor
  · intro h
    rw [List.any_eq_false]
    intro x hx hc
    obtain ⟨j, hj, rfl⟩ := List.getElem_of_mem hx
    rw [List.getElem_drop] at hc
    rw [List.length_drop] at hj
    exact h (i + 1 + j) _ (by omega) (by omega) (List.getElem?_eq_getElem _) (by simpa using hc)
  · intro h j x h1 h2 hx hc
    rw [List.any_eq_false] at h
    refine h x ?_ (by simpa using hc)
    rw [List.mem_iff_getElem?]
    exact ⟨j - (i + 1), by rw [List.getElem?_drop, show i + 1 + (j - (i + 1)) = j by omega]; exact hx⟩
theorem lastL_drop {l : List (Nat × Int)} {i : Nat} {e : Nat × Int} (he : l[i]? = some e) : lastL (l.drop i) = (if (l.drop (i + 1)).any (fun x => x.1 == e.1) = true then [] else [e]) ++ lastL (l.drop (i + 1)) := by
  have hi : i < l.length := (List.getElem?_eq_some_iff.1 he).1
  have : l.drop i = e :: l.drop (i + 1) := by
    rw [List.drop_eq_getElem_cons hi]
    rw [List.getElem?_eq_getElem hi] at he
    rw [Option.some.inj he]
  rw [this]
  show (if (l.drop (i + 1)).any (fun x => x.1 == e.1) then lastL (l.drop (i + 1)) else e :: lastL (l.drop (i + 1))) = _
  split <;> rfl
/-- Behind all of them each word has the value of the last ones. -/
theorem look_last (l : List (Nat × Int)) : ∀ (d : Int) (i : Nat), (∀ e ∈ l, e.1 % 8 = 0) → look (lastL l) d i = look l d i := by
  induction l with
  | nil => intro d i _; rfl
  | cons x l ih =>
    intro d i h8
    have ihx := fun d => ih d i (fun e he => h8 e (List.mem_cons_of_mem _ he))
    show look (if l.any (fun y => y.1 == x.1) then lastL l else x :: lastL l) d i = look l (if x.1 / 8 = i then x.2 else d) i
    split
    · rename_i hc
      rw [ihx]
      by_cases hx : x.1 / 8 = i
      · rw [if_pos hx]
        obtain ⟨y, hy, h2⟩ := List.any_eq_true.1 hc
        have hh : ∀ (l : List (Nat × Int)) (d d' : Int), (∃ e ∈ l, e.1 / 8 = i) → look l d i = look l d' i := by
          intro l
          induction l with
          | nil => intro d d' h; obtain ⟨e, he, _⟩ := h; simp at he
          | cons z l ih =>
            intro d d' h
            show look l (if z.1 / 8 = i then z.2 else d) i = look l (if z.1 / 8 = i then z.2 else d') i
            by_cases hz : z.1 / 8 = i
            · rw [if_pos hz, if_pos hz]
            · rw [if_neg hz, if_neg hz]
              obtain ⟨e, he, h3⟩ := h
              rcases List.mem_cons.1 he with rfl | he
              · exact absurd h3 hz
              · exact ih d d' ⟨e, he, h3⟩
        exact hh l _ _ ⟨y, hy, by have : y.1 = x.1 := by simpa using h2
                                  rw [this]; exact hx⟩
      · rw [if_neg hx]
    · show look (lastL l) (if x.1 / 8 = i then x.2 else d) i = _
      rw [ihx]
/-- The words of the entries, and the commit word. -/
def entW (W : List (Nat × Int)) : List Nat := W.flatMap fun e => [e.1, e.2.toNat]
theorem entW_len (W : List (Nat × Int)) : (entW W).length = 2 * W.length := by
  induction W with
  | nil => rfl
  | cons x l ih => simp [entW] at *; omega
theorem entW_snoc (W : List (Nat × Int)) (e : Nat × Int) : entW (W ++ [e]) = entW W ++ [e.1, e.2.toNat] := by simp [entW]
theorem entW_bd {W : List (Nat × Int)} (h : ∀ e ∈ W, e.1 < 18446744073709551616 ∧ 0 ≤ e.2 ∧ e.2 < 18446744073709551616) : ∀ x ∈ entW W, x < 18446744073709551616 := by
  intro x hx
  obtain ⟨e, he, h2⟩ := List.mem_flatMap.1 hx
  have := h e he
  simp at h2
  rcases h2 with rfl | rfl <;> omega
def cmtN (W : List (Nat × Int)) : Nat := W.length + crcN (entW W) * 4294967296
theorem cmtN_bd {W : List (Nat × Int)} (h : W.length ≤ 96) : cmtN W < 18446744073709551616 := by
  have := crcN_lt (entW W)
  unfold cmtN; omega
/-- The entries as writes, from base on. -/
def planWs (base : Nat) : List (Nat × Int) → List (Nat × Int)
  | [] => []
  | e :: l => (base, (e.1 : Int)) :: (base + 8, e.2) :: planWs (base + 16) l
theorem planWs_snoc (l : List (Nat × Int)) (e : Nat × Int) : ∀ b, planWs b (l ++ [e]) = planWs b l ++ [(b + 16 * l.length, (e.1 : Int)), (b + 16 * l.length + 8, e.2)] := by
  induction l with
  | nil => intro b; simp [planWs]
  | cons x l ih => intro b; simp only [List.cons_append, planWs, ih, List.length_cons]; rw [show b + 16 + 16 * l.length = b + 16 * (l.length + 1) by omega]
theorem planWs_len (l : List (Nat × Int)) : ∀ b, (planWs b l).length = 2 * l.length := by
  induction l with
  | nil => intro b; rfl
  | cons x l ih => intro b; simp only [planWs, List.length_cons, ih]; omega
theorem planWs_bd (l : List (Nat × Int)) : ∀ b, ∀ e ∈ planWs b l, b ≤ e.1 ∧ e.1 < b + 16 * l.length := by
  induction l with
  | nil => intro b e he; simp [planWs] at he
  | cons x l ih =>
    intro b e he
    simp only [planWs, List.mem_cons] at he
    simp only [List.length_cons]
    rcases he with rfl | rfl | h
    · simp only; omega
    · simp only; omega
    · have := ih _ e h; omega
/-- Commit's program. -/
def rFinP (off : Nat) (W : List (Nat × Int)) : List (Nat × Nat × Int) := storesL W ++ storesL [(off, 0)]
def rPlanP (off : Nat) (W : List (Nat × Int)) : List (Nat × Nat × Int) := if W = [] then [] else (storesL (planWs (off + 64) W) ++ storesL [(off, (cmtN W : Int))]) ++ rFinP off W
def rAllowB (size off len o : Nat) : Bool := decide (o % 8 = 0 ∧ o < size ∧ (o < off ∨ off + len ≤ o))
/-- What Look tells: 1 idle, 2 committed (with the writes), 3 damaged. -/
def rLook (size off len : Nat) (C : Nat → Int) : Nat × List (Nat × Int) :=
  let c := (C (off / 8)).toNat
  let n := c % 65536
  let W := (List.range n).map fun i => ((C (off / 8 + 8 + 2 * i)).toNat, C (off / 8 + 9 + 2 * i))
  if c = 0 then (1, [])
  else if n = 0 ∨ 96 < n ∨ c / 65536 % 65536 ≠ 0 then (3, [])
  else if crcN (entW W) ≠ c / 4294967296 then (3, [])
  else if W.all (fun e => rAllowB size off len e.1) then (2, W) else (3, [])
end Go.Proofs.YtfigngoojphffaaDoor
