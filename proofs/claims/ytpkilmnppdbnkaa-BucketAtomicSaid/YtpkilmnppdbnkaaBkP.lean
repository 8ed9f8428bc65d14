/- A bucket's words, its programs and what they leave, plain. No program in sight. -/
import Derived.Test.YtpkilmnppdbnkaaBkM
import Derived.Test.YtpkilmnppdbnkaaRdoM
import Derived.Test.YtpkilmnppdbnkaaPenM
namespace Go.Proofs.Ytpkilmnppdbnkaa
open Go.RowKit

/-- The first number below k with a property, or -1. -/
def fstK (p : Nat → Bool) : Nat → Int
  | 0 => -1
  | k + 1 => if 0 ≤ fstK p k then fstK p k else if p k then (k : Int) else -1
theorem fstK_spec (p : Nat → Bool) : ∀ k, (fstK p k = -1 ∧ ∀ t, t < k → p t = false) ∨ ∃ s, fstK p k = (s : Nat) ∧ s < k ∧ p s = true ∧ ∀ t, t < s → p t = false := by
  intro k
  induction k with
  | zero => exact .inl ⟨rfl, fun t ht => absurd ht (Nat.not_lt_zero t)⟩
  | succ k ih =>
    rcases ih with ⟨h1, h2⟩ | ⟨s, h1, h2, h3, h4⟩
    · cases hp : p k
      · refine .inl ⟨by unfold fstK; rw [h1, hp]; rfl, fun t ht => ?_⟩
        rcases Nat.lt_or_ge t k with h | h
        · exact h2 t h
        · obtain rfl : t = k := by omega
          exact hp
      · exact .inr ⟨k, by unfold fstK; rw [h1, hp]; rfl, by omega, hp, h2⟩
    · exact .inr ⟨s, by unfold fstK; rw [h1, if_pos (by omega)], by omega, h3, h4⟩
theorem fstK_stay {p : Nat → Bool} {k : Nat} (h : 0 ≤ fstK p k) : ∀ m, k ≤ m → fstK p m = fstK p k := by
  intro m hm
  induction m with
  | zero => obtain rfl : k = 0 := by omega
            rfl
  | succ m ih =>
    rcases Nat.lt_or_ge k (m + 1) with h1 | h1
    · have := ih (by omega)
      show (if 0 ≤ fstK p m then fstK p m else _) = _
      rw [this, if_pos h]
    · obtain rfl : k = m + 1 := by omega
      rfl
theorem fstK_bd (p : Nat → Bool) (k : Nat) : -1 ≤ fstK p k ∧ fstK p k < k := by
  rcases fstK_spec p k with ⟨h, _⟩ | ⟨s, h, hs, _⟩ <;> omega
theorem fstK_congr {p q : Nat → Bool} : ∀ k, (∀ t, t < k → p t = q t) → fstK p k = fstK q k := by
  intro k
  induction k with
  | zero => intro _; rfl
  | succ k ih =>
    intro h
    unfold fstK
    rw [ih (fun t ht => h t (by omega)), h k (by omega)]
/-- The header; key and value of a slot. -/
def bkH (C : Nat → Int) (off : Nat) : Nat := (C (off / 8)).toNat
def bkK (C : Nat → Int) (off s : Nat) : Int := C (off / 8 + 2 + 2 * s)
def bkV (C : Nat → Int) (off s : Nat) : Int := C (off / 8 + 3 + 2 * s)
/-- What the program looks for. -/
def matB (C : Nat → Int) (off k s : Nat) : Bool := (usedB (bkH C off) s && (fpN (bkH C off) s == mixN k % 256)) && bkK C off s == (k : Int)
def fndI (C : Nat → Int) (off k : Nat) : Int := fstK (matB C off k) 7
def freI (h : Nat) : Int := fstK (fun s => !usedB h s) 7
/-- The programs. -/
def bkKey (off s : Nat) : Nat := off + 16 * (s + 1)
def bkOther (off s : Nat) : List Nat := [bkKey off s, bkKey off s + 8].filter fun o => !(o / 64 == off / 64)
def bkRep (off s : Nat) (v : Int) : List (Nat × Nat × Int) := storesL [(bkKey off s + 8, v)]
def bkNew (off s : Nat) (k v : Int) (h : Nat) : List (Nat × Nat × Int) := [(1, bkKey off s, k), (1, bkKey off s + 8, v)] ++ flushL (bkOther off s) ++ storesL [(off, (h : Int))]
def bkHd (off h : Nat) : List (Nat × Nat × Int) := storesL [(off, (h : Int))]
theorem stores1 (o : Nat) (v : Int) : storesL [(o, v)] = [(1, o, v), (2, 64 * (o / 64), 0), (3, 0, 0)] := rfl
theorem flush_none : flushL [] = [] := rfl
theorem flush_one (a : Nat) : flushL [a] = [(2, 64 * (a / 64), 0), (3, 0, 0)] := rfl
theorem flush_two (a b : Nat) (h : a / 64 ≤ b / 64) : flushL [a, b] = if a / 64 = b / 64 then [(2, 64 * (a / 64), 0), (3, 0, 0)] else [(2, 64 * (a / 64), 0), (2, 64 * (b / 64), 0), (3, 0, 0)] := by
  by_cases e : a / 64 = b / 64
  · rw [if_pos e]
    have : linesL [a, b] = [a / 64] := by simp [linesL, insL, lowN, e]
    unfold flushL
    rw [this]; rfl
  · rw [if_neg e]
    have h2 : ¬ b / 64 < a / 64 := by omega
    have : linesL [a, b] = [a / 64, b / 64] := by
      have h3 : a / 64 < b / 64 := by omega
      simp [linesL, insL, lowN, h3]
    unfold flushL
    rw [this]; rfl
/-- The new entry's program as the code makes it. -/
theorem bkNew_eq (off s : Nat) (k v : Int) (h : Nat) : bkNew off s k v h =
    (([(1, bkKey off s, k), (1, bkKey off s + 8, v)] ++ (if bkKey off s / 64 = off / 64 then [] else [(2, 64 * (bkKey off s / 64), 0)])) ++
      (if (bkKey off s + 8) / 64 = off / 64 ∨ (bkKey off s + 8) / 64 = bkKey off s / 64 then [] else [(2, 64 * ((bkKey off s + 8) / 64), 0)])) ++
      (if bkKey off s / 64 = off / 64 ∧ ((bkKey off s + 8) / 64 = off / 64 ∨ (bkKey off s + 8) / 64 = bkKey off s / 64) then [] else [(3, 0, 0)]) ++ [(1, off, (h : Int)), (2, 64 * (off / 64), 0), (3, 0, 0)] := by
  unfold bkNew bkOther
  rw [stores1]
  obtain ⟨a, ha⟩ : ∃ a, bkKey off s = a := ⟨_, rfl⟩
  have hk : off + 16 ≤ a := by rw [← ha]; unfold bkKey; omega
  rw [ha]
  have hm : a / 64 ≤ (a + 8) / 64 := by omega
  by_cases e1 : a / 64 = off / 64
  · by_cases e2 : (a + 8) / 64 = off / 64
    · simp [e1, e2, flush_none]
    · have e3 : ¬ (a + 8) / 64 = a / 64 := by omega
      simp [e1, e2, flush_one]
  · have e2 : ¬ (a + 8) / 64 = off / 64 := by omega
    have hfb : ([a, a + 8].filter fun o => !(o / 64 == off / 64)) = [a, a + 8] := by simp [e1, e2]
    by_cases e3 : a / 64 = (a + 8) / 64
    · rw [hfb]
      simp [e1, flush_two _ _ hm, e3.symm]
    · have e4 : ¬ (a + 8) / 64 = a / 64 := fun h => e3 h.symm
      rw [hfb]
      simp [e1, e2, flush_two _ _ hm, e3, e4]
/-- As groups. -/
def newGs (off s : Nat) (k v : Int) (h : Nat) : List Gr :=
  if bkOther off s = [] then [([(bkKey off s, k), (bkKey off s + 8, v), (off, (h : Int))], [64 * (off / 64)])]
  else [([(bkKey off s, k), (bkKey off s + 8, v)], lineOffs (bkOther off s)), ([(off, (h : Int))], [64 * (off / 64)])]
theorem newGs_eq (off s : Nat) (k v : Int) (h : Nat) : bkNew off s k v h = groupsP (newGs off s k v h) := by
  unfold bkNew newGs
  rw [stores1]
  by_cases e : bkOther off s = []
  · rw [if_pos e, e]; rfl
  · rw [if_neg e]
    unfold flushL
    rw [if_neg (fun x => e (linesL_nil.1 x))]
    simp [groupsP, groupP, lineOffs]
theorem newGs_flat (off s : Nat) (k v : Int) (h : Nat) : (newGs off s k v h).flatMap (·.1) = [(bkKey off s, k), (bkKey off s + 8, v), (off, (h : Int))] := by
  unfold newGs
  split <;> rfl
theorem newGs_ok {off s n : Nat} (k v : Int) (h : Nat) (h8 : off % 8 = 0) (hs : s < 7) (hl : off + 128 ≤ 64 * n) : ∀ g ∈ newGs off s k v h, groupOkX n g := fun g hg => by
  have e1 : bkKey off s % 8 = 0 ∧ bkKey off s + 8 < 64 * n := by unfold bkKey; omega
  unfold newGs at hg
  split at hg
  · simp at hg; subst hg
    refine ⟨fun e he => ?_, fun o ho => ?_⟩
    · simp at he; rcases he with rfl | rfl | rfl
      · exact ⟨e1.1, by simp only; omega⟩
      · exact ⟨by simp only; omega, e1.2⟩
      · exact ⟨h8, by simp only; omega⟩
    · simp at ho; subst ho; omega
  · simp at hg
    rcases hg with rfl | rfl
    · refine ⟨fun e he => ?_, lineOffs_lt (fun o ho => ?_)⟩
      · simp at he; rcases he with rfl | rfl
        · exact ⟨e1.1, by simp only; omega⟩
        · exact ⟨by simp only; omega, e1.2⟩
      · have := (List.mem_filter.1 ho).1
        simp at this; rcases this with rfl | rfl <;> omega
    · refine ⟨fun e he => ?_, fun o ho => ?_⟩
      · simp at he; subst he; exact ⟨h8, by simp only; omega⟩
      · simp at ho; subst ho; omega
theorem newGs_clean (off s : Nat) (k v : Int) (h : Nat) {S : PerH} (h0 : ∀ l, S.2 l = []) (l : Nat) : (laidX S (newGs off s k v h)).2 l = [] := by
  have hown : hitB [64 * (off / 64)] (off / 64) = true := by rw [hitB_iff]; exact ⟨64 * (off / 64), by simp, by omega⟩
  have hno : ∀ l, l ≠ off / 64 → hitB [64 * (off / 64)] l = false := fun l hl => by
    cases e : hitB [64 * (off / 64)] l
    · rfl
    · obtain ⟨o, ho, he⟩ := (hitB_iff _ _).1 e
      simp at ho; subst ho; omega
  unfold newGs
  split
  · rename_i he
    show (nextX S ([(bkKey off s, k), (bkKey off s + 8, v), (off, (h : Int))], [64 * (off / 64)])).2 l = []
    unfold nextX
    simp only
    by_cases e : l = off / 64
    · subst e; rw [if_pos hown]
    · rw [hno l e, h0]
      have hf : ∀ o ∈ [bkKey off s, bkKey off s + 8], o / 64 = off / 64 := fun o ho => by
        by_cases hq : o / 64 = off / 64
        · exact hq
        · have : o ∈ bkOther off s := List.mem_filter.2 ⟨ho, by simpa using hq⟩
          rw [he] at this; simp at this
      have a1 := hf (bkKey off s) (by simp); have a2 := hf (bkKey off s + 8) (by simp)
      have e1 : ¬ off / 64 = l := fun x => e x.symm
      simp [filtL, a1, a2, e1]
  · rename_i he
    show (nextX (nextX S ([(bkKey off s, k), (bkKey off s + 8, v)], lineOffs (bkOther off s))) ([(off, (h : Int))], [64 * (off / 64)])).2 l = []
    unfold nextX
    simp only
    by_cases e : l = off / 64
    · subst e; rw [if_pos hown]
    · rw [hno l e]
      have e1 : ¬ off / 64 = l := fun x => e x.symm
      have f1 : filtL [(off, (h : Int))] l = [] := by simp [filtL, e1]
      rw [f1, h0]
      simp only [List.nil_append, List.append_nil, Bool.false_eq_true, if_false]
      by_cases hh : hitB (lineOffs (bkOther off s)) l = true
      · rw [if_pos hh]
      · rw [if_neg hh]
        have hf : ∀ o ∈ [bkKey off s, bkKey off s + 8], ¬ o / 64 = l := fun o ho hl => by
          refine hh ((hitB_iff _ _).2 ⟨64 * (o / 64), ?_, by omega⟩)
          exact List.mem_map.2 ⟨o / 64, (linesL_mem _ _).2 ⟨o, List.mem_filter.2 ⟨ho, by simpa [hl] using e⟩, rfl⟩, rfl⟩
        have a1 := hf (bkKey off s) (by simp); have a2 := hf (bkKey off s + 8) (by simp)
        simp [filtL, a1, a2]
/-- A device that is on, unarmed and clean; thread 0 has no error. -/
structure BCl (D : Dev) (n : Nat) (C : Nat → Int) (x : Nat) : Prop where
  grp : Grp D 0 n C [] []
  vb : D.VB
  exec : D.exec ≤ x
  ar : D.armed = false
theorem Grp.gx {D : Dev} {j n : Nat} {C : Nat → Int} (h : Grp D j n C [] []) : GX D j n (C, fun _ => []) [] [] := ⟨h.on, h.hst.pers, fun l => by rw [h.hst.hist]; rfl, h.yes, h.no⟩
theorem GX.grp {D : Dev} {j n : Nat} {s : PerH} (h : GX D j n s [] []) (h0 : ∀ l, s.2 l = []) {C : Nat → Int} (hC : ∀ i, s.1 i = C i) : Grp D j n C [] [] :=
  ⟨h.on, ⟨fun i => by rw [h.pers, hC], fun l => by rw [h.hist, h0]; rfl⟩, h.yes, h.no⟩
section
variable {D : Dev} {n x : Nat} {C : Nat → Int}
theorem BCl.cur (h : BCl D n C x) : D.cur = C := funext fun i => by rw [h.grp.hst.cur]; rfl
theorem BCl.bd (h : BCl D n C x) (i : Nat) : 0 ≤ C i ∧ C i < 18446744073709551616 := by rw [← h.cur]; exact h.vb.cur i
theorem BCl.mono {y : Nat} (h : BCl D n C x) (hxy : x ≤ y) : BCl D n C y := ⟨h.grp, h.vb, Nat.le_trans h.exec hxy, h.ar⟩
theorem BCl.fresh {f : Nat → Int} (hf : ∀ i, 0 ≤ f i ∧ f i < 18446744073709551616) (n : Nat) : BCl (Dev.fresh n f) n f 0 :=
  ⟨⟨⟨rfl, rfl, rfl⟩, ⟨fun _ => rfl, fun _ => rfl⟩, fun o ho => by simp at ho, fun _ _ => rfl⟩, ⟨hf, fun l e he => by simp [Dev.fresh] at he⟩, Nat.le_refl _, rfl⟩
theorem BCl.run (h : BCl D n C x) {gs : List Gr} (hg : ∀ g ∈ gs, groupOkX n g) (hc : ∀ l, (laidX (C, fun _ => []) gs).2 l = []) (hv : ∀ e ∈ gs.flatMap (·.1), 0 ≤ e.2 ∧ e.2 < 18446744073709551616) :
    BCl (D.run 0 (groupsP gs)) n (fun i => look (gs.flatMap (·.1)) (C i) i) (x + (groupsP gs).length) := by
  have hx := D.run_exec 0 (groupsP gs)
  have := h.exec
  rcases runX_came h.grp.gx hg with ⟨h1, h2, _⟩ | ⟨_, _, _, _, _, _, _, _, _, h2, _⟩
  · refine ⟨h1.grp hc (fun i => ?_), Dev.VB.run _ h.vb 0 ?_, by omega, by rw [h2]; exact h.ar⟩
    · have := curX_laid gs (C, fun _ => []) i
      unfold curX at this
      rw [hc] at this
      exact this
    · intro e he h1
      obtain ⟨g, hg2, he⟩ := List.mem_flatMap.1 he
      unfold groupP at he
      rcases List.mem_append.1 he with he | he
      · rcases List.mem_append.1 he with he | he
        · obtain ⟨y, hy, rfl⟩ := List.mem_map.1 he
          exact hv y (List.mem_flatMap.2 ⟨g, hg2, hy⟩)
        · obtain ⟨y, hy, rfl⟩ := List.mem_map.1 he; cases h1
      · simp at he; subst he; cases h1
  · rw [h.ar] at h2; cases h2
theorem BCl.hist (h : BCl D n C x) (l : Nat) : D.hist l = [] := by rw [h.grp.hst.hist]; rfl
/-- A program of stores to one word. -/
theorem BCl.one (h : BCl D n C x) {o : Nat} {v : Int} (h8 : o % 8 = 0) (hl : o < 64 * n) (hv : 0 ≤ v ∧ v < 18446744073709551616) :
    BCl (D.run 0 (storesL [(o, v)])) n (fun i => if o / 8 = i then v else C i) (x + 3) := by
  have hg : storesL [(o, v)] = groupsP [([(o, v)], [64 * (o / 64)])] := rfl
  have hown : hitB [64 * (o / 64)] (o / 64) = true := by rw [hitB_iff]; exact ⟨64 * (o / 64), by simp, by omega⟩
  rw [hg]
  refine h.run (gs := [([(o, v)], [64 * (o / 64)])]) (fun g hg => ?_) (fun l => ?_) (fun e he => ?_)
  · simp at hg; subst hg
    refine ⟨fun e he => ?_, fun p hp => ?_⟩
    · simp at he; subst he; exact ⟨h8, hl⟩
    · simp at hp; subst hp; omega
  · show (nextX (C, fun _ => []) ([(o, v)], [64 * (o / 64)])).2 l = []
    unfold nextX
    simp only
    by_cases e : l = o / 64
    · subst e; rw [if_pos hown]
    · by_cases hh : hitB [64 * (o / 64)] l = true
      · rw [if_pos hh]
      · rw [if_neg hh]
        have e1 : ¬ o / 64 = l := fun x => e x.symm
        simp [filtL, e1]
  · simp at he; subst he; exact hv
theorem BCl.new (h : BCl D n C x) {off s : Nat} {k v : Int} {hd : Nat} (h8 : off % 8 = 0) (hs : s < 7) (hl : off + 128 ≤ 64 * n) (hk : 0 ≤ k ∧ k < 18446744073709551616) (hv : 0 ≤ v ∧ v < 18446744073709551616) (hh : hd < 18446744073709551616) :
    BCl (D.run 0 (bkNew off s k v hd)) n (fun i => if off / 8 = i then (hd : Int) else if off / 8 + 3 + 2 * s = i then v else if off / 8 + 2 + 2 * s = i then k else C i) (x + 9) := by
  rw [newGs_eq]
  have hlen : (groupsP (newGs off s k v hd)).length ≤ 9 := by
    rw [← newGs_eq, bkNew_eq]
    simp only [List.length_append, List.length_cons, List.length_nil]
    repeat' split
    all_goals simp
  have := (h.run (newGs_ok k v hd h8 hs hl) (newGs_clean off s k v hd (fun _ => rfl)) (fun e he => by
    rw [newGs_flat] at he
    simp at he
    rcases he with rfl | rfl | rfl
    · exact hk
    · exact hv
    · exact ⟨by simp only; omega, by simp only; omega⟩)).mono (y := x + 9) (by omega)
  rw [newGs_flat] at this
  have e1 : bkKey off s / 8 = off / 8 + 2 + 2 * s := by unfold bkKey; omega
  have e2 : (bkKey off s + 8) / 8 = off / 8 + 3 + 2 * s := by unfold bkKey; omega
  have ef : (fun i => look [(bkKey off s, k), (bkKey off s + 8, v), (off, (hd : Int))] (C i) i) = (fun i => if off / 8 = i then (hd : Int) else if off / 8 + 3 + 2 * s = i then v else if off / 8 + 2 + 2 * s = i then k else C i) := funext fun i => by
    simp only [look, List.foldl_cons, List.foldl_nil, e1, e2]
  rw [ef] at this
  exact this
end
end Go.Proofs.Ytpkilmnppdbnkaa
