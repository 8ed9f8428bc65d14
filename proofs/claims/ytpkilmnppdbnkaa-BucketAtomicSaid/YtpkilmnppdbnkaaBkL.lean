/- A bucket as a map, plain: what a put or a delete leaves, the reference's words, entries. No program in sight. -/
import Derived.Test.YtpkilmnppdbnkaaBkP
namespace Go.Proofs.Ytpkilmnppdbnkaa
open Go.RowKit

/-- What the reference looks for. -/
def rfB (C : Nat → Int) (off k s : Nat) : Bool := usedB (bkH C off) s && bkK C off s == (k : Int)
/-- Fingerprints are those of the keys. -/
structure BInv (C : Nat → Int) (off : Nat) : Prop where
  bd : ∀ i, 0 ≤ C i ∧ C i < 18446744073709551616
  fp : ∀ s, s < 7 → usedB (bkH C off) s = true → fpN (bkH C off) s = mixN (bkK C off s).toNat % 256
  one : ∀ s t, s < 7 → t < 7 → usedB (bkH C off) s = true → usedB (bkH C off) t = true → bkK C off s = bkK C off t → s = t
theorem BInv.hd {C : Nat → Int} {off : Nat} (h : BInv C off) : bkH C off < 18446744073709551616 := by have := h.bd (off / 8); unfold bkH; omega
theorem BInv.zero {off : Nat} (C : Nat → Int) (h : ∀ i, 0 ≤ C i ∧ C i < 18446744073709551616) (h0 : C (off / 8) = 0) : BInv C off := by
  have e : bkH C off = 0 := by unfold bkH; rw [h0]; rfl
  refine ⟨h, fun s _ hu => ?_, fun s t _ _ hu => ?_⟩
  · rw [e, usedB_zero] at hu; cases hu
  · rw [e, usedB_zero] at hu; cases hu
theorem fnd_ref {C : Nat → Int} {off : Nat} (h : BInv C off) (k : Nat) : fndI C off k = fstK (rfB C off k) 7 := by
  refine fstK_congr 7 fun s hs => ?_
  unfold matB rfB
  cases hu : usedB (bkH C off) s
  · simp
  · by_cases e : bkK C off s = (k : Int)
    · have := h.fp s hs hu
      rw [e] at this
      simp only [Int.toNat_natCast] at this
      rw [this, e]
      simp
    · rw [beq_eq_false_iff_ne.2 e]; simp
/-- The words behind a put or a delete. -/
def repC (C : Nat → Int) (off s : Nat) (v : Int) : Nat → Int := fun i => if off / 8 + 3 + 2 * s = i then v else C i
def newC (C : Nat → Int) (off s : Nat) (k v : Int) (hd : Nat) : Nat → Int := fun i => if off / 8 = i then (hd : Int) else if off / 8 + 3 + 2 * s = i then v else if off / 8 + 2 + 2 * s = i then k else C i
def hdC (C : Nat → Int) (off hd : Nat) : Nat → Int := fun i => if off / 8 = i then (hd : Int) else C i
def putC (C : Nat → Int) (off k : Nat) (v : Int) : Nat → Int :=
  if 0 ≤ fstK (rfB C off k) 7 then repC C off (fstK (rfB C off k) 7).toNat v
  else if 0 ≤ freI (bkH C off) then newC C off (freI (bkH C off)).toNat k v (markN (bkH C off) (freI (bkH C off)).toNat k) else C
def putE (C : Nat → Int) (off k : Nat) : Int := if 0 ≤ fstK (rfB C off k) 7 then 0 else if 0 ≤ freI (bkH C off) then 0 else 4
def putL (C : Nat → Int) (off k : Nat) (v : Int) : List (Nat × Nat × Int) :=
  if 0 ≤ fstK (rfB C off k) 7 then bkRep off (fstK (rfB C off k) 7).toNat v
  else if 0 ≤ freI (bkH C off) then bkNew off (freI (bkH C off)).toNat k v (markN (bkH C off) (freI (bkH C off)).toNat k) else []
def delC (C : Nat → Int) (off k : Nat) : Nat → Int := if 0 ≤ fstK (rfB C off k) 7 then hdC C off (clearN (bkH C off) (fstK (rfB C off k) 7).toNat) else C
def delE (C : Nat → Int) (off k : Nat) : Int := if 0 ≤ fstK (rfB C off k) 7 then 0 else 5
def delL (C : Nat → Int) (off k : Nat) : List (Nat × Nat × Int) := if 0 ≤ fstK (rfB C off k) 7 then bkHd off (clearN (bkH C off) (fstK (rfB C off k) 7).toNat) else []
def getV (C : Nat → Int) (off k : Nat) : Int := if 0 ≤ fstK (rfB C off k) 7 then bkV C off (fstK (rfB C off k) 7).toNat else 0
def getE (C : Nat → Int) (off k : Nat) : Int := if 0 ≤ fstK (rfB C off k) 7 then 0 else 5
theorem H_rep (C : Nat → Int) (off s : Nat) (v : Int) : bkH (repC C off s v) off = bkH C off := by unfold bkH repC; rw [if_neg (by omega)]
theorem K_rep (C : Nat → Int) (off s t : Nat) (v : Int) : bkK (repC C off s v) off t = bkK C off t := by unfold bkK repC; rw [if_neg (by omega)]
theorem V_rep (C : Nat → Int) (off s t : Nat) (v : Int) : bkV (repC C off s v) off t = if t = s then v else bkV C off t := by
  unfold bkV repC
  by_cases e : t = s
  · rw [if_pos (by omega), if_pos e]
  · rw [if_neg (by omega), if_neg e]
theorem H_new (C : Nat → Int) (off s : Nat) (k v : Int) (hd : Nat) : bkH (newC C off s k v hd) off = hd := by unfold bkH newC; rw [if_pos rfl]; rfl
theorem K_new (C : Nat → Int) (off s t : Nat) (k v : Int) (hd : Nat) : bkK (newC C off s k v hd) off t = if t = s then k else bkK C off t := by
  unfold bkK newC
  rw [if_neg (by omega), if_neg (by omega)]
  by_cases e : t = s
  · rw [if_pos (by omega), if_pos e]
  · rw [if_neg (by omega), if_neg e]
theorem V_new (C : Nat → Int) (off s t : Nat) (k v : Int) (hd : Nat) : bkV (newC C off s k v hd) off t = if t = s then v else bkV C off t := by
  unfold bkV newC
  rw [if_neg (by omega)]
  by_cases e : t = s
  · rw [if_pos (by omega), if_pos e]
  · rw [if_neg (by omega), if_neg (by omega), if_neg e]
theorem H_hd (C : Nat → Int) (off hd : Nat) : bkH (hdC C off hd) off = hd := by unfold bkH hdC; rw [if_pos rfl]; rfl
theorem K_hd (C : Nat → Int) (off hd t : Nat) : bkK (hdC C off hd) off t = bkK C off t := by unfold bkK hdC; rw [if_neg (by omega)]
theorem V_hd (C : Nat → Int) (off hd t : Nat) : bkV (hdC C off hd) off t = bkV C off t := by unfold bkV hdC; rw [if_neg (by omega)]
section
variable {C : Nat → Int} {off : Nat}
theorem fnd_cases (C : Nat → Int) (off k : Nat) : (fstK (rfB C off k) 7 = -1 ∧ ∀ t, t < 7 → rfB C off k t = false) ∨ ∃ s, fstK (rfB C off k) 7 = (s : Nat) ∧ s < 7 ∧ usedB (bkH C off) s = true ∧ bkK C off s = (k : Int) := by
  rcases fstK_spec (rfB C off k) 7 with h | ⟨s, h1, h2, h3, _⟩
  · exact .inl h
  · unfold rfB at h3
    rw [Bool.and_eq_true, beq_iff_eq] at h3
    exact .inr ⟨s, h1, h2, h3.1, h3.2⟩
theorem fre_cases (h : Nat) : (freI h = -1 ∧ ∀ t, t < 7 → usedB h t = true) ∨ ∃ s, freI h = (s : Nat) ∧ s < 7 ∧ usedB h s = false := by
  rcases fstK_spec (fun s => !usedB h s) 7 with ⟨h1, h2⟩ | ⟨s, h1, h2, h3, _⟩
  · exact .inl ⟨h1, fun t ht => by simpa using h2 t ht⟩
  · exact .inr ⟨s, h1, h2, by simpa using h3⟩
theorem BInv.rep (h : BInv C off) (s : Nat) {v : Int} (hv : 0 ≤ v ∧ v < 18446744073709551616) : BInv (repC C off s v) off := by
  refine ⟨fun i => ?_, fun t ht hu => ?_, fun a b ha hb hu hw he => ?_⟩
  · unfold repC; split
    · exact hv
    · exact h.bd i
  · rw [H_rep] at hu ⊢; rw [K_rep]; exact h.fp t ht hu
  · rw [H_rep] at hu hw; rw [K_rep, K_rep] at he; exact h.one a b ha hb hu hw he
theorem BInv.new (h : BInv C off) {k : Nat} {v : Int} {s : Nat} (hs : s < 7) (hk : k < 18446744073709551616) (hv : 0 ≤ v ∧ v < 18446744073709551616) (hno : ∀ t, t < 7 → rfB C off k t = false) : BInv (newC C off s k v (markN (bkH C off) s k)) off := by
  refine ⟨fun i => ?_, fun t ht hu => ?_, fun a b ha hb hu hw he => ?_⟩
  · have := markN_lt h.hd hs k
    unfold newC; repeat' split
    · omega
    · exact hv
    · omega
    · exact h.bd i
  · rw [H_new, usedB_mark _ _ _ _ hs ht] at hu
    rw [H_new, fpN_mark _ _ _ _ hs ht, K_new]
    by_cases e : t = s
    · rw [if_pos e, if_pos e]; rfl
    · rw [if_neg e, if_neg e]
      rw [decide_eq_false e, Bool.false_or] at hu
      exact h.fp t ht hu
  · rw [H_new, usedB_mark _ _ _ _ hs ha] at hu
    rw [H_new, usedB_mark _ _ _ _ hs hb] at hw
    rw [K_new, K_new] at he
    have hn : ∀ t, t < 7 → usedB (bkH C off) t = true → bkK C off t = (k : Int) → False := fun t ht hu e => by
      have := hno t ht
      unfold rfB at this
      rw [hu, e] at this
      simp at this
    by_cases e1 : a = s
    · by_cases e2 : b = s
      · omega
      · rw [if_pos e1, if_neg e2] at he
        rw [decide_eq_false e2, Bool.false_or] at hw
        exact (hn b hb hw he.symm).elim
    · by_cases e2 : b = s
      · rw [if_neg e1, if_pos e2] at he
        rw [decide_eq_false e1, Bool.false_or] at hu
        exact (hn a ha hu he).elim
      · rw [if_neg e1, if_neg e2] at he
        rw [decide_eq_false e1, Bool.false_or] at hu
        rw [decide_eq_false e2, Bool.false_or] at hw
        exact h.one a b ha hb hu hw he
theorem BInv.clear (h : BInv C off) {s : Nat} (hs : s < 7) : BInv (hdC C off (clearN (bkH C off) s)) off := by
  refine ⟨fun i => ?_, fun t ht hu => ?_, fun a b ha hb hu hw he => ?_⟩
  · have := clearN_lt h.hd hs
    unfold hdC; split
    · omega
    · exact h.bd i
  · rw [H_hd, usedB_clear _ _ _ hs ht] at hu
    rw [H_hd, K_hd]
    by_cases e : t = s
    · rw [decide_eq_true e] at hu; cases hu
    · rw [decide_eq_false e] at hu
      rw [fpN_clear _ _ _ hs ht e]
      exact h.fp t ht (by simpa using hu)
  · rw [H_hd, usedB_clear _ _ _ hs ha] at hu
    rw [H_hd, usedB_clear _ _ _ hs hb] at hw
    rw [K_hd, K_hd] at he
    rw [Bool.and_eq_true] at hu hw
    exact h.one a b ha hb hu.2 hw.2 he
theorem BInv.put (h : BInv C off) {k : Nat} {v : Int} (hk : k < 18446744073709551616) (hv : 0 ≤ v ∧ v < 18446744073709551616) : BInv (putC C off k v) off := by
  unfold putC
  rcases fnd_cases C off k with ⟨e, hno⟩ | ⟨s, e, _, _⟩
  · rw [if_neg (by omega)]
    rcases fre_cases (bkH C off) with ⟨e2, _⟩ | ⟨s, e2, hs, _⟩
    · rw [if_neg (by omega)]; exact h
    · rw [if_pos (by omega), e2]; exact h.new hs hk hv hno
  · rw [if_pos (by omega)]; exact h.rep _ hv
theorem BInv.del (h : BInv C off) (k : Nat) : BInv (delC C off k) off := by
  unfold delC
  rcases fnd_cases C off k with ⟨e, _⟩ | ⟨s, e, hs, _⟩
  · rw [if_neg (by omega)]; exact h
  · rw [if_pos (by omega), e]; exact h.clear hs
end
section
variable {D : Dev} {n x : Nat} {C : Nat → Int} {off : Nat}
theorem BCl.put (h : BCl D n C x) (h8 : off % 8 = 0) (hl : off + 128 ≤ 64 * n) {k : Nat} {v : Int} (hk : k < 18446744073709551616) (hv : 0 ≤ v ∧ v < 18446744073709551616) (hh : bkH C off < 18446744073709551616) :
    BCl (D.run 0 (putL C off k v)) n (putC C off k v) (x + 9) := by
  unfold putL putC
  rcases fnd_cases C off k with ⟨e, _⟩ | ⟨s, e, hs, _⟩
  · rw [e, if_neg (show ¬ (0:Int) ≤ -1 by decide), if_neg (show ¬ (0:Int) ≤ -1 by decide)]
    rcases fre_cases (bkH C off) with ⟨e2, _⟩ | ⟨s, e2, hs, _⟩
    · rw [e2, if_neg (show ¬ (0:Int) ≤ -1 by decide), if_neg (show ¬ (0:Int) ≤ -1 by decide)]; exact h.mono (by omega)
    · rw [e2, if_pos (show (0:Int) ≤ (s : Nat) by omega), if_pos (show (0:Int) ≤ (s : Nat) by omega)]
      exact h.new h8 hs hl ⟨by omega, by omega⟩ hv (markN_lt hh hs k)
  · rw [e, if_pos (show (0:Int) ≤ (s : Nat) by omega), if_pos (show (0:Int) ≤ (s : Nat) by omega)]
    have := h.one (o := bkKey off s + 8) (v := v) (by unfold bkKey; omega) (by unfold bkKey; omega) hv
    rw [show (bkKey off s + 8) / 8 = off / 8 + 3 + 2 * s by unfold bkKey; omega] at this
    exact this.mono (by omega)
theorem BCl.del (h : BCl D n C x) (h8 : off % 8 = 0) (hl : off + 128 ≤ 64 * n) (k : Nat) (hh : bkH C off < 18446744073709551616) :
    BCl (D.run 0 (delL C off k)) n (delC C off k) (x + 9) := by
  unfold delL delC
  rcases fnd_cases C off k with ⟨e, _⟩ | ⟨s, e, hs, _⟩
  · rw [e, if_neg (show ¬ (0:Int) ≤ -1 by decide), if_neg (show ¬ (0:Int) ≤ -1 by decide)]; exact h.mono (by omega)
  · rw [e, if_pos (show (0:Int) ≤ (s : Nat) by omega), if_pos (show (0:Int) ≤ (s : Nat) by omega)]
    have hc := clearN_lt hh hs
    exact (h.one (o := off) (v := (clearN (bkH C off) s : Nat)) h8 (by omega) ⟨by omega, by omega⟩).mono (by omega)
end
/-- The entries by slot. -/
def slotE (C : Nat → Int) (off s : Nat) : List (Int × Int) := if usedB (bkH C off) s then [(bkK C off s, bkV C off s)] else []
def entB (C : Nat → Int) (off k : Nat) : List (Int × Int) := (List.range k).flatMap (slotE C off)
theorem entB_succ (C : Nat → Int) (off k : Nat) : entB C off (k + 1) = entB C off k ++ slotE C off k := by
  unfold entB; rw [List.range_succ, List.flatMap_append]; simp
theorem entB_len (C : Nat → Int) (off : Nat) : ∀ k, (entB C off k).length = ((List.range k).filter (usedB (bkH C off))).length := by
  intro k
  induction k with
  | zero => rfl
  | succ k ih =>
    rw [entB_succ, List.range_succ, List.filter_append, List.length_append, List.length_append, ih]
    unfold slotE
    cases h : usedB (bkH C off) k <;> simp [h]
theorem entB_cnt (C : Nat → Int) (off : Nat) : (entB C off 7).length = cntN (bkH C off) := entB_len C off 7
theorem entB_le (C : Nat → Int) (off : Nat) : ∀ k, (entB C off k).length ≤ k := by
  intro k
  rw [entB_len]
  exact Nat.le_trans (List.length_filter_le _ _) (by simp)
/-- The reference's stores. -/
def lookI (l : List (Nat × Nat × Int)) (C : Nat → Int) : Nat → Int := l.foldl (fun C e => if e.1 = 1 then fun i => if e.2.1 / 8 = i then e.2.2 else C i else C) C
theorem lookI_nil (C : Nat → Int) : lookI [] C = C := rfl
theorem lookI_cons (e : Nat × Nat × Int) (l : List (Nat × Nat × Int)) (C : Nat → Int) : lookI (e :: l) C = lookI l (if e.1 = 1 then fun i => if e.2.1 / 8 = i then e.2.2 else C i else C) := rfl
theorem lookI_append (l m : List (Nat × Nat × Int)) (C : Nat → Int) : lookI (l ++ m) C = lookI m (lookI l C) := by unfold lookI; rw [List.foldl_append]
theorem lookI_quiet : ∀ (l : List (Nat × Nat × Int)) (C : Nat → Int), (∀ e ∈ l, e.1 ≠ 1) → lookI l C = C
  | [], _, _ => rfl
  | e :: l, C, h => by rw [lookI_cons, if_neg (h e (by simp))]; exact lookI_quiet l C (fun e he => h e (by simp [he]))
theorem flushL_quiet (offs : List Nat) : ∀ e ∈ flushL offs, e.1 ≠ 1 := by
  intro e he
  unfold flushL at he
  split at he
  · simp at he
  · rcases List.mem_append.1 he with he | he
    · obtain ⟨y, _, rfl⟩ := List.mem_map.1 he; simp
    · simp at he; subst he; simp
theorem lookI_stores1 (o : Nat) (v : Int) (C : Nat → Int) : lookI (storesL [(o, v)]) C = fun i => if o / 8 = i then v else C i := rfl
theorem look_put (C : Nat → Int) (off k : Nat) (v : Int) : lookI (putL C off k v) C = putC C off k v := by
  unfold putL putC
  split
  · unfold bkRep
    rw [lookI_stores1]
    funext i
    unfold repC
    rw [show (bkKey off (fstK (rfB C off k) 7).toNat + 8) / 8 = off / 8 + 3 + 2 * (fstK (rfB C off k) 7).toNat by unfold bkKey; omega]
  · split
    · unfold bkNew
      rw [lookI_append, lookI_append, lookI_quiet _ _ (flushL_quiet _), lookI_stores1]
      funext i
      unfold newC
      simp only [lookI_cons, lookI_nil, if_true]
      rw [show (bkKey off (freI (bkH C off)).toNat + 8) / 8 = off / 8 + 3 + 2 * (freI (bkH C off)).toNat by unfold bkKey; omega, show bkKey off (freI (bkH C off)).toNat / 8 = off / 8 + 2 + 2 * (freI (bkH C off)).toNat by unfold bkKey; omega]
    · rfl
theorem look_del (C : Nat → Int) (off k : Nat) : lookI (delL C off k) C = delC C off k := by
  unfold delL delC
  split
  · unfold bkHd
    rw [lookI_stores1]
    rfl
  · rfl
/-- The programs' stores lie in the bucket. -/
def InB (off : Nat) (l : List (Nat × Nat × Int)) : Prop := ∀ e ∈ l, e.1 < 256 ∧ e.2.1 < 18446744073709551616 ∧ (e.1 = 1 → ∃ i, i < 16 ∧ e.2.1 = off + 8 * i)
theorem InB.stores1 (off i : Nat) (hi : i < 16) (v : Int) (hl : off + 128 < 18446744073709551616) : InB off (storesL [(off + 8 * i, v)]) := by
  intro e he
  rw [Go.Proofs.Ytpkilmnppdbnkaa.stores1] at he
  simp at he
  rcases he with rfl | rfl | rfl
  · exact ⟨by simp, by simp only; omega, fun _ => ⟨i, hi, rfl⟩⟩
  · exact ⟨by simp, by simp only; omega, fun h => by simp at h⟩
  · exact ⟨by simp, by simp, fun h => by simp at h⟩
theorem InB.flush (off : Nat) (offs : List Nat) (h : ∀ o ∈ offs, o < 18446744073709551616) : InB off (flushL offs) := by
  intro e he
  unfold flushL at he
  split at he
  · simp at he
  · rcases List.mem_append.1 he with he | he
    · obtain ⟨y, hy, rfl⟩ := List.mem_map.1 he
      obtain ⟨o, ho, rfl⟩ := (linesL_mem _ _).1 hy
      have := h o ho
      exact ⟨by simp, by simp only; omega, fun h => by simp at h⟩
    · simp at he; subst he; exact ⟨by simp, by simp, fun h => by simp at h⟩
theorem InB.app {off : Nat} {l m : List (Nat × Nat × Int)} (h1 : InB off l) (h2 : InB off m) : InB off (l ++ m) := fun e he => (List.mem_append.1 he).elim (h1 e) (h2 e)
theorem InB.put (C : Nat → Int) (off k : Nat) (v : Int) (hl : off + 128 < 18446744073709551616) : InB off (putL C off k v) := by
  unfold putL
  rcases fnd_cases C off k with ⟨e, _⟩ | ⟨s, e, hs, _⟩
  · rw [if_neg (by omega)]
    rcases fre_cases (bkH C off) with ⟨e2, _⟩ | ⟨s, e2, hs, _⟩
    · rw [if_neg (by omega)]; intro e he; simp at he
    · rw [if_pos (by omega), e2]
      unfold bkNew
      refine .app (.app (fun e he => ?_) (.flush _ _ fun o ho => ?_)) (InB.stores1 off 0 (by omega) _ hl)
      · simp at he
        rcases he with rfl | rfl
        · exact ⟨by simp, by simp only [bkKey]; omega, fun _ => ⟨2 * (s + 1), by omega, by simp only [bkKey]; omega⟩⟩
        · exact ⟨by simp, by simp only [bkKey]; omega, fun _ => ⟨2 * (s + 1) + 1, by omega, by simp only [bkKey]; omega⟩⟩
      · have := (List.mem_filter.1 ho).1
        simp [bkKey] at this
        omega
  · rw [if_pos (by omega), e]
    unfold bkRep
    rw [show bkKey off (s : Int).toNat + 8 = off + 8 * (2 * s + 3) by unfold bkKey; omega]
    exact .stores1 off (2 * s + 3) (by omega) v hl
theorem InB.del (C : Nat → Int) (off k : Nat) (hl : off + 128 < 18446744073709551616) : InB off (delL C off k) := by
  unfold delL
  split
  · exact .stores1 off 0 (by omega) _ hl
  · intro e he; simp at he
end Go.Proofs.Ytpkilmnppdbnkaa
