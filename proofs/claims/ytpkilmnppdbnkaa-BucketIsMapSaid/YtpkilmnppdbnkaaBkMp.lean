/- A bucket as a Go map: plain laws, and the map's operations. -/
import Derived.Test.YtpkilmnppdbnkaaBkX
import Derived.Test.YtpkilmnppdbnkaaBkK
import Derived.Maps.OwnSet
namespace Go.Proofs.Ytpkilmnppdbnkaa
open Go.RowKit Go.Maps

theorem range7 (p : Nat → Bool) : ((List.range 7).filter p).length = (p 0).toNat + (p 1).toNat + (p 2).toNat + (p 3).toNat + (p 4).toNat + (p 5).toNat + (p 6).toNat := by
  show ([0, 1, 2, 3, 4, 5, 6].filter p).length = _
  simp only [List.filter_cons, List.filter_nil]
  cases p 0 <;> cases p 1 <;> cases p 2 <;> cases p 3 <;> cases p 4 <;> cases p 5 <;> cases p 6 <;> rfl
theorem cnt_set (p q : Nat → Bool) (s : Nat) (hs : s < 7) (hp : p s = false) (hq : ∀ t, t < 7 → q t = (decide (t = s) || p t)) : ((List.range 7).filter q).length = ((List.range 7).filter p).length + 1 := by
  rw [range7, range7, hq 0 (by omega), hq 1 (by omega), hq 2 (by omega), hq 3 (by omega), hq 4 (by omega), hq 5 (by omega), hq 6 (by omega)]
  obtain rfl | rfl | rfl | rfl | rfl | rfl | rfl : s = 0 ∨ s = 1 ∨ s = 2 ∨ s = 3 ∨ s = 4 ∨ s = 5 ∨ s = 6 := by omega
  all_goals simp [hp]
  all_goals omega
theorem cnt_unset (p q : Nat → Bool) (s : Nat) (hs : s < 7) (hp : p s = true) (hq : ∀ t, t < 7 → q t = (!decide (t = s) && p t)) : ((List.range 7).filter q).length + 1 = ((List.range 7).filter p).length := by
  have := cnt_set q p s hs (by rw [hq s hs]; simp) (fun t ht => by
    rw [hq t ht]
    by_cases e : t = s
    · subst e; simp [hp]
    · simp [e])
  omega
theorem cnt_full (h : Nat) (hf : ∀ t, t < 7 → usedB h t = true) : cntN h = 7 := by
  unfold cntN
  rw [range7, hf 0 (by omega), hf 1 (by omega), hf 2 (by omega), hf 3 (by omega), hf 4 (by omega), hf 5 (by omega), hf 6 (by omega)]
  rfl
/-- A key is in the bucket. -/
def inB (C : Nat → Int) (off k : Nat) : Bool := decide (0 ≤ fstK (rfB C off k) 7)
theorem inB_iff (C : Nat → Int) (off k : Nat) : inB C off k = true ↔ ∃ s, s < 7 ∧ rfB C off k s = true := by
  unfold inB
  rw [decide_eq_true_iff]
  rcases fstK_spec (rfB C off k) 7 with ⟨e, h⟩ | ⟨s, e, h1, h2, _⟩
  · refine ⟨fun h' => by omega, fun ⟨s, hs, h'⟩ => ?_⟩
    rw [h s hs] at h'; cases h'
  · exact ⟨fun _ => ⟨s, h1, h2⟩, fun _ => by omega⟩
theorem inB_false (C : Nat → Int) (off k : Nat) : inB C off k = false ↔ ∀ s, s < 7 → rfB C off k s = false := by
  rw [← Bool.not_eq_true, inB_iff]
  refine ⟨fun h s hs => ?_, fun h ⟨s, hs, h2⟩ => ?_⟩
  · cases e : rfB C off k s
    · rfl
    · exact (h ⟨s, hs, e⟩).elim
  · rw [h s hs] at h2; cases h2
section
variable {C : Nat → Int} {off : Nat}
theorem rfB_iff (C : Nat → Int) (off k s : Nat) : rfB C off k s = true ↔ usedB (bkH C off) s = true ∧ bkK C off s = (k : Int) := by unfold rfB; rw [Bool.and_eq_true, beq_iff_eq]
theorem getV_at (h : BInv C off) {k s : Nat} (hs : s < 7) (hr : rfB C off k s = true) : getV C off k = bkV C off s := by
  unfold getV
  obtain ⟨h1, h2⟩ := (rfB_iff _ _ _ _).1 hr
  rcases fnd_cases C off k with ⟨e, hno⟩ | ⟨t, e, ht, hu, hk⟩
  · rw [hno s hs] at hr; cases hr
  · rw [e, if_pos (by omega), h.one t s ht hs hu h1 (by rw [hk, h2])]; rfl
theorem getV_no {k : Nat} (h : inB C off k = false) : getV C off k = 0 := by
  unfold getV
  unfold inB at h
  rw [if_neg (by simpa using h)]
theorem getE_eq (C : Nat → Int) (off k : Nat) : getE C off k = if inB C off k then 0 else 5 := by unfold getE inB; simp
theorem delE_eq (C : Nat → Int) (off k : Nat) : delE C off k = if inB C off k then 0 else 5 := by unfold delE inB; simp
/-- Two bucket states agree on a key. -/
theorem agree {C' : Nat → Int} (hi : BInv C off) (hi' : BInv C' off) {k : Nat} (h : ∀ s, s < 7 → (rfB C' off k s = rfB C off k s ∧ (rfB C off k s = true → bkV C' off s = bkV C off s))) : inB C' off k = inB C off k ∧ getV C' off k = getV C off k := by
  have e : inB C' off k = inB C off k := by
    rw [Bool.eq_iff_iff, inB_iff, inB_iff]
    exact ⟨fun ⟨s, hs, h1⟩ => ⟨s, hs, (h s hs).1 ▸ h1⟩, fun ⟨s, hs, h1⟩ => ⟨s, hs, by rw [(h s hs).1]; exact h1⟩⟩
  refine ⟨e, ?_⟩
  cases hb : inB C off k
  · rw [getV_no hb, getV_no (by rw [e]; exact hb)]
  · obtain ⟨s, hs, h1⟩ := (inB_iff _ _ _).1 hb
    rw [getV_at hi hs h1, getV_at hi' hs (by rw [(h s hs).1]; exact h1), (h s hs).2 h1]
/-- The Go map holds what the bucket holds. -/
structure MapOf (N : DataW Unit) (C : Nat → Int) (off : Nat) : Prop where
  has : ∀ k : Nat, k < 18446744073709551616 → Maps.has N (.int .u64 k) = inB C off k
  val : ∀ k : Nat, k < 18446744073709551616 → N.atKey (.int .u64 k) (.lit (.int .u64 0)) = .lit (.int .u64 (getV C off k))
  size : Maps.size N = cntN (bkH C off)
  tidy : Tidy N
theorem MapOf.start (off : Nat) : MapOf (.map []) (fun _ => 0) off := by
  refine ⟨fun k _ => ?_, fun k _ => ?_, by show 0 = cntN 0; decide +kernel, tidy_empty⟩
  · unfold inB; rw [fnd0]; rfl
  · rw [(get0 off k).1]; rfl
theorem key_ne {a b : Nat} (h : a ≠ b) : (Lit.int .u64 (a : Int)) ≠ (Lit.int .u64 (b : Int)) := fun e => by simp at e; omega
theorem MapOf.put {N : DataW Unit} (h : MapOf N C off) (hi : BInv C off) {k v : Nat} (hk : k < 18446744073709551616) (hv : v < 18446744073709551616) (he : putE C off k = 0) : MapOf (N.put (.int .u64 (k : Int)) (.lit (.int .u64 (v : Int)))) (putC C off k v) off := by
  have hi' := hi.put (k := k) (v := (v : Int)) hk (by omega)
  have hkl : WideAt.IsKeyLit (.int .u64 (k : Int)) := trivial
  have key : (∃ s, s < 7 ∧ rfB (putC C off k v) off k s = true ∧ bkV (putC C off k v) off s = v) ∧
      (∀ k', k' ≠ k → ∀ s, s < 7 → (rfB (putC C off k v) off k' s = rfB C off k' s ∧ (rfB C off k' s = true → bkV (putC C off k v) off s = bkV C off s))) ∧
      cntN (bkH (putC C off k v) off) = if inB C off k then cntN (bkH C off) else cntN (bkH C off) + 1 := by
    unfold putC
    unfold putE at he
    rcases fnd_cases C off k with ⟨e, hno⟩ | ⟨s, e, hs, hu, hkk⟩
    · rw [e, if_neg (show ¬ (0:Int) ≤ -1 by decide)] at he ⊢
      have hb : inB C off k = false := (inB_false _ _ _).2 hno
      rcases fre_cases (bkH C off) with ⟨e2, _⟩ | ⟨s, e2, hs, hu⟩
      · rw [e2, if_neg (show ¬ (0:Int) ≤ -1 by decide)] at he; cases he
      · rw [e2, if_pos (show (0:Int) ≤ (s : Nat) by omega), hb, show ((s : Int)).toNat = s by omega]
        refine ⟨⟨s, hs, (rfB_iff _ _ _ _).2 ⟨?_, ?_⟩, ?_⟩, fun k' hne t ht => ⟨?_, fun hr => ?_⟩, ?_⟩
        · rw [H_new, usedB_mark _ _ _ _ hs hs]; simp
        · rw [K_new, if_pos rfl]
        · rw [V_new, if_pos rfl]
        · rw [Bool.eq_iff_iff, rfB_iff, rfB_iff, H_new, usedB_mark _ _ _ _ hs ht, K_new]
          by_cases et : t = s
          · subst et; simp [hu]; omega
          · simp [et]
        · obtain ⟨h1, _⟩ := (rfB_iff _ _ _ _).1 hr
          rw [V_new, if_neg (fun et => by subst et; rw [hu] at h1; cases h1)]
        · rw [H_new]
          simp only [Bool.false_eq_true, if_false]
          exact cnt_set _ _ s hs hu (fun t ht => usedB_mark _ _ _ _ hs ht)
    · rw [e, if_pos (show (0:Int) ≤ (s : Nat) by omega), show ((s : Int)).toNat = s by omega]
      have hb : inB C off k = true := (inB_iff _ _ _).2 ⟨s, hs, (rfB_iff _ _ _ _).2 ⟨hu, hkk⟩⟩
      rw [hb]
      refine ⟨⟨s, hs, (rfB_iff _ _ _ _).2 ⟨by rw [H_rep]; exact hu, by rw [K_rep]; exact hkk⟩, by rw [V_rep, if_pos rfl]⟩, fun k' hne t ht => ⟨?_, fun hr => ?_⟩, by rw [H_rep]; rfl⟩
      · unfold rfB; rw [H_rep, K_rep]
      · obtain ⟨_, h2⟩ := (rfB_iff _ _ _ _).1 hr
        rw [V_rep, if_neg (fun et => by subst et; rw [hkk] at h2; omega)]
  obtain ⟨⟨s, hs, h1, h2⟩, h3, h4⟩ := key
  refine ⟨fun k' hk' => ?_, fun k' hk' => ?_, ?_, h.tidy.put hkl _⟩
  · by_cases e : k' = k
    · subst e; rw [has_put_same h.tidy.isMap hkl, (inB_iff _ _ _).2 ⟨s, hs, h1⟩]
    · rw [has_put_other (key_ne e), h.has k' hk', (agree hi hi' (h3 k' e)).1]
  · by_cases e : k' = k
    · subst e; rw [atKey_put_same h.tidy.isMap hkl, getV_at hi' hs h1, h2]
    · rw [atKey_put_other (key_ne e), h.val k' hk', (agree hi hi' (h3 k' e)).2]
  · rw [size_put h.tidy, h.has k hk, h.size, h4]
theorem MapOf.del {N : DataW Unit} (h : MapOf N C off) (hi : BInv C off) {k : Nat} (hk : k < 18446744073709551616) : MapOf (N.del (.int .u64 (k : Int))) (delC C off k) off := by
  have hi' := hi.del k
  have key : (∀ s, s < 7 → rfB (delC C off k) off k s = false) ∧
      (∀ k', k' ≠ k → ∀ s, s < 7 → (rfB (delC C off k) off k' s = rfB C off k' s ∧ (rfB C off k' s = true → bkV (delC C off k) off s = bkV C off s))) ∧
      cntN (bkH (delC C off k) off) + (if inB C off k then 1 else 0) = cntN (bkH C off) := by
    unfold delC
    rcases fnd_cases C off k with ⟨e, hno⟩ | ⟨s, e, hs, hu, hkk⟩
    · rw [e, if_neg (show ¬ (0:Int) ≤ -1 by decide)]
      have hb : inB C off k = false := (inB_false _ _ _).2 hno
      rw [hb]
      exact ⟨hno, fun k' _ t _ => ⟨rfl, fun _ => rfl⟩, rfl⟩
    · rw [e, if_pos (show (0:Int) ≤ (s : Nat) by omega), show ((s : Int)).toNat = s by omega]
      have hb : inB C off k = true := (inB_iff _ _ _).2 ⟨s, hs, (rfB_iff _ _ _ _).2 ⟨hu, hkk⟩⟩
      rw [hb]
      refine ⟨fun t ht => ?_, fun k' hne t ht => ⟨?_, fun _ => by rw [V_hd]⟩, ?_⟩
      · rw [← Bool.not_eq_true, rfB_iff, H_hd, usedB_clear _ _ _ hs ht, K_hd]
        rintro ⟨g1, g2⟩
        rw [Bool.and_eq_true] at g1
        have := hi.one t s ht hs g1.2 hu (by rw [g2, hkk])
        simp [this] at g1
      · rw [Bool.eq_iff_iff, rfB_iff, rfB_iff, H_hd, usedB_clear _ _ _ hs ht, K_hd]
        by_cases et : t = s
        · subst et; simp [hkk]; omega
        · simp [et]
      · rw [H_hd]
        exact cnt_unset _ _ s hs hu (fun t ht => usedB_clear _ _ _ hs ht)
  obtain ⟨h1, h3, h4⟩ := key
  refine ⟨fun k' hk' => ?_, fun k' hk' => ?_, ?_, h.tidy.del _⟩
  · by_cases e : k' = k
    · subst e; rw [has_del_same, (inB_false _ _ _).2 h1]
    · rw [has_del_other (key_ne e), h.has k' hk', (agree hi hi' (h3 k' e)).1]
  · by_cases e : k' = k
    · subst e; rw [atKey_del_same, getV_no ((inB_false _ _ _).2 h1)]
    · rw [atKey_del_other (key_ne e), h.val k' hk', (agree hi hi' (h3 k' e)).2]
  · have := size_del h.tidy (k := .int .u64 (k : Int))
    rw [h.has k hk, h.size] at this
    omega
end
end Go.Proofs.Ytpkilmnppdbnkaa
