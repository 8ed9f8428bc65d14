/- Lines sorted and compacted are the reference's lines. Plain; no program in sight. -/
import Derived.Test.YtbpaamnofkhonaaDoorCmpP
import Derived.Test.YtbpaamnofkhonaaDoorSortM
import Derived.Test.YtbpaamnofkhonaaDoorLinesM
namespace Go.Proofs.YtbpaamnofkhonaaDoor
open Go.RowKit

/-- Two ascending lists with the same members are one. -/
theorem asc_ext : ∀ (l m : List Int), l.Pairwise (· < ·) → m.Pairwise (· < ·) → (∀ x, x ∈ l ↔ x ∈ m) → l = m
  | [], [], _, _, _ => rfl
  | [], y :: m, _, _, h => by have := (h y).2 (by simp); simp at this
  | x :: l, [], _, _, h => by have := (h x).1 (by simp); simp at this
  | x :: l, y :: m, hl, hm, h => by
    rw [List.pairwise_cons] at hl hm
    have hxy : x = y := by
      rcases List.mem_cons.1 ((h x).1 (by simp)) with h1 | h1
      · exact h1
      · rcases List.mem_cons.1 ((h y).2 (by simp)) with h2 | h2
        · exact h2.symm
        · have h3 := hm.1 x h1; have h4 := hl.1 y h2; omega
    subst hxy
    rw [asc_ext l m hl.2 hm.2 (fun z => by
      have hz := h z
      simp only [List.mem_cons] at hz
      constructor
      · intro k
        rcases hz.1 (.inr k) with e | e
        · have := hl.1 z k; omega
        · exact e
      · intro k
        rcases hz.2 (.inr k) with e | e
        · have := hm.1 z k; omega
        · exact e)]
theorem cmpF_asc : ∀ (l acc : List Int), acc.Pairwise (· < ·) → l.Pairwise (· ≤ ·) → (∀ a ∈ acc, ∀ x ∈ l, a ≤ x) → (l.foldl cmpStep acc).Pairwise (· < ·) := by
  intro l
  induction l with
  | nil => intro acc h _ _; exact h
  | cons x l ih =>
    intro acc ha hl hal
    rw [List.pairwise_cons] at hl
    have hle : ∀ a ∈ acc, ∀ y ∈ l, a ≤ y := fun a h y hy => hal a h y (by simp [hy])
    rw [List.foldl_cons]
    unfold cmpStep
    split
    · exact ih acc ha hl.2 hle
    · rename_i hne
      refine ih _ ?_ hl.2 ?_
      · rw [List.pairwise_append]
        refine ⟨ha, by simp, fun a h y hy => ?_⟩
        simp at hy; subst hy
        have hay := hal a h y (by simp)
        rcases List.eq_nil_or_concat acc with e | ⟨i, z, e⟩
        · subst e; simp at h
        · rw [List.concat_eq_append] at e; subst e
          have hz : z ≠ y := fun e => hne (by simp [e])
          have hzy := hal z (by simp) y (by simp)
          rw [List.pairwise_append] at ha
          rcases List.mem_append.1 h with h1 | h1
          · have := ha.2.2 a h1 z (by simp); omega
          · simp at h1; omega
      · intro a h y hy
        rcases List.mem_append.1 h with h1 | h1
        · exact hle a h1 y hy
        · simp at h1; subst h1; exact hl.1 y hy
theorem cmpL_asc (l : List Int) (h : l.Pairwise (· ≤ ·)) : (cmpL l).Pairwise (· < ·) := cmpF_asc l [] (by simp) h (by simp)
theorem ascOn_pw (l : List Int) (h : ascOn l 0 l.length) : l.Pairwise (· ≤ ·) := by
  rw [List.pairwise_iff_getElem]
  intro i j hi hj hij
  have := h i j (by omega) hij hj
  simpa [at0, List.getD, hi, hj] using this

theorem insL_mem (out : List Nat) (l x : Nat) : x ∈ insL out l ↔ x = l ∨ x ∈ out := by
  unfold insL
  split
  · rename_i h
    have := List.mem_of_getElem? h
    constructor
    · exact .inr
    · rintro (e | e)
      · subst e; exact this
      · exact e
  · have e : out = out.take (lowN out l) ++ out.drop (lowN out l) := (List.take_append_drop _ _).symm
    constructor
    · intro h
      rcases List.mem_append.1 h with h | h
      · exact .inr (List.mem_of_mem_take h)
      · rcases List.mem_cons.1 h with h | h
        · exact .inl h
        · exact .inr (List.mem_of_mem_drop h)
    · rintro (h | h)
      · subst h; simp
      · rw [e] at h
        rcases List.mem_append.1 h with h | h
        · exact List.mem_append.2 (.inl h)
        · exact List.mem_append.2 (.inr (by simp [h]))
theorem insL_asc (out : List Nat) (l : Nat) (h : out.Pairwise (· < ·)) : (insL out l).Pairwise (· < ·) := by
  unfold insL
  split
  · exact h
  · rename_i hne
    have e : out = out.take (lowN out l) ++ out.drop (lowN out l) := (List.take_append_drop _ _).symm
    have h' := h
    rw [e, List.pairwise_append] at h'
    obtain ⟨h1, h2, h3⟩ := h'
    have lo : ∀ a ∈ out.take (lowN out l), a < l := fun a ha => by
      obtain ⟨i, hi, hx⟩ := List.getElem_of_mem ha
      rw [List.length_take] at hi
      exact lowN_lt out l i a (by omega) (by rw [← hx, List.getElem_take]; exact List.getElem?_eq_getElem (by omega))
    have hi : ∀ a ∈ out.drop (lowN out l), l < a := fun a ha => by
      obtain ⟨i, hi, hx⟩ := List.getElem_of_mem ha
      rw [List.length_drop] at hi
      have h0 : out[lowN out l]? = some out[lowN out l] := List.getElem?_eq_getElem (by omega)
      have h4 := lowN_ge out l _ h0
      have h5 : out[lowN out l] ≠ l := fun e => hne (by rw [h0, e])
      rw [List.getElem_drop] at hx
      rcases Nat.eq_zero_or_pos i with e0 | e0
      · subst e0; simp only [Nat.add_zero] at hx; omega
      · have := List.pairwise_iff_getElem.1 h (lowN out l) (lowN out l + i) (by omega) (by omega) (by omega)
        omega
    rw [List.pairwise_append, List.pairwise_cons]
    refine ⟨h1, ⟨hi, h2⟩, fun a ha b hb => ?_⟩
    have hal := lo a ha
    rcases List.mem_cons.1 hb with e | hb
    · omega
    · have := hi b hb; omega
theorem linesF_asc (offs : List Nat) : ∀ out : List Nat, out.Pairwise (· < ·) → (offs.foldl (fun out o => insL out (o / 64)) out).Pairwise (· < ·) := by
  induction offs with
  | nil => intro out h; exact h
  | cons o offs ih => intro out h; exact ih _ (insL_asc out _ h)
theorem linesF_mem (offs : List Nat) (x : Nat) : ∀ out : List Nat, x ∈ offs.foldl (fun out o => insL out (o / 64)) out ↔ x ∈ out ∨ ∃ o ∈ offs, o / 64 = x := by
  induction offs with
  | nil => intro out; simp
  | cons o offs ih =>
    intro out
    rw [List.foldl_cons, ih, insL_mem]
    simp only [List.mem_cons]
    constructor
    · rintro ((h | h) | ⟨p, hp, h⟩)
      · exact .inr ⟨o, .inl rfl, h.symm⟩
      · exact .inl h
      · exact .inr ⟨p, .inr hp, h⟩
    · rintro (h | ⟨p, hp | hp, h⟩)
      · exact .inl (.inr h)
      · subst hp; exact .inl (.inl h.symm)
      · exact .inr ⟨p, hp, h⟩
theorem linesL_asc (offs : List Nat) : (linesL offs).Pairwise (· < ·) := linesF_asc offs [] (by simp)
theorem linesL_mem (offs : List Nat) (x : Nat) : x ∈ linesL offs ↔ ∃ o ∈ offs, o / 64 = x := by
  unfold linesL; rw [linesF_mem]; simp
/-- The starts of lines, sorted and compacted. -/
theorem lines_compact (offs : List Nat) (ys : List Int) (hp : ys.Perm (offs.map fun o => (((o - o % 64 : Nat)) : Int))) (ha : ascOn ys 0 ys.length) : cmpL ys = (linesL offs).map fun l => ((64 * l : Nat) : Int) := by
  refine asc_ext _ _ (cmpL_asc ys (ascOn_pw ys ha)) ?_ (fun x => ?_)
  · rw [List.pairwise_map]
    exact (linesL_asc offs).imp (fun h => by omega)
  · rw [mem_cmpL, hp.mem_iff, List.mem_map, List.mem_map]
    constructor
    · rintro ⟨o, ho, rfl⟩
      exact ⟨o / 64, (linesL_mem _ _).2 ⟨o, ho, rfl⟩, by omega⟩
    · rintro ⟨l, hl, rfl⟩
      obtain ⟨o, ho, rfl⟩ := (linesL_mem _ _).1 hl
      exact ⟨o, ho, by omega⟩
end Go.Proofs.YtbpaamnofkhonaaDoor
