/- Plain: what the reference's device is, as cells; a device that is on and not armed. -/
import Derived.Test.YtahpadhejjlpoaaGreatDoorDevI
import Derived.Test.YtahpadhejjlpoaaGreatDoorGen
import Derived.Test.YtahpadhejjlpoaaGreatDoorDevP
namespace Go.Proofs.YtahpadhejjlpoaaGreatDoor
open Go.RowKit

/-- On, and not armed. -/
structure Dev.Up (D : Dev) : Prop where
  off : D.off = false
  armed : D.armed = false
  wf : D.WF
  vb : D.VB
namespace Dev
variable {D : Dev}
theorem Up.cB (h : D.Up) (b : Bool) : D.countedB b = b := by simp [countedB, onB, cut, h.off, h.armed]
theorem Up.cD (h : D.Up) (j : Nat) : D.countedD j true = D.tick := by simp [countedD, onB, cut, h.off, h.armed]
theorem Up.tick (h : D.Up) : D.tick.Up := ⟨h.off, h.armed, h.wf.tick, h.vb.same rfl rfl⟩
theorem Up.store (h : D.Up) {off : Nat} (x : Int) (h8 : off % 8 = 0) (hl : off < 64 * D.n) : D.store 0 off x = D.tick.put off x := by
  have hb : D.wordB off = true := by simp [wordB, h8, hl]
  unfold Dev.store
  rw [hb, h.cB, h.cD, if_pos rfl]
theorem Up.flush (h : D.Up) {off : Nat} (hl : off < 64 * D.n) : D.flush 0 off = D.tick.jot 0 (off / 64) := by
  have hb : D.inB off = true := by simp [inB, hl]
  unfold Dev.flush
  rw [hb, h.cB, h.cD, if_pos rfl]
theorem Up.fence (h : D.Up) : D.fence 0 = D.tick.sync 0 := by
  unfold Dev.fence
  rw [h.cB, h.cD, if_pos rfl]
theorem Up.put (h : D.Up) {off : Nat} {x : Int} (h8 : off % 8 = 0) (hl : off < 64 * D.n) (hx : 0 ≤ x ∧ x < 18446744073709551616) : (D.tick.put off x).Up := by
  refine ⟨h.off, h.armed, ⟨h.wf.pos, h.wf.le, fun i hi e he => ?_, fun i hi => ?_, fun j l p hp => ?_, h.tick.wf.left⟩, ?_⟩
  · simp only [Dev.put, Dev.tick] at he
    split at he
    · rename_i e1
      rcases List.mem_append.1 he with h1 | h1
      · exact h.wf.line i hi e h1
      · simp only [List.mem_singleton] at h1; subst h1; exact ⟨e1.symm, h8⟩
    · exact h.wf.line i hi e he
  · have := h.wf.cnt i hi
    simp only [Dev.put, Dev.tick]
    split
    · rw [List.length_append, List.length_singleton]; omega
    · omega
  · obtain ⟨h1, h2⟩ := h.wf.note j l p hp
    refine ⟨h1, ?_⟩
    simp only [Dev.put, Dev.tick]
    split
    · rw [List.length_append]; omega
    · exact h2
  · rw [← h.store x h8 hl]
    exact h.vb.step 0 (1, off, x) (fun _ => hx)
theorem Up.jot (h : D.Up) {l : Nat} (hl : l < D.n) : (D.tick.jot 0 l).Up := by
  refine ⟨h.off, h.armed, ⟨h.wf.pos, h.wf.le, h.wf.line, h.tick.wf.cnt, fun j m p hp => ?_, h.tick.wf.left⟩, h.vb.same rfl rfl⟩
  simp only [Dev.jot, Dev.tick] at hp
  split at hp
  · rename_i e
    obtain ⟨_, rfl⟩ := e
    cases hp
    exact ⟨hl, Nat.le_refl _⟩
  · exact h.wf.note j m p hp
theorem Up.persist (h : D.Up) {l k : Nat} (hk : k ≤ (D.hist l).length) : (D.persist l k).Up := by
  refine ⟨h.off, h.armed, ⟨h.wf.pos, h.wf.le, fun i hi e he => ?_, fun i hi => ?_, fun j m p hp => ?_, h.wf.left⟩, ⟨fun i => ?_, fun i e he => ?_⟩⟩
  · simp only [Dev.persist] at he
    split at he
    · exact h.wf.line i hi e (List.mem_of_mem_drop he)
    · exact h.wf.line i hi e he
  · have := h.wf.cnt i hi
    simp only [Dev.persist]
    split
    · rename_i e; subst e; rw [List.length_drop]; omega
    · omega
  · obtain ⟨h1, h2⟩ := h.wf.note j m p hp
    refine ⟨h1, ?_⟩
    simp only [Dev.persist]
    split
    · rename_i e; subst e; rw [List.length_drop]; omega
    · exact h2
  · simp only [Dev.persist]
    split
    · exact look_bd _ _ _ (h.vb.pers i) (fun e he => h.vb.hist _ e (List.mem_of_mem_take he))
    · exact h.vb.pers i
  · simp only [Dev.persist] at he
    split at he
    · exact h.vb.hist _ e (List.mem_of_mem_drop he)
    · exact h.vb.hist _ e he
theorem Up.unnote (h : D.Up) : ({ D with note := fun k m => if k = 0 then none else D.note k m } : Dev).Up :=
  ⟨h.off, h.armed, ⟨h.wf.pos, h.wf.le, h.wf.line, h.wf.cnt, fun j m p hp => by
    dsimp only at hp
    split at hp
    · cases hp
    · exact h.wf.note j m p hp, h.wf.left⟩, h.vb.same rfl rfl⟩
end Dev

/-- Notes as cells. -/
def noteC (l : List (Nat × Nat)) : List Value := l.flatMap fun e => [.int .i64 e.1, .int .i64 e.2]
theorem noteC_append (a b : List (Nat × Nat)) : noteC (a ++ b) = noteC a ++ noteC b := by simp [noteC]
theorem noteC_length (h : List (Nat × Nat)) : (noteC h).length = h.length * 2 := by
  induction h with
  | nil => rfl
  | cons e l ih => simp [noteC] at *; omega
theorem noteC_get (h : List (Nat × Nat)) : ∀ (k : Nat) (e : Nat × Nat), h[k]? = some e → (noteC h)[k * 2]? = some (.int .i64 e.1) ∧ (noteC h)[k * 2 + 1]? = some (.int .i64 e.2) := by
  induction h with
  | nil => intro k e h; simp at h
  | cons x l ih =>
    intro k e he
    have hf : noteC (x :: l) = .int .i64 x.1 :: .int .i64 x.2 :: noteC l := rfl
    cases k with
    | zero => simp at he; subst he; simp [hf]
    | succ k =>
      have := ih k e (by simpa using he)
      rw [hf, show (k + 1) * 2 = k * 2 + 1 + 1 from by omega]
      simpa using this
theorem noteC_one (h : List (Nat × Nat)) : ∀ u ∈ noteC h, u.oneCell' = true := by
  intro u hu
  simp [noteC] at hu
  obtain ⟨a, b, _, rfl | rfl⟩ := hu <;> rfl
/-- The reference's device as cells. -/
def dev3 (D : Dev) (lb : Nat) (nv : Value) : Array Value :=
  #[.slice (some ⟨lb, 0, none⟩) D.n D.n, nv, .slice none 0 0, .slice none 0 0, .slice none 0 0, .slice none 0 0, .slice none 0 0, .slice none 0 0, .slice none 0 0,
    .int .i64 0, .int .i64 0, .int .i64 0, .int .i64 0, .int .i64 0, .int .i64 0, .int .i64 0, .int .i64 0, .int .i64 (-1), .bool false, .int .u64 D.exec]
/-- Its lines as cells. -/
def ln3 (D : Dev) (hv : Nat → Value) (i : Nat) : Value :=
  if i % 10 < 8 then .int .u64 (D.pers (8 * (i / 10) + i % 10)) else if i % 10 = 8 then hv (i / 10) else .int .i64 (D.done (i / 10))
theorem ln3_word (D : Dev) (hv : Nat → Value) (l k : Nat) (hk : k < 8) : ln3 D hv (l * 10 + k) = .int .u64 (D.pers (8 * l + k)) := by
  unfold ln3
  rw [show (l * 10 + k) % 10 = k by omega, show (l * 10 + k) / 10 = l by omega, if_pos hk]
theorem ln3_hist (D : Dev) (hv : Nat → Value) (l : Nat) : ln3 D hv (l * 10 + 8) = hv l := by
  unfold ln3
  rw [show (l * 10 + 8) % 10 = 8 by omega, show (l * 10 + 8) / 10 = l by omega, if_neg (by omega), if_pos rfl]
theorem ln3_done (D : Dev) (hv : Nat → Value) (l : Nat) : ln3 D hv (l * 10 + 9) = .int .i64 (D.done l) := by
  unfold ln3
  rw [show (l * 10 + 9) % 10 = 9 by omega, show (l * 10 + 9) / 10 = l by omega, if_neg (by omega), if_neg (by omega)]
def Two (rb lb : Nat) (g : Nat) : Prop := g = rb ∨ g = lb
section
variable {wr w' : World} {D : Dev} {rb lb : Nat} {hv : Nat → Value} {nv : Value} {ns : List (Nat × Nat)}
end
end Go.Proofs.YtahpadhejjlpoaaGreatDoor
