/- The reference's lines, flushes and stores, plain. No program in sight. -/
import Derived.Test.YtbpaamnofkhonaaDoorSl
namespace Go.Proofs.YtbpaamnofkhonaaDoor
open Go.RowKit

def natsU (l : List Nat) : List Value := l.map fun (n : Nat) => Value.int .u64 n
theorem natsU_get {l : List Nat} {i n : Nat} (h : l[i]? = some n) : (natsU l)[i]? = some (.int .u64 n) := by simp [natsU, h]
theorem natsU_one (l : List Nat) : ∀ u ∈ natsU l, u.oneCell' = true := by intro u hu; simp [natsU] at hu; obtain ⟨s, _, rfl⟩ := hu; rfl
theorem natsU_take (l : List Nat) (k : Nat) : (natsU l).take k = natsU (l.take k) := by simp [natsU, List.map_take]
theorem natsU_drop (l : List Nat) (k : Nat) : (natsU l).drop k = natsU (l.drop k) := by simp [natsU, List.map_drop]
/-- How many lines of these lie below l. -/
def lowN (out : List Nat) (l : Nat) : Nat := (out.takeWhile fun x => decide (x < l)).length
theorem lowN_le (out : List Nat) (l : Nat) : lowN out l ≤ out.length := (List.takeWhile_sublist _).length_le
theorem lowN_lt (out : List Nat) (l i x : Nat) (hi : i < lowN out l) (h : out[i]? = some x) : x < l := by
  induction out generalizing i with
  | nil => simp at h
  | cons y out ih =>
    unfold lowN at hi
    by_cases hy : y < l
    · rw [List.takeWhile_cons_of_pos (by simpa using hy), List.length_cons] at hi
      cases i with
      | zero => simp at h; omega
      | succ i => exact ih i (by unfold lowN; omega) (by simpa using h)
    · rw [List.takeWhile_cons_of_neg (by simpa using hy)] at hi; simp at hi
theorem lowN_ge (out : List Nat) (l x : Nat) (h : out[lowN out l]? = some x) : ¬ x < l := by
  induction out with
  | nil => simp at h
  | cons y out ih =>
    unfold lowN at h
    by_cases hy : y < l
    · rw [List.takeWhile_cons_of_pos (by simpa using hy), List.length_cons, List.getElem?_cons_succ] at h
      exact ih h
    · rw [List.takeWhile_cons_of_neg (by simpa using hy)] at h; simp at h; omega
def insL (out : List Nat) (l : Nat) : List Nat := if out[lowN out l]? = some l then out else out.take (lowN out l) ++ l :: out.drop (lowN out l)
def linesL (offs : List Nat) : List Nat := offs.foldl (fun out o => insL out (o / 64)) []
theorem linesL_snoc (offs : List Nat) (o : Nat) : linesL (offs ++ [o]) = insL (linesL offs) (o / 64) := by simp [linesL, List.foldl_append]
theorem insL_len (out : List Nat) (l : Nat) : (insL out l).length ≤ out.length + 1 := by
  have := lowN_le out l
  unfold insL; split
  · omega
  · simp; omega
theorem linesF_len (offs : List Nat) : ∀ out : List Nat, (offs.foldl (fun out o => insL out (o / 64)) out).length ≤ out.length + offs.length := by
  induction offs with
  | nil => intro out; simp
  | cons o offs ih => intro out; have h1 := ih (insL out (o / 64)); have h2 := insL_len out (o / 64); simp only [List.foldl_cons, List.length_cons]; omega
theorem linesL_len (offs : List Nat) : (linesL offs).length ≤ offs.length := by have := linesF_len offs []; simpa [linesL] using this
theorem linesF_bd (offs : List Nat) (B : Nat) (h : ∀ o ∈ offs, o / 64 < B) : ∀ out : List Nat, (∀ l ∈ out, l < B) → ∀ l ∈ offs.foldl (fun out o => insL out (o / 64)) out, l < B := by
  induction offs with
  | nil => intro out ho; exact ho
  | cons o offs ih =>
    intro out ho
    refine ih (fun x hx => h x (by simp [hx])) (insL out (o / 64)) (fun l hl => ?_)
    unfold insL at hl
    split at hl
    · exact ho l hl
    · rcases List.mem_append.1 hl with h1 | h1
      · exact ho l (List.mem_of_mem_take h1)
      · rcases List.mem_cons.1 h1 with rfl | h1
        · exact h o (by simp)
        · exact ho l (List.mem_of_mem_drop h1)
theorem linesL_bd (offs : List Nat) (B : Nat) (h : ∀ o ∈ offs, o / 64 < B) : ∀ l ∈ linesL offs, l < B := linesF_bd offs B h [] (by simp)
def flushL (offs : List Nat) : List (Nat × Nat × Int) := if linesL offs = [] then [] else ((linesL offs).map fun l => (2, 64 * l, 0)) ++ [(3, 0, 0)]
def storesL (ws : List (Nat × Int)) : List (Nat × Nat × Int) := (ws.map fun e => (1, e.1, e.2)) ++ flushL (ws.map (·.1))
end Go.Proofs.YtbpaamnofkhonaaDoor
