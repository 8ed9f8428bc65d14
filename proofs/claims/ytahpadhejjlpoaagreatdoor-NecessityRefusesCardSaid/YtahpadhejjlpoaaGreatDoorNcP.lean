/- Plain: how many images a device has behind a program; a program without a fence. -/
import Derived.Test.YtahpadhejjlpoaaGreatDoorNecM
import Derived.Test.YtahpadhejjlpoaaGreatDoorNcF
import Derived.Test.YtahpadhejjlpoaaGreatDoorR54A
namespace Go.Proofs.YtahpadhejjlpoaaGreatDoor
open Go.RowKit

def sumH (f : Nat → Nat) : Nat → Nat
  | 0 => 0
  | n + 1 => sumH f n + f n
theorem sumH_le {f g : Nat → Nat} {a : Nat} (h : ∀ l, f l ≤ g l + (if l = a then 1 else 0)) : ∀ n, sumH f n ≤ sumH g n + (if a < n then 1 else 0) := by
  intro n
  induction n with
  | zero => simp [sumH]
  | succ n ih =>
    have h1 := h n
    simp only [sumH]
    by_cases e : n = a
    · subst e
      rw [if_pos rfl] at h1
      rw [if_neg (Nat.lt_irrefl n)] at ih
      rw [if_pos (by omega)]
      omega
    · rw [if_neg e] at h1
      by_cases e2 : a < n
      · rw [if_pos e2] at ih; rw [if_pos (by omega)]; omega
      · rw [if_neg e2] at ih; rw [if_neg (by omega)]; omega
def totH (D : Dev) : Nat := sumH (fun l => (D.hist l).length) D.n
theorem step_hist (D : Dev) (e : Nat × Nat × Int) (l : Nat) : ((D.step 0 e).hist l).length ≤ (D.hist l).length + (if l = e.2.1 / 64 then 1 else 0) := by
  have hs := fun b => (Dev.countedD_same D 0 b).2
  unfold Dev.step
  split
  · unfold Dev.store
    split
    · simp only [Dev.put, hs]
      split
      · rw [List.length_append, List.length_singleton]; omega
      · omega
    · rw [hs]; omega
  · split
    · unfold Dev.flush
      split
      · simp only [Dev.jot, hs]; omega
      · rw [hs]; omega
    · unfold Dev.fence
      split
      · simp only [Dev.sync, hs, List.length_drop]; omega
      · rw [hs]; omega
theorem step_n (D : Dev) (e : Nat × Nat × Int) : (D.step 0 e).n = D.n := run_n D [e]
theorem tot_run (q : List (Nat × Nat × Int)) : ∀ D : Dev, totH (D.run 0 q) ≤ totH D + q.length := by
  induction q with
  | nil => intro D; simp [Dev.run]
  | cons e q ih =>
    intro D
    have h1 := ih (D.step 0 e)
    have h2 := sumH_le (step_hist D e) D.n
    have h3 : totH (D.step 0 e) ≤ totH D + 1 := by
      unfold totH
      rw [step_n]
      split at h2 <;> omega
    show totH ((D.step 0 e).run 0 q) ≤ totH D + (q.length + 1)
    omega
theorem succ_two (k : Nat) : k + 1 ≤ 2 ^ k := by
  induction k with
  | zero => simp
  | succ k ih => rw [Nat.pow_succ]; omega
theorem prod_tot (D : Dev) : ∀ n, prodN (((List.range n).filter fun l => decide (0 < (D.hist l).length)).map fun l => (D.hist l).length + 1) ≤ 2 ^ sumH (fun l => (D.hist l).length) n := by
  intro n
  induction n with
  | zero => simp [sumH, prodN]
  | succ n ih =>
    rw [List.range_succ, List.filter_append, List.map_append]
    simp only [sumH]
    by_cases h : 0 < (D.hist n).length
    · rw [List.filter_cons_of_pos (by simpa using h), List.filter_nil, List.map_cons, List.map_nil, prodN_snoc, Nat.pow_add]
      exact Nat.mul_le_mul ih (succ_two _)
    · rw [List.filter_cons_of_neg (by simpa using h), List.filter_nil, List.map_nil, List.append_nil, show (D.hist n).length = 0 by omega, Nat.add_zero]
      exact ih
theorem bases_tot (D : Dev) : prodN (basesL D) ≤ 2 ^ totH D := prod_tot D D.n
theorem tot_fresh (n : Nat) (f : Nat → Int) : totH (Dev.fresh n f) = 0 := by
  unfold totH
  have : ∀ m, sumH (fun l => ((Dev.fresh n f).hist l).length) m = 0 := by
    intro m
    induction m with
    | zero => rfl
    | succ m ih => simp only [sumH, ih]; rfl
  exact this _
theorem fresh_prod (n : Nat) (q : List (Nat × Nat × Int)) (h : q.length ≤ 60) : prodN (basesL ((Dev.fresh n (fun _ => 0)).run 0 q)) ≤ 1152921504606846976 := by
  have h1 := bases_tot ((Dev.fresh n (fun _ => 0)).run 0 q)
  have h2 := tot_run q (Dev.fresh n (fun _ => 0))
  rw [tot_fresh] at h2
  exact Nat.le_trans h1 (Nat.pow_le_pow_right (by omega) (by omega) : 2 ^ _ ≤ 2 ^ 60)
/-- A program without the fence of a number. -/
def woI (f : Int) : List (Nat × Nat × Int) → Nat → List (Nat × Nat × Int)
  | [], _ => []
  | e :: l, n => if e.1 = 3 then (if (n : Int) = f then woI f l (n + 1) else e :: woI f l (n + 1)) else e :: woI f l n
theorem woI_snoc (f : Int) (l : List (Nat × Nat × Int)) (e : Nat × Nat × Int) : ∀ n, woI f (l ++ [e]) n = woI f l n ++ (if e.1 = 3 ∧ ((n + fenN l : Nat) : Int) = f then [] else [e]) := by
  induction l with
  | nil =>
    intro n
    simp only [List.nil_append, woI, fenN, List.filter_nil, List.length_nil, Nat.add_zero]
    by_cases h : e.1 = 3 <;> by_cases h2 : (n : Int) = f <;> simp [h, h2]
  | cons x l ih =>
    intro n
    have hf : fenN (x :: l) = fenN l + (if x.1 = 3 then 1 else 0) := by
      unfold fenN
      by_cases h : x.1 = 3 <;> simp [h]
    simp only [List.cons_append, woI]
    by_cases h : x.1 = 3
    · rw [if_pos h, if_pos h, hf, if_pos h, ih, show n + 1 + fenN l = n + (fenN l + 1) by omega]
      split <;> rfl
    · rw [if_neg h, if_neg h, hf, if_neg h, ih, Nat.add_zero]
      rfl
theorem woI_mem (f : Int) (l : List (Nat × Nat × Int)) : ∀ n, ∀ e ∈ woI f l n, e ∈ l := by
  induction l with
  | nil => intro n e he; simp [woI] at he
  | cons x l ih =>
    intro n e he
    simp only [woI] at he
    split at he
    · split at he
      · exact List.mem_cons_of_mem _ (ih _ e he)
      · rcases List.mem_cons.1 he with rfl | h
        · exact List.mem_cons_self
        · exact List.mem_cons_of_mem _ (ih _ e h)
    · rcases List.mem_cons.1 he with rfl | h
      · exact List.mem_cons_self
      · exact List.mem_cons_of_mem _ (ih _ e h)
theorem woI_len (f : Int) (l : List (Nat × Nat × Int)) : ∀ n, (woI f l n).length ≤ l.length := by
  induction l with
  | nil => intro n; simp [woI]
  | cons x l ih =>
    intro n
    have h1 := ih n; have h2 := ih (n + 1)
    simp only [woI]
    split
    · split <;> simp only [List.length_cons] <;> omega
    · simp only [List.length_cons]; omega
theorem fenN_le (l : List (Nat × Nat × Int)) : fenN l ≤ l.length := List.length_filter_le _ _
/-- The program that is searched, and whether there is such a fence. -/
def qOf (f : Int) (q : List (Nat × Nat × Int)) : List (Nat × Nat × Int) := if f = -1 then q else woI f q 0
def isOf (f : Int) (q : List (Nat × Nat × Int)) : Bool := decide (f = -1) || decide (0 ≤ f ∧ f < fenN q)
theorem qOf_mem {f : Int} {q : List (Nat × Nat × Int)} : ∀ e ∈ qOf f q, e ∈ q := by
  unfold qOf
  split
  · exact fun e h => h
  · exact woI_mem f q 0
theorem qOf_len (f : Int) (q : List (Nat × Nat × Int)) : (qOf f q).length ≤ q.length := by
  unfold qOf
  split
  · exact Nat.le_refl _
  · exact woI_len f q 0
end Go.Proofs.YtahpadhejjlpoaaGreatDoor
