/- The two copies of a superblock, plain: which is good, which is the newest, what a program leaves of them. No program in sight. -/
import Derived.Test.YtbpaamnofkhonaaDoorSbD
import Derived.Test.YtbpaamnofkhonaaDoorRdoM
namespace Go.Proofs.YtbpaamnofkhonaaDoor
open Go.RowKit

/-- The words of copy i. -/
def cpW (C : Nat → Int) (i : Nat) : List Nat := [(C (8 * i)).toNat, (C (8 * i + 1)).toNat, (C (8 * i + 2)).toNat, (C (8 * i + 3)).toNat, (C (8 * i + 4)).toNat, (C (8 * i + 5)).toNat, (C (8 * i + 6)).toNat, (C (8 * i + 7)).toNat]
def cpG (C : Nat → Int) (n i : Nat) : Bool := goodB (cpW C i) n
def cpS (C : Nat → Int) (n i : Nat) : Sup := decoded (cpW C i) n
/-- The second copy is the newest. -/
def newB (C : Nat → Int) (n : Nat) : Bool := cpG C n 1 && (!cpG C n 0 || decide ((cpS C n 0).gen < (cpS C n 1).gen))
def newA (C : Nat → Int) (n : Nat) : Nat := if newB C n then 1 else 0
def newG (C : Nat → Int) (n : Nat) : Bool := if newB C n then true else cpG C n 0
def newS (C : Nat → Int) (n : Nat) : Sup := cpS C n (newA C n)
/-- The stores of the program that writes a copy. -/
def sbWs (s : Sup) (i : Nat) : List (Nat × Int) := (64 * i + 56, 0) :: (List.range 8).map fun k => (64 * i + 8 * k, ((s.words.getD k 0 : Nat) : Int))
def sbP (s : Sup) (i : Nat) : List (Nat × Nat × Int) := storesL (sbWs s i)
def Sup.withGen (s : Sup) (g : Int) : Sup := { s with gen := g }
theorem Sup.words_len (s : Sup) : s.words.length = 8 := rfl
theorem Sup.of_words (s : Sup) (h : s.Ok) (g1 : 0 ≤ s.gen) : Sup.of s.words = s := by
  obtain ⟨ver, lin, redo, und, desc, que, tab, gen⟩ := s
  obtain ⟨v1, v2, l1, l2, r1, u1, d1, q1, t1, r2, u2, d2, q2, t2, _⟩ := h
  simp only at *
  show Sup.dec gen.toNat (ver + lin * 65536 + redo * 4294967296 + und * 281474976710656).toNat (desc + que * 65536 + tab * 4294967296).toNat = _
  unfold Sup.dec
  congr 1 <;> omega
theorem goodB_words (s : Sup) (h : s.Ok) (g1 : 0 ≤ s.gen) {n : Nat} (hn : s.lin ≤ n) : goodB s.words n = true ∧ decoded s.words n = s := by
  have hg : goodB s.words n = true := by
    unfold goodB
    rw [Sup.of_words s h g1, Sup.okB_true h]
    simp [hn]
  exact ⟨hg, by unfold decoded; rw [if_pos hg, Sup.of_words s h g1]⟩
theorem goodB_seven {W : List Nat} {n : Nat} (h : W.getD 7 0 = 0) : goodB W n = false := by
  unfold goodB
  by_cases hw : (Sup.of W).words = W
  · have h7 : (Sup.of W).words.getD 7 0 = 4294967296 + crcN (Sup.of W).first := rfl
    rw [hw, h] at h7
    omega
  · simp [hw]
structure GoodIs (W : List Nat) (n : Nat) : Prop where
  ok : (Sup.of W).Ok
  lin : (Sup.of W).lin ≤ n
  eq : (Sup.of W).words = W
theorem goodB_true {W : List Nat} {n : Nat} (h : goodB W n = true) : GoodIs W n := by
  unfold goodB at h
  simp only [Bool.and_eq_true, decide_eq_true_eq] at h
  refine ⟨?_, h.1.2, h.2⟩
  by_cases hk : (Sup.of W).Ok
  · exact hk
  · rw [Sup.okB_false hk] at h; simp at h
theorem decoded_false {W : List Nat} {n : Nat} (h : goodB W n = false) : decoded W n = Sup.zero := by unfold decoded; rw [h]; rfl
theorem decoded_true {W : List Nat} {n : Nat} (h : goodB W n = true) : decoded W n = Sup.of W := by unfold decoded; rw [h]; rfl
theorem of_gen (W : List Nat) : (Sup.of W).gen = (W.getD 1 0 : Nat) := rfl
theorem cpW_congr {C C' : Nat → Int} {i : Nat} (h : ∀ x, 8 * i ≤ x → x < 8 * i + 8 → C x = C' x) : cpW C i = cpW C' i := by
  unfold cpW
  rw [h (8 * i) (by omega) (by omega), h (8 * i + 1) (by omega) (by omega), h (8 * i + 2) (by omega) (by omega), h (8 * i + 3) (by omega) (by omega), h (8 * i + 4) (by omega) (by omega), h (8 * i + 5) (by omega) (by omega), h (8 * i + 6) (by omega) (by omega), h (8 * i + 7) (by omega) (by omega)]
/-- A group of stores that all lie in one line, wherever the power fails. -/
theorem run_line {D : Dev} {j n l : Nat} {C : Nat → Int} {ws : List (Nat × Int)} (h : Grp D j n C [] []) (hw : ∀ e ∈ ws, e.1 % 8 = 0 ∧ e.1 < 64 * n ∧ e.1 / 64 = l) (h0 : ws ≠ []) :
    (Grp (D.run j (storesL ws)) j n (fun x => look ws (C x) x) [] [] ∧ (D.run j (storesL ws)).armed = D.armed) ∨
      (D.armed = true ∧ (D.run j (storesL ws)).off = true ∧ (D.run j (storesL ws)).err j = 3 ∧ (D.run j (storesL ws)).n = n ∧ ∀ ks, ∃ k, k ≤ ws.length ∧ ∀ x, (D.run j (storesL ws)).img ks x = look (ws.take k) (C x) x) := by
  have hok := storesGs_ok (ws := ws) (n := n) (fun e he => ⟨(hw e he).1, (hw e he).2.1⟩)
  rw [stores_groups]
  have hgs : storesGs ws = [(ws, lineOffs (ws.map (·.1)))] := by unfold storesGs; rw [if_neg h0]
  rcases run_came h hok with ⟨h1, h2, _⟩ | ⟨h1, h2, h3, a, vs, le, ⟨t, ht⟩, hst, h4, _⟩
  · refine .inl ⟨?_, h2⟩
    have e : laidG C (storesGs ws) = fun x => look ws (C x) x := funext fun x => by rw [laidG_flat, storesGs_flat]
    rw [e] at h1; exact h1
  · refine .inr ⟨h4, h1, h2, h3, fun ks => ?_⟩
    rw [hgs] at le ht
    have ha : a = 0 ∨ a = 1 := by simp at le; omega
    rcases ha with rfl | rfl
    · have ht : ws = vs ++ t := by simpa using ht
      have hst : Hst _ C vs := hst
      refine ⟨min (ks l) vs.length, by rw [ht, List.length_append]; omega, fun x => ?_⟩
      unfold Dev.img
      rw [hst.pers, hst.hist]
      by_cases hx : x / 8 = l
      · have hf : (vs.filter fun e => e.1 / 64 == x / 8) = vs := List.filter_eq_self.2 (fun e he => by have := (hw e (by rw [ht]; exact List.mem_append_left _ he)).2.2; simp; omega)
        rw [hf, hx, ht, List.take_append_of_le_length (by omega)]
        by_cases hk : ks l ≤ vs.length
        · rw [Nat.min_eq_left hk]
        · rw [Nat.min_eq_right (by omega), List.take_of_length_le (by omega), List.take_of_length_le (Nat.le_refl _)]
      · have hf : (vs.filter fun e => e.1 / 64 == x / 8) = [] := List.filter_eq_nil_iff.2 (fun e he => by have := (hw e (by rw [ht]; exact List.mem_append_left _ he)).2.2; simp; omega)
        rw [hf]
        have : look (ws.take (min (ks l) vs.length)) (C x) x = C x := look_other _ _ _ (fun e he hx2 => by have := (hw e (List.mem_of_mem_take he)).2.2; omega)
        rw [this, List.take_nil]; rfl
    · have hv : vs = [] := (show vs = [] ∧ t = [] by simpa using ht).1
      subst hv
      refine ⟨ws.length, Nat.le_refl _, fun x => ?_⟩
      have e1 : laidG C (List.take 1 (storesGs ws)) = fun x => look ws (C x) x := by rw [hgs]; rfl
      rw [hst.clean ks x, List.take_length, e1]
theorem sbWs_line (s : Sup) (i n : Nat) (hi : i < n) : ∀ e ∈ sbWs s i, e.1 % 8 = 0 ∧ e.1 < 64 * n ∧ e.1 / 64 = i := by
  intro e he
  unfold sbWs at he
  rcases List.mem_cons.1 he with rfl | he
  · exact ⟨by simp only; omega, by simp only; omega, by simp only; omega⟩
  · obtain ⟨k, hk, rfl⟩ := List.mem_map.1 he
    have := List.mem_range.1 hk
    exact ⟨by simp only; omega, by simp only; omega, by simp only; omega⟩
theorem sbWs_eq (s : Sup) (i : Nat) : sbWs s i = [(64 * i + 56, 0), (64 * i, ((s.words.getD 0 0 : Nat) : Int)), (64 * i + 8, ((s.words.getD 1 0 : Nat) : Int)), (64 * i + 16, ((s.words.getD 2 0 : Nat) : Int)), (64 * i + 24, ((s.words.getD 3 0 : Nat) : Int)), (64 * i + 32, ((s.words.getD 4 0 : Nat) : Int)), (64 * i + 40, ((s.words.getD 5 0 : Nat) : Int)), (64 * i + 48, ((s.words.getD 6 0 : Nat) : Int)), (64 * i + 56, ((s.words.getD 7 0 : Nat) : Int))] := rfl
/-- Word q of copy i behind the first k of the stores. -/
theorem look_sb (s : Sup) (i : Nat) (C : Nat → Int) : (∀ q, q < 8 → look (sbWs s i) (C (8 * i + q)) (8 * i + q) = ((s.words.getD q 0 : Nat) : Int)) ∧ ∀ k, 1 ≤ k → k ≤ 8 → look ((sbWs s i).take k) (C (8 * i + 7)) (8 * i + 7) = 0 := by
  have hd : ∀ k, (64 * i + 8 * k) / 8 = 8 * i + k := fun k => by omega
  constructor
  · intro q hq
    rw [sbWs_eq]
    simp only [look, List.foldl_cons, List.foldl_nil]
    obtain rfl | rfl | rfl | rfl | rfl | rfl | rfl | rfl : q = 0 ∨ q = 1 ∨ q = 2 ∨ q = 3 ∨ q = 4 ∨ q = 5 ∨ q = 6 ∨ q = 7 := by omega
    all_goals
      repeat rw [if_neg (by omega)]
      try rw [if_pos (by omega)]
      try (repeat rw [if_neg (by omega)])
  · intro k h1 h8
    rw [sbWs_eq]
    obtain rfl | rfl | rfl | rfl | rfl | rfl | rfl | rfl : k = 1 ∨ k = 2 ∨ k = 3 ∨ k = 4 ∨ k = 5 ∨ k = 6 ∨ k = 7 ∨ k = 8 := by omega
    all_goals
      simp only [List.take_succ_cons, List.take_zero, look, List.foldl_cons, List.foldl_nil]
      repeat rw [if_neg (by omega)]
      rw [if_pos (by omega)]
theorem look_sb_other (s : Sup) (i k : Nat) (C : Nat → Int) (x : Nat) (hx : x / 8 ≠ i) : look ((sbWs s i).take k) (C x) x = C x :=
  look_other _ _ _ (fun e he h => by have := (sbWs_line s i (i + 1) (by omega) e (List.mem_of_mem_take he)).2.2; omega)
/-- The copies behind the first k stores of a program that writes copy i. -/
theorem cp_part (s : Sup) (i k : Nat) (C F : Nat → Int) (hk : k ≤ 9) (hF : ∀ x, F x = look ((sbWs s i).take k) (C x) x) :
    (∀ j, j ≠ i → cpW F j = cpW C j) ∧ (cpW F i = cpW C i ∨ (cpW F i).getD 7 0 = 0 ∨ cpW F i = s.words) ∧ (k = 9 → cpW F i = s.words) := by
  have hfull : k = 9 → cpW F i = s.words := by
    rintro rfl
    have hq : ∀ q, q < 8 → F (8 * i + q) = ((s.words.getD q 0 : Nat) : Int) := fun q hq => by
      rw [hF]
      rw [List.take_of_length_le (by rw [sbWs_eq]; simp)]
      exact (look_sb s i C).1 q hq
    have h0 := hq 0 (by omega)
    rw [Nat.add_zero] at h0
    unfold cpW
    rw [h0, hq 1 (by omega), hq 2 (by omega), hq 3 (by omega), hq 4 (by omega), hq 5 (by omega), hq 6 (by omega), hq 7 (by omega)]
    simp only [Int.toNat_natCast]
    rfl
  refine ⟨fun j hj => cpW_congr (fun x h1 h2 => ?_), ?_, hfull⟩
  · rw [hF]; exact look_sb_other s i k C x (by omega)
  · by_cases h0 : k = 0
    · left; subst h0; exact cpW_congr (fun x _ _ => by rw [hF]; rfl)
    · by_cases h9 : k = 9
      · exact .inr (.inr (hfull h9))
      · right; left
        have h7 := (look_sb s i C).2 k (by omega) (by omega)
        show (F (8 * i + 7)).toNat = 0
        rw [hF, h7]; rfl
end Go.Proofs.YtbpaamnofkhonaaDoor
