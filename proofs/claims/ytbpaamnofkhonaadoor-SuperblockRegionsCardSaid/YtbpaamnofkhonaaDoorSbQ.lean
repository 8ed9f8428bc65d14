/- The superblock on a clean device: what Format and Update leave, plain. No program in sight. -/
import Derived.Test.YtbpaamnofkhonaaDoorSbJ
namespace Go.Proofs.YtbpaamnofkhonaaDoor
open Go.RowKit

theorem Sup.Ok.withGen {s : Sup} (h : s.Ok) (g : Int) : (s.withGen g).Ok := ⟨h.v1, h.v2, h.l1, h.l2, h.r1, h.u1, h.d1, h.q1, h.t1, h.r2, h.u2, h.d2, h.q2, h.t2, h.h⟩
/-- Nothing pending for thread j on n lines; not armed. -/
structure SCl (D : Dev) (j n : Nat) (C : Nat → Int) (x : Nat) : Prop where
  grp : Grp D j n C [] []
  vb : D.VB
  exec : D.exec ≤ x
  ar : D.armed = false
section
variable {D : Dev} {C : Nat → Int} {j n x : Nat}
theorem SCl.cur (h : SCl D j n C x) : D.cur = C := funext fun i => by rw [h.grp.hst.cur]; rfl
theorem SCl.img (h : SCl D j n C x) (ks : Nat → Nat) : D.img ks = C := funext fun i => h.grp.hst.clean ks i
theorem SCl.mono {y : Nat} (h : SCl D j n C x) (hxy : x ≤ y) : SCl D j n C y := ⟨h.grp, h.vb, Nat.le_trans h.exec hxy, h.ar⟩
theorem SCl.bd (h : SCl D j n C x) (i : Nat) : 0 ≤ C i ∧ C i < 18446744073709551616 := by rw [← h.cur]; exact h.vb.cur i
theorem fresh_scl {f : Nat → Int} (hf : ∀ i, 0 ≤ f i ∧ f i < 18446744073709551616) (j n : Nat) : SCl (Dev.fresh n f) j n f 0 :=
  ⟨⟨⟨rfl, rfl, rfl⟩, ⟨fun _ => rfl, fun _ => rfl⟩, fun o ho => by simp at ho, fun _ _ => rfl⟩, ⟨hf, fun l e he => by simp [Dev.fresh] at he⟩, Nat.le_refl _, rfl⟩
theorem SCl.stores (h : SCl D j n C x) {ws : List (Nat × Int)} (hw : ∀ e ∈ ws, e.1 % 8 = 0 ∧ e.1 < 64 * n) (hv : ∀ e ∈ ws, 0 ≤ e.2 ∧ e.2 < 18446744073709551616) :
    SCl (D.run j (storesL ws)) j n (fun i => look ws (C i) i) (x + (storesL ws).length) := by
  have hx := D.run_exec j (storesL ws)
  have := h.exec
  rw [stores_groups] at *
  rcases run_came h.grp (storesGs_ok hw) with ⟨h1, h2, _⟩ | ⟨_, _, _, _, _, _, _, _, h2, _⟩
  · have e : laidG C (storesGs ws) = fun i => look ws (C i) i := funext fun i => by rw [laidG_flat, storesGs_flat]
    rw [e] at h1
    exact ⟨h1, Dev.VB.run _ h.vb j (valP_groups (fun e he => by rw [storesGs_flat] at he; exact hv e he)), by omega, by rw [h2]; exact h.ar⟩
  · rw [h.ar] at h2; cases h2
end
theorem sbWs_bd {s : Sup} (hf : s.Fits) (i : Nat) : ∀ e ∈ sbWs s i, 0 ≤ e.2 ∧ e.2 < 18446744073709551616 := by
  obtain ⟨g1, g2, v1, v2, l1, l2, r1, r2, u1, u2, d1, d2, q1, q2, t1, t2⟩ := hf
  have h0 : ∀ q, q < 8 → (s.words.getD q 0) < 18446744073709551616 := fun q hq => by
    obtain rfl | rfl | rfl | rfl | rfl | rfl | rfl | rfl : q = 0 ∨ q = 1 ∨ q = 2 ∨ q = 3 ∨ q = 4 ∨ q = 5 ∨ q = 6 ∨ q = 7 := by omega
    · show 7738151121853964849 < 18446744073709551616; omega
    · show s.gen.toNat < 18446744073709551616; omega
    · show s.w2 < 18446744073709551616; unfold Sup.w2; omega
    · show s.w3 < 18446744073709551616; unfold Sup.w3; omega
    · show 0 < 18446744073709551616; omega
    · show 0 < 18446744073709551616; omega
    · show 0 < 18446744073709551616; omega
    · show 4294967296 + crcN s.first < 18446744073709551616
      have := crcN_lt s.first; omega
  intro e he
  unfold sbWs at he
  rcases List.mem_cons.1 he with rfl | he
  · simp
  · obtain ⟨k, hk, rfl⟩ := List.mem_map.1 he
    have := h0 k (List.mem_range.1 hk)
    simp only
    omega
/-- The words behind the program that writes copy i. -/
def prgC (s : Sup) (i : Nat) (C : Nat → Int) (x : Nat) : Int := look (sbWs s i) (C x) x
def ersC (C : Nat → Int) (x : Nat) : Int := look [(56, 0), (120, 0)] (C x) x
theorem prg_cp (s : Sup) (i : Nat) (C : Nat → Int) : cpW (prgC s i C) i = s.words ∧ ∀ q, q ≠ i → cpW (prgC s i C) q = cpW C q := by
  have h := cp_part s i 9 C (prgC s i C) (by omega) (fun x => by rw [List.take_of_length_le (by rw [sbWs_eq]; simp)]; rfl)
  exact ⟨h.2.2 rfl, h.1⟩
theorem ers_cp (C : Nat → Int) : (cpW (ersC C) 0).getD 7 0 = 0 ∧ (cpW (ersC C) 1).getD 7 0 = 0 := ⟨rfl, rfl⟩
section
variable {D : Dev} {C : Nat → Int} {j n x : Nat}
theorem SCl.prog (h : SCl D j n C x) {s : Sup} (hf : s.Fits) {i : Nat} (hi : i < n) : SCl (D.run j (sbP s i)) j n (prgC s i C) (x + 19) := by
  have := (h.stores (ws := sbWs s i) (fun e he => ⟨(sbWs_line s i n hi e he).1, (sbWs_line s i n hi e he).2.1⟩) (sbWs_bd hf i))
  exact this.mono (by have := sbP_len s i; show x + (sbP s i).length ≤ _; omega)
theorem SCl.format (h : SCl D j n C x) {s : Sup} (hf : s.Fits) (hn : 2 ≤ n) : SCl (D.run j (eraseP ++ sbP s 0)) j n (prgC s 0 (ersC C)) (x + 24) := by
  rw [Dev.run_append]
  have h1 := h.stores (ws := [(56, 0), (120, 0)]) (fun e he => by
    simp at he
    rcases he with rfl | rfl
    · exact ⟨rfl, by show 56 < 64 * n; omega⟩
    · exact ⟨rfl, by show 120 < 64 * n; omega⟩) (fun e he => by simp at he; rcases he with rfl | rfl <;> simp)
  exact (SCl.prog (h1.mono (y := x + 5) (by have := eraseP_len; show x + eraseP.length ≤ _; omega)) hf (by omega)).mono (by omega)
end
/-- Behind Format its superblock is the newest. -/
theorem new_format (s : Sup) (hk : s.Ok) (hg : 0 ≤ s.gen) (C : Nat → Int) {n : Nat} (hl : s.lin ≤ n) :
    cpG (prgC s 0 (ersC C)) n 1 = false ∧ cpG (prgC s 0 (ersC C)) n 0 = true ∧ newG (prgC s 0 (ersC C)) n = true ∧ newA (prgC s 0 (ersC C)) n = 0 ∧ newS (prgC s 0 (ersC C)) n = s := by
  obtain ⟨h0, h1⟩ := prg_cp s 0 (ersC C)
  have g1 : cpG (prgC s 0 (ersC C)) n 1 = false := by unfold cpG; rw [h1 1 (by omega)]; exact goodB_seven (ers_cp C).2
  have hw := goodB_words s hk hg hl
  have g0 : cpG (prgC s 0 (ersC C)) n 0 = true := by unfold cpG; rw [h0]; exact hw.1
  have hb : newB (prgC s 0 (ersC C)) n = false := by unfold newB; rw [g1]; rfl
  have ha : newA (prgC s 0 (ersC C)) n = 0 := by unfold newA; rw [hb]; rfl
  refine ⟨g1, g0, by unfold newG; rw [hb, g0]; rfl, ha, ?_⟩
  unfold newS cpS
  rw [ha, h0]; exact hw.2
theorem newG_good {C : Nat → Int} {n : Nat} (h : newG C n = true) : cpG C n (newA C n) = true := by
  unfold newG at h
  unfold newA
  cases hb : newB C n
  · rw [hb] at h; simpa using h
  · unfold newB at hb; simp only [Bool.and_eq_true] at hb; simpa using hb.1
/-- Words whose older copy is a superblock of a larger generation. -/
theorem new_update (s : Sup) (hk : s.Ok) (C F : Nat → Int) {n : Nat} (hl : s.lin ≤ n) (hG : newG C n = true) (hg : (newS C n).gen < s.gen) (h0 : 0 ≤ s.gen) (hn : cpW F (1 - newA C n) = s.words) (ho : cpW F (newA C n) = cpW C (newA C n)) :
    newG F n = true ∧ newS F n = s ∧ newA F n = 1 - newA C n := by
  have hgd := newG_good hG
  have hw := goodB_words s hk h0 hl
  have ha : newA C n = 0 ∨ newA C n = 1 := by unfold newA; split <;> simp
  unfold newS at hg
  rcases ha with ha | ha
  · rw [ha] at hgd hn ho hg ⊢
    have g1 : cpG F n 1 = true := by unfold cpG; rw [hn]; exact hw.1
    have s1 : cpS F n 1 = s := by unfold cpS; rw [hn]; exact hw.2
    have s0 : cpS F n 0 = cpS C n 0 := by unfold cpS; rw [ho]
    have hb : newB F n = true := by
      unfold newB
      rw [g1, s1, s0]
      simp [hg]
    have hA : newA F n = 1 := by unfold newA; rw [hb]; rfl
    exact ⟨by unfold newG; rw [hb]; rfl, by unfold newS; rw [hA]; exact s1, hA⟩
  · rw [ha] at hgd hn ho hg ⊢
    have g0 : cpG F n 0 = true := by unfold cpG; rw [hn]; exact hw.1
    have s0 : cpS F n 0 = s := by unfold cpS; rw [hn]; exact hw.2
    have s1 : cpS F n 1 = cpS C n 1 := by unfold cpS; rw [ho]
    have hb : newB F n = false := by
      unfold newB
      rw [g0, s1, s0]
      have : ¬ s.gen < (cpS C n 1).gen := by omega
      simp [this]
    have hA : newA F n = 0 := by unfold newA; rw [hb]; rfl
    exact ⟨by unfold newG; rw [hb, g0]; rfl, by unfold newS; rw [hA]; exact s0, hA⟩
end Go.Proofs.YtbpaamnofkhonaaDoor
