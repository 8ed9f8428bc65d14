/- The walks of the reference's device: put, Store. -/
import Derived.Test.YtoakngofgkkpnaaR3A
namespace Go.Proofs.Ytoakngofgkkpnaa
open Go.RowKit
attribute [local go_sem ↓] Go.wp_at_zero Go.wp_at_succ

section
variable {w : World} {D : Dev} {rb lb : Nat} {hv : Nat → Value} {nv : Value} {ns : List (Nat × Nat)}
theorem acc_empty (w : World) (e : TypeId) (size : Nat) : Acc w w.heap.size (w.alloc (.cells #[] e)) e size (.slice (some ⟨w.heap.size, 0, none⟩) 0 0) 0 [] :=
  ⟨by have := OwnSl.new w #[] e size 0 0 (by simp) (Nat.le_refl _) (Nat.zero_le _); simpa using this, fun g hg => by simp [Value.ownBlock] at hg; omega, below_alloc w _, by simp⟩
theorem upd_set {w1 : World} {rb lb : Nat} (h : Below w.heap.size w w1) (a : Addr) (ha : Two rb lb a.block) (u : Value) : Upd (Two rb lb) w (w1.setCell a u) :=
  (Upd.of_below h).setCell (fun _ => ha) u
/-- A line's history is replaced by new cells. -/
theorem R3.newHist (h : R3 w D rb lb hv nv ns) {l : Nat} (_hl : l < D.n) {w1 : World} {v1 : Value} {hs : List (Nat × Int)} {D' : Dev} (ha : Acc w w.heap.size w1 146 2 v1 hs.length (flat hs))
    (hn : D'.n = D.n) (he : D'.exec = D.exec) (hp : D'.pers = D.pers) (hdn : D'.done = D.done) (hh : D'.hist l = hs) (ho : ∀ m, m ≠ l → D'.hist m = D.hist m) (hno : D'.note = D.note) (hup : D'.Up) :
    R3 (w1.setCell ⟨lb, l * 10 + 8, none⟩ v1) D' rb lb (fun m => if m = l then v1 else hv m) nv ns := by
  have hrl := h.row.lt
  have hdl := h.dev.lt
  have hwn : ∀ g, v1.ownBlock = some g → g ≠ rb ∧ g ≠ lb := fun g hg => by have := ha.new g hg; omega
  refine h.line (l := l) hn he (upd_set ha.bel ⟨lb, l * 10 + 8, none⟩ (Or.inr rfl) v1) ((h.dev.below ha.bel).other h.ne _) ?_ (fun m hm => ⟨if_neg hm, ho m hm⟩) ?_ ?_ hno hup
  · refine ((h.row.below ha.bel).set (l * 10 + 8) v1).congr (fun i hi => ?_)
    unfold ln3
    rw [hp, hdn]
    by_cases e : i = l * 10 + 8
    · subst e
      rw [if_pos rfl, show (l * 10 + 8) % 10 = 8 by omega, show (l * 10 + 8) / 10 = l by omega, if_neg (by omega), if_pos rfl]
      exact (if_pos rfl).symm
    · rw [if_neg e]
      by_cases e1 : i % 10 < 8
      · rw [if_pos e1, if_pos e1]
      · rw [if_neg e1, if_neg e1]
        by_cases e2 : i % 10 = 8
        · rw [if_pos e2, if_pos e2]
          exact (if_neg (by omega)).symm
        · rw [if_neg e2, if_neg e2]
  · simp only [if_pos]
    rw [hh]
    exact (ha.own.other (fun k hk => (hwn k hk).2) _).rd
  · simp only [if_pos]; exact hwn
set_option maxRecDepth 100000 in
set_option maxHeartbeats 4000000 in
theorem r3put_any (h : R3 w D rb lb hv nv ns) (off : Nat) (x : Int) (hl : off < 64 * D.n) (hb : (D.hist (off / 64)).length < 1000000000) (hup : (D.put off x).Up) :
    Calls Try.prog 46 #[.pointer (some ⟨rb, 0, none⟩), .int .u64 off, .int .u64 x] w fun r w' => r = .returned (.tuple #[]) ∧ ∃ hv', R3 w' (D.put off x) rb lb hv' nv ns ∧ Upd (Two rb lb) w w' := by
  have hn := h.up.wf.le
  obtain ⟨i0, hi0, hz0, hz1, hz2⟩ := info_parts infoR3Write
  have I := Lib.hid (And.intro hi0 (And.intro hz0 (And.intro hz1 hz2))); clear hi0 hz0 hz1 hz2
  obtain ⟨l, hll⟩ : ∃ l, off / 64 = l := ⟨_, rfl⟩
  have g1 : (off : Int) / 64 = (l : Int) := by omega
  have hln : l < D.n := by omega
  have hln' : (l : Int) < D.n := by omega
  rw [hll] at hb
  have c0 : w.cell? ⟨rb, 0, none⟩ = some (.slice (some ⟨lb, 0, none⟩) D.n D.n) := h.dev.cell rfl
  have ck := (h.at hln).2.1
  have HR := Lib.hid (h.hist l hln).1
  have hlb := h.row.lt
  have H := Lib.hid h; have HU := Lib.hid hup
  have HP : Hid ((D.put off x).hist l = D.hist l ++ [(off, x)] ∧ ∀ m, m ≠ l → (D.put off x).hist m = D.hist m) := by
    refine ⟨?_, fun m hm => ?_⟩
    · simp only [Dev.put]; rw [if_pos hll.symm]
    · simp only [Dev.put]; rw [if_neg (by omega)]
  have A0 := Lib.hid (acc_empty w 146 2)
  have HF1 := Lib.hid (flat_one (D.hist l))
  have HFA : Hid (∀ v (w1 : World), Acc w w.heap.size w1 146 2 v ((D.hist l).length + 1) (flat (D.hist l) ++ [.int .u64 off, .int .u64 x]) → Acc w w.heap.size w1 146 2 v (D.hist l ++ [(off, x)]).length (flat (D.hist l ++ [(off, x)]))) := fun v w1 ha => ha.congr (by simp) (by rw [flat_append]; rfl)
  clear h hup hll
  generalize hD' : D.put off x = D' at *
  have HD : Hid (D'.n = D.n ∧ D'.exec = D.exec ∧ D'.pers = D.pers ∧ D'.done = D.done ∧ D'.note = D.note) := by subst hD'; exact ⟨rfl, rfl, rfl, rfl, rfl⟩
  clear hD'
  generalize hhl : D.hist l = hs at *
  clear hhl
  go_enter Try.func46, Try.ntmps46
  go_wp2_with (at_builtin; refine wpList_append_sl _ rfl _ _ 84 rfl 146 i0 _ 2 16 Try.underlying84 I.out.1 I.out.2.1 I.out.2.2.1 I.out.2.2.2 rfl (by decide) _ 0 [] rfl (by exact A0.out.own) _ hs.length (flat hs) rfl (by exact HR.out.alloc _) HF1.out (by unfold maxLen; omega) (by omega) ?_)
  intro v1 w1 o1 g1 b1 n1
  have A1 : Hid (Acc w w.heap.size w1 146 2 v1 hs.length (flat hs)) := by
    have h0 := A0.out.next (Below.refl _ _) (m := hs.length) (news := flat hs) (by rw [Nat.zero_add, List.nil_append]; exact o1) g1 b1 (by simp)
    exact h0.congr (by simp) (by simp)
  clear o1 g1 b1 n1 A0
  obtain ⟨va, vc, rfl⟩ := A1.out.slice
  go_wp2_with (at_builtin; refine wpList_append_sl _ rfl _ _ 84 rfl 146 i0 _ 2 16 Try.underlying84 I.out.1 I.out.2.1 I.out.2.2.1 I.out.2.2.2 rfl (by decide) _ hs.length (flat hs) rfl (by exact A1.out.own.alloc _) _ 1 [.int .u64 off, .int .u64 x] rfl (by exact RdSl.newAt _ _ _ 2 1 _ rfl rfl) (by intro u hu; simp at hu; rcases hu with rfl | rfl <;> rfl) (by unfold maxLen; omega) (by omega) ?_)
  intro v2 w2 o2 g2 b2 n2
  have A2 := Lib.hid (A1.out.next (below_alloc _ _) o2 g2 b2 (by simp))
  clear o2 g2 b2 n2
  obtain ⟨va2, vc2, rfl⟩ := A2.out.slice
  obtain ⟨k2, c2⟩ := And.intro ((H.out.keep A2.out.bel).at hln).2.1 ((H.out.keep A2.out.bel).row.frozen (l * 10 + 8))
  have hlb2 := (H.out.keep A2.out.bel).row.lt
  go_wp2_with fail
  go_end0
  exact ⟨rfl, _, H.out.newHist hln (HFA.out _ _ A2.out) HD.out.1 HD.out.2.1 HD.out.2.2.1 HD.out.2.2.2.1 HP.out.1 HP.out.2 HD.out.2.2.2.2 HU.out, upd_set A2.out.bel ⟨lb, l * 10 + 8, none⟩ (Or.inr rfl) _⟩
set_option maxHeartbeats 1000000 in
theorem r3Store_any (h : R3 w D rb lb hv nv ns) (off : Nat) (x : Int) (h8 : off % 8 = 0) (hl : off < 64 * D.n) (hx : 0 ≤ x ∧ x < 18446744073709551616) (he : D.exec < 100000000) :
    Calls Try.prog 26 #[.pointer (some ⟨rb, 0, none⟩), .int .i64 0, .int .u64 off, .int .u64 x] w fun r w' => r = .returned (.tuple #[]) ∧ ∃ hv', R3 w' (D.store 0 off x) rb lb hv' nv ns ∧ Upd (Two rb lb) w w' := by
  have hc := h.up.wf.cnt (off / 64) (by omega)
  have HI := Lib.hid (r3Is_any h off h8 hl)
  have HC := Lib.hid (r3counted_any h (by omega))
  have HP := Lib.hid (r3put_any h.exec off x hl (by show (D.hist (off / 64)).length < 1000000000; omega) (h.up.put h8 hl hx))
  rw [h.up.store x h8 hl]
  have U : Hid (Upd (Two rb lb) w (w.setCell ⟨rb, 19, none⟩ (.int .u64 ((D.exec : Int) + 1)))) := Lib.hid ((Upd.refl _ _).setCell (fun _ => Or.inl rfl) _)
  clear h hc
  go_enter Try.func26, Try.ntmps26
  go_wp2_with fail
  (with_reducible refine HI.out.mono ?_)
  rintro r w1 ⟨rfl, rfl⟩
  go_wp2_with fail
  (with_reducible refine HC.out.mono ?_)
  rintro r w2 ⟨rfl, rfl⟩
  go_wp2_with fail
  (with_reducible refine HP.out.mono ?_)
  rintro r w3 ⟨rfl, hv', h1, h2⟩
  have X := Lib.hid (And.intro h1 (U.out.trans h2 (fun _ _ h => h)))
  clear h1 h2
  go_wp2_with fail
  go_end0
  exact ⟨rfl, hv', X.out.1, X.out.2⟩
end
end Go.Proofs.Ytoakngofgkkpnaa
