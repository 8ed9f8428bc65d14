/- The walks of slices.Clone at stores, of History and of examine: what the combinations of a device are made of. -/
import Derived.Test.YtahpadhejjlpoaaGreatDoorCsA
import Derived.Test.YtahpadhejjlpoaaGreatDoorDevP
namespace Go.Proofs.YtahpadhejjlpoaaGreatDoor
open Go.RowKit
attribute [local go_sem ↓] Go.wp_at_zero Go.wp_at_succ

section
variable {w : World} {v : DV} {own : Nat → Option Role} {D : Dev}
set_option maxRecDepth 100000 in
set_option maxHeartbeats 1000000 in
theorem clnW_any (a : Addr) (n c : Nat) (xs : List (Nat × Int)) (h : RdSl w 2 (.slice (some a) n c) n (flat xs)) (hn : n ≤ 4294967296) :
    Calls Tryz.prog 167 #[.slice (some a) n c] w fun r w' => ∃ g cap, r = .returned (.slice (some ⟨g, 0, none⟩) n cap) ∧ OwnSl w' 152 2 (.slice (some ⟨g, 0, none⟩) n cap) n (flat xs) ∧ w.heap.size ≤ g ∧ Below w.heap.size w w' := by
  obtain ⟨i0, hi, hz0, hz1, hz2⟩ := info_parts infoWrite
  have I := Lib.hid (And.intro hi (And.intro hz0 (And.intro hz1 hz2))); clear hi hz0 hz1 hz2
  have H := Lib.hid h; have H1 := Lib.hid (flat_one xs); clear h
  generalize flat xs = fx at *
  have hq := fun wx => Lib.run_eql_slice_nil (P := Tryz.prog) wx 82 152 (some a) n c 0 0 Tryz.underlying82
  go_enter Tryz.func167, Tryz.ntmps167
  go_wp2_with (at_builtin; refine wpList_append_sl _ rfl _ _ 82 rfl 152 i0 _ 2 16 Tryz.underlying82 I.out.1 I.out.2.1 I.out.2.2.1 I.out.2.2.2 rfl (by decide) _ 0 [] rfl ?h0 _ n fx rfl ?h1 ?h2 ?h3 ?h4 ?_)
  case h0 => exact OwnSl.new _ _ _ 2 0 0 rfl (Nat.le_refl _) (Nat.zero_le _)
  case h1 => exact H.out.alloc _
  case h2 => exact H1.out
  case h3 => unfold maxLen; omega
  case h4 => omega
  intro v' w1 o1 g1 b1 n1
  have O1 := Lib.hid o1; have G1 := Lib.hid g1; have B1 := Lib.hid b1; clear o1 g1 b1 n1
  go_wp2
  go_ret
  have hb : Below w.heap.size w w1 := ((Below.refl _ _).alloc (Nat.le_refl _) _).grown G1.out (by simp) (fun k hk => by cases hk; exact Nat.le_refl _)
  obtain ⟨a', c', hv⟩ := O1.out.slice
  have O2 := O1.out
  have B2 := B1.out
  rw [hv] at O2 B2
  rcases B2 with h | h
  · simp only [slAddr] at h
    subst h
    exact ⟨w.heap.size, c', by rw [← hv]; rfl, O2, Nat.le_refl _, hb⟩
  · simp only [slAddr] at h
    subst h
    exact ⟨w.heap.size + 1, c', by rw [← hv]; rfl, O2, Nat.le_succ _, hb⟩
end
end Go.Proofs.YtahpadhejjlpoaaGreatDoor

/- The state of device.Copy: a device and a copy of it that is being made. -/
namespace Go.Proofs.YtahpadhejjlpoaaGreatDoor
open Go.RowKit Go.Maps

section
variable {w0 w w1 : World} {v v' : DV} {own own' : Nat → Option Role} {D : Dev} {kl kt kn : Nat}
theorem clnW_nil : Calls Tryz.prog 167 #[.slice none 0 0] w fun r w' => r = .returned (.slice none 0 0) ∧ w = w' := by
  have hq := fun wx => Lib.run_eql_slice_nil (P := Tryz.prog) wx 82 152 none 0 0 0 0 Tryz.underlying82
  go_enter Tryz.func167, Tryz.ntmps167
  go_wp2
  go_ret
  exact ⟨rfl, rfl⟩
theorem clnHist (hv : Value) (xs : List (Nat × Int)) (h : OwnSl w 152 2 hv xs.length (flat xs)) (hn : xs.length ≤ 4294967296) :
    Calls Tryz.prog 167 #[hv] w fun r w' => ∃ sv, r = .returned sv ∧ OwnSl w' 152 2 sv xs.length (flat xs) ∧ (∀ g, sv.ownBlock = some g → w.heap.size ≤ g) ∧ Below w.heap.size w w' := by
  rcases h.2 with ⟨rfl, e⟩ | ⟨g, o, cap, cur, rfl, _⟩
  · refine clnW_nil.mono ?_
    rintro r w' ⟨rfl, rfl⟩
    exact ⟨_, rfl, h, fun g hg => by simp [Value.ownBlock] at hg, Below.refl _ _⟩
  · refine (clnW_any ⟨g, o, none⟩ xs.length cap xs h.rd hn).mono ?_
    rintro r w' ⟨g2, cap2, rfl, h1, h2, h3⟩
    exact ⟨_, rfl, h1, fun g hg => by simp [Value.ownBlock] at hg; omega, h3⟩
set_option maxRecDepth 100000 in
set_option maxHeartbeats 1000000 in
theorem hist_any (h : IsDev w v own D) (l : Nat) (hl : l < D.n) (hx : D.exec < 4294967296) : Calls Tryz.prog 108 #[.pointer (some ⟨v.db, 0, none⟩), .int .i64 l] w fun r w' => ∃ sv, r = .returned sv ∧ OwnSl w' 152 2 sv (D.hist l).length (flat (D.hist l)) ∧ (∀ g, sv.ownBlock = some g → w.heap.size ≤ g) ∧ Below w.heap.size w w' := by
  have hd2 : w.cell? ⟨v.db, 2, none⟩ = some (.slice (some ⟨v.lb, 0, none⟩) D.n D.n) := h.dev.cell rfl
  obtain ⟨hv, l1, l2⟩ := line_at h
  have hh := (l2 l hl).1
  have hn : (D.hist l).length ≤ 4294967296 := by have := h.wf.cnt l hl; omega
  have HC := Lib.hid (clnHist (hv l) (D.hist l) hh hn)
  obtain ⟨ha, hc, hve⟩ := hh.slice
  have c1 := (l1 l hl).2
  rw [hve] at c1 HC
  have hl1 : (l : Int) < D.n := by omega
  have hl2 : ¬ (l : Int) < 0 := by omega
  have hl3 : ¬ (D.n : Int) ≤ (l : Int) := by omega
  clear l1 l2 hh h
  go_enter Tryz.func108, Tryz.ntmps108
  go_wp2_with fail
  (with_reducible refine HC.out.mono ?_)
  rintro r w1 ⟨sv, rfl, h1, h2, h3⟩
  have HH := Lib.hid (And.intro h1 (And.intro h2 h3))
  clear h1 h2 h3
  go_wp2_with fail
  go_ret
  exact ⟨_, rfl, HH.out⟩
end
end Go.Proofs.YtahpadhejjlpoaaGreatDoor
