/- The law's made and awake of layer 14. -/
import Derived.Test.YtmfchlliechikaaGreatDoorRtV
import Derived.Test.YtmfchlliechikaaGreatDoorDevN
namespace Go.Proofs.YtmfchlliechikaaGreatDoor
open Go.RowKit Go.Maps
attribute [local go_sem ↓] Go.wp_at_zero Go.wp_at_succ

theorem look_zero (l : List (Nat × Int)) (i : Nat) (h : ∀ e ∈ l, e.2 = 0) : look l 0 i = 0 := by
  rcases look_may l 0 i with h1 | ⟨e, he, _, h2⟩
  · exact h1
  · rw [h2]; exact h e he
theorem fmt_zero (off i : Nat) : look (fmtL off) 0 i = 0 := look_zero _ i fun e he => by
  unfold fmtL at he
  obtain ⟨x, _, rfl⟩ := List.mem_map.1 he
  rfl
def W0 : Nat → Nat := fun _ => 0
theorem opnE_W0 : opnE W0 = 0 := by decide +kernel
section
variable {w : World}
/-- A block that a device does not own lies behind it. -/
theorem own_no {wc : World} {v : DV} {own : Nat → Option Role} {D : Dev} {k : Nat} (h : IsDev wc v own D) (hk : wc.heap.size ≤ k) : own k = none := by
  cases ho : own k with
  | none => rfl
  | some r => have := h.lt k (by rw [ho]; simp); omega
theorem fmt_cl : SCl ((Dev.fresh 20 (fun _ => 0)).run 0 (fmtP 192)) 0 20 (fun i => look (fmtL 192) 0 i) 33 := by
  have h0 := fresh_scl (f := fun _ => 0) (fun _ => by omega) 0 20
  have h1 := h0.stores (ws := fmtL 192) (fun e he => by
    unfold fmtL at he
    obtain ⟨x, hx, rfl⟩ := List.mem_map.1 he
    have := List.mem_range.1 hx
    show (192 + 32 * x + 24) % 8 = 0 ∧ 192 + 32 * x + 24 < _
    omega) (fun e he => by
    unfold fmtL at he
    obtain ⟨x, hx, rfl⟩ := List.mem_map.1 he
    show (0 : Int) ≤ 0 ∧ (0 : Int) < _
    omega)
  exact h1.mono (by have := fmtP_len 192; show 0 + (fmtP 192).length ≤ 33; omega)
set_option maxRecDepth 100000 in
set_option maxHeartbeats 4000000 in
theorem made14 (hN : Nib w) : Calls Tryz.prog 13 #[] w fun r w' => ∃ v own D b, r = .returned (.tuple #[.pointer (some ⟨v.db, 0, none⟩), .pointer (some ⟨b, 0, none⟩)]) ∧ RtSt w v own D b W0 33 w' ∧ w.heap.size ≤ b := by
  have HNB := Lib.hid hN
  have hnew := fun (wx : World) => new_any (w := wx) 20 (by omega) (by omega)
  rw [show ((20 : Nat) : Int) = 20 from rfl] at hnew
  have HNW := Lib.hid hnew
  have hfm := fun (wx : World) (v : DV) (own : Nat → Option Role) (hd : IsDev wx v own (Dev.fresh 20 (fun _ => 0))) => rtFormat_any (j := 0) hd (by omega) 3 (show 3 + 8 ≤ 20 by omega) rfl (show (0 : Nat) + 100000 < 4294967296 by omega)
  have hcl := fmt_cl
  rw [show 64 * 3 = 192 from rfl, hcl.grp.on.err, show ((3 : Nat) : Int) = 3 from rfl] at hfm
  have hop := fun (wx : World) (v : DV) (own : Nat → Option Role) (hn : Nib wx) (hd : IsDev wx v own ((Dev.fresh 20 (fun _ => 0)).run 0 (fmtP 192))) => rtOpen_any (W := W0) hd hn (j := 0) (by omega) 3 hcl.grp.on.off hcl.grp.on.err
    ⟨rfl, by rw [hcl.grp.on.n]; decide, fun i _ => by rw [hcl.cur]; exact fmt_zero 192 _, fun _ => by show 0 < _; omega⟩
  rw [show 64 * 3 = 192 from rfl, show ((3 : Nat) : Int) = 3 from rfl] at hop
  have HFM := Lib.hid hfm; have HOP := Lib.hid hop
  have HCL : Hid (∃ C, SCl ((Dev.fresh 20 (fun _ => 0)).run 0 (fmtP 192)) 0 20 C 33 ∧ ∀ i, i < 64 → C (24 + i) = (W0 i : Nat)) := ⟨_, hcl, fun i _ => fmt_zero 192 _⟩
  have HE0 := Lib.hid opnE_W0
  generalize (Dev.fresh 20 (fun _ => 0)).run 0 (fmtP 192) = D1 at *
  generalize Dev.fresh 20 (fun _ => 0) = D0 at *
  clear hN hnew hfm hop hcl
  go_enter Tryz.func13, Tryz.ntmps13
  go_wp2_with fail
  (with_reducible refine (HNW.out _).mono ?_)
  rintro r w1 ⟨v, own, rfl, d1, o1, b1⟩
  have H1 := Lib.hid (And.intro d1 (And.intro o1 b1))
  clear d1 o1 b1
  go_wp2_with fail
  (with_reducible refine (thread0_any H1.out.1).mono ?_)
  rintro r w' ⟨rfl, rfl⟩
  go_wp2_with fail
  (with_reducible refine (HFM.out _ _ _ H1.out.1).mono ?_)
  rintro r w2 ⟨rfl, p2⟩
  obtain ⟨own2, d2, o2, b2⟩ := p2.from H1.out.2.1 H1.out.2.2.size
  have H2 := Lib.hid (And.intro d2 (And.intro o2 (H1.out.2.2.trans b2)))
  clear p2 d2 o2 b2 H1
  go_wp2_with fail
  (with_reducible refine (thread0_any H2.out.1).mono ?_)
  rintro r w' ⟨rfl, rfl⟩
  go_wp2_with fail
  (with_reducible refine (HOP.out _ _ _ (HNB.out.below H2.out.2.2) H2.out.1).mono ?_)
  rintro r w3 (⟨h0, _⟩ | ⟨_, rfl, dir, b3⟩)
  · exact absurd HE0.out h0
  · have H3 : Hid (RtSt w v own2 D1 w2.heap.size W0 33 w3) := ⟨H2.out.1.below b3, H2.out.2.1, H2.out.2.2.trans (b3.mono H2.out.2.2.size), HCL.out, fun _ => by show 0 < _; omega, dir, own_no H2.out.1 (Nat.le_refl _)⟩
    have HB := Lib.hid H2.out.2.2.size
    clear dir b3
    go_wp2_with fail
    go_ret2
    exact ⟨v, own2, D1, w2.heap.size, rfl, H3.out, HB.out⟩
end
end Go.Proofs.YtmfchlliechikaaGreatDoor
