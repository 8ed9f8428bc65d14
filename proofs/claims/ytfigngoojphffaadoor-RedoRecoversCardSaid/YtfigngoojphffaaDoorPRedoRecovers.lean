/- RedoRecovers returns true for every input: Recover applies exactly the writes of a committed log, persistently, and leaves idle and damaged logs alone; a log that is not idle takes no commit. No condition besides. -/
import Derived.Test.YtfigngoojphffaaDoorRdoU
import Derived.Test.YtfigngoojphffaaDoorCardR
import Derived.Test.YtfigngoojphffaaDoorCards
import Derived.Lib.SmallJoins
import Derived.SevenTiedAt
namespace Go.Proofs.YtfigngoojphffaaDoor
open Go.RowKit Go.Maps
attribute [local go_sem ↓] Go.wp_at_zero Go.wp_at_succ

section
variable {w1 wc wd : World} {v : DV} {lb y : Nat} {D : Dev} {own : Nat → Option Role}
theorem current40 (h : IsDev wc v own D) (hn : D.n = 40) (hvb : D.VB) : Calls Tryd.prog 12 #[.pointer (some ⟨v.db, 0, none⟩)] wc
    fun r w' => r = .returned (.slice (some ⟨wc.heap.size, 0, none⟩) 2560 2560) ∧ BRow w' wc.heap.size D.cur ∧ Below wc.heap.size wc w' := by
  have := current_any h hvb
  unfold BytesPost at this
  rw [hn] at this
  exact this
theorem persisted40 (h : IsDev wc v own D) (hn : D.n = 40) (hvb : D.VB) : Calls Tryd.prog 35 #[.pointer (some ⟨v.db, 0, none⟩)] wc
    fun r w' => r = .returned (.slice (some ⟨wc.heap.size, 0, none⟩) 2560 2560) ∧ BRow w' wc.heap.size D.pers ∧ Below wc.heap.size wc w' := by
  have := persisted_any h hvb
  unfold BytesPost at this
  rw [hn] at this
  exact this
abbrev ws7 : List (Nat × Int) := [(0, 7)]
theorem ws7_ok : WOk ws7 := ⟨by decide, by decide, by decide⟩
theorem ws7_last : lastL ws7 = ws7 := by decide
/-- Commit of one write, on any log. -/
theorem commit7 (h : RSt w1 v own D lb 0 320 1664 wc) (hN : Nib wc) (hr : Rv D y) (hy : y < 1000000) (u : Value) (hu : RdSl wc 2 u 1 (flat ws7)) :
    Calls Tryd.prog 16 #[.pointer (some ⟨lb, 0, none⟩), u] wc fun r w' => (D.cur 40 = 0 ∧ r = .returned (.int .i64 0) ∧ ∃ own', RSt w1 v own' (D.run 0 (rPlanP 320 ws7)) lb 0 320 1664 w') ∨
      (D.cur 40 ≠ 0 ∧ r = .returned (.int .i64 8) ∧ Below wc.heap.size wc w') := by
  have hP := rdPlan_live hN h.log hr.on.off hr.on.err hr.vb u ws7 hu (by decide) (by decide) (by rw [hr.on.n]; decide)
  rw [ws7_last] at hP
  refine (rdCommit_of h.log u ws7 (by have := hr.exec; omega) (by decide) hP).mono ?_
  rintro r w' (⟨h1, _⟩ | ⟨_, h1, h2, h3⟩ | ⟨_, h1, h2, h3⟩)
  · exact absurd h1 (by decide)
  · exact .inr ⟨h1, h2, h3⟩
  · obtain ⟨own', l', _⟩ := h.stepM (run_n 0 _ D) h3
    rw [(hr.commit ws7_ok).on.err] at h2
    exact .inl ⟨h1, h2, own', l'⟩
/-- Recover of any log on a device that is on. -/
theorem recov7 (h : RSt w1 v own D lb 0 320 1664 wc) (hN : Nib wc) (hr : Rv D y) (hy : y < 1000000) :
    Calls Tryd.prog 34 #[.pointer (some ⟨lb, 0, none⟩)] wc fun r w' => ((lk D.cur).1 = 1 ∧ r = .returned (.tuple #[.int .i64 0, .int .i64 0]) ∧ Below wc.heap.size wc w') ∨
      ((lk D.cur).1 = 3 ∧ r = .returned (.tuple #[.int .i64 0, .int .i64 10]) ∧ Below wc.heap.size wc w') ∨
      ((lk D.cur).1 = 2 ∧ r = .returned (.tuple #[.int .i64 (lk D.cur).2.length, .int .i64 0]) ∧ ∃ own', RSt w1 v own' (D.run 0 (rFinP 320 (lk D.cur).2)) lb 0 320 1664 w' ∧ Mv own own' wc w') := by
  have hP := rdRecover_any hN h.log hr.on.off hr.on.err hr.vb (by have := hr.exec; omega)
  rw [hr.on.n] at hP
  refine hP.mono ?_
  rintro r w' (⟨h1, h2, h3⟩ | ⟨h1, h2, h3⟩ | ⟨h1, h2, h3⟩)
  · exact .inl ⟨h1, h2, h3⟩
  · exact .inr (.inl ⟨h1, h2, h3⟩)
  · obtain ⟨own', l', m'⟩ := h.stepM (run_n 0 _ D) h2
    have h1' : (lk D.cur).1 = 2 := h1
    have he := (hr.recov (W := (lk D.cur).2) (by rw [← h1'])).1.on.err
    rcases h3 with ⟨_, h3⟩ | ⟨h3, _⟩
    · exact .inr (.inr ⟨h1, h3, own', l', m'⟩)
    · exact absurd he h3
theorem lk_one {C : Nat → Int} (hC : ∀ i, 0 ≤ C i ∧ C i < 18446744073709551616) : (lk C).1 = 1 ↔ C 40 = 0 := by
  constructor
  · intro h
    obtain ⟨c, hc⟩ : ∃ c, (C 40).toNat = c := ⟨_, rfl⟩
    rw [lk_eq C hc] at h
    have := hC 40
    by_cases h0 : c = 0
    · omega
    · rw [if_neg h0] at h
      repeat' split at h
      all_goals cases h
  · intro h; rw [lk_zero h]
/-- What stands beside the device: the words of before, the log's writes. -/
structure Rz (w : World) (v : DV) (lb go : Nat) (D : Dev) (C : Nat → Int) (ov : Value) (n : Nat) (W : List (Nat × Int)) (own : Nat → Option Role) (wc : World) : Prop where
  st : RSt w v own D lb 0 320 1664 wc
  ro : BRow wc go C
  fo : own go = none
  rd : RdSl wc 2 ov n (flat W)
  fr : ∀ k, ov.ownBlock = some k → own k = none ∧ k < wc.heap.size
theorem Rz.next {w : World} {go n : Nat} {C : Nat → Int} {ov : Value} {W : List (Nat × Int)} (h : Rz w v lb go D C ov n W own wc) (hb : Below wc.heap.size wc wd) : Rz w v lb go D C ov n W own wd :=
  ⟨h.st.next hb, h.ro.below hb, h.fo, h.rd.below hb, fun k hk => ⟨(h.fr k hk).1, Nat.lt_of_lt_of_le (h.fr k hk).2 hb.size⟩⟩
theorem Rz.step {w : World} {go n : Nat} {C : Nat → Int} {ov : Value} {W : List (Nat × Int)} {own' : Nat → Option Role} {D' : Dev} (h : Rz w v lb go D C ov n W own wc) (l : RSt w v own' D' lb 0 320 1664 wd) (m : Mv own own' wc wd) : Rz w v lb go D' C ov n W own' wd :=
  ⟨l, h.ro.upd m.upd (by simpa using h.fo), by rw [m.old go h.ro.lt]; exact h.fo, h.rd.upd m.upd (fun k hk => by simpa using (h.fr k hk).1),
    fun k hk => ⟨by rw [m.old k (h.fr k hk).2]; exact (h.fr k hk).1, Nat.lt_of_lt_of_le (h.fr k hk).2 m.upd.size⟩⟩
end
section
variable {w : World}
set_option maxRecDepth 100000 in
set_option maxHeartbeats 16000000 in
theorem redoRecovers_any (hN : Nib w) (hW : Wr w) (lv sv : Value) (l : List (Nat × Int)) (m : Nat) (xs : List Value) (hs : RdSl w 2 lv l.length (pairC l)) (hb : ∀ e ∈ l, e.1 < 256 ∧ 0 ≤ e.2 ∧ e.2 < 18446744073709551616) (hl : l.length ≤ maxLen)
    (hx : RdSl w 3 sv m xs) (hm : m ≤ maxLen) (hxs : ∀ i, i < m → SpAt xs i) :
    Calls Tryd.prog 7 #[lv, sv] w fun r w' => r = .returned (.bool true) ∧ Below w.heap.size w w' := by
  have HNB := Lib.hid hN; have HWR := Lib.hid hW; clear hN hW
  have HLG := Lib.hid (fun (wx : World) (hb' : Below w.heap.size w wx) => l15logged_any (HNB.out.below hb') (HWR.out.below hb') lv sv l m xs (hs.below hb') hb hl (hx.below hb') hm hxs)
  clear hs hx hb hl hm hxs
  go_enter Tryd.func7, Tryd.ntmps7
  go_wp2_with fail
  (with_reducible refine (awake15 HNB.out).mono ?_)
  rintro e w1 ⟨rfl, b1⟩
  have B1 := Lib.hid b1; clear b1
  go_wp2_with fail
  (with_reducible refine (HLG.out _ B1.out).mono ?_)
  rintro e w2 ⟨v, own, lb, D, wa, wc, rfl, l2, r2, k2⟩
  have L2 := Lib.hid l2; have R2 := Lib.hid r2; have K2 := Lib.hid k2
  clear l2 r2 k2 HLG
  go_wp2_with fail
  (with_reducible refine (current40 L2.out.log.dev R2.out.on.n R2.out.vb).mono ?_)
  rintro e w3 ⟨rfl, r3, b3⟩
  have L3 := Lib.hid (L2.out.next b3); have K3 := Lib.hid (K2.out.next b3); have O3 := Lib.hid r3
  have HFO := Lib.hid (own_none (k := w2.heap.size) L2.out.log.dev (Nat.le_refl _))
  clear b3 r3 L2 K2
  generalize w2.heap.size = go at *
  have HRL := Lib.hid (r15Look_any D.cur R2.out.vb.cur _ K3.out.rd)
  have W3 := Lib.hid (HWR.out.below (B1.out.trans (L3.out.bel.mono B1.out.size)))
  have hg0 := W3.out.c0; have hg1 := W3.out.c1; have hg2 := W3.out.c2
  have hst := lk_state D.cur
  have hsh := lk_short D.cur
  have HON := Lib.hid (lk_one R2.out.vb.cur)
  have HRC := Lib.hid (fun (wx : World) (h : RSt w1 v own D lb 0 320 1664 wx) => recov7 (wc := wx) h (HNB.out.below (B1.out.trans (h.bel.mono B1.out.size))) R2.out (by omega))
  have HTW := Lib.hid (fun h : (lk D.cur).1 = 2 => R2.out.recov (W := (lk D.cur).2) (by rw [← h]))
  have HWK := Lib.hid (fun h : (lk D.cur).1 = 2 => (lk_two (W := (lk D.cur).2) R2.out.vb.cur (by rw [← h])).1)
  generalize (lk D.cur).1 = s at *
  generalize (lk D.cur).2 = W at *
  obtain ⟨n, hn⟩ : ∃ n, W.length = n := ⟨_, rfl⟩
  rw [hn] at HRL hsh HRC
  have HN := Lib.hid hn; clear hn
  go_wp2_with fail
  (with_reducible refine HRL.out.mono ?_)
  rintro e w4 ⟨ov, rfl, q4, b4, f4⟩
  obtain ⟨_, oa, oc, rfl, hoc, _⟩ := id q4
  have Z4 : Hid (Rz w1 v lb go D D.cur (.slice oa n oc) n W own w4) := ⟨L3.out.next b4, O3.out.below b4, HFO.out, q4, fun k hk => ⟨own_none L3.out.log.dev (f4 k hk).1, (f4 k hk).2⟩⟩
  have HCM := Lib.hid (fun (wx : World) (h : RSt w1 v own D lb 0 320 1664 wx) (u : Value) (hu : RdSl wx 2 u 1 (flat ws7)) => commit7 (wc := wx) h (HNB.out.below (B1.out.trans (h.bel.mono B1.out.size))) R2.out (by omega) u hu)
  clear q4 b4 f4 HRL L3 K3 O3 W3 hg0 hg1 hg2
  have HC4 := Lib.hid (HCM.out (w4.alloc (.cells #[.int .u64 0, .int .u64 7] 67)) (Z4.out.st.next (below_alloc _ _)) (.slice (some ⟨w4.heap.size, 0, none⟩) 1 1) (by exact RdSl.new w4 _ _ 2 1 rfl))
  have HSTR := Lib.hid (fun (wx : World) (h : Rz w1 v lb go D D.cur (.slice oa n oc) n W own wx) => conv_row (w := wx) (g := go) (c := 2560) (a := 0) (n := 2560) (f := D.cur) h.ro (by omega))
  have HST2 := Lib.hid (fun (wx : World) (g : Nat) (h : BRow wx g D.cur) => conv_row (w := wx) (g := g) (c := 2560) (a := 0) (n := 2560) (f := D.cur) h (by omega))
  generalize hstr : strB D.cur 0 2560 = str at *
  have hbl := bl_true (x := str) rfl
  have hbl2 : (str.toList != str.toList) = false := by simp
  clear hstr
  go_wp2_with fail
  (with_reducible refine HC4.out.mono ?_)
  rintro e w5 (⟨hc0, rfl, own5, l5⟩ | ⟨hc0, rfl, b5⟩)
  · obtain rfl : s = 1 := HON.out.2 hc0
    have L5 := Lib.hid l5
    clear l5 hc0
    go_wp2_with fail
    go_quiet (fail)
    go_wp2_with fail
    go_ret
    exact ⟨rfl, B1.out.trans ((L5.out.next (drewN_below _ _)).bel.mono B1.out.size)⟩
  · have hs1 : s ≠ 1 := fun h => hc0 (HON.out.1 h)
    have hb1 : ((s : Int) != 1) = true := by simp; omega
    have hb2 : ((s : Int) == 1) = false := by simp; omega
    have Z5 := Lib.hid (Z4.out.next ((below_alloc w4 (.cells #[.int .u64 0, .int .u64 7] 67)).trans (b5.mono (by simp))))
    have ZD := Lib.hid (Z5.out.next ((Below.refl _ _).drew))
    have HCU := Lib.hid (fun (wx : World) (h : Rz w1 v lb go D D.cur (.slice oa n oc) n W own wx) => current40 h.st.log.dev R2.out.on.n R2.out.vb)
    have y1 := HSTR.out _ ZD.out
    clear b5 hc0 HC4 Z4
    go_upto_region 7 with fail
    go_cut [50] from 37 to 49 (fun b wx => b = .bool false ∧ Rz w1 v lb go D D.cur (.slice oa n oc) n W own wx)
    case first =>
      refine wp_region_any (by kernel_rfl) ?_
      change wpAny _ _ _ _ _ _ _ (World.drew _)
      refine wpAny_ready (rs := [0]) (by kernel_rfl) (by simp) ?_
      refine AllReady.cons rfl (fun K hK => ?_) AllReady.nil
      go_simp
      refine hK _ _ ?_
      clear hK K
      refine wpAny_ready (rs := [1]) (by kernel_rfl) (by simp) ?_
      refine AllReady.cons rfl (fun K hK => ?_) AllReady.nil
      go_simp
      refine hK _ _ ?_
      clear hK K
      refine wpAny_ready (rs := [2]) (by kernel_rfl) (by simp) ?_
      refine AllReady.cons rfl (fun K hK => ?_) AllReady.nil
      go_simp
      refine hK _ _ ?_
      clear hK K
      refine wpAny_ready (rs := [3]) (by kernel_rfl) (by simp) ?_
      refine AllReady.cons rfl (fun K hK => ?_) AllReady.nil
      go_simp
      refine hK _ _ ?_
      clear hK K
      refine wpAny_ready (rs := [4]) (by kernel_rfl) (by simp) ?_
      refine AllReady.cons rfl (fun K hK => ?_) AllReady.nil
      go_simp
      refine hK _ _ ?_
      clear hK K
      refine wpAny_ready (rs := [5]) (by kernel_rfl) (by simp) ?_
      refine AllReady.cons rfl (fun K hK => ?_) AllReady.nil
      go_simp
      refine hK _ _ ?_
      clear hK K
      refine wpAny_take (i := 6) (v := .pointer (some ⟨v.db, 0, none⟩)) rfl (by kernel_rfl) (by kernel_rfl) (by kernel_rfl) (fun _ _ _ h => h) (Or.inl ⟨by kernel_rfl, fun w => by go_simp⟩) ?_
      (try simp only [Act.put, List.setIfInBounds_toArray, List.set_cons_zero, List.set_cons_succ])
      refine wpAny_take (i := 9) (v := .slice (some ⟨go, 0, none⟩) 2560 2560) rfl (by kernel_rfl) (by kernel_rfl) (by kernel_rfl) (fun _ _ _ h => h) (Or.inl ⟨by kernel_rfl, fun w => by go_simp⟩) ?_
      (try simp only [Act.put, List.setIfInBounds_toArray, List.set_cons_zero, List.set_cons_succ])
      refine wpAny_ready (rs := [7, 10]) (by kernel_rfl) (by simp) ?_
      refine AllReady.cons rfl (fun K hK => ?_) (AllReady.cons rfl (fun K hK => ?_) AllReady.nil)
      · go_simp
        (with_reducible refine (HCU.out _ ZD.out).mono ?_)
        rintro e w6 ⟨rfl, r6, b6⟩
        have Z6 := Lib.hid (ZD.out.next b6)
        have y2 := HSTR.out _ Z6.out
        have y3 := HST2.out _ w5.heap.size r6
        clear r6 b6
        go_simp
        refine hK _ _ ?_
        clear hK K
        refine wpAny_ready (rs := [8, 10]) (by kernel_rfl) (by simp) ?_
        refine AllReady.cons rfl (fun K hK => ?_) (AllReady.cons rfl (fun K hK => ?_) AllReady.nil)
        · go_simp
          refine hK _ _ ?_
          clear hK K
          refine wpAny_ready (rs := [10]) (by kernel_rfl) (by simp) ?_
          refine AllReady.cons rfl (fun K hK => ?_) AllReady.nil
          go_simp
          refine hK _ _ ?_
          clear hK K
          refine wpAny_ready (rs := [11]) (by kernel_rfl) (by simp) ?_
          refine AllReady.cons rfl (fun K hK => ?_) AllReady.nil
          go_simp
          refine hK _ _ ?_
          clear hK K
          refine wpAny_ready (rs := [12]) (by kernel_rfl) (by simp) ?_
          refine AllReady.cons rfl (fun K hK => ?_) AllReady.nil
          go_simp
          refine hK _ _ ?_
          clear hK K
          refine wpAny_ready (rs := [13]) (by kernel_rfl) (by simp) ?_
          refine AllReady.cons rfl (fun K hK => ?_) AllReady.nil
          go_simp
          refine hK _ _ ?_
          clear hK K
          refine wpAny_done (by kernel_rfl) ?_ _
          go_wp2_with fail
          go_meet
          exact ⟨rfl, Z6.out⟩
        · go_simp
          refine hK _ _ ?_
          clear hK K
          refine wpAny_ready (rs := [8]) (by kernel_rfl) (by simp) ?_
          refine AllReady.cons rfl (fun K hK => ?_) AllReady.nil
          go_simp
          refine hK _ _ ?_
          clear hK K
          refine wpAny_ready (rs := [11]) (by kernel_rfl) (by simp) ?_
          refine AllReady.cons rfl (fun K hK => ?_) AllReady.nil
          go_simp
          refine hK _ _ ?_
          clear hK K
          refine wpAny_ready (rs := [12]) (by kernel_rfl) (by simp) ?_
          refine AllReady.cons rfl (fun K hK => ?_) AllReady.nil
          go_simp
          refine hK _ _ ?_
          clear hK K
          refine wpAny_ready (rs := [13]) (by kernel_rfl) (by simp) ?_
          refine AllReady.cons rfl (fun K hK => ?_) AllReady.nil
          go_simp
          refine hK _ _ ?_
          clear hK K
          refine wpAny_done (by kernel_rfl) ?_ _
          go_wp2_with fail
          go_meet
          exact ⟨rfl, Z6.out⟩
      · go_simp
        refine hK _ _ ?_
        clear hK K
        refine wpAny_ready (rs := [7]) (by kernel_rfl) (by simp) ?_
        refine AllReady.cons rfl (fun K hK => ?_) AllReady.nil
        go_simp
        (with_reducible refine (HCU.out _ ZD.out).mono ?_)
        rintro e w6 ⟨rfl, r6, b6⟩
        have Z6 := Lib.hid (ZD.out.next b6)
        have y2 := HSTR.out _ Z6.out
        have y3 := HST2.out _ w5.heap.size r6
        clear r6 b6
        go_simp
        refine hK _ _ ?_
        clear hK K
        refine wpAny_ready (rs := [8]) (by kernel_rfl) (by simp) ?_
        refine AllReady.cons rfl (fun K hK => ?_) AllReady.nil
        go_simp
        refine hK _ _ ?_
        clear hK K
        refine wpAny_ready (rs := [11]) (by kernel_rfl) (by simp) ?_
        refine AllReady.cons rfl (fun K hK => ?_) AllReady.nil
        go_simp
        refine hK _ _ ?_
        clear hK K
        refine wpAny_ready (rs := [12]) (by kernel_rfl) (by simp) ?_
        refine AllReady.cons rfl (fun K hK => ?_) AllReady.nil
        go_simp
        refine hK _ _ ?_
        clear hK K
        refine wpAny_ready (rs := [13]) (by kernel_rfl) (by simp) ?_
        refine AllReady.cons rfl (fun K hK => ?_) AllReady.nil
        go_simp
        refine hK _ _ ?_
        clear hK K
        refine wpAny_done (by kernel_rfl) ?_ _
        go_wp2_with fail
        go_meet
        exact ⟨rfl, Z6.out⟩
    case rest =>
      obtain ⟨rfl, hz⟩ := hcut
      rename World => w7
      have Z7 := Lib.hid hz
      clear hz Z5 ZD y1
      go_wp2_with fail
      (with_reducible refine (HRC.out _ Z7.out.st).mono ?_)
      rintro e w8 (⟨h1, _⟩ | ⟨h3, rfl, b8⟩ | ⟨h2, rfl, own8, l8, m8⟩)
      · exact absurd h1 hs1
      · subst h3
        have Z8 := Lib.hid (Z7.out.next b8)
        have ZD := Lib.hid (Z8.out.next ((Below.refl _ _).drew))
        have y1 := HSTR.out _ ZD.out
        clear b8 Z7 hs1 hst
        go_upto_region 13 with fail
        refine wp_region_any (by kernel_rfl) ?_
        change wpAny _ _ _ _ _ _ _ (World.drew _)
        refine wpAny_ready (rs := [0]) (by kernel_rfl) (by simp) ?_
        refine AllReady.cons rfl (fun K hK => ?_) AllReady.nil
        go_simp
        refine hK _ _ ?_
        clear hK K
        refine wpAny_ready (rs := [1]) (by kernel_rfl) (by simp) ?_
        refine AllReady.cons rfl (fun K hK => ?_) AllReady.nil
        go_simp
        refine hK _ _ ?_
        clear hK K
        refine wpAny_ready (rs := [2]) (by kernel_rfl) (by simp) ?_
        refine AllReady.cons rfl (fun K hK => ?_) AllReady.nil
        go_simp
        refine hK _ _ ?_
        clear hK K
        refine wpAny_ready (rs := [3]) (by kernel_rfl) (by simp) ?_
        refine AllReady.cons rfl (fun K hK => ?_) AllReady.nil
        go_simp
        refine hK _ _ ?_
        clear hK K
        refine wpAny_ready (rs := [4]) (by kernel_rfl) (by simp) ?_
        refine AllReady.cons rfl (fun K hK => ?_) AllReady.nil
        go_simp
        refine hK _ _ ?_
        clear hK K
        refine wpAny_ready (rs := [5]) (by kernel_rfl) (by simp) ?_
        refine AllReady.cons rfl (fun K hK => ?_) AllReady.nil
        go_simp
        refine hK _ _ ?_
        clear hK K
        refine wpAny_ready (rs := [6]) (by kernel_rfl) (by simp) ?_
        refine AllReady.cons rfl (fun K hK => ?_) AllReady.nil
        go_simp
        refine hK _ _ ?_
        clear hK K
        refine wpAny_take (i := 7) (v := .pointer (some ⟨v.db, 0, none⟩)) rfl (by kernel_rfl) (by kernel_rfl) (by kernel_rfl) (fun _ _ _ h => h) (Or.inl ⟨by kernel_rfl, fun w => by go_simp⟩) ?_
        (try simp only [Act.put, List.setIfInBounds_toArray, List.set_cons_zero, List.set_cons_succ])
        refine wpAny_take (i := 10) (v := .slice (some ⟨go, 0, none⟩) 2560 2560) rfl (by kernel_rfl) (by kernel_rfl) (by kernel_rfl) (fun _ _ _ h => h) (Or.inl ⟨by kernel_rfl, fun w => by go_simp⟩) ?_
        (try simp only [Act.put, List.setIfInBounds_toArray, List.set_cons_zero, List.set_cons_succ])
        refine wpAny_ready (rs := [8, 11]) (by kernel_rfl) (by simp) ?_
        refine AllReady.cons rfl (fun K hK => ?_) (AllReady.cons rfl (fun K hK => ?_) AllReady.nil)
        · go_simp
          (with_reducible refine (HCU.out _ ZD.out).mono ?_)
          rintro e w9 ⟨rfl, r9, b9⟩
          have Z9 := Lib.hid (ZD.out.next b9)
          have y2 := HSTR.out _ Z9.out
          have y3 := HST2.out _ w8.heap.size r9
          clear r9 b9
          go_simp
          refine hK _ _ ?_
          clear hK K
          refine wpAny_ready (rs := [9, 11]) (by kernel_rfl) (by simp) ?_
          refine AllReady.cons rfl (fun K hK => ?_) (AllReady.cons rfl (fun K hK => ?_) AllReady.nil)
          · go_simp
            refine hK _ _ ?_
            clear hK K
            refine wpAny_ready (rs := [11]) (by kernel_rfl) (by simp) ?_
            refine AllReady.cons rfl (fun K hK => ?_) AllReady.nil
            go_simp
            refine hK _ _ ?_
            clear hK K
            refine wpAny_ready (rs := [12]) (by kernel_rfl) (by simp) ?_
            refine AllReady.cons rfl (fun K hK => ?_) AllReady.nil
            go_simp
            refine hK _ _ ?_
            clear hK K
            refine wpAny_ready (rs := [13]) (by kernel_rfl) (by simp) ?_
            refine AllReady.cons rfl (fun K hK => ?_) AllReady.nil
            go_simp
            refine hK _ _ ?_
            clear hK K
            refine wpAny_ready (rs := [14]) (by kernel_rfl) (by simp) ?_
            refine AllReady.cons rfl (fun K hK => ?_) AllReady.nil
            go_simp
            refine hK _ _ ?_
            clear hK K
            refine wpAny_done (by kernel_rfl) ?_ _
            go_wp2_with fail
            go_ret
            exact ⟨rfl, B1.out.trans (Z9.out.st.bel.mono B1.out.size)⟩
          · go_simp
            refine hK _ _ ?_
            clear hK K
            refine wpAny_ready (rs := [9]) (by kernel_rfl) (by simp) ?_
            refine AllReady.cons rfl (fun K hK => ?_) AllReady.nil
            go_simp
            refine hK _ _ ?_
            clear hK K
            refine wpAny_ready (rs := [12]) (by kernel_rfl) (by simp) ?_
            refine AllReady.cons rfl (fun K hK => ?_) AllReady.nil
            go_simp
            refine hK _ _ ?_
            clear hK K
            refine wpAny_ready (rs := [13]) (by kernel_rfl) (by simp) ?_
            refine AllReady.cons rfl (fun K hK => ?_) AllReady.nil
            go_simp
            refine hK _ _ ?_
            clear hK K
            refine wpAny_ready (rs := [14]) (by kernel_rfl) (by simp) ?_
            refine AllReady.cons rfl (fun K hK => ?_) AllReady.nil
            go_simp
            refine hK _ _ ?_
            clear hK K
            refine wpAny_done (by kernel_rfl) ?_ _
            go_wp2_with fail
            go_ret
            exact ⟨rfl, B1.out.trans (Z9.out.st.bel.mono B1.out.size)⟩
        · go_simp
          refine hK _ _ ?_
          clear hK K
          refine wpAny_ready (rs := [8]) (by kernel_rfl) (by simp) ?_
          refine AllReady.cons rfl (fun K hK => ?_) AllReady.nil
          go_simp
          (with_reducible refine (HCU.out _ ZD.out).mono ?_)
          rintro e w9 ⟨rfl, r9, b9⟩
          have Z9 := Lib.hid (ZD.out.next b9)
          have y2 := HSTR.out _ Z9.out
          have y3 := HST2.out _ w8.heap.size r9
          clear r9 b9
          go_simp
          refine hK _ _ ?_
          clear hK K
          refine wpAny_ready (rs := [9]) (by kernel_rfl) (by simp) ?_
          refine AllReady.cons rfl (fun K hK => ?_) AllReady.nil
          go_simp
          refine hK _ _ ?_
          clear hK K
          refine wpAny_ready (rs := [12]) (by kernel_rfl) (by simp) ?_
          refine AllReady.cons rfl (fun K hK => ?_) AllReady.nil
          go_simp
          refine hK _ _ ?_
          clear hK K
          refine wpAny_ready (rs := [13]) (by kernel_rfl) (by simp) ?_
          refine AllReady.cons rfl (fun K hK => ?_) AllReady.nil
          go_simp
          refine hK _ _ ?_
          clear hK K
          refine wpAny_ready (rs := [14]) (by kernel_rfl) (by simp) ?_
          refine AllReady.cons rfl (fun K hK => ?_) AllReady.nil
          go_simp
          refine hK _ _ ?_
          clear hK K
          refine wpAny_done (by kernel_rfl) ?_ _
          go_wp2_with fail
          go_ret
          exact ⟨rfl, B1.out.trans (Z9.out.st.bel.mono B1.out.size)⟩
      · have hb3 : ((s : Int) == 3) = false := by simp; omega
        obtain ⟨hr8, ho8⟩ := HTW.out h2
        have hwk := HWK.out h2
        have Z8 := Lib.hid (Z7.out.step l8 m8)
        have R8 := Lib.hid hr8
        have HZ : Hid ((D.run 0 (rFinP 320 W)).cur 40 = 0) := ho8.1
        have HAG : Hid (∀ i, (i < 40 ∨ 248 ≤ i) → (D.run 0 (rFinP 320 W)).cur i = look W (D.cur i) i) := ho8.2
        have HPG : Hid (∀ i, (i < 40 ∨ 248 ≤ i) → (D.run 0 (rFinP 320 W)).pers i = look W (D.cur i) i) := fun i hi => (hr8.pers i hi).trans (ho8.2 i hi)
        have HPL : Hid ((rFinP 320 W).length ≤ 1000) := by
          have h1 := rFinP_len 320 W
          have h2 := hwk.len
          show (rFinP 320 W).length ≤ 1000
          omega
        have HWB : Hid (∀ e ∈ W, e.1 % 8 = 0 ∧ e.1 < 2560 ∧ 0 ≤ e.2 ∧ e.2 < 18446744073709551616) := fun e he => by
          have h1 := allow_out (hwk.ok e he)
          have h2 := hwk.bd e he
          exact ⟨h1.1, h1.2.1, h2⟩
        have R8M := Lib.hid (R8.out.mono (y := 5000) (by have := HPL.out; omega))
        have HRC2 := Lib.hid (fun (wx : World) (h : RSt w1 v own8 (D.run 0 (rFinP 320 W)) lb 0 320 1664 wx) => recov7 (wc := wx) h (HNB.out.below (B1.out.trans (h.bel.mono B1.out.size))) R8M.out (by omega))
        have HZ1 : Hid (lk (D.run 0 (rFinP 320 W)).cur = (1, [])) := lk_zero HZ.out
        rw [HZ1.out] at HRC2
        have HC := Lib.hid (fun (wx : World) (h : IsDev wx v own8 (D.run 0 (rFinP 320 W))) => current40 h R8M.out.on.n R8M.out.vb)
        have HP := Lib.hid (fun (wx : World) (h : IsDev wx v own8 (D.run 0 (rFinP 320 W))) => persisted40 h R8M.out.on.n R8M.out.vb)
        have HL := Lib.hid (fun (wx : World) (h : IsDev wx v own8 (D.run 0 (rFinP 320 W))) => load_ok h (j := 0) (by omega) 320 R8M.out.on.off (by omega) (by rw [R8M.out.on.n]; omega))
        generalize D.run 0 (rFinP 320 W) = D8 at *
        have HLN : Hid (n ≤ 96) := hsh
        have HWX : Hid (∀ wx, Rz w1 v lb go D8 D.cur (.slice oa n oc) n W own8 wx → Wr wx) := fun wx h => HWR.out.below (B1.out.trans (h.st.bel.mono B1.out.size))
        have HCW : Hid (∀ wx, Rz w1 v lb go D8 D.cur (.slice oa n oc) n W own8 wx → Calls Tryd.prog 12 #[.pointer (some ⟨v.db, 0, none⟩)] wx fun r w' => ∃ g, r = .returned (.slice (some ⟨g, 0, none⟩) 2560 2560) ∧ BRow w' g D8.cur ∧ Below wx.heap.size wx w') :=
          fun wx h => (HC.out wx h.st.log.dev).mono fun r w' hp => ⟨_, hp⟩
        have HPE : Hid (∀ wx, Rz w1 v lb go D8 D.cur (.slice oa n oc) n W own8 wx → Calls Tryd.prog 35 #[.pointer (some ⟨v.db, 0, none⟩)] wx fun r w' => ∃ g, r = .returned (.slice (some ⟨g, 0, none⟩) 2560 2560) ∧ BRow w' g D8.pers ∧ Below wx.heap.size wx w') :=
          fun wx h => (HP.out wx h.st.log.dev).mono fun r w' hp => ⟨_, hp⟩
        have HAP : Hid (∀ wx, Rz w1 v lb go D8 D.cur (.slice oa n oc) n W own8 wx → Calls Tryd.prog 26 #[.slice (some ⟨go, 0, none⟩) 2560 2560, .slice oa n oc] wx fun r w' => ∃ g' c', r = .returned (.slice (some ⟨g', 0, none⟩) 2560 c') ∧ 2560 ≤ c' ∧ c' ≤ maxLen ∧ BRow w' g' (fun i => look W (D.cur i) i) ∧ wx.heap.size ≤ g' ∧ Below wx.heap.size wx w') :=
          fun wx h => l15applied_any h.ro (Nat.le_refl _) (by unfold maxLen; omega) (.slice oa n oc) W (by rw [HN.out]; exact h.rd) (by rw [HN.out]; have := HLN.out; omega) HWB.out
        have HO1 : Hid (∀ wx ga gb cb, Rz w1 v lb go D8 D.cur (.slice oa n oc) n W own8 wx → BRow wx ga D8.cur → BRow wx gb (fun i => look W (D.cur i) i) → 2560 ≤ cb → Calls Tryd.prog 28 #[.slice (some ⟨ga, 0, none⟩) 2560 2560, .slice (some ⟨gb, 0, none⟩) 2560 cb] wx fun r w' => r = .returned (.bool true) ∧ ∃ q, w' = wx.drewN q) := fun wx ga gb cb h ha hb hc => by
          have := l15outside_any (ca := 2560) (cb := cb) (HWX.out wx h) ha hb (Nat.le_refl _) hc
          rw [outR_of HAG.out] at this
          exact this
        have HO2 : Hid (∀ wx ga gb cb, Rz w1 v lb go D8 D.cur (.slice oa n oc) n W own8 wx → BRow wx ga D8.pers → BRow wx gb (fun i => look W (D.cur i) i) → 2560 ≤ cb → Calls Tryd.prog 28 #[.slice (some ⟨ga, 0, none⟩) 2560 2560, .slice (some ⟨gb, 0, none⟩) 2560 cb] wx fun r w' => r = .returned (.bool true) ∧ ∃ q, w' = wx.drewN q) := fun wx ga gb cb h ha hb hc => by
          have := l15outside_any (ca := 2560) (cb := cb) (HWX.out wx h) ha hb (Nat.le_refl _) hc
          rw [outR_of HPG.out] at this
          exact this
        have HLD : Hid (∀ wx, Rz w1 v lb go D8 D.cur (.slice oa n oc) n W own8 wx → Calls Tryd.prog 36 #[.pointer (some ⟨v.tb 0, 0, none⟩), .int .u64 320] wx fun r w' => r = .returned (.int .u64 0) ∧ wx = w') := fun wx h => by
          have := HL.out wx h.st.log.dev
          rw [show 320 / 8 = 40 from rfl, HZ.out] at this
          exact this
        have hnn : ((n : Int) == (n : Int)) = true := by simp
        clear hr8 ho8 hwk l8 m8 HC HP HL R8 HSTR HST2 hbl hbl2 hst hs1 hsh Z7 HCU HCM HRC HON HTW HWK HZ1
        go_wp2_with fail
        (with_reducible refine (HRC2.out _ Z8.out.st).mono ?_)
        rintro e w9 (⟨_, rfl, b9⟩ | ⟨h3, _⟩ | ⟨h3, _⟩)
        · have ZE := Lib.hid ((Z8.out.next b9).next ((Below.refl _ _).drew))
          clear b9 Z8 HRC2
          go_upto_region 15 with fail
          refine wp_region_any (by kernel_rfl) ?_
          change wpAny _ _ _ _ _ _ _ (World.drew _)
          refine wpAny_ready (rs := [0]) (by kernel_rfl) (by simp) ?_
          refine AllReady.cons rfl (fun K hK => ?_) AllReady.nil
          go_simp
          refine hK _ _ ?_
          clear hK K
          refine wpAny_ready (rs := [1]) (by kernel_rfl) (by simp) ?_
          refine AllReady.cons rfl (fun K hK => ?_) AllReady.nil
          go_simp
          refine hK _ _ ?_
          clear hK K
          refine wpAny_ready (rs := [2]) (by kernel_rfl) (by simp) ?_
          refine AllReady.cons rfl (fun K hK => ?_) AllReady.nil
          go_simp
          refine hK _ _ ?_
          clear hK K
          refine wpAny_take (i := 3) (v := .int .i64 (n : Int)) rfl (by kernel_rfl) (by kernel_rfl) (by kernel_rfl) (fun _ _ _ h => h) (Or.inl ⟨by kernel_rfl, fun w => by go_simp⟩) ?_
          (try simp only [Act.put, List.setIfInBounds_toArray, List.set_cons_zero, List.set_cons_succ])
          refine wpAny_take (i := 4) (v := .slice oa n oc) rfl (by kernel_rfl) (by kernel_rfl) (by kernel_rfl) (fun _ _ _ h => h) (Or.inl ⟨by kernel_rfl, fun w => by go_simp⟩) ?_
          (try simp only [Act.put, List.setIfInBounds_toArray, List.set_cons_zero, List.set_cons_succ])
          refine wpAny_ready (rs := [5]) (by kernel_rfl) (by simp) ?_
          refine AllReady.cons rfl (fun K hK => ?_) AllReady.nil
          go_simp
          refine hK _ _ ?_
          clear hK K
          refine wpAny_ready (rs := [6]) (by kernel_rfl) (by simp) ?_
          refine AllReady.cons rfl (fun K hK => ?_) AllReady.nil
          go_simp
          refine hK _ _ ?_
          clear hK K
          refine wpAny_ready (rs := [7]) (by kernel_rfl) (by simp) ?_
          refine AllReady.cons rfl (fun K hK => ?_) AllReady.nil
          go_simp
          refine hK _ _ ?_
          clear hK K
          refine wpAny_ready (rs := [8]) (by kernel_rfl) (by simp) ?_
          refine AllReady.cons rfl (fun K hK => ?_) AllReady.nil
          go_simp
          refine hK _ _ ?_
          clear hK K
          refine wpAny_take (i := 9) (v := .pointer (some ⟨v.db, 0, none⟩)) rfl (by kernel_rfl) (by kernel_rfl) (by kernel_rfl) (fun _ _ _ h => h) (Or.inl ⟨by kernel_rfl, fun w => by go_simp⟩) ?_
          (try simp only [Act.put, List.setIfInBounds_toArray, List.set_cons_zero, List.set_cons_succ])
          refine wpAny_take (i := 11) (v := .slice (some ⟨go, 0, none⟩) 2560 2560) rfl (by kernel_rfl) (by kernel_rfl) (by kernel_rfl) (fun _ _ _ h => h) (Or.inl ⟨by kernel_rfl, fun w => by go_simp⟩) ?_
          (try simp only [Act.put, List.setIfInBounds_toArray, List.set_cons_zero, List.set_cons_succ])
          refine wpAny_take (i := 12) (v := .slice oa n oc) rfl (by kernel_rfl) (by kernel_rfl) (by kernel_rfl) (fun _ _ _ h => h) (Or.inl ⟨by kernel_rfl, fun w => by go_simp⟩) ?_
          (try simp only [Act.put, List.setIfInBounds_toArray, List.set_cons_zero, List.set_cons_succ])
          refine wpAny_ready (rs := [10]) (by kernel_rfl) (by simp) ?_
          refine AllReady.cons rfl (fun K hK => ?_) AllReady.nil
          go_simp
          (with_reducible refine (HCW.out _ ZE.out).mono ?_)
          rintro e wC ⟨gC, rfl, rC, bC⟩
          have ZC := Lib.hid (ZE.out.next bC)
          have RC := Lib.hid rC
          clear rC bC
          go_simp
          refine hK _ _ ?_
          clear hK K
          refine wpAny_ready (rs := [13]) (by kernel_rfl) (by simp) ?_
          refine AllReady.cons rfl (fun K hK => ?_) AllReady.nil
          go_simp
          (with_reducible refine (HAP.out _ ZC.out).mono ?_)
          rintro e wA ⟨gA, cA, rfl, hcA, _, rA, _, bA⟩
          have ZA := Lib.hid (ZC.out.next bA)
          have RA := Lib.hid rA
          have HCA := Lib.hid hcA
          have RC2 := Lib.hid (RC.out.below bA)
          clear rA bA hcA
          go_simp
          refine hK _ _ ?_
          clear hK K
          refine wpAny_ready (rs := [14]) (by kernel_rfl) (by simp) ?_
          refine AllReady.cons rfl (fun K hK => ?_) AllReady.nil
          go_simp
          (with_reducible refine (HO1.out _ gC gA cA ZA.out RC2.out RA.out HCA.out).mono ?_)
          rintro e wO ⟨rfl, q, hq⟩
          have bO : Below wA.heap.size wA wO := by rw [hq]; exact drewN_below _ q
          have ZO := Lib.hid (ZA.out.next bO)
          clear hq bO RC RA HCA ZC ZA
          go_simp
          refine hK _ _ ?_
          clear hK K
          refine wpAny_ready (rs := [15]) (by kernel_rfl) (by simp) ?_
          refine AllReady.cons rfl (fun K hK => ?_) AllReady.nil
          go_simp
          refine hK _ _ ?_
          clear hK K
          refine wpAny_ready (rs := [16]) (by kernel_rfl) (by simp) ?_
          refine AllReady.cons rfl (fun K hK => ?_) AllReady.nil
          go_simp
          refine hK _ _ ?_
          clear hK K
          refine wpAny_take (i := 17) (v := .pointer (some ⟨v.db, 0, none⟩)) rfl (by kernel_rfl) (by kernel_rfl) (by kernel_rfl) (fun _ _ _ h => h) (Or.inl ⟨by kernel_rfl, fun w => by go_simp⟩) ?_
          (try simp only [Act.put, List.setIfInBounds_toArray, List.set_cons_zero, List.set_cons_succ])
          refine wpAny_take (i := 19) (v := .slice (some ⟨go, 0, none⟩) 2560 2560) rfl (by kernel_rfl) (by kernel_rfl) (by kernel_rfl) (fun _ _ _ h => h) (Or.inl ⟨by kernel_rfl, fun w => by go_simp⟩) ?_
          (try simp only [Act.put, List.setIfInBounds_toArray, List.set_cons_zero, List.set_cons_succ])
          refine wpAny_take (i := 20) (v := .slice oa n oc) rfl (by kernel_rfl) (by kernel_rfl) (by kernel_rfl) (fun _ _ _ h => h) (Or.inl ⟨by kernel_rfl, fun w => by go_simp⟩) ?_
          (try simp only [Act.put, List.setIfInBounds_toArray, List.set_cons_zero, List.set_cons_succ])
          refine wpAny_ready (rs := [18]) (by kernel_rfl) (by simp) ?_
          refine AllReady.cons rfl (fun K hK => ?_) AllReady.nil
          go_simp
          (with_reducible refine (HPE.out _ ZO.out).mono ?_)
          rintro e wC ⟨gC, rfl, rC, bC⟩
          have ZC := Lib.hid (ZO.out.next bC)
          have RC := Lib.hid rC
          clear rC bC
          go_simp
          refine hK _ _ ?_
          clear hK K
          refine wpAny_ready (rs := [21]) (by kernel_rfl) (by simp) ?_
          refine AllReady.cons rfl (fun K hK => ?_) AllReady.nil
          go_simp
          (with_reducible refine (HAP.out _ ZC.out).mono ?_)
          rintro e wA ⟨gA, cA, rfl, hcA, _, rA, _, bA⟩
          have ZA := Lib.hid (ZC.out.next bA)
          have RA := Lib.hid rA
          have HCA := Lib.hid hcA
          have RC2 := Lib.hid (RC.out.below bA)
          clear rA bA hcA
          go_simp
          refine hK _ _ ?_
          clear hK K
          refine wpAny_ready (rs := [22]) (by kernel_rfl) (by simp) ?_
          refine AllReady.cons rfl (fun K hK => ?_) AllReady.nil
          go_simp
          (with_reducible refine (HO2.out _ gC gA cA ZA.out RC2.out RA.out HCA.out).mono ?_)
          rintro e wQ ⟨rfl, q, hq⟩
          have bO : Below wA.heap.size wA wQ := by rw [hq]; exact drewN_below _ q
          have ZQ := Lib.hid (ZA.out.next bO)
          clear hq bO RC RA HCA ZC ZA
          go_simp
          refine hK _ _ ?_
          clear hK K
          refine wpAny_ready (rs := [23]) (by kernel_rfl) (by simp) ?_
          refine AllReady.cons rfl (fun K hK => ?_) AllReady.nil
          go_simp
          refine hK _ _ ?_
          clear hK K
          refine wpAny_ready (rs := [24]) (by kernel_rfl) (by simp) ?_
          refine AllReady.cons rfl (fun K hK => ?_) AllReady.nil
          go_simp
          refine hK _ _ ?_
          clear hK K
          refine wpAny_take (i := 25) (v := .pointer (some ⟨v.db, 0, none⟩)) rfl (by kernel_rfl) (by kernel_rfl) (by kernel_rfl) (fun _ _ _ h => h) (Or.inl ⟨by kernel_rfl, fun w => by go_simp⟩) ?_
          (try simp only [Act.put, List.setIfInBounds_toArray, List.set_cons_zero, List.set_cons_succ])
          refine wpAny_take (i := 27) (v := .pointer (some ⟨0, 0, none⟩)) rfl (by kernel_rfl) (by kernel_rfl) (by kernel_rfl) (fun _ _ _ h => h) (Or.inl ⟨by kernel_rfl, fun w => by go_simp⟩) ?_
          (try simp only [Act.put, List.setIfInBounds_toArray, List.set_cons_zero, List.set_cons_succ])
          have hx0 := (HWX.out _ ZQ.out).c0
          refine wpAny_ready (rs := [26, 28]) (by kernel_rfl) (by simp) ?_
          refine AllReady.cons rfl (fun K hK => ?_) (AllReady.cons rfl (fun K hK => ?_) AllReady.nil)
          · go_simp
            (with_reducible refine (thread0_any ZQ.out.st.log.dev).mono ?_)
            rintro e w' ⟨rfl, rfl⟩
            go_simp
            refine hK _ _ ?_
            clear hK K
            refine wpAny_ready (rs := [28]) (by kernel_rfl) (by simp) ?_
            refine AllReady.cons rfl (fun K hK => ?_) AllReady.nil
            go_simp
            refine hK _ _ ?_
            clear hK K
            refine wpAny_ready (rs := [29]) (by kernel_rfl) (by simp) ?_
            refine AllReady.cons rfl (fun K hK => ?_) AllReady.nil
            go_simp
            (with_reducible refine (HLD.out _ ZQ.out).mono ?_)
            rintro e w' ⟨rfl, rfl⟩
            go_simp
            refine hK _ _ ?_
            clear hK K
            refine wpAny_ready (rs := [30]) (by kernel_rfl) (by simp) ?_
            refine AllReady.cons rfl (fun K hK => ?_) AllReady.nil
            go_simp
            refine hK _ _ ?_
            clear hK K
            refine wpAny_ready (rs := [31]) (by kernel_rfl) (by simp) ?_
            refine AllReady.cons rfl (fun K hK => ?_) AllReady.nil
            go_simp
            refine hK _ _ ?_
            clear hK K
            refine wpAny_ready (rs := [32]) (by kernel_rfl) (by simp) ?_
            refine AllReady.cons rfl (fun K hK => ?_) AllReady.nil
            go_simp
            refine hK _ _ ?_
            clear hK K
            refine wpAny_ready (rs := [33]) (by kernel_rfl) (by simp) ?_
            refine AllReady.cons rfl (fun K hK => ?_) AllReady.nil
            go_simp
            refine hK _ _ ?_
            clear hK K
            refine wpAny_ready (rs := [34]) (by kernel_rfl) (by simp) ?_
            refine AllReady.cons rfl (fun K hK => ?_) AllReady.nil
            go_simp
            refine hK _ _ ?_
            clear hK K
            refine wpAny_ready (rs := [35]) (by kernel_rfl) (by simp) ?_
            refine AllReady.cons rfl (fun K hK => ?_) AllReady.nil
            go_simp
            refine hK _ _ ?_
            clear hK K
            refine wpAny_ready (rs := [36]) (by kernel_rfl) (by simp) ?_
            refine AllReady.cons rfl (fun K hK => ?_) AllReady.nil
            go_simp
            refine hK _ _ ?_
            clear hK K
            refine wpAny_ready (rs := [37]) (by kernel_rfl) (by simp) ?_
            refine AllReady.cons rfl (fun K hK => ?_) AllReady.nil
            go_simp
            refine hK _ _ ?_
            clear hK K
            refine wpAny_ready (rs := [38]) (by kernel_rfl) (by simp) ?_
            refine AllReady.cons rfl (fun K hK => ?_) AllReady.nil
            go_simp
            refine hK _ _ ?_
            clear hK K
            refine wpAny_ready (rs := [39]) (by kernel_rfl) (by simp) ?_
            refine AllReady.cons rfl (fun K hK => ?_) AllReady.nil
            go_simp
            refine hK _ _ ?_
            clear hK K
            refine wpAny_ready (rs := [40]) (by kernel_rfl) (by simp) ?_
            refine AllReady.cons rfl (fun K hK => ?_) AllReady.nil
            go_simp
            refine hK _ _ ?_
            clear hK K
            refine wpAny_done (by kernel_rfl) ?_ _
            go_wp2_with fail
            go_ret
            exact ⟨rfl, B1.out.trans (ZQ.out.st.bel.mono B1.out.size)⟩
          · go_simp
            refine hK _ _ ?_
            clear hK K
            refine wpAny_ready (rs := [26]) (by kernel_rfl) (by simp) ?_
            refine AllReady.cons rfl (fun K hK => ?_) AllReady.nil
            go_simp
            (with_reducible refine (thread0_any ZQ.out.st.log.dev).mono ?_)
            rintro e w' ⟨rfl, rfl⟩
            go_simp
            refine hK _ _ ?_
            clear hK K
            refine wpAny_ready (rs := [29]) (by kernel_rfl) (by simp) ?_
            refine AllReady.cons rfl (fun K hK => ?_) AllReady.nil
            go_simp
            (with_reducible refine (HLD.out _ ZQ.out).mono ?_)
            rintro e w' ⟨rfl, rfl⟩
            go_simp
            refine hK _ _ ?_
            clear hK K
            refine wpAny_ready (rs := [30]) (by kernel_rfl) (by simp) ?_
            refine AllReady.cons rfl (fun K hK => ?_) AllReady.nil
            go_simp
            refine hK _ _ ?_
            clear hK K
            refine wpAny_ready (rs := [31]) (by kernel_rfl) (by simp) ?_
            refine AllReady.cons rfl (fun K hK => ?_) AllReady.nil
            go_simp
            refine hK _ _ ?_
            clear hK K
            refine wpAny_ready (rs := [32]) (by kernel_rfl) (by simp) ?_
            refine AllReady.cons rfl (fun K hK => ?_) AllReady.nil
            go_simp
            refine hK _ _ ?_
            clear hK K
            refine wpAny_ready (rs := [33]) (by kernel_rfl) (by simp) ?_
            refine AllReady.cons rfl (fun K hK => ?_) AllReady.nil
            go_simp
            refine hK _ _ ?_
            clear hK K
            refine wpAny_ready (rs := [34]) (by kernel_rfl) (by simp) ?_
            refine AllReady.cons rfl (fun K hK => ?_) AllReady.nil
            go_simp
            refine hK _ _ ?_
            clear hK K
            refine wpAny_ready (rs := [35]) (by kernel_rfl) (by simp) ?_
            refine AllReady.cons rfl (fun K hK => ?_) AllReady.nil
            go_simp
            refine hK _ _ ?_
            clear hK K
            refine wpAny_ready (rs := [36]) (by kernel_rfl) (by simp) ?_
            refine AllReady.cons rfl (fun K hK => ?_) AllReady.nil
            go_simp
            refine hK _ _ ?_
            clear hK K
            refine wpAny_ready (rs := [37]) (by kernel_rfl) (by simp) ?_
            refine AllReady.cons rfl (fun K hK => ?_) AllReady.nil
            go_simp
            refine hK _ _ ?_
            clear hK K
            refine wpAny_ready (rs := [38]) (by kernel_rfl) (by simp) ?_
            refine AllReady.cons rfl (fun K hK => ?_) AllReady.nil
            go_simp
            refine hK _ _ ?_
            clear hK K
            refine wpAny_ready (rs := [39]) (by kernel_rfl) (by simp) ?_
            refine AllReady.cons rfl (fun K hK => ?_) AllReady.nil
            go_simp
            refine hK _ _ ?_
            clear hK K
            refine wpAny_ready (rs := [40]) (by kernel_rfl) (by simp) ?_
            refine AllReady.cons rfl (fun K hK => ?_) AllReady.nil
            go_simp
            refine hK _ _ ?_
            clear hK K
            refine wpAny_done (by kernel_rfl) ?_ _
            go_wp2_with fail
            go_ret
            exact ⟨rfl, B1.out.trans (ZQ.out.st.bel.mono B1.out.size)⟩
        · cases h3
        · cases h3
end
end Go.Proofs.YtfigngoojphffaaDoor

namespace Go.Proofs.YtfigngoojphffaaDoor
open Go.ChangeShapes Go.WideShapes Go.ChangeAt Go.RowKit Go.Joins

set_option maxRecDepth 100000 in
theorem redoRecovers_lifted (os : Os) (started : os.Started) (H : Type) (enc : TypeId × Value → H) :
    ReturnsInHanded {} Tryd.checked os 7 .any (fun w args => (Rows.redoRecoversSpec.pre enc Tryd.prog Tryd.f7 Rows.redoRecoversRow.domain false w args ∧ laidMetH Tryd.prog laidR w) ∧ sizedMet enc Tryd.prog Tryd.f7 (OpenSpec.ofChange Rows.redoRecoversSpec) false w args)
      (Rows.redoRecoversSpec.post enc Tryd.prog Tryd.f7 false true false false) := by
  refine returnsInHanded_of_change_and (C := Tryd.checked) (X := fun w _ => laidMetH Tryd.prog laidR w) (fun _ _ _ hh h => h.of_heap hh) own_knob started (by kernel_rfl) Tryd.func7
    (ChangeSpec.witness_shaped (enc := enc) (C := Tryd.checked) (os := os) (X := fun w _ => laidMetH Tryd.prog laidR w) false (World.laidAll Tryd.prog os laidR) #[.slice none 0 0, .slice none 0 0] 8 (World.laidAll_os _ _ _)
      (World.shaped_of_ZipB (by kernel_rfl) (by kernel_rfl)) (by kernel_rfl) (by kernel_rfl) (by kernel_rfl)
      (by rw [MakeChecks.laidMetH_plain _ _ _ (by kernel_rfl)]; exact laidMet_laidAll _ (by kernel_rfl) (by kernel_rfl))) ?_
  intro W base args ds gs before hval0 hW _ _ hL _
  have hval : ∀ (j : Nat) t v, Tryd.f7.params[j]? = some t → args[j]? = some v → Value.okWide Tryd.prog W .any base t v := hval0
  have hW' := hW
  have HNB := nib_of_laidR hL; have HWR := wr_of_laidR hL
  obtain ⟨p, q, hA0, hV, rfl, hfz, hnd⟩ := hW
  have hA : DataW.TrodAll enc Tryd.prog W 0 (fun _ => true) true Tryd.f7.params.toList args.toList ds p := hA0
  rw [Tryd.params7] at hA hval
  clear hA0 hval0
  obtain ⟨v0, vs0, d0, ds0, p0, q0, hargs, rfl, rfl, h0, r0⟩ := trodAll_cons hA
  obtain ⟨v1, vs1, d1, ds1, p1, q1, hargs1, rfl, rfl, h1, r1⟩ := trodAll_cons r0
  obtain ⟨rfl, rfl, rfl⟩ := trodAll_nil r1
  obtain rfl : args = #[v0, v1] := by cases args; simp_all
  obtain ⟨l0, hr0, hm0, ho0⟩ := open_pairsN (hval 0 22 v0 rfl rfl) h0
  obtain ⟨m, xs, hx, hm, hxs⟩ := open_spoils15 (hval 1 55 v1 rfl rfl) h1
  refine (redoRecovers_any HNB HWR v0 v1 l0 m xs hr0 ho0 hm0 hx hm hxs).mono fun e W' ⟨he, hg⟩ => ?_
  subst he
  refine ⟨_, rfl, law_post hW' rfl (by kernel_rfl) rfl ?_ hg⟩
  rw [Tryd.params7]
  intro t ht
  have hall : ([22, 55].all fun t => Tryd.prog.readableRec t && decide (t < Tryd.prog.types.size)) = true := by kernel_rfl
  have := List.all_eq_true.1 hall t ht
  simpa using this

theorem redoRecovers_row : Rows.RedoRecoversSaid :=
  OpenClaim.holds_of_wide 7 Tryd.f7 rfl rfl rfl rfl rfl rfl rfl ⟨rfl, rfl, rfl, rfl, rfl⟩ rfl rfl rfl rfl rfl (by kernel_rfl) Tryd.func7 (by kernel_rfl)
    (of_decide_eq_true (by kernel_rfl)) (by unfold Func.isWrapper; first | (rw [if_pos (by decide +kernel)]; kernel_rfl) | (rw [if_neg (by decide +kernel)]; exact ⟨rfl, rfl⟩))
    (fun os started H enc _ => redoRecovers_lifted os started H enc)
theorem redoRecovers_holds : Rows.RedoRecoversCardSaid :=
  Claim7.holds_tied_plain_at .later [] [.data, .data] true (true, "6c8382d66fed74331e36732d3b63920c0171efd836e9d9d810685add84560283") false redoRecovers_row (fun _ h => by cases h) (by kernel_rfl) (fun _ h => by cases h) redoRecovers_row_tie rfl ⟨rfl, rfl⟩ (by kernel_rfl) rfl
    (fun f fn hf hfn => by
      obtain rfl : f = 7 := Option.some.inj ((show Tryd.prog.funcNamed "bedrock/bedrocklaw15.RedoRecovers" = some 7 by kernel_rfl).symm.trans hf) |>.symm
      obtain rfl : fn = Tryd.f7 := (Option.some.inj (Tryd.func7.symm.trans hfn)).symm
      exact ⟨by kernel_rfl, fun j t ht => by
        rw [Tryd.params7] at ht
        have hm : t ∈ [22, 55] := by simpa using Array.mem_of_getElem? ht
        have hall : ([22, 55].all fun u => !Tryd.prog.wantsStandIn u) = true := by kernel_rfl
        exact (show Tryd.prog.wantsStandIn t = false by simpa using List.all_eq_true.1 hall t hm)⟩)
    (by kernel_rfl)
#print axioms redoRecovers_holds
end Go.Proofs.YtfigngoojphffaaDoor
