/- The walk of examine: the persisted bytes, the dirty lines and their histories. -/
import Derived.Test.YtahpadhejjlpoaaGreatDoorCsB
import Derived.Deep.RegionLaw
namespace Go.Proofs.YtahpadhejjlpoaaGreatDoor
open Go.RowKit
attribute [local go_sem ↓] Go.wp_at_zero Go.wp_at_succ

theorem infoSlW : (Tryz.prog.info? 82).map (fun i => (i.zero, i.size, i.bytes)) = some (some (.slice none 0 0), 1, 24) := by kernel_rfl
/-- What examine finds. -/
structure ExAt (D : Dev) (pg : Nat) (lv hv : Value) (hs : List Value) (w : World) : Prop where
  pers : Row w pg (64 * D.n) 5 (fun i => .int .u8 (byteAt D.pers i))
  lines : RdSl w 1 lv D.dirtyL.length (natsI D.dirtyL)
  hist : RdSl w 1 hv D.dirtyL.length hs
  row : ∀ (i l : Nat), D.dirtyL[i]? = some l → ∃ u, hs[i]? = some u ∧ RdSl w 2 u (D.hist l).length (flat (D.hist l))
theorem ExAt.next {D : Dev} {pg : Nat} {lv hv : Value} {hs : List Value} {w w' : World} (h : ExAt D pg lv hv hs w) (hb : Below w.heap.size w w') : ExAt D pg lv hv hs w' :=
  ⟨h.pers.below hb, h.lines.below hb, h.hist.below hb, fun i l hl => let ⟨u, h1, h2⟩ := h.row i l hl; ⟨u, h1, h2.below hb⟩⟩
/-- Where examine stands: k histories are collected. -/
structure ExSt (w3 : World) (D : Dev) (sb : Nat) (pv lv hv : Value) (k : Nat) (hs : List Value) (wr : World) : Prop where
  box : Blk wr sb #[pv, lv, hv] 78
  own : OwnSl wr 82 1 hv k hs
  new : ∀ g, hv.ownBlock = some g → w3.heap.size ≤ g
  row : ∀ (i l : Nat), i < k → D.dirtyL[i]? = some l → ∃ u, hs[i]? = some u ∧ RdSl wr 2 u (D.hist l).length (flat (D.hist l)) ∧ ∀ g, u.ownBlock = some g → w3.heap.size ≤ g ∧ g < wr.heap.size ∧ hv.ownBlock ≠ some g
  upd : Upd (· = sb) w3 wr
  sz : sb < w3.heap.size
section
variable {w w3 wr w5 w6 : World} {v : DV} {own : Nat → Option Role} {D : Dev} {sb k l : Nat} {pv lv hv hv' u : Value} {hs : List Value}
theorem ExSt.step (h : ExSt w3 D sb pv lv hv k hs wr) (hl : D.dirtyL[k]? = some l) (hu : RdSl w5 2 u (D.hist l).length (flat (D.hist l))) (hn : ∀ g, u.ownBlock = some g → wr.heap.size ≤ g ∧ g < w5.heap.size) (hb : Below wr.heap.size wr w5) {wz : World} (hz : Below w5.heap.size w5 wz)
    (o1 : OwnSl w6 82 1 hv' (k + 1) (hs ++ [u])) (g1 : wz.grownBy w6 hv.ownBlock) (b1 : slAddr hv' = slAddr hv ∨ slAddr hv' = some ⟨wz.heap.size, 0, none⟩) : ExSt w3 D sb pv lv hv' (k + 1) (hs ++ [u]) (w6.setCell ⟨sb, 2, none⟩ hv') := by
  have hbz : Below wr.heap.size wr wz := hb.trans (hz.mono hb.size)
  have hsw : w3.heap.size ≤ wr.heap.size := h.upd.size
  have hvl : ∀ g, hv.ownBlock = some g → g < wr.heap.size := h.own.lt
  have hne : hv.ownBlock ≠ some sb := fun e => by have := h.new sb e; have := h.sz; omega
  have hnew' : ∀ g, hv'.ownBlock = some g → w3.heap.size ≤ g ∧ (hv.ownBlock = some g ∨ g = wz.heap.size) := fun g hg => by
    rcases b1 with b1 | b1
    · rw [ownBlock_addr, b1, ← ownBlock_addr] at hg
      exact ⟨h.new g hg, .inl hg⟩
    · rw [ownBlock_addr, b1] at hg
      cases hg
      exact ⟨Nat.le_trans hsw hbz.size, .inr rfl⟩
  have hu6 : Upd (fun g => hv.ownBlock = some g) wz w6 := ⟨g1.os, g1.tape, g1.output, g1.size, fun g hg hS => g1.block g hg (fun e => hS e.symm)⟩
  have hk : k = hs.length := by have := h.own.1; omega
  have hne2 : ∀ g, hv'.ownBlock = some g → g ≠ sb := fun g hg e => by have := (hnew' g hg).1; have := h.sz; omega
  refine ⟨?_, ?_, fun g hg => (hnew' g hg).1, fun i m hi hm => ?_, ?_, h.sz⟩
  · have h1 : Blk wz sb #[pv, lv, hv] 78 := h.box.below hbz
    have h2 : Blk w6 sb #[pv, lv, hv] 78 := h1.upd hu6 hne
    have := h2.set 2 hv'
    exact this
  · exact o1.other (fun g hg e => hne2 g hg e) hv'
  · by_cases hik : i < k
    · obtain ⟨u', r1, r2, r3⟩ := h.row i m hik hm
      refine ⟨u', by rw [List.getElem?_append_left (by omega)]; exact r1, ?_, fun g hg => ?_⟩
      · have a1 : RdSl wz 2 u' (D.hist m).length (flat (D.hist m)) := r2.below hbz
        have a2 := a1.upd hu6 (fun g hg e => (r3 g hg).2.2 e)
        exact a2.upd ((Upd.refl (· = sb) w6).setCell (fun _ => rfl) hv') (fun g hg e => by have := (r3 g hg).1; have := h.sz; omega)
      · obtain ⟨c1, c2, c3⟩ := r3 g hg
        have hsz : wr.heap.size ≤ wz.heap.size := hbz.size
        refine ⟨c1, by have := hu6.size; simp; omega, fun e => ?_⟩
        rcases (hnew' g e).2 with h5 | h5
        · exact c3 h5
        · omega
    · obtain rfl : i = k := by omega
      rw [hl] at hm
      cases hm
      refine ⟨u, by rw [List.getElem?_append_right (by omega), hk, Nat.sub_self]; rfl, ?_, fun g hg => ?_⟩
      · have a1 : RdSl wz 2 u (D.hist l).length (flat (D.hist l)) := hu.below hz
        have a2 := a1.upd hu6 (fun g hg e => by have := (hn g hg).1; have := hvl g e; omega)
        exact a2.upd ((Upd.refl (· = sb) w6).setCell (fun _ => rfl) hv') (fun g hg e => by have := (hn g hg).1; have := h.sz; omega)
      · obtain ⟨c1, c2⟩ := hn g hg
        have hsz5 := hz.size
        refine ⟨by omega, by have := hu6.size; simp; omega, fun e => ?_⟩
        rcases (hnew' g e).2 with h5 | h5
        · have := hvl g h5; omega
        · omega
  · have u1 : Upd (· = sb) w3 wz := h.upd.trans (Upd.of_below (S := fun _ => False) hbz) (fun _ _ h => h.elim)
    have u2 : Upd (· = sb) w3 w6 := u1.trans hu6 (fun g hg hS => by have := h.new g hS; omega)
    exact u2.setCell (fun _ => rfl) hv'
theorem ExSt.mid (h : ExSt w3 D sb pv lv hv k hs wr) {wz : World} (hz : Below wr.heap.size wr wz) (g1 : wz.grownBy w6 hv.ownBlock) : Blk w6 sb #[pv, lv, hv] 78 := by
  have hne : hv.ownBlock ≠ some sb := fun e => by have := h.new sb e; have := h.sz; omega
  have hu6 : Upd (fun g => hv.ownBlock = some g) wz w6 := ⟨g1.os, g1.tape, g1.output, g1.size, fun g hg hS => g1.block g hg (fun e => hS e.symm)⟩
  exact (h.box.below hz).upd hu6 hne
set_option maxRecDepth 100000 in
set_option maxHeartbeats 8000000 in
theorem examine_any (h : IsDev w v own D) (hvb : D.VB) (hx : D.exec < 4294967296) :
    Calls Tryz.prog 28 #[.pointer (some ⟨v.db, 0, none⟩)] w fun r w' => ∃ (pg : Nat) (lv hv : Value) (hs : List Value), r = .returned (.agg #[.slice (some ⟨pg, 0, none⟩) (64 * D.n) (64 * D.n), lv, hv]) ∧ ExAt D pg lv hv hs w' ∧ Below w.heap.size w w' := by
  obtain ⟨i0, hi0, hz0, hz1, hz2⟩ := info_parts infoSlW
  have I := Lib.hid (And.intro hi0 (And.intro hz0 (And.intro hz1 hz2))); clear hi0 hz0 hz1 hz2
  have hn := h.wf.le
  have B0 := Lib.hid (below_alloc w (.cells #[.slice none 0 0, .slice none 0 0, .slice none 0 0] 78))
  have X0 := Lib.hid (Blk.new w #[.slice none 0 0, .slice none 0 0, .slice none 0 0] 78)
  have H0 := Lib.hid (h.below B0.out)
  have HOW : Hid (∀ g, w.heap.size ≤ g → own g = none) := fun g hg => by
    cases e : own g with
    | none => rfl
    | some r => have := h.lt g (by rw [e]; simp); omega
  have HPS := Lib.hid (persisted_any H0.out hvb)
  unfold BytesPost at HPS
  have HDR := Lib.hid (fun (wx : World) (hd : IsDev wx v own D) => dirty_any hd)
  have HH := Lib.hid (fun (wx : World) (hd : IsDev wx v own D) (l : Nat) (hl : l < D.n) => hist_any hd l hl hx)
  have HDL : Hid (∀ l ∈ D.dirtyL, l < D.n) := fun l hl => by
    have := (List.mem_filter.1 hl).1; simpa using this
  have hdl : D.dirtyL.length ≤ D.n := by unfold Dev.dirtyL; exact filt_len D D.n
  clear h hvb hx
  go_enter Tryz.func28, Tryz.ntmps28
  go_wp2_with fail
  (with_reducible refine HPS.out.mono ?_)
  rintro r w1 ⟨rfl, row, b1⟩
  have H1 := Lib.hid (H0.out.below b1)
  have B1 := Lib.hid (B0.out.trans (b1.mono B0.out.size))
  have X1 := Lib.hid (X0.out.below b1)
  have RW1 := Lib.hid row
  clear row b1 HPS H0 B0 X0
  go_wp2_with fail
  (with_reducible refine (HDR.out _ H1.out).mono ?_)
  rintro r w2 ⟨lv, rfl, ha⟩
  obtain ⟨la, lc, rfl⟩ := ha.slice
  obtain ⟨pg, hpg⟩ : ∃ pg, (w.alloc (.cells #[.slice none 0 0, .slice none 0 0, .slice none 0 0] 78)).heap.size = pg := ⟨_, rfl⟩
  rw [hpg] at RW1
  have hpg2 : w.heap.size + 1 = pg := by rw [← hpg]; simp
  try rw [World.size_alloc]
  rw [hpg2]
  have H2 := Lib.hid (H1.out.below ha.bel)
  have B2 := Lib.hid (B1.out.trans (ha.bel.mono B1.out.size))
  have X2 := Lib.hid (X1.out.below ha.bel)
  have RW2 := Lib.hid (RW1.out.below ha.bel)
  have LV2 := Lib.hid ha.rd
  have LVN := Lib.hid (ha.own.lt)
  have hpl : pg < w2.heap.size := RW2.out.lt
  have hxl : w.heap.size < w2.heap.size := X2.out.lt
  obtain ⟨m, hm⟩ : ∃ m, D.dirtyL.length = m := ⟨_, rfl⟩
  rw [hm] at LV2 LVN hdl ⊢
  have HM := Lib.hid hm
  obtain ⟨N, hN⟩ : ∃ N, 64 * D.n = N := ⟨_, rfl⟩
  rw [hN] at RW2 ⊢
  have HN := Lib.hid hN
  have HLG : Hid (∀ g, (Value.slice la m lc).ownBlock = some g → w.heap.size < g) := fun g hg => Nat.lt_of_lt_of_le X1.out.lt (ha.new g (by rw [hm]; exact hg))
  clear ha hpg H1 B1 X1 RW1 HDR hm hN
  go_wp2_with fail
  have S0 : Hid (ExSt (w2.alloc (.cells #[.slice (some ⟨pg, 0, none⟩) N N, .slice la m lc, .slice none 0 0] 78)) D w2.heap.size (.slice (some ⟨pg, 0, none⟩) N N) (.slice la m lc) (.slice none 0 0) 0 [] (w2.alloc (.cells #[.slice (some ⟨pg, 0, none⟩) N N, .slice la m lc, .slice none 0 0] 78))) :=
    ⟨Blk.new w2 _ _, OwnSl.nil _ _ _, fun g hg => by simp [Value.ownBlock] at hg, fun i l hi => by omega, Upd.refl _ _, by simp⟩
  have B3 := Lib.hid (B2.out.trans ((below_alloc w2 (.cells #[.slice (some ⟨pg, 0, none⟩) N N, .slice la m lc, .slice none 0 0] 78)).mono B2.out.size))
  have H3 := Lib.hid (H2.out.below (below_alloc w2 (.cells #[.slice (some ⟨pg, 0, none⟩) N N, .slice la m lc, .slice none 0 0] 78)))
  have X3 := Lib.hid (X2.out.below (below_alloc w2 (.cells #[.slice (some ⟨pg, 0, none⟩) N N, .slice la m lc, .slice none 0 0] 78)))
  have RW3 := Lib.hid (RW2.out.below (below_alloc w2 (.cells #[.slice (some ⟨pg, 0, none⟩) N N, .slice la m lc, .slice none 0 0] 78)))
  have LV3 := Lib.hid (LV2.out.below (below_alloc w2 (.cells #[.slice (some ⟨pg, 0, none⟩) N N, .slice la m lc, .slice none 0 0] 78)))
  obtain ⟨w3, hw3⟩ : ∃ w3, w2.alloc (.cells #[.slice (some ⟨pg, 0, none⟩) N N, .slice la m lc, .slice none 0 0] 78) = w3 := ⟨_, rfl⟩
  have c1 : w3.cell? ⟨w2.heap.size, 1, none⟩ = some (.slice la m lc) := by rw [← hw3]; exact (Blk.new w2 _ _).cell rfl
  rw [hw3] at S0 B3 H3 X3 RW3 LV3 ⊢
  have hsb : w2.heap.size < w3.heap.size := by rw [← hw3]; simp
  obtain ⟨sb, hsbd⟩ : ∃ sb, w2.heap.size = sb := ⟨_, rfl⟩
  have HSN : Hid (own sb = none) := by show _ = _; rw [← hsbd]; exact HOW.out _ (Nat.le_of_lt hxl)
  rw [hsbd] at S0 hpl hxl hsb c1 ⊢
  have HLN : Hid (∀ g, (Value.slice la m lc).ownBlock = some g → g < sb) := fun g hg => by rw [← hsbd]; exact LVN.out g hg
  clear hw3 hsbd B2 H2 X2 RW2 LV2 LVN HOW c1
  go_loopw [5, 14] (fun _ y wr => ∃ k : Nat, k ≤ m ∧ y = .int .i64 k ∧ ∃ hv hs, ExSt w3 D sb (.slice (some ⟨pg, 0, none⟩) N N) (.slice la m lc) hv k hs wr) (fun _ y _ => m - (intOf y).toNat)
  case atStart => exact ⟨0, by omega, rfl, _, _, S0.out⟩
  case round =>
    clear S0
    obtain ⟨k, hk, rfl, hv, hs, hst⟩ := hrel
    rename World => wr
    obtain ⟨qa, qc, rfl⟩ := hst.own.slice
    have S := Lib.hid hst
    clear hst
    have hwr : w3.heap.size ≤ wr.heap.size := S.out.upd.size
    by_cases hlt : k < m
    · have hlt' : (k : Int) < m := by omega
      obtain ⟨l, hl⟩ : ∃ l, D.dirtyL[k]? = some l := ⟨_, List.getElem?_eq_getElem (by rw [HM.out]; exact hlt)⟩
      have hln := HDL.out l (List.mem_of_getElem? hl)
      have DV := Lib.hid (H3.out.upd S.out.upd (fun g hg e => hg (by rw [e]; exact HSN.out)))
      obtain ⟨_, _, _, e', _, hE⟩ := (show RdSl wr 1 (.slice la m lc) m (natsI D.dirtyL) from LV3.out.upd S.out.upd (fun g hg e => by have := HLN.out g hg; omega))
      cases e'
      have hxl2 : (natsI D.dirtyL)[k]? = some (.int .i64 l) := by simp [natsI, hl]
      obtain ⟨lb, lo, rfl, hE2⟩ := rd_at hE hxl2
      have c1 := hE2 k _ hxl2
      have c2 := S.out.box.cell (i := 2) (v := .slice qa k qc) rfl
      have HL := Lib.hid hl
      have hsbw : sb < wr.heap.size := by omega
      clear hE hE2 hxl2 hl
      go_wp2_with fail
      go_region_law (first | (go_simp; go_at_call 108; (with_reducible refine (HH.out _ (DV.out.below ((Below.refl _ _).drew)) l hln).mono ?_); rintro r w5 ⟨u, rfl, u1, u2, u3⟩; obtain ⟨ua, uc, rfl⟩ := u1.slice; have U := Lib.hid (And.intro u1 (And.intro u2 u3)); have B5 : Hid (Below wr.heap.size wr w5) := ((Below.refl _ _).drew).trans u3; have c2 := (S.out.box.below B5.out).cell (i := 2) (v := .slice qa k qc) rfl; have hs5 := Nat.lt_of_lt_of_le hsbw B5.out.size; clear u1 u2 u3) | (refine step_append_sl (w := w5.alloc (.cells #[.slice ua (D.hist l).length uc] 82)) rfl (.tmp 19) (.tmp 23) 76 rfl 82 i0 _ 1 24 Tryz.underlying76 I.out.1 I.out.2.1 I.out.2.2.1 I.out.2.2.2 rfl (by decide) (.slice qa k qc) k hs rfl (by exact (S.out.own.kept (fun g hg => B5.out.block g (S.out.own.lt g hg))).alloc _) _ 1 [.slice ua (D.hist l).length uc] rfl (by exact RdSl.newAt w5 _ 82 1 1 _ rfl rfl) (fun x hx => by rw [List.mem_singleton] at hx; subst hx; rfl) (by unfold maxLen; omega) (by omega) ?_; intro v1 w6 o1 g1 b1; obtain ⟨va, vc, rfl⟩ := o1.slice; have S6 := Lib.hid (S.out.step HL.out U.out.1.rd (fun g hg => ⟨U.out.2.1 g hg, U.out.1.lt g hg⟩) B5.out (below_alloc w5 _) o1 g1 b1); have K6 := Lib.hid (S.out.mid (B5.out.trans ((below_alloc w5 _).mono B5.out.size)) g1); have c6 := K6.out.cell (i := 2) (v := .slice qa k qc) rfl; have f6 := K6.out.frozen 2; clear o1 g1 b1))
      all_goals
        go_wp2_with fail
        go_roundw
        case rel => exact ⟨k + 1, by omega, by go_num, _, _, S6.out⟩
        case measure => simp [intOf]; omega
    · obtain rfl : k = m := by omega
      have XR := Lib.hid (X3.out.upd S.out.upd (fun e => by have e' : w.heap.size = sb := e; omega))
      have RWR := Lib.hid (RW3.out.upd S.out.upd (fun e => by have e' : pg = sb := e; omega))
      have LVR := Lib.hid (LV3.out.upd S.out.upd (fun g hg e => by have := HLN.out g hg; omega))
      have c0 := S.out.box.cell (i := 0) (v := .slice (some ⟨pg, 0, none⟩) N N) rfl
      have c1 := S.out.box.cell (i := 1) (v := .slice la k lc) rfl
      have c2 := S.out.box.cell (i := 2) (v := .slice qa k qc) rfl
      have d0 := XR.out.cell (i := 0) (v := .slice none 0 0) rfl
      have d1 := XR.out.cell (i := 1) (v := .slice none 0 0) rfl
      have d2 := XR.out.cell (i := 2) (v := .slice none 0 0) rfl
      have f0 := XR.out.frozen 0
      have f1 := XR.out.frozen 1
      have f2 := XR.out.frozen 2
      have BR := Lib.hid (B3.out.trans (show Below w.heap.size w3 wr from ⟨S.out.upd.os, S.out.upd.tape, S.out.upd.output, S.out.upd.size, fun g hg => S.out.upd.block g (by omega) (fun e => by have e' : g = sb := e; omega)⟩))
      have HU : Hid (Upd (· = w.heap.size) wr (((wr.setCell ⟨w.heap.size, 0, none⟩ (.slice (some ⟨pg, 0, none⟩) N N)).setCell ⟨w.heap.size, 1, none⟩ (.slice la k lc)).setCell ⟨w.heap.size, 2, none⟩ (.slice qa k qc))) := (((Upd.refl (· = w.heap.size) wr).setCell (fun _ => rfl) _).setCell (fun _ => rfl) _).setCell (fun _ => rfl) _
      go_wp2_with fail
      refine bodyPost_ret (v := .agg #[.slice (some ⟨pg, 0, none⟩) N N, .slice la k lc, .slice qa k qc]) (by simp [results, Tryz.results28, go_sem, d0, d1, d2]) rfl ⟨pg, .slice la k lc, .slice qa k qc, hs, by rw [HN.out], ?_, ?_⟩
      · refine ⟨by rw [HN.out]; exact RWR.out.upd HU.out (fun e => by have e' : pg = w.heap.size := e; omega), ?_, ?_, fun i l hl => ?_⟩
        · rw [HM.out]
          exact LVR.out.upd HU.out (fun g hg e => by have := HLG.out g hg; have e' : g = w.heap.size := e; omega)
        · rw [HM.out]
          exact S.out.own.rd.upd HU.out (fun g hg e => by have := S.out.new g hg; have e' : g = w.heap.size := e; omega)
        · obtain ⟨u, r1, r2, r3⟩ := S.out.row i l (by have := (List.getElem?_eq_some_iff.1 hl).1; rw [HM.out] at this; exact this) hl
          exact ⟨u, r1, r2.upd HU.out (fun g hg e => by have := (r3 g hg).1; have e' : g = w.heap.size := e; omega)⟩
      · exact ((BR.out.setCell (Nat.le_refl _) _).setCell (Nat.le_refl _) _).setCell (Nat.le_refl _) _
end
end Go.Proofs.YtahpadhejjlpoaaGreatDoor
