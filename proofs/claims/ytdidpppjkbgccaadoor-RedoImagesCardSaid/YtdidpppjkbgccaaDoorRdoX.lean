/- The walk of RedoAtomic. -/
import Derived.Test.YtdidpppjkbgccaaDoorRdoN
import Derived.Test.YtdidpppjkbgccaaDoorDevI
import Derived.Test.YtdidpppjkbgccaaDoorDevK
import Derived.Laws.IdiomArrays
import Derived.Deep.RegionHeld3
namespace Go.Proofs.YtdidpppjkbgccaaDoor
open Go.RowKit Go.Maps
attribute [local go_sem ↓] Go.wp_at_zero Go.wp_at_succ

theorem fresh40 {w : World} {v : DV} {own : Nat → Option Role} {n : Nat} {f g : Nat → Int} (h : IsDev w v own (Dev.fresh n f)) (hfg : ∀ i, i < 8 * n → f i = g i) : IsDev w v own (Dev.fresh n g) :=
  { wf := ⟨h.wf.pos, h.wf.le, h.wf.line, h.wf.cnt, h.wf.note, h.wf.left⟩, dev := h.dev, pers := h.pers.congr (fun i hi => by show Value.int .u64 (f i) = .int .u64 (g i); rw [hfg i hi]), cur := h.cur.congr (fun i hi => by show Value.int .u64 (f i) = .int .u64 (g i); rw [hfg i hi]),
    lines := h.lines, thr := h.thr, notes := h.notes, odb := h.odb, opb := h.opb, ocb := h.ocb, olb := h.olb, otb := h.otb, onb := h.onb, lt := h.lt, pcs := h.pcs }
/-- The crash of a device of 40 lines. -/
theorem crash40 {w : World} {v : DV} {own : Nat → Option Role} {D : Dev} (hL : IsDev w v own D) (hn : D.n = 40) (hvb : D.VB) (cv : Value) (cs : List Int) (hc : RdSl w 1 cv cs.length (cs.map fun x => .int .u8 x)) (hcb : ∀ x ∈ cs, 0 ≤ x ∧ x < 256) (hcl : cs.length ≤ maxLen) (hex : D.exec < 4611686018427387904) :
    Calls Tryd.prog 18 #[.pointer (some ⟨v.db, 0, none⟩), cv] w fun r w' => ∃ (ks : Nat → Nat) (v' : DV) (own' : Nat → Option Role), r = .returned (.pointer (some ⟨v'.db, 0, none⟩)) ∧ IsDev w' v' own' (Dev.fresh 40 (D.img ks)) ∧ (∀ k, own' k ≠ none → w.heap.size ≤ k) ∧ Below w.heap.size w w' := by
  refine (crash_any hL hvb cv cs hc hcb hcl hex).mono ?_
  rintro r w' ⟨ks, v', own', _, hr, ⟨f, hf, hd⟩, ho, hb⟩
  rw [hn] at hd hf
  exact ⟨ks, v', own', hr, fresh40 hd hf, ho, hb⟩
/-- The law's two slices of bytes and the device. -/
structure Rw (w1 : World) (v : DV) (lb go gn : Nat) (D : Dev) (C N : Nat → Int) (own : Nat → Option Role) (wc : World) : Prop where
  st : RSt w1 v own D lb 0 320 1664 wc
  ro : BRow wc go C
  rn : BRow wc gn N
  fo : own go = none
  fn : own gn = none
section
variable {w1 wc wd : World} {v : DV} {lb go gn y : Nat} {D : Dev} {C N X f : Nat → Int} {own : Nat → Option Role}
theorem Rw.next (h : Rw w1 v lb go gn D C N own wc) (hb : Below wc.heap.size wc wd) : Rw w1 v lb go gn D C N own wd := ⟨h.st.next hb, h.ro.below hb, h.rn.below hb, h.fo, h.fn⟩
theorem Rw.step (h : Rw w1 v lb go gn D C N own wc) {own' : Nat → Option Role} {D' : Dev} (l : RSt w1 v own' D' lb 0 320 1664 wd) (m : Mv own own' wc wd) : Rw w1 v lb go gn D' C N own' wd :=
  ⟨l, h.ro.upd m.upd (by simpa using h.fo), h.rn.upd m.upd (by simpa using h.fn), by rw [m.old go h.ro.lt]; exact h.fo, by rw [m.old gn h.rn.lt]; exact h.fn⟩
/-- A new device and its log. -/
theorem Rw.other (h : Rw w1 v lb go gn D C N own wc) (hb : Below wc.heap.size wc wd) {v' : DV} {own' : Nat → Option Role} {D' : Dev} {lb' : Nat} (hl : RLog wd v' own' D' lb' 0 320 1664) (ho : ∀ k, own' k ≠ none → wc.heap.size ≤ k) (hlb : wc.heap.size ≤ lb') : Rw w1 v' lb' go gn D' C N own' wd :=
  ⟨⟨hl, fun k hk => Nat.le_trans h.st.bel.size (ho k hk), Nat.le_trans h.st.bel.size hlb, h.st.bel.trans (hb.mono h.st.bel.size)⟩, h.ro.below hb, h.rn.below hb,
    by cases e : own' go with
      | none => rfl
      | some r => have := ho go (by rw [e]; simp); have := h.ro.lt; omega,
    by cases e : own' gn with
      | none => rfl
      | some r => have := ho gn (by rw [e]; simp); have := h.rn.lt; omega⟩
/-- Recover of a good image, wherever the power fails. -/
theorem recov15 (h : RSt w1 v own D lb 0 320 1664 wc) (hN : Nib wc) (hc : RCl D f y) (hy : y < 1000000) (hG : Good X f) :
    Calls Tryd.prog 21 #[.pointer (some ⟨lb, 0, none⟩)] wc fun r w' => ∃ (own' : Nat → Option Role) (D' : Dev) (m e : Int), r = .returned (.tuple #[.int .i64 m, .int .i64 e]) ∧ RSt w1 v own' D' lb 0 320 1664 w' ∧ Mv own own' wc w' ∧
      D'.n = 40 ∧ D'.VB ∧ D'.exec ≤ y + 1000 ∧ ((e = 0 ∧ OutR D'.pers X) ∨ (D.armed = true ∧ e = 3 ∧ ∀ ks, Good X (D'.img ks))) := by
  have hP := rdRecover_any hN h.log hc.grp.on.off hc.grp.on.err hc.vb (by have := hc.exec; omega)
  rw [hc.grp.on.n, hc.cur] at hP
  refine hP.mono ?_
  have hG' := hG
  have hex := hc.exec
  obtain ⟨hg1, hg2⟩ := hG
  rintro r w' (⟨h1, rfl, hb⟩ | ⟨h1, _⟩ | ⟨h1, hp, hr⟩)
  · have h1 : (lk f).1 = 1 := h1
    refine ⟨own, D, 0, 0, rfl, h.next hb, Mv.of_below hb, hc.grp.on.n, hc.vb, by omega, .inl ⟨rfl, ?_⟩⟩
    rw [hc.pers]
    have e : rRes f = f := funext fun i => by unfold rRes; rw [if_neg (by rw [h1]; decide)]
    rw [e] at hg2; exact hg2
  · have h1 : (lk f).1 = 3 := h1
    rcases hg1 with hg1 | hg1 <;> rw [h1] at hg1 <;> cases hg1
  · have h1 : (lk f).1 = 2 := h1
    have hl : lk f = (2, (lk f).2) := by rw [← h1]
    obtain ⟨hn, hvb, hx, ho⟩ := hc.recov hG' hl
    obtain ⟨own', l', m'⟩ := h.stepM (run_n 0 _ D) hp
    have hlen := rFinP_len 320 (lk f).2
    have hwl := (lk_two hc.bd hl).1.len
    have hx' : (D.run 0 (rFinP 320 (lk f).2)).exec ≤ y + 1000 := by
      have hx1 : (D.run 0 (rFinP 320 (lk f).2)).exec ≤ y + (rFinP 320 (lk f).2).length := hx
      omega
    rcases ho with ⟨he, hout⟩ | ⟨ha, he, hg⟩
    · rcases hr with ⟨_, rfl⟩ | ⟨hne, _⟩
      · exact ⟨own', _, _, _, rfl, l', m', hn, hvb, hx', .inl ⟨rfl, hout⟩⟩
      · exact absurd he hne
    · rcases hr with ⟨h0, _⟩ | ⟨_, rfl⟩
      · have : (D.run 0 (rFinP 320 (lk f).2)).err 0 = 3 := he
        rw [show (rLook 2560 320 1664 f).2 = (lk f).2 from rfl] at h0
        rw [this] at h0; cases h0
      · exact ⟨own', _, _, _, rfl, l', m', hn, hvb, hx', .inr ⟨ha, he, hg⟩⟩
theorem persisted15 (h : IsDev wc v own D) (hn : D.n = 40) (hvb : D.VB) : Calls Tryd.prog 22 #[.pointer (some ⟨v.db, 0, none⟩)] wc
    fun r w' => r = .returned (.slice (some ⟨wc.heap.size, 0, none⟩) 2560 2560) ∧ BRow w' wc.heap.size D.pers ∧ Below wc.heap.size wc w' := by
  have := persisted_any h hvb
  unfold BytesPost at this
  rw [hn] at this
  exact this
theorem open15 (h : IsDev wc v own D) (hn : D.n = 40) : Calls Tryd.prog 19 #[.iface 54 (.pointer (some ⟨v.tb 0, 0, none⟩)), .int .i64 5, .int .i64 26] wc (OpenPost wc v own D 0 320 1664) :=
  rdOpen_ok h (j := 0) (by omega) 5 26 (by omega) (by rw [hn]; omega)
/-- Behind the last recovery. -/
structure Fin (w1 : World) (v : DV) (lb go gn : Nat) (D : Dev) (C N X : Nat → Int) (own : Nat → Option Role) (wc : World) : Prop where
  rw' : Rw w1 v lb go gn D C N own wc
  n : D.n = 40
  vb : D.VB
  out : OutR D.pers X
theorem Fin.next (h : Fin w1 v lb go gn D C N X own wc) (hb : Below wc.heap.size wc wd) : Fin w1 v lb go gn D C N X own wd := ⟨h.rw'.next hb, h.n, h.vb, h.out⟩
end
section
variable {w : World}
set_option maxRecDepth 100000 in
set_option maxHeartbeats 64000000 in
theorem redoAtomic_any (hN : Nib w) (hW : Wr w) (bv lv : Value) (l0 l : List (Nat × Int)) (hb0 : RdSl w 2 bv l0.length (pairC l0)) (hbl : RdSl w 2 lv l.length (pairC l)) (ho0 : ∀ e ∈ l0, e.1 < 256 ∧ 0 ≤ e.2 ∧ e.2 < 18446744073709551616) (hol : ∀ e ∈ l, e.1 < 256 ∧ 0 ≤ e.2 ∧ e.2 < 18446744073709551616) (hm0 : l0.length ≤ maxLen) (hml : l.length ≤ maxLen)
    (c0 c1 c2 c3 : Int) (h0 : 0 ≤ c0 ∧ c0 < 65536) (h1 : 0 ≤ c1 ∧ c1 < 65536) (h2 : 0 ≤ c2 ∧ c2 < 65536) (h3 : 0 ≤ c3 ∧ c3 < 65536) :
    Calls Tryd.prog 4 #[bv, lv, .agg #[.int .u16 c0, .int .u16 c1, .int .u16 c2, .int .u16 c3]] w fun r w' => r = .returned (.bool true) ∧ Below w.heap.size w w' := by
  have HNB := Lib.hid hN; have HWR := Lib.hid hW; clear hN hW
  have HS0 := Lib.hid (And.intro hb0 (And.intro ho0 hm0)); have HSL := Lib.hid (And.intro hbl (And.intro hol hml))
  obtain ⟨_, sa0, sc0, rfl, hsc0, _⟩ := hb0
  obtain ⟨_, sal, scl, rfl, hscl, _⟩ := hbl
  generalize hn0 : l0.length = n0 at *
  generalize hnl : l.length = nl at *
  have HLN := Lib.hid (And.intro hn0 hnl)
  have HBX := Lib.hid (below_alloc w (.cells #[.int .u16 c0, .int .u16 c1, .int .u16 c2, .int .u16 c3] 48))
  have hm1 : 0 ≤ c1 % 256 ∧ c1 % 256 < 256 := by omega
  have hm2 : 0 ≤ c1 / 256 ∧ c1 / 256 < 256 := by omega
  have hm3 : 0 ≤ c3 % 256 ∧ c3 % 256 < 256 := by omega
  have hm4 : 0 ≤ c3 / 256 ∧ c3 / 256 < 256 := by omega
  obtain ⟨k2, hk2⟩ : ∃ k2 : Nat, (k2 : Int) = c0 % 700 := ⟨(c0 % 700).toNat, by omega⟩
  obtain ⟨k3, hk3⟩ : ∃ k3 : Nat, (k3 : Int) = c2 % 400 := ⟨(c2 % 400).toNat, by omega⟩
  have q1 : c0 % 700 = (k2 : Int) := hk2.symm
  have q2 : c0.tmod 700 = (k2 : Int) := by rw [Int.tmod_eq_emod_of_nonneg h0.1]; omega
  have q3 : c2 % 400 = (k3 : Int) := hk3.symm
  have q4 : c2.tmod 400 = (k3 : Int) := by rw [Int.tmod_eq_emod_of_nonneg h2.1]; omega
  have hk700 : k2 < 700 := by omega
  have hk400 : k3 < 400 := by omega
  have HB1 : Hid (∀ x ∈ [c1 % 256, c1 / 256], 0 ≤ x ∧ x < 256) := fun x hx => by simp at hx; rcases hx with rfl | rfl <;> omega
  have HB3 : Hid (∀ x ∈ [c3 % 256, c3 / 256], 0 ≤ x ∧ x < 256) := fun x hx => by simp at hx; rcases hx with rfl | rfl <;> omega
  have HR1 := Lib.hid (fun wx : World => RdSl.new wx #[.int .u8 (c1 % 256), .int .u8 (c1 / 256)] 5 1 2 rfl)
  have HR3 := Lib.hid (fun wx : World => RdSl.new wx #[.int .u8 (c3 % 256), .int .u8 (c3 / 256)] 5 1 2 rfl)
  clear hk2 hk3 hm1 hm2 hm3 hm4 ho0 hol hm0 hml hn0 hnl
  go_enter Tryd.func4, Tryd.ntmps4
  go_wp2_with fail
  (with_reducible refine (awake15 (HNB.out.below HBX.out)).mono ?_)
  rintro e w1 ⟨rfl, b1⟩
  have B1 := Lib.hid (HBX.out.trans (b1.mono HBX.out.size))
  have BK1 : Hid (Blk w1 w.heap.size #[.int .u16 c0, .int .u16 c1, .int .u16 c2, .int .u16 c3] 48) := (Blk.new w _ _).upd (Upd.of_below (S := fun _ => False) b1) (fun h => h)
  clear b1 HBX
  go_wp2_with fail
  (with_reducible refine made15.mono ?_)
  rintro e w2 ⟨v, own, lb, rfl, l2⟩
  have L2 := Lib.hid l2; clear l2
  have HGD := Lib.hid (l15good_any (.slice sa0 n0 sc0) l0 (by rw [HLN.out.1]; exact HS0.out.1.below (B1.out.trans (L2.out.bel.mono B1.out.size))) (fun e he => (HS0.out.2.1 e he).1) (by rw [HLN.out.1]; exact HS0.out.2.2))
  have HBD : Hid (∀ e ∈ l0, 0 ≤ e.2 ∧ e.2 < 18446744073709551616) := fun e he => (HS0.out.2.1 e he).2
  have hgl := goodL_len l0
  have HGB := Lib.hid (goodL_bd HBD.out)
  go_wp2_with fail
  (with_reducible refine HGD.out.mono ?_)
  rintro e w3 ⟨ov, rfl, a3⟩
  obtain ⟨oa, oc, hov⟩ := a3.slice
  subst hov
  have HWT := Lib.hid (l15writes_any _ (goodL l0) a3.rd (fun e he => by have := (HGB.out e he).1; omega) (by omega))
  have L3 := Lib.hid (L2.out.next a3.bel)
  clear a3 HGD L2
  go_wp2_with fail
  (with_reducible refine HWT.out.mono ?_)
  rintro e w4 ⟨u4, v4, rfl, p4⟩
  have hgw : wrL (goodL l0) = gwL l0 := rfl
  rw [hgw] at p4
  obtain ⟨ua, uc, hu4⟩ := p4.a.slice
  subst hu4
  obtain ⟨va, vc, hv4⟩ := p4.b.slice
  subst hv4
  have L4 := Lib.hid (L3.out.next p4.a.bel)
  have HCM := Lib.hid (commit15 L4.out (HNB.out.below (B1.out.trans (L4.out.bel.mono B1.out.size))) D15_rcl.1 (by omega) C15_40 (.slice ua (gwL l0).length uc) l0 HBD.out p4.a.rd)
  have P4 := Lib.hid p4.b.rd
  clear p4 hgw HWT L3
  go_wp2_with fail
  (with_reducible refine HCM.out.mono ?_)
  rintro e w5 (⟨h96, rfl, b5⟩ | ⟨h96, rfl, p5⟩)
  · have HRW := Lib.hid (r15Writes_any (w := w5) (.slice va (gwL l0).length vc) (gwL l0) (P4.out.below b5) (by have := gwL_len l0; omega))
    have L5 := Lib.hid (L4.out.next b5); clear b5 HCM L4
    generalize hwl : (lastL (gwL l0)).length = wl at *
    have h96' : (96 : Int) < wl := by omega
    go_wp2_with fail
    (with_reducible refine HRW.out.mono ?_)
    rintro e w6 ⟨ov, rfl, a6⟩
    obtain ⟨za, zc, hz⟩ := a6.slice
    subst hz
    have L6 := Lib.hid (L5.out.next a6.bel); clear a6
    go_wp2_with fail
    go_ret
    exact ⟨rfl, B1.out.trans (L6.out.bel.mono B1.out.size)⟩
  have hWK := gwL_w HBD.out h96
  obtain ⟨hcl5, har5⟩ := D15_rcl.1.commit D15_rcl.2 hWK
  obtain ⟨hc50, _⟩ := cmtC_out hWK C15 C15_40
  have hpl := rPlanP_len 320 (lastL (gwL l0))
  obtain ⟨own5, l5, m5⟩ := L4.out.stepM (D' := D15.run 0 (rPlanP 320 (lastL (gwL l0)))) (run_n 0 _ D15) p5
  have HX5 := Lib.hid (And.intro (hcl5.mono (y := 1000) (by omega)) hc50)
  have L5 := Lib.hid l5
  have herr := hcl5.grp.on.err
  rw [herr]
  clear p5 l5 m5 hcl5 har5 hc50 herr hWK HCM L4 P4 h96
  generalize D15.run 0 (rPlanP 320 (lastL (gwL l0))) = D5 at *
  generalize cmtC (lastL (gwL l0)) C15 = C at *
  have HC := Lib.hid (current15 L5.out.log.dev HX5.out.1)
  go_wp2_with fail
  (with_reducible refine HC.out.mono ?_)
  rintro e w6 ⟨rfl, r6, b6⟩
  have R6 : Hid (Rw w1 v lb w5.heap.size w5.heap.size D5 C C own5 w6) := ⟨L5.out.next b6, r6, r6, own_none L5.out.log.dev (Nat.le_refl _), own_none L5.out.log.dev (Nat.le_refl _)⟩
  clear r6 b6 L5 HC HGB HBD
  generalize w5.heap.size = go at *
  have HGD := Lib.hid (l15good_any (.slice sal nl scl) l (by rw [HLN.out.2]; exact HSL.out.1.below (B1.out.trans (R6.out.st.bel.mono B1.out.size))) (fun e he => (HSL.out.2.1 e he).1) (by rw [HLN.out.2]; exact HSL.out.2.2))
  have HBD : Hid (∀ e ∈ l, 0 ≤ e.2 ∧ e.2 < 18446744073709551616) := fun e he => (HSL.out.2.1 e he).2
  have hgl := goodL_len l
  have HGB := Lib.hid (goodL_bd HBD.out)
  go_wp2_with fail
  (with_reducible refine HGD.out.mono ?_)
  rintro e w7 ⟨ov, rfl, a7⟩
  obtain ⟨oa, oc, hov⟩ := a7.slice
  subst hov
  have HWT := Lib.hid (l15writes_any _ (goodL l) a7.rd (fun e he => by have := (HGB.out e he).1; omega) (by omega))
  have R7 := Lib.hid (R6.out.next a7.bel)
  clear a7 HGD R6
  go_wp2_with fail
  (with_reducible refine HWT.out.mono ?_)
  rintro e w8 ⟨u8, v8, rfl, p8⟩
  have hgw : wrL (goodL l) = gwL l := rfl
  rw [hgw] at p8
  obtain ⟨ua, uc, hu8⟩ := p8.a.slice
  subst hu8
  obtain ⟨va, vc, hv8⟩ := p8.b.slice
  subst hv8
  have R8 := Lib.hid (R7.out.next p8.a.bel)
  have HRW := Lib.hid (r15Writes_any (w := w8) (.slice va (gwL l).length vc) (gwL l) p8.b.rd (by have := gwL_len l; omega))
  have V8 := Lib.hid (And.intro p8.a.rd p8.b.rd)
  have HUN : Hid ((∀ k, (Value.slice ua (gwL l).length uc).ownBlock = some k → own5 k = none ∧ k < w8.heap.size) ∧ (∀ k, (Value.slice va (gwL l).length vc).ownBlock = some k → own5 k = none ∧ k < w8.heap.size)) :=
    ⟨fun k hk => ⟨own_none R7.out.st.log.dev (p8.a.new k hk), p8.a.own.lt k hk⟩, fun k hk => ⟨own_none R7.out.st.log.dev (p8.b.new k hk), p8.b.own.lt k hk⟩⟩
  clear p8 hgw HWT R7
  obtain ⟨wl, hwl⟩ : ∃ wl, (lastL (gwL l)).length = wl := ⟨_, rfl⟩
  rw [hwl] at HRW
  have HWL := Lib.hid hwl; clear hwl
  by_cases h96 : 96 < wl
  · have h96' : (96 : Int) < wl := by omega
    go_wp2_with fail
    (with_reducible refine HRW.out.mono ?_)
    rintro e w9 ⟨ov, rfl, a9⟩
    obtain ⟨za, zc, hz⟩ := a9.slice
    subst hz
    have R9 := Lib.hid (R8.out.next a9.bel); clear a9
    go_wp2_with fail
    go_ret
    exact ⟨rfl, B1.out.trans (R9.out.st.bel.mono B1.out.size)⟩
  have h96' : ¬ (96 : Int) < wl := by omega
  have hWK := gwL_w HBD.out (by rw [HWL.out]; exact h96)
  go_wp2_with fail
  (with_reducible refine HRW.out.mono ?_)
  rintro e w9 ⟨ov, rfl, a9⟩
  obtain ⟨za, zc, hz⟩ := a9.slice
  subst hz
  have R9 := Lib.hid (R8.out.next a9.bel)
  have V9 : Hid (RdSl w9 2 (.slice ua (gwL l).length uc) (gwL l).length (flat (gwL l)) ∧ RdSl w9 2 (.slice va (gwL l).length vc) (gwL l).length (flat (gwL l))) := ⟨V8.out.1.below a9.bel, V8.out.2.below a9.bel⟩
  have hsz9 := a9.bel.size
  have BK9 := Lib.hid (BK1.out.upd (Upd.of_below (S := fun _ => False) R9.out.st.bel) (fun h => h))
  have y0 := BK9.out.cell (i := 0) (v := .int .u16 c0) rfl
  have HARM := Lib.hid (arm_any R9.out.st.log.dev k2 (by omega))
  have HXA := Lib.hid (HX5.out.1.arm k2)
  have HDN : Hid ((D5.arm k2).n = D5.n) := by show (D5.arm k2).n = D5.n; unfold Dev.arm; split <;> rfl
  clear a9 HRW R8 V8
  generalize D5.arm k2 = DA at *
  go_wp2_with fail
  (with_reducible refine HARM.out.mono ?_)
  rintro e w10 ⟨rfl, p10⟩
  obtain ⟨own10, l10, m10⟩ := R9.out.st.stepM (D' := DA) HDN.out p10
  have R10 := Lib.hid (R9.out.step l10 m10)
  have V10 : Hid (RdSl w10 2 (.slice ua (gwL l).length uc) (gwL l).length (flat (gwL l)) ∧ RdSl w10 2 (.slice va (gwL l).length vc) (gwL l).length (flat (gwL l))) := ⟨V9.out.1.upd m10.upd (fun k hk => by simpa using (HUN.out.1 k hk).1), V9.out.2.upd m10.upd (fun k hk => by simpa using (HUN.out.2 k hk).1)⟩
  have HU10 : Hid (∀ k, (Value.slice va (gwL l).length vc).ownBlock = some k → own10 k = none) := fun k hk => by
    rw [m10.old k (by have := (HUN.out.2 k hk).2; omega)]; exact (HUN.out.2 k hk).1
  have HCM := Lib.hid (commit15 R10.out.st (HNB.out.below (B1.out.trans (R10.out.st.bel.mono B1.out.size))) HXA.out (by omega) HX5.out.2 (.slice ua (gwL l).length uc) l HBD.out V10.out.1)
  obtain ⟨hE1, hE2, hE3, hE4⟩ := HXA.out.commit_cut HX5.out.2 hWK
  have HE := Lib.hid (And.intro hE1 (And.intro hE2 (And.intro hE3 hE4)))
  have hpl := rPlanP_len 320 (lastL (gwL l))
  rw [HWL.out] at hpl
  clear p10 l10 m10 HARM HDN V9 R9 HUN y0 BK9 hE1 hE2 hE3 hE4
  go_wp2_with fail
  (with_reducible refine HCM.out.mono ?_)
  rintro e w11 (⟨h97, _⟩ | ⟨_, rfl, p11⟩)
  · rw [HWL.out] at h97; exact absurd h97 h96
  obtain ⟨own11, l11, m11⟩ := R10.out.st.stepM (D' := DA.run 0 (rPlanP 320 (lastL (gwL l)))) (run_n 0 _ DA) p11
  have R11 := Lib.hid (R10.out.step l11 m11)
  have V11 : Hid (RdSl w11 2 (.slice va (gwL l).length vc) (gwL l).length (flat (gwL l))) := V10.out.2.upd m11.upd (fun k hk => by simpa using HU10.out k hk)
  have HAP := Lib.hid (l15applied_any R11.out.ro (Nat.le_refl _) (by unfold maxLen; omega) (.slice va (gwL l).length vc) (gwL l) V11.out (by have := gwL_len l; omega) (fun e he => by have h1 := gwL_ok HBD.out e he; have h2 := allow_out h1.1; exact ⟨h2.1, h2.2.1, h1.2⟩))
  have hNE : (fun i => look (lastL (gwL l)) (C i) i) = (fun i => look (gwL l) (C i) i) := funext fun i => gwL_look HBD.out _ i
  have HEE := HE.out
  rw [hNE] at HEE
  generalize DA.run 0 (rPlanP 320 (lastL (gwL l))) = E at *
  generalize (fun i => look (gwL l) (C i) i) = N at *
  obtain ⟨hn, hvb, hex, hgood⟩ := HEE
  obtain ⟨ε, hε⟩ : ∃ ε, E.err 0 = ε := ⟨_, rfl⟩
  rw [hε] at hgood
  have HG : Hid (∀ ks, ∃ X, Good X (E.img ks) ∧ (X = N ∨ (X = C ∧ ε = 3))) := fun ks => by
    rcases hgood with ⟨_, h⟩ | ⟨h3, h⟩
    · exact ⟨N, h ks, .inl rfl⟩
    · rcases h ks with h | h
      · exact ⟨C, h, .inr ⟨rfl, h3⟩⟩
      · exact ⟨N, h, .inl rfl⟩
  have HD : Hid (E.n = 40 ∧ E.VB ∧ E.exec < 4611686018427387904) := ⟨hn, hvb, by omega⟩
  rw [hε]
  clear p11 l11 m11 hNE HE hn hvb hex hgood hε HCM V10 V11 R10 HU10 hWK HXA HX5 D5 hpl
  go_wp2_with fail
  (with_reducible refine HAP.out.mono ?_)
  rintro e w12 ⟨gn, cn, rfl, hcn, hcn2, r12, hg12, b12⟩
  have R12 : Hid (Rw w1 v lb go gn E C N own11 w12) := ⟨R11.out.st.next b12, R11.out.ro.below b12, r12, R11.out.fo, own_none R11.out.st.log.dev hg12⟩
  clear r12 hg12 b12 HAP R11
  have BK12 := Lib.hid (BK1.out.upd (Upd.of_below (S := fun _ => False) R12.out.st.bel) (fun h => h))
  have y1 := BK12.out.cell (i := 1) (v := .int .u16 c1) rfl
  go_wp2_with fail
  (with_reducible refine (crash40 (R12.out.st.log.dev.alloc _) HD.out.1 HD.out.2.1 _ [c1 % 256, c1 / 256] (HR1.out w12) HB1.out (by unfold maxLen; simp) HD.out.2.2).mono ?_)
  rintro e w13 ⟨ks, v1, own13, rfl, d13, ho13, b13⟩
  have hf := HD.out.2.1.img ks
  obtain ⟨X, hX, hXN⟩ := HG.out ks
  generalize E.img ks = f at *
  have D13 := Lib.hid d13
  have HF := Lib.hid (And.intro hf (And.intro hX hXN))
  have B13 : Hid (Below w12.heap.size w12 w13) := (below_alloc w12 (.cells #[.int .u8 (c1 % 256), .int .u8 (c1 / 256)] 5)).trans (b13.mono (by simp))
  have HO13 : Hid ((∀ k, own13 k ≠ none → w12.heap.size ≤ k) ∧ w12.heap.size ≤ w13.heap.size) := ⟨fun k hk => by have := ho13 k hk; simp at this; omega, B13.out.size⟩
  have HOP := Lib.hid (open15 d13 rfl)
  clear d13 hf hX hXN b13 ho13 HD HG y1 BK12
  go_wp2_with fail
  (with_reducible refine (thread0_any D13.out).mono ?_)
  rintro e w' ⟨rfl, rfl⟩
  go_wp2_with fail
  (with_reducible refine HOP.out.mono ?_)
  rintro e w14 ⟨rfl, l14, b14⟩
  have R14 : Hid (Rw w1 v1 w13.heap.size go gn (Dev.fresh 40 f) C N own13 w14) := R12.out.other (B13.out.trans (b14.mono B13.out.size)) l14 HO13.out.1 HO13.out.2
  clear l14 b14 HOP HO13 B13 D13 R12
  generalize w13.heap.size = lb1 at *
  have BK14 := Lib.hid (BK1.out.upd (Upd.of_below (S := fun _ => False) R14.out.st.bel) (fun h => h))
  have y2 := BK14.out.cell (i := 2) (v := .int .u16 c2) rfl
  have HARM := Lib.hid (arm_any R14.out.st.log.dev k3 (by omega))
  have HXA := Lib.hid ((fresh_rcl HF.out.1).arm k3)
  have HDN : Hid (((Dev.fresh 40 f).arm k3).n = (Dev.fresh 40 f).n) := rfl
  generalize (Dev.fresh 40 f).arm k3 = DB at *
  go_wp2_with fail
  (with_reducible refine HARM.out.mono ?_)
  rintro e w15 ⟨rfl, p15⟩
  obtain ⟨own15, l15, m15⟩ := R14.out.st.stepM (D' := DB) HDN.out p15
  have R15 := Lib.hid (R14.out.step l15 m15)
  have HRC := Lib.hid (recov15 (X := X) R15.out.st (HNB.out.below (B1.out.trans (R15.out.st.bel.mono B1.out.size))) HXA.out (by omega) HF.out.2.1)
  clear p15 l15 m15 HARM HDN R14 y2 BK14 HXA
  go_wp2_with fail
  (with_reducible refine HRC.out.mono ?_)
  rintro e w16 ⟨own16, D16, m16, e16, rfl, l16, n16, hn16, hvb16, hex16, hor⟩
  have R16 := Lib.hid (R15.out.step l16 n16)
  have HD := Lib.hid (And.intro hn16 (And.intro hvb16 hex16))
  have HOR := Lib.hid hor
  clear l16 n16 hn16 hvb16 hex16 hor HRC R15
  go_upto_if 93 with fail
  go_cut [15, 16, 17] from 94 to 117 (fun c r f wx => ∃ (v' : DV) (own' : Nat → Option Role) (lb' : Nat) (D' : Dev), c = .pointer (some ⟨v'.db, 0, none⟩) ∧ f = .int .i64 0 ∧ Fin w1 v' lb' go gn D' C N X own' wx)
  case first =>
    rcases HOR.out with ⟨he, hout⟩ | ⟨_, he, hgd⟩
    · subst he
      have FN : Hid (Fin w1 v1 lb1 go gn D16 C N X own16 w16) := ⟨R16.out, HD.out.1, HD.out.2.1, hout⟩
      clear hout
      go_wp2_with fail
      go_meet
      exact ⟨v1, own16, lb1, D16, rfl, rfl, FN.out⟩
    · subst he
      have HG := Lib.hid hgd; clear hgd
      have BK16 := Lib.hid (BK1.out.upd (Upd.of_below (S := fun _ => False) R16.out.st.bel) (fun h => h))
      have y3 := BK16.out.cell (i := 3) (v := .int .u16 c3) rfl
      go_wp2_with fail
      (with_reducible refine (crash40 (R16.out.st.log.dev.alloc _) HD.out.1 HD.out.2.1 _ [c3 % 256, c3 / 256] (HR3.out w16) HB3.out (by unfold maxLen; simp) (by have := HD.out.2.2; omega)).mono ?_)
      rintro e w17 ⟨ks2, v2, own17, rfl, d17, ho17, b17⟩
      have hf := HD.out.2.1.img ks2
      have hX := HG.out ks2
      generalize D16.img ks2 = f2 at *
      have D17 := Lib.hid d17
      have HF2 := Lib.hid (And.intro hf hX)
      have B17 : Hid (Below w16.heap.size w16 w17) := (below_alloc w16 (.cells #[.int .u8 (c3 % 256), .int .u8 (c3 / 256)] 5)).trans (b17.mono (by simp))
      have HO17 : Hid ((∀ k, own17 k ≠ none → w16.heap.size ≤ k) ∧ w16.heap.size ≤ w17.heap.size) := ⟨fun k hk => by have := ho17 k hk; simp at this; omega, B17.out.size⟩
      have HOP := Lib.hid (open15 d17 rfl)
      clear d17 hf hX b17 ho17 HD HG y3 BK16
      go_wp2_with fail
      (with_reducible refine (thread0_any D17.out).mono ?_)
      rintro e w' ⟨rfl, rfl⟩
      go_wp2_with fail
      (with_reducible refine HOP.out.mono ?_)
      rintro e w18 ⟨rfl, l18, b18⟩
      have R18 : Hid (Rw w1 v2 w17.heap.size go gn (Dev.fresh 40 f2) C N own17 w18) := R16.out.other (B17.out.trans (b18.mono B17.out.size)) l18 HO17.out.1 HO17.out.2
      clear l18 b18 HOP HO17 B17 D17 R16
      generalize w17.heap.size = lb2 at *
      have HRC := Lib.hid (recov15 (X := X) R18.out.st (HNB.out.below (B1.out.trans (R18.out.st.bel.mono B1.out.size))) (fresh_rcl HF2.out.1) (by omega) HF2.out.2)
      go_wp2_with fail
      (with_reducible refine HRC.out.mono ?_)
      rintro e w19 ⟨own19, D19, m19, e19, rfl, l19, n19, hn19, hvb19, hex19, hor⟩
      obtain ⟨he, hout⟩ : e19 = 0 ∧ OutR D19.pers X := by
        rcases hor with h | ⟨h, _⟩
        · exact h
        · cases h
      subst he
      have FN : Hid (Fin w1 v2 lb2 go gn D19 C N X own19 w19) := ⟨R18.out.step l19 n19, hn19, hvb19, hout⟩
      clear l19 n19 hn19 hvb19 hex19 hor hout HRC R18
      go_wp2_with fail
      go_meet
      exact ⟨v2, own19, lb2, D19, rfl, rfl, FN.out⟩
  case rest =>
    obtain ⟨v3, own3, lb3, D3, rfl, rfl, hfin⟩ := hcut
    rename World => wx
    have FN := Lib.hid hfin
    clear hfin R16 HD HOR
    have FD := Lib.hid (FN.out.next ((Below.refl _ _).drew))
    have WD := Lib.hid (HWR.out.below (B1.out.trans (FD.out.rw'.st.bel.mono B1.out.size)))
    have XD : Hid (wx.drew.cell? ⟨0, 0, none⟩ = some (.int .u64 320) ∧ wx.drew.cell? ⟨0, 1, none⟩ = some (.int .u64 1984)) := ⟨WD.out.c0, WD.out.c1⟩
    have HF40 : Hid (D3.pers 40 = 0) := FN.out.out.1
    have HP := Lib.hid (persisted15 FD.out.rw'.st.log.dev FD.out.n FD.out.vb)
    go_upto_region 26 with fail
    go_cut [127] from 118 to 126 (fun b wy => b = .bool false ∧ Fin w1 v3 lb3 go gn D3 C N X own3 wy)
    case first =>
      go_region_held3 (fun wx => wx.cell? ⟨0, 0, none⟩ = some (.int .u64 320) ∧ wx.cell? ⟨0, 1, none⟩ = some (.int .u64 1984)) (first | (with_reducible exact X4.out) | (with_reducible exact X3.out) | (with_reducible exact XD.out)) (first | (go_at_call 22; (with_reducible refine HP.out.mono ?_); rintro e w3 ⟨rfl, r3, b3⟩; have F3 := Lib.hid (FD.out.next b3); have W3 := Lib.hid (HWR.out.below (B1.out.trans (F3.out.rw'.st.bel.mono B1.out.size))); have X3 : Hid (w3.cell? ⟨0, 0, none⟩ = some (.int .u64 320) ∧ w3.cell? ⟨0, 1, none⟩ = some (.int .u64 1984)) := ⟨W3.out.c0, W3.out.c1⟩; have HV3 := Lib.hid (l15value_zero (c := 2560) (f := D3.pers) (g := wx.heap.size) r3 HF40.out); clear r3 b3) | (go_at_call 16; (with_reducible refine HV3.out.mono ?_); rintro e w4 ⟨rfl, b4⟩; have F4 := Lib.hid (F3.out.next b4); have W4 := Lib.hid (HWR.out.below (B1.out.trans (F4.out.rw'.st.bel.mono B1.out.size))); have X4 : Hid (w4.cell? ⟨0, 0, none⟩ = some (.int .u64 320) ∧ w4.cell? ⟨0, 1, none⟩ = some (.int .u64 1984)) := ⟨W4.out.c0, W4.out.c1⟩; clear b4))
      all_goals go_wp2_with fail
      all_goals go_meet
      all_goals exact ⟨rfl, F4.out⟩
    case rest =>
      obtain ⟨rfl, hf4⟩ := hcut
      rename World => wy
      have F4 := Lib.hid hf4
      clear hf4 FN FD WD XD HP
      go_wp2_with fail
      (with_reducible refine (persisted15 F4.out.rw'.st.log.dev F4.out.n F4.out.vb).mono ?_)
      rintro e w5 ⟨rfl, r5, b5⟩
      have F5 := Lib.hid (F4.out.next b5)
      have W5 := Lib.hid (HWR.out.below (B1.out.trans (F5.out.rw'.st.bel.mono B1.out.size)))
      have HO := Lib.hid (l15outside_any (ca := 2560) (cb := cn) W5.out r5 F5.out.rw'.rn (Nat.le_refl _) hcn)
      obtain ⟨ob, hob⟩ : ∃ ob, outR D3.pers N = ob := ⟨_, rfl⟩
      have HXO : Hid (ob = true ∨ (X = C ∧ ε = 3)) := by
        rcases HF.out.2.2 with h | h
        · left; rw [← hob, ← h]; exact outR_of F5.out.out.2
        · exact .inr h
      rw [hob] at HO
      clear hob r5 b5 W5 F4
      go_wp2_with fail
      (with_reducible refine HO.out.mono ?_)
      rintro e w6 ⟨rfl, q6, rfl⟩
      have F6 := Lib.hid (F5.out.next (drewN_below _ q6))
      clear HO F5
      generalize w5.drewN q6 = w6 at *
      cases ob
      · obtain ⟨hXC, hε⟩ : X = C ∧ ε = 3 := by
          rcases HXO.out with h | h
          · cases h
          · exact h
        subst hε
        have HQ : Hid (outR D3.pers C = true) := outR_of (by rw [← hXC]; exact F6.out.out.2)
        clear hXC HXO
        go_wp2_with fail
        (with_reducible refine (persisted15 F6.out.rw'.st.log.dev F6.out.n F6.out.vb).mono ?_)
        rintro e w7 ⟨rfl, r7, b7⟩
        have F7 := Lib.hid (F6.out.next b7)
        have W7 := Lib.hid (HWR.out.below (B1.out.trans (F7.out.rw'.st.bel.mono B1.out.size)))
        have HO := Lib.hid (l15outside_any (ca := 2560) (cb := 2560) W7.out r7 F7.out.rw'.ro (Nat.le_refl _) (Nat.le_refl _))
        rw [HQ.out] at HO
        clear r7 b7 W7 F6
        go_wp2_with fail
        (with_reducible refine HO.out.mono ?_)
        rintro e w8 ⟨rfl, q8, rfl⟩
        go_wp2_with fail
        go_ret
        exact ⟨rfl, B1.out.trans ((F7.out.next (drewN_below _ q8)).rw'.st.bel.mono B1.out.size)⟩
      · go_wp2_with fail
        go_ret
        exact ⟨rfl, B1.out.trans (F6.out.rw'.st.bel.mono B1.out.size)⟩
end
end Go.Proofs.YtdidpppjkbgccaaDoor
