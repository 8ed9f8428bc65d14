/- The walk of RedoCommits. -/
import Derived.Test.YtdidpppjkbgccaaDoorRdoI
import Derived.Test.YtdidpppjkbgccaaDoorRdoO
import Derived.Test.YtdidpppjkbgccaaDoorRdoK
namespace Go.Proofs.YtdidpppjkbgccaaDoor
open Go.RowKit Go.Maps
attribute [local go_sem ↓] Go.wp_at_zero Go.wp_at_succ

/-- The writes that the law makes of a list of pairs. -/
def gwL (l : List (Nat × Int)) : List (Nat × Int) := wrL (goodL l)
theorem gwL_len (l : List (Nat × Int)) : (gwL l).length ≤ 100 := by unfold gwL; rw [wrL_len]; exact goodL_len l
theorem gwL_ok {l : List (Nat × Int)} (h : ∀ e ∈ l, 0 ≤ e.2 ∧ e.2 < 18446744073709551616) : ∀ e ∈ gwL l, rAllowB 2560 320 1664 e.1 = true ∧ 0 ≤ e.2 ∧ e.2 < 18446744073709551616 := fun e he => by
  unfold gwL wrL at he
  obtain ⟨x, hx, rfl⟩ := List.mem_map.1 he
  have := goodL_bd h x hx
  exact ⟨offR_good _ this.1, this.2⟩
theorem gwL_w {l : List (Nat × Int)} (h : ∀ e ∈ l, 0 ≤ e.2 ∧ e.2 < 18446744073709551616) (hl : ¬ 96 < (lastL (gwL l)).length) : WOk (lastL (gwL l)) :=
  ⟨by omega, fun e he => (gwL_ok h e (lastL_mem _ e he)).1, fun e he => (gwL_ok h e (lastL_mem _ e he)).2⟩
theorem gwL_look {l : List (Nat × Int)} (h : ∀ e ∈ l, 0 ≤ e.2 ∧ e.2 < 18446744073709551616) (d : Int) (i : Nat) : look (lastL (gwL l)) d i = look (gwL l) d i :=
  look_last _ d i (fun e he => (allow_out (gwL_ok h e he).1).1)
/-- What the law asks of a list of pairs among its argument. -/
def PairsAt (w : World) (xs : List Value) (k : Nat) : Prop := ∃ (wv : Value) (l : List (Nat × Int)), xs[k]? = some wv ∧ RdSl w 2 wv l.length (pairC l) ∧ (∀ e ∈ l, e.1 < 256 ∧ 0 ≤ e.2 ∧ e.2 < 18446744073709551616) ∧ l.length ≤ maxLen
section
variable {w1 wc wd : World} {v : DV} {lb g y : Nat} {D : Dev} {C nx : Nat → Int} {own : Nat → Option Role}
/-- Commit of the law's writes. -/
theorem commit15 (h : RSt w1 v own D lb 0 320 1664 wc) (hN : Nib wc) (hc : RCl D C y) (hy : y < 1000000) (hC : C 40 = 0) (u : Value) (l : List (Nat × Int)) (hl : ∀ e ∈ l, 0 ≤ e.2 ∧ e.2 < 18446744073709551616) (hu : RdSl wc 2 u (gwL l).length (flat (gwL l))) :
    Calls Tryd.prog 11 #[.pointer (some ⟨lb, 0, none⟩), u] wc fun r w' => (96 < (lastL (gwL l)).length ∧ r = .returned (.int .i64 9) ∧ Below wc.heap.size wc w') ∨
      (¬ 96 < (lastL (gwL l)).length ∧ r = .returned (.int .i64 ((D.run 0 (rPlanP 320 (lastL (gwL l)))).err 0)) ∧ DPost v own wc (D.run 0 (rPlanP 320 (lastL (gwL l)))) w') := by
  have hg := gwL_len l
  have hok := gwL_ok hl
  have h64 : ∀ e ∈ gwL l, e.1 < 18446744073709551616 ∧ 0 ≤ e.2 ∧ e.2 < 18446744073709551616 := fun e he => ⟨by have := allow_out (hok e he).1; omega, (hok e he).2⟩
  have hP := rdPlan_live hN h.log hc.grp.on.off hc.grp.on.err hc.vb u (gwL l) hu (by omega) h64 (by rw [hc.grp.on.n]; exact fun e he => (hok e he).1)
  refine (rdCommit_of h.log u (lastL (gwL l)) (by have := hc.exec; omega) (fun e he => (h64 e (lastL_mem _ e he)).1) hP).mono ?_
  rintro r w' (⟨h1, h2, h3⟩ | ⟨_, h1, _⟩ | ⟨h1, _, h2, h3⟩)
  · exact .inl ⟨h1, h2, h3⟩
  · rw [hc.cur] at h1; exact absurd hC h1
  · exact .inr ⟨h1, h2, h3⟩
/-- The law's slice of bytes and the device. -/
structure Rk (w1 : World) (v : DV) (lb g : Nat) (D : Dev) (C nx : Nat → Int) (y : Nat) (own : Nat → Option Role) (wc : World) : Prop where
  st : RSt w1 v own D lb 0 320 1664 wc
  cl : RCl D C y
  ar : D.armed = false
  c0 : C 40 = 0
  agree : ∀ i, (i < 40 ∨ 248 ≤ i) → nx i = C i
  row : BRow wc g nx
  og : own g = none
theorem Rk.next (h : Rk w1 v lb g D C nx y own wc) (hb : Below wc.heap.size wc wd) : Rk w1 v lb g D C nx y own wd := ⟨h.st.next hb, h.cl, h.ar, h.c0, h.agree, h.row.below hb, h.og⟩
theorem own_none {k : Nat} (h : IsDev wc v own D) (hk : wc.heap.size ≤ k) : own k = none := by
  cases ho : own k with
  | none => rfl
  | some r => have := h.lt k (by rw [ho]; simp); omega
theorem current15 (h : IsDev wc v own D) (hc : RCl D C y) : Calls Tryd.prog 8 #[.pointer (some ⟨v.db, 0, none⟩)] wc
    fun r w' => r = .returned (.slice (some ⟨wc.heap.size, 0, none⟩) 2560 2560) ∧ BRow w' wc.heap.size C ∧ Below wc.heap.size wc w' := by
  have := current_any h hc.vb
  unfold BytesPost at this
  rw [hc.grp.on.n, hc.cur] at this
  exact this
theorem image15 (h : IsDev wc v own D) (hc : RCl D C y) (hy : y < 1000000) (cv : Value) (cs : List Int) (hcs : RdSl wc 1 cv cs.length (cs.map fun x => .int .u8 x)) (hcb : ∀ x ∈ cs, 0 ≤ x ∧ x < 256) (hcl : cs.length ≤ maxLen) : Calls Tryd.prog 14 #[.pointer (some ⟨v.db, 0, none⟩), cv] wc
    fun r w' => ∃ g, r = .returned (.slice (some ⟨g, 0, none⟩) 2560 2560) ∧ BRow w' g C ∧ Below wc.heap.size wc w' := by
  refine (image_any h hc.vb cv cs hcs hcb hcl (by have := hc.exec; omega)).mono ?_
  rintro r w' ⟨ks, g, _, _, hr, hrow, hb⟩
  rw [hc.img ks, hc.grp.on.n] at hrow
  rw [hc.grp.on.n] at hr
  exact ⟨g, hr, hrow, hb⟩
end
section
variable {w : World}
set_option maxRecDepth 100000 in
set_option maxHeartbeats 16000000 in
theorem redoCommits_any (hN : Nib w) (hW : Wr w) (sv cv : Value) (n : Nat) (xs : List Value) (cs : List Int) (hs : RdSl w 1 sv n xs) (hl : n ≤ maxLen) (hA : ∀ i, i < n → PairsAt w xs i)
    (hc : RdSl w 1 cv cs.length (cs.map fun x => .int .u8 x)) (hcb : ∀ x ∈ cs, 0 ≤ x ∧ x < 256) (hcl : cs.length ≤ maxLen) :
    Calls Tryd.prog 3 #[sv, cv] w fun r w' => r = .returned (.bool true) ∧ Below w.heap.size w w' := by
  have HNB := Lib.hid hN; have HWR := Lib.hid hW; have HS := Lib.hid hs; have HA := Lib.hid hA; clear hN hW hA
  have HCS := Lib.hid (And.intro hc (And.intro hcb hcl))
  obtain ⟨_, sa, sc, rfl, hsc, _⟩ := hs
  obtain ⟨_, ca, cc, rfl, hcc, _⟩ := hc
  generalize hcn : cs.length = cn at *
  have HCN := Lib.hid hcn
  clear hcb hcl hcn
  go_enter Tryd.func3, Tryd.ntmps3
  go_wp2_with fail
  (with_reducible refine (awake15 HNB.out).mono ?_)
  rintro e w1 ⟨rfl, b1⟩
  have B1 := Lib.hid b1; clear b1
  go_wp2_with fail
  (with_reducible refine made15.mono ?_)
  rintro e w2 ⟨v, own, lb, rfl, l2⟩
  have L2 := Lib.hid l2; clear l2
  go_wp2_with fail
  (with_reducible refine (current15 L2.out.dev D15_rcl.1).mono ?_)
  rintro e w3 ⟨rfl, r3, b3⟩
  have K3 : Hid (Rk w1 v lb w2.heap.size D15 C15 C15 3 own w3) := ⟨L2.out.next b3, D15_rcl.1, D15_rcl.2, C15_40, fun _ _ => rfl, r3, own_none L2.out.dev (Nat.le_refl _)⟩
  clear r3 b3 L2
  generalize w2.heap.size = g0 at *
  go_wp2_with fail
  go_loopw [7, 23] (fun bv y wr => ∃ (k g c : Nat) (D : Dev) (C nx : Nat → Int) (own : Nat → Option Role), k ≤ n ∧ k ≤ 6 ∧ y = .int .i64 k ∧ bv = .slice (some ⟨g, 0, none⟩) 2560 c ∧ 2560 ≤ c ∧ c ≤ maxLen ∧ Rk w1 v lb g D C nx (3 + 700 * k) own wr) (fun _ y _ => n - (intOf y).toNat)
  case atStart => exact ⟨0, g0, 2560, D15, C15, C15, own, by omega, by omega, rfl, rfl, by omega, by unfold maxLen; omega, K3.out⟩
  case round =>
    clear K3
    obtain ⟨k, g, c, D, C, nx, ownr, hk, hk6, rfl, rfl, hc1, hc2, hrk⟩ := hrel
    have K := Lib.hid hrk; clear hrk
    by_cases hlt : k < n
    · have hlt' : (k : Int) < n := by omega
      by_cases h6 : k = 6
      · have hb6 : ((k : Int) == 6) = true := by simp; omega
        obtain ⟨wv, l, hx, _⟩ := HA.out k hlt
        obtain ⟨_, a', c', e', _, hE⟩ := HS.out.below (B1.out.trans (K.out.st.bel.mono B1.out.size))
        cases e'
        obtain ⟨eb, eo, rfl, hE2⟩ := rd_at hE hx
        have d1 := hE2 _ _ hx
        clear hE hE2 hx h6
        go_wp2_with fail
        go_ret
        exact ⟨rfl, B1.out.trans (K.out.st.bel.mono B1.out.size)⟩
      · have hb6 : ((k : Int) == 6) = false := by simp; omega
        have HK6 : Hid (k + 1 ≤ 6) := by show k + 1 ≤ 6; omega
        obtain ⟨wv, l, hx, hwv, hlb, hll⟩ := HA.out k hlt
        have hwv2 := hwv
        obtain ⟨_, wa, wc, hwe, _, _⟩ := hwv2
        subst hwe
        obtain ⟨_, a', c', e', _, hE⟩ := HS.out.below (B1.out.trans (K.out.st.bel.mono B1.out.size))
        cases e'
        obtain ⟨eb, eo, rfl, hE2⟩ := rd_at hE hx
        have d1 := hE2 _ _ hx
        have HGD := Lib.hid (l15good_any _ l (hwv.below (B1.out.trans (K.out.st.bel.mono B1.out.size))) (fun e he => (hlb e he).1) hll)
        have hbd : ∀ e ∈ l, 0 ≤ e.2 ∧ e.2 < 18446744073709551616 := fun e he => (hlb e he).2
        have HBD := Lib.hid hbd
        have hgl := goodL_len l
        have HGB := Lib.hid (goodL_bd hbd)
        clear hE hE2 hx h6 hwv hlb hll hbd
        go_wp2_with fail
        (with_reducible refine HGD.out.mono ?_)
        rintro e w4 ⟨ov, rfl, a4⟩
        obtain ⟨oa, oc, hov⟩ := a4.slice
        subst hov
        have HWT := Lib.hid (l15writes_any _ (goodL l) a4.rd (fun e he => by have := (HGB.out e he).1; omega) (by omega))
        have K4 := Lib.hid (K.out.next a4.bel)
        clear a4 K HGD
        go_wp2_with fail
        (with_reducible refine HWT.out.mono ?_)
        rintro e w5 ⟨u5, v5, rfl, p5⟩
        have hgw : wrL (goodL l) = gwL l := rfl
        rw [hgw] at p5
        obtain ⟨ua, uc, hu5⟩ := p5.a.slice
        subst hu5
        obtain ⟨va, vc, hv5⟩ := p5.b.slice
        subst hv5
        have K5 := Lib.hid (K4.out.next p5.a.bel)
        have P5 := Lib.hid p5
        have NB5 := Lib.hid (HNB.out.below (B1.out.trans (K5.out.st.bel.mono B1.out.size)))
        have HCM := Lib.hid (commit15 K5.out.st NB5.out K5.out.cl (by omega) K5.out.c0 (.slice ua (gwL l).length uc) l HBD.out p5.a.rd)
        have hOB : ownr = ownr := rfl
        have HUN : Hid (∀ k, (Value.slice va (gwL l).length vc).ownBlock = some k → ownr k = none ∧ k < w5.heap.size) := fun k hk => ⟨own_none K4.out.st.dev (p5.b.new k hk), p5.b.own.lt k hk⟩
        clear p5 K4 HWT hgw hOB
        go_wp2_with fail
        (with_reducible refine HCM.out.mono ?_)
        rintro e w6 (⟨h96, rfl, b6⟩ | ⟨h96, rfl, p6⟩)
        · have HRW := Lib.hid (r15Writes_any (w := w6) (.slice va (gwL l).length vc) (gwL l) (P5.out.b.rd.below b6) (by have := gwL_len l; omega))
          have K6 := Lib.hid (K5.out.next b6); clear b6 HCM K5
          generalize hwl : (lastL (gwL l)).length = wl at *
          have h96' : (96 : Int) < wl := by omega
          go_wp2_with fail
          (with_reducible refine HRW.out.mono ?_)
          rintro e w7 ⟨ov, rfl, a7⟩
          obtain ⟨za, zc, hz⟩ := a7.slice
          subst hz
          have K7 := Lib.hid (K6.out.next a7.bel); clear a7
          go_wp2_with fail
          go_ret
          exact ⟨rfl, B1.out.trans (K7.out.st.bel.mono B1.out.size)⟩
        · have hWK := gwL_w HBD.out h96
          obtain ⟨hcl6, har6⟩ := K5.out.cl.commit K5.out.ar hWK
          obtain ⟨hc60, hc6⟩ := cmtC_out hWK C K5.out.c0
          have hpl := rPlanP_len 320 (lastL (gwL l))
          obtain ⟨own6, l6, m6⟩ := K5.out.st.stepM (D' := D.run 0 (rPlanP 320 (lastL (gwL l)))) (run_n 0 _ D) p6
          have R6 : Hid (BRow w6 g nx) := K5.out.row.upd m6.upd (by simpa using K5.out.og)
          have hog6 : own6 g = none := by rw [m6.old g K5.out.row.lt]; exact K5.out.og
          have V6 : Hid (RdSl w6 2 (.slice va (gwL l).length vc) (gwL l).length (flat (gwL l))) := P5.out.b.rd.upd m6.upd (fun k hk => by simpa using (HUN.out k hk).1)
          have hnx6 : ∀ i, (i < 40 ∨ 248 ≤ i) → look (gwL l) (nx i) i = cmtC (lastL (gwL l)) C i := fun i hi => by
            rw [hc6 i hi, gwL_look HBD.out, K5.out.agree i hi]
          have herr := hcl6.grp.on.err
          have HX6 := Lib.hid (And.intro l6 (And.intro (hcl6.mono (y := 3 + 700 * (k + 1)) (by omega)) (And.intro har6 (And.intro hc60 (And.intro hnx6 hog6)))))
          have HAP := Lib.hid (l15applied_any R6.out hc1 hc2 (.slice va (gwL l).length vc) (gwL l) V6.out (by have := gwL_len l; omega) (fun e he => by have h1 := gwL_ok HBD.out e he; have h2 := allow_out h1.1; exact ⟨h2.1, h2.2.1, h1.2⟩))
          rw [herr]
          clear p6 l6 m6 hcl6 har6 hc60 hc6 hog6 hnx6 herr hWK HCM K5 P5 R6 V6 h96
          generalize D.run 0 (rPlanP 320 (lastL (gwL l))) = D6 at *
          generalize cmtC (lastL (gwL l)) C = C6 at *
          go_wp2_with fail
          (with_reducible refine HAP.out.mono ?_)
          rintro e w7 ⟨g7, c7, rfl, hc71, hc72, r7, hg7, b7⟩
          have K7 : Hid (Rk w1 v lb g7 D6 C6 (fun i => look (gwL l) (nx i) i) (3 + 700 * (k + 1)) own6 w7) := ⟨HX6.out.1.next b7, HX6.out.2.1, HX6.out.2.2.1, HX6.out.2.2.2.1, HX6.out.2.2.2.2.1, r7, own_none HX6.out.1.dev hg7⟩
          clear r7 b7 HX6 HAP hg7
          go_wp2_with fail
          (with_reducible refine (image15 K7.out.st.dev K7.out.cl (by omega) (.slice ca cn cc) cs (by rw [HCN.out]; exact HCS.out.1.below (B1.out.trans (K7.out.st.bel.mono B1.out.size))) HCS.out.2.1 (by rw [HCN.out]; exact HCS.out.2.2)).mono ?_)
          rintro e w8 ⟨g8, rfl, r8, b8⟩
          have R8 := Lib.hid r8
          have K8 := Lib.hid (K7.out.next b8); clear r8 b8 K7
          go_wp2_with fail
          (with_reducible refine (current15 K8.out.st.dev K8.out.cl).mono ?_)
          rintro e w9 ⟨rfl, r9, b9⟩
          have R9 := Lib.hid r9; have R89 := Lib.hid (R8.out.below b9)
          have K9 := Lib.hid (K8.out.next b9); clear r9 b9 K8 R8
          have W9 := Lib.hid (HWR.out.below (B1.out.trans (K9.out.st.bel.mono B1.out.size)))
          have HO1 := Lib.hid (l15outside_any W9.out R9.out K9.out.row (Nat.le_refl 2560) hc71)
          rw [outR_of (fun i hi => (K9.out.agree i hi).symm)] at HO1
          go_wp2_with fail
          (with_reducible refine HO1.out.mono ?_)
          rintro e w10 ⟨rfl, q10, rfl⟩
          have K10 := Lib.hid (K9.out.next (drewN_below _ q10))
          have W10 := Lib.hid (W9.out.below (drewN_below _ q10))
          have R10 := Lib.hid (R89.out.below (drewN_below _ q10))
          clear K9 W9 R89 R9 HO1
          generalize w9.drewN q10 = w10 at *
          have HO2 := Lib.hid (l15outside_any W10.out R10.out K10.out.row (Nat.le_refl 2560) hc71)
          rw [outR_of (fun i hi => (K10.out.agree i hi).symm)] at HO2
          go_wp2_with fail
          (with_reducible refine HO2.out.mono ?_)
          rintro e w11 ⟨rfl, q11, rfl⟩
          have K11 := Lib.hid (K10.out.next (drewN_below _ q11))
          have W11 := Lib.hid (W10.out.below (drewN_below _ q11))
          have R11 := Lib.hid (R10.out.below (drewN_below _ q11))
          clear K10 W10 R10 HO2
          generalize w10.drewN q11 = w11 at *
          have g0 := W11.out.c0
          go_wp2_with fail
          (with_reducible refine (l15value_zero R11.out K11.out.c0).mono ?_)
          rintro e w12 ⟨rfl, b12⟩
          have K12 := Lib.hid (K11.out.next b12); clear b12
          go_wp2_with fail
          go_roundw
          case rel => exact ⟨k + 1, g7, c7, D6, C6, _, own6, by omega, HK6.out, by go_num, rfl, hc71, hc72, K12.out⟩
          case measure => simp [intOf]; omega
    · obtain rfl : k = n := by omega
      go_wp2_with fail
      go_ret
      exact ⟨rfl, B1.out.trans (K.out.st.bel.mono B1.out.size)⟩
end
end Go.Proofs.YtdidpppjkbgccaaDoor
