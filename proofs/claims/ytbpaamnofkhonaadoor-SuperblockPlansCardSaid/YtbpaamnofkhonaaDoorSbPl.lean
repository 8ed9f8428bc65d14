/- The walk of SuperblockPlans. -/
import Derived.Test.YtbpaamnofkhonaaDoorSbTw
import Derived.Test.YtbpaamnofkhonaaDoorHeldM
namespace Go.Proofs.YtbpaamnofkhonaaDoor
open Go.RowKit Go.Maps
attribute [local go_sem ↓] Go.wp_at_zero Go.wp_at_succ

section
variable {w : World}
set_option maxRecDepth 100000 in
set_option maxHeartbeats 16000000 in
theorem superblockPlans_any (hN : Nib w) (a b : Hf) (ha : a.Ok) (hb : b.Ok) (s0 s1 s2 s3 : Nat) (h0 : s0 < 256) (h1 : s1 < 256) (h2 : s2 < 256) (h3 : s3 < 256) :
    Calls Tryd.prog 7 #[.agg a.cells, .agg b.cells, .agg #[.int .u8 s0, .int .u8 s1, .int .u8 s2, .int .u8 s3]] w fun r w' => r = .returned (.bool true) ∧ Below w.heap.size w w' := by
  have HNB := Lib.hid hN
  have HAW := Lib.hid (fun (wx : World) (hx : Nib wx) => awake13 hx)
  have HWA := Lib.hid (fun (wx : World) => halfWords_any (w := wx) a ha)
  have HWB := Lib.hid (fun (wx : World) => halfWords_any (w := wx) b hb)
  have HSO := Lib.hid (fun wx : World => some_any (w := wx) s0 s1 s2 s3 h0 h1 h2 h3)
  obtain ⟨hok, hlin⟩ := smS_ok s0 s1 s2 s3 h0
  have hgen : (smS s0 s1 s2 s3).gen = 0 := rfl
  generalize smS s0 s1 s2 s3 = sn at *
  have HRL := Lib.hid (fun wx => real_any (w := wx) sn)
  have hA := Hf.words_len ha; have hB := Hf.words_len hb
  have hA64 := Hf.words_bd ha; have hB64 := Hf.words_bd hb
  have HCP := Lib.hid (fun (wx : World) va vb (h1 : RdSl wx 1 va 8 (natsU a.words)) (h2 : RdSl wx 1 vb 8 (natsU b.words)) => withCopies_any (w := wx) 200 (by omega) (by omega) va vb a.words b.words hA hB hA64 hB64 h1 h2)
  rw [show ((200 : Nat) : Int) = 200 from rfl] at HCP
  have hpr := fun (wx : World) va vb (h1 : RdSl wx 1 va 8 (natsU a.words)) (h2 : RdSl wx 1 vb 8 (natsU b.words)) => present_any (w := wx) va vb a.words b.words 200 hA hB hA64 hB64 h1 h2
  rw [show ((200 : Nat) : Int) = 200 from rfl] at hpr
  have hza := Hf.cells_size ha; have hzb := Hf.cells_size hb
  obtain ⟨fA, fB⟩ := cpF_cp a.words b.words hA hB
  have hfr := fresh_scl (cpF_bd hA64 hB64) 1 200
  have hpS := (op_pr (cpF a.words b.words) 200).1
  have hpC := pr_new (cpF a.words b.words) 200
  rw [show cpS (cpF a.words b.words) 200 0 = decoded a.words 200 by unfold cpS; rw [fA], show cpS (cpF a.words b.words) 200 1 = decoded b.words 200 by unfold cpS; rw [fB], show cpG (cpF a.words b.words) 200 0 = goodB a.words 200 by unfold cpG; rw [fA], show cpG (cpF a.words b.words) 200 1 = goodB b.words 200 by unfold cpG; rw [fB]] at hpS hpC
  rw [← hpS, hpC] at hpr
  have hgb : 0 ≤ (newS (cpF a.words b.words) 200).gen ∧ (newS (cpF a.words b.words) 200).gen < 18446744073709551616 := cpS_gen hfr.bd 200 (newA (cpF a.words b.words) 200)
  generalize a.words = A at *
  generalize b.words = B at *
  generalize a.cells = ca at *
  generalize b.cells = cb at *
  have HIA : Hid ((Tryd.prog.info? 42).map (·.size) = some ca.size) := by show _ = _; rw [hza]; kernel_rfl
  have HIB : Hid ((Tryd.prog.info? 42).map (·.size) = some cb.size) := by show _ = _; rw [hzb]; kernel_rfl
  have hpl := fun (wx : World) (v : DV) (own : Nat → Option Role) (hx : Nib wx) (hd : IsDev wx v own (Dev.fresh 200 (cpF A B))) => (sbPlan_any hx hd (j := 1) (by omega) hfr.grp.on.off hfr.grp.on.err hfr.vb (by show 2 ≤ 200; omega) sn hok (show sn.lin ≤ ((200 : Nat) : Int) by omega) (by omega) (by omega)).mono fun _ _ h => PlPost.pn h
  have hup := fun (wx : World) (v : DV) (own : Nat → Option Role) (hx : Nib wx) (hd : IsDev wx v own (Dev.fresh 200 (cpF A B))) => sbUpdate_any hx hd (j := 1) (by omega) hfr.grp.on.off hfr.grp.on.err hfr.vb (by show 2 ≤ 200; omega) sn hok (show sn.lin ≤ ((200 : Nat) : Int) by omega) (by omega) (by omega) (show (0 : Nat) + 100000 < 4294967296 by omega)
  have hcy := fun (wx : World) (v : DV) (own : Nat → Option Role) (hd : IsDev wx v own (Dev.fresh 200 (cpF A B))) => copy_any hd (show (0 : Nat) < 4294967296 by omega)
  have hat := fun hG hg => at_plan hfr rfl hok (by omega) hgen hG hg
  have hA1 := newA_le (cpF A B) 200
  have hCF := hfr.cur
  have HFT := Lib.hid (fun (G : Int) (g1 : 0 ≤ G) (g2 : G < 18446744073709551616) => ((hok.withGen G).fits (show 0 ≤ G from g1) (show G < 18446744073709551616 from g2)))
  have X0 := Lib.hid (KSt.start w ca cb #[.int .u8 s0, .int .u8 s1, .int .u8 s2, .int .u8 s3] 42 42 38)
  have HI4 : Hid ((Tryd.prog.info? 38).map (·.size) = some (#[.int .u8 s0, .int .u8 s1, .int .u8 s2, .int .u8 s3] : Array Value).size) := by show _ = some 4; kernel_rfl
  generalize hDD : Dev.fresh 200 (cpF A B) = D at *
  generalize cpF A B = C at *
  rw [hCF, show D.n = 200 by rw [← hDD]; rfl] at hpl
  have hup2 : ∀ (wx : World) (v : DV) (own : Nat → Option Role), Nib wx → IsDev wx v own D → Calls Tryd.prog 29 #[.iface 49 (.pointer (some ⟨v.tb 1, 0, none⟩)), .agg sn.cells] wx fun r w' =>
      (newG C 200 = false ∧ r = .returned (.int .i64 10) ∧ Below wx.heap.size wx w') ∨ (newG C 200 = true ∧ (newS C 200).gen = 18446744073709551615 ∧ r = .returned (.int .i64 9) ∧ Below wx.heap.size wx w') ∨ (newG C 200 = true ∧ (newS C 200).gen ≠ 18446744073709551615) := fun wx v own hx hd => by
    refine (hup wx v own hx hd).mono ?_
    rintro r w' (⟨e1, e2, e3⟩ | ⟨e1, e2, e3, e4⟩ | ⟨e1, e2, _⟩)
    · rw [hCF, ← hDD] at e1; exact .inl ⟨e1, e2, e3⟩
    · rw [hCF, ← hDD] at e1 e2; exact .inr (.inl ⟨e1, e2, e3, e4⟩)
    · rw [hCF, ← hDD] at e1 e2; exact .inr (.inr ⟨e1, e2⟩)
  clear hup
  unfold opS at hpr
  have HRC : Hid (∃ rs : Sup, ∃ rc : Int, (if newG C 200 then newS C 200 else Sup.zero) = rs ∧ (if newG C 200 then (newA C 200 : Int) else -1) = rc) := ⟨_, _, rfl, rfl⟩
  obtain ⟨rs, rc, hrs, hrc⟩ := HRC.out
  rw [hrs, hrc] at hpr
  obtain ⟨z1, z2, z3, z4, z5, z6, z7, z8⟩ := sn
  obtain ⟨r1, r2, r3, r4, r5, r6, r7, r8⟩ := rs
  unfold Sup.withGen Sup.cells at *
  simp only at *
  subst hgen
  have HPR := Lib.hid hpr; have HPL := Lib.hid hpl; have HUP := Lib.hid hup2; have HCY := Lib.hid hcy; have HAT := Lib.hid hat
  have HRS := Lib.hid hrs; have HRCC := Lib.hid hrc; have HGB := Lib.hid hgb; have HA1 := Lib.hid hA1
  have HIS : Hid ((Tryd.prog.info? 26).map (·.size) = some (#[.int .i64 r1, .int .i64 r2, .int .i64 r3, .int .i64 r4, .int .i64 r5, .int .i64 r6, .int .i64 r7, .int .u64 r8] : Array Value).size) := by show _ = some 8; kernel_rfl
  have HIX : Hid ((Tryd.prog.info? 26).map (·.size) = some (#[.int .i64 z1, .int .i64 z2, .int .i64 z3, .int .i64 z4, .int .i64 z5, .int .i64 z6, .int .i64 z7, .int .u64 (r8 + 1)] : Array Value).size) := by show _ = some 8; kernel_rfl
  have HIO : Hid ((Tryd.prog.info? 29).map (·.size) = some (#[.int .i64 z1, .int .i64 z2, .int .i64 z3, .int .i64 z4, .int .i64 z5, .int .i64 z6, .int .i64 z7, .int .u64 (r8 + 1)] : Array Value).size) := by show _ = some 8; kernel_rfl
  have HOC : Hid ((#[.int .i64 r1, .int .i64 r2, .int .i64 r3, .int .i64 r4, .int .i64 r5, .int .i64 r6, .int .i64 r7, .int .u64 r8] : Array Value).all (·.oneCell') = true) := by show (#[.int .i64 r1, .int .i64 r2, .int .i64 r3, .int .i64 r4, .int .i64 r5, .int .i64 r6, .int .i64 r7, .int .u64 r8] : Array Value).all (·.oneCell') = true; simp [Value.oneCell']
  clear hN hza hzb hA hB hA64 hB64 ha hb hDD hfr hok hlin hpr hpl hup2 hcy hat hrs hrc hgb hA1 hpS hpC fA fB hCF HRC
  go_enter Tryd.func7, Tryd.ntmps7
  go_wp2_with fail
  (with_reducible refine (HAW.out _ (HNB.out.below X0.out.bel)).mono ?_)
  rintro e' w3 ⟨rfl, b3⟩
  have X3 := Lib.hid (X0.out.next b3)
  clear b3 X0 HAW
  go_wp2_with fail
  have X4 := Lib.hid (X3.out.next ((Below.refl _ _).drew))
  refine wp_region_held (S := (fun wx => KSt w [(w.heap.size, ca, 42), (w.heap.size + 1, cb, 42), (w.heap.size + 2, #[.int .u8 s0, .int .u8 s1, .int .u8 s2, .int .u8 s3], 38)] wx)) (by kernel_rfl) ?_
  change wpAnyH _ _ _ _ _ _ _ _ (World.drew _)
  refine wpAnyH_take (i := 0) (v := .agg ca) rfl (by kernel_rfl) (by kernel_rfl) (by kernel_rfl) (fun _ _ _ h => h) (Or.inl ⟨by kernel_rfl, fun wx hx => exec_load_row 42 (.tmp 3) rfl w.heap.size rfl 42 ca (0, 0) _ (hx.get (i := 0) rfl) Tryd.underlying42 rfl HIA.out⟩) X4.out ?_
  refine wpAnyH_take (i := 2) (v := .agg cb) rfl (by kernel_rfl) (by kernel_rfl) (by kernel_rfl) (fun _ _ _ h => h) (Or.inl ⟨by kernel_rfl, fun wx hx => exec_load_row 42 (.tmp 4) rfl (w.heap.size + 1) rfl 42 cb (0, 0) _ (hx.get (i := 1) rfl) Tryd.underlying42 rfl HIB.out⟩) X4.out ?_
  refine wpAnyH_one (i := 1) (by kernel_rfl) rfl rfl (fun K hK => ?_)
  go_simp
  (with_reducible refine (HWA.out _).mono ?_)
  rintro e' w5 ⟨va, rfl, ra, b5⟩
  have X5 := Lib.hid (X4.out.next b5)
  have RA := Lib.hid ra
  clear ra b5
  go_simp
  refine hK _ _ ⟨X5.out, ?_⟩
  clear hK K
  refine wpAnyH_one (i := 3) (by kernel_rfl) rfl rfl (fun K hK => ?_)
  go_simp
  (with_reducible refine (HWB.out _).mono ?_)
  rintro e' w6 ⟨vb, rfl, rb, b6⟩
  have X6 := Lib.hid (X5.out.next b6)
  have RA6 := Lib.hid (RA.out.below b6)
  have RB := Lib.hid rb
  clear rb b6
  go_simp
  refine hK _ _ ⟨X6.out, ?_⟩
  clear hK K
  refine wpAnyH_one (i := 4) (by kernel_rfl) rfl rfl (fun K hK => ?_)
  go_simp
  (with_reducible refine (HCP.out _ _ _ RA6.out RB.out).mono ?_)
  rintro e' w7 ⟨v, own, rfl, d7, o7, b7⟩
  have X7 := Lib.hid (X6.out.next b7)
  have S7 := Lib.hid (X6.out.dev d7 o7 b7)
  clear d7 o7 b7
  go_simp
  refine hK _ _ ⟨X7.out, ?_⟩
  clear hK K
  refine wpAnyH_one (i := 5) (by kernel_rfl) rfl rfl (fun K hK => ?_)
  go_simp
  refine hK _ _ ⟨X7.out, ?_⟩
  clear hK K
  refine wpAnyH_done (by kernel_rfl) ?_ _
  have B6 := Lib.hid X6.out.bel
  have hw6 : w.heap.size ≤ w6.heap.size := X6.out.bel.size
  clear HCP X3 X4 X5 RA RA6 RB X6 X7
  go_wp2_with fail
  (with_reducible refine (thread1_any S7.out.st.dev).mono ?_)
  rintro e' w' ⟨rfl, rfl⟩
  have q4 := S7.out.get (i := 2) rfl
  have c0 := q4.cell (i := 0) (v := .int .u8 s0) rfl; have c1 := q4.cell (i := 1) (v := .int .u8 s1) rfl; have c2 := q4.cell (i := 2) (v := .int .u8 s2) rfl; have c3 := q4.cell (i := 3) (v := .int .u8 s3) rfl
  clear q4
  go_wp2_with fail
  (with_reducible refine (HSO.out _).mono ?_)
  rintro e' w8 ⟨rfl, b8⟩
  have S8 := Lib.hid (S7.out.next b8)
  clear b8 S7 c0 c1 c2 c3
  go_wp2_with fail
  (with_reducible refine (HRL.out _).mono ?_)
  rintro e' w9 ⟨rfl, b9⟩
  have S9 := Lib.hid (S8.out.next b9)
  clear b9 S8
  go_wp2_with fail
  (with_reducible refine (HPL.out _ _ _ (HNB.out.below (B6.out.trans (S9.out.st.bel.mono hw6))) S9.out.st.dev).mono ?_)
  rintro e' wA ⟨pa, pn, pc, pe, rfl, bA, hc⟩
  have SA := Lib.hid (S9.out.next bA)
  have HC := Lib.hid hc
  have HOA : Hid (∀ k, w9.heap.size ≤ k → own k = none) := fun k hk => own_none S9.out.st.dev hk
  clear bA S9 hc HPL
  go_upto_region 8 with fail
  go_cut [11, 12] from 37 to 45 (fun p q wx => ∃ g, p = .pointer (some ⟨g, 0, none⟩) ∧ q = .int .i64 rc ∧ Blk wx g #[.int .i64 r1, .int .i64 r2, .int .i64 r3, .int .i64 r4, .int .i64 r5, .int .i64 r6, .int .i64 r7, .int .u64 r8] 26 ∧ Below wA.heap.size wA wx ∧ wA.heap.size ≤ g)
  case first =>
    have BB : Hid (Below wA.heap.size wA wA.drew) := (Below.refl _ _).drew
    refine wp_region_held (S := (fun wx => Below wA.heap.size wA wx)) (by kernel_rfl) ?_
    change wpAnyH _ _ _ _ _ _ _ _ (World.drew _)
    refine wpAnyH_take (i := 0) (v := .agg ca) rfl (by kernel_rfl) (by kernel_rfl) (by kernel_rfl) (fun _ _ _ h => h) (Or.inl ⟨by kernel_rfl, fun wx hx => exec_load_row 42 (.tmp 3) rfl w.heap.size rfl 42 ca (0, 0) _ ((SA.out.next hx).get (i := 0) rfl) Tryd.underlying42 rfl HIA.out⟩) BB.out ?_
    refine wpAnyH_take (i := 2) (v := .agg cb) rfl (by kernel_rfl) (by kernel_rfl) (by kernel_rfl) (fun _ _ _ h => h) (Or.inl ⟨by kernel_rfl, fun wx hx => exec_load_row 42 (.tmp 4) rfl (w.heap.size + 1) rfl 42 cb (0, 0) _ ((SA.out.next hx).get (i := 1) rfl) Tryd.underlying42 rfl HIB.out⟩) BB.out ?_
    have RA : Hid True := Lib.hid trivial
    have RB : Hid True := Lib.hid trivial
    refine wpAnyH_two (i := 1) (j := 8) (by kernel_rfl) rfl rfl rfl rfl (fun K hK => ?_) (fun K hK => ?_)
    · go_simp
      (with_reducible refine (HWA.out _).mono ?_)
      rintro e wt1 ⟨va2, rfl, ra, bwt1⟩
      have BB := Lib.hid (BB.out.trans (bwt1.mono BB.out.size))
      have RA := Lib.hid ra
      clear ra
      clear bwt1
      go_simp
      refine hK _ _ ⟨BB.out, ?_⟩
      clear hK K
      refine wpAnyH_two (i := 3) (j := 8) (by kernel_rfl) rfl rfl rfl rfl (fun K hK => ?_) (fun K hK => ?_)
      · go_simp
        (with_reducible refine (HWB.out _).mono ?_)
        rintro e wt2 ⟨vb2, rfl, rb, bwt2⟩
        have BB := Lib.hid (BB.out.trans (bwt2.mono BB.out.size))
        have RA := Lib.hid (RA.out.below bwt2)
        have RB := Lib.hid rb
        clear rb
        clear bwt2
        go_simp
        refine hK _ _ ⟨BB.out, ?_⟩
        clear hK K
        refine wpAnyH_two (i := 4) (j := 8) (by kernel_rfl) rfl rfl rfl rfl (fun K hK => ?_) (fun K hK => ?_)
        · go_simp
          (with_reducible refine (HPR.out _ _ _ RA.out RB.out).mono ?_)
          rintro e wt3 ⟨rfl, bwt3⟩
          have BB := Lib.hid (BB.out.trans (bwt3.mono BB.out.size))
          clear bwt3
          go_simp
          refine hK _ _ ⟨BB.out, ?_⟩
          clear hK K
          refine wpAnyH_take (i := 5) (v := .tuple #[.agg #[.int .i64 r1, .int .i64 r2, .int .i64 r3, .int .i64 r4, .int .i64 r5, .int .i64 r6, .int .i64 r7, .int .u64 r8], .int .i64 rc]) rfl (by kernel_rfl) (by kernel_rfl) (by kernel_rfl) (fun _ _ _ h => h) (Or.inl ⟨by kernel_rfl, fun w _ => by go_simp⟩) BB.out ?_
          refine wpAnyH_take (i := 6) (v := .agg #[.int .i64 r1, .int .i64 r2, .int .i64 r3, .int .i64 r4, .int .i64 r5, .int .i64 r6, .int .i64 r7, .int .u64 r8]) rfl (by kernel_rfl) (by kernel_rfl) (by kernel_rfl) (fun _ _ _ h => h) (Or.inl ⟨by kernel_rfl, fun w _ => by go_simp⟩) BB.out ?_
          refine wpAnyH_take (i := 7) (v := .int .i64 rc) rfl (by kernel_rfl) (by kernel_rfl) (by kernel_rfl) (fun _ _ _ h => h) (Or.inl ⟨by kernel_rfl, fun w _ => by go_simp⟩) BB.out ?_
          refine wpAnyH_one (i := 8) (by kernel_rfl) rfl rfl (fun K hK => ?_)
          go_simp
          have NB := Lib.hid (Blk.new wt3 #[.int .i64 0, .int .i64 0, .int .i64 0, .int .i64 0, .int .i64 0, .int .i64 0, .int .i64 0, .int .u64 0] 26)
          have HG0 := Lib.hid BB.out.size
          have BA := below_alloc wt3 (.cells #[.int .i64 0, .int .i64 0, .int .i64 0, .int .i64 0, .int .i64 0, .int .i64 0, .int .i64 0, .int .u64 0] 26)
          have BB := Lib.hid (BB.out.trans (BA.mono BB.out.size))
          clear BA
          (try have RA := Lib.hid (RA.out.below (below_alloc wt3 (.cells #[.int .i64 0, .int .i64 0, .int .i64 0, .int .i64 0, .int .i64 0, .int .i64 0, .int .i64 0, .int .u64 0] 26))))
          (try have RB := Lib.hid (RB.out.below (below_alloc wt3 (.cells #[.int .i64 0, .int .i64 0, .int .i64 0, .int .i64 0, .int .i64 0, .int .i64 0, .int .i64 0, .int .u64 0] 26))))
          refine hK _ _ ⟨BB.out, ?_⟩
          clear hK K
          refine wpAnyH_one (i := 9) (by kernel_rfl) rfl rfl (fun K hK => ?_)
          refine wp_store_row 26 (.tmp 11) (.tmp 43) rfl (wt3.heap.size) #[.int .i64 r1, .int .i64 r2, .int .i64 r3, .int .i64 r4, .int .i64 r5, .int .i64 r6, .int .i64 r7, .int .u64 r8] rfl rfl 26 #[.int .i64 0, .int .i64 0, .int .i64 0, .int .i64 0, .int .i64 0, .int .i64 0, .int .i64 0, .int .u64 0] NB.out HIS.out rfl HOC.out ?_
          have BS := Lib.hid (below_setRow BB.out HG0.out #[.int .i64 r1, .int .i64 r2, .int .i64 r3, .int .i64 r4, .int .i64 r5, .int .i64 r6, .int .i64 r7, .int .u64 r8])
          refine hK _ _ ⟨BS.out, ?_⟩
          clear hK K
          refine wpAnyH_one (i := 10) (by kernel_rfl) rfl rfl (fun K hK => ?_)
          go_simp
          refine hK _ _ ⟨BS.out, ?_⟩
          clear hK K
          refine wpAnyH_done (by kernel_rfl) ?_ _
          go_wp2_with fail
          go_meet
          exact ⟨_, rfl, rfl, setRow_heap _ _ _ #[.int .i64 r1, .int .i64 r2, .int .i64 r3, .int .i64 r4, .int .i64 r5, .int .i64 r6, .int .i64 r7, .int .u64 r8] 26 (0, 0) NB.out, BS.out, HG0.out⟩
        · go_simp
          have NB := Lib.hid (Blk.new wt2 #[.int .i64 0, .int .i64 0, .int .i64 0, .int .i64 0, .int .i64 0, .int .i64 0, .int .i64 0, .int .u64 0] 26)
          have HG0 := Lib.hid BB.out.size
          have BA := below_alloc wt2 (.cells #[.int .i64 0, .int .i64 0, .int .i64 0, .int .i64 0, .int .i64 0, .int .i64 0, .int .i64 0, .int .u64 0] 26)
          have BB := Lib.hid (BB.out.trans (BA.mono BB.out.size))
          clear BA
          (try have RA := Lib.hid (RA.out.below (below_alloc wt2 (.cells #[.int .i64 0, .int .i64 0, .int .i64 0, .int .i64 0, .int .i64 0, .int .i64 0, .int .i64 0, .int .u64 0] 26))))
          (try have RB := Lib.hid (RB.out.below (below_alloc wt2 (.cells #[.int .i64 0, .int .i64 0, .int .i64 0, .int .i64 0, .int .i64 0, .int .i64 0, .int .i64 0, .int .u64 0] 26))))
          refine hK _ _ ⟨BB.out, ?_⟩
          clear hK K
          refine wpAnyH_one (i := 4) (by kernel_rfl) rfl rfl (fun K hK => ?_)
          go_simp
          (with_reducible refine (HPR.out _ _ _ RA.out RB.out).mono ?_)
          rintro e wt4 ⟨rfl, bwt4⟩
          have BB := Lib.hid (BB.out.trans (bwt4.mono BB.out.size))
          have NB := Lib.hid (NB.out.below bwt4)
          clear bwt4
          go_simp
          refine hK _ _ ⟨BB.out, ?_⟩
          clear hK K
          refine wpAnyH_take (i := 5) (v := .tuple #[.agg #[.int .i64 r1, .int .i64 r2, .int .i64 r3, .int .i64 r4, .int .i64 r5, .int .i64 r6, .int .i64 r7, .int .u64 r8], .int .i64 rc]) rfl (by kernel_rfl) (by kernel_rfl) (by kernel_rfl) (fun _ _ _ h => h) (Or.inl ⟨by kernel_rfl, fun w _ => by go_simp⟩) BB.out ?_
          refine wpAnyH_take (i := 6) (v := .agg #[.int .i64 r1, .int .i64 r2, .int .i64 r3, .int .i64 r4, .int .i64 r5, .int .i64 r6, .int .i64 r7, .int .u64 r8]) rfl (by kernel_rfl) (by kernel_rfl) (by kernel_rfl) (fun _ _ _ h => h) (Or.inl ⟨by kernel_rfl, fun w _ => by go_simp⟩) BB.out ?_
          refine wpAnyH_take (i := 7) (v := .int .i64 rc) rfl (by kernel_rfl) (by kernel_rfl) (by kernel_rfl) (fun _ _ _ h => h) (Or.inl ⟨by kernel_rfl, fun w _ => by go_simp⟩) BB.out ?_
          refine wpAnyH_one (i := 9) (by kernel_rfl) rfl rfl (fun K hK => ?_)
          refine wp_store_row 26 (.tmp 11) (.tmp 43) rfl (wt2.heap.size) #[.int .i64 r1, .int .i64 r2, .int .i64 r3, .int .i64 r4, .int .i64 r5, .int .i64 r6, .int .i64 r7, .int .u64 r8] rfl rfl 26 #[.int .i64 0, .int .i64 0, .int .i64 0, .int .i64 0, .int .i64 0, .int .i64 0, .int .i64 0, .int .u64 0] NB.out HIS.out rfl HOC.out ?_
          have BS := Lib.hid (below_setRow BB.out HG0.out #[.int .i64 r1, .int .i64 r2, .int .i64 r3, .int .i64 r4, .int .i64 r5, .int .i64 r6, .int .i64 r7, .int .u64 r8])
          refine hK _ _ ⟨BS.out, ?_⟩
          clear hK K
          refine wpAnyH_one (i := 10) (by kernel_rfl) rfl rfl (fun K hK => ?_)
          go_simp
          refine hK _ _ ⟨BS.out, ?_⟩
          clear hK K
          refine wpAnyH_done (by kernel_rfl) ?_ _
          go_wp2_with fail
          go_meet
          exact ⟨_, rfl, rfl, setRow_heap _ _ _ #[.int .i64 r1, .int .i64 r2, .int .i64 r3, .int .i64 r4, .int .i64 r5, .int .i64 r6, .int .i64 r7, .int .u64 r8] 26 (0, 0) NB.out, BS.out, HG0.out⟩
      · go_simp
        have NB := Lib.hid (Blk.new wt1 #[.int .i64 0, .int .i64 0, .int .i64 0, .int .i64 0, .int .i64 0, .int .i64 0, .int .i64 0, .int .u64 0] 26)
        have HG0 := Lib.hid BB.out.size
        have BA := below_alloc wt1 (.cells #[.int .i64 0, .int .i64 0, .int .i64 0, .int .i64 0, .int .i64 0, .int .i64 0, .int .i64 0, .int .u64 0] 26)
        have BB := Lib.hid (BB.out.trans (BA.mono BB.out.size))
        clear BA
        (try have RA := Lib.hid (RA.out.below (below_alloc wt1 (.cells #[.int .i64 0, .int .i64 0, .int .i64 0, .int .i64 0, .int .i64 0, .int .i64 0, .int .i64 0, .int .u64 0] 26))))
        (try have RB := Lib.hid (RB.out.below (below_alloc wt1 (.cells #[.int .i64 0, .int .i64 0, .int .i64 0, .int .i64 0, .int .i64 0, .int .i64 0, .int .i64 0, .int .u64 0] 26))))
        refine hK _ _ ⟨BB.out, ?_⟩
        clear hK K
        refine wpAnyH_one (i := 3) (by kernel_rfl) rfl rfl (fun K hK => ?_)
        go_simp
        (with_reducible refine (HWB.out _).mono ?_)
        rintro e wt5 ⟨vb2, rfl, rb, bwt5⟩
        have BB := Lib.hid (BB.out.trans (bwt5.mono BB.out.size))
        have NB := Lib.hid (NB.out.below bwt5)
        have RA := Lib.hid (RA.out.below bwt5)
        have RB := Lib.hid rb
        clear rb
        clear bwt5
        go_simp
        refine hK _ _ ⟨BB.out, ?_⟩
        clear hK K
        refine wpAnyH_one (i := 4) (by kernel_rfl) rfl rfl (fun K hK => ?_)
        go_simp
        (with_reducible refine (HPR.out _ _ _ RA.out RB.out).mono ?_)
        rintro e wt6 ⟨rfl, bwt6⟩
        have BB := Lib.hid (BB.out.trans (bwt6.mono BB.out.size))
        have NB := Lib.hid (NB.out.below bwt6)
        clear bwt6
        go_simp
        refine hK _ _ ⟨BB.out, ?_⟩
        clear hK K
        refine wpAnyH_take (i := 5) (v := .tuple #[.agg #[.int .i64 r1, .int .i64 r2, .int .i64 r3, .int .i64 r4, .int .i64 r5, .int .i64 r6, .int .i64 r7, .int .u64 r8], .int .i64 rc]) rfl (by kernel_rfl) (by kernel_rfl) (by kernel_rfl) (fun _ _ _ h => h) (Or.inl ⟨by kernel_rfl, fun w _ => by go_simp⟩) BB.out ?_
        refine wpAnyH_take (i := 6) (v := .agg #[.int .i64 r1, .int .i64 r2, .int .i64 r3, .int .i64 r4, .int .i64 r5, .int .i64 r6, .int .i64 r7, .int .u64 r8]) rfl (by kernel_rfl) (by kernel_rfl) (by kernel_rfl) (fun _ _ _ h => h) (Or.inl ⟨by kernel_rfl, fun w _ => by go_simp⟩) BB.out ?_
        refine wpAnyH_take (i := 7) (v := .int .i64 rc) rfl (by kernel_rfl) (by kernel_rfl) (by kernel_rfl) (fun _ _ _ h => h) (Or.inl ⟨by kernel_rfl, fun w _ => by go_simp⟩) BB.out ?_
        refine wpAnyH_one (i := 9) (by kernel_rfl) rfl rfl (fun K hK => ?_)
        refine wp_store_row 26 (.tmp 11) (.tmp 43) rfl (wt1.heap.size) #[.int .i64 r1, .int .i64 r2, .int .i64 r3, .int .i64 r4, .int .i64 r5, .int .i64 r6, .int .i64 r7, .int .u64 r8] rfl rfl 26 #[.int .i64 0, .int .i64 0, .int .i64 0, .int .i64 0, .int .i64 0, .int .i64 0, .int .i64 0, .int .u64 0] NB.out HIS.out rfl HOC.out ?_
        have BS := Lib.hid (below_setRow BB.out HG0.out #[.int .i64 r1, .int .i64 r2, .int .i64 r3, .int .i64 r4, .int .i64 r5, .int .i64 r6, .int .i64 r7, .int .u64 r8])
        refine hK _ _ ⟨BS.out, ?_⟩
        clear hK K
        refine wpAnyH_one (i := 10) (by kernel_rfl) rfl rfl (fun K hK => ?_)
        go_simp
        refine hK _ _ ⟨BS.out, ?_⟩
        clear hK K
        refine wpAnyH_done (by kernel_rfl) ?_ _
        go_wp2_with fail
        go_meet
        exact ⟨_, rfl, rfl, setRow_heap _ _ _ #[.int .i64 r1, .int .i64 r2, .int .i64 r3, .int .i64 r4, .int .i64 r5, .int .i64 r6, .int .i64 r7, .int .u64 r8] 26 (0, 0) NB.out, BS.out, HG0.out⟩
    · go_simp
      have NB := Lib.hid (Blk.new wA.drew #[.int .i64 0, .int .i64 0, .int .i64 0, .int .i64 0, .int .i64 0, .int .i64 0, .int .i64 0, .int .u64 0] 26)
      have HG0 := Lib.hid BB.out.size
      have BA := below_alloc wA.drew (.cells #[.int .i64 0, .int .i64 0, .int .i64 0, .int .i64 0, .int .i64 0, .int .i64 0, .int .i64 0, .int .u64 0] 26)
      have BB := Lib.hid (BB.out.trans (BA.mono BB.out.size))
      clear BA
      (try have RA := Lib.hid (RA.out.below (below_alloc wA.drew (.cells #[.int .i64 0, .int .i64 0, .int .i64 0, .int .i64 0, .int .i64 0, .int .i64 0, .int .i64 0, .int .u64 0] 26))))
      (try have RB := Lib.hid (RB.out.below (below_alloc wA.drew (.cells #[.int .i64 0, .int .i64 0, .int .i64 0, .int .i64 0, .int .i64 0, .int .i64 0, .int .i64 0, .int .u64 0] 26))))
      refine hK _ _ ⟨BB.out, ?_⟩
      clear hK K
      refine wpAnyH_one (i := 1) (by kernel_rfl) rfl rfl (fun K hK => ?_)
      go_simp
      (with_reducible refine (HWA.out _).mono ?_)
      rintro e wt7 ⟨va2, rfl, ra, bwt7⟩
      have BB := Lib.hid (BB.out.trans (bwt7.mono BB.out.size))
      have NB := Lib.hid (NB.out.below bwt7)
      have RA := Lib.hid ra
      clear ra
      clear bwt7
      go_simp
      refine hK _ _ ⟨BB.out, ?_⟩
      clear hK K
      refine wpAnyH_one (i := 3) (by kernel_rfl) rfl rfl (fun K hK => ?_)
      go_simp
      (with_reducible refine (HWB.out _).mono ?_)
      rintro e wt8 ⟨vb2, rfl, rb, bwt8⟩
      have BB := Lib.hid (BB.out.trans (bwt8.mono BB.out.size))
      have NB := Lib.hid (NB.out.below bwt8)
      have RA := Lib.hid (RA.out.below bwt8)
      have RB := Lib.hid rb
      clear rb
      clear bwt8
      go_simp
      refine hK _ _ ⟨BB.out, ?_⟩
      clear hK K
      refine wpAnyH_one (i := 4) (by kernel_rfl) rfl rfl (fun K hK => ?_)
      go_simp
      (with_reducible refine (HPR.out _ _ _ RA.out RB.out).mono ?_)
      rintro e wt9 ⟨rfl, bwt9⟩
      have BB := Lib.hid (BB.out.trans (bwt9.mono BB.out.size))
      have NB := Lib.hid (NB.out.below bwt9)
      clear bwt9
      go_simp
      refine hK _ _ ⟨BB.out, ?_⟩
      clear hK K
      refine wpAnyH_take (i := 5) (v := .tuple #[.agg #[.int .i64 r1, .int .i64 r2, .int .i64 r3, .int .i64 r4, .int .i64 r5, .int .i64 r6, .int .i64 r7, .int .u64 r8], .int .i64 rc]) rfl (by kernel_rfl) (by kernel_rfl) (by kernel_rfl) (fun _ _ _ h => h) (Or.inl ⟨by kernel_rfl, fun w _ => by go_simp⟩) BB.out ?_
      refine wpAnyH_take (i := 6) (v := .agg #[.int .i64 r1, .int .i64 r2, .int .i64 r3, .int .i64 r4, .int .i64 r5, .int .i64 r6, .int .i64 r7, .int .u64 r8]) rfl (by kernel_rfl) (by kernel_rfl) (by kernel_rfl) (fun _ _ _ h => h) (Or.inl ⟨by kernel_rfl, fun w _ => by go_simp⟩) BB.out ?_
      refine wpAnyH_take (i := 7) (v := .int .i64 rc) rfl (by kernel_rfl) (by kernel_rfl) (by kernel_rfl) (fun _ _ _ h => h) (Or.inl ⟨by kernel_rfl, fun w _ => by go_simp⟩) BB.out ?_
      refine wpAnyH_one (i := 9) (by kernel_rfl) rfl rfl (fun K hK => ?_)
      refine wp_store_row 26 (.tmp 11) (.tmp 43) rfl (wA.drew.heap.size) #[.int .i64 r1, .int .i64 r2, .int .i64 r3, .int .i64 r4, .int .i64 r5, .int .i64 r6, .int .i64 r7, .int .u64 r8] rfl rfl 26 #[.int .i64 0, .int .i64 0, .int .i64 0, .int .i64 0, .int .i64 0, .int .i64 0, .int .i64 0, .int .u64 0] NB.out HIS.out rfl HOC.out ?_
      have BS := Lib.hid (below_setRow BB.out HG0.out #[.int .i64 r1, .int .i64 r2, .int .i64 r3, .int .i64 r4, .int .i64 r5, .int .i64 r6, .int .i64 r7, .int .u64 r8])
      refine hK _ _ ⟨BS.out, ?_⟩
      clear hK K
      refine wpAnyH_one (i := 10) (by kernel_rfl) rfl rfl (fun K hK => ?_)
      go_simp
      refine hK _ _ ⟨BS.out, ?_⟩
      clear hK K
      refine wpAnyH_done (by kernel_rfl) ?_ _
      go_wp2_with fail
      go_meet
      exact ⟨_, rfl, rfl, setRow_heap _ _ _ #[.int .i64 r1, .int .i64 r2, .int .i64 r3, .int .i64 r4, .int .i64 r5, .int .i64 r6, .int .i64 r7, .int .u64 r8] 26 (0, 0) NB.out, BS.out, HG0.out⟩
  case rest =>
    obtain ⟨g, rfl, rfl, hgb, hbl, hgw⟩ := hcut
    rename World => wB
    have SB := Lib.hid ((SA.out.next hbl).more hgb (own_none SA.out.st.dev hgw))
    have BA := Lib.hid hbl
    have q4 := SB.out.get (i := 3) rfl
    have c0 := q4.cell (i := 0) (v := .int .u8 s0) rfl; have c1 := q4.cell (i := 1) (v := .int .u8 s1) rfl; have c2 := q4.cell (i := 2) (v := .int .u8 s2) rfl; have c3 := q4.cell (i := 3) (v := .int .u8 s3) rfl
    have k7 := (SB.out.get (i := 0) rfl).cell (i := 7) (v := .int .u64 r8) rfl
    clear hgb hbl hgw SA q4 HIS HOC HIA HIB HWA HWB
    rcases HC.out with ⟨h1, rfl, rfl⟩ | ⟨h1, h2, rfl, rfl⟩ | ⟨h1, h2, rfl, hpn, hrd, hgo⟩
    · obtain rfl : rc = -1 := by have := HRCC.out; rw [h1] at this; simpa using this.symm
      have HU1 := Lib.hid (fun (wx : World) (hx : Nib wx) (hd : IsDev wx v own D) => (HUP.out wx v own hx hd).mono (fun r w' hp => show r = .returned (.int .i64 10) ∧ Below wx.heap.size wx w' by
        rcases hp with ⟨e1, e2, e3⟩ | ⟨e1, e2, e3, e4⟩ | ⟨e1, e2⟩
        · exact ⟨e2, e3⟩
        · rw [h1] at e1; cases e1
        · rw [h1] at e1; cases e1))
      clear HUP HAT h1 HGB HPR HCY HC HRS HRCC
      go_wp2_with fail
      (with_reducible refine (HSO.out _).mono ?_)
      rintro e' wC ⟨rfl, bC⟩
      have SC := Lib.hid (SB.out.next bC)
      clear bC SB c0 c1 c2 c3
      go_wp2_with fail
      (with_reducible refine (HRL.out _).mono ?_)
      rintro e' wD ⟨rfl, bD⟩
      have SD := Lib.hid (SC.out.next bD)
      clear bD SC
      go_wp2_with fail
      (with_reducible refine (HU1.out _ (HNB.out.below (B6.out.trans (SD.out.st.bel.mono hw6))) SD.out.st.dev).mono ?_)
      rintro e' wE ⟨rfl, bE⟩
      have SE := Lib.hid (SD.out.next bE)
      clear bE SD
      go_wp2_with fail
      go_ret
      exact ⟨rfl, B6.out.trans (SE.out.st.bel.mono hw6)⟩
    · have hS : newS C 200 = ⟨r1, r2, r3, r4, r5, r6, r7, r8⟩ := by have := HRS.out; rw [h1] at this; simpa using this
      obtain rfl : r8 = 18446744073709551615 := by rw [hS] at h2; exact h2
      obtain rfl : rc = ((newA C 200 : Nat) : Int) := by have := HRCC.out; rw [h1] at this; simpa using this.symm
      have hr1 : ¬ ((newA C 200 : Nat) : Int) < 0 := by omega
      have hr2 : ((newA C 200 : Nat) : Int) ≥ 0 := by omega
      clear hS
      have H2 := Lib.hid h2
      clear h2
      generalize newA C 200 = ia at hr1 hr2 HA1
      have HU1 := Lib.hid (fun (wx : World) (hx : Nib wx) (hd : IsDev wx v own D) => (HUP.out wx v own hx hd).mono (fun r w' hp => show r = .returned (.int .i64 9) ∧ Below wx.heap.size wx w' by
        rcases hp with ⟨e1, e2, e3⟩ | ⟨e1, e2, e3, e4⟩ | ⟨e1, e2⟩
        · rw [h1] at e1; cases e1
        · exact ⟨e3, e4⟩
        · exact absurd H2.out e2))
      clear HUP HAT h1 HGB HPR HCY HC HRS HRCC
      go_wp2_with fail
      (with_reducible refine (HSO.out _).mono ?_)
      rintro e' wC ⟨rfl, bC⟩
      have SC := Lib.hid (SB.out.next bC)
      clear bC SB c0 c1 c2 c3
      go_wp2_with fail
      (with_reducible refine (HRL.out _).mono ?_)
      rintro e' wD ⟨rfl, bD⟩
      have SD := Lib.hid (SC.out.next bD)
      clear bD SC
      go_wp2_with fail
      (with_reducible refine (HU1.out _ (HNB.out.below (B6.out.trans (SD.out.st.bel.mono hw6))) SD.out.st.dev).mono ?_)
      rintro e' wE ⟨rfl, bE⟩
      have SE := Lib.hid (SD.out.next bE)
      clear bE SD
      go_wp2_with fail
      go_ret
      exact ⟨rfl, B6.out.trans (SE.out.st.bel.mono hw6)⟩
    · have hS : newS C 200 = ⟨r1, r2, r3, r4, r5, r6, r7, r8⟩ := by have := HRS.out; rw [h1] at this; simpa using this
      obtain rfl : rc = ((newA C 200 : Nat) : Int) := by have := HRCC.out; rw [h1] at this; simpa using this.symm
      obtain ⟨E, F, hU, hR, hO, hCu, hPe⟩ := HAT.out h1 h2
      have hgb := HGB.out
      rw [hS] at h2 hR hO hpn hrd hgb
      simp only at h2 hR hO hpn hrd hgb
      have hA1 := HA1.out
      generalize hia : newA C 200 = ia at *
      have hr8 : 0 ≤ r8 ∧ r8 + 1 < 18446744073709551616 := by omega
      obtain ⟨i, hi⟩ : ∃ i, 1 - ia = i := ⟨_, rfl⟩
      have hwr : IntKind.i64.wrap (1 - ((ia : Nat) : Int)) = ((i : Nat) : Int) := by
        obtain rfl | rfl : ia = 0 ∨ ia = 1 := by omega
        all_goals subst hi
        all_goals rfl
      have hi1 : i ≤ 1 := by omega
      rw [hi] at hR hpn hrd
      have hpg := fun (wx : World) => prog13_any (w := wx) ⟨z1, z2, z3, z4, z5, z6, z7, r8 + 1⟩ (HFT.out (r8 + 1) (by omega) (by omega)) i hi1
      have hlen : (sbP ⟨z1, z2, z3, z4, z5, z6, z7, r8 + 1⟩ i).length ≤ 100000 := by have := sbP_len ⟨z1, z2, z3, z4, z5, z6, z7, r8 + 1⟩ i; omega
      have hrd' : RdSl wA 3 (.slice pa pn pc) pn (instrC (sbP ⟨z1, z2, z3, z4, z5, z6, z7, r8 + 1⟩ i)) := hrd
      have hpn' : pn = (sbP ⟨z1, z2, z3, z4, z5, z6, z7, r8 + 1⟩ i).length := hpn
      have hR' : ∀ (wx : World) (v : DV) (own : Nat → Option Role) (pv : Value), IsDev wx v own D → RdSl wx 3 pv (sbP ⟨z1, z2, z3, z4, z5, z6, z7, r8 + 1⟩ i).length (instrC (sbP ⟨z1, z2, z3, z4, z5, z6, z7, r8 + 1⟩ i)) → (∀ g, pv.ownBlock = some g → own g = none) →
        Calls Tryd.prog 37 #[pv, .iface 49 (.pointer (some ⟨v.tb 1, 0, none⟩))] wx fun r w' => r = .returned (.int .i64 0) ∧ DPost v own wx E w' := hR
      clear hrd hpn hR
      generalize sbP ⟨z1, z2, z3, z4, z5, z6, z7, r8 + 1⟩ i = P at hpg hlen hrd' hpn' hR'
      have HPG := Lib.hid hpg; have HR := Lib.hid hR'; have HU := Lib.hid hU; have HO := Lib.hid hO; have HCU := Lib.hid hCu; have HPE := Lib.hid hPe
      have HPLN := Lib.hid (fun (wx : World) sv hs => plain13_any (w := wx) sv P hs hlen)
      have HSAME := Lib.hid (fun (wx : World) u v hx hy => r10Same_same (w := wx) u v P hx hy hlen)
      have HSM := Lib.hid (fun (wx : World) => same13_any (w := wx) ⟨z1, z2, z3, z4, z5, z6, z7, r8 + 1⟩)
      unfold Sup.cells at HPG HSM
      simp only at HPG HSM
      have HRD := Lib.hid (And.intro hrd' hgo)
      have HPN := Lib.hid hpn'
      have hr1 : ¬ ((ia : Nat) : Int) < 0 := by omega
      have hr9 : (r8 == 18446744073709551615) = false := by simpa using h2
      clear hU hR' hO hCu hPe hpg hlen hrd' hpn' hgo hS h1 h2 hi hia hgb hA1 HUP HAT HPR HC HRS HRCC HFT HGB HA1
      go_wp2_with fail
      (with_reducible refine (HSO.out _).mono ?_)
      rintro e' wC ⟨rfl, bC⟩
      have SC := Lib.hid (SB.out.next bC)
      have BC := Lib.hid (BA.out.trans (bC.mono BA.out.size))
      have k7' := (SC.out.add #[.int .i64 z1, .int .i64 z2, .int .i64 z3, .int .i64 z4, .int .i64 z5, .int .i64 z6, .int .i64 z7, .int .u64 0] 26 |>.get (i := 1) rfl).cell (i := 7) (v := .int .u64 r8) rfl
      clear bC SB BA c0 c1 c2 c3 k7
      go_wp2_with fail
      have SE := Lib.hid (SC.out.add #[.int .i64 z1, .int .i64 z2, .int .i64 z3, .int .i64 z4, .int .i64 z5, .int .i64 z6, .int .i64 z7, .int .u64 (r8 + 1)] 26)
      have BE := Lib.hid (BC.out.trans ((below_alloc wC (.cells #[.int .i64 z1, .int .i64 z2, .int .i64 z3, .int .i64 z4, .int .i64 z5, .int .i64 z6, .int .i64 z7, .int .u64 (r8 + 1)] 26)).mono BC.out.size))
      clear BC SC k7'
      (with_reducible refine (HCY.out _ _ _ SE.out.st.dev).mono ?_)
      rintro e' wF ⟨v2, own2, rfl, i1, i2, o2, bF⟩
      have T0 := Lib.hid (Tw.start SE.out (HRD.out.1.below BE.out) (fun g hg => ⟨HOA.out g (HRD.out.2 g hg).1, Nat.lt_of_lt_of_le (HRD.out.2 g hg).2 BE.out.size⟩) i1 i2 o2 bF)
      clear i1 i2 o2 bF SE BE HRD HOA HCY
      generalize wC.heap.size = xb at *
      go_wp2_with fail
      have T1 := Lib.hid (T0.out.next ((Below.refl _ _).drew))
      clear T0
      refine wp_region_held (S := (fun wx => KSt w6 ((xb, #[.int .i64 z1, .int .i64 z2, .int .i64 z3, .int .i64 z4, .int .i64 z5, .int .i64 z6, .int .i64 z7, .int .u64 (r8 + 1)], 26) :: (g, #[.int .i64 r1, .int .i64 r2, .int .i64 r3, .int .i64 r4, .int .i64 r5, .int .i64 r6, .int .i64 r7, .int .u64 r8], 26) :: [(w.heap.size, ca, 42), (w.heap.size + 1, cb, 42), (w.heap.size + 2, #[.int .u8 s0, .int .u8 s1, .int .u8 s2, .int .u8 s3], 38)]) wx)) (by kernel_rfl) ?_
      change wpAnyH _ _ _ _ _ _ _ _ (World.drew _)
      refine wpAnyH_take (i := 0) (v := .int .i64 0) rfl (by kernel_rfl) (by kernel_rfl) (by kernel_rfl) (fun _ _ _ h => h) (Or.inl ⟨by kernel_rfl, fun w _ => by go_simp⟩) T1.out.x.kst ?_
      refine wpAnyH_take (i := 1) (v := .bool false) rfl (by kernel_rfl) (by kernel_rfl) (by kernel_rfl) (fun _ _ _ h => h) (Or.inl ⟨by kernel_rfl, fun w _ => by go_simp⟩) T1.out.x.kst ?_
      refine wpAnyH_take (i := 2) (v := .bool false) rfl (by kernel_rfl) (by kernel_rfl) (by kernel_rfl) (fun _ _ _ h => h) (Or.inl ⟨by kernel_rfl, fun w _ => by go_simp⟩) T1.out.x.kst ?_
      refine wpAnyH_take (i := 3) (v := .slice pa pn pc) rfl (by kernel_rfl) (by kernel_rfl) (by kernel_rfl) (fun _ _ _ h => h) (Or.inl ⟨by kernel_rfl, fun w _ => by go_simp⟩) T1.out.x.kst ?_
      refine wpAnyH_take (i := 5) (v := .agg #[.int .i64 z1, .int .i64 z2, .int .i64 z3, .int .i64 z4, .int .i64 z5, .int .i64 z6, .int .i64 z7, .int .u64 (r8 + 1)]) rfl (by kernel_rfl) (by kernel_rfl) (by kernel_rfl) (fun _ _ _ h => h) (Or.inl ⟨by kernel_rfl, fun wx hx => exec_load_row 26 (.tmp 14) rfl xb rfl 26 #[.int .i64 z1, .int .i64 z2, .int .i64 z3, .int .i64 z4, .int .i64 z5, .int .i64 z6, .int .i64 z7, .int .u64 (r8 + 1)] (0, 0) _ (hx.get (i := 0) rfl) Tryd.underlying26 rfl HIX.out⟩) T1.out.x.kst ?_
      refine wpAnyH_take (i := 6) (v := .int .i64 ((ia : Nat) : Int)) rfl (by kernel_rfl) (by kernel_rfl) (by kernel_rfl) (fun _ _ _ h => h) (Or.inl ⟨by kernel_rfl, fun w _ => by go_simp⟩) T1.out.x.kst ?_
      refine wpAnyH_take (i := 7) (v := .int .i64 ((i : Nat) : Int)) rfl (by kernel_rfl) (by kernel_rfl) (by kernel_rfl) (fun _ _ _ h => h) (Or.inl ⟨by kernel_rfl, fun w _ => by go_simp⟩) T1.out.x.kst ?_
      refine wpAnyH_one (i := 4) (by kernel_rfl) rfl (by kernel_rfl) (fun K hK => ?_)
      go_simp
      (with_reducible refine (HPLN.out _ _ (by rw [← HPN.out]; exact T1.out.rd)).mono ?_)
      rintro e' wG ⟨ov, rfl, aG⟩
      obtain ⟨oa, oc, rfl⟩ := aG.slice
      have T2 := Lib.hid (T1.out.next aG.bel)
      have RG := Lib.hid aG.rd
      clear aG
      go_simp
      refine hK _ _ ⟨T2.out.x.kst, ?_⟩
      clear hK K
      refine wpAnyH_one (i := 8) (by kernel_rfl) rfl (by kernel_rfl) (fun K hK => ?_)
      go_simp
      (with_reducible refine (HPG.out _).mono ?_)
      rintro e' wH ⟨qv, rfl, aH⟩
      obtain ⟨qa, qc, rfl⟩ := aH.slice
      have T3 := Lib.hid (T2.out.next aH.bel)
      have RG3 := Lib.hid (RG.out.below aH.bel)
      have RH := Lib.hid aH.rd
      clear aH
      go_simp
      refine hK _ _ ⟨T3.out.x.kst, ?_⟩
      clear hK K
      refine wpAnyH_one (i := 9) (by kernel_rfl) rfl (by kernel_rfl) (fun K hK => ?_)
      go_simp
      (with_reducible refine (HSAME.out _ _ _ RG3.out RH.out).mono ?_)
      rintro e' wI ⟨rfl, bI⟩
      have T4 := Lib.hid (T3.out.next bI)
      clear bI
      go_simp
      refine hK _ _ ⟨T4.out.x.kst, ?_⟩
      clear hK K
      clear T1 T2 T3 RG RG3 RH HPLN HPG HSAME
      refine wpAnyH_take (i := 10) (v := .bool false) rfl (by kernel_rfl) (by kernel_rfl) (by kernel_rfl) (fun _ _ _ h => h) (Or.inl ⟨by kernel_rfl, fun w _ => by go_simp⟩) T4.out.x.kst ?_
      refine wpAnyH_take (i := 11) (v := .bool false) rfl (by kernel_rfl) (by kernel_rfl) (by kernel_rfl) (fun _ _ _ h => h) (Or.inl ⟨by kernel_rfl, fun w _ => by go_simp⟩) T4.out.x.kst ?_
      refine wpAnyH_take (i := 12) (v := .bool false) rfl (by kernel_rfl) (by kernel_rfl) (by kernel_rfl) (fun _ _ _ h => h) (Or.inl ⟨by kernel_rfl, fun w _ => by go_simp⟩) T4.out.x.kst ?_
      refine wpAnyH_take (i := 13) (v := .pointer (some ⟨v.tb 1, 0, none⟩)) rfl (by kernel_rfl) (by kernel_rfl) (by kernel_rfl) (fun _ _ _ h => h) (Or.inl ⟨by kernel_rfl, fun w _ => by go_simp⟩) T4.out.x.kst ?_
      refine wpAnyH_take (i := 14) (v := .iface 49 (.pointer (some ⟨v.tb 1, 0, none⟩))) rfl (by kernel_rfl) (by kernel_rfl) (by kernel_rfl) (fun _ _ _ h => h) (Or.inl ⟨by kernel_rfl, fun w _ => by go_simp⟩) T4.out.x.kst ?_
      refine wpAnyH_take (i := 15) (v := .agg #[.int .u8 s0, .int .u8 s1, .int .u8 s2, .int .u8 s3]) rfl (by kernel_rfl) (by kernel_rfl) (by kernel_rfl) (fun _ _ _ h => h) (Or.inl ⟨by kernel_rfl, fun wx hx => exec_load_row 38 (.tmp 5) rfl (w.heap.size + 2) rfl 38 #[.int .u8 s0, .int .u8 s1, .int .u8 s2, .int .u8 s3] (0, 0) _ (hx.get (i := 4) rfl) Tryd.underlying38 rfl HI4.out⟩) T4.out.x.kst ?_
      refine wpAnyH_one (i := 16) (by kernel_rfl) rfl (by kernel_rfl) (fun K hK => ?_)
      go_simp
      (with_reducible refine (HSO.out _).mono ?_)
      rintro e' wJ ⟨rfl, bJ⟩
      have T5 := Lib.hid (T4.out.next bJ)
      clear bJ
      go_simp
      refine hK _ _ ⟨T5.out.x.kst, ?_⟩
      clear hK K
      refine wpAnyH_one (i := 17) (by kernel_rfl) rfl (by kernel_rfl) (fun K hK => ?_)
      go_simp
      (with_reducible refine (HRL.out _).mono ?_)
      rintro e' wK ⟨rfl, bK⟩
      have T6 := Lib.hid (T5.out.next bK)
      clear bK
      go_simp
      refine hK _ _ ⟨T6.out.x.kst, ?_⟩
      clear hK K
      refine wpAnyH_one (i := 18) (by kernel_rfl) rfl (by kernel_rfl) (fun K hK => ?_)
      go_simp
      (with_reducible refine (HU.out _ _ _ (HNB.out.below (B6.out.trans (T6.out.x.st.bel.mono hw6))) T6.out.x.st.dev).mono ?_)
      rintro e' wL ⟨rfl, pL⟩
      obtain ⟨ownL, tL⟩ := T6.out.step1 pL
      have T7 := Lib.hid tL
      clear tL pL
      go_simp
      refine hK _ _ ⟨T7.out.x.kst, ?_⟩
      clear hK K
      clear T4 T5 T6 HU HSO HRL
      refine wpAnyH_take (i := 19) (v := .bool false) rfl (by kernel_rfl) (by kernel_rfl) (by kernel_rfl) (fun _ _ _ h => h) (Or.inl ⟨by kernel_rfl, fun w _ => by go_simp⟩) T7.out.x.kst ?_
      refine wpAnyH_take (i := 20) (v := .bool false) rfl (by kernel_rfl) (by kernel_rfl) (by kernel_rfl) (fun _ _ _ h => h) (Or.inl ⟨by kernel_rfl, fun w _ => by go_simp⟩) T7.out.x.kst ?_
      refine wpAnyH_take (i := 21) (v := .bool false) rfl (by kernel_rfl) (by kernel_rfl) (by kernel_rfl) (fun _ _ _ h => h) (Or.inl ⟨by kernel_rfl, fun w _ => by go_simp⟩) T7.out.x.kst ?_
      refine wpAnyH_take (i := 22) (v := .slice pa pn pc) rfl (by kernel_rfl) (by kernel_rfl) (by kernel_rfl) (fun _ _ _ h => h) (Or.inl ⟨by kernel_rfl, fun w _ => by go_simp⟩) T7.out.x.kst ?_
      refine wpAnyH_take (i := 23) (v := .pointer (some ⟨v2.db, 0, none⟩)) rfl (by kernel_rfl) (by kernel_rfl) (by kernel_rfl) (fun _ _ _ h => h) (Or.inl ⟨by kernel_rfl, fun w _ => by go_simp⟩) T7.out.x.kst ?_
      refine wpAnyH_one (i := 24) (by kernel_rfl) rfl (by kernel_rfl) (fun K hK => ?_)
      go_simp
      (with_reducible refine (thread1_any T7.out.d2).mono ?_)
      rintro e' w' ⟨rfl, rfl⟩
      go_simp
      refine hK _ _ ⟨T7.out.x.kst, ?_⟩
      clear hK K
      refine wpAnyH_take (i := 25) (v := .iface 49 (.pointer (some ⟨v2.tb 1, 0, none⟩))) rfl (by kernel_rfl) (by kernel_rfl) (by kernel_rfl) (fun _ _ _ h => h) (Or.inl ⟨by kernel_rfl, fun w _ => by go_simp⟩) T7.out.x.kst ?_
      refine wpAnyH_one (i := 26) (by kernel_rfl) rfl (by kernel_rfl) (fun K hK => ?_)
      go_simp
      (with_reducible refine (HR.out _ _ _ _ T7.out.d2 (by rw [← HPN.out]; exact T7.out.rd) (fun g hg => (T7.out.ro g hg).2.1)).mono ?_)
      rintro e' wM ⟨rfl, pM⟩
      obtain ⟨ownM, tM⟩ := T7.out.step2 pM
      have T8 := Lib.hid tM
      clear tM pM
      go_simp
      refine hK _ _ ⟨T8.out.x.kst, ?_⟩
      clear hK K
      clear T7 HR
      refine wpAnyH_take (i := 27) (v := .bool false) rfl (by kernel_rfl) (by kernel_rfl) (by kernel_rfl) (fun _ _ _ h => h) (Or.inl ⟨by kernel_rfl, fun w _ => by go_simp⟩) T8.out.x.kst ?_
      refine wpAnyH_take (i := 28) (v := .bool false) rfl (by kernel_rfl) (by kernel_rfl) (by kernel_rfl) (fun _ _ _ h => h) (Or.inl ⟨by kernel_rfl, fun w _ => by go_simp⟩) T8.out.x.kst ?_
      refine wpAnyH_done (by kernel_rfl) ?_ _
      go_wp2_with fail
      (with_reducible refine (threadB_any T8.out.x.st.dev).mono ?_)
      rintro e' w' ⟨rfl, rfl⟩
      go_wp2_with fail
      (with_reducible refine (HO.out _ _ _ (HNB.out.below (B6.out.trans (T8.out.x.st.bel.mono hw6))) T8.out.x.st.dev).mono ?_)
      rintro e' wN ⟨rfl, bN⟩
      have T9 := Lib.hid ((T8.out.next bN).add #[.int .i64 z1, .int .i64 z2, .int .i64 z3, .int .i64 z4, .int .i64 z5, .int .i64 z6, .int .i64 z7, .int .u64 (r8 + 1)] 29)
      clear bN T8 HO
      go_wp2_with fail
      generalize wN.heap.size = ob at *
      have TA := Lib.hid (T9.out.next ((Below.refl _ _).drew))
      clear T9
      obtain ⟨sF, hsF⟩ : ∃ sF, str13 F = sF := ⟨_, rfl⟩
      have hcv := fun (wx : World) g (h : Row wx g 12800 5 (fun i => .int .u8 (byteAt F i))) => conv13 h
      rw [hsF] at hcv
      have HCV := Lib.hid hcv
      have hsq : (sF.toList == sF.toList) = true := beq_self_eq_true _
      clear hcv hsF
      refine wp_region_held (S := (fun wx => KSt w6 ((ob, #[.int .i64 z1, .int .i64 z2, .int .i64 z3, .int .i64 z4, .int .i64 z5, .int .i64 z6, .int .i64 z7, .int .u64 (r8 + 1)], 29) :: (xb, #[.int .i64 z1, .int .i64 z2, .int .i64 z3, .int .i64 z4, .int .i64 z5, .int .i64 z6, .int .i64 z7, .int .u64 (r8 + 1)], 26) :: (g, #[.int .i64 r1, .int .i64 r2, .int .i64 r3, .int .i64 r4, .int .i64 r5, .int .i64 r6, .int .i64 r7, .int .u64 r8], 26) :: [(w.heap.size, ca, 42), (w.heap.size + 1, cb, 42), (w.heap.size + 2, #[.int .u8 s0, .int .u8 s1, .int .u8 s2, .int .u8 s3], 38)]) wx)) (by kernel_rfl) ?_
      change wpAnyH _ _ _ _ _ _ _ _ (World.drew _)
      refine wpAnyH_take (i := 0) (v := .int .i64 0) rfl (by kernel_rfl) (by kernel_rfl) (by kernel_rfl) (fun _ _ _ h => h) (Or.inl ⟨by kernel_rfl, fun w _ => by go_simp⟩) TA.out.x.kst ?_
      refine wpAnyH_take (i := 1) (v := .bool true) rfl (by kernel_rfl) (by kernel_rfl) (by kernel_rfl) (fun _ _ _ h => h) (Or.inl ⟨by kernel_rfl, fun w _ => by go_simp⟩) TA.out.x.kst ?_
      refine wpAnyH_take (i := 2) (v := .bool true) rfl (by kernel_rfl) (by kernel_rfl) (by kernel_rfl) (fun _ _ _ h => h) (Or.inl ⟨by kernel_rfl, fun w _ => by go_simp⟩) TA.out.x.kst ?_
      refine wpAnyH_take (i := 3) (v := .agg #[.int .i64 z1, .int .i64 z2, .int .i64 z3, .int .i64 z4, .int .i64 z5, .int .i64 z6, .int .i64 z7, .int .u64 (r8 + 1)]) rfl (by kernel_rfl) (by kernel_rfl) (by kernel_rfl) (fun _ _ _ h => h) (Or.inl ⟨by kernel_rfl, fun wx hx => exec_load_row 29 (.tmp 16) rfl ob rfl 29 #[.int .i64 z1, .int .i64 z2, .int .i64 z3, .int .i64 z4, .int .i64 z5, .int .i64 z6, .int .i64 z7, .int .u64 (r8 + 1)] (0, 0) _ (hx.get (i := 0) rfl) Tryd.underlying29 rfl HIO.out⟩) TA.out.x.kst ?_
      refine wpAnyH_take (i := 4) (v := .agg #[.int .i64 z1, .int .i64 z2, .int .i64 z3, .int .i64 z4, .int .i64 z5, .int .i64 z6, .int .i64 z7, .int .u64 (r8 + 1)]) rfl (by kernel_rfl) (by kernel_rfl) (by kernel_rfl) (fun _ _ _ h => h) (Or.inl ⟨by kernel_rfl, fun wx hx => exec_load_row 26 (.tmp 14) rfl xb rfl 26 #[.int .i64 z1, .int .i64 z2, .int .i64 z3, .int .i64 z4, .int .i64 z5, .int .i64 z6, .int .i64 z7, .int .u64 (r8 + 1)] (0, 0) _ (hx.get (i := 1) rfl) Tryd.underlying26 rfl HIX.out⟩) TA.out.x.kst ?_
      refine wpAnyH_one (i := 5) (by kernel_rfl) rfl (by kernel_rfl) (fun K hK => ?_)
      go_simp
      (with_reducible refine (HSM.out _).mono ?_)
      rintro e' wO ⟨rfl, bO⟩
      have TB := Lib.hid (TA.out.next bO)
      clear bO
      go_simp
      refine hK _ _ ⟨TB.out.x.kst, ?_⟩
      clear hK K
      clear TA HSM
      refine wpAnyH_take (i := 6) (v := .bool true) rfl (by kernel_rfl) (by kernel_rfl) (by kernel_rfl) (fun _ _ _ h => h) (Or.inl ⟨by kernel_rfl, fun w _ => by go_simp⟩) TB.out.x.kst ?_
      refine wpAnyH_take (i := 7) (v := .bool true) rfl (by kernel_rfl) (by kernel_rfl) (by kernel_rfl) (fun _ _ _ h => h) (Or.inl ⟨by kernel_rfl, fun w _ => by go_simp⟩) TB.out.x.kst ?_
      refine wpAnyH_take (i := 8) (v := .pointer (some ⟨v.db, 0, none⟩)) rfl (by kernel_rfl) (by kernel_rfl) (by kernel_rfl) (fun _ _ _ h => h) (Or.inl ⟨by kernel_rfl, fun w _ => by go_simp⟩) TB.out.x.kst ?_
      refine wpAnyH_take (i := 11) (v := .pointer (some ⟨v2.db, 0, none⟩)) rfl (by kernel_rfl) (by kernel_rfl) (by kernel_rfl) (fun _ _ _ h => h) (Or.inl ⟨by kernel_rfl, fun w _ => by go_simp⟩) TB.out.x.kst ?_
      refine wpAnyH_one (i := 9) (by kernel_rfl) rfl (by kernel_rfl) (fun K hK => ?_)
      go_simp
      (with_reducible refine (HCU.out _ _ _ TB.out.x.st.dev).mono ?_)
      rintro e' wP ⟨rfl, rP, bP⟩
      have TC := Lib.hid (TB.out.next bP)
      have RP := Lib.hid rP
      clear bP rP
      go_simp
      refine hK _ _ ⟨TC.out.x.kst, ?_⟩
      clear hK K
      generalize wO.heap.size = g1 at *
      refine wpAnyH_narrow (S' := fun wx => KSt w6 ((ob, #[.int .i64 z1, .int .i64 z2, .int .i64 z3, .int .i64 z4, .int .i64 z5, .int .i64 z6, .int .i64 z7, .int .u64 (r8 + 1)], 29) :: (xb, #[.int .i64 z1, .int .i64 z2, .int .i64 z3, .int .i64 z4, .int .i64 z5, .int .i64 z6, .int .i64 z7, .int .u64 (r8 + 1)], 26) :: (g, #[.int .i64 r1, .int .i64 r2, .int .i64 r3, .int .i64 r4, .int .i64 r5, .int .i64 r6, .int .i64 r7, .int .u64 r8], 26) :: [(w.heap.size, ca, 42), (w.heap.size + 1, cb, 42), (w.heap.size + 2, #[.int .u8 s0, .int .u8 s1, .int .u8 s2, .int .u8 s3], 38)]) wx ∧ Row wx g1 12800 5 (fun i => .int .u8 (byteAt F i))) (fun _ h => h.1) _ _ _ _ ?_
      refine wpAnyH_take (i := 10) (v := .string sF) rfl (by kernel_rfl) (by kernel_rfl) (by kernel_rfl) (fun _ _ _ h => h) (Or.inl ⟨by kernel_rfl, fun wx hx => (by have c := HCV.out _ _ hx.2; go_simp)⟩) ⟨TC.out.x.kst, RP.out⟩ ?_
      refine wpAnyH_one (i := 12) (by kernel_rfl) rfl (by kernel_rfl) (fun K hK => ?_)
      go_simp
      (with_reducible refine (HCU.out _ _ _ TC.out.d2).mono ?_)
      rintro e' wQ ⟨rfl, rQ, bQ⟩
      have TD := Lib.hid (TC.out.next bQ)
      have RP2 := Lib.hid (RP.out.below bQ)
      have RQ := Lib.hid rQ
      clear bQ rQ
      go_simp
      refine hK _ _ ⟨⟨TD.out.x.kst, RP2.out⟩, ?_⟩
      clear hK K
      clear TB TC RP
      generalize wP.heap.size = g2 at *
      refine wpAnyH_narrow (S' := fun wx => (KSt w6 ((ob, #[.int .i64 z1, .int .i64 z2, .int .i64 z3, .int .i64 z4, .int .i64 z5, .int .i64 z6, .int .i64 z7, .int .u64 (r8 + 1)], 29) :: (xb, #[.int .i64 z1, .int .i64 z2, .int .i64 z3, .int .i64 z4, .int .i64 z5, .int .i64 z6, .int .i64 z7, .int .u64 (r8 + 1)], 26) :: (g, #[.int .i64 r1, .int .i64 r2, .int .i64 r3, .int .i64 r4, .int .i64 r5, .int .i64 r6, .int .i64 r7, .int .u64 r8], 26) :: [(w.heap.size, ca, 42), (w.heap.size + 1, cb, 42), (w.heap.size + 2, #[.int .u8 s0, .int .u8 s1, .int .u8 s2, .int .u8 s3], 38)]) wx ∧ Row wx g1 12800 5 (fun i => .int .u8 (byteAt F i))) ∧ Row wx g2 12800 5 (fun i => .int .u8 (byteAt F i))) (fun _ h => h.1) _ _ _ _ ?_
      refine wpAnyH_take (i := 13) (v := .string sF) rfl (by kernel_rfl) (by kernel_rfl) (by kernel_rfl) (fun _ _ _ h => h) (Or.inl ⟨by kernel_rfl, fun wx hx => (by have c := HCV.out _ _ hx.2; go_simp)⟩) ⟨⟨TD.out.x.kst, RP2.out⟩, RQ.out⟩ ?_
      refine wpAnyH_take (i := 14) (v := .bool true) rfl (by kernel_rfl) (by kernel_rfl) (by kernel_rfl) (fun _ _ _ h => h) (Or.inl ⟨by kernel_rfl, fun w _ => by go_simp⟩) ⟨⟨TD.out.x.kst, RP2.out⟩, RQ.out⟩ ?_
      refine wpAnyH_take (i := 15) (v := .bool true) rfl (by kernel_rfl) (by kernel_rfl) (by kernel_rfl) (fun _ _ _ h => h) (Or.inl ⟨by kernel_rfl, fun w _ => by go_simp⟩) ⟨⟨TD.out.x.kst, RP2.out⟩, RQ.out⟩ ?_
      refine wpAnyH_take (i := 16) (v := .bool true) rfl (by kernel_rfl) (by kernel_rfl) (by kernel_rfl) (fun _ _ _ h => h) (Or.inl ⟨by kernel_rfl, fun w _ => by go_simp⟩) ⟨⟨TD.out.x.kst, RP2.out⟩, RQ.out⟩ ?_
      refine wpAnyH_take (i := 17) (v := .pointer (some ⟨v.db, 0, none⟩)) rfl (by kernel_rfl) (by kernel_rfl) (by kernel_rfl) (fun _ _ _ h => h) (Or.inl ⟨by kernel_rfl, fun w _ => by go_simp⟩) ⟨⟨TD.out.x.kst, RP2.out⟩, RQ.out⟩ ?_
      refine wpAnyH_take (i := 20) (v := .pointer (some ⟨v.db, 0, none⟩)) rfl (by kernel_rfl) (by kernel_rfl) (by kernel_rfl) (fun _ _ _ h => h) (Or.inl ⟨by kernel_rfl, fun w _ => by go_simp⟩) ⟨⟨TD.out.x.kst, RP2.out⟩, RQ.out⟩ ?_
      refine wpAnyH_one (i := 18) (by kernel_rfl) rfl (by kernel_rfl) (fun K hK => ?_)
      go_simp
      (with_reducible refine (HPE.out _ _ _ TD.out.x.st.dev).mono ?_)
      rintro e' wR ⟨rfl, rR, bR⟩
      have TE := Lib.hid (TD.out.next bR)
      have RP3 := Lib.hid (RP2.out.below bR)
      have RQ3 := Lib.hid (RQ.out.below bR)
      have RR := Lib.hid rR
      clear bR rR
      go_simp
      refine hK _ _ ⟨⟨⟨TE.out.x.kst, RP3.out⟩, RQ3.out⟩, ?_⟩
      clear hK K
      clear TD RP2 RQ
      generalize wQ.heap.size = g3 at *
      refine wpAnyH_narrow (S' := fun wx => ((KSt w6 ((ob, #[.int .i64 z1, .int .i64 z2, .int .i64 z3, .int .i64 z4, .int .i64 z5, .int .i64 z6, .int .i64 z7, .int .u64 (r8 + 1)], 29) :: (xb, #[.int .i64 z1, .int .i64 z2, .int .i64 z3, .int .i64 z4, .int .i64 z5, .int .i64 z6, .int .i64 z7, .int .u64 (r8 + 1)], 26) :: (g, #[.int .i64 r1, .int .i64 r2, .int .i64 r3, .int .i64 r4, .int .i64 r5, .int .i64 r6, .int .i64 r7, .int .u64 r8], 26) :: [(w.heap.size, ca, 42), (w.heap.size + 1, cb, 42), (w.heap.size + 2, #[.int .u8 s0, .int .u8 s1, .int .u8 s2, .int .u8 s3], 38)]) wx ∧ Row wx g1 12800 5 (fun i => .int .u8 (byteAt F i))) ∧ Row wx g2 12800 5 (fun i => .int .u8 (byteAt F i))) ∧ Row wx g3 12800 5 (fun i => .int .u8 (byteAt F i))) (fun _ h => h.1) _ _ _ _ ?_
      refine wpAnyH_take (i := 19) (v := .string sF) rfl (by kernel_rfl) (by kernel_rfl) (by kernel_rfl) (fun _ _ _ h => h) (Or.inl ⟨by kernel_rfl, fun wx hx => (by have c := HCV.out _ _ hx.2; go_simp)⟩) ⟨⟨⟨TE.out.x.kst, RP3.out⟩, RQ3.out⟩, RR.out⟩ ?_
      refine wpAnyH_one (i := 21) (by kernel_rfl) rfl (by kernel_rfl) (fun K hK => ?_)
      go_simp
      (with_reducible refine (HCU.out _ _ _ TE.out.x.st.dev).mono ?_)
      rintro e' wS ⟨rfl, rS, bS⟩
      have TF := Lib.hid (TE.out.next bS)
      have RP4 := Lib.hid (RP3.out.below bS)
      have RQ4 := Lib.hid (RQ3.out.below bS)
      have RR4 := Lib.hid (RR.out.below bS)
      have RS := Lib.hid rS
      clear bS rS
      go_simp
      refine hK _ _ ⟨⟨⟨⟨TF.out.x.kst, RP4.out⟩, RQ4.out⟩, RR4.out⟩, ?_⟩
      clear hK K
      clear TE RP3 RQ3 RR
      generalize wR.heap.size = g4 at *
      refine wpAnyH_narrow (S' := fun wx => (((KSt w6 ((ob, #[.int .i64 z1, .int .i64 z2, .int .i64 z3, .int .i64 z4, .int .i64 z5, .int .i64 z6, .int .i64 z7, .int .u64 (r8 + 1)], 29) :: (xb, #[.int .i64 z1, .int .i64 z2, .int .i64 z3, .int .i64 z4, .int .i64 z5, .int .i64 z6, .int .i64 z7, .int .u64 (r8 + 1)], 26) :: (g, #[.int .i64 r1, .int .i64 r2, .int .i64 r3, .int .i64 r4, .int .i64 r5, .int .i64 r6, .int .i64 r7, .int .u64 r8], 26) :: [(w.heap.size, ca, 42), (w.heap.size + 1, cb, 42), (w.heap.size + 2, #[.int .u8 s0, .int .u8 s1, .int .u8 s2, .int .u8 s3], 38)]) wx ∧ Row wx g1 12800 5 (fun i => .int .u8 (byteAt F i))) ∧ Row wx g2 12800 5 (fun i => .int .u8 (byteAt F i))) ∧ Row wx g3 12800 5 (fun i => .int .u8 (byteAt F i))) ∧ Row wx g4 12800 5 (fun i => .int .u8 (byteAt F i))) (fun _ h => h.1) _ _ _ _ ?_
      refine wpAnyH_take (i := 22) (v := .string sF) rfl (by kernel_rfl) (by kernel_rfl) (by kernel_rfl) (fun _ _ _ h => h) (Or.inl ⟨by kernel_rfl, fun wx hx => (by have c := HCV.out _ _ hx.2; go_simp)⟩) ⟨⟨⟨⟨TF.out.x.kst, RP4.out⟩, RQ4.out⟩, RR4.out⟩, RS.out⟩ ?_
      refine wpAnyH_take (i := 23) (v := .bool true) rfl (by kernel_rfl) (by kernel_rfl) (by kernel_rfl) (fun _ _ _ h => h) (Or.inl ⟨by kernel_rfl, fun w _ => by go_simp⟩) ⟨⟨⟨⟨TF.out.x.kst, RP4.out⟩, RQ4.out⟩, RR4.out⟩, RS.out⟩ ?_
      refine wpAnyH_take (i := 24) (v := .bool true) rfl (by kernel_rfl) (by kernel_rfl) (by kernel_rfl) (fun _ _ _ h => h) (Or.inl ⟨by kernel_rfl, fun w _ => by go_simp⟩) ⟨⟨⟨⟨TF.out.x.kst, RP4.out⟩, RQ4.out⟩, RR4.out⟩, RS.out⟩ ?_
      refine wpAnyH_one (i := 25) (by kernel_rfl) rfl rfl (fun K hK => ?_)
      go_simp
      refine hK _ _ ⟨⟨⟨⟨⟨TF.out.x.kst, RP4.out⟩, RQ4.out⟩, RR4.out⟩, RS.out⟩, ?_⟩
      clear hK K
      refine wpAnyH_done (by kernel_rfl) ?_ _
      go_wp2_with fail
      go_ret
      exact ⟨rfl, B6.out.trans (TF.out.x.st.bel.mono hw6)⟩
end
end Go.Proofs.YtbpaamnofkhonaaDoor
