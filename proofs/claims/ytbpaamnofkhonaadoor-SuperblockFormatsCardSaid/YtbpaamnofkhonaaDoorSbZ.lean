/- The walk of SuperblockFormats. -/
import Derived.Test.YtbpaamnofkhonaaDoorSbS
namespace Go.Proofs.YtbpaamnofkhonaaDoor
open Go.RowKit Go.Maps
attribute [local go_sem ↓] Go.wp_at_zero Go.wp_at_succ

section
variable {w : World}
set_option maxRecDepth 100000 in
set_option maxHeartbeats 16000000 in
theorem superblockFormats_any (hN : Nib w) (a b : Hf) (ha : a.Ok) (hb : b.Ok) (c0 c1 c2 c3 c4 c5 : Nat) (h0 : c0 < 256) (h1 : c1 < 256) (h2 : c2 < 256) (h3 : c3 < 256) (h4 : c4 < 256) (h5 : c5 < 256) :
    Calls Tryd.prog 9 #[.agg a.cells, .agg b.cells, .agg #[.int .u8 c0, .int .u8 c1, .int .u8 c2, .int .u8 c3, .int .u8 c4, .int .u8 c5]] w fun r w' => r = .returned (.bool true) ∧ Below w.heap.size w w' := by
  have HNB := Lib.hid hN
  have HAW := Lib.hid (fun (wx : World) (hx : Nib wx) => awake13 hx)
  have HWA := Lib.hid (fun (wx : World) => halfWords_any (w := wx) a ha)
  have HWB := Lib.hid (fun (wx : World) => halfWords_any (w := wx) b hb)
  have hA := Hf.words_len ha; have hB := Hf.words_len hb
  have hA64 := Hf.words_bd ha; have hB64 := Hf.words_bd hb
  have HCP := Lib.hid (fun (wx : World) va vb (h1 : RdSl wx 1 va 8 (natsU a.words)) (h2 : RdSl wx 1 vb 8 (natsU b.words)) => withCopies_any (w := wx) 200 (by omega) (by omega) va vb a.words b.words hA hB hA64 hB64 h1 h2)
  rw [show ((200 : Nat) : Int) = 200 from rfl] at HCP
  have HGA := Lib.hid (fun (wx : World) va (h1 : RdSl wx 1 va 8 (natsU a.words)) => good13_any (w := wx) va a.words hA hA64 200 h1)
  rw [show ((200 : Nat) : Int) = 200 from rfl] at HGA
  have HGB := Lib.hid (fun (wx : World) va (h1 : RdSl wx 1 va 8 (natsU b.words)) => good13_any (w := wx) va b.words hB hB64 200 h1)
  rw [show ((200 : Nat) : Int) = 200 from rfl] at HGB
  have hza := Hf.cells_size ha; have hzb := Hf.cells_size hb
  obtain ⟨fA, fB⟩ := cpF_cp a.words b.words hA hB
  have hfr := fresh_scl (cpF_bd hA64 hB64) 0 200
  obtain ⟨hok, hlin⟩ := smS_ok c0 c1 c2 c3 h0
  have HSO := Lib.hid (fun wx : World => some_any (w := wx) c0 c1 c2 c3 h0 h1 h2 h3)
  have g0 : (smS c0 c1 c2 c3).gen = 0 := rfl
  generalize smS c0 c1 c2 c3 = so at HSO hok hlin g0
  have HRO := Lib.hid (fun wx => real_any (w := wx) so)
  obtain ⟨E, e0, he, hEn, hEv, hEx, hFM, hCK, hOP⟩ := at_fmt hfr hok (by omega) (by omega) (c4 % 24)
  rw [show cpG (cpF a.words b.words) 200 0 = goodB a.words 200 by unfold cpG; rw [fA], show cpG (cpF a.words b.words) 200 1 = goodB b.words 200 by unfold cpG; rw [fB],
    show cpS (cpF a.words b.words) 200 0 = decoded a.words 200 by unfold cpS; rw [fA], show cpS (cpF a.words b.words) 200 1 = decoded b.words 200 by unfold cpS; rw [fB]] at hOP
  generalize a.words = A at *
  generalize b.words = B at *
  generalize a.cells = ca at *
  generalize b.cells = cb at *
  have HIA : Hid ((Tryd.prog.info? 42).map (·.size) = some ca.size) := by show _ = _; rw [hza]; kernel_rfl
  have HIB : Hid ((Tryd.prog.info? 42).map (·.size) = some cb.size) := by show _ = _; rw [hzb]; kernel_rfl
  have HD := Lib.hid (And.intro hEn (And.intro hEv (show E.exec < 4611686018427387904 by omega)))
  have HFM := Lib.hid hFM
  have HCK := Lib.hid hCK
  have HOP := Lib.hid hOP
  have HE := Lib.hid he
  have X0 := Lib.hid (KSt.start w ca cb #[.int .u8 c0, .int .u8 c1, .int .u8 c2, .int .u8 c3, .int .u8 c4, .int .u8 c5] 42 42 83)
  have HARM := Lib.hid (fun (wx : World) (v : DV) (own : Nat → Option Role) (D : Dev) (hd : IsDev wx v own D) => arm_any hd (c4 % 24) (by omega))
  rw [show ((c4 % 24 : Nat) : Int) = (c4 : Int) % 24 from by omega] at HARM
  generalize hDD : Dev.fresh 200 (cpF A B) = D at *
  generalize goodB A 200 = ga at *
  generalize goodB B 200 = gb at *
  generalize decoded A 200 = da at *
  generalize decoded B 200 = db at *
  obtain ⟨x1, x2, x3, x4, x5, x6, x7, x8⟩ := da
  obtain ⟨y1, y2, y3, y4, y5, y6, y7, y8⟩ := db
  obtain ⟨ver, lin, redo, und, desc, que, tab, gen⟩ := so
  simp only at g0
  subst g0
  unfold Sup.withGen at HOP
  unfold Sup.cells at HGA HGB HSO HRO HFM
  simp only at HGA HGB HSO HRO HFM HOP
  have HNI : ∀ wx : World, True := fun _ => trivial
  clear hN hza hzb hA hB hA64 hB64 ha hb hDD hfr fA fB hFM hCK hOP he hEn hEv hEx hok hlin HNI
  go_enter Tryd.func9, Tryd.ntmps9
  go_wp2_with fail
  (with_reducible refine (HAW.out _ (HNB.out.below X0.out.bel)).mono ?_)
  rintro e w3 ⟨rfl, b3⟩
  have X3 := Lib.hid (X0.out.next b3)
  clear b3 X0 HAW
  go_wp2_with fail
  have X4 := Lib.hid (X3.out.next ((Below.refl _ _).drew))
  refine wp_region_held (S := (fun wx => KSt w [(w.heap.size, ca, 42), (w.heap.size + 1, cb, 42), (w.heap.size + 2, #[.int .u8 c0, .int .u8 c1, .int .u8 c2, .int .u8 c3, .int .u8 c4, .int .u8 c5], 83)] wx)) (by kernel_rfl) ?_
  change wpAnyH _ _ _ _ _ _ _ _ (World.drew _)
  refine wpAnyH_take (i := 0) (v := .agg ca) rfl (by kernel_rfl) (by kernel_rfl) (by kernel_rfl) (fun _ _ _ h => h) (Or.inl ⟨by kernel_rfl, fun wx hx => exec_load_row 42 (.tmp 3) rfl w.heap.size rfl 42 ca (0, 0) _ (hx.get (i := 0) rfl) Tryd.underlying42 rfl HIA.out⟩) X4.out ?_
  refine wpAnyH_take (i := 2) (v := .agg cb) rfl (by kernel_rfl) (by kernel_rfl) (by kernel_rfl) (fun _ _ _ h => h) (Or.inl ⟨by kernel_rfl, fun wx hx => exec_load_row 42 (.tmp 4) rfl (w.heap.size + 1) rfl 42 cb (0, 0) _ (hx.get (i := 1) rfl) Tryd.underlying42 rfl HIB.out⟩) X4.out ?_
  refine wpAnyH_one (i := 1) (by kernel_rfl) rfl rfl (fun K hK => ?_)
  go_simp
  (with_reducible refine (HWA.out _).mono ?_)
  rintro e w5 ⟨va, rfl, ra, b5⟩
  have X5 := Lib.hid (X4.out.next b5)
  have RA := Lib.hid ra
  clear ra b5
  go_simp
  refine hK _ _ ⟨X5.out, ?_⟩
  clear hK K
  refine wpAnyH_one (i := 3) (by kernel_rfl) rfl rfl (fun K hK => ?_)
  go_simp
  (with_reducible refine (HWB.out _).mono ?_)
  rintro e w6 ⟨vb, rfl, rb, b6⟩
  have X6 := Lib.hid (X5.out.next b6)
  have RA6 := Lib.hid (RA.out.below b6)
  have RB := Lib.hid rb
  clear rb b6
  go_simp
  refine hK _ _ ⟨X6.out, ?_⟩
  clear hK K
  refine wpAnyH_one (i := 4) (by kernel_rfl) rfl rfl (fun K hK => ?_)
  go_simp
  (with_reducible refine (HCP.out _ _ _ RA6.out RB.out).mono ?_)
  rintro e w7 ⟨v, own, rfl, d7, o7, b7⟩
  have X7 := Lib.hid (X6.out.next b7)
  have S7 := Lib.hid (X6.out.dev d7 o7 b7)
  clear d7 o7 b7
  go_simp
  refine hK _ _ ⟨X7.out, ?_⟩
  clear hK K
  refine wpAnyH_one (i := 5) (by kernel_rfl) rfl rfl (fun K hK => ?_)
  go_simp
  refine hK _ _ ⟨X7.out, ?_⟩
  clear hK K
  refine wpAnyH_done (by kernel_rfl) ?_ _
  have B6 := Lib.hid X6.out.bel
  have hw6 : w.heap.size ≤ w6.heap.size := X6.out.bel.size
  clear HCP X3 X4 X5 RA RA6 RB X6 X7
  go_wp2_with (refine wpList_load_row rfl 42 (.tmp 3) rfl w.heap.size rfl 42 ca (0, 0) _ (S7.out.get (i := 0) rfl) Tryd.underlying42 rfl HIA.out ?_)
  (with_reducible refine (HWA.out _).mono ?_)
  rintro e w8 ⟨va2, rfl, r8', b8⟩
  have HGA2 := Lib.hid (HGA.out _ _ r8')
  have S8 := Lib.hid (S7.out.next b8)
  clear b8 r8' HGA HWA S7
  go_wp2_with fail
  (with_reducible refine HGA2.out.mono ?_)
  rintro e w9 ⟨rfl, b9⟩
  have S9 := Lib.hid ((S8.out.next b9).add #[.int .i64 x1, .int .i64 x2, .int .i64 x3, .int .i64 x4, .int .i64 x5, .int .i64 x6, .int .i64 x7, .int .u64 x8] 26)
  clear b9 S8 HGA2
  go_wp2_with (refine wpList_load_row rfl 42 (.tmp 4) rfl (w.heap.size + 1) rfl 42 cb (0, 0) _ (S9.out.get (i := 2) rfl) Tryd.underlying42 rfl HIB.out ?_)
  (with_reducible refine (HWB.out _).mono ?_)
  rintro e w10 ⟨vb2, rfl, r10', b10⟩
  have HGB2 := Lib.hid (HGB.out _ _ r10')
  have S10 := Lib.hid (S9.out.next b10)
  clear b10 r10' HGB HWB S9
  go_wp2_with fail
  (with_reducible refine HGB2.out.mono ?_)
  rintro e w11 ⟨rfl, b11⟩
  have S11 := Lib.hid ((S10.out.next b11).add #[.int .i64 y1, .int .i64 y2, .int .i64 y3, .int .i64 y4, .int .i64 y5, .int .i64 y6, .int .i64 y7, .int .u64 y8] 26)
  clear b11 S10 HGB2
  have u0 := (S11.out.get (i := 4) rfl).cell (i := 0) (v := .int .u8 c0) rfl; have u1 := (S11.out.get (i := 4) rfl).cell (i := 1) (v := .int .u8 c1) rfl
  have u2 := (S11.out.get (i := 4) rfl).cell (i := 2) (v := .int .u8 c2) rfl; have u3 := (S11.out.get (i := 4) rfl).cell (i := 3) (v := .int .u8 c3) rfl
  go_wp2_with fail
  (with_reducible refine (HSO.out _).mono ?_)
  rintro e w12 ⟨rfl, b12⟩
  have S12 := Lib.hid (S11.out.next b12)
  clear b12 S11 HSO u0 u1 u2 u3
  go_wp2_with fail
  (with_reducible refine (HRO.out _).mono ?_)
  rintro e w13 ⟨rfl, b13⟩
  have S13 := Lib.hid ((S12.out.next b13).add #[.int .i64 ver, .int .i64 lin, .int .i64 redo, .int .i64 und, .int .i64 desc, .int .i64 que, .int .i64 tab, .int .u64 0] 29)
  have HLT := Lib.hid (S12.out.next b13).lt
  have HB13 := Lib.hid (S12.out.next b13).st.bel.size
  clear b13 S12 HRO
  have u4 := (S13.out.get (i := 5) rfl).cell (i := 4) (v := .int .u8 c4) rfl
  go_wp2_with fail
  (with_reducible refine (HARM.out _ _ _ _ S13.out.st.dev).mono ?_)
  rintro e w14 ⟨rfl, p14⟩
  obtain ⟨own14, s14⟩ := S13.out.step p14
  have S14 := Lib.hid s14
  clear p14 s14 S13 HARM u4
  have S14d := Lib.hid (S14.out.next ((Below.refl _ _).drew))
  have HIS : Hid ((Tryd.prog.info? 29).map (·.size) = some (#[.int .i64 ver, .int .i64 lin, .int .i64 redo, .int .i64 und, .int .i64 desc, .int .i64 que, .int .i64 tab, .int .u64 0] : Array Value).size) := by show _ = some 8; kernel_rfl
  have HIR : Hid ((Tryd.prog.info? 26).map (·.size) = some (#[.int .i64 x1, .int .i64 x2, .int .i64 x3, .int .i64 x4, .int .i64 x5, .int .i64 x6, .int .i64 x7, .int .u64 x8] : Array Value).size) := by show _ = some 8; kernel_rfl
  go_upto_region 10 with fail
  refine wp_region_held (S := (fun wx => Blk wx w13.heap.size #[.int .i64 ver, .int .i64 lin, .int .i64 redo, .int .i64 und, .int .i64 desc, .int .i64 que, .int .i64 tab, .int .u64 0] 29)) (by kernel_rfl) ?_
  change wpAnyH _ _ _ _ _ _ _ _ (World.drew _)
  refine wpAnyH_take (i := 3) (v := .agg #[.int .i64 ver, .int .i64 lin, .int .i64 redo, .int .i64 und, .int .i64 desc, .int .i64 que, .int .i64 tab, .int .u64 0]) rfl (by kernel_rfl) (by kernel_rfl) (by kernel_rfl) (fun _ _ _ h => h) (Or.inl ⟨by kernel_rfl, fun wx hx => exec_load_row 29 (.tmp 12) rfl w13.heap.size rfl 29 #[.int .i64 ver, .int .i64 lin, .int .i64 redo, .int .i64 und, .int .i64 desc, .int .i64 que, .int .i64 tab, .int .u64 0] (0, 0) _ hx Tryd.underlying29 rfl HIS.out⟩) (S14d.out.get (i := 0) rfl) ?_
  refine wpAnyH_one (i := 0) (by kernel_rfl) rfl rfl (fun K hK => ?_)
  go_simp
  refine hK _ _ ⟨S14d.out.get (i := 0) rfl, ?_⟩
  clear hK K
  refine wpAnyH_one (i := 1) (by kernel_rfl) rfl rfl (fun K hK => ?_)
  go_simp
  (with_reducible refine (thread0_any S14d.out.st.dev).mono ?_)
  rintro e w' ⟨rfl, rfl⟩
  go_simp
  refine hK _ _ ⟨S14d.out.get (i := 0) rfl, ?_⟩
  clear hK K
  refine wpAnyH_one (i := 2) (by kernel_rfl) rfl rfl (fun K hK => ?_)
  go_simp
  refine hK _ _ ⟨S14d.out.get (i := 0) rfl, ?_⟩
  clear hK K
  refine wpAnyH_one (i := 4) (by kernel_rfl) rfl rfl (fun K hK => ?_)
  go_simp
  (with_reducible refine (HFM.out _ _ _ (HNB.out.below (B6.out.trans (S14d.out.st.bel.mono hw6))) S14d.out.st.dev).mono ?_)
  rintro e w15 ⟨rfl, p15⟩
  obtain ⟨own15, s15⟩ := S14d.out.step p15
  have S15 := Lib.hid s15
  clear p15 s15
  go_simp
  refine hK _ _ ⟨S15.out.get (i := 0) rfl, ?_⟩
  clear hK K
  refine wpAnyH_one (i := 5) (by kernel_rfl) rfl rfl (fun K hK => ?_)
  go_simp
  refine hK _ _ ⟨S15.out.get (i := 0) rfl, ?_⟩
  clear hK K
  refine wpAnyH_done (by kernel_rfl) ?_ _
  clear S14 S14d HFM
  have S16 : Hid (DsX w6 v own15 E [(w13.heap.size, #[.int .i64 ver, .int .i64 lin, .int .i64 redo, .int .i64 und, .int .i64 desc, .int .i64 que, .int .i64 tab, .int .u64 1], 29), (w11.heap.size, #[.int .i64 y1, .int .i64 y2, .int .i64 y3, .int .i64 y4, .int .i64 y5, .int .i64 y6, .int .i64 y7, .int .u64 y8], 26), (w9.heap.size, #[.int .i64 x1, .int .i64 x2, .int .i64 x3, .int .i64 x4, .int .i64 x5, .int .i64 x6, .int .i64 x7, .int .u64 x8], 26), (w.heap.size, ca, 42), (w.heap.size + 1, cb, 42), (w.heap.size + 2, #[.int .u8 c0, .int .u8 c1, .int .u8 c2, .int .u8 c3, .int .u8 c4, .int .u8 c5], 83)] (w15.setCell ⟨w13.heap.size, 7, none⟩ (.int .u64 1))) := by
    have := S15.out.setHead HB13.out HLT.out 7 (.int .u64 1)
    simp only [List.setIfInBounds_toArray, List.set_cons_zero, List.set_cons_succ] at this
    exact this
  have z7 := (S15.out.get (i := 0) rfl).cell (i := 7) (v := .int .u64 0) rfl
  have f7 := (S15.out.get (i := 0) rfl).frozen 7
  have HR1 := Lib.hid (fun wx : World => RdSl.new wx #[.int .u8 c5, .int .u8 c4] 5 1 2 rfl)
  have HB1 : Hid (∀ x ∈ [(c5 : Int), (c4 : Int)], 0 ≤ x ∧ x < 256) := fun x hx => by simp at hx; rcases hx with rfl | rfl <;> omega
  clear HB13 HLT S15
  rcases HE.out with rfl | rfl
  · have HCK1 := Lib.hid (HCK.out rfl)
    clear HCK
    go_wp2_with fail
    (with_reducible refine (thread0_any S16.out.st.dev).mono ?_)
    rintro e w' ⟨rfl, rfl⟩
    go_wp2_with fail
    (with_reducible refine (HCK1.out _ _ _ (HNB.out.below (B6.out.trans (S16.out.st.bel.mono hw6))) S16.out.st.dev).mono ?_)
    rintro e w17 ⟨rfl, b17⟩
    have S17 := Lib.hid (S16.out.next b17)
    clear b17 S16 z7 f7 HCK1
    have u4 := (S17.out.get (i := 5) rfl).cell (i := 4) (v := .int .u8 c4) rfl
    have u5 := (S17.out.get (i := 5) rfl).cell (i := 5) (v := .int .u8 c5) rfl
    go_wp2_with fail
    (with_reducible refine (crash200 (S17.out.st.dev.alloc _) HD.out.1 HD.out.2.1 _ [(c5 : Int), (c4 : Int)] (HR1.out w17) HB1.out (by unfold maxLen; simp) HD.out.2.2).mono ?_)
    rintro e w18 ⟨ks, v1, own18, rfl, d18, ho18, b18⟩
    have D18 := Lib.hid d18
    have B18 : Hid (Below w17.heap.size w17 w18) := (below_alloc w17 (.cells #[.int .u8 c5, .int .u8 c4] 5)).trans (b18.mono (by simp))
    have K18 := Lib.hid (S17.out.kst.next B18.out)
    obtain ⟨res, g, hres, hopn⟩ := HOP.out ks
    rcases hres with ⟨rfl, rfl⟩ | ⟨h03, _⟩
    · clear d18 ho18 b18 HOP S17 HD HR1 HB1 u4 u5 B18
      have HOR : Hid (∀ (wx : World) (v : DV) (own : Nat → Option Role), Nib wx → IsDev wx v own (Dev.fresh 200 (E.img ks)) → Calls Tryd.prog 19 #[.iface 49 (.pointer (some ⟨v.tb 0, 0, none⟩))] wx fun r w' => r = .returned (.tuple #[.agg #[.int .i64 ver, .int .i64 lin, .int .i64 redo, .int .i64 und, .int .i64 desc, .int .i64 que, .int .i64 tab, .int .u64 1], .int .i64 0]) ∧ Below wx.heap.size wx w') := hopn
      clear hopn
      go_wp2_with fail
      (with_reducible refine (thread0_any D18.out).mono ?_)
      rintro e w' ⟨rfl, rfl⟩
      go_wp2_with fail
      (with_reducible refine (HOR.out _ _ _ (HNB.out.below (B6.out.trans (K18.out.bel.mono hw6))) D18.out).mono ?_)
      rintro e w19 ⟨rfl, b19⟩
      have K19 := Lib.hid (K18.out.next (b19.trans ((below_alloc w19 (.cells #[.int .i64 ver, .int .i64 lin, .int .i64 redo, .int .i64 und, .int .i64 desc, .int .i64 que, .int .i64 tab, .int .u64 1] 29)).mono b19.size)))
      have N19 := Lib.hid (Blk.new w19 #[.int .i64 ver, .int .i64 lin, .int .i64 redo, .int .i64 und, .int .i64 desc, .int .i64 que, .int .i64 tab, .int .u64 1] 29)
      have hgu : Tryd.prog.eqGuardType Tryd.prog.depth 29 = false := by kernel_rfl
      clear b19 HOR D18 K18
      have hq := fun wx => run_eqlS wx ⟨ver, lin, redo, und, desc, que, tab, 1⟩ ⟨ver, lin, redo, und, desc, que, tab, 1⟩
      unfold Sup.cells at hq
      simp only at hq
      rw [supEq_refl] at hq
      obtain ⟨n0, n1, n2, n3, n4, n5, n6, n7⟩ := N19.out.c8
      obtain ⟨k0, k1, k2, k3, k4, k5, k6, k7⟩ := (K19.out.get (i := 0) rfl).c8
      obtain ⟨j0, j1, j2, j3, j4, j5, j6, j7⟩ := (K19.out.get (i := 1) rfl).c8
      obtain ⟨i0, i1, i2, i3, i4, i5, i6, i7⟩ := (K19.out.get (i := 2) rfl).c8
      go_wp2_with fail
      go_ret
      exact ⟨rfl, B6.out.trans (K19.out.bel.mono hw6)⟩
    · omega
  · have S17 := S16
    have HR2 : Hid (RdSl ((w15.setCell ⟨w13.heap.size, 7, none⟩ (.int .u64 1)).alloc (.cells #[.int .u8 c5, .int .u8 c4] 5)) 1 (.slice (some ⟨w15.heap.size, 0, none⟩) 2 2) 2 [.int .u8 c5, .int .u8 c4]) := by
      have := HR1.out (w15.setCell ⟨w13.heap.size, 7, none⟩ (.int .u64 1))
      rw [show (w15.setCell ⟨w13.heap.size, 7, none⟩ (.int .u64 1)).heap.size = w15.heap.size by simp [World.setCell]] at this
      exact this
    clear S16
    have u4 := (S17.out.get (i := 5) rfl).cell (i := 4) (v := .int .u8 c4) rfl
    have u5 := (S17.out.get (i := 5) rfl).cell (i := 5) (v := .int .u8 c5) rfl
    go_wp2_with fail
    (with_reducible refine (crash200 (S17.out.st.dev.alloc _) HD.out.1 HD.out.2.1 _ [(c5 : Int), (c4 : Int)] HR2.out HB1.out (by unfold maxLen; simp) HD.out.2.2).mono ?_)
    rintro e w18 ⟨ks, v1, own18, rfl, d18, ho18, b18⟩
    have D18 := Lib.hid d18
    have K18 := Lib.hid (S17.out.kst.next ((below_alloc _ (.cells #[.int .u8 c5, .int .u8 c4] 5)).trans (b18.mono (below_alloc _ (.cells #[.int .u8 c5, .int .u8 c4] 5)).size)))
    obtain ⟨res, g, hres, hopn⟩ := HOP.out ks
    clear d18 ho18 b18 HOP S17 HD HR1 HB1 u4 u5
    rcases hres with ⟨rfl, rfl⟩ | ⟨_, rfl | ⟨rfl, ⟨hga, rfl⟩ | ⟨hgb, rfl⟩⟩⟩
    · have HOR : Hid (∀ (wx : World) (v : DV) (own : Nat → Option Role), Nib wx → IsDev wx v own (Dev.fresh 200 (E.img ks)) → Calls Tryd.prog 19 #[.iface 49 (.pointer (some ⟨v.tb 0, 0, none⟩))] wx fun r w' => r = .returned (.tuple #[.agg #[.int .i64 ver, .int .i64 lin, .int .i64 redo, .int .i64 und, .int .i64 desc, .int .i64 que, .int .i64 tab, .int .u64 1], .int .i64 0]) ∧ Below wx.heap.size wx w') := hopn
      clear hopn
      go_wp2_with fail
      (with_reducible refine (thread0_any D18.out).mono ?_)
      rintro e w' ⟨rfl, rfl⟩
      go_wp2_with fail
      (with_reducible refine (HOR.out _ _ _ (HNB.out.below (B6.out.trans (K18.out.bel.mono hw6))) D18.out).mono ?_)
      rintro e w19 ⟨rfl, b19⟩
      have K19 := Lib.hid (K18.out.next (b19.trans ((below_alloc w19 (.cells #[.int .i64 ver, .int .i64 lin, .int .i64 redo, .int .i64 und, .int .i64 desc, .int .i64 que, .int .i64 tab, .int .u64 1] 29)).mono b19.size)))
      have N19 := Lib.hid (Blk.new w19 #[.int .i64 ver, .int .i64 lin, .int .i64 redo, .int .i64 und, .int .i64 desc, .int .i64 que, .int .i64 tab, .int .u64 1] 29)
      have hgu : Tryd.prog.eqGuardType Tryd.prog.depth 29 = false := by kernel_rfl
      clear b19 HOR D18 K18
      have hq := fun wx => run_eqlS wx ⟨ver, lin, redo, und, desc, que, tab, 1⟩ ⟨ver, lin, redo, und, desc, que, tab, 1⟩
      unfold Sup.cells at hq
      simp only at hq
      rw [supEq_refl] at hq
      obtain ⟨n0, n1, n2, n3, n4, n5, n6, n7⟩ := N19.out.c8
      obtain ⟨k0, k1, k2, k3, k4, k5, k6, k7⟩ := (K19.out.get (i := 0) rfl).c8
      obtain ⟨j0, j1, j2, j3, j4, j5, j6, j7⟩ := (K19.out.get (i := 1) rfl).c8
      obtain ⟨i0, i1, i2, i3, i4, i5, i6, i7⟩ := (K19.out.get (i := 2) rfl).c8
      go_wp2_with fail
      go_ret
      exact ⟨rfl, B6.out.trans (K19.out.bel.mono hw6)⟩
    · obtain ⟨r1, r2, r3, r4, r5, r6, r7, r8⟩ := res
      have HOR : Hid (∀ (wx : World) (v : DV) (own : Nat → Option Role), Nib wx → IsDev wx v own (Dev.fresh 200 (E.img ks)) → Calls Tryd.prog 19 #[.iface 49 (.pointer (some ⟨v.tb 0, 0, none⟩))] wx fun r w' => r = .returned (.tuple #[.agg #[.int .i64 r1, .int .i64 r2, .int .i64 r3, .int .i64 r4, .int .i64 r5, .int .i64 r6, .int .i64 r7, .int .u64 r8], .int .i64 10]) ∧ Below wx.heap.size wx w') := hopn
      clear hopn
      go_wp2_with fail
      (with_reducible refine (thread0_any D18.out).mono ?_)
      rintro e w' ⟨rfl, rfl⟩
      go_wp2_with fail
      (with_reducible refine (HOR.out _ _ _ (HNB.out.below (B6.out.trans (K18.out.bel.mono hw6))) D18.out).mono ?_)
      rintro e w19 ⟨rfl, b19⟩
      have K19 := Lib.hid (K18.out.next (b19.trans ((below_alloc w19 (.cells #[.int .i64 r1, .int .i64 r2, .int .i64 r3, .int .i64 r4, .int .i64 r5, .int .i64 r6, .int .i64 r7, .int .u64 r8] 29)).mono b19.size)))
      have N19 := Lib.hid (Blk.new w19 #[.int .i64 r1, .int .i64 r2, .int .i64 r3, .int .i64 r4, .int .i64 r5, .int .i64 r6, .int .i64 r7, .int .u64 r8] 29)
      have hgu : Tryd.prog.eqGuardType Tryd.prog.depth 29 = false := by kernel_rfl
      clear b19 HOR D18 K18
      obtain ⟨n0, n1, n2, n3, n4, n5, n6, n7⟩ := N19.out.c8
      obtain ⟨k0, k1, k2, k3, k4, k5, k6, k7⟩ := (K19.out.get (i := 0) rfl).c8
      obtain ⟨j0, j1, j2, j3, j4, j5, j6, j7⟩ := (K19.out.get (i := 1) rfl).c8
      obtain ⟨i0, i1, i2, i3, i4, i5, i6, i7⟩ := (K19.out.get (i := 2) rfl).c8
      go_wp2_with fail
      go_ret
      exact ⟨rfl, B6.out.trans (K19.out.bel.mono hw6)⟩
    · subst hga
      have HOR : Hid (∀ (wx : World) (v : DV) (own : Nat → Option Role), Nib wx → IsDev wx v own (Dev.fresh 200 (E.img ks)) → Calls Tryd.prog 19 #[.iface 49 (.pointer (some ⟨v.tb 0, 0, none⟩))] wx fun r w' => r = .returned (.tuple #[.agg #[.int .i64 x1, .int .i64 x2, .int .i64 x3, .int .i64 x4, .int .i64 x5, .int .i64 x6, .int .i64 x7, .int .u64 x8], .int .i64 0]) ∧ Below wx.heap.size wx w') := hopn
      clear hopn
      go_wp2_with fail
      (with_reducible refine (thread0_any D18.out).mono ?_)
      rintro e w' ⟨rfl, rfl⟩
      go_wp2_with fail
      (with_reducible refine (HOR.out _ _ _ (HNB.out.below (B6.out.trans (K18.out.bel.mono hw6))) D18.out).mono ?_)
      rintro e w19 ⟨rfl, b19⟩
      have K19 := Lib.hid (K18.out.next (b19.trans ((below_alloc w19 (.cells #[.int .i64 x1, .int .i64 x2, .int .i64 x3, .int .i64 x4, .int .i64 x5, .int .i64 x6, .int .i64 x7, .int .u64 x8] 29)).mono b19.size)))
      have N19 := Lib.hid (Blk.new w19 #[.int .i64 x1, .int .i64 x2, .int .i64 x3, .int .i64 x4, .int .i64 x5, .int .i64 x6, .int .i64 x7, .int .u64 x8] 29)
      have hgu : Tryd.prog.eqGuardType Tryd.prog.depth 29 = false := by kernel_rfl
      clear b19 HOR D18 K18
      have hq := fun wx => run_eqlS wx ⟨x1, x2, x3, x4, x5, x6, x7, x8⟩ ⟨ver, lin, redo, und, desc, que, tab, 1⟩
      unfold Sup.cells at hq
      simp only at hq
      have HS := Lib.hid (fun wx => same13_gen (w := wx) ⟨x1, x2, x3, x4, x5, x6, x7, x8⟩ ⟨x1, x2, x3, x4, x5, x6, x7, x8⟩)
      rw [supEq_refl] at HS
      unfold Sup.cells at HS
      simp only at HS
      obtain ⟨q, hq2⟩ : ∃ q, supEq ⟨x1, x2, x3, x4, x5, x6, x7, x8⟩ ⟨ver, lin, redo, und, desc, que, tab, 1⟩ = q := ⟨_, rfl⟩
      rw [hq2] at hq
      clear hq2
      cases q
      · obtain ⟨n0, n1, n2, n3, n4, n5, n6, n7⟩ := N19.out.c8
        obtain ⟨k0, k1, k2, k3, k4, k5, k6, k7⟩ := (K19.out.get (i := 0) rfl).c8
        obtain ⟨j0, j1, j2, j3, j4, j5, j6, j7⟩ := (K19.out.get (i := 1) rfl).c8
        obtain ⟨i0, i1, i2, i3, i4, i5, i6, i7⟩ := (K19.out.get (i := 2) rfl).c8
        go_wp2_with fail
        (with_reducible refine (HS.out _).mono ?_)
        rintro e w20 ⟨rfl, b20⟩
        have K20 := Lib.hid (K19.out.next b20)
        clear b20
        go_wp2_with fail
        go_ret
        exact ⟨rfl, B6.out.trans (K20.out.bel.mono hw6)⟩
      · obtain ⟨n0, n1, n2, n3, n4, n5, n6, n7⟩ := N19.out.c8
        obtain ⟨k0, k1, k2, k3, k4, k5, k6, k7⟩ := (K19.out.get (i := 0) rfl).c8
        obtain ⟨j0, j1, j2, j3, j4, j5, j6, j7⟩ := (K19.out.get (i := 1) rfl).c8
        obtain ⟨i0, i1, i2, i3, i4, i5, i6, i7⟩ := (K19.out.get (i := 2) rfl).c8
        go_wp2_with fail
        go_ret
        exact ⟨rfl, B6.out.trans (K19.out.bel.mono hw6)⟩
    · subst hgb
      have HOR : Hid (∀ (wx : World) (v : DV) (own : Nat → Option Role), Nib wx → IsDev wx v own (Dev.fresh 200 (E.img ks)) → Calls Tryd.prog 19 #[.iface 49 (.pointer (some ⟨v.tb 0, 0, none⟩))] wx fun r w' => r = .returned (.tuple #[.agg #[.int .i64 y1, .int .i64 y2, .int .i64 y3, .int .i64 y4, .int .i64 y5, .int .i64 y6, .int .i64 y7, .int .u64 y8], .int .i64 0]) ∧ Below wx.heap.size wx w') := hopn
      clear hopn
      go_wp2_with fail
      (with_reducible refine (thread0_any D18.out).mono ?_)
      rintro e w' ⟨rfl, rfl⟩
      go_wp2_with fail
      (with_reducible refine (HOR.out _ _ _ (HNB.out.below (B6.out.trans (K18.out.bel.mono hw6))) D18.out).mono ?_)
      rintro e w19 ⟨rfl, b19⟩
      have K19 := Lib.hid (K18.out.next (b19.trans ((below_alloc w19 (.cells #[.int .i64 y1, .int .i64 y2, .int .i64 y3, .int .i64 y4, .int .i64 y5, .int .i64 y6, .int .i64 y7, .int .u64 y8] 29)).mono b19.size)))
      have N19 := Lib.hid (Blk.new w19 #[.int .i64 y1, .int .i64 y2, .int .i64 y3, .int .i64 y4, .int .i64 y5, .int .i64 y6, .int .i64 y7, .int .u64 y8] 29)
      have hgu : Tryd.prog.eqGuardType Tryd.prog.depth 29 = false := by kernel_rfl
      clear b19 HOR D18 K18
      have hq := fun wx => run_eqlS wx ⟨y1, y2, y3, y4, y5, y6, y7, y8⟩ ⟨ver, lin, redo, und, desc, que, tab, 1⟩
      unfold Sup.cells at hq
      simp only at hq
      have HS := Lib.hid (fun wx => same13_gen (w := wx) ⟨y1, y2, y3, y4, y5, y6, y7, y8⟩ ⟨x1, x2, x3, x4, x5, x6, x7, x8⟩)
      have HT := Lib.hid (fun wx => same13_gen (w := wx) ⟨y1, y2, y3, y4, y5, y6, y7, y8⟩ ⟨y1, y2, y3, y4, y5, y6, y7, y8⟩)
      rw [supEq_refl] at HT
      unfold Sup.cells at HS HT
      simp only at HS HT
      obtain ⟨q, hq2⟩ : ∃ q, supEq ⟨y1, y2, y3, y4, y5, y6, y7, y8⟩ ⟨ver, lin, redo, und, desc, que, tab, 1⟩ = q := ⟨_, rfl⟩
      obtain ⟨p, hp2⟩ : ∃ p, supEq ⟨y1, y2, y3, y4, y5, y6, y7, y8⟩ ⟨x1, x2, x3, x4, x5, x6, x7, x8⟩ = p := ⟨_, rfl⟩
      rw [hq2] at hq
      rw [hp2] at HS
      clear hq2 hp2
      cases q
      · cases ga
        · obtain ⟨n0, n1, n2, n3, n4, n5, n6, n7⟩ := N19.out.c8
          obtain ⟨k0, k1, k2, k3, k4, k5, k6, k7⟩ := (K19.out.get (i := 0) rfl).c8
          obtain ⟨j0, j1, j2, j3, j4, j5, j6, j7⟩ := (K19.out.get (i := 1) rfl).c8
          obtain ⟨i0, i1, i2, i3, i4, i5, i6, i7⟩ := (K19.out.get (i := 2) rfl).c8
          go_wp2_with fail
          (with_reducible refine (HT.out _).mono ?_)
          rintro e w20 ⟨rfl, b20⟩
          have K20 := Lib.hid (K19.out.next b20)
          clear b20
          go_wp2_with fail
          go_ret
          exact ⟨rfl, B6.out.trans (K20.out.bel.mono hw6)⟩
        · obtain ⟨n0, n1, n2, n3, n4, n5, n6, n7⟩ := N19.out.c8
          obtain ⟨k0, k1, k2, k3, k4, k5, k6, k7⟩ := (K19.out.get (i := 0) rfl).c8
          obtain ⟨j0, j1, j2, j3, j4, j5, j6, j7⟩ := (K19.out.get (i := 1) rfl).c8
          obtain ⟨i0, i1, i2, i3, i4, i5, i6, i7⟩ := (K19.out.get (i := 2) rfl).c8
          go_wp2_with fail
          (with_reducible refine (HS.out _).mono ?_)
          rintro e w20 ⟨rfl, b20⟩
          have K20 := Lib.hid (K19.out.next b20)
          have N20 := Lib.hid (N19.out.below b20)
          clear b20 K19 N19
          cases p
          · obtain ⟨n0, n1, n2, n3, n4, n5, n6, n7⟩ := N20.out.c8
            obtain ⟨k0, k1, k2, k3, k4, k5, k6, k7⟩ := (K20.out.get (i := 0) rfl).c8
            obtain ⟨j0, j1, j2, j3, j4, j5, j6, j7⟩ := (K20.out.get (i := 1) rfl).c8
            obtain ⟨i0, i1, i2, i3, i4, i5, i6, i7⟩ := (K20.out.get (i := 2) rfl).c8
            go_wp2_with fail
            (with_reducible refine (HT.out _).mono ?_)
            rintro e w21 ⟨rfl, b21⟩
            have K21 := Lib.hid (K20.out.next b21)
            clear b21
            go_wp2_with fail
            go_ret
            exact ⟨rfl, B6.out.trans (K21.out.bel.mono hw6)⟩
          · obtain ⟨n0, n1, n2, n3, n4, n5, n6, n7⟩ := N20.out.c8
            obtain ⟨k0, k1, k2, k3, k4, k5, k6, k7⟩ := (K20.out.get (i := 0) rfl).c8
            obtain ⟨j0, j1, j2, j3, j4, j5, j6, j7⟩ := (K20.out.get (i := 1) rfl).c8
            obtain ⟨i0, i1, i2, i3, i4, i5, i6, i7⟩ := (K20.out.get (i := 2) rfl).c8
            go_wp2_with fail
            go_ret
            exact ⟨rfl, B6.out.trans (K20.out.bel.mono hw6)⟩
      · obtain ⟨n0, n1, n2, n3, n4, n5, n6, n7⟩ := N19.out.c8
        obtain ⟨k0, k1, k2, k3, k4, k5, k6, k7⟩ := (K19.out.get (i := 0) rfl).c8
        obtain ⟨j0, j1, j2, j3, j4, j5, j6, j7⟩ := (K19.out.get (i := 1) rfl).c8
        obtain ⟨i0, i1, i2, i3, i4, i5, i6, i7⟩ := (K19.out.get (i := 2) rfl).c8
        go_wp2_with fail
        go_ret
        exact ⟨rfl, B6.out.trans (K19.out.bel.mono hw6)⟩
end
end Go.Proofs.YtbpaamnofkhonaaDoor
