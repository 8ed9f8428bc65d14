/- The walk of SuperblockRepairs. -/
import Derived.Test.YtbpaamnofkhonaaDoorSbE
namespace Go.Proofs.YtbpaamnofkhonaaDoor
open Go.RowKit Go.Maps
attribute [local go_sem ↓] Go.wp_at_zero Go.wp_at_succ

section
variable {w : World}
set_option maxRecDepth 100000 in
set_option maxHeartbeats 16000000 in
theorem superblockRepairs_any (hN : Nib w) (a b : Hf) (ha : a.Ok) (hb : b.Ok) (c0 c1 : Nat) (h0 : c0 < 256) (h1 : c1 < 256) :
    Calls Tryd.prog 10 #[.agg a.cells, .agg b.cells, .agg #[.int .u8 c0, .int .u8 c1]] w fun r w' => r = .returned (.bool true) ∧ Below w.heap.size w w' := by
  have HNB := Lib.hid hN
  have HAW := Lib.hid (fun (wx : World) (hx : Nib wx) => awake13 hx)
  have HWA := Lib.hid (fun (wx : World) => halfWords_any (w := wx) a ha)
  have HWB := Lib.hid (fun (wx : World) => halfWords_any (w := wx) b hb)
  have hA := Hf.words_len ha; have hB := Hf.words_len hb
  have hA64 := Hf.words_bd ha; have hB64 := Hf.words_bd hb
  have HCP := Lib.hid (fun (wx : World) va vb (h1 : RdSl wx 1 va 8 (natsU a.words)) (h2 : RdSl wx 1 vb 8 (natsU b.words)) => withCopies_any (w := wx) 200 (by omega) (by omega) va vb a.words b.words hA hB hA64 hB64 h1 h2)
  rw [show ((200 : Nat) : Int) = 200 from rfl] at HCP
  have hza := Hf.cells_size ha; have hzb := Hf.cells_size hb
  have hfr := fresh_scl (cpF_bd hA64 hB64) 0 200
  obtain ⟨E, m, e, hEn, hEv, hEx, hRP, hF, hT, hCK, hOP⟩ := at_rep hfr (by omega) (c0 % 16)
  have hON := open_scl hfr
  have hCH := check_scl hfr
  generalize a.words = A at *
  generalize b.words = B at *
  generalize a.cells = ca at *
  generalize b.cells = cb at *
  have HIA : Hid ((Tryd.prog.info? 42).map (·.size) = some ca.size) := by show _ = _; rw [hza]; kernel_rfl
  have HIB : Hid ((Tryd.prog.info? 42).map (·.size) = some cb.size) := by show _ = _; rw [hzb]; kernel_rfl
  have HD := Lib.hid (And.intro hEn (And.intro hEv (show E.exec < 4611686018427387904 by omega)))
  have X0 := Lib.hid (KSt.start w ca cb #[.int .u8 c0, .int .u8 c1] 42 42 85)
  have HARM := Lib.hid (fun (wx : World) (v : DV) (own : Nat → Option Role) (D : Dev) (hd : IsDev wx v own D) => arm_any hd (c0 % 16) (by omega))
  rw [show ((c0 % 16 : Nat) : Int) = (c0 : Int) % 16 from by omega] at HARM
  generalize hDD : Dev.fresh 200 (cpF A B) = D at *
  generalize opS (cpF A B) 200 = ws at *
  generalize newG (cpF A B) 200 = gg at *
  generalize cpG (cpF A B) 200 0 = ga at *
  generalize cpG (cpF A B) 200 1 = gb at *
  obtain ⟨x1, x2, x3, x4, x5, x6, x7, x8⟩ := ws
  unfold Sup.cells at hON hOP
  simp only at hON hOP
  obtain ⟨eo, heo⟩ : ∃ eo : Int, (if gg then 0 else 10) = eo := ⟨_, rfl⟩
  obtain ⟨k0, hk0⟩ : ∃ k0 : Int, (if ga then 0 else 10) = k0 := ⟨_, rfl⟩
  obtain ⟨k1, hk1⟩ : ∃ k1 : Int, (if gb then 0 else 10) = k1 := ⟨_, rfl⟩
  rw [heo] at hON
  rw [hk0, hk1] at hCH
  have HON := Lib.hid hON; have HCH := Lib.hid hCH; have HRP := Lib.hid hRP; have HF := Lib.hid hF; have HT := Lib.hid hT; have HCK := Lib.hid hCK; have HOP := Lib.hid hOP
  have HEO := Lib.hid heo; have HK0 := Lib.hid hk0; have HK1 := Lib.hid hk1
  have HIS : Hid ((Tryd.prog.info? 29).map (·.size) = some (#[.int .i64 x1, .int .i64 x2, .int .i64 x3, .int .i64 x4, .int .i64 x5, .int .i64 x6, .int .i64 x7, .int .u64 x8] : Array Value).size) := by show _ = some 8; kernel_rfl
  have HR1 := Lib.hid (fun wx : World => RdSl.new wx #[.int .u8 c1] 5 1 1 rfl)
  have HB1 : Hid (∀ x ∈ [(c1 : Int)], 0 ≤ x ∧ x < 256) := fun x hx => by simp at hx; subst hx; omega
  clear hN hza hzb hA hB hA64 hB64 ha hb hDD hfr hON hCH hRP hF hT hCK hOP heo hk0 hk1 hEn hEv hEx
  go_enter Tryd.func10, Tryd.ntmps10
  go_wp2_with fail
  (with_reducible refine (HAW.out _ (HNB.out.below X0.out.bel)).mono ?_)
  rintro e' w3 ⟨rfl, b3⟩
  have X3 := Lib.hid (X0.out.next b3)
  clear b3 X0 HAW
  go_wp2_with fail
  have X4 := Lib.hid (X3.out.next ((Below.refl _ _).drew))
  refine wp_region_held (S := (fun wx => KSt w [(w.heap.size, ca, 42), (w.heap.size + 1, cb, 42), (w.heap.size + 2, #[.int .u8 c0, .int .u8 c1], 85)] wx)) (by kernel_rfl) ?_
  change wpAnyH _ _ _ _ _ _ _ _ (World.drew _)
  refine wpAnyH_take (i := 0) (v := .agg ca) rfl (by kernel_rfl) (by kernel_rfl) (by kernel_rfl) (fun _ _ _ h => h) (Or.inl ⟨by kernel_rfl, fun wx hx => exec_load_row 42 (.tmp 3) rfl w.heap.size rfl 42 ca (0, 0) _ (hx.get (i := 0) rfl) Tryd.underlying42 rfl HIA.out⟩) X4.out ?_
  refine wpAnyH_take (i := 2) (v := .agg cb) rfl (by kernel_rfl) (by kernel_rfl) (by kernel_rfl) (fun _ _ _ h => h) (Or.inl ⟨by kernel_rfl, fun wx hx => exec_load_row 42 (.tmp 4) rfl (w.heap.size + 1) rfl 42 cb (0, 0) _ (hx.get (i := 1) rfl) Tryd.underlying42 rfl HIB.out⟩) X4.out ?_
  refine wpAnyH_one (i := 1) (by kernel_rfl) rfl rfl (fun K hK => ?_)
  go_simp
  (with_reducible refine (HWA.out _).mono ?_)
  rintro e' w5 ⟨va, rfl, ra, b5⟩
  have X5 := Lib.hid (X4.out.next b5)
  have RA := Lib.hid ra
  clear ra b5
  go_simp
  refine hK _ _ ⟨X5.out, ?_⟩
  clear hK K
  refine wpAnyH_one (i := 3) (by kernel_rfl) rfl rfl (fun K hK => ?_)
  go_simp
  (with_reducible refine (HWB.out _).mono ?_)
  rintro e' w6 ⟨vb, rfl, rb, b6⟩
  have X6 := Lib.hid (X5.out.next b6)
  have RA6 := Lib.hid (RA.out.below b6)
  have RB := Lib.hid rb
  clear rb b6
  go_simp
  refine hK _ _ ⟨X6.out, ?_⟩
  clear hK K
  refine wpAnyH_one (i := 4) (by kernel_rfl) rfl rfl (fun K hK => ?_)
  go_simp
  (with_reducible refine (HCP.out _ _ _ RA6.out RB.out).mono ?_)
  rintro e' w7 ⟨v, own, rfl, d7, o7, b7⟩
  have X7 := Lib.hid (X6.out.next b7)
  have S7 := Lib.hid (X6.out.dev d7 o7 b7)
  clear d7 o7 b7
  go_simp
  refine hK _ _ ⟨X7.out, ?_⟩
  clear hK K
  refine wpAnyH_one (i := 5) (by kernel_rfl) rfl rfl (fun K hK => ?_)
  go_simp
  refine hK _ _ ⟨X7.out, ?_⟩
  clear hK K
  refine wpAnyH_done (by kernel_rfl) ?_ _
  have B6 := Lib.hid X6.out.bel
  have hw6 : w.heap.size ≤ w6.heap.size := X6.out.bel.size
  clear HCP X3 X4 X5 RA RA6 RB X6 X7 HWA HWB
  go_wp2_with fail
  (with_reducible refine (thread0_any S7.out.st.dev).mono ?_)
  rintro e' w' ⟨rfl, rfl⟩
  go_wp2_with fail
  (with_reducible refine (HON.out _ _ _ (HNB.out.below (B6.out.trans (S7.out.st.bel.mono hw6))) S7.out.st.dev).mono ?_)
  rintro e' w8 ⟨rfl, b8⟩
  have S8 := Lib.hid ((S7.out.next b8).add #[.int .i64 x1, .int .i64 x2, .int .i64 x3, .int .i64 x4, .int .i64 x5, .int .i64 x6, .int .i64 x7, .int .u64 x8] 29)
  clear b8 S7 HON
  go_wp2_with fail
  (with_reducible refine (thread0_any S8.out.st.dev).mono ?_)
  rintro e' w' ⟨rfl, rfl⟩
  go_wp2_with fail
  (with_reducible refine (HCH.out _ _ _ (HNB.out.below (B6.out.trans (S8.out.st.bel.mono hw6))) S8.out.st.dev).mono ?_)
  rintro e' w9 ⟨rfl, b9⟩
  have S9 := Lib.hid (S8.out.next b9)
  clear b9 S8 HCH
  have u0 := (S9.out.get (i := 3) rfl).cell (i := 0) (v := .int .u8 c0) rfl
  go_wp2_with fail
  (with_reducible refine (HARM.out _ _ _ _ S9.out.st.dev).mono ?_)
  rintro e' w10 ⟨rfl, p10⟩
  obtain ⟨own10, s10⟩ := S9.out.step p10
  have S10 := Lib.hid s10
  clear p10 s10 S9 HARM u0
  go_wp2_with fail
  (with_reducible refine (thread0_any S10.out.st.dev).mono ?_)
  rintro e' w' ⟨rfl, rfl⟩
  go_wp2_with fail
  (with_reducible refine (HRP.out _ _ _ (HNB.out.below (B6.out.trans (S10.out.st.bel.mono hw6))) S10.out.st.dev).mono ?_)
  rintro e' w11 ⟨rfl, p11⟩
  obtain ⟨own11, s11⟩ := S10.out.step p11
  have S11 := Lib.hid s11
  clear p11 s11 S10 HRP
  cases gg
  · obtain rfl : (10 : Int) = eo := HEO.out
    obtain ⟨rfl, rfl⟩ := HF.out rfl
    go_wp2_with fail
    go_ret
    exact ⟨rfl, B6.out.trans (S11.out.st.bel.mono hw6)⟩
  · obtain rfl : (0 : Int) = eo := HEO.out
    have HOP1 := Lib.hid (HOP.out rfl)
    have HCK0 := Lib.hid (HCK.out rfl)
    have hq := fun wx => run_eqlS wx ⟨x1, x2, x3, x4, x5, x6, x7, x8⟩ ⟨x1, x2, x3, x4, x5, x6, x7, x8⟩
    rw [supEq_refl] at hq
    unfold Sup.cells at hq
    simp only at hq
    have hgu : Tryd.prog.eqGuardType Tryd.prog.depth 29 = false := by kernel_rfl
    rcases HT.out rfl with ⟨rfl, hm⟩ | ⟨rfl, rfl⟩
    · have HM := Lib.hid hm
      have HCK1 := Lib.hid (HCK0.out rfl)
      clear hm HT HF HEO HOP HCK HCK0
      go_wp2_with fail
      (with_reducible refine (thread0_any S11.out.st.dev).mono ?_)
      rintro e' w' ⟨rfl, rfl⟩
      go_wp2_with fail
      (with_reducible refine (HCK1.out _ _ _ (HNB.out.below (B6.out.trans (S11.out.st.bel.mono hw6))) S11.out.st.dev).mono ?_)
      rintro e' w12 ⟨rfl, b12⟩
      have S12 := Lib.hid (S11.out.next b12)
      clear b12 S11 HCK1
      cases ga
      · obtain rfl : (10 : Int) = k0 := HK0.out
        obtain rfl : m = 1 := HM.out
        have y1 := (S12.out.get (i := 3) rfl).cell (i := 1) (v := .int .u8 c1) rfl
        go_wp2_with fail
        (with_reducible refine (crash200 (S12.out.st.dev.alloc _) HD.out.1 HD.out.2.1 _ [(c1 : Int)] (HR1.out _) HB1.out (by unfold maxLen; simp) HD.out.2.2).mono ?_)
        rintro e' wD ⟨ks, v1, own18, rfl, d18, ho18, b18⟩
        have D18 := Lib.hid d18
        have K18 := Lib.hid (S12.out.kst.next ((below_alloc _ (.cells #[.int .u8 c1] 5)).trans (b18.mono (by simp))))
        have HOR := Lib.hid (HOP1.out ks)
        clear d18 ho18 b18 HOP1 S12 HD HR1 HB1 y1
        go_wp2_with fail
        (with_reducible refine (thread0_any D18.out).mono ?_)
        rintro e' w' ⟨rfl, rfl⟩
        go_wp2_with fail
        (with_reducible refine (HOR.out _ _ _ (HNB.out.below (B6.out.trans (K18.out.bel.mono hw6))) D18.out).mono ?_)
        rintro e' wE ⟨rfl, b19⟩
        have KE := Lib.hid (K18.out.next (b19.trans ((below_alloc wE (.cells #[.int .i64 x1, .int .i64 x2, .int .i64 x3, .int .i64 x4, .int .i64 x5, .int .i64 x6, .int .i64 x7, .int .u64 x8] 29)).mono b19.size)))
        have NE := Lib.hid (Blk.new wE #[.int .i64 x1, .int .i64 x2, .int .i64 x3, .int .i64 x4, .int .i64 x5, .int .i64 x6, .int .i64 x7, .int .u64 x8] 29)
        clear b19 HOR D18 K18
        obtain ⟨n0, n1, n2, n3, n4, n5, n6, n7⟩ := NE.out.c8
        obtain ⟨k0, k1, k2, k3, k4, k5, k6, k7⟩ := (KE.out.get (i := 0) rfl).c8
        go_wp2_with fail
        go_ret
        exact ⟨rfl, B6.out.trans (KE.out.bel.mono hw6)⟩
      · cases gb
        · obtain rfl : (0 : Int) = k0 := HK0.out
          obtain rfl : (10 : Int) = k1 := HK1.out
          obtain rfl : m = 1 := HM.out
          have y1 := (S12.out.get (i := 3) rfl).cell (i := 1) (v := .int .u8 c1) rfl
          go_wp2_with fail
          (with_reducible refine (crash200 (S12.out.st.dev.alloc _) HD.out.1 HD.out.2.1 _ [(c1 : Int)] (HR1.out _) HB1.out (by unfold maxLen; simp) HD.out.2.2).mono ?_)
          rintro e' wD ⟨ks, v1, own18, rfl, d18, ho18, b18⟩
          have D18 := Lib.hid d18
          have K18 := Lib.hid (S12.out.kst.next ((below_alloc _ (.cells #[.int .u8 c1] 5)).trans (b18.mono (by simp))))
          have HOR := Lib.hid (HOP1.out ks)
          clear d18 ho18 b18 HOP1 S12 HD HR1 HB1 y1
          go_wp2_with fail
          (with_reducible refine (thread0_any D18.out).mono ?_)
          rintro e' w' ⟨rfl, rfl⟩
          go_wp2_with fail
          (with_reducible refine (HOR.out _ _ _ (HNB.out.below (B6.out.trans (K18.out.bel.mono hw6))) D18.out).mono ?_)
          rintro e' wE ⟨rfl, b19⟩
          have KE := Lib.hid (K18.out.next (b19.trans ((below_alloc wE (.cells #[.int .i64 x1, .int .i64 x2, .int .i64 x3, .int .i64 x4, .int .i64 x5, .int .i64 x6, .int .i64 x7, .int .u64 x8] 29)).mono b19.size)))
          have NE := Lib.hid (Blk.new wE #[.int .i64 x1, .int .i64 x2, .int .i64 x3, .int .i64 x4, .int .i64 x5, .int .i64 x6, .int .i64 x7, .int .u64 x8] 29)
          clear b19 HOR D18 K18
          obtain ⟨n0, n1, n2, n3, n4, n5, n6, n7⟩ := NE.out.c8
          obtain ⟨k0, k1, k2, k3, k4, k5, k6, k7⟩ := (KE.out.get (i := 0) rfl).c8
          go_wp2_with fail
          go_ret
          exact ⟨rfl, B6.out.trans (KE.out.bel.mono hw6)⟩
        · obtain rfl : (0 : Int) = k0 := HK0.out
          obtain rfl : (0 : Int) = k1 := HK1.out
          obtain rfl : m = 0 := HM.out
          have y1 := (S12.out.get (i := 3) rfl).cell (i := 1) (v := .int .u8 c1) rfl
          go_wp2_with fail
          (with_reducible refine (crash200 (S12.out.st.dev.alloc _) HD.out.1 HD.out.2.1 _ [(c1 : Int)] (HR1.out _) HB1.out (by unfold maxLen; simp) HD.out.2.2).mono ?_)
          rintro e' wD ⟨ks, v1, own18, rfl, d18, ho18, b18⟩
          have D18 := Lib.hid d18
          have K18 := Lib.hid (S12.out.kst.next ((below_alloc _ (.cells #[.int .u8 c1] 5)).trans (b18.mono (by simp))))
          have HOR := Lib.hid (HOP1.out ks)
          clear d18 ho18 b18 HOP1 S12 HD HR1 HB1 y1
          go_wp2_with fail
          (with_reducible refine (thread0_any D18.out).mono ?_)
          rintro e' w' ⟨rfl, rfl⟩
          go_wp2_with fail
          (with_reducible refine (HOR.out _ _ _ (HNB.out.below (B6.out.trans (K18.out.bel.mono hw6))) D18.out).mono ?_)
          rintro e' wE ⟨rfl, b19⟩
          have KE := Lib.hid (K18.out.next (b19.trans ((below_alloc wE (.cells #[.int .i64 x1, .int .i64 x2, .int .i64 x3, .int .i64 x4, .int .i64 x5, .int .i64 x6, .int .i64 x7, .int .u64 x8] 29)).mono b19.size)))
          have NE := Lib.hid (Blk.new wE #[.int .i64 x1, .int .i64 x2, .int .i64 x3, .int .i64 x4, .int .i64 x5, .int .i64 x6, .int .i64 x7, .int .u64 x8] 29)
          clear b19 HOR D18 K18
          obtain ⟨n0, n1, n2, n3, n4, n5, n6, n7⟩ := NE.out.c8
          obtain ⟨k0, k1, k2, k3, k4, k5, k6, k7⟩ := (KE.out.get (i := 0) rfl).c8
          go_wp2_with fail
          go_ret
          exact ⟨rfl, B6.out.trans (KE.out.bel.mono hw6)⟩
    · clear HT HF HEO HOP HCK HCK0
      have y1 := (S11.out.get (i := 3) rfl).cell (i := 1) (v := .int .u8 c1) rfl
      go_wp2_with fail
      (with_reducible refine (crash200 (S11.out.st.dev.alloc _) HD.out.1 HD.out.2.1 _ [(c1 : Int)] (HR1.out _) HB1.out (by unfold maxLen; simp) HD.out.2.2).mono ?_)
      rintro e' wD ⟨ks, v1, own18, rfl, d18, ho18, b18⟩
      have D18 := Lib.hid d18
      have K18 := Lib.hid (S11.out.kst.next ((below_alloc _ (.cells #[.int .u8 c1] 5)).trans (b18.mono (by simp))))
      have HOR := Lib.hid (HOP1.out ks)
      clear d18 ho18 b18 HOP1 S11 HD HR1 HB1 y1
      go_wp2_with fail
      (with_reducible refine (thread0_any D18.out).mono ?_)
      rintro e' w' ⟨rfl, rfl⟩
      go_wp2_with fail
      (with_reducible refine (HOR.out _ _ _ (HNB.out.below (B6.out.trans (K18.out.bel.mono hw6))) D18.out).mono ?_)
      rintro e' wE ⟨rfl, b19⟩
      have KE := Lib.hid (K18.out.next (b19.trans ((below_alloc wE (.cells #[.int .i64 x1, .int .i64 x2, .int .i64 x3, .int .i64 x4, .int .i64 x5, .int .i64 x6, .int .i64 x7, .int .u64 x8] 29)).mono b19.size)))
      have NE := Lib.hid (Blk.new wE #[.int .i64 x1, .int .i64 x2, .int .i64 x3, .int .i64 x4, .int .i64 x5, .int .i64 x6, .int .i64 x7, .int .u64 x8] 29)
      clear b19 HOR D18 K18
      obtain ⟨n0, n1, n2, n3, n4, n5, n6, n7⟩ := NE.out.c8
      obtain ⟨k0, k1, k2, k3, k4, k5, k6, k7⟩ := (KE.out.get (i := 0) rfl).c8
      go_wp2_with fail
      go_ret
      exact ⟨rfl, B6.out.trans (KE.out.bel.mono hw6)⟩
end
end Go.Proofs.YtbpaamnofkhonaaDoor
