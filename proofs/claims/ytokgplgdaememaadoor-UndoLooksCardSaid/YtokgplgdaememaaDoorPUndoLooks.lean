/- The walk of UndoLooks. -/
import Derived.Test.YtokgplgdaememaaDoorUndH
import Derived.Test.YtokgplgdaememaaDoorOpenF
import Derived.Test.YtokgplgdaememaaDoorCardU
import Derived.Test.YtokgplgdaememaaDoorCards
import Derived.Lib.SmallJoins
import Derived.SevenTiedAt
namespace Go.Proofs.YtokgplgdaememaaDoor
open Go.RowKit Go.Maps
attribute [local go_sem ↓] Go.wp_at_zero Go.wp_at_succ
section
variable {w : World}
set_option maxRecDepth 100000 in
set_option maxHeartbeats 64000000 in
theorem undoLooks_any (h : Wh w) (c : Int) (hc : 0 ≤ c ∧ c < 18446744073709551616) (sv : Value) (l : List (Nat × Int)) (hs : RdSl w 2 sv l.length (spoB l)) (hlb : ∀ e ∈ l, e.1 < 256 ∧ 0 ≤ e.2 ∧ e.2 < 18446744073709551616) (hll : l.length ≤ maxLen) :
    Calls Tryd.prog 7 #[.int .u64 c, sv] w fun r w' => r = .returned (.bool true) ∧ Below w.heap.size w w' := by
  have HW := Lib.hid h; clear h
  obtain ⟨hcl, _⟩ := spP_cl hc hlb
  have hj1 := run_other (spP c l) D0
  have HSP := Lib.hid (fun (wx : World) (hb : Below w.heap.size w wx) => l16spoilt_any (HW.out.below hb) c sv l (hs.below hb) hlb hll)
  clear hs hlb hll hc
  generalize D0.run 0 (spP c l) = D at *
  have CJ0 : Hid (Cj D 0 100) := ⟨hcl.lv, hcl.hist⟩
  have CJ1 : Hid (Cj D 1 100) := ⟨⟨⟨hcl.lv.on.n, hcl.lv.on.off, hj1.1.trans rfl⟩, hcl.lv.armed, fun m => (hj1.2 m).trans rfl, hcl.lv.exec, hcl.lv.vb⟩, hcl.hist⟩
  have HR0 := Lib.hid (resD_cj CJ0.out); have HR1 := Lib.hid (resD_cj CJ1.out)
  clear hcl hj1
  have HRV0 := Lib.hid (fun (wx wc : World) (v : DV) (own : Nat → Option Role) (lb : Nat) (hL : LSt wx v own D lb 0 192 5 wc) => recover_lv hL CJ0.out (by omega))
  have HRV1 := Lib.hid (fun (wx wc : World) (v : DV) (own : Nat → Option Role) (lb : Nat) (hL : LSt wx v own D lb 1 192 5 wc) => rollback_lv hL CJ1.out (by omega))
  have HRS := Lib.hid (fun (wx : World) (u : Value) (hu : WIn wx u D.cur) => r16Restored_any hu)
  have HPC := Lib.hid (fun (wx : World) (v : DV) (own : Nat → Option Role) (lb : Nat) (hx : LogAt wx v own D lb 0 192 5) => uPlanCommit_any hx _ _ (load24 hx CJ0.out.lv) (saved_vin CJ0.out.lv.vb.cur) (validL_len 1536 192 5 (savedL D.cur 192 5)))
  have HRC : Hid (∀ (wx : World) (u : Value) (_ : WIn wx u D.cur), Calls Tryd.prog 43 #[.agg #[.int .u64 192, .int .u64 512, .int .u64 1536], u] wx (RPost wx (commitP 192 (savedL D.cur 192 5) (validL 1536 192 5 (savedL D.cur 192 5))))) := fun wx u hu => r16Commit_any hu
  have HPL : Hid ((commitP 192 (savedL D.cur 192 5) (validL 1536 192 5 (savedL D.cur 192 5))).length ≤ 100) := by
    have hvl := validL_len 1536 192 5 (savedL D.cur 192 5); have hsl := savedL_le D.cur
    show (commitP 192 (savedL D.cur 192 5) (validL 1536 192 5 (savedL D.cur 192 5))).length ≤ 100
    unfold commitP
    split
    · simp
    · have a1 := flushL_len ((validL 1536 192 5 (savedL D.cur 192 5)).map (·.1)); have a2 := store1_len 192 0
      rw [List.length_map] at a1
      rw [List.length_append]; omega
  generalize commitP 192 (savedL D.cur 192 5) (validL 1536 192 5 (savedL D.cur 192 5)) = P at *
  generalize (validL 1536 192 5 (savedL D.cur 192 5)).length = vn at *
  have hvv : ((vn : Int) != (vn : Int)) = false := by simp
  have HRSV : Hid (∀ (wx : World) (u : Value) (_ : WIn wx u D.cur), Calls Tryd.prog 23 #[.agg #[.int .u64 192, .int .u64 512, .int .u64 1536], u] wx (WrPost wx (savedL D.cur 192 5))) := fun wx u hu => r16Saved_any hu
  have HSQ : Hid ((savedL D.cur 192 5).length ≤ 16) := savedL_le D.cur
  have HS0 := Lib.hid (fun (wx : World) (v : DV) (own : Nat → Option Role) (lb : Nat) (hx : LogAt wx v own D lb 0 192 5) => uSaved_any hx CJ0.out.lv.on.off CJ0.out.lv.vb)
  have HLK := Lib.hid (fun (wx : World) (v : DV) (own : Nat → Option Role) (hx : IsDev wx v own D) => look24 hx CJ0.out.lv.on.n (j := 3) (by omega) CJ0.out.lv.on.off CJ0.out.lv.vb)
  have HOP := Lib.hid (fun (wx : World) (v : DV) (own : Nat → Option Role) (hx : IsDev wx v own D) => open24 hx CJ0.out.lv.on.n (j := 1) (by omega))
  have HTD := Lib.hid (fun (wx : World) (u : Value) (hx : RdSl wx 2 u (savedL D.cur 192 5).length (flat (savedL D.cur 192 5))) (hlt : ∀ k, u.ownBlock = some k → k < wx.heap.size) => told16_any u _ hx (by have := HSQ.out; omega) hlt)
  have HEQ := Lib.hid (fun (wx : World) (u z : Value) (hx : RdSl wx 2 u (savedL D.cur 192 5).length (flat (savedL D.cur 192 5))) (hz : RdSl wx 2 z (savedL D.cur 192 5).length (flat (savedL D.cur 192 5))) => equalRW_same u z _ hx hz (by have := HSQ.out; omega))
  generalize savedL D.cur 192 5 = SS at *
  generalize hss : SS.length = ss at *
  have HSS := Lib.hid hss; clear hss
  go_enter Tryd.func7, Tryd.ntmps7
  go_wp2_with fail
  (with_reducible refine awake16.mono ?_)
  rintro e w1 ⟨rfl, b1⟩
  have B1 := Lib.hid b1
  have W1 := Lib.hid (HW.out.below b1); clear b1
  go_wp2_with fail
  (with_reducible refine (HSP.out _ B1.out).mono ?_)
  rintro e w2 ⟨v, own, lb, rfl, l2⟩
  have L2 := Lib.hid l2; clear l2
  go_wp2_with fail
  (with_reducible refine (HSP.out _ (B1.out.trans (L2.out.bel.mono B1.out.size))).mono ?_)
  rintro e w3 ⟨v', own', lb', rfl, l3⟩
  have L3 := Lib.hid (L2.out.next l3.bel)
  have E3 := Lib.hid l3
  have HDJ : Hid (∀ k, own' k ≠ none → own k = none) := fun k hk => by
    have h1 := E3.out.ob k hk
    cases ho : own k with
    | none => rfl
    | some r => have := L2.out.log.dev.lt k (by rw [ho]; simp); omega
  have HOB : Hid (∀ k, own' k ≠ none → w1.heap.size ≤ k) := fun k hk => Nat.le_trans L2.out.bel.size (E3.out.ob k hk)
  have D3 := Lib.hid E3.out.log.dev
  clear l3 L2 E3 HSP
  go_wp2_with fail
  (with_reducible refine (current24 L3.out.dev CJ0.out.lv).mono ?_)
  rintro e z1 ⟨rfl, r1, b1⟩
  have R1 := Lib.hid r1; have M1 := Lib.hid (L3.out.next b1); have E1 := Lib.hid (D3.out.below b1); clear r1 b1 L3 D3
  go_wp2_with fail
  (with_reducible refine (words24 CJ0.out.lv.vb.cur R1.out).mono ?_)
  rintro e z2 ⟨rfl, d2⟩
  have KC := Lib.hid (Kp.wd M1.out d2)
  have M2 := Lib.hid (M1.out.next d2.bel); have E2 := Lib.hid (E1.out.below d2.bel); clear d2 R1 M1 E1
  generalize z1.heap.size = gw at *
  obtain ⟨g0, g1, g2⟩ := (W1.out.below M2.out.bel).all'
  go_wp2_with fail
  (with_reducible refine (HRSV.out _ _ (KC.out.win CJ0.out.lv.vb.cur)).mono ?_)
  rintro e z3 ⟨v3, rfl, a3⟩
  rw [HSS.out] at a3
  obtain ⟨s3a, s3c, hs3⟩ := a3.slice
  subst hs3
  have KW := Lib.hid (Kp.of M2.out a3)
  have M3 := Lib.hid (M2.out.next a3.bel); have E3 := Lib.hid (E2.out.below a3.bel); have KC3 := Lib.hid (KC.out.next a3.bel); clear a3 M2 E2 KC g0 g1 g2
  go_wp2_with fail
  (with_reducible refine (HS0.out _ _ _ _ M3.out.log).mono ?_)
  rintro e y2 ⟨s2, rfl, a2⟩
  obtain ⟨s2a, s2c, hs2⟩ := a2.slice
  subst hs2
  have A2 := Lib.hid a2
  have M4 := Lib.hid (M3.out.next a2.bel); have E4 := Lib.hid (E3.out.below a2.bel); have KC4 := Lib.hid (KC3.out.next a2.bel); have V4 := Lib.hid (KW.out.next a2.bel); clear a2 M3 E3 KC3 KW
  go_wp2_with fail
  (with_reducible refine (HTD.out _ _ A2.out.rd (fun k hk => A2.out.own.lt k hk)).mono ?_)
  rintro e y3 ⟨s3, rfl, a3⟩
  obtain ⟨s3a', s3c', hs3⟩ := a3.slice
  subst hs3
  have A3 := Lib.hid a3
  have M5 := Lib.hid (M4.out.next a3.bel); have E5 := Lib.hid (E4.out.below a3.bel); have KC5 := Lib.hid (KC4.out.next a3.bel); have V5 := Lib.hid (V4.out.next a3.bel); clear a3 M4 E4 KC4 V4 A2
  go_wp2_with fail
  (with_reducible refine (HEQ.out _ _ _ A3.out.rd V5.out.rd).mono ?_)
  rintro e y4 ⟨rfl, b4⟩
  have M6 := Lib.hid (M5.out.next b4); have E6 := Lib.hid (E5.out.below b4); have KC6 := Lib.hid (KC5.out.next b4); have V6 := Lib.hid (V5.out.next b4); clear b4 M5 E5 KC5 V5 A3
  go_wp2_with fail
  (with_reducible refine (thread3_any M6.out.dev).mono ?_)
  rintro e w' ⟨rfl, rfl⟩
  go_wp2_with fail
  (with_reducible refine (HLK.out _ _ _ M6.out.dev).mono ?_)
  rintro e y2 ⟨s2, rfl, a2⟩
  obtain ⟨s2a, s2c, hs2⟩ := a2.slice
  subst hs2
  have A2 := Lib.hid a2
  have M4 := Lib.hid (M6.out.next a2.bel); have E4 := Lib.hid (E6.out.below a2.bel); have KC4 := Lib.hid (KC6.out.next a2.bel); have V4 := Lib.hid (V6.out.next a2.bel); clear a2 M6 E6 KC6 V6
  go_wp2_with fail
  (with_reducible refine (HTD.out _ _ A2.out.rd (fun k hk => A2.out.own.lt k hk)).mono ?_)
  rintro e y3 ⟨s3, rfl, a3⟩
  obtain ⟨s3a', s3c', hs3⟩ := a3.slice
  subst hs3
  have A3 := Lib.hid a3
  have M5 := Lib.hid (M4.out.next a3.bel); have E5 := Lib.hid (E4.out.below a3.bel); have KC5 := Lib.hid (KC4.out.next a3.bel); have V5 := Lib.hid (V4.out.next a3.bel); clear a3 M4 E4 KC4 V4 A2
  go_wp2_with fail
  (with_reducible refine (HEQ.out _ _ _ A3.out.rd V5.out.rd).mono ?_)
  rintro e y4 ⟨rfl, b4⟩
  have M6 := Lib.hid (M5.out.next b4); have E6 := Lib.hid (E5.out.below b4); have KC6 := Lib.hid (KC5.out.next b4); clear b4 M5 E5 KC5 V5 A3
  go_wp2_with fail
  (with_reducible refine (HPC.out _ _ _ _ M6.out.log).mono ?_)
  rintro e z3 ⟨pv, rfl, a3⟩
  obtain ⟨pa, pc, hpv⟩ := a3.slice
  subst hpv
  have P3 := Lib.hid a3.rd
  have M3 := Lib.hid (M6.out.next a3.bel); have E3 := Lib.hid (E6.out.below a3.bel); have KC3 := Lib.hid (KC6.out.next a3.bel); clear a3 M6 E6 KC6 HPC
  generalize hpn : P.length = pn at *
  have HPN := Lib.hid hpn; clear hpn
  have hpl : pn ≤ 100 := HPL.out
  have W3 := Lib.hid (W1.out.below M3.out.bel)
  have XD : Hid (z3.drew.cell? ⟨0, 0, none⟩ = some (.int .u64 192) ∧ z3.drew.cell? ⟨0, 1, none⟩ = some (.int .u64 512) ∧ z3.drew.cell? ⟨0, 2, none⟩ = some (.int .u64 1536)) := W3.out.all'
  have HPG := Lib.hid (program16_any (w := z3.drew) (.slice pa pn pc) P (by rw [HPN.out]; exact P3.out.drew) (by rw [HPN.out]; omega))
  rw [HPN.out] at HPG
  go_wp2_with fail
  go_region_held3 (fun wx => wx.cell? ⟨0, 0, none⟩ = some (.int .u64 192) ∧ wx.cell? ⟨0, 1, none⟩ = some (.int .u64 512) ∧ wx.cell? ⟨0, 2, none⟩ = some (.int .u64 1536)) (first | (with_reducible exact X6.out) | (with_reducible exact X5.out) | (with_reducible exact X4.out) | (with_reducible exact XD.out)) (first | (go_at_call 34; (with_reducible refine HPG.out.mono ?_); rintro e z4 ⟨v4, rfl, a4⟩; obtain ⟨a4a, a4c, hv4⟩ := a4.slice; subst hv4; have A4 := Lib.hid a4; have B4 := Lib.hid (bdrew a4.bel); have X4 := Lib.hid ((W3.out.below B4.out).all'); have HR4 := Lib.hid (HRC.out z4 _ ((KC3.out.next B4.out).win CJ0.out.lv.vb.cur)); clear a4) | (go_at_call 43; (with_reducible refine HR4.out.mono ?_); rintro e z5 ⟨v5, rfl, a5⟩; rw [HPN.out] at a5; obtain ⟨a5a, a5c, hv5⟩ := a5.slice; subst hv5; have B5 := Lib.hid (B4.out.trans (a5.bel.mono B4.out.size)); have X5 := Lib.hid ((W3.out.below B5.out).all'); have HS5 := Lib.hid (r10Same_same (w := z5) (.slice a4a pn a4c) (.slice a5a pn a5c) P (by rw [HPN.out]; exact (A4.out.keep a5.bel).rd) (by rw [HPN.out]; exact a5.rd) (by rw [HPN.out]; omega)); clear a5) | (go_at_call 33; (with_reducible refine HS5.out.mono ?_); rintro e z6 ⟨rfl, b6⟩; have B6 := Lib.hid (B5.out.trans (b6.mono B5.out.size)); have X6 := Lib.hid ((W3.out.below B6.out).all'); clear b6))
  all_goals
    have M7 := Lib.hid (M3.out.next B6.out); have E7 := Lib.hid (E3.out.below B6.out); have KC7 := Lib.hid (KC3.out.next B6.out)
    obtain ⟨g0, g1, g2⟩ := X6.out
    clear M3 E3 KC3 A4 B4 B5 B6 X4 X5 X6 HR4 HS5 HPG XD W3 P3
    go_wp2_with fail
    (with_reducible refine (HRS.out _ _ (KC7.out.win CJ0.out.lv.vb.cur)).mono ?_)
    rintro e z8 ⟨ov, rfl, a8⟩
    obtain ⟨oa, oc, hov⟩ := a8.slice
    subst hov
    have KT := Lib.hid (Kp.of M7.out a8)
    have HNW : Hid (∀ k, (Value.slice oa 192 oc).ownBlock = some k → ¬ own' k ≠ none) := fun k hk hk2 => by
      have h1 := a8.new k hk
      have h2 := E7.out.lt k hk2
      omega
    have M8 := Lib.hid (M7.out.next a8.bel); have E8 := Lib.hid (E7.out.below a8.bel); clear a8 M7 E7 KC7 g0 g1 g2
    go_wp2_with fail
    (with_reducible refine (HRV0.out _ _ _ _ _ M8.out).mono ?_)
    rintro e z9 ⟨own9, rfl, l9, m9⟩
    have M9 := Lib.hid l9
    have KT9 := Lib.hid (KT.out.step m9)
    have E9 := Lib.hid (E8.out.upd m9.upd (fun k hk hk2 => hk2 (HDJ.out k hk)))
    clear l9 m9 M8 E8 KT HRV0
    go_wp2_with fail
    (with_reducible refine (current24 M9.out.dev HR0.out.1.lv).mono ?_)
    rintro e u1 ⟨rfl, r1, b1⟩
    have R1 := Lib.hid r1; have N1 := Lib.hid (M9.out.next b1); have F1 := Lib.hid (E9.out.below b1); have T1 := Lib.hid (KT9.out.next b1); clear r1 b1 M9 E9 KT9
    go_wp2_with fail
    (with_reducible refine (words24 HR0.out.1.lv.vb.cur R1.out).mono ?_)
    rintro e u2 ⟨rfl, d2⟩
    have Q2 := Lib.hid d2.rd
    have N2 := Lib.hid (N1.out.next d2.bel); have F2 := Lib.hid (F1.out.below d2.bel); have T2 := Lib.hid (T1.out.next d2.bel); clear d2 R1 N1 F1 T1
    rw [HR0.out.2] at Q2
    go_wp2_with fail
    (with_reducible refine (eqW Q2.out T2.out.rd).mono ?_)
    rintro e u3 ⟨rfl, b3⟩
    have N3 := Lib.hid (N2.out.next b3); have F3 := Lib.hid (F2.out.below b3); have T3 := Lib.hid (T2.out.next b3); clear b3 N2 F2 T2 Q2
    go_wp2_with fail
    (with_reducible refine (persisted24 N3.out.dev HR0.out.1.lv.vb HR0.out.1.lv.on.n).mono ?_)
    rintro e u4 ⟨rfl, r4, b4⟩
    rw [HR0.out.1.pers] at r4
    have R4 := Lib.hid r4; have N4 := Lib.hid (N3.out.next b4); have F4 := Lib.hid (F3.out.below b4); have T4 := Lib.hid (T3.out.next b4); clear r4 b4 N3 F3 T3
    go_wp2_with fail
    (with_reducible refine (words24 HR0.out.1.lv.vb.cur R4.out).mono ?_)
    rintro e u5 ⟨rfl, d5⟩
    have Q5 := Lib.hid d5.rd
    have N5 := Lib.hid (N4.out.next d5.bel); have F5 := Lib.hid (F4.out.below d5.bel); have T5 := Lib.hid (T4.out.next d5.bel); clear d5 R4 N4 F4 T4
    rw [HR0.out.2] at Q5
    go_wp2_with fail
    (with_reducible refine (eqW Q5.out T5.out.rd).mono ?_)
    rintro e u6 ⟨rfl, b6⟩
    have N6 := Lib.hid (N5.out.next b6); have F6 := Lib.hid (F5.out.below b6); have T6 := Lib.hid (T5.out.next b6); clear b6 N5 F5 T5 Q5
    go_wp2_with fail
    (with_reducible refine (thread1_any F6.out).mono ?_)
    rintro e w' ⟨rfl, rfl⟩
    go_wp2_with fail
    (with_reducible refine (HOP.out _ _ _ F6.out).mono ?_)
    rintro e u7 ⟨rfl, g7, b7⟩
    have LE : Hid (LSt w1 v' own' D u6.heap.size 1 192 5 u7) := ⟨g7, HOB.out, N6.out.bel.size, N6.out.bel.trans (b7.mono N6.out.bel.size)⟩
    have T7 := Lib.hid (T6.out.rd.below b7)
    clear g7 b7 N6 F6 T6
    generalize u6.heap.size = lb2 at *
    go_wp2_with fail
    (with_reducible refine (HRV1.out _ _ _ _ _ LE.out).mono ?_)
    rintro e u8 ⟨own8, rfl, l8, m8⟩
    have L8 := Lib.hid l8
    have T8 := Lib.hid (T7.out.upd m8.upd HNW.out)
    clear l8 m8 LE T7
    go_wp2_with fail
    (with_reducible refine (persisted24 L8.out.dev HR1.out.1.lv.vb HR1.out.1.lv.on.n).mono ?_)
    rintro e u9 ⟨rfl, r9, b9⟩
    rw [HR1.out.1.pers] at r9
    have R9 := Lib.hid r9; have L9 := Lib.hid (L8.out.next b9); have T9 := Lib.hid (T8.out.below b9); clear r9 b9 L8 T8
    go_wp2_with fail
    (with_reducible refine (words24 HR1.out.1.lv.vb.cur R9.out).mono ?_)
    rintro e u10 ⟨rfl, d10⟩
    have Q10 := Lib.hid d10.rd
    have L10 := Lib.hid (L9.out.next d10.bel); have T10 := Lib.hid (T9.out.below d10.bel); clear d10 R9 L9 T9
    rw [HR1.out.2] at Q10
    go_wp2_with fail
    (with_reducible refine (eqW Q10.out T10.out).mono ?_)
    rintro e u11 ⟨rfl, b11⟩
    have L11 := Lib.hid (L10.out.next b11); clear b11 L10 Q10 T10
    go_wp2_with fail
    go_ret
    exact ⟨rfl, B1.out.trans (L11.out.bel.mono B1.out.size)⟩
end
end Go.Proofs.YtokgplgdaememaaDoor

/- The spoils of layer 16: opened. -/
namespace Go.Proofs.YtokgplgdaememaaDoor
open Go.ChangeShapes Go.WideShapes Go.ChangeAt Go.RowKit Go.Joins Go.Deep

section
variable {H : Type} {enc : TypeId × Value → H}
theorem spoB_len (l : List (Nat × Int)) : (spoB l).length = l.length * 2 := by
  induction l with
  | nil => rfl
  | cons e l ih => simp [spoB] at *; omega
set_option maxRecDepth 100000 in
theorem open_spoils16 {W : World} {base b : Nat} {sp : Nat → Bool} {hd : Bool} {v : Value} {d : DataW H} {p : List MemPlace} (hv : Value.okWide Tryd.prog W .any b 80 v) (h : DataW.Trod enc Tryd.prog W base sp hd 80 v d p) :
    ∃ l : List (Nat × Int), RdSl W 2 v l.length (spoB l) ∧ l.length ≤ maxLen ∧ ∀ e ∈ l, e.1 < 256 ∧ 0 ≤ e.2 ∧ e.2 < 18446744073709551616 := by
  obtain ⟨a0, len, cap, rfl⟩ := okWide_slice Tryd.underlying80 hv
  obtain ⟨fuel, hf⟩ := h
  obtain ⟨a, n, c, xs, hv', hrd, hn, hfl⟩ := open_structs Tryd.underlying80 Tryd.underlying140 (by kernel_rfl) (by kernel_rfl) (by decide) hf
  obtain ⟨rfl, rfl, rfl⟩ : a0 = a ∧ len = n ∧ cap = c := by simpa using hv'
  have key : ∀ i, i < len → ∃ (x : Nat) (y : Int), xs[i * 2]? = some (.int .u8 x) ∧ xs[i * 2 + 1]? = some (.int .u64 y) ∧ x < 256 ∧ (0 ≤ y ∧ y < 18446744073709551616) := by
    intro i hi
    obtain ⟨q, hq⟩ := hfl i hi
    obtain ⟨u0, y0, e0, t0⟩ := hq 0 _ rfl
    obtain ⟨u1, y1, e1, t1⟩ := hq 1 _ rfl
    obtain ⟨x0, h0, _, w0⟩ := DataW.trod_int Tryd.underlying5 t0
    obtain ⟨x1, h1, _, w1⟩ := DataW.trod_int Tryd.underlying35 t1
    simp only [List.cons.injEq, and_true] at h0 h1
    subst h0 h1
    obtain ⟨m0, rfl, b0⟩ := u8_nat w0
    have b1 := u64_in w1
    exact ⟨m0, _, e0, e1, b0, b1⟩
  let l : List (Nat × Int) := (List.range len).map fun i => ((intOf (xs.getD (i * 2) (.bool false))).toNat, intOf (xs.getD (i * 2 + 1) (.bool false)))
  have hll : l.length = len := by simp [l]
  have hget : ∀ i, i < len → ∀ (x : Nat) (y : Int), xs[i * 2]? = some (.int .u8 x) → xs[i * 2 + 1]? = some (.int .u64 y) → l[i]? = some (x, y) := by
    intro i hi x y h0 h1
    simp only [l, List.getElem?_map, List.getElem?_range hi, Option.map_some, List.getD, h0, h1, Option.getD_some, intOf, Int.toNat_natCast]
  have hx : spoB l = xs := by
    have hxl : xs.length = len * 2 := hrd.1
    refine List.ext_getElem? fun j => ?_
    by_cases hj : j < len * 2
    · obtain ⟨x, y, h0, h1, _, _⟩ := key (j / 2) (by omega)
      obtain ⟨g0, g1⟩ := spoB_get l (j / 2) _ (hget (j / 2) (by omega) x y h0 h1)
      obtain hm | hm : j % 2 = 0 ∨ j % 2 = 1 := by omega
      · rw [show j = j / 2 * 2 by omega, h0]; exact g0
      · rw [show j = j / 2 * 2 + 1 by omega, h1]; exact g1
    · rw [List.getElem?_eq_none (by rw [spoB_len]; omega), List.getElem?_eq_none (by omega)]
  refine ⟨l, by rw [hll, hx]; exact hrd, by omega, fun e he => ?_⟩
  obtain ⟨i, hi, rfl⟩ := List.getElem_of_mem he
  have hi' : i < len := by omega
  obtain ⟨x, y, h0, h1, hy, hz⟩ := key i hi'
  have := hget i hi' x y h0 h1
  rw [List.getElem?_eq_getElem hi] at this
  rw [Option.some.inj this]
  exact ⟨hy, hz⟩
end
end Go.Proofs.YtokgplgdaememaaDoor

/- UndoLooks returns true for every input, over the listed variable as the program's text lays it: whatever the region contains, Saved and Look tell its entries, and Rollback and Recover restore exactly those of words outside of it. No condition besides. -/
namespace Go.Proofs.YtokgplgdaememaaDoor
open Go.ChangeShapes Go.WideShapes Go.ChangeAt Go.RowKit Go.Joins

set_option maxRecDepth 100000 in
theorem undoLooks_lifted (os : Os) (started : os.Started) (H : Type) (enc : TypeId × Value → H) :
    ReturnsInHanded {} Tryd.checked os 7 .any (fun w args => (Rows.undoLooksSpec.pre enc Tryd.prog Tryd.f7 Rows.undoLooksRow.domain false w args ∧ laidMetH Tryd.prog laidU w) ∧ sizedMet enc Tryd.prog Tryd.f7 (OpenSpec.ofChange Rows.undoLooksSpec) false w args)
      (Rows.undoLooksSpec.post enc Tryd.prog Tryd.f7 false true false false) := by
  refine returnsInHanded_of_change_and (C := Tryd.checked) (X := fun w _ => laidMetH Tryd.prog laidU w) (fun _ _ _ hh h => h.of_heap hh) own_knob started (by kernel_rfl) Tryd.func7
    (ChangeSpec.witness_shaped (enc := enc) (C := Tryd.checked) (os := os) (X := fun w _ => laidMetH Tryd.prog laidU w) false (World.laidAll Tryd.prog os laidU) #[.int .u64 0, .slice none 0 0] 8 (World.laidAll_os _ _ _)
      (World.shaped_of_ZipB (by kernel_rfl) (by kernel_rfl)) (by kernel_rfl) (by kernel_rfl) (by kernel_rfl)
      (by rw [MakeChecks.laidMetH_plain _ _ _ (by kernel_rfl)]; exact laidMet_laidAll _ (by kernel_rfl) (by kernel_rfl))) ?_
  intro W base args ds gs before hval0 hW _ _ hL _
  have hval : ∀ (j : Nat) t v, Tryd.f7.params[j]? = some t → args[j]? = some v → Value.okWide Tryd.prog W .any base t v := hval0
  have hW' := hW
  have HWH := wh_of_laid hL
  obtain ⟨p, q, hA0, hV, rfl, hfz, hnd⟩ := hW
  have hA : DataW.TrodAll enc Tryd.prog W 0 (fun _ => true) true Tryd.f7.params.toList args.toList ds p := hA0
  rw [Tryd.params7] at hA hval
  clear hA0 hval0
  obtain ⟨v0, vs0, d0, ds0, p0, q0, hargs, rfl, rfl, h0, r0⟩ := trodAll_cons hA
  obtain ⟨v1, vs1, d1, ds1, p1, q1, hargs1, rfl, rfl, h1, r1⟩ := trodAll_cons r0
  obtain ⟨rfl, rfl, rfl⟩ := trodAll_nil r1
  obtain rfl : args = #[v0, v1] := by cases args; simp_all
  obtain ⟨l, hs, hn, hb⟩ := open_spoils16 (hval 1 80 v1 rfl rfl) h1
  obtain ⟨x0, rfl, _, _, hw0⟩ := open_int Tryd.underlying35 (hval 0 35 v0 rfl rfl) h0
  refine (undoLooks_any HWH x0 (u64_in hw0) v1 l hs hb hn).mono fun e W' ⟨he, hg⟩ => ?_
  subst he
  refine ⟨_, rfl, law_post hW' rfl (by kernel_rfl) rfl ?_ hg⟩
  rw [Tryd.params7]
  intro t ht
  have hall : ([35, 80].all fun t => Tryd.prog.readableRec t && decide (t < Tryd.prog.types.size)) = true := by kernel_rfl
  have := List.all_eq_true.1 hall t ht
  simpa using this

theorem undoLooks_row : Rows.UndoLooksSaid :=
  OpenClaim.holds_of_wide 7 Tryd.f7 rfl rfl rfl rfl rfl rfl rfl ⟨rfl, rfl, rfl, rfl, rfl⟩ rfl rfl rfl rfl rfl (by kernel_rfl) Tryd.func7 (by kernel_rfl)
    (of_decide_eq_true (by kernel_rfl)) (by unfold Func.isWrapper; first | (rw [if_pos (by decide +kernel)]; kernel_rfl) | (rw [if_neg (by decide +kernel)]; exact ⟨rfl, rfl⟩))
    (fun os started H enc _ => undoLooks_lifted os started H enc)
theorem undoLooks_holds : Rows.UndoLooksCardSaid :=
  Claim7.holds_tied_plain_at .later [] [.data] true (true, "5d02ff41f4c91551bdde88e9d7154ed27509754a1175b7e710bd6818def5a27d") false undoLooks_row (fun _ h => by cases h) (by kernel_rfl) (fun _ h => by cases h) undoLooks_row_tie rfl ⟨rfl, rfl⟩ (by kernel_rfl) rfl
    (fun f fn hf hfn => by
      obtain rfl : f = 7 := Option.some.inj ((show Tryd.prog.funcNamed "bedrock/bedrocklaw16.UndoLooks" = some 7 by kernel_rfl).symm.trans hf) |>.symm
      obtain rfl : fn = Tryd.f7 := (Option.some.inj (Tryd.func7.symm.trans hfn)).symm
      exact ⟨by kernel_rfl, fun j t ht => by
        rw [Tryd.params7] at ht
        have hm : t ∈ [35, 80] := by simpa using Array.mem_of_getElem? ht
        have hall : ([35, 80].all fun u => !Tryd.prog.wantsStandIn u) = true := by kernel_rfl
        exact (show Tryd.prog.wantsStandIn t = false by simpa using List.all_eq_true.1 hall t hm)⟩)
    (by kernel_rfl)
#print axioms undoLooks_holds
end Go.Proofs.YtokgplgdaememaaDoor
