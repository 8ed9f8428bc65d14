/- The walk of RedoImages. -/
import Derived.Test.YtdidpppjkbgccaaDoorRdoX
import Derived.Test.YtdidpppjkbgccaaDoorRdoY
import Derived.Test.YtdidpppjkbgccaaDoorCsF
import Derived.Laws.IdiomArrays
import Derived.Deep.RegionHeld3
import Derived.Deep.CutRange
namespace Go.Proofs.YtdidpppjkbgccaaDoor
open Go.RowKit Go.Maps
attribute [local go_sem ↓] Go.wp_at_zero Go.wp_at_succ

theorem goodL_take3 (l : List (Nat × Int)) : goodL (l.take 3) = (goodL l).take 3 := by
  unfold goodL
  rw [← List.map_take, List.take_take, List.take_take]
  rfl
theorem pairC_take (l : List (Nat × Int)) : ∀ k, (pairC l).take (k * 2) = pairC (l.take k) := by
  induction l with
  | nil => intro k; simp [pairC]
  | cons x l ih =>
    intro k
    cases k with
    | zero => simp [pairC]
    | succ k =>
      have hf : pairC (x :: l) = .int .u8 x.1 :: .int .u64 x.2 :: pairC l := rfl
      rw [hf, show (k + 1) * 2 = k * 2 + 1 + 1 from by omega, List.take_succ_cons, List.take_succ_cons, ih]
      rfl
/-- An image's device of 40 lines. -/
theorem image40 {w : World} {s : ByteArray} {F : Nat → Int} (h : ImgS s 40 F) (hF : ∀ i, 0 ≤ F i ∧ F i < 18446744073709551616) :
    Calls Tryd.prog 25 #[.agg #[.string s]] w fun r w' => ∃ (v' : DV) (own' : Nat → Option Role), r = .returned (.tuple #[.pointer (some ⟨v'.db, 0, none⟩), .int .i64 0]) ∧ IsDev w' v' own' (Dev.fresh 40 F) ∧ (∀ k, own' k ≠ none → w.heap.size ≤ k) ∧ Below w.heap.size w w' := by
  refine (imDevice_any h (by omega) (by omega) hF).mono ?_
  rintro r w' ⟨v', own', hr, ⟨f, hf, hd⟩, ho, hb⟩
  exact ⟨v', own', hr, fresh40 hd hf, ho, hb⟩
theorem below_updI {S : Nat → Prop} {a b c : World} (hb : Below a.heap.size a b) (hu : Upd S b c) (hS : ∀ k, k < a.heap.size → ¬ S k) : Below a.heap.size a c :=
  ⟨hu.os.trans hb.os, hu.tape.trans hb.tape, hu.output.trans hb.output, Nat.le_trans hb.size hu.size, fun k hk => (hu.block k (Nat.lt_of_lt_of_le hk hb.size) (hS k hk)).trans (hb.block k hk)⟩
section
variable {w : World}
set_option maxRecDepth 100000 in
set_option maxHeartbeats 64000000 in
theorem redoImages_any (hN : Nib w) (hW : Wr w) (lv : Value) (l0 : List (Nat × Int)) (hbl : RdSl w 2 lv l0.length (pairC l0)) (hol : ∀ e ∈ l0, e.1 < 256 ∧ 0 ≤ e.2 ∧ e.2 < 18446744073709551616) (hml : l0.length ≤ maxLen) (cut : Nat) (hcut : cut < 256) :
    Calls Tryd.prog 5 #[lv, .int .u8 cut] w fun r w' => r = .returned (.bool true) ∧ Below w.heap.size w w' := by
  have HNB := Lib.hid hN; have HWR := Lib.hid hW; clear hN hW
  have HSL := Lib.hid (And.intro hbl (And.intro hol hml))
  obtain ⟨_, sal, scl, rfl, hscl, _⟩ := hbl
  generalize hnl : l0.length = nl at *
  have HLN := Lib.hid hnl
  obtain ⟨k2, hk2⟩ : ∃ k2 : Nat, k2 = cut % 40 := ⟨_, rfl⟩
  have q1 : (cut : Int) % 40 = (k2 : Int) := by omega
  have q2 : (cut : Int).tmod 40 = (k2 : Int) := by rw [Int.tmod_eq_emod_of_nonneg (by omega)]; omega
  have hk40 : k2 < 40 := by omega
  clear hol hml hnl hk2
  go_enter Tryd.func5, Tryd.ntmps5
  go_wp2_with fail
  (with_reducible refine (awake15 HNB.out).mono ?_)
  rintro e w1 ⟨rfl, b1⟩
  have B1 := Lib.hid b1
  clear b1
  go_wp2_with fail
  (with_reducible refine made15.mono ?_)
  rintro e w2 ⟨v, own, lb, rfl, l2⟩
  have L2 := Lib.hid l2; clear l2
  have HC := Lib.hid (current15 L2.out.log.dev D15_rcl.1)
  go_wp2_with fail
  (with_reducible refine HC.out.mono ?_)
  rintro e w3 ⟨rfl, r3, b3⟩
  have R3 : Hid (Rw w1 v lb w2.heap.size w2.heap.size D15 C15 C15 own w3) := ⟨L2.out.next b3, r3, r3, own_none L2.out.log.dev (Nat.le_refl _), own_none L2.out.log.dev (Nat.le_refl _)⟩
  clear r3 b3 L2 HC
  generalize w2.heap.size = go at *
  have HGD := Lib.hid (l15good_any (.slice sal nl scl) l0 (by rw [HLN.out]; exact HSL.out.1.below (B1.out.trans (R3.out.st.bel.mono B1.out.size))) (fun e he => (HSL.out.2.1 e he).1) (by rw [HLN.out]; exact HSL.out.2.2))
  go_wp2_with fail
  (with_reducible refine HGD.out.mono ?_)
  rintro e w4 ⟨ov, rfl, a4⟩
  obtain ⟨oa, oc, hov⟩ := a4.slice
  subst hov
  obtain ⟨l, hl⟩ : ∃ l, l0.take 3 = l := ⟨_, rfl⟩
  have hll : l.length ≤ 3 := by rw [← hl, List.length_take]; omega
  have HGT : Hid (goodL l = (goodL l0).take 3) := by show goodL l = (goodL l0).take 3; rw [← hl, goodL_take3]
  have HBD : Hid (∀ e ∈ l, 0 ≤ e.2 ∧ e.2 < 18446744073709551616) := fun e he => (HSL.out.2.1 e (List.mem_of_mem_take (by rw [hl]; exact he))).2
  have R4 := Lib.hid (R3.out.next a4.bel)
  have A4 := Lib.hid a4.rd
  have hgl0 := goodL_len l0
  obtain ⟨gl, hgl⟩ : ∃ gl, (goodL l0).length = gl := ⟨_, rfl⟩
  rw [hgl] at A4 hgl0 ⊢
  have HGL := Lib.hid hgl
  clear a4 HGD R3 hl hgl
  obtain ⟨wq, hwq⟩ : ∃ x : World, x = w4 := ⟨_, rfl⟩
  subst hwq
  go_upto_if 33 with fail
  go_cut [8] from 33 to 35 (fun u wx => ∃ a c, u = .slice a (goodL l).length c ∧ RdSl wx 2 u (goodL l).length (pairC (goodL l)) ∧ wq = wx)
  case first =>
    by_cases h3 : 3 < gl
    · have h3' : (3 : Int) < gl := by omega
      have ht := RdSl.takeG A4.out 3 (by omega)
      rw [pairC_take, ← HGT.out] at ht
      have hlen : (goodL l).length = 3 := by rw [HGT.out, List.length_take, HGL.out]; omega
      have HT := Lib.hid (And.intro ht hlen)
      clear ht hlen
      have hc : (3 : Int) ≤ oc := by
        obtain ⟨_, _, _, e, hc, _⟩ := A4.out
        cases e
        omega
      go_wp2_with fail
      go_meet
      exact ⟨_, _, by rw [HT.out.2], by rw [HT.out.2]; exact HT.out.1, rfl⟩
    · have h3' : ¬ (3 : Int) < gl := by omega
      have HT : Hid (goodL l = goodL l0) := by show goodL l = goodL l0; rw [HGT.out, List.take_of_length_le (by rw [HGL.out]; omega)]
      go_wp2_with fail
      go_meet
      rw [HT.out, HGL.out]
      exact ⟨_, _, rfl, A4.out, rfl⟩
  case rest =>
  obtain ⟨ca, cc, rfl, hrd, hww⟩ := hcut
  subst hww
  have HGB := Lib.hid (goodL_bd HBD.out)
  have hgl := goodL_len l
  have HWT := Lib.hid (l15writes_any _ (goodL l) hrd (fun e he => by have := (HGB.out e he).1; omega) (by omega))
  clear hrd A4 HGT HGL hgl0
  go_wp2_with fail
  (with_reducible refine HWT.out.mono ?_)
  rintro e w8 ⟨u8, v8, rfl, p8⟩
  have hgw : wrL (goodL l) = gwL l := rfl
  rw [hgw] at p8
  obtain ⟨ua, uc, hu8⟩ := p8.a.slice
  subst hu8
  obtain ⟨va, vc, hv8⟩ := p8.b.slice
  subst hv8
  have R8 := Lib.hid (R4.out.next p8.a.bel)
  have V8 := Lib.hid (And.intro p8.a.rd p8.b.rd)
  have HUN : Hid ((∀ k, (Value.slice ua (gwL l).length uc).ownBlock = some k → own k = none ∧ k < w8.heap.size) ∧ (∀ k, (Value.slice va (gwL l).length vc).ownBlock = some k → own k = none ∧ k < w8.heap.size)) :=
    ⟨fun k hk => ⟨own_none R4.out.st.log.dev (p8.a.new k hk), p8.a.own.lt k hk⟩, fun k hk => ⟨own_none R4.out.st.log.dev (p8.b.new k hk), p8.b.own.lt k hk⟩⟩
  clear p8 hgw HWT R4
  have hwl3 : (lastL (gwL l)).length ≤ 3 := by
    have h1 := lastL_len (gwL l)
    have h2 : (gwL l).length = (goodL l).length := wrL_len _
    have h3 : (goodL l).length ≤ l.length := by unfold goodL; rw [List.length_map, List.length_take]; omega
    omega
  have h96 : ¬ 96 < (lastL (gwL l)).length := by omega
  have hWK := gwL_w HBD.out h96
  have HWL := Lib.hid (And.intro hwl3 h96)
  have HARM := Lib.hid (arm_any R8.out.st.log.dev k2 (by omega))
  have HXA := Lib.hid (D15_rcl.1.arm k2)
  have HDN : Hid ((D15.arm k2).n = D15.n) := by show (D15.arm k2).n = D15.n; unfold Dev.arm; split <;> rfl
  generalize D15.arm k2 = DA at *
  clear hwl3 h96
  go_wp2_with fail
  (with_reducible refine HARM.out.mono ?_)
  rintro e w10 ⟨rfl, p10⟩
  obtain ⟨own10, l10, m10⟩ := R8.out.st.stepM (D' := DA) HDN.out p10
  have R10 := Lib.hid (R8.out.step l10 m10)
  have V10 : Hid (RdSl w10 2 (.slice ua (gwL l).length uc) (gwL l).length (flat (gwL l)) ∧ RdSl w10 2 (.slice va (gwL l).length vc) (gwL l).length (flat (gwL l))) := ⟨V8.out.1.upd m10.upd (fun k hk => by simpa using (HUN.out.1 k hk).1), V8.out.2.upd m10.upd (fun k hk => by simpa using (HUN.out.2 k hk).1)⟩
  have HU10 : Hid (∀ k, (Value.slice va (gwL l).length vc).ownBlock = some k → own10 k = none) := fun k hk => by
    rw [m10.old k (by have := (HUN.out.2 k hk).2; omega)]; exact (HUN.out.2 k hk).1
  have HCM := Lib.hid (commit15 R10.out.st (HNB.out.below (B1.out.trans (R10.out.st.bel.mono B1.out.size))) HXA.out (by omega) C15_40 (.slice ua (gwL l).length uc) l HBD.out V10.out.1)
  obtain ⟨hE1, hE2, hE3, hE4⟩ := HXA.out.commit_cut C15_40 hWK
  have HE := Lib.hid (And.intro hE1 (And.intro hE2 (And.intro hE3 hE4)))
  have HFW := Lib.hid (HXA.out.commit_few hWK HWL.out.1)
  have hpl := rPlanP_len 320 (lastL (gwL l))
  clear p10 l10 m10 HARM HDN R8 V8 HUN hE1 hE2 hE3 hE4
  go_wp2_with fail
  (with_reducible refine HCM.out.mono ?_)
  rintro e w11 (⟨h97, _⟩ | ⟨_, rfl, p11⟩)
  · exact absurd h97 HWL.out.2
  obtain ⟨own11, l11, m11⟩ := R10.out.st.stepM (D' := DA.run 0 (rPlanP 320 (lastL (gwL l)))) (run_n 0 _ DA) p11
  have R11 := Lib.hid (R10.out.step l11 m11)
  have V11 : Hid (RdSl w11 2 (.slice va (gwL l).length vc) (gwL l).length (flat (gwL l))) := V10.out.2.upd m11.upd (fun k hk => by simpa using HU10.out k hk)
  have HAP := Lib.hid (l15applied_any R11.out.ro (Nat.le_refl _) (by unfold maxLen; omega) (.slice va (gwL l).length vc) (gwL l) V11.out (by have := gwL_len l; omega) (fun e he => by have h1 := gwL_ok HBD.out e he; have h2 := allow_out h1.1; exact ⟨h2.1, h2.2.1, h1.2⟩))
  have hNE : (fun i => look (lastL (gwL l)) (C15 i) i) = (fun i => look (gwL l) (C15 i) i) := funext fun i => gwL_look HBD.out _ i
  have HEE := HE.out
  rw [hNE] at HEE
  have hwl96 := HWL.out.1
  have HFF := HFW.out
  generalize DA.run 0 (rPlanP 320 (lastL (gwL l))) = E at *
  generalize (fun i => look (gwL l) (C15 i) i) = N at *
  obtain ⟨hn, hvb, hex, hgood⟩ := HEE
  obtain ⟨hcnt, hfew⟩ := HFF
  have hE8 : E.exec < 1000000 := by omega
  obtain ⟨ε, hε⟩ : ∃ ε, E.err 0 = ε := ⟨_, rfl⟩
  rw [hε] at hgood
  have HG : Hid (∀ ks, ∃ X, Good X (E.img ks) ∧ (X = N ∨ (X = C15 ∧ ε = 3))) := fun ks => by
    rcases hgood with ⟨_, h⟩ | ⟨h3, h⟩
    · exact ⟨N, h ks, .inl rfl⟩
    · rcases h ks with h | h
      · exact ⟨C15, h, .inr ⟨rfl, h3⟩⟩
      · exact ⟨N, h, .inl rfl⟩
  have HD : Hid (E.n = 40 ∧ E.VB ∧ E.exec < 1000000) := ⟨hn, hvb, hE8⟩
  rw [hε]
  clear p11 l11 m11 hNE HE HFW hn hex hgood hε HCM V10 V11 R10 HU10 hWK HXA hpl hwl96
  go_wp2_with fail
  (with_reducible refine HAP.out.mono ?_)
  rintro e w12 ⟨gn, cn, rfl, hcn, hcn2, r12, hg12, b12⟩
  have R12 : Hid (Rw w1 v lb go gn E C15 N own11 w12) := ⟨R11.out.st.next b12, R11.out.ro.below b12, r12, R11.out.fo, own_none R11.out.st.log.dev hg12⟩
  clear r12 hg12 b12 HAP R11
  have hct := count_any R12.out.st.log.dev HD.out.2.1 (by omega) (by omega) (fun l _ => by have := hfew l; omega)
  have hpp := prodN_pos (basesL E) (basesL_pos E)
  have HCA := Lib.hid (fun wx (h : IsDev wx v own11 E) (n : Nat) (hn : n < prodN (basesL E)) => csAt_any h HD.out.2.1 (by have := HD.out.2.2; omega) n hn (by omega) (fun l _ => by have := hfew l; omega))
  obtain ⟨P, hP⟩ : ∃ P, prodN (basesL E) = P := ⟨_, rfl⟩
  rw [hP] at hct hpp hcnt HCA
  have HCT := Lib.hid hct
  clear hct hP hfew hE8
  go_wp2_with fail
  (with_reducible refine HCT.out.mono ?_)
  rintro r w13 ⟨rfl, b13⟩
  have R13 := Lib.hid (R12.out.next b13)
  clear b13 R12 HCT
  have q1 : ¬ ((P : Nat) : Int) < 1 := by omega
  have q2 : ¬ (256 : Int) < (P : Nat) := by omega
  go_wp2_with fail
  go_loopw [15, 16, 17, 18, 19, 20, 68] (fun _ _ _ _ _ _ y wr => ∃ i : Nat, i ≤ P ∧ y = .int .u64 i ∧ Below w13.heap.size w13 wr) (fun _ _ _ _ _ _ y _ => P - (intOf y).toNat)
  case atStart => exact ⟨0, by omega, rfl, Below.refl _ _⟩
  case round =>
    obtain ⟨i, hi, rfl, hbz⟩ := hrel
    rename World => wz
    have Z := Lib.hid (R13.out.next hbz); have BZ := Lib.hid hbz
    clear hbz
    by_cases hip : i < P
    · have hip' : (i : Int) < P := by omega
      have HC1 := Lib.hid (HCA.out _ Z.out.st.log.dev i hip)
      unfold AtPost at HC1
      go_wp2_with fail
      (with_reducible refine HC1.out.mono ?_)
      rintro r w14 ⟨ks, s, _, rfl, himg, b14⟩
      rw [HD.out.1] at himg
      have B14 : Hid (Below wz.heap.size wz (w14.alloc (.cells #[.string s] 62))) := b14.trans ((below_alloc _ _).mono b14.size)
      have X := Lib.hid (Blk.new w14 #[.string s] 62)
      have dx := X.out.cell (i := 0) (v := .string s) rfl
      have hf := HD.out.2.1.img ks
      have HDV := Lib.hid (image40 (w := w14.alloc (.cells #[.string s] 62)) himg hf)
      obtain ⟨X0, hX, hXN⟩ := HG.out ks
      generalize E.img ks = f at *
      have HF := Lib.hid (And.intro hf (And.intro hX hXN))
      clear himg b14 HC1 hf hX hXN
      go_wp2_with fail
      (with_reducible refine HDV.out.mono ?_)
      rintro r w15 ⟨v2, own15, rfl, d15, ho15, b15⟩
      have DX := Lib.hid d15
      have B15 := Lib.hid (B14.out.trans (b15.mono B14.out.size))
      have HO15 : Hid ((∀ k, own15 k ≠ none → wz.heap.size ≤ k) ∧ wz.heap.size ≤ w15.heap.size) := ⟨fun k hk => Nat.le_trans B14.out.size (ho15 k hk), B15.out.size⟩
      have HOP := Lib.hid (open15 d15 rfl)
      clear d15 ho15 b15 HDV B14 dx X
      go_wp2_with fail
      (with_reducible refine (thread0_any DX.out).mono ?_)
      rintro e w' ⟨rfl, rfl⟩
      go_wp2_with fail
      (with_reducible refine HOP.out.mono ?_)
      rintro e w16 ⟨rfl, l16, b16⟩
      have B16 := Lib.hid (B15.out.trans (b16.mono B15.out.size))
      have R16 : Hid (Rw w1 v2 w15.heap.size go gn (Dev.fresh 40 f) C15 N own15 w16) := Z.out.other B16.out l16 HO15.out.1 HO15.out.2
      clear l16 b16 HOP B15 DX Z
      generalize w15.heap.size = lb2 at *
      have HRC := Lib.hid (recov15 (X := X0) R16.out.st (HNB.out.below (B1.out.trans (R16.out.st.bel.mono B1.out.size))) (fresh_rcl HF.out.1) (by omega) HF.out.2.1)
      go_wp2_with fail
      (with_reducible refine HRC.out.mono ?_)
      rintro e w19 ⟨own19, D19, m19, e19, rfl, l19, n19, hn19, hvb19, hex19, hor⟩
      obtain ⟨he, hout⟩ : e19 = 0 ∧ OutR D19.pers X0 := by
        rcases hor with h | ⟨h, _⟩
        · exact h
        · cases h
      subst he
      have FN : Hid (Fin w1 v2 lb2 go gn D19 C15 N X0 own19 w19) := ⟨R16.out.step l19 n19, hn19, hvb19, hout⟩
      have B19 : Hid (Below wz.heap.size wz w19) := below_updI B16.out n19.upd (fun k hk e => by have := HO15.out.1 k e; omega)
      clear l19 n19 hn19 hvb19 hex19 hor hout HRC R16 B16 HO15
      go_upto_region 26 with fail
      go_cut [121] from 102 to 121 (fun u wx => u = .bool false ∧ Below w19.heap.size w19 wx)
      case first =>
        have HP := Lib.hid (persisted15 FN.out.rw'.st.log.dev FN.out.n FN.out.vb)
        go_wp2_with fail
        (with_reducible refine HP.out.mono ?_)
        rintro e w5 ⟨rfl, r5, b5⟩
        have F5 := Lib.hid (FN.out.next b5)
        have B5 := Lib.hid b5
        have W5 := Lib.hid (HWR.out.below (B1.out.trans (F5.out.rw'.st.bel.mono B1.out.size)))
        have HO := Lib.hid (l15outside_any (ca := 2560) (cb := cn) W5.out r5 F5.out.rw'.rn (Nat.le_refl _) hcn)
        obtain ⟨ob, hob⟩ : ∃ ob, outR D19.pers N = ob := ⟨_, rfl⟩
        have HXO : Hid (ob = true ∨ (X0 = C15 ∧ ε = 3)) := by
          rcases HF.out.2.2 with h | h
          · left; rw [← hob, ← h]; exact outR_of F5.out.out.2
          · exact .inr h
        rw [hob] at HO
        clear hob r5 b5 W5 HP
        go_wp2_with fail
        (with_reducible refine HO.out.mono ?_)
        rintro e w6 ⟨rfl, q6, rfl⟩
        have F6 := Lib.hid (F5.out.next (drewN_below _ q6))
        have B6 := Lib.hid (B5.out.trans ((drewN_below _ q6).mono B5.out.size))
        clear HO F5 B5
        generalize w5.drewN q6 = w6 at *
        cases ob
        · obtain ⟨hXC, hε⟩ : X0 = C15 ∧ ε = 3 := by
            rcases HXO.out with h | h
            · cases h
            · exact h
          subst hε
          have HQ : Hid (outR D19.pers C15 = true) := outR_of (by rw [← hXC]; exact F6.out.out.2)
          clear hXC HXO
          go_wp2_with fail
          (with_reducible refine (persisted15 F6.out.rw'.st.log.dev F6.out.n F6.out.vb).mono ?_)
          rintro e w7 ⟨rfl, r7, b7⟩
          have F7 := Lib.hid (F6.out.next b7)
          have B7 := Lib.hid (B6.out.trans (b7.mono B6.out.size))
          have W7 := Lib.hid (HWR.out.below (B1.out.trans (F7.out.rw'.st.bel.mono B1.out.size)))
          have HO := Lib.hid (l15outside_any (ca := 2560) (cb := 2560) W7.out r7 F7.out.rw'.ro (Nat.le_refl _) (Nat.le_refl _))
          rw [HQ.out] at HO
          clear r7 b7 W7 F6
          go_wp2_with fail
          (with_reducible refine HO.out.mono ?_)
          rintro e w8 ⟨rfl, q8, rfl⟩
          have B8 := Lib.hid (B7.out.trans ((drewN_below _ q8).mono B7.out.size))
          go_wp2_with fail
          go_meet
          exact ⟨rfl, B8.out⟩
        · go_wp2_with fail
          go_meet
          exact ⟨rfl, B6.out⟩
      case rest =>
      obtain ⟨rfl, b20⟩ := hcut
      obtain ⟨w20, hw20⟩ : ∃ y : World, y = wc := ⟨_, rfl⟩
      subst hw20
      have B20 := Lib.hid (BZ.out.trans ((B19.out.trans (b20.mono B19.out.size)).mono BZ.out.size))
      clear b20 B19 FN BZ
      have g1 : IntKind.u64.wrap ((i : Int) + 1) = (i : Int) + 1 := IntWalk.u64_in _ (by omega)
      go_wp2_with fail
      go_roundw
      case rel => exact ⟨i + 1, by omega, by go_num, B20.out⟩
      case measure => simp [intOf]; omega
    · obtain rfl : i = P := by omega
      go_wp2_with fail
      go_ret
      exact ⟨rfl, B1.out.trans (Z.out.st.bel.mono B1.out.size)⟩
end
end Go.Proofs.YtdidpppjkbgccaaDoor
