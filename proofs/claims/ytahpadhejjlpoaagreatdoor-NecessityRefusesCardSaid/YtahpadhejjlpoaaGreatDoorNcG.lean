/- The walks of Holds and Confirm. -/
import Derived.Test.YtahpadhejjlpoaaGreatDoorNcE
import Derived.Test.YtahpadhejjlpoaaGreatDoorDevK
namespace Go.Proofs.YtahpadhejjlpoaaGreatDoor
open Go.RowKit Go.Maps
attribute [local go_sem ↓] Go.wp_at_zero Go.wp_at_succ

section
variable {w : World} {v : DV} {own : Nat → Option Role} {D0 : Dev}
/-- What Holds answers, by the code of the search. -/
def HoPost (code : Nat) (r : Ending) : Prop :=
  (code = 2 ∧ r = .returned (.tuple #[.bool false, .int .i64 9])) ∨ (code ≠ 2 ∧ r = .returned (.tuple #[.bool (decide (code = 1)), .int .i64 0]))
set_option maxHeartbeats 2000000 in
theorem ncHolds_any (n : Nat) (pv : Value) (q : List (Nat × Nat × Int)) (h : RdSl w 3 pv q.length (refP q)) (hq : ∀ e ∈ q, OkQ n e) (hpl : Plain54 q) (hl : q.length ≤ 60) (h4 : 4 ≤ n) (hn : n ≤ 4096) (L : Nat) (hL0 : 1 ≤ L) (hL : L ≤ 9223372036854775807) :
    Calls Tryz.prog 6 #[.iface 44 (.agg #[pv]), .int .i64 n, .int .i64 L] w fun r w' => HoPost (fnd (Dev.fresh n (fun _ => 0)) q L).2.2 r ∧ Below w.heap.size w w' := by
  have HF := Lib.hid (ncFind_any n pv q h hq hpl hl h4 hn (-1) L ⟨by omega, by omega⟩ (by omega))
  have e1 : qOf (-1) q = q := by simp [qOf]
  have e2 : isOf (-1) q = true := by simp [isOf]
  have HL0 : Hid (¬ (L : Int) < 1) := by show ¬ (L : Int) < 1; omega
  obtain ⟨_, a, c, rfl, _, _⟩ := h
  unfold FiPost at HF
  rw [e1, e2, show ((L : Int)).toNat = L from rfl] at HF
  obtain ⟨D0, hD0⟩ : ∃ D0, Dev.fresh n (fun _ => 0) = D0 := ⟨_, rfl⟩
  rw [hD0] at HF ⊢
  obtain ⟨m, hm⟩ : ∃ m, q.length = m := ⟨_, rfl⟩
  rw [hm] at HF ⊢
  clear hq hpl hm hD0 e1 e2
  go_enter Tryz.func6, Tryz.ntmps6
  go_wp2_with fail
  (with_reducible refine HF.out.mono ?_)
  rintro r w1 ⟨⟨h1, _⟩ | ⟨_, hp⟩, b1⟩
  · exact absurd h1 (by have := HL0.out; omega)
  have B1 := Lib.hid b1
  clear b1 HF
  rcases hp with ⟨h1, _⟩ | ⟨_, h2, rfl⟩ | ⟨_, h2, rfl⟩ | ⟨_, k, i, g, h2, _, _, rfl, _⟩
  · cases h1
  · have X := Lib.hid h2
    clear h2
    go_wp2_with fail
    go_ret2
    exact ⟨.inl ⟨X.out, rfl⟩, B1.out.trans ((below_alloc _ _).mono B1.out.size)⟩
  · have X := Lib.hid h2
    clear h2
    go_wp2_with fail
    go_ret2
    exact ⟨.inr ⟨by rw [X.out]; decide, by rw [X.out]; rfl⟩, B1.out.trans ((below_alloc _ _).mono B1.out.size)⟩
  · have X : Hid ((fnd D0 q L).2.2 = 0) := by show (fnd D0 q L).2.2 = 0; rw [h2]
    clear h2
    go_wp2_with fail
    go_ret2
    exact ⟨.inr ⟨by rw [X.out]; decide, by rw [X.out]; rfl⟩, B1.out.trans ((below_alloc _ _).mono B1.out.size)⟩
theorem goodF_ch {D : Dev} {cs : List Int} {ks : Nat → Nat} (hn : 4 ≤ D.n) (h : ∀ i l : Nat, D.dirtyL[i]? = some l → ks l = chD D cs i l) (e : Bool) : goodF (D.img ks) e = goodF (D.img (chK D cs)) e :=
  goodF_congr (fun i hi => by
    unfold Dev.img
    by_cases hh : D.hist (i / 8) = []
    · rw [hh, List.take_nil, List.take_nil]
    · have hm := (dirty_mem D (i / 8)).2 ⟨by omega, hh⟩
      have hlt := List.idxOf_lt_length_iff.2 hm
      have he : D.dirtyL[D.dirtyL.idxOf (i / 8)]? = some (i / 8) := by rw [List.getElem?_eq_getElem hlt, List.getElem_idxOf hlt]
      rw [h _ _ he]
      rfl) e
/-- What Confirm answers. -/
def CfPost (D0 : Dev) (Q : List (Nat × Nat × Int)) (is : Bool) (k : Int) (cs : List Int) (r : Ending) : Prop :=
  ((is = false ∨ k < 0 ∨ (Q.length : Int) < k) ∧ r = .returned (.tuple #[.bool false, .int .i64 2])) ∨
  (is = true ∧ ∃ kn : Nat, k = kn ∧ kn ≤ Q.length ∧ r = .returned (.tuple #[.bool (!goodF ((D0.run 0 (Q.take kn)).img (chK (D0.run 0 (Q.take kn)) cs)) (decide (kn = Q.length))), .int .i64 0]))
set_option maxRecDepth 100000 in
set_option maxHeartbeats 8000000 in
theorem ncConfirm_any (n : Nat) (pv : Value) (q : List (Nat × Nat × Int)) (h : RdSl w 3 pv q.length (refP q)) (hq : ∀ e ∈ q, OkQ n e) (hpl : Plain54 q) (hl : q.length ≤ 60) (h4 : 4 ≤ n) (hn : n ≤ 4096) (f k : Int) (_hf0 : -9223372036854775808 ≤ f ∧ f ≤ 9223372036854775807)
    (cv : Value) (cs : List Int) (hc : RdSl w 1 cv cs.length (cs.map fun x => .int .u8 x)) (hcb : ∀ x ∈ cs, 0 ≤ x ∧ x < 256) (hcl : cs.length ≤ 1000000) :
    Calls Tryz.prog 7 #[.iface 44 (.agg #[pv]), .int .i64 n, .agg #[.int .i64 f, .int .i64 k, cv]] w fun r w' => CfPost (Dev.fresh n (fun _ => 0)) (qOf f q) (isOf f q) k cs r ∧ Below w.heap.size w w' := by
  obtain ⟨ca, cc, hcv⟩ : ∃ ca cc, cv = .slice ca cs.length cc := by obtain ⟨_, a, c, e, _, _⟩ := hc; exact ⟨a, c, e⟩
  subst hcv
  have HC := Lib.hid hc; have HCB := Lib.hid hcb
  obtain ⟨cm, hcm⟩ : ∃ cm, cs.length = cm := ⟨_, rfl⟩
  have HCM := Lib.hid hcm
  rw [hcm] at HC hcl ⊢
  have K0 := Lib.hid (Blk.new w #[.int .i64 f, .int .i64 k, .slice ca cm cc] 28)
  have B0 := Lib.hid (below_alloc w (.cells #[.int .i64 f, .int .i64 k, .slice ca cm cc] 28))
  have HTryz := Lib.hid (ncPrepare_any pv q (h.alloc (.cells #[.int .i64 f, .int .i64 k, .slice ca cm cc] 28)) (fun e he => ⟨(hq e he).lo, (hq e he).hi⟩) hpl (by omega) n (by omega) hn f)
  have HQ : Hid (∀ e ∈ qOf f q, OkQ n e) := Lib.hid (fun e he => hq e (qOf_mem e he))
  have hql := qOf_len f q
  obtain ⟨_, a, c, rfl, _, _⟩ := h
  obtain ⟨mq, hmq⟩ : ∃ mq, q.length = mq := ⟨_, rfl⟩
  rw [hmq] at HTryz hl hql ⊢
  clear hq hpl hmq hc hcb hcm
  unfold PpPost at HTryz
  obtain ⟨Q, hQ⟩ : ∃ Q, qOf f q = Q := ⟨_, rfl⟩
  rw [hQ] at HTryz HQ hql ⊢
  obtain ⟨is, his⟩ : ∃ is, isOf f q = is := ⟨_, rfl⟩
  rw [his] at HTryz ⊢
  clear hQ his
  have HD0 : Hid ((Dev.fresh n (fun _ => 0)).n = n ∧ (Dev.fresh n (fun _ => 0)).exec = 0 ∧ (Dev.fresh n (fun _ => 0)).VB) := ⟨rfl, rfl, fresh_vb n (fun i => by omega)⟩
  obtain ⟨D0, hD0⟩ : ∃ D0, Dev.fresh n (fun _ => 0) = D0 := ⟨_, rfl⟩
  rw [hD0] at HTryz HD0 ⊢
  clear hD0
  have HRV : Hid (∀ k, (D0.run 0 (Q.take k)).VB ∧ (D0.run 0 (Q.take k)).exec ≤ Q.length ∧ (D0.run 0 (Q.take k)).n = n) := fun k => by
    have h1 := D0.run_exec 0 (Q.take k)
    have h2 := List.length_take_le' k Q
    rw [HD0.out.2.1] at h1
    refine ⟨Dev.VB.run _ HD0.out.2.2 0 (fun e he h1 => ?_), by omega, by rw [run_n]; exact HD0.out.1⟩
    have := HQ.out e (List.mem_of_mem_take he)
    exact ⟨this.v0, this.v1⟩
  have hmg := meth_smGood (.slice a mq c)
  obtain ⟨M, hM⟩ : ∃ M, Q.length = M := ⟨_, rfl⟩
  have HM := Lib.hid hM
  rw [hM] at HTryz hql HRV
  clear hM
  go_enter Tryz.func7, Tryz.ntmps7
  go_wp2_with fail
  (with_reducible refine HTryz.out.mono ?_)
  rintro r w1 ⟨⟨hi1, rfl⟩ | ⟨hi1, v, own, sv, rfl, d1, r1, o1, s1⟩, b1⟩
  · subst hi1
    have B1 := Lib.hid (B0.out.trans (b1.mono B0.out.size))
    clear b1
    go_wp2_with fail
    go_ret2
    exact ⟨.inl ⟨.inl rfl, rfl⟩, B1.out⟩
  · subst hi1
    obtain ⟨sa, sc, hsv⟩ : ∃ sa sc, sv = .slice sa M sc := by obtain ⟨_, a, c, e, _, _⟩ := r1; exact ⟨a, c, e⟩
    subst hsv
    have hMc : M ≤ sc := by obtain ⟨_, _, _, e, h1, _⟩ := r1; cases e; exact h1
    have BB := Lib.hid (B0.out.trans (b1.mono B0.out.size))
    have K1 := Lib.hid (K0.out.below b1)
    have S1 : Hid (FiS w v own D0 Q w1 w.heap.size #[.int .i64 f, .int .i64 k, .slice ca cm cc] 28 0 w1) := Lib.hid (FiS.start d1 K1.out BB.out (fun j hj => by have := o1 j hj; rw [World.size_alloc] at this; omega) (Nat.le_refl _))
    have R1 := Lib.hid r1; have S2 := Lib.hid s1
    have e0 := K1.out.cell (i := 0) rfl
    have e1 := K1.out.cell (i := 1) rfl
    have e2 := K1.out.cell (i := 2) rfl
    clear d1 r1 o1 s1 b1 K0 B0 HTryz
    by_cases hk0 : k < 0
    · go_wp2_with fail
      go_ret2
      exact ⟨.inl ⟨.inr (.inl hk0), rfl⟩, BB.out⟩
    · by_cases hkM : (M : Int) < k
      · go_wp2_with fail
        go_ret2
        exact ⟨.inl ⟨.inr (.inr (by rw [HM.out]; exact hkM)), rfl⟩, BB.out⟩
      · obtain ⟨kn, rfl⟩ : ∃ kn : Nat, k = kn := ⟨k.toNat, by omega⟩
        have hknM : kn ≤ M := by omega
        have hkM2 : ¬ M < kn := by omega
        have hk02 : ¬ (kn : Int) < 0 := by omega
        have hk03 : decide ((kn : Int) < 0) = false := by simp
        have hk04 : decide (M < kn) = false := by simp; omega
        go_wp2_with fail
        go_loopw [11, 37] (fun _ y wr => ∃ i : Nat, i ≤ kn ∧ y = .int .i64 i ∧ FiS w v own D0 Q w1 w.heap.size #[.int .i64 f, .int .i64 kn, .slice ca cm cc] 28 i wr) (fun _ y _ => kn - (intOf y).toNat)
        case atStart => exact ⟨0, by omega, rfl, S1.out⟩
        case round =>
          clear S1 e0 e1 e2
          obtain ⟨i, hi, rfl, hst⟩ := hrel
          rename World => wr
          obtain ⟨own1, d1, o1, u1⟩ := hst.post
          have S := Lib.hid hst; have D1 := Lib.hid d1; have O1 := Lib.hid o1; have U1 := Lib.hid u1
          clear hst d1 o1 u1
          by_cases hik : i < kn
          · have hik' : (i : Int) < kn := by omega
            have hiM : i < M := by omega
            obtain ⟨e, hge⟩ : ∃ e, Q[i]? = some e := ⟨_, List.getElem?_eq_getElem (by rw [HM.out]; exact hiM)⟩
            obtain ⟨_, a', c', e', _, hE⟩ := R1.out.upd U1.out (fun g hg => by simpa using S2.out g hg)
            cases e'
            have hg := instrC_get Q i e hge
            obtain ⟨fb, fo, rfl, hE2⟩ := rd_at hE hg.1
            have q1 := hE2 _ _ hg.1; have q2 := hE2 _ _ hg.2.1; have q3 := hE2 _ _ hg.2.2
            have hok := HQ.out e (List.mem_of_getElem? hge)
            have hone : RdSl wr 3 (.slice (some ⟨fb, fo + i * 3, none⟩) 1 (sc - i)) 1 (instrC [e]) := by
              refine ⟨rfl, _, _, rfl, by omega, .inr ⟨fb, fo + i * 3, rfl, fun j u hu => ?_⟩⟩
              have hj : j < 3 := by
                rcases Nat.lt_or_ge j 3 with h | h
                · exact h
                · rw [List.getElem?_eq_none (by simp [instrC]; omega)] at hu; cases hu
              obtain rfl | rfl | rfl : j = 0 ∨ j = 1 ∨ j = 2 := by omega
              · cases hu; exact q1
              · cases hu; rw [Nat.add_assoc]; exact q2
              · cases hu; rw [Nat.add_assoc]; exact q3
            have hofb : own1 fb = none := by
              have h1 := S2.out fb rfl
              have h2 : fb < w1.heap.size := by
                have hrr := R1.out
                obtain ⟨_, a2, c2, e2, _, hE3⟩ := hrr
                cases e2
                obtain ⟨b3, o3, e3, hE4⟩ := rd_at hE3 hg.1
                cases e3
                exact World.block_lt_of_cell? _ _ (hE4 _ _ hg.1)
              rw [O1.out fb h2]; exact h1
            have HRUN := Lib.hid (run_any (w := wr.drew) (v := v) (own := own1) (D := D0.run 0 (Q.take i)) (j := 0) D1.out.drew (by omega) (.slice (some ⟨fb, fo + i * 3, none⟩) 1 (sc - i)) [e] hone.drew (fun g hg => by simp [Value.ownBlock] at hg; subst hg; exact hofb) (fun x hx => by
              rw [List.mem_singleton] at hx
              subst hx
              exact ⟨hok.lo, hok.hi, by have := hok.lt; omega⟩) (by simp) (by have := (HRV.out i).2.1; show _ + 1 < _; omega))
            have HSR := Lib.hid (fun (wz : World) (hp : DPost v own1 wr.drew ((D0.run 0 (Q.take i)).run 0 [e]) wz) => FiS.run (w := w) (wr := wr) S.out O1.out U1.out hge (by obtain ⟨o9, d9, e9, u9⟩ := hp; exact ⟨o9, d9, e9, ⟨u9.os, u9.tape, u9.output, u9.size, u9.block⟩⟩))
            have HTH := Lib.hid (thrZ_any D1.out.drew)
            have hkc : (i : Int) + 1 ≤ sc := by omega
            obtain ⟨ek, hek2⟩ : ∃ ek, ((D0.run 0 (Q.take i)).run 0 [e]).err 0 = ek := ⟨_, rfl⟩
            rw [hek2] at HRUN
            have hck : ¬ sc = i := by omega
            have gk1 : IntKind.i64.wrap ((i : Int) + 1) = (i : Int) + 1 := IntWalk.i64_in _ (by omega)
            have hsl1 := fun wx => slice_one fb fo M sc i (by omega) wx
            have hsl2 := fun wx => sliceAt_one fb fo M sc i (by omega) wx
            clear hE hE2 hge hg q1 q2 q3 hone hofb hek2 D1 U1
            go_wp2_with fail
            go_region_with (first | (go_at_call 13; (with_reducible refine HTH.out.mono ?_); rintro e w' ⟨rfl, rfl⟩) | (go_at_call 12; (with_reducible refine HRUN.out.mono ?_); rintro e w3 ⟨rfl, hp⟩; have S3 := Lib.hid (HSR.out _ hp); clear hp))
            all_goals
              go_wp2_with fail
              go_roundw
              case rel => exact ⟨i + 1, by omega, by go_num, S3.out⟩
              case measure => simp [intOf]; omega
          · obtain rfl : i = kn := by omega
            obtain ⟨hv1, hx1, hn1⟩ := HRV.out i
            have KR := Lib.hid S.out.res
            have k1 := KR.out.cell (i := 1) (v := .int .i64 i) rfl
            have k2 := KR.out.cell (i := 2) (v := .slice ca cm cc) rfl
            have HIM := Lib.hid (imageN_any D1.out hv1 (.slice ca cm cc) cs (by rw [HCM.out]; exact HC.out.below S.out.bel) HCB.out (by rw [HCM.out]; unfold maxLen; omega) (by omega))
            have HVI := Lib.hid hv1
            have HFR := Lib.hid (fun (wx : World) (g : Nat) (ks : Nat → Nat) (hr : Row wx g (64 * n) 5 (fun j => .int .u8 (byteAt ((D0.run 0 (Q.take i)).img ks) j))) => devFrom_any (w := wx) (.slice (some ⟨g, 0, none⟩) (64 * n) (64 * n)) n (byteAt ((D0.run 0 (Q.take i)).img ks)) (bytesRd hr) (by omega) hn (fun j _ => by
              unfold byteAt
              exact ⟨Int.emod_nonneg _ (by omega), Int.emod_lt_of_pos _ (by omega)⟩))
            obtain ⟨eb, heb⟩ : ∃ eb, ((i : Int) == (M : Int)) = eb := ⟨_, rfl⟩
            have HDE : Hid (decide (i = M) = eb) := by
              show decide (i = M) = eb
              rw [← heb]
              by_cases hkm : i = M
              · subst hkm; simp
              · have : ¬ (i : Int) = (M : Int) := by omega
                simp [hkm, this]
            have HGD := Lib.hid (fun (wx : World) (v2 : DV) (own2 : Nat → Option Role) (F : Nat → Int) (hF : ∀ i, 0 ≤ F i ∧ F i < 18446744073709551616) (hd : IsDev wx v2 own2 (Dev.fresh n F)) => smGood_any hd (fresh_vb n hF) (by show 3 ≤ n; omega) a mq c eb)
            have HGC := Lib.hid (fun (ks : Nat → Nat) (hk : ∀ j l : Nat, (D0.run 0 (Q.take i)).dirtyL[j]? = some l → ks l = chD (D0.run 0 (Q.take i)) cs j l) => goodF_ch (by omega) hk eb)
            unfold ImPostN at HIM
            rw [hn1] at HIM
            obtain ⟨DD, hDD⟩ : ∃ DD, D0.run 0 (Q.take i) = DD := ⟨_, rfl⟩
            have HDD := Lib.hid hDD
            rw [hDD] at HIM HVI HFR HGC
            clear hDD hv1 hx1 hn1 D1 U1
            go_wp2_with fail
            (with_reducible refine HIM.out.mono ?_)
            rintro r w2 ⟨ks, g, z1, z2, rfl, z3, b2⟩
            have Z1 := Lib.hid z1.2
            have B2 := Lib.hid (S.out.bel.trans (b2.mono S.out.bel.size))
            have K2 := Lib.hid (KR.out.below b2)
            have HFR1 := Lib.hid (HFR.out w2 g ks z3)
            clear z1 z2 z3 b2 k1 k2 HIM HFR
            go_wp2_with fail
            (with_reducible refine HFR1.out.mono ?_)
            rintro r w3 ⟨v2, own2, rfl, d2, _, b3⟩
            have D2 := Lib.hid (d2.words (g := DD.img ks) (fun j hj => by
              have := wordsOf_bytes (DD.img ks) (8 * n) j hj (HVI.out.img ks j)
              rwa [show 8 * (8 * n) = 64 * n by omega] at this))
            have B3 := Lib.hid (B2.out.trans (b3.mono B2.out.size))
            have K3 := Lib.hid (K2.out.below b3)
            have k1 := K3.out.cell (i := 1) (v := .int .i64 i) rfl
            have HGD1 := Lib.hid (HGD.out w3 v2 own2 (DD.img ks) (fun j => HVI.out.img ks j) D2.out)
            have HGC1 := Lib.hid (HGC.out ks Z1.out)
            obtain ⟨gv, hgv⟩ : ∃ gv, goodF (DD.img ks) eb = gv := ⟨_, rfl⟩
            have HGV : Hid (goodF (DD.img (chK DD cs)) eb = gv) := Lib.hid (HGC1.out.symm.trans hgv)
            have HGE2 : Hid (goodF (Dev.fresh n (DD.img ks)).pers eb = gv) := Lib.hid hgv
            rw [HGE2.out] at HGD1
            clear hgv d2 b3 HFR1 HGD HGC HGC1
            go_wp2_with fail
            (with_reducible refine HGD1.out.mono ?_)
            rintro r w4 ⟨rfl, b4⟩
            have B4 := Lib.hid (B3.out.trans (b4.mono B3.out.size))
            clear b4
            go_wp2_with fail
            go_ret2
            refine ⟨.inr ⟨rfl, i, rfl, by rw [HM.out]; omega, ?_⟩, B4.out⟩
            rw [HDD.out, HM.out, HDE.out, HGV.out]
            rfl
end
end Go.Proofs.YtahpadhejjlpoaaGreatDoor
