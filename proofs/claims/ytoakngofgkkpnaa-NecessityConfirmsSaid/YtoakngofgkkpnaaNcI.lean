/- The walk of the law NecessityConfirms. -/
import Derived.Test.YtoakngofgkkpnaaNcM
import Derived.Test.YtoakngofgkkpnaaHeldM
namespace Go.Proofs.Ytoakngofgkkpnaa
open Go.RowKit Go.Maps
attribute [local go_sem ↓] Go.wp_at_zero Go.wp_at_succ

section
variable {w : World}
/-- The first nine bytes of a choice. -/
theorem choice_nine (cv : Value) (cs : List Int) (hc : RdSl w 1 cv cs.length (cs.map fun x => .int .u8 x)) (h9 : 9 < cs.length) :
    ∃ b o cc, cv = .slice (some ⟨b, o, none⟩) cs.length cc ∧ cs.length ≤ cc ∧ RdSl w 1 (.slice (some ⟨b, o, none⟩) 9 cc) 9 ((cs.take 9).map fun x => .int .u8 x) := by
  have hne : (cs.map fun x => Value.int .u8 x) ≠ [] := by intro e; have := congrArg List.length e; simp at this; subst this; simp at h9
  obtain ⟨b, o, c, e, h1, h2⟩ := rd_some hc hne
  refine ⟨b, o, c, e, h1, ?_⟩
  refine ⟨by rw [List.length_map, List.length_take]; omega, _, _, rfl, by omega, .inr ⟨b, o, rfl, fun j u hu => h2 j u ?_⟩⟩
  rw [List.map_take, List.getElem?_take] at hu
  split at hu
  · exact hu
  · cases hu
set_option maxRecDepth 100000 in
set_option maxHeartbeats 8000000 in
theorem necConfirms_any (lv : Value) (l : List (Int × Nat × Int)) (h : RdSl w 3 lv l.length (argP l)) (hok : ∀ e ∈ l, ArgOk e) (hl : l.length ≤ 9223372036854775807) (f k : Int) (hf : -9223372036854775808 ≤ f ∧ f ≤ 9223372036854775807) (hk : -9223372036854775808 ≤ k ∧ k ≤ 9223372036854775807)
    (cv : Value) (cs : List Int) (hc : RdSl w 1 cv cs.length (cs.map fun x => .int .u8 x)) (hcb : ∀ x ∈ cs, 0 ≤ x ∧ x < 256) :
    Calls Try.prog 5 #[lv, .agg #[.int .i64 f, .int .i64 k, cv]] w fun r w' => r = .returned (.bool true) ∧ Below w.heap.size w w' := by
  obtain ⟨ca, cc, hcv⟩ : ∃ ca cc, cv = .slice ca cs.length cc := by obtain ⟨_, a, c, e, _, _⟩ := hc; exact ⟨a, c, e⟩
  subst hcv
  have K0 := Lib.hid (Blk.new w #[.int .i64 f, .int .i64 k, .slice ca cs.length cc] 36)
  have B0 := Lib.hid (below_alloc w (.cells #[.int .i64 f, .int .i64 k, .slice ca cs.length cc] 36))
  have HA := Lib.hid (fun (wx : World) => awake54 (w := wx))
  have HS := Lib.hid (fun (wx : World) (hx : RdSl wx 3 lv l.length (argP l)) => short_any lv l hx hok hl)
  have H := Lib.hid h
  have hoq : ∀ e ∈ shortL l, OkQ 4 e := fun e he => by
    obtain ⟨x, hx, rfl⟩ := List.mem_map.1 he
    exact short_ok (hok x (List.mem_of_mem_take hx))
  have hpq := short_plain (l := l)
  have hlq := short_len l
  obtain ⟨_, a, c, rfl, _, _⟩ := h
  obtain ⟨m, hm⟩ : ∃ m, l.length = m := ⟨_, rfl⟩
  rw [hm] at HS H ⊢
  obtain ⟨q, hq⟩ : ∃ q, shortL l = q := ⟨_, rfl⟩
  rw [hq] at HS hoq hpq hlq
  clear hm hq hok
  have HCF := Lib.hid (fun (wx : World) (pv : Value) (hx : RdSl wx 3 pv q.length (refP q)) (cv : Value) (cs : List Int) (hc : RdSl wx 1 cv cs.length (cs.map fun x => .int .u8 x)) (hcb : ∀ x ∈ cs, 0 ≤ x ∧ x < 256) (hcl : cs.length ≤ 1000000) => ncConfirm_any 4 pv q hx hoq hpq (by omega) (by omega) (by omega) f k hf cv cs hc hcb hcl)
  have HWO := Lib.hid (fun (wx : World) (pv : Value) (hx : RdSl wx 3 pv q.length (refP q)) => r54Without_any pv q hx (fun e he => ⟨(hoq e he).lo, (hoq e he).hi⟩) (by omega) f hf.1 hf.2)
  have HOQ : Hid (∀ e ∈ qOf f q, OkQ 4 e) := Lib.hid (fun e he => hoq e (qOf_mem e he))
  have hQl := qOf_len f q
  obtain ⟨mq, hmq⟩ : ∃ mq, q.length = mq := ⟨_, rfl⟩
  rw [hmq] at HCF HWO HS hlq hQl
  obtain ⟨Q, hQ⟩ : ∃ Q, qOf f q = Q := ⟨_, rfl⟩
  rw [hQ] at HCF HWO HOQ hQl
  obtain ⟨is, his⟩ : ∃ is, isOf f q = is := ⟨_, rfl⟩
  rw [his] at HCF HWO
  clear hoq hpq hmq hQ his
  have HAF := Lib.hid (fun (wx : World) (pv : Value) (hx : RdSl wx 3 pv Q.length (refP Q)) (kn : Nat) (hkn : kn ≤ Q.length) => r54After_any (w := wx) 4 (by omega) (by omega) pv Q hx HOQ.out (by omega) kn hkn)
  rw [show ((4 : Nat) : Int) = 4 from rfl] at HCF HAF
  have HD0 : Hid ((Dev.fresh 4 (fun _ => 0)).n = 4 ∧ (Dev.fresh 4 (fun _ => 0)).exec = 0) := ⟨rfl, rfl⟩
  obtain ⟨D0, hD0⟩ : ∃ D0, Dev.fresh 4 (fun _ => 0) = D0 := ⟨_, rfl⟩
  rw [hD0] at HCF HAF HD0
  clear hD0
  have HRV : Hid (∀ k, (D0.run 0 (Q.take k)).exec ≤ 12 ∧ (D0.run 0 (Q.take k)).n = 4) := fun k => by
    have h1 := D0.run_exec 0 (Q.take k)
    have h2 := List.length_take_le' k Q
    rw [HD0.out.2] at h1
    exact ⟨by omega, by rw [run_n]; exact HD0.out.1⟩
  obtain ⟨M, hM⟩ : ∃ M, Q.length = M := ⟨_, rfl⟩
  have HM := Lib.hid hM
  rw [hM] at HWO HAF hQl
  clear hM
  have HC9 := Lib.hid (fun h9 => choice_nine _ cs hc h9)
  have HC := Lib.hid hc; have HCB := Lib.hid hcb
  obtain ⟨cm, hcm⟩ : ∃ cm, cs.length = cm := ⟨_, rfl⟩
  have HCM := Lib.hid hcm
  rw [hcm] at HC9 HC K0 B0 ⊢
  clear hc hcb hcm
  go_enter Try.func5, Try.ntmps5
  go_wp2_with fail
  (with_reducible refine (HA.out _).mono ?_)
  rintro r w1 ⟨rfl, b1⟩
  have HS1 := Lib.hid (HS.out w1 ((H.out.below B0.out).below b1))
  have B1 := Lib.hid (B0.out.trans (b1.mono B0.out.size))
  have K1 := Lib.hid (K0.out.below b1)
  clear b1 HS HA K0 B0
  go_wp2_with fail
  (with_reducible refine HS1.out.mono ?_)
  rintro r w2 ⟨sv, rfl, a2⟩
  obtain ⟨sa, sc, hsv⟩ := a2.slice
  subst hsv
  have B2 := Lib.hid (B1.out.trans (a2.bel.mono B1.out.size))
  have R2 := Lib.hid a2.rd
  have K2 := Lib.hid (K1.out.below a2.bel)
  have HNE : Hid (∀ g, (Value.slice sa mq sc).ownBlock = some g → g ≠ w.heap.size) := fun g hg => by have h1 := a2.new g hg; have h2 := K1.out.lt; omega
  clear a2 HS1 K1 B1
  have k0 := K2.out.cell (i := 0) rfl
  have k1 := K2.out.cell (i := 1) rfl
  have k2 := K2.out.cell (i := 2) rfl
  have f2 := K2.out.frozen 2
  have hk2 := K2.out.lt
  by_cases h9 : 9 < cm
  · obtain ⟨gb, go, gc, hce, hgc, hr9⟩ := HC9.out h9
    cases hce
    have h9' : (9 : Int) < cm := by omega
    have h9c : (9 : Int) ≤ cc := by omega
    have hgc0 : ¬ cc = 0 := by omega
    obtain ⟨cs9, hcs9⟩ : ∃ cs9, cs.take 9 = cs9 := ⟨_, rfl⟩
    rw [hcs9] at hr9
    have HN9 : Hid (cs9.length = 9) := Lib.hid (by rw [← hcs9, List.length_take, HCM.out]; omega)
    have HCW := Lib.hid hr9
    have HCBW : Hid (∀ x ∈ cs9, 0 ≤ x ∧ x < 256) := Lib.hid (fun x hx => HCB.out x (List.mem_of_mem_take (by rw [hcs9]; exact hx)))
    have KW : Hid (Blk (w2.setCell ⟨w.heap.size, 2, none⟩ (.slice (some ⟨gb, go, none⟩) 9 cc)) w.heap.size #[.int .i64 f, .int .i64 k, .slice (some ⟨gb, go, none⟩) 9 cc] 36) := Lib.hid (K2.out.set 2 _)
    have BW : Hid (Below w.heap.size w (w2.setCell ⟨w.heap.size, 2, none⟩ (.slice (some ⟨gb, go, none⟩) 9 cc))) := Lib.hid (B2.out.setCell (p := ⟨w.heap.size, 2, none⟩) (Nat.le_refl _) _)
    have RW : Hid (RdSl (w2.setCell ⟨w.heap.size, 2, none⟩ (.slice (some ⟨gb, go, none⟩) 9 cc)) 3 (.slice sa mq sc) mq (refP q)) := Lib.hid (R2.out.upd ((Upd.refl (· = w.heap.size) w2).setCell (p := ⟨w.heap.size, 2, none⟩) (fun _ => rfl) _) (fun g hg e => HNE.out g hg e))
    clear hr9 hcs9 HC9 HC
    have HCF1 := Lib.hid (HCF.out (w2.setCell ⟨w.heap.size, 2, none⟩ (.slice (some ⟨gb, go, none⟩) 9 cc)) (.slice sa mq sc) RW.out (.slice (some ⟨gb, go, none⟩) 9 cc) cs9 (by rw [HN9.out]; exact HCW.out.below BW.out) HCBW.out (by rw [HN9.out]; omega))
    have HIMG := Lib.hid (fun (wx : World) (hb : Below w.heap.size w wx) (D : Dev) (rb lb : Nat) (hv : Nat → Value) (nv : Value) (ns : List (Nat × Nat)) (hr : R3 wx D rb lb hv nv ns) (hx : D.exec ≤ 12) => r3Image_any hr (by omega) (.slice (some ⟨gb, go, none⟩) 9 cc) cs9 (by rw [HN9.out]; exact HCW.out.below hb) HCBW.out (by rw [HN9.out]; omega))
    clear HCF
    go_wp2_with fail
    (with_reducible refine HCF1.out.mono ?_)
    rintro r w4 ⟨hp, b4⟩
    have HW4 := Lib.hid (HWO.out w4 _ (RW.out.below b4))
    have K4 := Lib.hid (KW.out.below b4)
    have B4 := Lib.hid (BW.out.trans (b4.mono BW.out.size))
    unfold CfPost at hp
    rw [HM.out] at hp
    have k0 := K4.out.cell (i := 0) (v := .int .i64 f) rfl
    clear b4 HWO HCF1 KW RW BW
    rcases hp with ⟨hcd, rfl⟩ | ⟨his, kn, hkk, hkn, rfl⟩
    · go_wp2_with fail
      (with_reducible refine HW4.out.mono ?_)
      rintro r w5 ⟨sv5, rfl, r5, b5⟩
      obtain ⟨qa, qc, hq5⟩ : ∃ qa qc, sv5 = .slice qa M qc := by obtain ⟨_, a, c, e, _, _⟩ := r5; exact ⟨a, c, e⟩
      subst hq5
      have K5 := Lib.hid (K4.out.below b5)
      have B5 := Lib.hid (B4.out.trans (b5.mono B4.out.size))
      have k1 := K5.out.cell (i := 1) (v := .int .i64 k) rfl
      have CD := Lib.hid hcd
      clear r5 b5 hcd k0
      cases is
      · go_wp2_with fail
        go_ret
        exact ⟨rfl, B5.out⟩
      · by_cases hk0 : k < 0
        · go_wp2_with fail
          go_ret
          exact ⟨rfl, B5.out⟩
        · by_cases hkM : (M : Int) < k
          · go_wp2_with fail
            go_ret
            exact ⟨rfl, B5.out⟩
          · exfalso
            rcases CD.out with h | h | h
            · cases h
            · exact hk0 h
            · exact hkM h
    · subst his
      subst hkk
      obtain ⟨eb, heb⟩ : ∃ eb, ((kn : Int) == (M : Int)) = eb := ⟨_, rfl⟩
      have hde : decide (kn = M) = eb := by
        rw [← heb]
        by_cases hkm : kn = M
        · subst hkm; simp
        · have : ¬ (kn : Int) = (M : Int) := by omega
          simp [hkm, this]
      rw [hde]
      obtain ⟨hx1, hn1⟩ := HRV.out kn
      have HX1 := Lib.hid (And.intro hx1 hn1)
      clear hx1 hn1
      obtain ⟨DD, hDD⟩ : ∃ DD, D0.run 0 (Q.take kn) = DD := ⟨_, rfl⟩
      rw [hDD] at HX1 ⊢
      have HAF1 := Lib.hid (fun wx pv hx => HAF.out wx pv hx kn (by omega))
      rw [hDD] at HAF1
      obtain ⟨gv, hgv⟩ : ∃ gv, goodF (DD.img (chK DD cs9)) eb = gv := ⟨_, rfl⟩
      rw [hgv]
      have HGV := Lib.hid hgv
      clear hDD hgv hde HAF
      have hkM : ¬ (M : Int) < (kn : Int) := by omega
      have hk0 : ¬ (kn : Int) < 0 := by omega
      go_wp2_with fail
      (with_reducible refine HW4.out.mono ?_)
      rintro r w5 ⟨sv5, rfl, r5, b5⟩
      obtain ⟨qa, qc, hq5⟩ : ∃ qa qc, sv5 = .slice qa M qc := by obtain ⟨_, a, c, e, _, _⟩ := r5; exact ⟨a, c, e⟩
      subst hq5
      have K5 := Lib.hid (K4.out.below b5)
      have B5 := Lib.hid (B4.out.trans (b5.mono B4.out.size))
      have k1 := K5.out.cell (i := 1) (v := .int .i64 kn) rfl
      have HAF2 := Lib.hid (HAF1.out w5 _ r5)
      clear r5 b5 k0 HAF1 HW4
      go_wp2_with fail
      (with_reducible refine HAF2.out.mono ?_)
      rintro r w6 ⟨rb, lb, hv, nv, ns, rfl, r6, b6⟩
      have K6 := Lib.hid (K5.out.below b6)
      have B6 := Lib.hid (B5.out.trans (b6.mono B5.out.size))
      have R6 := Lib.hid r6
      have HI6 := Lib.hid (HIMG.out w6.drew B6.out.drew DD rb lb hv nv ns r6.drew HX1.out.1)
      have k1 := K6.out.cell (i := 1) (v := .int .i64 kn) rfl
      have k2 := K6.out.cell (i := 2) (v := .slice (some ⟨gb, go, none⟩) 9 cc) rfl
      have hk6 := K6.out.lt
      have hGD := Lib.hid (fun (wx : World) (sv : Value) (hr : RdSl wx 1 sv (64 * DD.n) (bytesL (DD.img (chK DD cs9)) (64 * DD.n))) => r54Good_any sv (64 * DD.n) (DD.img (chK DD cs9)) hr (by rw [HX1.out.2]; omega) (by rw [HX1.out.2]; omega) (fun d => R6.out.up.vb.img _ d) eb)
      rw [HGV.out] at hGD
      clear r6 b6 HAF2 HIMG
      go_wp2_with fail
      have hbx : ((!gv) != gv) = true := by cases gv <;> rfl
      refine wp_region_held (S := (fun wx => wx.cell? ⟨w.heap.size, 1, none⟩ = some (.int .i64 kn) ∧ wx.cell? ⟨w.heap.size, 2, none⟩ = some (.slice (some ⟨gb, go, none⟩) 9 cc))) (by kernel_rfl) ?_
      change wpAnyH _ _ _ _ _ _ _ _ (World.drew _)
      refine wpAnyH_take (i := 0) (v := .int .i64 0) rfl (by kernel_rfl) (by kernel_rfl) (by kernel_rfl) (fun _ _ _ h => h) (Or.inl ⟨by kernel_rfl, fun w _ => by go_simp⟩) ⟨k1, k2⟩ ?_
      refine wpAnyH_take (i := 1) (v := .bool true) rfl (by kernel_rfl) (by kernel_rfl) (by kernel_rfl) (fun _ _ _ h => h) (Or.inl ⟨by kernel_rfl, fun w _ => by go_simp⟩) ⟨k1, k2⟩ ?_
      refine wpAnyH_take (i := 2) (v := .bool true) rfl (by kernel_rfl) (by kernel_rfl) (by kernel_rfl) (fun _ _ _ h => h) (Or.inl ⟨by kernel_rfl, fun w _ => by go_simp⟩) ⟨k1, k2⟩ ?_
      refine wpAnyH_take (i := 3) (v := .bool (!gv)) rfl (by kernel_rfl) (by kernel_rfl) (by kernel_rfl) (fun _ _ _ h => h) (Or.inl ⟨by kernel_rfl, fun w _ => by go_simp⟩) ⟨k1, k2⟩ ?_
      refine wpAnyH_take (i := 4) (v := .pointer (some ⟨rb, 0, none⟩)) rfl (by kernel_rfl) (by kernel_rfl) (by kernel_rfl) (fun _ _ _ h => h) (Or.inl ⟨by kernel_rfl, fun w _ => by go_simp⟩) ⟨k1, k2⟩ ?_
      refine wpAnyH_take (i := 5) (v := .pointer (some ⟨w.heap.size, 2, none⟩)) rfl (by kernel_rfl) (by kernel_rfl) (by kernel_rfl) (fun _ _ _ h => h) (Or.inl ⟨by kernel_rfl, fun w _ => by go_simp⟩) ⟨k1, k2⟩ ?_
      refine wpAnyH_take (i := 6) (v := .slice (some ⟨gb, go, none⟩) 9 cc) rfl (by kernel_rfl) (by kernel_rfl) (by kernel_rfl) (fun _ _ _ h => h) (Or.inl ⟨by kernel_rfl, fun wx hx => by obtain ⟨hx1, hx2⟩ := hx; go_simp⟩) ⟨k1, k2⟩ ?_
      refine wpAnyH_take (i := 8) (v := .pointer (some ⟨w.heap.size, 1, none⟩)) rfl (by kernel_rfl) (by kernel_rfl) (by kernel_rfl) (fun _ _ _ h => h) (Or.inl ⟨by kernel_rfl, fun w _ => by go_simp⟩) ⟨k1, k2⟩ ?_
      refine wpAnyH_take (i := 9) (v := .int .i64 kn) rfl (by kernel_rfl) (by kernel_rfl) (by kernel_rfl) (fun _ _ _ h => h) (Or.inl ⟨by kernel_rfl, fun wx hx => by obtain ⟨hx1, hx2⟩ := hx; go_simp⟩) ⟨k1, k2⟩ ?_
      refine wpAnyH_take (i := 10) (v := .slice qa M qc) rfl (by kernel_rfl) (by kernel_rfl) (by kernel_rfl) (fun _ _ _ h => h) (Or.inl ⟨by kernel_rfl, fun w _ => by go_simp⟩) ⟨k1, k2⟩ ?_
      refine wpAnyH_take (i := 11) (v := .int .i64 M) rfl (by kernel_rfl) (by kernel_rfl) (by kernel_rfl) (fun _ _ _ h => h) (Or.inl ⟨by kernel_rfl, fun w _ => by go_simp⟩) ⟨k1, k2⟩ ?_
      refine wpAnyH_take (i := 12) (v := .bool eb) rfl (by kernel_rfl) (by kernel_rfl) (by kernel_rfl) (fun _ _ _ h => h) (Or.inl ⟨by kernel_rfl, fun w _ => by go_simp⟩) ⟨k1, k2⟩ ?_
      refine wpAnyH_one (i := 7) (by kernel_rfl) rfl (by kernel_rfl) (fun K hK => ?_)
      go_simp
      (with_reducible refine HI6.out.mono ?_)
      rintro e w7 ⟨s7, rfl, a7⟩
      obtain ⟨s7a, s7c, hs7⟩ := a7.slice
      subst hs7
      have K7 := Lib.hid ((K6.out.drew).below a7.bel)
      have B7 := Lib.hid ((B6.out.drew).trans (a7.bel.mono B6.out.size))
      have HG7 := Lib.hid (hGD.out w7 _ a7.rd)
      have k17 := K7.out.cell (i := 1) (v := .int .i64 kn) rfl
      have k27 := K7.out.cell (i := 2) (v := .slice (some ⟨gb, go, none⟩) 9 cc) rfl
      clear a7
      go_simp
      refine hK _ _ ⟨⟨k17, k27⟩, ?_⟩
      clear hK K
      refine wpAnyH_one (i := 13) (by kernel_rfl) rfl (by kernel_rfl) (fun K hK => ?_)
      go_simp
      (with_reducible refine HG7.out.mono ?_)
      rintro e w8 ⟨rfl, rfl⟩
      go_simp
      refine hK _ _ ⟨⟨k17, k27⟩, ?_⟩
      clear hK K
      refine wpAnyH_take (i := 14) (v := .bool true) rfl (by kernel_rfl) (by kernel_rfl) (by kernel_rfl) (fun _ _ _ h => h) (Or.inl ⟨by kernel_rfl, fun w _ => by go_simp⟩) ⟨k17, k27⟩ ?_
      refine wpAnyH_take (i := 15) (v := .bool true) rfl (by kernel_rfl) (by kernel_rfl) (by kernel_rfl) (fun _ _ _ h => h) (Or.inl ⟨by kernel_rfl, fun w _ => by go_simp⟩) ⟨k17, k27⟩ ?_
      refine wpAnyH_take (i := 16) (v := .bool true) rfl (by kernel_rfl) (by kernel_rfl) (by kernel_rfl) (fun _ _ _ h => h) (Or.inl ⟨by kernel_rfl, fun w _ => by go_simp⟩) ⟨k17, k27⟩ ?_
      refine wpAnyH_done (by kernel_rfl) ?_ _
      go_wp2_with fail
      go_ret
      exact ⟨rfl, B7.out⟩
  · have h9' : ¬ (9 : Int) < cm := by omega
    have HN9 := HCM
    have HCW := HC
    have HCBW := HCB
    have KW := K2
    have BW := B2
    have RW := R2
    clear HC9
    have HCF1 := Lib.hid (HCF.out w2 (.slice sa mq sc) RW.out (.slice ca cm cc) cs (by rw [HN9.out]; exact HCW.out.below BW.out) HCBW.out (by rw [HN9.out]; omega))
    have HIMG := Lib.hid (fun (wx : World) (hb : Below w.heap.size w wx) (D : Dev) (rb lb : Nat) (hv : Nat → Value) (nv : Value) (ns : List (Nat × Nat)) (hr : R3 wx D rb lb hv nv ns) (hx : D.exec ≤ 12) => r3Image_any hr (by omega) (.slice ca cm cc) cs (by rw [HN9.out]; exact HCW.out.below hb) HCBW.out (by rw [HN9.out]; omega))
    clear HCF
    go_wp2_with fail
    (with_reducible refine HCF1.out.mono ?_)
    rintro r w4 ⟨hp, b4⟩
    have HW4 := Lib.hid (HWO.out w4 _ (RW.out.below b4))
    have K4 := Lib.hid (KW.out.below b4)
    have B4 := Lib.hid (BW.out.trans (b4.mono BW.out.size))
    unfold CfPost at hp
    rw [HM.out] at hp
    have k0 := K4.out.cell (i := 0) (v := .int .i64 f) rfl
    clear b4 HWO HCF1 KW RW BW
    rcases hp with ⟨hcd, rfl⟩ | ⟨his, kn, hkk, hkn, rfl⟩
    · go_wp2_with fail
      (with_reducible refine HW4.out.mono ?_)
      rintro r w5 ⟨sv5, rfl, r5, b5⟩
      obtain ⟨qa, qc, hq5⟩ : ∃ qa qc, sv5 = .slice qa M qc := by obtain ⟨_, a, c, e, _, _⟩ := r5; exact ⟨a, c, e⟩
      subst hq5
      have K5 := Lib.hid (K4.out.below b5)
      have B5 := Lib.hid (B4.out.trans (b5.mono B4.out.size))
      have k1 := K5.out.cell (i := 1) (v := .int .i64 k) rfl
      have CD := Lib.hid hcd
      clear r5 b5 hcd k0
      cases is
      · go_wp2_with fail
        go_ret
        exact ⟨rfl, B5.out⟩
      · by_cases hk0 : k < 0
        · go_wp2_with fail
          go_ret
          exact ⟨rfl, B5.out⟩
        · by_cases hkM : (M : Int) < k
          · go_wp2_with fail
            go_ret
            exact ⟨rfl, B5.out⟩
          · exfalso
            rcases CD.out with h | h | h
            · cases h
            · exact hk0 h
            · exact hkM h
    · subst his
      subst hkk
      obtain ⟨eb, heb⟩ : ∃ eb, ((kn : Int) == (M : Int)) = eb := ⟨_, rfl⟩
      have hde : decide (kn = M) = eb := by
        rw [← heb]
        by_cases hkm : kn = M
        · subst hkm; simp
        · have : ¬ (kn : Int) = (M : Int) := by omega
          simp [hkm, this]
      rw [hde]
      obtain ⟨hx1, hn1⟩ := HRV.out kn
      have HX1 := Lib.hid (And.intro hx1 hn1)
      clear hx1 hn1
      obtain ⟨DD, hDD⟩ : ∃ DD, D0.run 0 (Q.take kn) = DD := ⟨_, rfl⟩
      rw [hDD] at HX1 ⊢
      have HAF1 := Lib.hid (fun wx pv hx => HAF.out wx pv hx kn (by omega))
      rw [hDD] at HAF1
      obtain ⟨gv, hgv⟩ : ∃ gv, goodF (DD.img (chK DD cs)) eb = gv := ⟨_, rfl⟩
      rw [hgv]
      have HGV := Lib.hid hgv
      clear hDD hgv hde HAF
      have hkM : ¬ (M : Int) < (kn : Int) := by omega
      have hk0 : ¬ (kn : Int) < 0 := by omega
      go_wp2_with fail
      (with_reducible refine HW4.out.mono ?_)
      rintro r w5 ⟨sv5, rfl, r5, b5⟩
      obtain ⟨qa, qc, hq5⟩ : ∃ qa qc, sv5 = .slice qa M qc := by obtain ⟨_, a, c, e, _, _⟩ := r5; exact ⟨a, c, e⟩
      subst hq5
      have K5 := Lib.hid (K4.out.below b5)
      have B5 := Lib.hid (B4.out.trans (b5.mono B4.out.size))
      have k1 := K5.out.cell (i := 1) (v := .int .i64 kn) rfl
      have HAF2 := Lib.hid (HAF1.out w5 _ r5)
      clear r5 b5 k0 HAF1 HW4
      go_wp2_with fail
      (with_reducible refine HAF2.out.mono ?_)
      rintro r w6 ⟨rb, lb, hv, nv, ns, rfl, r6, b6⟩
      have K6 := Lib.hid (K5.out.below b6)
      have B6 := Lib.hid (B5.out.trans (b6.mono B5.out.size))
      have R6 := Lib.hid r6
      have HI6 := Lib.hid (HIMG.out w6.drew B6.out.drew DD rb lb hv nv ns r6.drew HX1.out.1)
      have k1 := K6.out.cell (i := 1) (v := .int .i64 kn) rfl
      have k2 := K6.out.cell (i := 2) (v := .slice ca cm cc) rfl
      have hk6 := K6.out.lt
      have hGD := Lib.hid (fun (wx : World) (sv : Value) (hr : RdSl wx 1 sv (64 * DD.n) (bytesL (DD.img (chK DD cs)) (64 * DD.n))) => r54Good_any sv (64 * DD.n) (DD.img (chK DD cs)) hr (by rw [HX1.out.2]; omega) (by rw [HX1.out.2]; omega) (fun d => R6.out.up.vb.img _ d) eb)
      rw [HGV.out] at hGD
      clear r6 b6 HAF2 HIMG
      go_wp2_with fail
      have hbx : ((!gv) != gv) = true := by cases gv <;> rfl
      refine wp_region_held (S := (fun wx => wx.cell? ⟨w.heap.size, 1, none⟩ = some (.int .i64 kn) ∧ wx.cell? ⟨w.heap.size, 2, none⟩ = some (.slice ca cm cc))) (by kernel_rfl) ?_
      change wpAnyH _ _ _ _ _ _ _ _ (World.drew _)
      refine wpAnyH_take (i := 0) (v := .int .i64 0) rfl (by kernel_rfl) (by kernel_rfl) (by kernel_rfl) (fun _ _ _ h => h) (Or.inl ⟨by kernel_rfl, fun w _ => by go_simp⟩) ⟨k1, k2⟩ ?_
      refine wpAnyH_take (i := 1) (v := .bool true) rfl (by kernel_rfl) (by kernel_rfl) (by kernel_rfl) (fun _ _ _ h => h) (Or.inl ⟨by kernel_rfl, fun w _ => by go_simp⟩) ⟨k1, k2⟩ ?_
      refine wpAnyH_take (i := 2) (v := .bool true) rfl (by kernel_rfl) (by kernel_rfl) (by kernel_rfl) (fun _ _ _ h => h) (Or.inl ⟨by kernel_rfl, fun w _ => by go_simp⟩) ⟨k1, k2⟩ ?_
      refine wpAnyH_take (i := 3) (v := .bool (!gv)) rfl (by kernel_rfl) (by kernel_rfl) (by kernel_rfl) (fun _ _ _ h => h) (Or.inl ⟨by kernel_rfl, fun w _ => by go_simp⟩) ⟨k1, k2⟩ ?_
      refine wpAnyH_take (i := 4) (v := .pointer (some ⟨rb, 0, none⟩)) rfl (by kernel_rfl) (by kernel_rfl) (by kernel_rfl) (fun _ _ _ h => h) (Or.inl ⟨by kernel_rfl, fun w _ => by go_simp⟩) ⟨k1, k2⟩ ?_
      refine wpAnyH_take (i := 5) (v := .pointer (some ⟨w.heap.size, 2, none⟩)) rfl (by kernel_rfl) (by kernel_rfl) (by kernel_rfl) (fun _ _ _ h => h) (Or.inl ⟨by kernel_rfl, fun w _ => by go_simp⟩) ⟨k1, k2⟩ ?_
      refine wpAnyH_take (i := 6) (v := .slice ca cm cc) rfl (by kernel_rfl) (by kernel_rfl) (by kernel_rfl) (fun _ _ _ h => h) (Or.inl ⟨by kernel_rfl, fun wx hx => by obtain ⟨hx1, hx2⟩ := hx; go_simp⟩) ⟨k1, k2⟩ ?_
      refine wpAnyH_take (i := 8) (v := .pointer (some ⟨w.heap.size, 1, none⟩)) rfl (by kernel_rfl) (by kernel_rfl) (by kernel_rfl) (fun _ _ _ h => h) (Or.inl ⟨by kernel_rfl, fun w _ => by go_simp⟩) ⟨k1, k2⟩ ?_
      refine wpAnyH_take (i := 9) (v := .int .i64 kn) rfl (by kernel_rfl) (by kernel_rfl) (by kernel_rfl) (fun _ _ _ h => h) (Or.inl ⟨by kernel_rfl, fun wx hx => by obtain ⟨hx1, hx2⟩ := hx; go_simp⟩) ⟨k1, k2⟩ ?_
      refine wpAnyH_take (i := 10) (v := .slice qa M qc) rfl (by kernel_rfl) (by kernel_rfl) (by kernel_rfl) (fun _ _ _ h => h) (Or.inl ⟨by kernel_rfl, fun w _ => by go_simp⟩) ⟨k1, k2⟩ ?_
      refine wpAnyH_take (i := 11) (v := .int .i64 M) rfl (by kernel_rfl) (by kernel_rfl) (by kernel_rfl) (fun _ _ _ h => h) (Or.inl ⟨by kernel_rfl, fun w _ => by go_simp⟩) ⟨k1, k2⟩ ?_
      refine wpAnyH_take (i := 12) (v := .bool eb) rfl (by kernel_rfl) (by kernel_rfl) (by kernel_rfl) (fun _ _ _ h => h) (Or.inl ⟨by kernel_rfl, fun w _ => by go_simp⟩) ⟨k1, k2⟩ ?_
      refine wpAnyH_one (i := 7) (by kernel_rfl) rfl (by kernel_rfl) (fun K hK => ?_)
      go_simp
      (with_reducible refine HI6.out.mono ?_)
      rintro e w7 ⟨s7, rfl, a7⟩
      obtain ⟨s7a, s7c, hs7⟩ := a7.slice
      subst hs7
      have K7 := Lib.hid ((K6.out.drew).below a7.bel)
      have B7 := Lib.hid ((B6.out.drew).trans (a7.bel.mono B6.out.size))
      have HG7 := Lib.hid (hGD.out w7 _ a7.rd)
      have k17 := K7.out.cell (i := 1) (v := .int .i64 kn) rfl
      have k27 := K7.out.cell (i := 2) (v := .slice ca cm cc) rfl
      clear a7
      go_simp
      refine hK _ _ ⟨⟨k17, k27⟩, ?_⟩
      clear hK K
      refine wpAnyH_one (i := 13) (by kernel_rfl) rfl (by kernel_rfl) (fun K hK => ?_)
      go_simp
      (with_reducible refine HG7.out.mono ?_)
      rintro e w8 ⟨rfl, rfl⟩
      go_simp
      refine hK _ _ ⟨⟨k17, k27⟩, ?_⟩
      clear hK K
      refine wpAnyH_take (i := 14) (v := .bool true) rfl (by kernel_rfl) (by kernel_rfl) (by kernel_rfl) (fun _ _ _ h => h) (Or.inl ⟨by kernel_rfl, fun w _ => by go_simp⟩) ⟨k17, k27⟩ ?_
      refine wpAnyH_take (i := 15) (v := .bool true) rfl (by kernel_rfl) (by kernel_rfl) (by kernel_rfl) (fun _ _ _ h => h) (Or.inl ⟨by kernel_rfl, fun w _ => by go_simp⟩) ⟨k17, k27⟩ ?_
      refine wpAnyH_take (i := 16) (v := .bool true) rfl (by kernel_rfl) (by kernel_rfl) (by kernel_rfl) (fun _ _ _ h => h) (Or.inl ⟨by kernel_rfl, fun w _ => by go_simp⟩) ⟨k17, k27⟩ ?_
      refine wpAnyH_done (by kernel_rfl) ?_ _
      go_wp2_with fail
      go_ret
      exact ⟨rfl, B7.out⟩
end
end Go.Proofs.Ytoakngofgkkpnaa
