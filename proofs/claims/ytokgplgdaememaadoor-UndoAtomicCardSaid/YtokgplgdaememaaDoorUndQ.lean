/- The walk of the undo log's Plan where the device is on and all offsets are allowed. -/
import Derived.Test.YtokgplgdaememaaDoorUndP
namespace Go.Proofs.YtokgplgdaememaaDoor
open Go.RowKit Go.Maps

section
variable {w : World} {v : DV} {own : Nat → Option Role} {D : Dev} {lb j off n : Nat}
theorem allowed_in {size off n o : Nat} (h : allowedB size off n o = true) : o % 8 = 0 ∧ o < size := by
  unfold allowedB at h
  have := of_decide_eq_true h
  exact ⟨this.1, this.2.1⟩
set_option maxRecDepth 100000 in
set_option maxHeartbeats 8000000 in
theorem uPlan_live (h : LogAt w v own D lb j off n) (hof : D.off = false) (he : D.err j = 0) (hvb : D.VB) (sv : Value) (offs : List Nat) (hs : RdSl w 1 sv offs.length (natsU offs)) (hl : offs.length ≤ 1000) (h64 : ∀ o ∈ offs, o < 18446744073709551616) (hgood : ∀ o ∈ offs, allowedB (64 * D.n) off n o = true) :
    Calls Tryd.prog 30 #[.pointer (some ⟨lb, 0, none⟩), sv] w (PlanPost w off n (savedL D.cur off n) (freshL D.cur ((savedL D.cur off n).map (·.1)) offs)) := by
  have HN := Lib.hid (unone_any h)
  have hbd := h.bd; have hn2 := h.n2
  have H := Lib.hid h; have HS := Lib.hid hs; have H64 := Lib.hid h64; have HG := Lib.hid hgood
  have HE := Lib.hid (fun wx (hx : LogAt wx v own D lb j off n) => uentries_any hx hof he hvb)
  have hER := fun wx (hx : LogAt wx v own D lb j off n) => err_any hx.dev hx.hj
  rw [he] at hER
  have HER := Lib.hid hER
  have HLD := Lib.hid (fun wx (hx : LogAt wx v own D lb j off n) o (ho : o ∈ offs) => load_ok hx.dev hx.hj o hof (allowed_in (hgood o ho)).1 (allowed_in (hgood o ho)).2)
  have hm1 := meth_Load ⟨v.tb j, 0, none⟩; have hm2 := meth_Err ⟨v.tb j, 0, none⟩
  have hmm := @run_makeMap Tryd.prog
  have HSB : Hid ((savedL D.cur off n).length ≤ 4 * (n - 1)) := by show (savedL D.cur off n).length ≤ _; unfold savedL; rw [entsL_len]; exact cntL_le _ _ _
  have HSV : Hid (∀ e ∈ savedL D.cur off n, e.1 < 18446744073709551616) := fun e he => by
    unfold savedL entsL at he
    obtain ⟨i, _, rfl⟩ := List.mem_map.1 he
    have := hvb.cur (off / 8 + 8 + 2 * i); simp only; omega
  generalize savedL D.cur off n = S at *
  obtain ⟨K0, hK0⟩ : ∃ K0, S.map (·.1) = K0 := ⟨_, rfl⟩
  rw [hK0]
  have HK0 := Lib.hid hK0; clear hK0
  have HFL := Lib.hid (freshL_len D.cur K0)
  obtain ⟨FF, hFF⟩ : ∃ FF, freshL D.cur K0 offs = FF := ⟨_, rfl⟩
  rw [hFF]
  have HFF := Lib.hid hFF; clear hFF
  clear h h64 hgood he hvb hER
  obtain ⟨k0, hi0, hz0, hz1, hz2⟩ := info_parts infoWrite
  have I2 := Lib.hid (And.intro hi0 (And.intro hz0 (And.intro hz1 hz2))); clear hi0 hz0 hz1 hz2
  obtain ⟨_, sa, sc, rfl, hsc, _⟩ := hs
  generalize hm : offs.length = m at *
  have HM := Lib.hid hm; clear hm
  generalize hsl : S.length = s at *
  have HSL := Lib.hid hsl; clear hsl
  have hsb : s ≤ 4 * (n - 1) := HSB.out
  go_enter Tryd.func30, Tryd.ntmps30
  go_wp2_with fail
  (with_reducible refine HN.out.mono ?_)
  rintro e w' ⟨rfl, rfl⟩
  go_wp2_with fail
  go_loopw [26] (fun y wr => ∃ k : Nat, k ≤ m ∧ y = .int .i64 k ∧ Below w.heap.size w wr) (fun y _ => m - (intOf y).toNat)
  case atStart => exact ⟨0, by omega, rfl, Below.refl _ _⟩
  case round =>
    obtain ⟨k, hk, rfl, hb⟩ := hrel
    have B := Lib.hid hb; clear hb
    by_cases hlt : k < m
    · have hk' : (k : Int) < m := by omega
      obtain ⟨o, ho⟩ : ∃ o, offs[k]? = some o := ⟨_, List.getElem?_eq_getElem (by rw [HM.out]; exact hlt)⟩
      obtain ⟨_, a', c', e', _, hE⟩ := HS.out.below B.out
      cases e'
      obtain ⟨eb, eo, rfl, hE2⟩ := rd_at hE (natsU_get ho)
      have c1 := hE2 _ _ (natsU_get ho)
      have hA := uallowed_any (H.out.below B.out) o (H64.out o (List.mem_of_getElem? ho))
      rw [HG.out o (List.mem_of_getElem? ho)] at hA
      have HA := Lib.hid hA
      clear hE hE2 ho hA
      go_wp2_with fail
      (with_reducible refine HA.out.mono ?_)
      rintro e w1 ⟨rfl, b1⟩
      have B1 := Lib.hid (B.out.trans (b1.mono B.out.size)); clear b1
      go_wp2_with fail
      go_roundw
      case rel => exact ⟨k + 1, by omega, by go_num, B1.out⟩
      case measure => simp [intOf]; omega
    · obtain rfl : k = m := by omega
      have HE1 := Lib.hid (HE.out _ (H.out.below B.out))
      clear HE hlt
      go_wp2_with fail
      (with_reducible refine HE1.out.mono ?_)
      rintro e w1 ⟨ov, rfl, a1⟩
      have A1 : Hid (Acc w w.heap.size w1 102 2 ov s (flat S)) := ⟨a1.own, fun g hg => Nat.le_trans B.out.size (a1.new g hg), B.out.trans (a1.bel.mono B.out.size), Nat.le_trans B.out.size a1.lt⟩
      clear a1 B HE1
      obtain ⟨oa, oc, hov⟩ := A1.out.slice
      subst hov
      have hm0 := World.ownsMap_made (H := Unit) w1 Tryd.prog 35 (plainElem Tryd.prog 4)
      have M0 : Hid (MpSt w (w1.alloc (.map #[] 0)) (.slice oa s oc) S (.slice none 0 0) [] w1.heap.size []) := by
        have hlt := A1.out.lt
        refine ⟨?_, Acc.nil w _ _ _ _ (A1.out.bel.trans ((below_alloc _ _).mono A1.out.bel.size)) (by simp; omega), ⟨_, 0, Nat.le_refl _, hm0, SetM.nil⟩, A1.out.bel.size, fun e => ?_, by simp [Value.ownBlock], fun g _ => by simp [Value.ownBlock]⟩
        · rw [HSL.out]; exact A1.out.keep (below_alloc _ _)
        · have := A1.out.own.lt _ e; omega
      clear A1 hm0
      go_wp2_with fail
      go_loopw [46] (fun y wr => ∃ i : Nat, i ≤ s ∧ y = .int .i64 i ∧ MpSt w wr (.slice oa s oc) S (.slice none 0 0) [] w1.heap.size ((S.take i).map (·.1))) (fun y _ => s - (intOf y).toNat)
      case atStart => exact ⟨0, by omega, rfl, M0.out⟩
      case round =>
        obtain ⟨i, hi, rfl, hM⟩ := hrel
        have M := Lib.hid hM
        clear M0
        by_cases hlt2 : i < s
        · have hi' : (i : Int) < s := by omega
          obtain ⟨e, he⟩ : ∃ e, S[i]? = some e := ⟨_, List.getElem?_eq_getElem (by rw [HSL.out]; exact hlt2)⟩
          obtain ⟨_, a', c', e', _, hE⟩ := hM.o.rd
          rw [HSL.out] at e'
          cases e'
          have hg := flat_get' S i e he
          obtain ⟨eb, eo, rfl, hE2⟩ := rd_at hE hg.1
          have c1 := hE2 _ _ hg.1; have c2 := hE2 _ _ hg.2
          rw [← Nat.add_assoc] at c2
          have HT := Lib.hid (take_snoc_get S i e he)
          have he64 := HSV.out e (List.mem_of_getElem? he)
          obtain ⟨N, mm, hmK, hown, hset⟩ := (hM.keep (below_alloc wr (.cells #[.int .u64 e.1, .int .u64 e.2] 102))).m
          have hmlen : mm < maxLen := by rw [List.length_map, List.length_take] at hmK; unfold maxLen; omega
          have hkey : keyOf Tryd.prog 35 (.int .u64 (e.1 : Int)) = some (.int .u64 (e.1 : Int)) := keyOf_int_mk Tryd.underlying35 (WalkArith.wf_u64 (by omega))
          have HX := Lib.hid (And.intro hmK (And.intro hown hset))
          clear hE hE2 he hg hM hmK hset hown
          obtain ⟨e1, e2⟩ := e
          simp only at c1 c2 he64 hkey HX
          go_wp2_with (at_mapUpdate; refine wpList_mapUpdate_own _ rfl _ _ _ 130 rfl 35 4 lawU64 Tryd.underlying130 _ w1.heap.size mm _ rfl HX.out.2.1 hmlen _ _ _ rfl rfl hkey _ [] (plainElem_bool Tryd.underlying4 true) ?_; intro w3 o3 g3)
          have M3 : Hid (MpSt w w3 (.slice (some ⟨eb, eo, none⟩) s oc) S (.slice none 0 0) [] w1.heap.size ((S.take i).map (·.1) ++ [e1])) :=
            (M.out.keep (below_alloc wr _)).put g3 HX.out.1 HX.out.2.1.isMap HX.out.2.2 o3
          clear o3 g3 HX M
          go_wp2_with fail
          go_roundw
          case rel => exact ⟨i + 1, by omega, by go_num, by rw [HT.out, List.map_append]; exact M3.out⟩
          case measure => simp [intOf]; omega
        · obtain rfl : i = s := by omega
          rw [List.take_of_length_le (by rw [HSL.out]; omega)] at M
          clear hM
          rw [HK0.out] at M
          have hKl : K0.length ≤ 20000 := by rw [← HK0.out, List.length_map, HSL.out]; omega
          have hm1 : MpSt w wr (.slice oa i oc) S (.slice none 0 0) [] w1.heap.size (K0 ++ ([] : List (Nat × Int)).map (·.1)) := by simpa using M.out
          have M1 := Lib.hid hm1
          clear M hm1
          go_wp2_with fail
          go_loopw [13, 56] (fun fv y wr => ∃ (q : Nat) (F : List (Nat × Int)), q ≤ k ∧ y = .int .i64 q ∧ freshL D.cur K0 (offs.take q) = F ∧ MpSt w wr (.slice oa i oc) S fv F w1.heap.size (K0 ++ F.map (·.1))) (fun _ y _ => k - (intOf y).toNat)
          case atStart => exact ⟨0, [], by omega, rfl, rfl, M1.out⟩
          case round =>
            obtain ⟨q, F, hq, rfl, hFq, hM⟩ := hrel
            have HFQ := Lib.hid hFq; clear hFq
            obtain ⟨fa, fc, hfv⟩ := hM.f.slice
            subst hfv
            have M := Lib.hid hM
            have LG := Lib.hid (H.out.below hM.o.bel)
            clear M1
            by_cases hlt3 : q < k
            · have hq' : (q : Int) < k := by omega
              obtain ⟨o, ho⟩ : ∃ o, offs[q]? = some o := ⟨_, List.getElem?_eq_getElem (by rw [HM.out]; exact hlt3)⟩
              obtain ⟨_, a', c', e', _, hE⟩ := HS.out.below hM.o.bel
              cases e'
              obtain ⟨eb, eo, rfl, hE2⟩ := rd_at hE (natsU_get ho)
              have c1 := hE2 _ _ (natsU_get ho)
              have ho64 := H64.out o (List.mem_of_getElem? ho)
              have hFs : freshL D.cur K0 (offs.take (q + 1)) = freshStep D.cur K0 F o := by rw [take_snoc_get offs q o ho, freshL_snoc, HFQ.out]
              have HFS := Lib.hid hFs
              have hfl : F.length ≤ q := by have := HFL.out (offs.take q); rw [List.length_take, HFQ.out] at this; omega
              have HLO := Lib.hid (fun wx hx => HLD.out wx hx o (List.mem_of_getElem? ho))
              obtain ⟨N, mm, hmK, hown, hset⟩ := hM.m
              have hmlen : mm < maxLen := by rw [List.length_append, List.length_map] at hmK; unfold maxLen; omega
              have hlook := look_set hown hset o ho64
              have hkey : keyOf Tryd.prog 35 (.int .u64 (o : Int)) = some (.int .u64 (o : Int)) := keyOf_int_mk Tryd.underlying35 (WalkArith.wf_u64 (by omega))
              have HX := Lib.hid (And.intro hmK (And.intro hown hset))
              clear hE hE2 ho hM hmK hset hown hFs
              by_cases hin : o ∈ K0 ++ F.map (·.1)
              · rw [decide_eq_true hin] at hlook
                have HIN := Lib.hid hin; clear hin
                go_wp2_with fail
                go_roundw
                case rel => exact ⟨q + 1, F, by omega, by go_num, by rw [HFS.out]; unfold freshStep; rw [if_pos HIN.out], M.out⟩
                case measure => simp [intOf]; omega
              · rw [decide_eq_false hin] at hlook
                have HIN := Lib.hid hin; clear hin
                go_wp2_with (at_mapUpdate; refine wpList_mapUpdate_own _ rfl _ _ _ 130 rfl 35 4 lawU64 Tryd.underlying130 _ w1.heap.size mm _ rfl HX.out.2.1 hmlen _ _ _ rfl rfl hkey _ [] (plainElem_bool Tryd.underlying4 true) ?_; intro w3 o3 g3; have M3 : Hid (MpSt w w3 (.slice oa i oc) S (.slice fa F.length fc) F w1.heap.size (K0 ++ F.map (·.1) ++ [o])) := M.out.put g3 HX.out.1 HX.out.2.1.isMap HX.out.2.2 o3; have L3 := Lib.hid (H.out.below M3.out.o.bel); have d0 := L3.out.c0; clear o3 g3)
                clear HX M LG
                (with_reducible refine (HLO.out _ L3.out).mono ?_)
                rintro e w' ⟨rfl, rfl⟩
                go_wp2_with (at_builtin; refine wpList_append_sl _ rfl _ _ 30 rfl 102 k0 _ 2 16 Tryd.underlying30 I2.out.1 I2.out.2.1 I2.out.2.2.1 I2.out.2.2.2 rfl (by decide) _ F.length (flat F) rfl (by exact M3.out.f.own.alloc _) _ 1 (flat [(o, D.cur (o / 8))]) rfl (by exact RdSl.newAt _ _ _ 2 1 _ (by simp) rfl) (flat_one _) (by unfold maxLen; omega) (by omega) ?_)
                intro v1 w4 o1 g1 b1 n1
                have M4 := Lib.hid (M3.out.app (below_alloc _ _) o1 rfl g1 b1 (by omega)); clear o1 g1 b1 n1 M3
                go_wp2_with fail
                go_roundw
                case rel => exact ⟨q + 1, F ++ [(o, D.cur (o / 8))], by omega, by go_num, by rw [HFS.out]; unfold freshStep; rw [if_neg HIN.out], by rw [List.map_append, ← List.append_assoc]; exact M4.out⟩
                case measure => simp [intOf]; omega
            · obtain rfl : q = k := by omega
              obtain rfl : F = FF := by rw [← HFQ.out, ← HFF.out, List.take_of_length_le (by rw [HM.out]; omega)]
              have hfl : F.length ≤ q := by have := HFL.out offs; rw [HM.out, HFF.out] at this; exact this
              clear hM HFL HLD HS HM H64 HG HFQ HFF
              generalize hf : F.length = f at *
              have HF := Lib.hid hf; clear hf
              have HCap := Lib.hid (ucap_any LG.out)
              have d0 := LG.out.c0
              go_wp2_with fail
              (with_reducible refine (HER.out _ LG.out).mono ?_)
              rintro e w' ⟨rfl, rfl⟩
              by_cases hfull : 4 * (n - 1) < i + f
              · have hfull' : ((4 * (n - 1) : Nat) : Int) < (i : Int) + f := by omega
                go_wp2_with fail
                (with_reducible refine HCap.out.mono ?_)
                rintro e w' ⟨rfl, rfl⟩
                go_wp2_with fail
                go_ret2
                exact .inl ⟨by rw [HSL.out, HF.out]; exact hfull, rfl, M.out.o.bel⟩
              · have hfull' : ¬ ((4 * (n - 1) : Nat) : Int) < (i : Int) + f := by omega
                by_cases hf0 : f = 0
                · have hb0 : ((f : Int) == 0) = true := by simp; omega
                  have hFn : F = [] := List.eq_nil_of_length_eq_zero (by rw [HF.out]; exact hf0)
                  have HFN := Lib.hid hFn
                  clear hf0 hFn
                  go_wp2_with fail
                  (with_reducible refine HCap.out.mono ?_)
                  rintro e w' ⟨rfl, rfl⟩
                  go_wp2_with fail
                  go_ret2
                  refine .inr ⟨by rw [HSL.out, HF.out]; exact hfull, _, rfl, ?_⟩
                  rw [HFN.out]
                  exact Acc.nil w _ _ _ _ M.out.o.bel M.out.o.bel.size
                · have hb0 : ((f : Int) == 0) = false := by simp; omega
                  have HF0 := Lib.hid hf0; clear hf0
                  go_wp2_with fail
                  (with_reducible refine HCap.out.mono ?_)
                  rintro e w' ⟨rfl, rfl⟩
                  obtain ⟨wc, hwc⟩ : ∃ x : World, x = wr := ⟨_, rfl⟩
                  subst hwc
                  have FR := Lib.hid M.out.f.rd
                  have BW := Lib.hid M.out.o.bel
                  clear M HCap d0
                  go_wp2_with fail
                  go_loopw [18, 100] (fun pv y wr => ∃ a : Nat, a ≤ f ∧ y = .int .i64 a ∧ Acc wc wc.heap.size wr 102 2 pv (2 * a) (flat (planWs (off + 64 + 16 * i) (F.take a)))) (fun _ y _ => f - (intOf y).toNat)
                  case atStart => exact ⟨0, by omega, rfl, Acc.nil wc _ _ _ _ (Below.refl _ _) (Nat.le_refl _)⟩
                  case round =>
                    obtain ⟨a, ha, rfl, hacc⟩ := hrel
                    obtain ⟨pa, pc, hpv⟩ := hacc.slice
                    subst hpv
                    have A := Lib.hid hacc; clear hacc
                    by_cases hlt4 : a < f
                    · have ha' : (a : Int) < f := by omega
                      obtain ⟨e, he⟩ : ∃ e, F[a]? = some e := ⟨_, List.getElem?_eq_getElem (by rw [HF.out]; exact hlt4)⟩
                      obtain ⟨_, a', c', e', _, hE⟩ := FR.out.below A.out.bel
                      rw [HF.out] at e'
                      cases e'
                      have hg := flat_get' F a e he
                      obtain ⟨eb, eo, rfl, hE2⟩ := rd_at hE hg.1
                      have c1 := hE2 _ _ hg.1; have c2 := hE2 _ _ hg.2
                      rw [← Nat.add_assoc] at c2
                      have HT := Lib.hid (take_snoc_get F a e he)
                      clear hE hE2 he hg
                      obtain ⟨e1, e2⟩ := e
                      simp only at c1 c2
                      have hEO := fun o => uentryOff_any ((LG.out.below A.out.bel).alloc o) (i + a) (by omega)
                      rw [show ((i + a : Nat) : Int) = (i : Int) + a by omega] at hEO
                      obtain ⟨t, ht⟩ : ∃ t, off + 64 + 16 * (i + a) = t := ⟨_, rfl⟩
                      rw [ht] at hEO
                      have ht64 : t + 8 < 18446744073709551616 := by omega
                      have HTT : Hid (planWs (off + 64 + 16 * i) (F.take (a + 1)) = planWs (off + 64 + 16 * i) (F.take a) ++ [(t, (e1 : Int))] ++ [(t + 8, e2)]) := by
                        show planWs (off + 64 + 16 * i) (F.take (a + 1)) = _
                        rw [HT.out, planWs_snoc, List.length_take, HF.out, show min a f = a by omega, show off + 64 + 16 * i + 16 * a = t by omega, List.append_assoc]; rfl
                      have HEO := Lib.hid hEO
                      have e8 : (t : Int) + 8 = ((t + 8 : Nat) : Int) := by omega
                      have E8 := Lib.hid e8
                      clear hEO ht e8
                      have hlw := A.out.lt
                      have hne : (Value.slice pa (2 * a) pc).ownBlock ≠ some wr.heap.size := fun hh => by have := A.out.own.lt _ hh; omega
                      have HNE := Lib.hid hne; clear hne
                      go_wp2_with fail
                      (with_reducible refine (HEO.out _).mono ?_)
                      rintro e w' ⟨rfl, rfl⟩
                      go_wp2_with (at_builtin; refine wpList_append_sl _ rfl _ _ 30 rfl 102 k0 _ 2 16 Tryd.underlying30 I2.out.1 I2.out.2.1 I2.out.2.2.1 I2.out.2.2.2 rfl (by decide) _ (2 * a) (flat (planWs (off + 64 + 16 * i) (F.take a))) rfl (by exact (A.out.own.alloc _).alloc _) _ 1 (flat [(t, (e1 : Int))]) rfl (by exact RdSl.newAt _ _ _ 2 1 _ (by simp) rfl) (flat_one _) (by unfold maxLen; omega) (by omega) ?_)
                      intro v1 w4 o1 g1 b1 n1
                      have f1 : w4.cell? ⟨wr.heap.size, 1, none⟩ = some (.int .u64 e2) := (kept_cell (below_alloc _ _) g1 (by simp) HNE.out 1).trans ((Blk.new wr _ _).cell rfl)
                      have A1 := Lib.hid (A.out.next (below_twice wr _ _) o1 g1 b1 (by omega)); clear o1 g1 b1 n1
                      obtain ⟨va, vc, hv1⟩ := A1.out.slice
                      subst hv1
                      go_wp2_with (at_builtin; refine wpList_append_sl _ rfl _ _ 30 rfl 102 k0 _ 2 16 Tryd.underlying30 I2.out.1 I2.out.2.1 I2.out.2.2.1 I2.out.2.2.2 rfl (by decide) _ (2 * a + 1) (flat (planWs (off + 64 + 16 * i) (F.take a)) ++ flat [(t, (e1 : Int))]) rfl (by exact A1.out.own.alloc _) _ 1 [.int .u64 ((t : Int) + 8), .int .u64 e2] rfl (by exact RdSl.newAt _ _ _ 2 1 _ (by simp) rfl) (by simp [Value.oneCell']) (by unfold maxLen; omega) (by omega) ?_)
                      intro v2 w5 o2 g2 b2 n2
                      have o2' : OwnSl w5 102 2 v2 (2 * a + 1 + 1) (flat (planWs (off + 64 + 16 * i) (F.take a)) ++ flat [(t, (e1 : Int))] ++ [.int .u64 ((t : Int) + 8), .int .u64 e2]) := by rw [List.append_assoc]; exact o2
                      have A2 := Lib.hid (A1.out.next (below_alloc w4 _) o2' g2 b2 (by omega)); clear o2 o2' g2 b2 n2
                      go_wp2_with fail
                      go_roundw
                      case rel => exact ⟨a + 1, by omega, by go_num, A2.out.congr (by omega) (by rw [HTT.out, flat_append, flat_append, E8.out]; rfl)⟩
                      case measure => simp [intOf]; omega
                    · obtain rfl : a = f := by omega
                      have hFt : F.take a = F := List.take_of_length_le (by rw [HF.out]; omega)
                      rw [hFt] at A
                      have hlenW : (planWs (off + 64 + 16 * i) F).length = 2 * a := by rw [planWs_len, HF.out]
                      have HST := Lib.hid (stores_any (w := wr) (.slice pa (2 * a) pc) (planWs (off + 64 + 16 * i) F) (by rw [hlenW]; exact A.out.rd) (by rw [hlenW]; omega) (fun e he => by have := planWs_bd F _ e he; rw [HF.out] at this; omega))
                      have HP : Hid (planP off S.length F = storesL (planWs (off + 64 + 16 * i) F) ++ storesL [(off, ((i + a : Nat) : Int))]) := by
                        show planP off S.length F = _
                        unfold planP
                        rw [if_neg (fun e => HF0.out (by rw [← HF.out, e]; rfl)), HSL.out, HF.out]
                      have hst1 : (storesL (planWs (off + 64 + 16 * i) F)).length ≤ 4 * a + 1 := by
                        have := flushL_len ((planWs (off + 64 + 16 * i) F).map (·.1))
                        unfold storesL
                        rw [List.length_append, List.length_map, hlenW]
                        rw [List.length_map, hlenW] at this
                        omega
                      have hst2 : (storesL [(off, ((i + a : Nat) : Int))]).length ≤ 3 := by
                        have := flushL_len ([(off, ((i + a : Nat) : Int))].map (·.1))
                        unfold storesL
                        simp only [List.map_cons, List.map_nil, List.length_append, List.length_cons, List.length_nil] at this ⊢
                        omega
                      have HSC := Lib.hid (fun wx (hx : LogAt wx v own D lb j off n) => usetCount_any hx (i + a) (by omega))
                      rw [show ((i + a : Nat) : Int) = (i : Int) + a by omega] at HSC HP hst2
                      clear hlenW hFt
                      generalize storesL (planWs (off + 64 + 16 * i) F) = P1 at *
                      generalize storesL [(off, (i : Int) + a)] = P2 at *
                      have BA := Lib.hid A.out.bel
                      clear A FR
                      go_wp2_with fail
                      (with_reducible refine HST.out.mono ?_)
                      rintro e w4 ⟨pv1, rfl, a4⟩
                      obtain ⟨xa, xc, hx1⟩ := a4.slice
                      subst hx1
                      have A4 := Lib.hid a4
                      have L4 := Lib.hid (LG.out.below (BA.out.trans (a4.bel.mono BA.out.size)))
                      clear a4 HST
                      go_wp2_with fail
                      (with_reducible refine (HSC.out _ L4.out).mono ?_)
                      rintro e w5 ⟨pv2, rfl, a5⟩
                      obtain ⟨ya, yc, hy1⟩ := a5.slice
                      subst hy1
                      have HT2 := Lib.hid (then_any (w := w5) _ _ P1 P2 (A4.out.keep a5.bel).rd a5.rd (by omega))
                      have B5 : Hid (Below w.heap.size w w5) := BW.out.trans ((BA.out.trans ((A4.out.bel.trans (a5.bel.mono A4.out.bel.size)).mono BA.out.size)).mono BW.out.size)
                      clear a5 HSC A4
                      go_wp2_with fail
                      (with_reducible refine HT2.out.mono ?_)
                      rintro e w6 ⟨ov, rfl, a6⟩
                      have A6 := Lib.hid (a6.deeper B5.out); clear a6 HT2
                      go_wp2_with fail
                      go_ret2
                      exact .inr ⟨by rw [HSL.out, HF.out]; exact hfull, _, rfl, by rw [HP.out]; exact A6.out⟩
end
end Go.Proofs.YtokgplgdaememaaDoor
