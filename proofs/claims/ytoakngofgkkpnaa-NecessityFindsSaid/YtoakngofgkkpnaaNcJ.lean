/- The walk of the law NecessityFinds. -/
import Derived.Test.YtoakngofgkkpnaaNcK
import Derived.Test.YtoakngofgkkpnaaHeldM
namespace Go.Proofs.Ytoakngofgkkpnaa
open Go.RowKit Go.Maps
attribute [local go_sem ↓] Go.wp_at_zero Go.wp_at_succ

section
variable {w : World}
set_option maxRecDepth 100000 in
set_option maxHeartbeats 8000000 in
theorem necFinds_any (lv : Value) (l : List (Int × Nat × Int)) (h : RdSl w 3 lv l.length (argP l)) (hok : ∀ e ∈ l, ArgOk e) (hl : l.length ≤ 9223372036854775807) (f L : Int) (hf : -9223372036854775808 ≤ f ∧ f ≤ 9223372036854775807) (hL0 : -9223372036854775808 ≤ L ∧ L ≤ 9223372036854775807) :
    Calls Try.prog 4 #[lv, .int .i64 f, .int .i64 L] w fun r w' => r = .returned (.bool true) ∧ Below w.heap.size w w' := by
  have HA := Lib.hid (awake54 (w := w))
  have HS := Lib.hid (fun (wx : World) (hx : RdSl wx 3 lv l.length (argP l)) => short_any lv l hx hok hl)
  have H := Lib.hid h
  have hoq : ∀ e ∈ shortL l, OkQ 4 e := fun e he => by
    obtain ⟨x, hx, rfl⟩ := List.mem_map.1 he
    exact short_ok (hok x (List.mem_of_mem_take hx))
  have hpq := short_plain (l := l)
  have hlq := short_len l
  obtain ⟨_, a, c, rfl, _, _⟩ := h
  obtain ⟨m, hm⟩ : ∃ m, l.length = m := ⟨_, rfl⟩
  rw [hm] at HS H ⊢
  obtain ⟨q, hq⟩ : ∃ q, shortL l = q := ⟨_, rfl⟩
  rw [hq] at HS hoq hpq hlq
  clear hm hq hok
  obtain ⟨x, hx⟩ : ∃ x : Int, min L 300 = x := ⟨_, rfl⟩
  have hx3 : x ≤ 300 := by omega
  have hx0 : -9223372036854775808 ≤ x := by omega
  have HFI := Lib.hid (fun (wx : World) (pv : Value) (hx : RdSl wx 3 pv q.length (refP q)) => ncFind_any 4 pv q hx hoq hpq (by omega) (by omega) (by omega) f x hf (by omega))
  have HCF := Lib.hid (fun (wx : World) (pv : Value) (hx : RdSl wx 3 pv q.length (refP q)) (k : Int) (cv : Value) (cs : List Int) (hc : RdSl wx 1 cv cs.length (cs.map fun x => .int .u8 x)) (hcb : ∀ x ∈ cs, 0 ≤ x ∧ x < 256) (hcl : cs.length ≤ 1000000) => ncConfirm_any 4 pv q hx hoq hpq (by omega) (by omega) (by omega) f k hf cv cs hc hcb hcl)
  have HWO := Lib.hid (fun (wx : World) (pv : Value) (hx : RdSl wx 3 pv q.length (refP q)) => r54Without_any pv q hx (fun e he => ⟨(hoq e he).lo, (hoq e he).hi⟩) (by omega) f hf.1 hf.2)
  have HOQ : Hid (∀ e ∈ qOf f q, OkQ 4 e) := Lib.hid (fun e he => hoq e (qOf_mem e he))
  have hQl := qOf_len f q
  obtain ⟨mq, hmq⟩ : ∃ mq, q.length = mq := ⟨_, rfl⟩
  unfold FiPost at HFI
  rw [hmq] at HFI HCF HWO HS hlq hQl
  obtain ⟨Q, hQ⟩ : ∃ Q, qOf f q = Q := ⟨_, rfl⟩
  rw [hQ] at HFI HCF HWO HOQ hQl
  obtain ⟨is, his⟩ : ∃ is, isOf f q = is := ⟨_, rfl⟩
  rw [his] at HFI HCF HWO
  clear hoq hpq hmq hQ his
  have HFO := Lib.hid (fun (wx : World) (pv : Value) (hx : RdSl wx 3 pv Q.length (refP Q)) (LN : Nat) (hLN : LN < 18446744073709551616) => r54Found_any 4 (by omega) (by omega) pv Q hx HOQ.out (by omega) LN hLN)
  have HAF := Lib.hid (fun (wx : World) (pv : Value) (hx : RdSl wx 3 pv Q.length (refP Q)) (kn : Nat) (hkn : kn ≤ Q.length) => r54After_any (w := wx) 4 (by omega) (by omega) pv Q hx HOQ.out (by omega) kn hkn)
  rw [show ((4 : Nat) : Int) = 4 from rfl] at HFI HCF HAF HFO
  have HD0 : Hid ((Dev.fresh 4 (fun _ => 0)).n = 4 ∧ (Dev.fresh 4 (fun _ => 0)).exec = 0) := ⟨rfl, rfl⟩
  have HPR : Hid (∀ k, prodN (basesL ((Dev.fresh 4 (fun _ => 0)).run 0 (Q.take k))) ≤ 1152921504606846976) := fun k => fresh_prod 4 _ (by rw [List.length_take]; omega)
  have HDB : Hid (∀ k, ((Dev.fresh 4 (fun _ => 0)).run 0 (Q.take k)).WF → ∀ l ∈ ((Dev.fresh 4 (fun _ => 0)).run 0 (Q.take k)).dirtyL, (((Dev.fresh 4 (fun _ => 0)).run 0 (Q.take k)).hist l).length ≤ 200) := fun k => run_dirty (by rw [List.length_take]; omega)
  obtain ⟨D0, hD0⟩ : ∃ D0, Dev.fresh 4 (fun _ => 0) = D0 := ⟨_, rfl⟩
  rw [hD0] at HFI HCF HAF HFO HD0 HPR HDB
  clear hD0
  have HRV : Hid (∀ k, (D0.run 0 (Q.take k)).exec ≤ 12 ∧ (D0.run 0 (Q.take k)).n = 4) := fun k => by
    have h1 := D0.run_exec 0 (Q.take k)
    have h2 := List.length_take_le' k Q
    rw [HD0.out.2] at h1
    exact ⟨by omega, by rw [run_n]; exact HD0.out.1⟩
  obtain ⟨M, hM⟩ : ∃ M, Q.length = M := ⟨_, rfl⟩
  have HM := Lib.hid hM
  rw [hM] at HWO HAF HFO hQl
  clear hM
  have hcase : (L ≤ 300 ∧ x = L) ∨ (300 < L ∧ x = 300) := by omega
  clear hx
  go_enter Try.func4, Try.ntmps4
  go_wp2_with fail
  (with_reducible refine HA.out.mono ?_)
  rintro r w1 ⟨rfl, b1⟩
  have HS1 := Lib.hid (HS.out w1 (H.out.below b1))
  have B1 := Lib.hid b1
  clear b1 HS HA
  go_wp2_with fail
  (with_reducible refine HS1.out.mono ?_)
  rintro r w2 ⟨sv, rfl, a2⟩
  obtain ⟨sa, sc, hsv⟩ := a2.slice
  subst hsv
  have B2 := Lib.hid (B1.out.trans (a2.bel.mono B1.out.size))
  have R2 := Lib.hid a2.rd
  have HFI1 := Lib.hid (HFI.out w2 _ a2.rd)
  clear a2 HS1 HFI B1
  rcases hcase with ⟨hc1, rfl⟩ | ⟨hc1, rfl⟩
  · go_wp2_with fail
    (with_reducible refine HFI1.out.mono ?_)
    rintro r w3 ⟨hp, b3⟩
    have B3 := Lib.hid (B2.out.trans (b3.mono B2.out.size))
    have R3' := Lib.hid (R2.out.below b3)
    have hsz3 : w.heap.size ≤ w3.heap.size := B3.out.size
    clear HFI1 B2 R2
    unfold FiP at hp
    rcases hp with ⟨hL1, rfl⟩ | ⟨hL1, ⟨hi1, rfl⟩ | ⟨hi1, hcode, rfl⟩ | ⟨hi1, hcode, rfl⟩ | ⟨hi1, k, i, g, hfd, hkl, hip, rfl, hrow⟩⟩
    · have K4 := Lib.hid (Blk.new w3 #[.int .i64 0, .int .i64 0, .slice none 0 0] 36)
      have B4 := Lib.hid (B3.out.trans ((below_alloc w3 (.cells #[.int .i64 0, .int .i64 0, .slice none 0 0] 36)).mono B3.out.size))
      have R4 := Lib.hid (R3'.out.alloc (.cells #[.int .i64 0, .int .i64 0, .slice none 0 0] 36))
      have HW4 := Lib.hid (HWO.out _ _ R4.out)
      clear HWO
      go_wp2_with fail
      (with_reducible refine HW4.out.mono ?_)
      rintro r w5 ⟨sv5, rfl, r5, b5⟩
      obtain ⟨qa, qc, hq5⟩ : ∃ qa qc, sv5 = .slice qa M qc := by obtain ⟨_, a, c, e, _, _⟩ := r5; exact ⟨a, c, e⟩
      subst hq5
      have K5 := Lib.hid (K4.out.below b5)
      have B5 := Lib.hid (B4.out.trans (b5.mono B4.out.size))
      have R5 := Lib.hid r5
      clear r5 b5 HW4 K4 B4
      go_wp2_with fail
      go_ret
      exact ⟨rfl, B5.out⟩
    · have K4 := Lib.hid (Blk.new w3 #[.int .i64 0, .int .i64 0, .slice none 0 0] 36)
      have B4 := Lib.hid (B3.out.trans ((below_alloc w3 (.cells #[.int .i64 0, .int .i64 0, .slice none 0 0] 36)).mono B3.out.size))
      have R4 := Lib.hid (R3'.out.alloc (.cells #[.int .i64 0, .int .i64 0, .slice none 0 0] 36))
      have HW4 := Lib.hid (HWO.out _ _ R4.out)
      clear HWO
      subst hi1
      have hL1' : ¬ (x : Int) < 1 := by omega
      go_wp2_with fail
      (with_reducible refine HW4.out.mono ?_)
      rintro r w5 ⟨sv5, rfl, r5, b5⟩
      obtain ⟨qa, qc, hq5⟩ : ∃ qa qc, sv5 = .slice qa M qc := by obtain ⟨_, a, c, e, _, _⟩ := r5; exact ⟨a, c, e⟩
      subst hq5
      have K5 := Lib.hid (K4.out.below b5)
      have B5 := Lib.hid (B4.out.trans (b5.mono B4.out.size))
      have R5 := Lib.hid r5
      clear r5 b5 HW4 K4 B4
      go_wp2_with fail
      go_ret
      exact ⟨rfl, B5.out⟩
    · have K4 := Lib.hid (Blk.new w3 #[.int .i64 0, .int .i64 0, .slice none 0 0] 36)
      have B4 := Lib.hid (B3.out.trans ((below_alloc w3 (.cells #[.int .i64 0, .int .i64 0, .slice none 0 0] 36)).mono B3.out.size))
      have R4 := Lib.hid (R3'.out.alloc (.cells #[.int .i64 0, .int .i64 0, .slice none 0 0] 36))
      have HW4 := Lib.hid (HWO.out _ _ R4.out)
      clear HWO
      subst hi1
      obtain ⟨LN, rfl⟩ : ∃ LN : Nat, x = (LN : Int) := ⟨x.toNat, by omega⟩
      rw [show ((LN : Int)).toNat = LN from rfl] at hcode
      have hL1' : ¬ (LN : Int) < 1 := by omega
      have hLNb : LN ≤ 300 := by omega
      have gL : IntKind.u64.wrap (LN : Int) = (LN : Int) := IntWalk.u64_in _ (by omega)
      have HCD := Lib.hid hcode
      clear hcode
      go_wp2_with fail
      (with_reducible refine HW4.out.mono ?_)
      rintro r w5 ⟨sv5, rfl, r5, b5⟩
      obtain ⟨qa, qc, hq5⟩ : ∃ qa qc, sv5 = .slice qa M qc := by obtain ⟨_, a, c, e, _, _⟩ := r5; exact ⟨a, c, e⟩
      subst hq5
      have K5 := Lib.hid (K4.out.below b5)
      have B5 := Lib.hid (B4.out.trans (b5.mono B4.out.size))
      have R5 := Lib.hid r5
      have HF5 := Lib.hid (HFO.out w5 _ R5.out LN (by omega))
      unfold FdRet at HF5
      rw [HCD.out] at HF5
      rw [show ((2 : Nat) : Int) = 2 from rfl] at HF5
      clear HFO r5 b5 HW4 K4 B4
      go_wp2_with fail
      (with_reducible refine HF5.out.mono ?_)
      rintro r w6 ⟨rfl, b6⟩
      have K6 := Lib.hid (K5.out.below b6)
      have B6 := Lib.hid (B5.out.trans (b6.mono B5.out.size))
      have y1 := K6.out.cell (i := 1) (v := .int .i64 0) rfl
      have y2 := K6.out.cell (i := 2) (v := .slice none 0 0) rfl
      clear b6 HF5
      go_wp2_with fail
      go_ret
      exact ⟨rfl, B6.out⟩
    · have K4 := Lib.hid (Blk.new w3 #[.int .i64 0, .int .i64 0, .slice none 0 0] 36)
      have B4 := Lib.hid (B3.out.trans ((below_alloc w3 (.cells #[.int .i64 0, .int .i64 0, .slice none 0 0] 36)).mono B3.out.size))
      have R4 := Lib.hid (R3'.out.alloc (.cells #[.int .i64 0, .int .i64 0, .slice none 0 0] 36))
      have HW4 := Lib.hid (HWO.out _ _ R4.out)
      clear HWO
      subst hi1
      obtain ⟨LN, rfl⟩ : ∃ LN : Nat, x = (LN : Int) := ⟨x.toNat, by omega⟩
      rw [show ((LN : Int)).toNat = LN from rfl] at hcode
      have hL1' : ¬ (LN : Int) < 1 := by omega
      have hLNb : LN ≤ 300 := by omega
      have gL : IntKind.u64.wrap (LN : Int) = (LN : Int) := IntWalk.u64_in _ (by omega)
      have HCD := Lib.hid hcode
      clear hcode
      go_wp2_with fail
      (with_reducible refine HW4.out.mono ?_)
      rintro r w5 ⟨sv5, rfl, r5, b5⟩
      obtain ⟨qa, qc, hq5⟩ : ∃ qa qc, sv5 = .slice qa M qc := by obtain ⟨_, a, c, e, _, _⟩ := r5; exact ⟨a, c, e⟩
      subst hq5
      have K5 := Lib.hid (K4.out.below b5)
      have B5 := Lib.hid (B4.out.trans (b5.mono B4.out.size))
      have R5 := Lib.hid r5
      have HF5 := Lib.hid (HFO.out w5 _ R5.out LN (by omega))
      unfold FdRet at HF5
      rw [HCD.out] at HF5
      rw [show ((1 : Nat) : Int) = 1 from rfl] at HF5
      clear HFO r5 b5 HW4 K4 B4
      go_wp2_with fail
      (with_reducible refine HF5.out.mono ?_)
      rintro r w6 ⟨rfl, b6⟩
      have K6 := Lib.hid (K5.out.below b6)
      have B6 := Lib.hid (B5.out.trans (b6.mono B5.out.size))
      have y1 := K6.out.cell (i := 1) (v := .int .i64 0) rfl
      have y2 := K6.out.cell (i := 2) (v := .slice none 0 0) rfl
      clear b6 HF5
      go_wp2_with fail
      go_ret
      exact ⟨rfl, B6.out⟩
    · have hsp := fnd_spec hfd
      have hx1 := HRV.out k
      have hpr := HPR.out k
      have hdb := HDB.out k
      have HAF1 := Lib.hid (fun wx pv hx => HAF.out wx pv hx k (by rw [HM.out] at hkl; exact hkl))
      obtain ⟨DD, hDD⟩ : ∃ DD, D0.run 0 (Q.take k) = DD := ⟨_, rfl⟩
      have HDD := Lib.hid hDD
      rw [hDD] at hip hrow hsp hx1 hpr hdb HAF1 ⊢
      have hbl := basesL_len DD
      have hdmn : DD.dirtyL.length ≤ DD.n := by unfold Dev.dirtyL; exact filt_len DD DD.n
      have hrd := digC_rd hrow
      obtain ⟨dm, hdm⟩ : ∃ dm, DD.dirtyL.length = dm := ⟨_, rfl⟩
      rw [hdm] at hrow hbl hdmn hrd ⊢
      have hdl : (digC DD i).length = dm := by rw [digC_len, hdm]
      have HROW := Lib.hid hrow; have HRD := Lib.hid hrd; have HX1 := Lib.hid hx1; have HDB1 := Lib.hid hdb; have HSP := Lib.hid hsp; have HBL := Lib.hid hbl; have HDL := Lib.hid hdl
      have hdm4 : dm ≤ 4 := by have := hx1.2; omega
      have HIP := Lib.hid (And.intro hip hpr)
      have HKL := Lib.hid hkl
      have hgl : 0 < dm → g < w3.heap.size := fun _ => hrow.lt
      clear hDD hrow hrd hx1 hpr hdb hip hsp hbl hdl hdm HRV HPR HDB hdmn
      have K4 := Lib.hid (Blk.new w3 #[.int .i64 f, .int .i64 k, .slice (some ⟨g, 0, none⟩) dm dm] 36)
      have B4 := Lib.hid (B3.out.trans ((below_alloc w3 (.cells #[.int .i64 f, .int .i64 k, .slice (some ⟨g, 0, none⟩) dm dm] 36)).mono B3.out.size))
      have R4 := Lib.hid (R3'.out.alloc (.cells #[.int .i64 f, .int .i64 k, .slice (some ⟨g, 0, none⟩) dm dm] 36))
      have HW4 := Lib.hid (HWO.out _ _ R4.out)
      clear HWO
      subst hi1
      obtain ⟨LN, rfl⟩ : ∃ LN : Nat, x = (LN : Int) := ⟨x.toNat, by omega⟩
      rw [show ((LN : Int)).toNat = LN from rfl] at hfd
      have hL1' : ¬ (LN : Int) < 1 := by omega
      have hLNb : LN ≤ 300 := by omega
      have gL : IntKind.u64.wrap (LN : Int) = (LN : Int) := IntWalk.u64_in _ (by omega)
      have HFD := Lib.hid hfd
      clear hfd
      go_wp2_with fail
      (with_reducible refine HW4.out.mono ?_)
      rintro r w5 ⟨sv5, rfl, r5, b5⟩
      obtain ⟨qa, qc, hq5⟩ : ∃ qa qc, sv5 = .slice qa M qc := by obtain ⟨_, a, c, e, _, _⟩ := r5; exact ⟨a, c, e⟩
      subst hq5
      have K5 := Lib.hid (K4.out.below b5)
      have B5 := Lib.hid (B4.out.trans (b5.mono B4.out.size))
      have R5 := Lib.hid r5
      have HF5 := Lib.hid (HFO.out w5 _ R5.out LN (by omega))
      unfold FdRet at HF5
      rw [HFD.out] at HF5
      dsimp only at HF5
      rw [show ((0 : Nat) : Int) = 0 from rfl] at HF5
      have HB35 : Hid (Below w3.heap.size w3 w5) := Lib.hid ((below_alloc w3 (.cells #[.int .i64 f, .int .i64 k, .slice (some ⟨g, 0, none⟩) dm dm] 36)).trans (b5.mono (by simp)))
      have RS5 := Lib.hid (R4.out.below b5)
      clear HFO r5 b5 HW4 K4 B4 R4
      go_wp2_with fail
      (with_reducible refine HF5.out.mono ?_)
      rintro r w6 ⟨rfl, b6⟩
      have HA6 := Lib.hid (HAF1.out w6 _ (R5.out.below b6))
      have K6 := Lib.hid (K5.out.below b6)
      have B6 := Lib.hid (B5.out.trans (b6.mono B5.out.size))
      have HB36 := Lib.hid (HB35.out.trans (b6.mono HB35.out.size))
      have RS6 := Lib.hid (RS5.out.below b6)
      clear b6 HF5 HAF1 K5 B5 HB35 RS5
      go_wp2_with fail
      (with_reducible refine HA6.out.mono ?_)
      rintro r w7 ⟨rb, lb, hv, nv, ns, rfl, r7, b7⟩
      have HD7 := Lib.hid (r5Digits_any r7 (by have := HX1.out.1; omega) i HIP.out.1 (by have := HIP.out.2; omega))
      have HDB2 := Lib.hid (HDB1.out r7.up.wf)
      rw [HBL.out] at HD7
      have K7 := Lib.hid (K6.out.below b7)
      have B7 := Lib.hid (B6.out.trans (b7.mono B6.out.size))
      have HB37 := Lib.hid (HB36.out.trans (b7.mono HB36.out.size))
      have RS7 := Lib.hid (RS6.out.below b7)
      clear r7 b7 HA6 K6 B6 HB36 RS6
      go_wp2_with fail
      (with_reducible refine HD7.out.mono ?_)
      rintro r w8 ⟨g2, f2, rfl, row2, hd2, _, b8⟩
      have K8 := Lib.hid (K7.out.below b8)
      have B8 := Lib.hid (B7.out.trans (b8.mono B7.out.size))
      have HB38 := Lib.hid (HB37.out.trans (b8.mono HB37.out.size))
      have RS8 := Lib.hid (RS7.out.below b8)
      have R28 := Lib.hid row2
      have HD2 : Hid (∀ j, j < dm → f2 j = digN (basesL DD) i j) := Lib.hid (fun j hj => by
        obtain ⟨b, hb⟩ : ∃ b, (basesL DD)[j]? = some b := ⟨_, List.getElem?_eq_getElem (by rw [HBL.out]; exact hj)⟩
        exact (hd2 j b hb).2)
      have y0 := K8.out.cell (i := 0) (v := .int .i64 f) rfl
      have y1 := K8.out.cell (i := 1) (v := .int .i64 k) rfl
      have y2 := K8.out.cell (i := 2) (v := .slice (some ⟨g, 0, none⟩) dm dm) rfl
      clear row2 hd2 b8 HD7 K7 B7 HB37 RS7
      go_wp2_with fail
      go_loopw [17, 132] (fun _ y wr => ∃ j : Nat, j ≤ dm ∧ y = .int .i64 j ∧ Below w8.heap.size w8 wr) (fun _ y _ => dm - (intOf y).toNat)
      case atStart => exact ⟨0, by omega, rfl, Below.refl _ _⟩
      case round =>
        clear y0 y1 y2
        obtain ⟨j, hj, rfl, hbj⟩ := hrel
        rename World => wr
        have BJ := Lib.hid hbj
        have K9 := Lib.hid (K8.out.below hbj)
        have y0 := K9.out.cell (i := 0) (v := .int .i64 f) rfl
        have y1 := K9.out.cell (i := 1) (v := .int .i64 k) rfl
        have y2 := K9.out.cell (i := 2) (v := .slice (some ⟨g, 0, none⟩) dm dm) rfl
        have hk9 := K9.out.lt
        clear hbj
        by_cases hjd : j < dm
        · have hjd' : (j : Int) < dm := by omega
          have z1 := ((HROW.out.below HB38.out).below BJ.out).cell hjd
          have z2 := (R28.out.below BJ.out).cell hjd
          have hz := HD2.out j hjd
          obtain ⟨l9, hl9⟩ : ∃ l9, DD.dirtyL[j]? = some l9 := ⟨_, List.getElem?_eq_getElem (by rw [← digC_len DD i, HDL.out]; exact hjd)⟩
          have hd9 := digN_lt i hl9
          have hb9 := HDB2.out l9 (List.mem_of_getElem? hl9)
          rw [hz] at z2
          obtain ⟨d9, hd99⟩ : ∃ d9, digN (basesL DD) i j = d9 := ⟨_, rfl⟩
          rw [hd99] at z1 z2 hd9
          have ga9 : IntKind.i64.wrap (d9 : Int) = (d9 : Int) := IntWalk.i64_in _ (by omega)
          clear hz hl9 hd99 hb9 hd9
          go_wp2_with fail
          go_region
          go_wp2_with fail
          go_roundw
          case rel => exact ⟨j + 1, by omega, by go_num, BJ.out.drew⟩
          case measure => simp [intOf]; omega
        · obtain rfl : j = dm := by omega
          have HC9 := Lib.hid (HCF.out wr (.slice sa mq sc) (RS8.out.below BJ.out) k (.slice (some ⟨g, 0, none⟩) j j) (digC DD i) ((HRD.out.below HB38.out).below BJ.out) (digC_bd i HDB2.out) (by rw [HDL.out]; omega))
          clear HCF
          go_wp2_with fail
          (with_reducible refine HC9.out.mono ?_)
          rintro r w10 ⟨hp, b10⟩
          have B10 := Lib.hid ((B8.out.trans (BJ.out.mono B8.out.size)).trans (b10.mono (Nat.le_trans B8.out.size BJ.out.size)))
          unfold CfPost at hp
          rcases hp with ⟨hcd, _⟩ | ⟨_, kn, hkk, hkn, rfl⟩
          · exfalso
            have := HKL.out
            rcases hcd with h | h | h
            · cases h
            · omega
            · omega
          · obtain rfl : kn = k := by omega
            rw [HDD.out, digC_good i (by rw [HX1.out.2]; omega), HSP.out]
            clear b10 hkk hkn
            go_wp2_with fail
            go_ret
            exact ⟨rfl, B10.out⟩
  · go_wp2_with fail
    (with_reducible refine HFI1.out.mono ?_)
    rintro r w3 ⟨hp, b3⟩
    have B3 := Lib.hid (B2.out.trans (b3.mono B2.out.size))
    have R3' := Lib.hid (R2.out.below b3)
    have hsz3 : w.heap.size ≤ w3.heap.size := B3.out.size
    clear HFI1 B2 R2
    unfold FiP at hp
    rcases hp with ⟨hL1, rfl⟩ | ⟨hL1, ⟨hi1, rfl⟩ | ⟨hi1, hcode, rfl⟩ | ⟨hi1, hcode, rfl⟩ | ⟨hi1, k, i, g, hfd, hkl, hip, rfl, hrow⟩⟩
    · exact absurd hL1 (by decide)
    · have K4 := Lib.hid (Blk.new w3 #[.int .i64 0, .int .i64 0, .slice none 0 0] 36)
      have B4 := Lib.hid (B3.out.trans ((below_alloc w3 (.cells #[.int .i64 0, .int .i64 0, .slice none 0 0] 36)).mono B3.out.size))
      have R4 := Lib.hid (R3'.out.alloc (.cells #[.int .i64 0, .int .i64 0, .slice none 0 0] 36))
      have HW4 := Lib.hid (HWO.out _ _ R4.out)
      clear HWO
      subst hi1
      have hL1' : ¬ (300 : Int) < 1 := by omega
      go_wp2_with fail
      (with_reducible refine HW4.out.mono ?_)
      rintro r w5 ⟨sv5, rfl, r5, b5⟩
      obtain ⟨qa, qc, hq5⟩ : ∃ qa qc, sv5 = .slice qa M qc := by obtain ⟨_, a, c, e, _, _⟩ := r5; exact ⟨a, c, e⟩
      subst hq5
      have K5 := Lib.hid (K4.out.below b5)
      have B5 := Lib.hid (B4.out.trans (b5.mono B4.out.size))
      have R5 := Lib.hid r5
      clear r5 b5 HW4 K4 B4
      go_wp2_with fail
      go_ret
      exact ⟨rfl, B5.out⟩
    · have K4 := Lib.hid (Blk.new w3 #[.int .i64 0, .int .i64 0, .slice none 0 0] 36)
      have B4 := Lib.hid (B3.out.trans ((below_alloc w3 (.cells #[.int .i64 0, .int .i64 0, .slice none 0 0] 36)).mono B3.out.size))
      have R4 := Lib.hid (R3'.out.alloc (.cells #[.int .i64 0, .int .i64 0, .slice none 0 0] 36))
      have HW4 := Lib.hid (HWO.out _ _ R4.out)
      clear HWO
      subst hi1
      rw [show ((300 : Int)).toNat = 300 from rfl] at hcode
      have hL1' : ¬ (300 : Int) < 1 := by omega
      have gL : IntKind.u64.wrap 300 = 300 := IntWalk.u64_in _ (by omega)
      have HCD := Lib.hid hcode
      clear hcode
      go_wp2_with fail
      (with_reducible refine HW4.out.mono ?_)
      rintro r w5 ⟨sv5, rfl, r5, b5⟩
      obtain ⟨qa, qc, hq5⟩ : ∃ qa qc, sv5 = .slice qa M qc := by obtain ⟨_, a, c, e, _, _⟩ := r5; exact ⟨a, c, e⟩
      subst hq5
      have K5 := Lib.hid (K4.out.below b5)
      have B5 := Lib.hid (B4.out.trans (b5.mono B4.out.size))
      have R5 := Lib.hid r5
      have HF5 := Lib.hid (HFO.out w5 _ R5.out 300 (by omega))
      unfold FdRet at HF5
      rw [HCD.out] at HF5
      rw [show ((300 : Nat) : Int) = 300 from rfl] at HF5
      rw [show ((2 : Nat) : Int) = 2 from rfl] at HF5
      clear HFO r5 b5 HW4 K4 B4
      go_wp2_with fail
      (with_reducible refine HF5.out.mono ?_)
      rintro r w6 ⟨rfl, b6⟩
      have K6 := Lib.hid (K5.out.below b6)
      have B6 := Lib.hid (B5.out.trans (b6.mono B5.out.size))
      have y1 := K6.out.cell (i := 1) (v := .int .i64 0) rfl
      have y2 := K6.out.cell (i := 2) (v := .slice none 0 0) rfl
      clear b6 HF5
      go_wp2_with fail
      go_ret
      exact ⟨rfl, B6.out⟩
    · have K4 := Lib.hid (Blk.new w3 #[.int .i64 0, .int .i64 0, .slice none 0 0] 36)
      have B4 := Lib.hid (B3.out.trans ((below_alloc w3 (.cells #[.int .i64 0, .int .i64 0, .slice none 0 0] 36)).mono B3.out.size))
      have R4 := Lib.hid (R3'.out.alloc (.cells #[.int .i64 0, .int .i64 0, .slice none 0 0] 36))
      have HW4 := Lib.hid (HWO.out _ _ R4.out)
      clear HWO
      subst hi1
      rw [show ((300 : Int)).toNat = 300 from rfl] at hcode
      have hL1' : ¬ (300 : Int) < 1 := by omega
      have gL : IntKind.u64.wrap 300 = 300 := IntWalk.u64_in _ (by omega)
      have HCD := Lib.hid hcode
      clear hcode
      go_wp2_with fail
      (with_reducible refine HW4.out.mono ?_)
      rintro r w5 ⟨sv5, rfl, r5, b5⟩
      obtain ⟨qa, qc, hq5⟩ : ∃ qa qc, sv5 = .slice qa M qc := by obtain ⟨_, a, c, e, _, _⟩ := r5; exact ⟨a, c, e⟩
      subst hq5
      have K5 := Lib.hid (K4.out.below b5)
      have B5 := Lib.hid (B4.out.trans (b5.mono B4.out.size))
      have R5 := Lib.hid r5
      have HF5 := Lib.hid (HFO.out w5 _ R5.out 300 (by omega))
      unfold FdRet at HF5
      rw [HCD.out] at HF5
      rw [show ((300 : Nat) : Int) = 300 from rfl] at HF5
      rw [show ((1 : Nat) : Int) = 1 from rfl] at HF5
      clear HFO r5 b5 HW4 K4 B4
      go_wp2_with fail
      (with_reducible refine HF5.out.mono ?_)
      rintro r w6 ⟨rfl, b6⟩
      have K6 := Lib.hid (K5.out.below b6)
      have B6 := Lib.hid (B5.out.trans (b6.mono B5.out.size))
      have y1 := K6.out.cell (i := 1) (v := .int .i64 0) rfl
      have y2 := K6.out.cell (i := 2) (v := .slice none 0 0) rfl
      clear b6 HF5
      go_wp2_with fail
      go_ret
      exact ⟨rfl, B6.out⟩
    · have hsp := fnd_spec hfd
      have hx1 := HRV.out k
      have hpr := HPR.out k
      have hdb := HDB.out k
      have HAF1 := Lib.hid (fun wx pv hx => HAF.out wx pv hx k (by rw [HM.out] at hkl; exact hkl))
      obtain ⟨DD, hDD⟩ : ∃ DD, D0.run 0 (Q.take k) = DD := ⟨_, rfl⟩
      have HDD := Lib.hid hDD
      rw [hDD] at hip hrow hsp hx1 hpr hdb HAF1 ⊢
      have hbl := basesL_len DD
      have hdmn : DD.dirtyL.length ≤ DD.n := by unfold Dev.dirtyL; exact filt_len DD DD.n
      have hrd := digC_rd hrow
      obtain ⟨dm, hdm⟩ : ∃ dm, DD.dirtyL.length = dm := ⟨_, rfl⟩
      rw [hdm] at hrow hbl hdmn hrd ⊢
      have hdl : (digC DD i).length = dm := by rw [digC_len, hdm]
      have HROW := Lib.hid hrow; have HRD := Lib.hid hrd; have HX1 := Lib.hid hx1; have HDB1 := Lib.hid hdb; have HSP := Lib.hid hsp; have HBL := Lib.hid hbl; have HDL := Lib.hid hdl
      have hdm4 : dm ≤ 4 := by have := hx1.2; omega
      have HIP := Lib.hid (And.intro hip hpr)
      have HKL := Lib.hid hkl
      have hgl : 0 < dm → g < w3.heap.size := fun _ => hrow.lt
      clear hDD hrow hrd hx1 hpr hdb hip hsp hbl hdl hdm HRV HPR HDB hdmn
      have K4 := Lib.hid (Blk.new w3 #[.int .i64 f, .int .i64 k, .slice (some ⟨g, 0, none⟩) dm dm] 36)
      have B4 := Lib.hid (B3.out.trans ((below_alloc w3 (.cells #[.int .i64 f, .int .i64 k, .slice (some ⟨g, 0, none⟩) dm dm] 36)).mono B3.out.size))
      have R4 := Lib.hid (R3'.out.alloc (.cells #[.int .i64 f, .int .i64 k, .slice (some ⟨g, 0, none⟩) dm dm] 36))
      have HW4 := Lib.hid (HWO.out _ _ R4.out)
      clear HWO
      subst hi1
      rw [show ((300 : Int)).toNat = 300 from rfl] at hfd
      have hL1' : ¬ (300 : Int) < 1 := by omega
      have gL : IntKind.u64.wrap 300 = 300 := IntWalk.u64_in _ (by omega)
      have HFD := Lib.hid hfd
      clear hfd
      go_wp2_with fail
      (with_reducible refine HW4.out.mono ?_)
      rintro r w5 ⟨sv5, rfl, r5, b5⟩
      obtain ⟨qa, qc, hq5⟩ : ∃ qa qc, sv5 = .slice qa M qc := by obtain ⟨_, a, c, e, _, _⟩ := r5; exact ⟨a, c, e⟩
      subst hq5
      have K5 := Lib.hid (K4.out.below b5)
      have B5 := Lib.hid (B4.out.trans (b5.mono B4.out.size))
      have R5 := Lib.hid r5
      have HF5 := Lib.hid (HFO.out w5 _ R5.out 300 (by omega))
      unfold FdRet at HF5
      rw [HFD.out] at HF5
      rw [show ((300 : Nat) : Int) = 300 from rfl] at HF5
      dsimp only at HF5
      rw [show ((0 : Nat) : Int) = 0 from rfl] at HF5
      have HB35 : Hid (Below w3.heap.size w3 w5) := Lib.hid ((below_alloc w3 (.cells #[.int .i64 f, .int .i64 k, .slice (some ⟨g, 0, none⟩) dm dm] 36)).trans (b5.mono (by simp)))
      have RS5 := Lib.hid (R4.out.below b5)
      clear HFO r5 b5 HW4 K4 B4 R4
      go_wp2_with fail
      (with_reducible refine HF5.out.mono ?_)
      rintro r w6 ⟨rfl, b6⟩
      have HA6 := Lib.hid (HAF1.out w6 _ (R5.out.below b6))
      have K6 := Lib.hid (K5.out.below b6)
      have B6 := Lib.hid (B5.out.trans (b6.mono B5.out.size))
      have HB36 := Lib.hid (HB35.out.trans (b6.mono HB35.out.size))
      have RS6 := Lib.hid (RS5.out.below b6)
      clear b6 HF5 HAF1 K5 B5 HB35 RS5
      go_wp2_with fail
      (with_reducible refine HA6.out.mono ?_)
      rintro r w7 ⟨rb, lb, hv, nv, ns, rfl, r7, b7⟩
      have HD7 := Lib.hid (r5Digits_any r7 (by have := HX1.out.1; omega) i HIP.out.1 (by have := HIP.out.2; omega))
      have HDB2 := Lib.hid (HDB1.out r7.up.wf)
      rw [HBL.out] at HD7
      have K7 := Lib.hid (K6.out.below b7)
      have B7 := Lib.hid (B6.out.trans (b7.mono B6.out.size))
      have HB37 := Lib.hid (HB36.out.trans (b7.mono HB36.out.size))
      have RS7 := Lib.hid (RS6.out.below b7)
      clear r7 b7 HA6 K6 B6 HB36 RS6
      go_wp2_with fail
      (with_reducible refine HD7.out.mono ?_)
      rintro r w8 ⟨g2, f2, rfl, row2, hd2, _, b8⟩
      have K8 := Lib.hid (K7.out.below b8)
      have B8 := Lib.hid (B7.out.trans (b8.mono B7.out.size))
      have HB38 := Lib.hid (HB37.out.trans (b8.mono HB37.out.size))
      have RS8 := Lib.hid (RS7.out.below b8)
      have R28 := Lib.hid row2
      have HD2 : Hid (∀ j, j < dm → f2 j = digN (basesL DD) i j) := Lib.hid (fun j hj => by
        obtain ⟨b, hb⟩ : ∃ b, (basesL DD)[j]? = some b := ⟨_, List.getElem?_eq_getElem (by rw [HBL.out]; exact hj)⟩
        exact (hd2 j b hb).2)
      have y0 := K8.out.cell (i := 0) (v := .int .i64 f) rfl
      have y1 := K8.out.cell (i := 1) (v := .int .i64 k) rfl
      have y2 := K8.out.cell (i := 2) (v := .slice (some ⟨g, 0, none⟩) dm dm) rfl
      clear row2 hd2 b8 HD7 K7 B7 HB37 RS7
      go_wp2_with fail
      go_loopw [17, 132] (fun _ y wr => ∃ j : Nat, j ≤ dm ∧ y = .int .i64 j ∧ Below w8.heap.size w8 wr) (fun _ y _ => dm - (intOf y).toNat)
      case atStart => exact ⟨0, by omega, rfl, Below.refl _ _⟩
      case round =>
        clear y0 y1 y2
        obtain ⟨j, hj, rfl, hbj⟩ := hrel
        rename World => wr
        have BJ := Lib.hid hbj
        have K9 := Lib.hid (K8.out.below hbj)
        have y0 := K9.out.cell (i := 0) (v := .int .i64 f) rfl
        have y1 := K9.out.cell (i := 1) (v := .int .i64 k) rfl
        have y2 := K9.out.cell (i := 2) (v := .slice (some ⟨g, 0, none⟩) dm dm) rfl
        have hk9 := K9.out.lt
        clear hbj
        by_cases hjd : j < dm
        · have hjd' : (j : Int) < dm := by omega
          have z1 := ((HROW.out.below HB38.out).below BJ.out).cell hjd
          have z2 := (R28.out.below BJ.out).cell hjd
          have hz := HD2.out j hjd
          obtain ⟨l9, hl9⟩ : ∃ l9, DD.dirtyL[j]? = some l9 := ⟨_, List.getElem?_eq_getElem (by rw [← digC_len DD i, HDL.out]; exact hjd)⟩
          have hd9 := digN_lt i hl9
          have hb9 := HDB2.out l9 (List.mem_of_getElem? hl9)
          rw [hz] at z2
          obtain ⟨d9, hd99⟩ : ∃ d9, digN (basesL DD) i j = d9 := ⟨_, rfl⟩
          rw [hd99] at z1 z2 hd9
          have ga9 : IntKind.i64.wrap (d9 : Int) = (d9 : Int) := IntWalk.i64_in _ (by omega)
          clear hz hl9 hd99 hb9 hd9
          go_wp2_with fail
          go_region
          go_wp2_with fail
          go_roundw
          case rel => exact ⟨j + 1, by omega, by go_num, BJ.out.drew⟩
          case measure => simp [intOf]; omega
        · obtain rfl : j = dm := by omega
          have HC9 := Lib.hid (HCF.out wr (.slice sa mq sc) (RS8.out.below BJ.out) k (.slice (some ⟨g, 0, none⟩) j j) (digC DD i) ((HRD.out.below HB38.out).below BJ.out) (digC_bd i HDB2.out) (by rw [HDL.out]; omega))
          clear HCF
          go_wp2_with fail
          (with_reducible refine HC9.out.mono ?_)
          rintro r w10 ⟨hp, b10⟩
          have B10 := Lib.hid ((B8.out.trans (BJ.out.mono B8.out.size)).trans (b10.mono (Nat.le_trans B8.out.size BJ.out.size)))
          unfold CfPost at hp
          rcases hp with ⟨hcd, _⟩ | ⟨_, kn, hkk, hkn, rfl⟩
          · exfalso
            have := HKL.out
            rcases hcd with h | h | h
            · cases h
            · omega
            · omega
          · obtain rfl : kn = k := by omega
            rw [HDD.out, digC_good i (by rw [HX1.out.2]; omega), HSP.out]
            clear b10 hkk hkn
            go_wp2_with fail
            go_ret
            exact ⟨rfl, B10.out⟩
end
end Go.Proofs.Ytoakngofgkkpnaa
