/- The walk of RootPlans; the reference's Program. -/
import Derived.Test.YtmfchlliechikaaGreatDoorRuK
import Derived.Test.YtmfchlliechikaaGreatDoorEqR
import Derived.Test.YtmfchlliechikaaGreatDoorR11
namespace Go.Proofs.YtmfchlliechikaaGreatDoor
open Go.RowKit Go.Maps
attribute [local go_sem ↓] Go.wp_at_zero Go.wp_at_succ

theorem zero38 : rfA 192 (nmR W0) (ptR W0) W0 = Tryz.zeroCells38.setIfInBounds 0 (.int .u64 192) := by kernel_rfl
theorem infoRW : (Tryz.prog.info? 150).map (fun i => (i.zero, i.size, i.bytes)) = some (some (.agg #[.int .u64 0, .int .u64 0]), 2, 16) := by kernel_rfl
theorem take_flat (l : List (Nat × Int)) (k : Nat) (e : Nat × Int) (h : l[k]? = some e) : flat (l.take (k + 1)) = flat (l.take k) ++ flat [e] := by rw [List.take_add_one, h, flat_append]; rfl
theorem take_instrR (l : List (Nat × Nat × Int)) (k : Nat) (e : Nat × Nat × Int) (h : l[k]? = some e) : instrC (l.take (k + 1)) = instrC (l.take k) ++ instrC [e] := by
  rw [take_snocI l k e h, instrC_append]
section
variable {w : World}
set_option maxRecDepth 100000 in
set_option maxHeartbeats 8000000 in
theorem r14Program_any (sv : Value) (l : List (Nat × Int)) (hs : RdSl w 2 sv l.length (flat l)) (hn : l.length ≤ 100000) (hb : ∀ e ∈ l, e.1 < 18446744073709551616) :
    Calls Tryz.prog 36 #[sv] w fun r w' => ∃ ov, r = .returned ov ∧ Acc w w.heap.size w' 89 3 ov (storesL l).length (instrC (storesL l)) := by
  obtain ⟨i0, hi0, hz0, hz1, hz2⟩ := info_parts infoRW
  have I := Lib.hid (And.intro hi0 (And.intro hz0 (And.intro hz1 hz2))); clear hi0 hz0 hz1 hz2
  obtain ⟨_, a, ca, rfl, hca, ha⟩ := hs
  have HA := Lib.hid ha
  have HST := Lib.hid (fun (wx : World) (sv : Value) (h : RdSl wx 2 sv l.length (flat l)) => r10Stores_any (w := wx) sv l h hn hb)
  clear ha hb
  have HI0 : Hid (flat (l.take 0) = []) := rfl
  generalize hn1 : l.length = n at *
  have HN := Lib.hid hn1
  clear hn1
  go_enter Tryz.func36, Tryz.ntmps36
  go_wp2_with fail
  go_loopw [3, 5, 8] (fun pv _ y wr => ∃ k : Nat, k ≤ n ∧ y = .int .i64 k ∧ Acc w w.heap.size wr 150 2 pv k (flat (l.take k))) (fun _ _ y _ => n - (intOf y).toNat)
  case atStart => exact ⟨0, by omega, rfl, by rw [HI0.out]; exact Acc.nil _ _ _ _ _ (Below.refl _ _) (Nat.le_refl _)⟩
  case round =>
    obtain ⟨k, hk, rfl, hacc⟩ := hrel
    have A1 := Lib.hid hacc
    obtain ⟨pa, pc, rfl⟩ := hacc.slice
    clear hacc
    by_cases hlt : k < n
    · have hk' : (k : Int) < n := by omega
      obtain ⟨e, he⟩ : ∃ e, l[k]? = some e := ⟨_, List.getElem?_eq_getElem (by rw [HN.out]; exact hlt)⟩
      have hg := flat_get' l k e he
      obtain ⟨eb, eo, rfl, hcell⟩ := rd_at HA.out hg.1
      have hb := A1.out.bel
      have c1 := (hb.cell (p := ⟨eb, eo + k * 2, none⟩) (World.block_lt_of_cell? w _ (hcell _ _ hg.1))).trans (hcell _ _ hg.1)
      have c2 := (hb.cell (p := ⟨eb, eo + (k * 2 + 1), none⟩) (World.block_lt_of_cell? w _ (hcell _ _ hg.2))).trans (hcell _ _ hg.2)
      rw [← Nat.add_assoc] at c2
      have HT := Lib.hid (take_flat l k e he)
      clear hcell he hg hb
      obtain ⟨e1, e2⟩ := e
      simp only at c1 c2
      have A2 := Lib.hid (A1.out.keep (below_alloc wr (.cells #[.int .u64 e1, .int .u64 e2] 104)))
      go_wp2_with (at_builtin; refine wpList_append_sl _ rfl _ _ 149 rfl 150 i0 _ 2 16 Tryz.underlying149 I.out.1 I.out.2.1 I.out.2.2.1 I.out.2.2.2 rfl (by decide) _ _ _ rfl (by exact (A2.out.own.alloc _)) _ 1 (flat [(e1, e2)]) rfl (by exact RdSl.newAt _ _ _ 2 1 _ (by simp) rfl) (flat_one _) (by unfold maxLen; omega) (by omega) ?_)
      intro v1 w1 o1 g1 b1 n1
      have A3 : Hid (Acc w w.heap.size w1 150 2 v1 (k + 1) (flat (l.take (k + 1)))) := by
        show Acc _ _ _ _ _ _ _ _
        have := A2.out.next (m := 1) (below_alloc _ _) o1 g1 b1 (by simp)
        rw [HT.out]
        exact this
      clear o1 g1 b1 n1
      go_wp2_with fail
      go_roundw
      case rel => exact ⟨k + 1, by omega, by go_num, A3.out⟩
      case measure => simp [intOf]; omega
    · obtain rfl : k = n := by omega
      have A2 := Lib.hid A1.out
      rw [List.take_of_length_le (by rw [HN.out]; omega)] at A2
      have HST2 := Lib.hid (HST.out _ _ A2.out.rd)
      clear HST
      go_wp2_with fail
      (with_reducible refine HST2.out.mono ?_)
      rintro r w5 ⟨ov, rfl, ho⟩
      have O5 := Lib.hid (ho.deeper A2.out.bel)
      clear ho
      go_wp2_with fail
      go_ret
      exact ⟨_, rfl, O5.out⟩
theorem Pn14.both {W : Nat → Nat} {l : List UInt8} {p : Nat} {r : Ending} {w' : World} (h : Pn14 w W 192 l p 1280 r w') : ∃ oa oc, r = .returned (.tuple #[.slice oa (storesL (wrO 192 (actL W l p))).length oc, .int .i64 (errE W l p 1280 : Nat)]) ∧ Acc w w.heap.size w' 87 3 (.slice oa (storesL (wrO 192 (actL W l p))).length oc) (storesL (wrO 192 (actL W l p))).length (instrC (storesL (wrO 192 (actL W l p)))) := by
  rcases h with ⟨he, rfl, hb⟩ | ⟨he, ov, rfl, ha⟩
  · have e : actL W l p = [] := if_neg he
    have e3 : storesL (wrO 192 (actL W l p)) = [] := by rw [e]; rfl
    rw [e3]
    exact ⟨none, 0, rfl, Acc.nil _ _ _ _ _ hb hb.size⟩
  · have e : actL W l p = wrE W l p := if_pos he
    unfold progR at ha
    obtain ⟨oa, oc, rfl⟩ := ha.slice
    rw [e, he]
    exact ⟨oa, oc, rfl, ha⟩
set_option maxRecDepth 100000 in
set_option maxHeartbeats 8000000 in
theorem rootPlans_any (hN : Nib w) (n : Nat) (sv : Value) (xs : List Value) (hs : RdSl w 3 sv n xs) (hn : n ≤ maxLen) (hop : ∀ i, i < n → OpR xs i) (d : Nat) (t : ByteArray) (q : Nat) (hq64 : q < 18446744073709551616) :
    Calls Tryz.prog 8 #[sv, .agg #[.int .u8 d, .string t, .int .u64 q]] w fun r w' => r = .returned (.bool true) ∧ Below w.heap.size w w' := by
  unfold maxLen at hn
  obtain ⟨i0, hi0, hz0, hz1, hz2⟩ := info_parts infoRI
  have I := Lib.hid (And.intro hi0 (And.intro hz0 (And.intro hz1 hz2))); clear hi0 hz0 hz1 hz2
  obtain ⟨_, a, ca, rfl, hca, ha⟩ := hs
  have HAA := Lib.hid ha; have HOP := Lib.hid hop
  have K0 := Lib.hid (Blk.new w #[.int .u8 d, .string t, .int .u64 q] 40)
  have B0 := Lib.hid (below_alloc w (.cells #[.int .u8 d, .string t, .int .u64 q] 40))
  have HNB := Lib.hid (hN.below B0.out)
  clear ha hop hN
  have HAW := Lib.hid (fun (wx : World) (h : Nib wx) => awake14 h)
  have HMD := Lib.hid (fun (wx : World) (h : Nib wx) => made14 h)
  go_enter Tryz.func8, Tryz.ntmps8
  go_wp2_with fail
  (with_reducible refine (HAW.out _ HNB.out).mono ?_)
  rintro e w1 ⟨rfl, b1⟩
  have B1 := Lib.hid (B0.out.trans (b1.mono B0.out.size))
  have K1 := Lib.hid (K0.out.below b1)
  have N1 := Lib.hid (HNB.out.below b1)
  clear b1 HAW
  go_wp2_with fail
  (with_reducible refine (HMD.out _ N1.out).mono ?_)
  rintro e w2 ⟨v, own, D, b, rfl, h2, hb⟩
  have S2 := Lib.hid (lws_start h2)
  clear h2 hb HMD
  go_wp2_with fail
  rw [zero38] at S2
  generalize World.alloc w2 _ = w3 at *
  generalize w2.heap.size = rb at *
  go_loopw [8, 9, 27] (fun _ _ z wr => ∃ i : Nat, i ≤ n ∧ i ≤ 40 ∧ z = .int .i64 i ∧ ∃ own D W, LwS w1 v own D b rb W (33 + 9 * i) wr) (fun _ _ z _ => n - (intOf z).toNat)
  case atStart => exact ⟨0, by omega, by omega, rfl, _, _, _, S2.out⟩
  case round =>
    clear S2
    obtain ⟨i, hi, hi4, rfl, own, D, W, hs⟩ := hrel
    have R := Lib.hid hs
    clear hs
    rename World => wr
    have HEND : Hid (∀ (wy : World) (own : Nat → Option Role) (D : Dev) (W : Nat → Nat) (x : Nat), LwS w1 v own D b rb W x wy → Below w.heap.size w wy) := fun wy own D W x h => B1.out.trans (h.bel.mono B1.out.size)
    by_cases hlt : i < n ∧ i < 40
    · obtain ⟨hlt, hl4⟩ := hlt
      have hi1 : (i : Int) < n := by omega
      obtain ⟨ab, aq, o, s, p, rfl, c0, c1, c2, b0, b2⟩ := opR_now HAA.out (HOP.out i hlt) (HEND.out _ _ _ _ _ R.out)
      have hq : ((i : Int) == 40) = false := by simp; omega
      have R4 := Lib.hid (R.out.next (below_alloc wr (.cells #[.int .u8 o, .string s, .int .u64 p] 40)))
      have HAP := Lib.hid (apply14_any R4.out N1.out o s p b2 (by omega))
      clear R
      go_wp2_with fail
      (with_reducible refine HAP.out.mono ?_)
      rintro e w5 ⟨rfl, own5, D5, h5⟩
      have R5 := Lib.hid h5
      clear h5 HAP R4
      go_wp2_with fail
      go_roundw
      case rel => exact ⟨i + 1, by omega, by omega, by go_num, _, _, _, R5.out.at (by omega)⟩
      case measure => simp [intOf]; omega
    · have NN := Lib.hid N1.out
      by_cases hin : i < n
      · obtain rfl : i = 40 := by omega
        have hi1 : ((40 : Nat) : Int) < n := by omega
        obtain ⟨ab, aq, o, s, p, rfl, c0, c1, c2, _, _⟩ := opR_now HAA.out (HOP.out 40 hin) (HEND.out _ _ _ _ _ R.out)
        obtain ⟨x, hx⟩ : ∃ x, 33 + 9 * 40 = x := ⟨_, rfl⟩
        have RT := Lib.hid ((R.out.next (below_alloc wr (.cells #[.int .u8 o, .string s, .int .u64 p] 40))).at hx)
        clear hx R hlt hin hi4 hi HOP HAA HNB N1
        go_upto_region 12 with fail
        clear c0 c1 c2
        have KT := Lib.hid (K1.out.below RT.out.bel)
        have c1 := KT.out.cell (i := 1) (v := .string t) rfl
        have c2 := KT.out.cell (i := 2) (v := .int .u64 q) rfl
        have hPl := rtPlan_any RT.out.pl.st.don (NN.out.below RT.out.bel) t q hq64
        rw [RT.out.pl.st.lines] at hPl
        have HPL := Lib.hid hPl
        have HAC := Lib.hid (fun (wx : World) (hr : RfAt wx rb 192 W) => r14Actions_any hr RT.out.pl.inv (by omega) t q hq64)
        have hn4 := actL_len W t.toList q
        have hin : ∀ e ∈ wrO 192 (actL W t.toList q), e.1 < 18446744073709551616 := fun e he => by
          unfold wrO at he
          obtain ⟨y, hy, rfl⟩ := List.mem_map.1 he
          have := actL_in W t.toList q hq64 y hy
          show 192 + 8 * y.1 < _
          omega
        have HPG := Lib.hid (fun (wx : World) (sv : Value) (h : RdSl wx 2 sv (wrO 192 (actL W t.toList q)).length (flat (wrO 192 (actL W t.toList q)))) => r14Program_any (w := wx) sv _ h (by rw [wrO_len]; omega) hin)
        have hsl := storesL_len (wrO 192 (actL W t.toList q))
        rw [wrO_len] at hsl HPG
        have HSM := Lib.hid (fun (wx : World) (u z : Value) (h1 : RdSl wx 3 u (storesL (wrO 192 (actL W t.toList q))).length (instrC (storesL (wrO 192 (actL W t.toList q))))) (h2 : RdSl wx 3 z (storesL (wrO 192 (actL W t.toList q))).length (instrC (storesL (wrO 192 (actL W t.toList q))))) => r10Same_same u z _ h1 h2 (by omega))
        have HAL := Lib.hid (fun (wy : World) (h : LwS w1 v own D b rb W x wy) => alike_any h.pl h.d)
        clear hPl hin
        go_wp2_with fail
        (with_reducible refine HPL.out.mono ?_)
        rintro r w5 h5
        obtain ⟨oa, oc, rfl, ha5⟩ := h5.both
        have A5 := Lib.hid ha5
        have R5 := Lib.hid (RT.out.next ha5.bel)
        clear h5 ha5 HPL c1 c2 RT
        have c1 := (KT.out.below A5.out.bel).cell (i := 1) (v := .string t) rfl
        have c2 := (KT.out.below A5.out.bel).cell (i := 2) (v := .int .u64 q) rfl
        go_wp2_with fail
        (with_reducible refine (HAC.out _ R5.out.pl.rf).mono ?_)
        rintro r w6 h6
        obtain ⟨ra, rc, rfl, hr6⟩ := h6.both
        have R6 := Lib.hid (R5.out.next hr6.bel)
        have RD1 := Lib.hid (A5.out.rd.below hr6.bel)
        have RDW := Lib.hid hr6.rd
        clear h6 hr6 HAC c1 c2 A5 R5 KT
        obtain ⟨er, her⟩ : ∃ er, errE W t.toList q 1280 = er := ⟨_, rfl⟩
        rw [her]
        obtain ⟨P, hP⟩ : ∃ P, storesL (wrO 192 (actL W t.toList q)) = P := ⟨_, rfl⟩
        rw [hP] at RD1 HSM HPG hsl ⊢
        obtain ⟨m, hm⟩ : ∃ m, P.length = m := ⟨_, rfl⟩
        rw [hm] at RD1 HSM HPG hsl ⊢
        have HM := Lib.hid hm
        obtain ⟨_, _, _, e', _, hA⟩ := RD1.out
        cases e'
        have HA := Lib.hid hA
        have HI0 : Hid (instrC (P.take 0) = []) := rfl
        clear her hP hm hA RD1
        go_wp2_with fail
        go_loopw [14, 16, 61] (fun pv _ y wr => ∃ k : Nat, k ≤ m ∧ y = .int .i64 k ∧ Acc w6 w6.heap.size wr 89 3 pv k (instrC (P.take k))) (fun _ _ y _ => m - (intOf y).toNat)
        case atStart => exact ⟨0, by omega, rfl, by rw [HI0.out]; exact Acc.nil _ _ _ _ _ (Below.refl _ _) (Nat.le_refl _)⟩
        case round =>
          obtain ⟨k, hk, rfl, hacc⟩ := hrel
          have A1 := Lib.hid hacc
          obtain ⟨pa, pc, rfl⟩ := hacc.slice
          clear hacc
          rename World => wz
          by_cases hkm : k < m
          · have hk' : (k : Int) < m := by omega
            obtain ⟨e, he⟩ : ∃ e, P[k]? = some e := ⟨_, List.getElem?_eq_getElem (by rw [HM.out]; exact hkm)⟩
            have hg := instrC_get P k e he
            obtain ⟨eb, eo, rfl, hcell⟩ := rd_at HA.out hg.1
            have hb := A1.out.bel
            have c1 := (hb.cell (p := ⟨eb, eo + k * 3, none⟩) (World.block_lt_of_cell? w6 _ (hcell _ _ hg.1))).trans (hcell _ _ hg.1)
            have c2 := (hb.cell (p := ⟨eb, eo + (k * 3 + 1), none⟩) (World.block_lt_of_cell? w6 _ (hcell _ _ hg.2.1))).trans (hcell _ _ hg.2.1)
            have c3 := (hb.cell (p := ⟨eb, eo + (k * 3 + 2), none⟩) (World.block_lt_of_cell? w6 _ (hcell _ _ hg.2.2))).trans (hcell _ _ hg.2.2)
            rw [← Nat.add_assoc] at c2 c3
            have HT := Lib.hid (take_instrR P k e he)
            clear hcell he hg hb
            obtain ⟨e1, e2, e3⟩ := e
            simp only at c1 c2 c3
            have A2 := Lib.hid (A1.out.keep (below_alloc wz (.cells #[.int .u8 e1, .int .u64 e2, .int .u64 e3] 87)))
            go_wp2_with (at_builtin; refine wpList_append_sl _ rfl _ _ 84 rfl 89 i0 _ 3 24 Tryz.underlying84 I.out.1 I.out.2.1 I.out.2.2.1 I.out.2.2.2 rfl (by decide) _ _ _ rfl (by exact (A2.out.own.alloc _)) _ 1 (instrC [(e1, e2, e3)]) rfl (by exact RdSl.newAt _ _ _ 3 1 _ (by simp) rfl) (instrC_one _) (by unfold maxLen; omega) (by omega) ?_)
            intro v1 w8 o1 g1 b1 n1
            have A3 : Hid (Acc w6 w6.heap.size w8 89 3 v1 (k + 1) (instrC (P.take (k + 1)))) := by
              show Acc _ _ _ _ _ _ _ _
              have := A2.out.next (m := 1) (below_alloc _ _) o1 g1 b1 (by simp)
              rw [HT.out]
              exact this
            clear o1 g1 b1 n1
            go_wp2_with fail
            go_roundw
            case rel => exact ⟨k + 1, by omega, by go_num, A3.out⟩
            case measure => simp [intOf]; omega
          · obtain rfl : k = m := by omega
            have A2 := Lib.hid A1.out
            rw [List.take_of_length_le (by rw [HM.out]; omega)] at A2
            have R7 := Lib.hid (R6.out.next A2.out.bel)
            have HPG2 := Lib.hid (HPG.out _ _ (RDW.out.below A2.out.bel))
            have qq : ((er : Int) == er) = true := by simp
            clear A1 R6 HPG RDW
            go_wp2_with fail
            (with_reducible refine HPG2.out.mono ?_)
            rintro r w8 ⟨gv, rfl, hg8⟩
            have R8 := Lib.hid (R7.out.next hg8.bel)
            have HSM2 := Lib.hid (HSM.out _ _ _ (A2.out.rd.below hg8.bel) hg8.rd)
            clear hg8 HPG2 HSM R7
            go_wp2_with fail
            (with_reducible refine HSM2.out.mono ?_)
            rintro r w9 ⟨rfl, b9⟩
            have R9 := Lib.hid (R8.out.next b9)
            clear b9 HSM2 R8
            go_wp2_with fail
            (with_reducible refine (HAL.out _ R9.out).mono ?_)
            rintro r w10 ⟨rfl, b10⟩
            have R10 := Lib.hid (R9.out.next b10)
            clear b10 HAL R9
            go_wp2_with fail
            go_ret
            exact ⟨rfl, HEND.out _ _ _ _ _ R10.out⟩
      · obtain rfl : i = n := by omega
        obtain ⟨x, hx⟩ : ∃ x, 33 + 9 * i = x := ⟨_, rfl⟩
        have RT := Lib.hid (R.out.at hx)
        clear hx R hlt hin hi4 HOP HAA HNB N1
        have KT := Lib.hid (K1.out.below RT.out.bel)
        have c1 := KT.out.cell (i := 1) (v := .string t) rfl
        have c2 := KT.out.cell (i := 2) (v := .int .u64 q) rfl
        have hPl := rtPlan_any RT.out.pl.st.don (NN.out.below RT.out.bel) t q hq64
        rw [RT.out.pl.st.lines] at hPl
        have HPL := Lib.hid hPl
        have HAC := Lib.hid (fun (wx : World) (hr : RfAt wx rb 192 W) => r14Actions_any hr RT.out.pl.inv (by omega) t q hq64)
        have hn4 := actL_len W t.toList q
        have hin : ∀ e ∈ wrO 192 (actL W t.toList q), e.1 < 18446744073709551616 := fun e he => by
          unfold wrO at he
          obtain ⟨y, hy, rfl⟩ := List.mem_map.1 he
          have := actL_in W t.toList q hq64 y hy
          show 192 + 8 * y.1 < _
          omega
        have HPG := Lib.hid (fun (wx : World) (sv : Value) (h : RdSl wx 2 sv (wrO 192 (actL W t.toList q)).length (flat (wrO 192 (actL W t.toList q)))) => r14Program_any (w := wx) sv _ h (by rw [wrO_len]; omega) hin)
        have hsl := storesL_len (wrO 192 (actL W t.toList q))
        rw [wrO_len] at hsl HPG
        have HSM := Lib.hid (fun (wx : World) (u z : Value) (h1 : RdSl wx 3 u (storesL (wrO 192 (actL W t.toList q))).length (instrC (storesL (wrO 192 (actL W t.toList q))))) (h2 : RdSl wx 3 z (storesL (wrO 192 (actL W t.toList q))).length (instrC (storesL (wrO 192 (actL W t.toList q))))) => r10Same_same u z _ h1 h2 (by omega))
        have HAL := Lib.hid (fun (wy : World) (h : LwS w1 v own D b rb W x wy) => alike_any h.pl h.d)
        clear hPl hin
        go_wp2_with fail
        (with_reducible refine HPL.out.mono ?_)
        rintro r w5 h5
        obtain ⟨oa, oc, rfl, ha5⟩ := h5.both
        have A5 := Lib.hid ha5
        have R5 := Lib.hid (RT.out.next ha5.bel)
        clear h5 ha5 HPL c1 c2 RT
        have c1 := (KT.out.below A5.out.bel).cell (i := 1) (v := .string t) rfl
        have c2 := (KT.out.below A5.out.bel).cell (i := 2) (v := .int .u64 q) rfl
        go_wp2_with fail
        (with_reducible refine (HAC.out _ R5.out.pl.rf).mono ?_)
        rintro r w6 h6
        obtain ⟨ra, rc, rfl, hr6⟩ := h6.both
        have R6 := Lib.hid (R5.out.next hr6.bel)
        have RD1 := Lib.hid (A5.out.rd.below hr6.bel)
        have RDW := Lib.hid hr6.rd
        clear h6 hr6 HAC c1 c2 A5 R5 KT
        obtain ⟨er, her⟩ : ∃ er, errE W t.toList q 1280 = er := ⟨_, rfl⟩
        rw [her]
        obtain ⟨P, hP⟩ : ∃ P, storesL (wrO 192 (actL W t.toList q)) = P := ⟨_, rfl⟩
        rw [hP] at RD1 HSM HPG hsl ⊢
        obtain ⟨m, hm⟩ : ∃ m, P.length = m := ⟨_, rfl⟩
        rw [hm] at RD1 HSM HPG hsl ⊢
        have HM := Lib.hid hm
        obtain ⟨_, _, _, e', _, hA⟩ := RD1.out
        cases e'
        have HA := Lib.hid hA
        have HI0 : Hid (instrC (P.take 0) = []) := rfl
        clear her hP hm hA RD1
        go_wp2_with fail
        go_loopw [14, 16, 61] (fun pv _ y wr => ∃ k : Nat, k ≤ m ∧ y = .int .i64 k ∧ Acc w6 w6.heap.size wr 89 3 pv k (instrC (P.take k))) (fun _ _ y _ => m - (intOf y).toNat)
        case atStart => exact ⟨0, by omega, rfl, by rw [HI0.out]; exact Acc.nil _ _ _ _ _ (Below.refl _ _) (Nat.le_refl _)⟩
        case round =>
          obtain ⟨k, hk, rfl, hacc⟩ := hrel
          have A1 := Lib.hid hacc
          obtain ⟨pa, pc, rfl⟩ := hacc.slice
          clear hacc
          rename World => wz
          by_cases hkm : k < m
          · have hk' : (k : Int) < m := by omega
            obtain ⟨e, he⟩ : ∃ e, P[k]? = some e := ⟨_, List.getElem?_eq_getElem (by rw [HM.out]; exact hkm)⟩
            have hg := instrC_get P k e he
            obtain ⟨eb, eo, rfl, hcell⟩ := rd_at HA.out hg.1
            have hb := A1.out.bel
            have c1 := (hb.cell (p := ⟨eb, eo + k * 3, none⟩) (World.block_lt_of_cell? w6 _ (hcell _ _ hg.1))).trans (hcell _ _ hg.1)
            have c2 := (hb.cell (p := ⟨eb, eo + (k * 3 + 1), none⟩) (World.block_lt_of_cell? w6 _ (hcell _ _ hg.2.1))).trans (hcell _ _ hg.2.1)
            have c3 := (hb.cell (p := ⟨eb, eo + (k * 3 + 2), none⟩) (World.block_lt_of_cell? w6 _ (hcell _ _ hg.2.2))).trans (hcell _ _ hg.2.2)
            rw [← Nat.add_assoc] at c2 c3
            have HT := Lib.hid (take_instrR P k e he)
            clear hcell he hg hb
            obtain ⟨e1, e2, e3⟩ := e
            simp only at c1 c2 c3
            have A2 := Lib.hid (A1.out.keep (below_alloc wz (.cells #[.int .u8 e1, .int .u64 e2, .int .u64 e3] 87)))
            go_wp2_with (at_builtin; refine wpList_append_sl _ rfl _ _ 84 rfl 89 i0 _ 3 24 Tryz.underlying84 I.out.1 I.out.2.1 I.out.2.2.1 I.out.2.2.2 rfl (by decide) _ _ _ rfl (by exact (A2.out.own.alloc _)) _ 1 (instrC [(e1, e2, e3)]) rfl (by exact RdSl.newAt _ _ _ 3 1 _ (by simp) rfl) (instrC_one _) (by unfold maxLen; omega) (by omega) ?_)
            intro v1 w8 o1 g1 b1 n1
            have A3 : Hid (Acc w6 w6.heap.size w8 89 3 v1 (k + 1) (instrC (P.take (k + 1)))) := by
              show Acc _ _ _ _ _ _ _ _
              have := A2.out.next (m := 1) (below_alloc _ _) o1 g1 b1 (by simp)
              rw [HT.out]
              exact this
            clear o1 g1 b1 n1
            go_wp2_with fail
            go_roundw
            case rel => exact ⟨k + 1, by omega, by go_num, A3.out⟩
            case measure => simp [intOf]; omega
          · obtain rfl : k = m := by omega
            have A2 := Lib.hid A1.out
            rw [List.take_of_length_le (by rw [HM.out]; omega)] at A2
            have R7 := Lib.hid (R6.out.next A2.out.bel)
            have HPG2 := Lib.hid (HPG.out _ _ (RDW.out.below A2.out.bel))
            have qq : ((er : Int) == er) = true := by simp
            clear A1 R6 HPG RDW
            go_wp2_with fail
            (with_reducible refine HPG2.out.mono ?_)
            rintro r w8 ⟨gv, rfl, hg8⟩
            have R8 := Lib.hid (R7.out.next hg8.bel)
            have HSM2 := Lib.hid (HSM.out _ _ _ (A2.out.rd.below hg8.bel) hg8.rd)
            clear hg8 HPG2 HSM R7
            go_wp2_with fail
            (with_reducible refine HSM2.out.mono ?_)
            rintro r w9 ⟨rfl, b9⟩
            have R9 := Lib.hid (R8.out.next b9)
            clear b9 HSM2 R8
            go_wp2_with fail
            (with_reducible refine (HAL.out _ R9.out).mono ?_)
            rintro r w10 ⟨rfl, b10⟩
            have R10 := Lib.hid (R9.out.next b10)
            clear b10 HAL R9
            go_wp2_with fail
            go_ret
            exact ⟨rfl, HEND.out _ _ _ _ _ R10.out⟩
end
end Go.Proofs.YtmfchlliechikaaGreatDoor
