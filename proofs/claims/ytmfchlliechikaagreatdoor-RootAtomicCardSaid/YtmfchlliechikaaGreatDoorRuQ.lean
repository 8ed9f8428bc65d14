/- The walk of RootAtomic. Printed by wip/gentail14a.py. -/
import Derived.Test.YtmfchlliechikaaGreatDoorRuP
namespace Go.Proofs.YtmfchlliechikaaGreatDoor
open Go.RowKit Go.Maps
attribute [local go_sem ↓] Go.wp_at_zero Go.wp_at_succ

theorem zero38 : rfA 192 (nmR W0) (ptR W0) W0 = Tryz.zeroCells38.setIfInBounds 0 (.int .u64 192) := by kernel_rfl
section
variable {w : World}
set_option maxRecDepth 100000 in
set_option maxHeartbeats 16000000 in
theorem rootAtomic_any (hN : Nib w) (n : Nat) (sv : Value) (xs : List Value) (hs : RdSl w 3 sv n xs) (hn : n ≤ maxLen) (hop : ∀ i, i < n → OpR xs i) (d : Nat) (t : ByteArray) (q : Nat) (hq64 : q < 18446744073709551616) (a0 a1 : Nat) (ha0 : a0 < 256) (ha1 : a1 < 256) :
    Calls Tryz.prog 9 #[sv, .agg #[.int .u8 d, .string t, .int .u64 q], .agg #[.int .u8 a0, .int .u8 a1]] w fun r w' => r = .returned (.bool true) ∧ Below w.heap.size w w' := by
  unfold maxLen at hn
  obtain ⟨_, a, ca, rfl, hca, ha⟩ := hs
  have HAA := Lib.hid ha; have HOP := Lib.hid hop
  have K0 : Hid (Blk ((w.alloc (.cells #[.int .u8 d, .string t, .int .u64 q] 40)).alloc (.cells #[.int .u8 a0, .int .u8 a1] 26)) w.heap.size #[.int .u8 d, .string t, .int .u64 q] 40) := (Blk.new w _ _).alloc _
  have C0 : Hid (Blk ((w.alloc (.cells #[.int .u8 d, .string t, .int .u64 q] 40)).alloc (.cells #[.int .u8 a0, .int .u8 a1] 26)) (w.heap.size + 1) #[.int .u8 a0, .int .u8 a1] 26) := by
    have := Blk.new (w.alloc (.cells #[.int .u8 d, .string t, .int .u64 q] 40)) #[.int .u8 a0, .int .u8 a1] 26
    rw [World.size_alloc] at this
    exact this
  have B0 := Lib.hid (below_twice w (.cells #[.int .u8 d, .string t, .int .u64 q] 40) (.cells #[.int .u8 a0, .int .u8 a1] 26))
  have HNB := Lib.hid (hN.below B0.out)
  clear ha hop hN
  have HAW := Lib.hid (fun (wx : World) (h : Nib wx) => awake14 h)
  have HMD := Lib.hid (fun (wx : World) (h : Nib wx) => made14 h)
  go_enter Tryz.func9, Tryz.ntmps9
  go_wp2_with fail
  (with_reducible refine (HAW.out _ HNB.out).mono ?_)
  rintro e w1 ⟨rfl, b1⟩
  have B1 := Lib.hid (B0.out.trans (b1.mono B0.out.size))
  have K1 := Lib.hid (K0.out.below b1)
  have C1 := Lib.hid (C0.out.below b1)
  have N1 := Lib.hid (HNB.out.below b1)
  clear b1 HAW K0 C0 B0 HNB
  go_wp2_with fail
  (with_reducible refine (HMD.out _ N1.out).mono ?_)
  rintro e w2 ⟨v, own, D, b, rfl, h2, hb⟩
  have S2 := Lib.hid (lws_start h2)
  clear h2 hb HMD
  go_wp2_with fail
  rw [zero38] at S2
  generalize World.alloc w2 _ = w3 at *
  generalize w2.heap.size = rb at *
  go_loopw [10, 11, 27] (fun _ _ z wr => ∃ i : Nat, i ≤ n ∧ i ≤ 40 ∧ z = .int .i64 i ∧ ∃ own D W, LwS w1 v own D b rb W (33 + 9 * i) wr) (fun _ _ z _ => n - (intOf z).toNat)
  case atStart => exact ⟨0, by omega, by omega, rfl, _, _, _, S2.out⟩
  case round =>
    clear S2
    obtain ⟨i, hi, hi4, rfl, own, D, W, hs⟩ := hrel
    have R := Lib.hid hs
    clear hs
    rename World => wr
    have HEND : Hid (∀ (wy : World), Below w1.heap.size w1 wy → Below w.heap.size w wy) := fun wy h => B1.out.trans (h.mono B1.out.size)
    by_cases hlt : i < n ∧ i < 40
    · obtain ⟨hlt, hl4⟩ := hlt
      have hi1 : (i : Int) < n := by omega
      obtain ⟨ab, aq, o, s, p, rfl, c0, c1, c2, b0, b2⟩ := opR_now HAA.out (HOP.out i hlt) (HEND.out _ R.out.bel)
      have hq : ((i : Int) == 40) = false := by simp; omega
      have R4 := Lib.hid (R.out.next (below_alloc wr (.cells #[.int .u8 o, .string s, .int .u64 p] 40)))
      have HAP := Lib.hid (apply14_any R4.out N1.out o s p b2 (by omega))
      clear R
      go_wp2_with fail
      (with_reducible refine HAP.out.mono ?_)
      rintro e w5 ⟨rfl, own5, D5, h5⟩
      have R5 := Lib.hid h5
      clear h5 HAP R4
      go_wp2_with fail
      go_roundw
      case rel => exact ⟨i + 1, by omega, by omega, by go_num, _, _, _, R5.out.at (by omega)⟩
      case measure => simp [intOf]; omega
    · by_cases hin : i < n
      · obtain rfl : i = 40 := by omega
        have hi1 : ((40 : Nat) : Int) < n := by omega
        obtain ⟨ab, aq, o, s, p, rfl, c0, c1, c2, _, _⟩ := opR_now HAA.out (HOP.out 40 hin) (HEND.out _ R.out.bel)
        obtain ⟨x, hx⟩ : ∃ x, 33 + 9 * 40 = x := ⟨_, rfl⟩
        have hx6 : x < 1000000 := by omega
        have RT0 := (R.out.next (below_alloc wr (.cells #[.int .u8 o, .string s, .int .u64 p] 40))).at hx
        clear hx R hlt hin hi4 hi HOP HAA B1
        go_upto_region 12 with fail
        clear c0 c1 c2
        obtain ⟨wt, hwt⟩ : ∃ wt, wr.alloc (.cells #[.int .u8 o, .string s, .int .u64 p] 40) = wt := ⟨_, rfl⟩
        rw [hwt] at RT0 ⊢
        have RT := Lib.hid RT0
        clear RT0 hwt
        have HBK := Lib.hid RT.out.pl.rf.blk
        have HIA := Lib.hid (infoD14 192 (nmR W) (ptR W) W)
        have HSZ := Lib.hid (sizeD14 192 (nmR W) (ptR W) W)
        have HOA := Lib.hid (rfA_one 192 (nmR W) (ptR W) W)
        have HCS := Lib.hid (fun (wz : World) (hk : Blk wz wt.heap.size (rfA 192 (nmR W) (ptR W) W) 38) (hb : Below wt.heap.size wt wz) => cu_start RT.out hk hb)
        have HSET := Lib.hid (fun (k : Nat) (wx : World) (own' : Nat → Option Role) (yb : Nat) (h : CuS w1 v own' (D.arm k) b rb yb W W wx) (hz : q ≠ 0) => cu_set RT.out k h (N1.out.below h.bel) t q hq64 hz hx6)
        have HREM := Lib.hid (fun (k : Nat) (wx : World) (own' : Nat → Option Role) (yb : Nat) (h : CuS w1 v own' (D.arm k) b rb yb W W wx) => cu_remove RT.out k h (N1.out.below h.bel) t hx6)
        have HINV := Lib.hid (And.intro RT.out.pl.inv RT.out.d)
        obtain ⟨A, hA⟩ : ∃ A, rfA 192 (nmR W) (ptR W) W = A := ⟨_, rfl⟩
        rw [hA] at HBK HIA HSZ HOA HCS
        clear hA RT
        go_wp2_with (first | (refine wpList_load_row rfl 38 (.tmp 42) rfl rb rfl 38 A (0, 0) _ HBK.out Tryz.underlying38 rfl HIA.out ?_) | (refine wpList_store_row rfl 38 (.tmp 12) (.tmp 43) rfl wt.heap.size A rfl rfl 38 _ (Blk.new wt _ _) HIA.out HSZ.out HOA.out ?_; obtain ⟨w4, hw4, k4, b4⟩ := rf_alloc wt Tryz.zeroCells38 A; rw [hw4]; have U4 := Lib.hid (HCS.out _ k4 b4); have e0 := (C1.out.below U4.out.bel).cell (i := 0) (v := .int .u8 a0) rfl; clear hw4 k4 b4; have u1 : IntKind.i64.wrap ((a0 : Int) % 8) = ((a0 % 8 : Nat) : Int) := by (have := IntWalk.i64_in ((a0 : Int) % 8) (by omega); omega)))
        obtain ⟨yb, hyb⟩ : ∃ yb, wt.heap.size = yb := ⟨_, rfl⟩
        rw [hyb] at U4 ⊢
        clear hyb e0 u1 HBK HIA HSZ HOA HCS
        obtain ⟨k, hk⟩ : ∃ k : Nat, (a0 : Int) % 8 = (k : Int) := ⟨a0 % 8, by omega⟩
        have hk8 : k ≤ 9223372036854775807 := by omega
        rw [hk]
        clear hk
        (with_reducible refine (arm_any U4.out.dev k hk8).mono ?_)
        rintro r w5 ⟨rfl, hP⟩
        obtain ⟨own5, u5⟩ := U4.out.post hP
        have U5 := Lib.hid u5
        clear u5 hP U4
        have K5 := Lib.hid (K1.out.below U5.out.bel)
        have f0 := K5.out.cell (i := 0) (v := .int .u8 d) rfl
        have f1 := K5.out.cell (i := 1) (v := .string t) rfl
        have f2 := K5.out.cell (i := 2) (v := .int .u64 q) rfl
        by_cases hd2 : d % 2 = 0
        · have y1 : ((d : Int) % 2 == 0) = true := by simp; omega
          by_cases hz : q = 0
          · have y2 : ((q : Int) != 0) = false := by simp [hz]
            clear hd2 hz
            go_wp2_with fail
            (with_reducible refine (HREM.out _ _ _ _ U5.out).mono ?_)
            rintro r w6 ⟨e, own6, E6, rfl, u6, hO6⟩
            have U6 := Lib.hid u6
            have O6 := Lib.hid hO6
            clear u6 hO6 f0 f1 f2 U5 K5 HSET HREM
            have K6 := Lib.hid (K1.out.below U6.out.bel)
            have f1 := K6.out.cell (i := 1) (v := .string t) rfl
            have hch := cu_change U6.out HINV.out.1 t 0 (by omega)
            rw [show ((0 : Nat) : Int) = 0 from rfl] at hch
            have HCH := Lib.hid hch
            clear hch
            go_wp2_with fail
            (with_reducible refine HCH.out.mono ?_)
            rintro r w7 ⟨rfl, u7⟩
            have U7 := Lib.hid u7
            clear u7 f1 K6 U6 HCH
            have HIN2 : Hid (InvW (chgE W t.toList 0 1280) ∧ InvD (chgE W t.toList 0 1280)) := ⟨invW_chg HINV.out.1, invD_chg HINV.out.2⟩
            obtain ⟨V7, hV7⟩ : ∃ V7, chgE W t.toList 0 1280 = V7 := ⟨_, rfl⟩
            rw [hV7] at U7 O6 HIN2
            clear hV7
            have C7 := Lib.hid (C1.out.below U7.out.bel)
            have e1 := C7.out.cell (i := 1) (v := .int .u8 a1) rfl
            go_wp2_with fail
            clear e1
            (with_reducible refine (crash14 (U7.out.dev.alloc _) O6.out _ a1 (RdSl.newAt w7 #[.int .u8 a1] 5 1 1 _ rfl rfl) ha1).mono ?_)
            rintro r w8 ⟨v8, own8, f8, V8, rfl, d8, hw8, ho8, hc8, b8⟩
            have U8 := Lib.hid (U7.out.next ((below_alloc w7 (.cells #[.int .u8 a1] 5)).trans (b8.mono (by simp))))
            have D8 := Lib.hid (And.intro d8 (And.intro hw8 ho8))
            have HC8 := Lib.hid hc8
            clear d8 hw8 ho8 hc8 b8 U7 C7 O6
            go_wp2_with fail
            (with_reducible refine (thread0_any D8.out.1).mono ?_)
            rintro r w' ⟨rfl, rfl⟩
            go_wp2_with fail
            (with_reducible refine (open14 D8.out.1 (N1.out.below U8.out.bel) D8.out.2.1 D8.out.2.2).mono ?_)
            rintro r w9 ⟨sb, rfl, dn, b9⟩
            have U9 := Lib.hid (U8.out.next b9)
            have DN := Lib.hid dn
            clear dn b9 U8 D8
            rcases HC8.out with ⟨rfl, hL⟩ | ⟨he, hL⟩ | ⟨rfl, hL⟩
            · have HL := Lib.hid hL
              clear hL HC8
              go_wp2_with fail
              (with_reducible refine (listed14 DN.out U9.out.ry HIN2.out.1 HIN2.out.2).mono ?_)
              rintro r w10 ⟨bb, rfl, hbb, b10⟩
              obtain rfl : bb = true := hbb HL.out
              have U10 := Lib.hid (U9.out.next b10)
              clear hbb b10 U9 DN
              go_wp2_with fail
              go_ret
              exact ⟨rfl, HEND.out _ U10.out.bel⟩
            · have HL := Lib.hid hL
              have z5 : (e == 0) = false := by rw [beq_eq_false_iff_ne]; exact he
              clear hL HC8 he
              go_wp2_with fail
              (with_reducible refine (listed14 DN.out U9.out.rf HINV.out.1 HINV.out.2).mono ?_)
              rintro r w10 ⟨bb, rfl, hbb, b10⟩
              obtain rfl : bb = true := hbb HL.out
              have U10 := Lib.hid (U9.out.next b10)
              clear hbb b10 U9 DN
              go_wp2_with fail
              go_ret
              exact ⟨rfl, HEND.out _ U10.out.bel⟩
            · have HL := Lib.hid hL
              clear hL HC8
              go_wp2_with fail
              (with_reducible refine (listed14 DN.out U9.out.rf HINV.out.1 HINV.out.2).mono ?_)
              rintro r w10 ⟨bb, rfl, _, b10⟩
              have U10 := Lib.hid (U9.out.next b10)
              have DN1 := Lib.hid (DN.out.next b10)
              clear b10 U9 DN
              cases bb
              · go_wp2_with fail
                (with_reducible refine (listed14 DN1.out U10.out.ry HIN2.out.1 HIN2.out.2).mono ?_)
                rintro r w11 ⟨bb, rfl, hbb, b11⟩
                obtain rfl : bb = true := hbb HL.out
                have U11 := Lib.hid (U10.out.next b11)
                clear hbb b11 U10 DN1
                go_wp2_with fail
                go_ret
                exact ⟨rfl, HEND.out _ U11.out.bel⟩
              · go_wp2_with fail
                go_ret
                exact ⟨rfl, HEND.out _ U10.out.bel⟩
          · have y2 : ((q : Int) != 0) = true := by simp; omega
            clear hd2
            go_wp2_with fail
            (with_reducible refine (HSET.out _ _ _ _ U5.out hz).mono ?_)
            rintro r w6 ⟨e, own6, E6, rfl, u6, hO6⟩
            have U6 := Lib.hid u6
            have O6 := Lib.hid hO6
            clear u6 hO6 f0 f1 f2 U5 K5 HSET HREM
            have K6 := Lib.hid (K1.out.below U6.out.bel)
            have f1 := K6.out.cell (i := 1) (v := .string t) rfl
            have f2 := K6.out.cell (i := 2) (v := .int .u64 q) rfl
            have HCH := Lib.hid (cu_change U6.out HINV.out.1 t q hq64)
            clear hz
            go_wp2_with fail
            (with_reducible refine HCH.out.mono ?_)
            rintro r w7 ⟨rfl, u7⟩
            have U7 := Lib.hid u7
            clear u7 f1 f2 K6 U6 HCH
            have HIN2 : Hid (InvW (chgE W t.toList q 1280) ∧ InvD (chgE W t.toList q 1280)) := ⟨invW_chg HINV.out.1, invD_chg HINV.out.2⟩
            obtain ⟨V7, hV7⟩ : ∃ V7, chgE W t.toList q 1280 = V7 := ⟨_, rfl⟩
            rw [hV7] at U7 O6 HIN2
            clear hV7
            have C7 := Lib.hid (C1.out.below U7.out.bel)
            have e1 := C7.out.cell (i := 1) (v := .int .u8 a1) rfl
            go_wp2_with fail
            clear e1
            (with_reducible refine (crash14 (U7.out.dev.alloc _) O6.out _ a1 (RdSl.newAt w7 #[.int .u8 a1] 5 1 1 _ rfl rfl) ha1).mono ?_)
            rintro r w8 ⟨v8, own8, f8, V8, rfl, d8, hw8, ho8, hc8, b8⟩
            have U8 := Lib.hid (U7.out.next ((below_alloc w7 (.cells #[.int .u8 a1] 5)).trans (b8.mono (by simp))))
            have D8 := Lib.hid (And.intro d8 (And.intro hw8 ho8))
            have HC8 := Lib.hid hc8
            clear d8 hw8 ho8 hc8 b8 U7 C7 O6
            go_wp2_with fail
            (with_reducible refine (thread0_any D8.out.1).mono ?_)
            rintro r w' ⟨rfl, rfl⟩
            go_wp2_with fail
            (with_reducible refine (open14 D8.out.1 (N1.out.below U8.out.bel) D8.out.2.1 D8.out.2.2).mono ?_)
            rintro r w9 ⟨sb, rfl, dn, b9⟩
            have U9 := Lib.hid (U8.out.next b9)
            have DN := Lib.hid dn
            clear dn b9 U8 D8
            rcases HC8.out with ⟨rfl, hL⟩ | ⟨he, hL⟩ | ⟨rfl, hL⟩
            · have HL := Lib.hid hL
              clear hL HC8
              go_wp2_with fail
              (with_reducible refine (listed14 DN.out U9.out.ry HIN2.out.1 HIN2.out.2).mono ?_)
              rintro r w10 ⟨bb, rfl, hbb, b10⟩
              obtain rfl : bb = true := hbb HL.out
              have U10 := Lib.hid (U9.out.next b10)
              clear hbb b10 U9 DN
              go_wp2_with fail
              go_ret
              exact ⟨rfl, HEND.out _ U10.out.bel⟩
            · have HL := Lib.hid hL
              have z5 : (e == 0) = false := by rw [beq_eq_false_iff_ne]; exact he
              clear hL HC8 he
              go_wp2_with fail
              (with_reducible refine (listed14 DN.out U9.out.rf HINV.out.1 HINV.out.2).mono ?_)
              rintro r w10 ⟨bb, rfl, hbb, b10⟩
              obtain rfl : bb = true := hbb HL.out
              have U10 := Lib.hid (U9.out.next b10)
              clear hbb b10 U9 DN
              go_wp2_with fail
              go_ret
              exact ⟨rfl, HEND.out _ U10.out.bel⟩
            · have HL := Lib.hid hL
              clear hL HC8
              go_wp2_with fail
              (with_reducible refine (listed14 DN.out U9.out.rf HINV.out.1 HINV.out.2).mono ?_)
              rintro r w10 ⟨bb, rfl, _, b10⟩
              have U10 := Lib.hid (U9.out.next b10)
              have DN1 := Lib.hid (DN.out.next b10)
              clear b10 U9 DN
              cases bb
              · go_wp2_with fail
                (with_reducible refine (listed14 DN1.out U10.out.ry HIN2.out.1 HIN2.out.2).mono ?_)
                rintro r w11 ⟨bb, rfl, hbb, b11⟩
                obtain rfl : bb = true := hbb HL.out
                have U11 := Lib.hid (U10.out.next b11)
                clear hbb b11 U10 DN1
                go_wp2_with fail
                go_ret
                exact ⟨rfl, HEND.out _ U11.out.bel⟩
              · go_wp2_with fail
                go_ret
                exact ⟨rfl, HEND.out _ U10.out.bel⟩
        · have y1 : ((d : Int) % 2 == 0) = false := by simp; omega
          clear hd2
          go_wp2_with fail
          (with_reducible refine (HREM.out _ _ _ _ U5.out).mono ?_)
          rintro r w6 ⟨e, own6, E6, rfl, u6, hO6⟩
          have U6 := Lib.hid u6
          have O6 := Lib.hid hO6
          clear u6 hO6 f0 f1 f2 U5 K5 HSET HREM
          have K6 := Lib.hid (K1.out.below U6.out.bel)
          have f1 := K6.out.cell (i := 1) (v := .string t) rfl
          have hch := cu_change U6.out HINV.out.1 t 0 (by omega)
          rw [show ((0 : Nat) : Int) = 0 from rfl] at hch
          have HCH := Lib.hid hch
          clear hch
          go_wp2_with fail
          (with_reducible refine HCH.out.mono ?_)
          rintro r w7 ⟨rfl, u7⟩
          have U7 := Lib.hid u7
          clear u7 f1 K6 U6 HCH
          have HIN2 : Hid (InvW (chgE W t.toList 0 1280) ∧ InvD (chgE W t.toList 0 1280)) := ⟨invW_chg HINV.out.1, invD_chg HINV.out.2⟩
          obtain ⟨V7, hV7⟩ : ∃ V7, chgE W t.toList 0 1280 = V7 := ⟨_, rfl⟩
          rw [hV7] at U7 O6 HIN2
          clear hV7
          have C7 := Lib.hid (C1.out.below U7.out.bel)
          have e1 := C7.out.cell (i := 1) (v := .int .u8 a1) rfl
          go_wp2_with fail
          clear e1
          (with_reducible refine (crash14 (U7.out.dev.alloc _) O6.out _ a1 (RdSl.newAt w7 #[.int .u8 a1] 5 1 1 _ rfl rfl) ha1).mono ?_)
          rintro r w8 ⟨v8, own8, f8, V8, rfl, d8, hw8, ho8, hc8, b8⟩
          have U8 := Lib.hid (U7.out.next ((below_alloc w7 (.cells #[.int .u8 a1] 5)).trans (b8.mono (by simp))))
          have D8 := Lib.hid (And.intro d8 (And.intro hw8 ho8))
          have HC8 := Lib.hid hc8
          clear d8 hw8 ho8 hc8 b8 U7 C7 O6
          go_wp2_with fail
          (with_reducible refine (thread0_any D8.out.1).mono ?_)
          rintro r w' ⟨rfl, rfl⟩
          go_wp2_with fail
          (with_reducible refine (open14 D8.out.1 (N1.out.below U8.out.bel) D8.out.2.1 D8.out.2.2).mono ?_)
          rintro r w9 ⟨sb, rfl, dn, b9⟩
          have U9 := Lib.hid (U8.out.next b9)
          have DN := Lib.hid dn
          clear dn b9 U8 D8
          rcases HC8.out with ⟨rfl, hL⟩ | ⟨he, hL⟩ | ⟨rfl, hL⟩
          · have HL := Lib.hid hL
            clear hL HC8
            go_wp2_with fail
            (with_reducible refine (listed14 DN.out U9.out.ry HIN2.out.1 HIN2.out.2).mono ?_)
            rintro r w10 ⟨bb, rfl, hbb, b10⟩
            obtain rfl : bb = true := hbb HL.out
            have U10 := Lib.hid (U9.out.next b10)
            clear hbb b10 U9 DN
            go_wp2_with fail
            go_ret
            exact ⟨rfl, HEND.out _ U10.out.bel⟩
          · have HL := Lib.hid hL
            have z5 : (e == 0) = false := by rw [beq_eq_false_iff_ne]; exact he
            clear hL HC8 he
            go_wp2_with fail
            (with_reducible refine (listed14 DN.out U9.out.rf HINV.out.1 HINV.out.2).mono ?_)
            rintro r w10 ⟨bb, rfl, hbb, b10⟩
            obtain rfl : bb = true := hbb HL.out
            have U10 := Lib.hid (U9.out.next b10)
            clear hbb b10 U9 DN
            go_wp2_with fail
            go_ret
            exact ⟨rfl, HEND.out _ U10.out.bel⟩
          · have HL := Lib.hid hL
            clear hL HC8
            go_wp2_with fail
            (with_reducible refine (listed14 DN.out U9.out.rf HINV.out.1 HINV.out.2).mono ?_)
            rintro r w10 ⟨bb, rfl, _, b10⟩
            have U10 := Lib.hid (U9.out.next b10)
            have DN1 := Lib.hid (DN.out.next b10)
            clear b10 U9 DN
            cases bb
            · go_wp2_with fail
              (with_reducible refine (listed14 DN1.out U10.out.ry HIN2.out.1 HIN2.out.2).mono ?_)
              rintro r w11 ⟨bb, rfl, hbb, b11⟩
              obtain rfl : bb = true := hbb HL.out
              have U11 := Lib.hid (U10.out.next b11)
              clear hbb b11 U10 DN1
              go_wp2_with fail
              go_ret
              exact ⟨rfl, HEND.out _ U11.out.bel⟩
            · go_wp2_with fail
              go_ret
              exact ⟨rfl, HEND.out _ U10.out.bel⟩
      · obtain rfl : i = n := by omega
        obtain ⟨x, hx⟩ : ∃ x, 33 + 9 * i = x := ⟨_, rfl⟩
        have hx6 : x < 1000000 := by omega
        have RT := Lib.hid (R.out.at hx)
        clear hx R hlt hin hi4 HOP HAA B1
        have HBK := Lib.hid RT.out.pl.rf.blk
        have HIA := Lib.hid (infoD14 192 (nmR W) (ptR W) W)
        have HSZ := Lib.hid (sizeD14 192 (nmR W) (ptR W) W)
        have HOA := Lib.hid (rfA_one 192 (nmR W) (ptR W) W)
        have HCS := Lib.hid (fun (wz : World) (hk : Blk wz wr.heap.size (rfA 192 (nmR W) (ptR W) W) 38) (hb : Below wr.heap.size wr wz) => cu_start RT.out hk hb)
        have HSET := Lib.hid (fun (k : Nat) (wx : World) (own' : Nat → Option Role) (yb : Nat) (h : CuS w1 v own' (D.arm k) b rb yb W W wx) (hz : q ≠ 0) => cu_set RT.out k h (N1.out.below h.bel) t q hq64 hz hx6)
        have HREM := Lib.hid (fun (k : Nat) (wx : World) (own' : Nat → Option Role) (yb : Nat) (h : CuS w1 v own' (D.arm k) b rb yb W W wx) => cu_remove RT.out k h (N1.out.below h.bel) t hx6)
        have HINV := Lib.hid (And.intro RT.out.pl.inv RT.out.d)
        obtain ⟨A, hA⟩ : ∃ A, rfA 192 (nmR W) (ptR W) W = A := ⟨_, rfl⟩
        rw [hA] at HBK HIA HSZ HOA HCS
        clear hA RT
        go_wp2_with (first | (refine wpList_load_row rfl 38 (.tmp 42) rfl rb rfl 38 A (0, 0) _ HBK.out Tryz.underlying38 rfl HIA.out ?_) | (refine wpList_store_row rfl 38 (.tmp 12) (.tmp 43) rfl wr.heap.size A rfl rfl 38 _ (Blk.new wr _ _) HIA.out HSZ.out HOA.out ?_; obtain ⟨w4, hw4, k4, b4⟩ := rf_alloc wr Tryz.zeroCells38 A; rw [hw4]; have U4 := Lib.hid (HCS.out _ k4 b4); have e0 := (C1.out.below U4.out.bel).cell (i := 0) (v := .int .u8 a0) rfl; clear hw4 k4 b4; have u1 : IntKind.i64.wrap ((a0 : Int) % 8) = ((a0 % 8 : Nat) : Int) := by (have := IntWalk.i64_in ((a0 : Int) % 8) (by omega); omega)))
        obtain ⟨yb, hyb⟩ : ∃ yb, wr.heap.size = yb := ⟨_, rfl⟩
        rw [hyb] at U4 ⊢
        clear hyb e0 u1 HBK HIA HSZ HOA HCS
        obtain ⟨k, hk⟩ : ∃ k : Nat, (a0 : Int) % 8 = (k : Int) := ⟨a0 % 8, by omega⟩
        have hk8 : k ≤ 9223372036854775807 := by omega
        rw [hk]
        clear hk
        (with_reducible refine (arm_any U4.out.dev k hk8).mono ?_)
        rintro r w5 ⟨rfl, hP⟩
        obtain ⟨own5, u5⟩ := U4.out.post hP
        have U5 := Lib.hid u5
        clear u5 hP U4
        have K5 := Lib.hid (K1.out.below U5.out.bel)
        have f0 := K5.out.cell (i := 0) (v := .int .u8 d) rfl
        have f1 := K5.out.cell (i := 1) (v := .string t) rfl
        have f2 := K5.out.cell (i := 2) (v := .int .u64 q) rfl
        by_cases hd2 : d % 2 = 0
        · have y1 : ((d : Int) % 2 == 0) = true := by simp; omega
          by_cases hz : q = 0
          · have y2 : ((q : Int) != 0) = false := by simp [hz]
            clear hd2 hz
            go_wp2_with fail
            (with_reducible refine (HREM.out _ _ _ _ U5.out).mono ?_)
            rintro r w6 ⟨e, own6, E6, rfl, u6, hO6⟩
            have U6 := Lib.hid u6
            have O6 := Lib.hid hO6
            clear u6 hO6 f0 f1 f2 U5 K5 HSET HREM
            have K6 := Lib.hid (K1.out.below U6.out.bel)
            have f1 := K6.out.cell (i := 1) (v := .string t) rfl
            have hch := cu_change U6.out HINV.out.1 t 0 (by omega)
            rw [show ((0 : Nat) : Int) = 0 from rfl] at hch
            have HCH := Lib.hid hch
            clear hch
            go_wp2_with fail
            (with_reducible refine HCH.out.mono ?_)
            rintro r w7 ⟨rfl, u7⟩
            have U7 := Lib.hid u7
            clear u7 f1 K6 U6 HCH
            have HIN2 : Hid (InvW (chgE W t.toList 0 1280) ∧ InvD (chgE W t.toList 0 1280)) := ⟨invW_chg HINV.out.1, invD_chg HINV.out.2⟩
            obtain ⟨V7, hV7⟩ : ∃ V7, chgE W t.toList 0 1280 = V7 := ⟨_, rfl⟩
            rw [hV7] at U7 O6 HIN2
            clear hV7
            have C7 := Lib.hid (C1.out.below U7.out.bel)
            have e1 := C7.out.cell (i := 1) (v := .int .u8 a1) rfl
            go_wp2_with fail
            clear e1
            (with_reducible refine (crash14 (U7.out.dev.alloc _) O6.out _ a1 (RdSl.newAt w7 #[.int .u8 a1] 5 1 1 _ rfl rfl) ha1).mono ?_)
            rintro r w8 ⟨v8, own8, f8, V8, rfl, d8, hw8, ho8, hc8, b8⟩
            have U8 := Lib.hid (U7.out.next ((below_alloc w7 (.cells #[.int .u8 a1] 5)).trans (b8.mono (by simp))))
            have D8 := Lib.hid (And.intro d8 (And.intro hw8 ho8))
            have HC8 := Lib.hid hc8
            clear d8 hw8 ho8 hc8 b8 U7 C7 O6
            go_wp2_with fail
            (with_reducible refine (thread0_any D8.out.1).mono ?_)
            rintro r w' ⟨rfl, rfl⟩
            go_wp2_with fail
            (with_reducible refine (open14 D8.out.1 (N1.out.below U8.out.bel) D8.out.2.1 D8.out.2.2).mono ?_)
            rintro r w9 ⟨sb, rfl, dn, b9⟩
            have U9 := Lib.hid (U8.out.next b9)
            have DN := Lib.hid dn
            clear dn b9 U8 D8
            rcases HC8.out with ⟨rfl, hL⟩ | ⟨he, hL⟩ | ⟨rfl, hL⟩
            · have HL := Lib.hid hL
              clear hL HC8
              go_wp2_with fail
              (with_reducible refine (listed14 DN.out U9.out.ry HIN2.out.1 HIN2.out.2).mono ?_)
              rintro r w10 ⟨bb, rfl, hbb, b10⟩
              obtain rfl : bb = true := hbb HL.out
              have U10 := Lib.hid (U9.out.next b10)
              clear hbb b10 U9 DN
              go_wp2_with fail
              go_ret
              exact ⟨rfl, HEND.out _ U10.out.bel⟩
            · have HL := Lib.hid hL
              have z5 : (e == 0) = false := by rw [beq_eq_false_iff_ne]; exact he
              clear hL HC8 he
              go_wp2_with fail
              (with_reducible refine (listed14 DN.out U9.out.rf HINV.out.1 HINV.out.2).mono ?_)
              rintro r w10 ⟨bb, rfl, hbb, b10⟩
              obtain rfl : bb = true := hbb HL.out
              have U10 := Lib.hid (U9.out.next b10)
              clear hbb b10 U9 DN
              go_wp2_with fail
              go_ret
              exact ⟨rfl, HEND.out _ U10.out.bel⟩
            · have HL := Lib.hid hL
              clear hL HC8
              go_wp2_with fail
              (with_reducible refine (listed14 DN.out U9.out.rf HINV.out.1 HINV.out.2).mono ?_)
              rintro r w10 ⟨bb, rfl, _, b10⟩
              have U10 := Lib.hid (U9.out.next b10)
              have DN1 := Lib.hid (DN.out.next b10)
              clear b10 U9 DN
              cases bb
              · go_wp2_with fail
                (with_reducible refine (listed14 DN1.out U10.out.ry HIN2.out.1 HIN2.out.2).mono ?_)
                rintro r w11 ⟨bb, rfl, hbb, b11⟩
                obtain rfl : bb = true := hbb HL.out
                have U11 := Lib.hid (U10.out.next b11)
                clear hbb b11 U10 DN1
                go_wp2_with fail
                go_ret
                exact ⟨rfl, HEND.out _ U11.out.bel⟩
              · go_wp2_with fail
                go_ret
                exact ⟨rfl, HEND.out _ U10.out.bel⟩
          · have y2 : ((q : Int) != 0) = true := by simp; omega
            clear hd2
            go_wp2_with fail
            (with_reducible refine (HSET.out _ _ _ _ U5.out hz).mono ?_)
            rintro r w6 ⟨e, own6, E6, rfl, u6, hO6⟩
            have U6 := Lib.hid u6
            have O6 := Lib.hid hO6
            clear u6 hO6 f0 f1 f2 U5 K5 HSET HREM
            have K6 := Lib.hid (K1.out.below U6.out.bel)
            have f1 := K6.out.cell (i := 1) (v := .string t) rfl
            have f2 := K6.out.cell (i := 2) (v := .int .u64 q) rfl
            have HCH := Lib.hid (cu_change U6.out HINV.out.1 t q hq64)
            clear hz
            go_wp2_with fail
            (with_reducible refine HCH.out.mono ?_)
            rintro r w7 ⟨rfl, u7⟩
            have U7 := Lib.hid u7
            clear u7 f1 f2 K6 U6 HCH
            have HIN2 : Hid (InvW (chgE W t.toList q 1280) ∧ InvD (chgE W t.toList q 1280)) := ⟨invW_chg HINV.out.1, invD_chg HINV.out.2⟩
            obtain ⟨V7, hV7⟩ : ∃ V7, chgE W t.toList q 1280 = V7 := ⟨_, rfl⟩
            rw [hV7] at U7 O6 HIN2
            clear hV7
            have C7 := Lib.hid (C1.out.below U7.out.bel)
            have e1 := C7.out.cell (i := 1) (v := .int .u8 a1) rfl
            go_wp2_with fail
            clear e1
            (with_reducible refine (crash14 (U7.out.dev.alloc _) O6.out _ a1 (RdSl.newAt w7 #[.int .u8 a1] 5 1 1 _ rfl rfl) ha1).mono ?_)
            rintro r w8 ⟨v8, own8, f8, V8, rfl, d8, hw8, ho8, hc8, b8⟩
            have U8 := Lib.hid (U7.out.next ((below_alloc w7 (.cells #[.int .u8 a1] 5)).trans (b8.mono (by simp))))
            have D8 := Lib.hid (And.intro d8 (And.intro hw8 ho8))
            have HC8 := Lib.hid hc8
            clear d8 hw8 ho8 hc8 b8 U7 C7 O6
            go_wp2_with fail
            (with_reducible refine (thread0_any D8.out.1).mono ?_)
            rintro r w' ⟨rfl, rfl⟩
            go_wp2_with fail
            (with_reducible refine (open14 D8.out.1 (N1.out.below U8.out.bel) D8.out.2.1 D8.out.2.2).mono ?_)
            rintro r w9 ⟨sb, rfl, dn, b9⟩
            have U9 := Lib.hid (U8.out.next b9)
            have DN := Lib.hid dn
            clear dn b9 U8 D8
            rcases HC8.out with ⟨rfl, hL⟩ | ⟨he, hL⟩ | ⟨rfl, hL⟩
            · have HL := Lib.hid hL
              clear hL HC8
              go_wp2_with fail
              (with_reducible refine (listed14 DN.out U9.out.ry HIN2.out.1 HIN2.out.2).mono ?_)
              rintro r w10 ⟨bb, rfl, hbb, b10⟩
              obtain rfl : bb = true := hbb HL.out
              have U10 := Lib.hid (U9.out.next b10)
              clear hbb b10 U9 DN
              go_wp2_with fail
              go_ret
              exact ⟨rfl, HEND.out _ U10.out.bel⟩
            · have HL := Lib.hid hL
              have z5 : (e == 0) = false := by rw [beq_eq_false_iff_ne]; exact he
              clear hL HC8 he
              go_wp2_with fail
              (with_reducible refine (listed14 DN.out U9.out.rf HINV.out.1 HINV.out.2).mono ?_)
              rintro r w10 ⟨bb, rfl, hbb, b10⟩
              obtain rfl : bb = true := hbb HL.out
              have U10 := Lib.hid (U9.out.next b10)
              clear hbb b10 U9 DN
              go_wp2_with fail
              go_ret
              exact ⟨rfl, HEND.out _ U10.out.bel⟩
            · have HL := Lib.hid hL
              clear hL HC8
              go_wp2_with fail
              (with_reducible refine (listed14 DN.out U9.out.rf HINV.out.1 HINV.out.2).mono ?_)
              rintro r w10 ⟨bb, rfl, _, b10⟩
              have U10 := Lib.hid (U9.out.next b10)
              have DN1 := Lib.hid (DN.out.next b10)
              clear b10 U9 DN
              cases bb
              · go_wp2_with fail
                (with_reducible refine (listed14 DN1.out U10.out.ry HIN2.out.1 HIN2.out.2).mono ?_)
                rintro r w11 ⟨bb, rfl, hbb, b11⟩
                obtain rfl : bb = true := hbb HL.out
                have U11 := Lib.hid (U10.out.next b11)
                clear hbb b11 U10 DN1
                go_wp2_with fail
                go_ret
                exact ⟨rfl, HEND.out _ U11.out.bel⟩
              · go_wp2_with fail
                go_ret
                exact ⟨rfl, HEND.out _ U10.out.bel⟩
        · have y1 : ((d : Int) % 2 == 0) = false := by simp; omega
          clear hd2
          go_wp2_with fail
          (with_reducible refine (HREM.out _ _ _ _ U5.out).mono ?_)
          rintro r w6 ⟨e, own6, E6, rfl, u6, hO6⟩
          have U6 := Lib.hid u6
          have O6 := Lib.hid hO6
          clear u6 hO6 f0 f1 f2 U5 K5 HSET HREM
          have K6 := Lib.hid (K1.out.below U6.out.bel)
          have f1 := K6.out.cell (i := 1) (v := .string t) rfl
          have hch := cu_change U6.out HINV.out.1 t 0 (by omega)
          rw [show ((0 : Nat) : Int) = 0 from rfl] at hch
          have HCH := Lib.hid hch
          clear hch
          go_wp2_with fail
          (with_reducible refine HCH.out.mono ?_)
          rintro r w7 ⟨rfl, u7⟩
          have U7 := Lib.hid u7
          clear u7 f1 K6 U6 HCH
          have HIN2 : Hid (InvW (chgE W t.toList 0 1280) ∧ InvD (chgE W t.toList 0 1280)) := ⟨invW_chg HINV.out.1, invD_chg HINV.out.2⟩
          obtain ⟨V7, hV7⟩ : ∃ V7, chgE W t.toList 0 1280 = V7 := ⟨_, rfl⟩
          rw [hV7] at U7 O6 HIN2
          clear hV7
          have C7 := Lib.hid (C1.out.below U7.out.bel)
          have e1 := C7.out.cell (i := 1) (v := .int .u8 a1) rfl
          go_wp2_with fail
          clear e1
          (with_reducible refine (crash14 (U7.out.dev.alloc _) O6.out _ a1 (RdSl.newAt w7 #[.int .u8 a1] 5 1 1 _ rfl rfl) ha1).mono ?_)
          rintro r w8 ⟨v8, own8, f8, V8, rfl, d8, hw8, ho8, hc8, b8⟩
          have U8 := Lib.hid (U7.out.next ((below_alloc w7 (.cells #[.int .u8 a1] 5)).trans (b8.mono (by simp))))
          have D8 := Lib.hid (And.intro d8 (And.intro hw8 ho8))
          have HC8 := Lib.hid hc8
          clear d8 hw8 ho8 hc8 b8 U7 C7 O6
          go_wp2_with fail
          (with_reducible refine (thread0_any D8.out.1).mono ?_)
          rintro r w' ⟨rfl, rfl⟩
          go_wp2_with fail
          (with_reducible refine (open14 D8.out.1 (N1.out.below U8.out.bel) D8.out.2.1 D8.out.2.2).mono ?_)
          rintro r w9 ⟨sb, rfl, dn, b9⟩
          have U9 := Lib.hid (U8.out.next b9)
          have DN := Lib.hid dn
          clear dn b9 U8 D8
          rcases HC8.out with ⟨rfl, hL⟩ | ⟨he, hL⟩ | ⟨rfl, hL⟩
          · have HL := Lib.hid hL
            clear hL HC8
            go_wp2_with fail
            (with_reducible refine (listed14 DN.out U9.out.ry HIN2.out.1 HIN2.out.2).mono ?_)
            rintro r w10 ⟨bb, rfl, hbb, b10⟩
            obtain rfl : bb = true := hbb HL.out
            have U10 := Lib.hid (U9.out.next b10)
            clear hbb b10 U9 DN
            go_wp2_with fail
            go_ret
            exact ⟨rfl, HEND.out _ U10.out.bel⟩
          · have HL := Lib.hid hL
            have z5 : (e == 0) = false := by rw [beq_eq_false_iff_ne]; exact he
            clear hL HC8 he
            go_wp2_with fail
            (with_reducible refine (listed14 DN.out U9.out.rf HINV.out.1 HINV.out.2).mono ?_)
            rintro r w10 ⟨bb, rfl, hbb, b10⟩
            obtain rfl : bb = true := hbb HL.out
            have U10 := Lib.hid (U9.out.next b10)
            clear hbb b10 U9 DN
            go_wp2_with fail
            go_ret
            exact ⟨rfl, HEND.out _ U10.out.bel⟩
          · have HL := Lib.hid hL
            clear hL HC8
            go_wp2_with fail
            (with_reducible refine (listed14 DN.out U9.out.rf HINV.out.1 HINV.out.2).mono ?_)
            rintro r w10 ⟨bb, rfl, _, b10⟩
            have U10 := Lib.hid (U9.out.next b10)
            have DN1 := Lib.hid (DN.out.next b10)
            clear b10 U9 DN
            cases bb
            · go_wp2_with fail
              (with_reducible refine (listed14 DN1.out U10.out.ry HIN2.out.1 HIN2.out.2).mono ?_)
              rintro r w11 ⟨bb, rfl, hbb, b11⟩
              obtain rfl : bb = true := hbb HL.out
              have U11 := Lib.hid (U10.out.next b11)
              clear hbb b11 U10 DN1
              go_wp2_with fail
              go_ret
              exact ⟨rfl, HEND.out _ U11.out.bel⟩
            · go_wp2_with fail
              go_ret
              exact ⟨rfl, HEND.out _ U10.out.bel⟩
end
end Go.Proofs.YtmfchlliechikaaGreatDoor
