/- LeafSplits: the walk of the law. -/
import Derived.Test.YtgdcjedcinapdaaGreatJ12
import Derived.Deep.CutRange
import Derived.Deep.CutBlock
import Derived.Deep.RegionHeld3
import Derived.Test.YtgdcjedcinapdaaGreatJ3
import Derived.WalkKit
import Derived.ProofKit
import Derived.OpenShut
import Derived.Test.YtgdcjedcinapdaaGreatJ5
import Derived.Lib.SmallJoins
import Derived.Deep.Fields
namespace Go.Proofs.YtgdcjedcinapdaaGreat
open Go.RowKit
attribute [local go_sem ↓] Go.wp_at_zero Go.wp_at_succ

section
variable {w : World} {n : NodeP} {ka sa va : Option Addr} {kc sc vc : Nat}
theorem QSt.boxC {v : DV} {lb g : Nat} {own : Nat → Option Role} {D : Dev} {x : Nat} {C : Nat → Int} {wx : World} (h : QSt w n ka sa va kc sc vc v lb g own D x C wx) : wx.cell? ⟨w.heap.size, 0, none⟩ = some (.int .u8 n.pos) ∧ wx.cell? ⟨w.heap.size, 1, none⟩ = some (.slice ka n.ks.length kc) ∧ wx.cell? ⟨w.heap.size, 2, none⟩ = some (.slice sa n.ss.length sc) ∧ wx.cell? ⟨w.heap.size, 3, none⟩ = some (.slice va n.vs.length vc) ∧ wx.cell? ⟨w.heap.size, 4, none⟩ = some (.int .u8 n.high) ∧ wx.cell? ⟨w.heap.size, 5, none⟩ = some (.bool n.bounded) ∧ wx.cell? ⟨w.heap.size, 6, none⟩ = some (.bool n.next) ∧ wx.cell? ⟨w.heap.size, 7, none⟩ = some (.int .u16 n.count) :=
  ⟨h.box.cell rfl, h.box.cell rfl, h.box.cell rfl, h.box.cell rfl, h.box.cell rfl, h.box.cell rfl, h.box.cell rfl, h.box.cell rfl⟩
theorem QSt.leafC {v : DV} {lb g : Nat} {own : Nat → Option Role} {D : Dev} {x : Nat} {C : Nat → Int} {wx : World} (h : QSt w n ka sa va kc sc vc v lb g own D x C wx) : wx.cell? ⟨lb, 0, none⟩ = some (.iface 76 (.pointer (some ⟨v.tb 0, 0, none⟩))) ∧ wx.cell? ⟨lb, 1, none⟩ = some (.int .u64 (ptrN (nodeOff n) : Nat)) :=
  ⟨h.leaf.cell rfl, h.leaf.cell rfl⟩
theorem entC_drop (l : List (Int × Int)) : ∀ k, (entC l).drop (k * 2) = entC (l.drop k) := by
  induction l with
  | nil => intro k; simp [entC]
  | cons x l ih =>
    intro k
    cases k with
    | zero => simp
    | succ k =>
      have hf : entC (x :: l) = .int .u64 x.1 :: .int .u64 x.2 :: entC l := rfl
      rw [hf, show (k + 1) * 2 = k * 2 + 1 + 1 from by omega]
      simpa using ih k
theorem entC_take (l : List (Int × Int)) : ∀ k, (entC l).take (k * 2) = entC (l.take k) := by
  induction l with
  | nil => intro k; simp [entC]
  | cons x l ih =>
    intro k
    cases k with
    | zero => simp [entC]
    | succ k =>
      have hf : entC (x :: l) = .int .u64 x.1 :: .int .u64 x.2 :: entC l := rfl
      rw [hf, show (k + 1) * 2 = k * 2 + 1 + 1 from by omega, List.take_succ_cons, List.take_succ_cons, ih, List.take_succ_cons]
      rfl
set_option maxRecDepth 100000 in
set_option maxHeartbeats 16000000 in
theorem leafSplits_any (ha : NodeIn w n ka sa va kc sc vc) (kz : Int) :
    Calls Tryz.prog 7 #[.agg (nodeAgg n ka sa va kc sc vc), .int .i64 kz] w fun r w' => r = .returned (.bool true) ∧ Below w.heap.size w w' := by
  have HMA := Lib.hid (fun wx (hx : Below w.heap.size w wx) => made_any (ha.below hx))
  have HWA := Lib.hid (fun wx (hx : Below w.heap.size w wx) => words_any (ha.below hx))
  have HO := Lib.hid (fun wx => nodeAt_any (w := wx) n ka sa va kc sc vc ha.p8)
  have BA := Lib.hid (nW_bd ha)
  clear ha
  have hB0 := Lib.hid (Blk.new w (nodeAgg n ka sa va kc sc vc) 26)
  unfold nodeAgg at HMA HWA HO hB0 ⊢
  go_enter Tryz.func7, Tryz.ntmps7
  go_wp2_with fail
  (with_reducible refine awake_any.mono ?_)
  rintro e w1 ⟨rfl, b1⟩
  have B1 : Hid (Below w.heap.size w w1) := (below_alloc w _).trans (b1.mono (by simp))
  have X1 := Lib.hid (hB0.out.below b1)
  have hz1 : w.heap.size < w1.heap.size := X1.out.lt
  have a0 : w1.cell? ⟨w.heap.size, 0, none⟩ = some (.int .u8 n.pos) := X1.out.cell rfl
  have a1 : w1.cell? ⟨w.heap.size, 1, none⟩ = some (.slice ka n.ks.length kc) := X1.out.cell rfl
  have a2 : w1.cell? ⟨w.heap.size, 2, none⟩ = some (.slice sa n.ss.length sc) := X1.out.cell rfl
  have a3 : w1.cell? ⟨w.heap.size, 3, none⟩ = some (.slice va n.vs.length vc) := X1.out.cell rfl
  have a4 : w1.cell? ⟨w.heap.size, 4, none⟩ = some (.int .u8 n.high) := X1.out.cell rfl
  have a5 : w1.cell? ⟨w.heap.size, 5, none⟩ = some (.bool n.bounded) := X1.out.cell rfl
  have a6 : w1.cell? ⟨w.heap.size, 6, none⟩ = some (.bool n.next) := X1.out.cell rfl
  have a7 : w1.cell? ⟨w.heap.size, 7, none⟩ = some (.int .u16 n.count) := X1.out.cell rfl
  clear b1 hB0
  go_wp2_with fail
  (with_reducible refine (HMA.out _ B1.out).mono ?_)
  rintro e w2 ⟨v, own, D, rfl, l2⟩
  have X2 := Lib.hid (X1.out.below l2.bel)
  have L2 : Hid (LiveSt w v own D 57 (nC n) w2) := ⟨⟨l2.dev, fun k hk => Nat.le_trans B1.out.size (l2.ob k hk), B1.out.trans (l2.bel.mono B1.out.size)⟩, l2.live⟩
  have O2 : Hid (own w.heap.size = none) := Classical.byContradiction (fun h => by have := l2.ob _ h; omega)
  clear l2 X1 hz1 a0 a1 a2 a3 a4 a5 a6 a7 B1
  have hz2 : w.heap.size < w2.heap.size := X2.out.lt
  have a0 : w2.cell? ⟨w.heap.size, 0, none⟩ = some (.int .u8 n.pos) := X2.out.cell rfl
  have a1 : w2.cell? ⟨w.heap.size, 1, none⟩ = some (.slice ka n.ks.length kc) := X2.out.cell rfl
  have a2 : w2.cell? ⟨w.heap.size, 2, none⟩ = some (.slice sa n.ss.length sc) := X2.out.cell rfl
  have a3 : w2.cell? ⟨w.heap.size, 3, none⟩ = some (.slice va n.vs.length vc) := X2.out.cell rfl
  have a4 : w2.cell? ⟨w.heap.size, 4, none⟩ = some (.int .u8 n.high) := X2.out.cell rfl
  have a5 : w2.cell? ⟨w.heap.size, 5, none⟩ = some (.bool n.bounded) := X2.out.cell rfl
  have a6 : w2.cell? ⟨w.heap.size, 6, none⟩ = some (.bool n.next) := X2.out.cell rfl
  have a7 : w2.cell? ⟨w.heap.size, 7, none⟩ = some (.int .u16 n.count) := X2.out.cell rfl
  go_wp2_with fail
  (with_reducible refine (HWA.out _ (L2.out.next (below_alloc w2 _)).bel).mono ?_)
  rintro e w3 ⟨g, rfl, r3, g3, bb3⟩
  have hb3 : Below w2.heap.size w2 w3 := (below_alloc w2 _).trans (bb3.mono (by simp))
  have Q3 : Hid (QSt w n ka sa va kc sc vc v w2.heap.size g own D 57 (nC n) w3) :=
    ⟨L2.out.next hb3, X2.out.below hb3, (Blk.new w2 _ _).below bb3, r3, O2.out, Classical.byContradiction (fun h => by have := L2.out.dev.lt _ h; omega), Classical.byContradiction (fun h => by have := L2.out.dev.lt _ h; simp at g3; omega)⟩
  clear r3 g3 bb3 hb3 X2 L2 O2 hz2 a0 a1 a2 a3 a4 a5 a6 a7 HMA HWA
  generalize w2.heap.size = lb at *
  have hn1 := nodeOff_le n
  have hni : NodeIs (nW n) (entsW (nW n) (slotsW (nW n))) := ⟨nW_ok n, rfl, BA.out⟩
  have hRE := refEntries_any Q3.out.refIn
  rw [slotsN_ents Q3.out.refIn, show (slotsW (nW n)).length = (entsW (nW n) (slotsW (nW n))).length by simp [entsW]] at hRE
  obtain ⟨E, hE⟩ : ∃ E, entsW (nW n) (slotsW (nW n)) = E := ⟨_, rfl⟩
  rw [hE] at hRE hni
  have HRE := Lib.hid hRE; have HNI := Lib.hid hni
  have hq12 := hni.le
  obtain ⟨q, hq⟩ : ∃ q, E.length = q := ⟨_, rfl⟩
  have HQ := Lib.hid hq
  rw [hq] at hq12 HRE
  clear hRE hni hE hq
  go_wp2_with fail
  (with_reducible refine HRE.out.mono ?_)
  rintro e w4 ⟨av, rfl, e4⟩
  obtain ⟨aa, ac, hav⟩ := e4.slice
  subst hav
  have S4 : Hid (SSt w n ka sa va kc sc vc v lb g own D 57 (nC n) (.slice aa q ac) E w4) := ⟨Q3.out.next e4.bel, by rw [HQ.out]; exact e4.rd, fun k hk => ⟨Classical.byContradiction (fun h => by have := Q3.out.off h; have := e4.new k hk; omega), e4.own.lt k hk⟩⟩
  have hcap : q ≤ ac := by obtain ⟨_, _, _, e', hc', _⟩ := e4.rd; cases e'; exact hc'
  have hH := (S4.out.q.live.nd (V := nW n) 0 (nodeOff n) (by omega) (by omega) hn1.2.2 (by omega) (fun i => rfl) HNI.out).half
  rw [HQ.out] at hH
  have HH := Lib.hid hH
  obtain ⟨l0, l1⟩ := S4.out.q.leafC
  obtain ⟨d, hd⟩ : ∃ d, q / 2 = d := ⟨_, rfl⟩
  rw [hd] at HH
  obtain ⟨m, hm⟩ : ∃ m, q - d = m := ⟨_, rfl⟩
  have hdm : d + m = q := by omega
  have hkl : (ksE (E.drop d)).length = m ∧ (vsE (E.drop d)).length = m := by simp [ksE, vsE, HQ.out, hm]
  clear e4 hH HRE Q3
  go_wp2_with fail
  (with_reducible refine HH.out.mono ?_)
  rintro e w5 ⟨kv, vv, rfl, t5⟩
  have hta := t5.a; have htb := t5.b
  rw [hkl.1] at hta; rw [hkl.2] at htb
  obtain ⟨ka5, kc5, hkv⟩ := hta.slice
  obtain ⟨va5, vc5, hvv⟩ := htb.slice
  subst hkv; subst hvv
  have S5 := Lib.hid (S4.out.next hta.bel)
  have KV := Lib.hid (And.intro hta.rd htb.rd)
  clear t5 hta htb HH S4 l0 l1 hkl
  obtain ⟨wq, hwq⟩ : ∃ x : World, x = w5 := ⟨_, rfl⟩
  subst hwq
  go_upto_region 7 with fail
  go_cut [51, 52, 53] from 47 to 53 (fun u y z wx => ∃ a c, u = .slice a m c ∧ y = .int .i64 m ∧ z = .int .i64 0 ∧ RdSl wx 2 u m (entC (E.drop d)) ∧ wq = wx)
  case first =>
    have hrd : RdSl wq 2 (.slice aa q ac) q (entC E) := by have := S5.out.rd; rw [HQ.out] at this; exact this
    have hdr := hrd.dropG d (by omega)
    rw [entC_drop, hm] at hdr
    have HDR := Lib.hid hdr
    have g1 : (q : Int) / 2 = (d : Int) := by omega
    have g2 : (d : Int) ≤ ac := by omega
    have g3 : (d : Int) ≤ q := by omega
    have g4 : (q : Int) - (d : Int) = (m : Int) := by omega
    clear hrd hdr
    by_cases hac : ac = d
    · subst hac
      have HDR2 := HDR.out
      rw [if_pos rfl, Nat.sub_self] at HDR2
      have HDR3 := Lib.hid HDR2
      clear HDR2
      go_wp2_with fail
      go_meet
      exact ⟨_, _, rfl, rfl, rfl, HDR3.out, rfl⟩
    · have hac' : ¬ (ac : Int) = (d : Int) := by omega
      have HDR2 := HDR.out
      rw [if_neg hac] at HDR2
      have HDR3 := Lib.hid HDR2
      clear HDR2
      go_wp2_with fail
      go_meet
      exact ⟨_, _, rfl, rfl, rfl, HDR3.out, rfl⟩
  case rest =>
  obtain ⟨ra, rc, rfl, rfl, rfl, hrd, hww⟩ := hcut
  subst hww
  have AR := Lib.hid hrd
  have hml : (E.drop d).length = m := by rw [List.length_drop, HQ.out]; exact hm
  have HML := Lib.hid hml
  clear hrd hml
  go_wp2_with fail
  go_loopw [11, 12, 53] (fun _ _ y wr => ∃ i : Nat, i ≤ m ∧ y = .int .i64 i ∧ Below wq.heap.size wq wr) (fun _ _ y _ => m - (intOf y).toNat)
  case atStart => exact ⟨0, by omega, rfl, Below.refl _ _⟩
  case round =>
    obtain ⟨i, hi, rfl, hbz⟩ := hrel
    rename World => wr
    have BZ := Lib.hid hbz
    clear hbz
    by_cases hlt : i < m
    · have hlt' : (i : Int) < m := by omega
      obtain ⟨e, he⟩ : ∃ e, (E.drop d)[i]? = some e := ⟨_, List.getElem?_eq_getElem (by rw [HML.out]; exact hlt)⟩
      have hge := entC_get _ _ _ he
      have hk : (intsU (ksE (E.drop d)))[i]? = some (.int .u64 e.1) := by unfold intsU ksE; rw [List.getElem?_map, List.getElem?_map, he]; rfl
      have hv : (intsU (vsE (E.drop d)))[i]? = some (.int .u64 e.2) := by unfold intsU vsE; rw [List.getElem?_map, List.getElem?_map, he]; rfl
      obtain ⟨_, _, _, e', _, hE⟩ := AR.out.below BZ.out
      cases e'
      obtain ⟨eb, eo, rfl, hE2⟩ := rd_at hE hge.1
      have c1 := hE2 _ _ hge.1; have c2 := hE2 _ _ hge.2
      rw [← Nat.add_assoc] at c2
      obtain ⟨_, _, _, e', _, hF⟩ := KV.out.1.below BZ.out
      cases e'
      obtain ⟨kb, ko, rfl, hF2⟩ := rd_at hF hk
      have c3 := hF2 _ _ hk
      obtain ⟨_, _, _, e', _, hG⟩ := KV.out.2.below BZ.out
      cases e'
      obtain ⟨vb, vo, rfl, hG2⟩ := rd_at hG hv
      have c4 := hG2 _ _ hv
      obtain ⟨e1, e2⟩ := e
      simp only at c1 c2 c3 c4
      have B6 := Lib.hid (BZ.out.trans ((below_alloc wr (.cells #[.int .u64 e1, .int .u64 e2] 94)).mono BZ.out.size))
      have d3 : (wr.alloc (.cells #[.int .u64 e1, .int .u64 e2] 94)).cell? ⟨kb, ko + i, none⟩ = some (.int .u64 e1) := cell_bel (below_alloc _ _) c3
      have d4 : (wr.alloc (.cells #[.int .u64 e1, .int .u64 e2] 94)).cell? ⟨vb, vo + i, none⟩ = some (.int .u64 e2) := cell_bel (below_alloc _ _) c4
      have z0 : (wr.alloc (.cells #[.int .u64 e1, .int .u64 e2] 94)).cell? ⟨wr.heap.size, 0, none⟩ = some (.int .u64 e1) := (Blk.new wr _ _).cell rfl
      have z1 : (wr.alloc (.cells #[.int .u64 e1, .int .u64 e2] 94)).cell? ⟨wr.heap.size, 1, none⟩ = some (.int .u64 e2) := (Blk.new wr _ _).cell rfl
      clear hE hE2 hF hF2 hG hG2 hge hk hv he c3 c4
      go_wp2_with fail
      go_quiet (fail)
      go_wp2_with fail
      go_roundw
      case rel => exact ⟨i + 1, by omega, by go_num, by first | exact B6.out | exact B6.out.trans ((Qt.drewN _ _).below.mono B6.out.size)⟩
      case measure => simp [intOf]; omega
    · obtain rfl : i = m := by omega
      have S6 := Lib.hid (S5.out.next BZ.out)
      have hPt := pointerN_any (w := wr) 488 (by omega) (by omega) (by omega)
      rw [show ((488 : Nat) : Int) = 488 from rfl] at hPt
      have HPt := Lib.hid hPt
      have gq1 : (q : Int) / 2 = (d : Int) := by omega
      have gq2 : (q : Int) - (d : Int) = (i : Int) := by omega
      clear hPt S5 BZ AR KV HML
      go_wp2_with fail
      (with_reducible refine HPt.out.mono ?_)
      rintro e w' ⟨rfl, rfl⟩
      obtain ⟨l0, l1⟩ := S6.out.q.leafC
      have HC := Lib.hid ((S6.out.q.live.nd (V := nW n) 0 (nodeOff n) (by omega) (by omega) hn1.2.2 (by omega) (fun i => rfl) HNI.out).cut kz (ptrN 488))
      clear HPt
      go_wp2_with fail
      (with_reducible refine HC.out.mono ?_)
      rintro e w7 ⟨cv, rfl, c7⟩
      have hcl := cutR_len (nW n) (nodeOff n) kz (ptrN 488)
      have HCS := Lib.hid (cutR_cases (nW n) (nodeOff n) kz (ptrN 488))
      have HRC := Lib.hid (fun wx (h : QSt w n ka sa va kc sc vc v lb g own D 57 (nC n) wx) => refCut_any h.refIn (nodeOff n) kz (ptrN 488) (by omega))
      obtain ⟨J, hJ⟩ : ∃ J, cutR (nW n) (nodeOff n) kz (ptrN 488) = J := ⟨_, rfl⟩
      rw [hJ] at hcl HCS HRC c7 ⊢
      have S7 := Lib.hid (S6.out.next c7.bel)
      obtain ⟨L, er⟩ := J
      simp only at hcl HCS HRC c7 ⊢
      obtain ⟨ca, cc, hcv⟩ := c7.slice
      subst hcv
      have C7 : Hid (RdSl w7 2 (.slice ca L.length cc) L.length (flat L) ∧ ∀ k, (Value.slice ca L.length cc).ownBlock = some k → own k = none ∧ k < w7.heap.size) := ⟨c7.rd, fun k hk => ⟨Classical.byContradiction (fun h => by have := S6.out.q.off h; have := c7.new k hk; omega), c7.own.lt k hk⟩⟩
      clear c7 hJ S6 HC l0 l1
      obtain ⟨a0, a1, a2, a3, a4, a5, a6, a7⟩ := S7.out.q.boxC
      go_wp2_with fail
      (with_reducible refine (HO.out w7).mono ?_)
      rintro e w8 ⟨rfl, b8⟩
      have S8 := Lib.hid (S7.out.next b8); have C8 : Hid (RdSl w8 2 (.slice ca L.length cc) L.length (flat L)) := C7.out.1.below b8
      have HR8 := Lib.hid (HRC.out _ S8.out.q)
      clear S7 a0 a1 a2 a3 a4 a5 a6 a7
      go_wp2_with fail
      (with_reducible refine HR8.out.mono ?_)
      rintro e w9 ⟨rv, rfl, r9⟩
      obtain ⟨ra9, rc9, hrv⟩ := r9.slice
      subst hrv
      have S9 := Lib.hid (S8.out.next r9.bel); have C9 : Hid (RdSl w9 2 (.slice ca L.length cc) L.length (flat L)) := C8.out.below r9.bel
      have R9 := Lib.hid r9.rd
      have b79 := b8.trans (r9.bel.mono b8.size)
      have C7b := Lib.hid (fun k hk => (C7.out.2 k hk))
      have HZ9 := Lib.hid b79.size
      clear r9 S8 C8 HR8 HRC b8 C7 b79
      have hee : ((er : Int) != (er : Int)) = false := by simp
      have HWR := Lib.hid (writes_any (w := w9) (.slice ca L.length cc) L C9.out (by omega) (fun k hk => Nat.lt_of_lt_of_le (C7b.out k hk).2 HZ9.out))
      go_wp2_with fail
      (with_reducible refine HWR.out.mono ?_)
      rintro e w10 ⟨uv, rfl, u10⟩
      obtain ⟨ua, uc, huv⟩ := u10.slice
      subst huv
      have S10 := Lib.hid (S9.out.next u10.bel); have C10 : Hid (RdSl w10 2 (.slice ca L.length cc) L.length (flat L)) := C9.out.below u10.bel
      have HEQ := Lib.hid (equalRW_same (w := w10) (.slice ua L.length uc) (.slice ra9 L.length rc9) L u10.rd (R9.out.below u10.bel) (by omega))
      have HZ10 := Lib.hid (Nat.le_trans HZ9.out u10.bel.size)
      clear u10 HWR S9 C9 R9 HZ9
      go_wp2_with fail
      (with_reducible refine HEQ.out.mono ?_)
      rintro e w11 ⟨rfl, b11⟩
      have S11 := Lib.hid (S10.out.next b11); have C11 : Hid (RdSl w11 2 (.slice ca L.length cc) L.length (flat L)) := C10.out.below b11
      have HZ11 := Lib.hid (Nat.le_trans HZ10.out b11.size)
      clear b11 S10 C10 HEQ HZ10
      obtain ⟨a0, a1, a2, a3, a4, a5, a6, a7⟩ := S11.out.q.boxC
      go_wp2_with fail
      (with_reducible refine (HO.out w11).mono ?_)
      rintro e w12 ⟨rfl, b12⟩
      have S12 := Lib.hid (S11.out.next b12); have C12 : Hid (RdSl w12 2 (.slice ca L.length cc) L.length (flat L)) := C11.out.below b12
      have HZ12 := Lib.hid (Nat.le_trans HZ11.out b12.size)
      have HGE := Lib.hid S12.out.q.get
      clear b12 S11 C11 HZ11 a0 a1 a2 a3 a4 a5 a6 a7
      go_wp2_with fail
      (with_reducible refine HGE.out.mono ?_)
      rintro e w13 ⟨gv, rfl, g13⟩
      obtain ⟨ga, gc, hgv⟩ := g13.slice
      subst hgv
      have S13 := Lib.hid (S12.out.next g13.bel); have C13 : Hid (RdSl w13 2 (.slice ca L.length cc) L.length (flat L)) := C12.out.below g13.bel
      have HZ13 := Lib.hid (Nat.le_trans HZ12.out g13.bel.size)
      have HEU := Lib.hid (equalU_list (wx := w13) (.slice ga 28 gc) (.slice (some ⟨g, 0, none⟩) 28 28) (nW n) g13.rd S13.out.q.list)
      clear g13 HGE S12 C12 HZ12
      go_wp2_with fail
      (with_reducible refine HEU.out.mono ?_)
      rintro e w14 ⟨rfl, b14⟩
      have S14 := Lib.hid (S13.out.next b14); have C14 : Hid (RdSl w14 2 (.slice ca L.length cc) L.length (flat L)) := C13.out.below b14
      have HZ14 := Lib.hid (Nat.le_trans HZ13.out b14.size)
      clear b14 S13 C13 HEU HZ13
      rcases HCS.out with her | ⟨k, hkz, hk, hL⟩
      · subst her
        have hq1 : ((1 : Nat) : Int) = 1 := rfl
        go_wp2_with fail
        go_ret
        exact ⟨rfl, S14.out.bel⟩
      · subst hkz
        obtain ⟨rfl, rfl⟩ : L = cutL (nW n) (nodeOff n) k (ptrN 488) ∧ er = 0 := by
          have := Prod.mk.inj hL
          exact this
        have hkq : k < q := by have := HNI.out.len; rw [HQ.out] at this; omega
        have h00 : ((0 : Nat) : Int) = 0 := rfl
        clear hL hk HCS hee
        obtain ⟨m2, hm2⟩ : ∃ m2, q - k = m2 := ⟨_, rfl⟩
        have hkm : k + m2 = q := by omega
        obtain ⟨wq2, hwq2⟩ : ∃ x : World, x = w14 := ⟨_, rfl⟩
        subst hwq2
        go_upto_region 21 with fail
        go_cut [138, 139, 140] from 136 to 140 (fun u y z wx => ∃ a c, u = .slice a m2 c ∧ y = .int .i64 m2 ∧ z = .int .i64 0 ∧ RdSl wx 2 u m2 (entC (E.drop k)) ∧ wq2 = wx)
        case first =>
          have hrd : RdSl wq2 2 (.slice aa q ac) q (entC E) := by have := S14.out.rd; rw [HQ.out] at this; exact this
          have hdr := hrd.dropG k (by omega)
          rw [entC_drop, hm2, if_neg (by omega)] at hdr
          have HDR := Lib.hid hdr
          have g2 : (k : Int) ≤ ac := by omega
          have g3 : (k : Int) ≤ q := by omega
          have g4 : (q : Int) - (k : Int) = (m2 : Int) := by omega
          have hac' : ¬ (ac : Int) = (k : Int) := by omega
          clear hrd hdr
          go_wp2_with fail
          go_meet
          exact ⟨_, _, rfl, rfl, rfl, HDR.out, rfl⟩
        case rest =>
        obtain ⟨ra2, rc2, rfl, rfl, rfl, hrd, hww⟩ := hcut
        subst hww
        have AR := Lib.hid hrd
        have hml : (E.drop k).length = m2 := by rw [List.length_drop, HQ.out]; exact hm2
        have HML := Lib.hid hml
        obtain ⟨i0, hi0, hz0, hz1, hz2⟩ := info_parts infoU64
        have I := Lib.hid (And.intro hi0 (And.intro hz0 (And.intro hz1 hz2)))
        clear hi0 hz0 hz1 hz2 hrd hml
        go_wp2_with fail
        go_loopw [18, 19, 21, 140] (fun kv vv _ y wr => ∃ i : Nat, i ≤ m2 ∧ y = .int .i64 i ∧ Two wq2 wq2.heap.size wr kv vv (ksE ((E.drop k).take i)) (vsE ((E.drop k).take i))) (fun _ _ _ y _ => m2 - (intOf y).toNat)
        case atStart => exact ⟨0, by omega, rfl, Acc.nil wq2 _ _ _ _ (Below.refl _ _) (Nat.le_refl _), Acc.nil wq2 _ _ _ _ (Below.refl _ _) (Nat.le_refl _), fun g hg => by simp [Value.ownBlock] at hg⟩
        case round =>
          obtain ⟨i, hi, rfl, ht⟩ := hrel
          rename World => wr
          by_cases hlt : i < m2
          · have hlt' : (i : Int) < m2 := by omega
            obtain ⟨e, he⟩ : ∃ e, (E.drop k)[i]? = some e := ⟨_, List.getElem?_eq_getElem (by rw [HML.out]; exact hlt)⟩
            have hge := entC_get _ _ _ he
            obtain ⟨_, _, _, e', _, hE⟩ := AR.out.below ht.a.bel
            cases e'
            obtain ⟨eb, eo, rfl, hE2⟩ := rd_at hE hge.1
            have c1 := hE2 _ _ hge.1; have c2 := hE2 _ _ hge.2
            rw [← Nat.add_assoc] at c2
            have HD : Hid ((E.drop k).take (i + 1) = (E.drop k).take i ++ [e]) := by show _ = _; rw [List.take_add_one, he]; rfl
            have hkl : (ksE ((E.drop k).take i)).length ≤ 12 ∧ (vsE ((E.drop k).take i)).length ≤ 12 := by simp [ksE, vsE]; omega
            obtain ⟨kl, hk1⟩ : ∃ kl, ksE ((E.drop k).take i) = kl := ⟨_, rfl⟩
            obtain ⟨vl, hv1⟩ : ∃ vl, vsE ((E.drop k).take i) = vl := ⟨_, rfl⟩
            rw [hk1, hv1] at ht hkl
            have HKL := Lib.hid (And.intro hk1 hv1)
            obtain ⟨hl1, hl2⟩ := hkl
            obtain ⟨e1, e2⟩ := e
            simp only at c1 c2
            have TB := Lib.hid (ht.keep (below_alloc wr (.cells #[.int .u64 e1, .int .u64 e2] 94)))
            have KB : Hid (Blk (wr.alloc (.cells #[.int .u64 e1, .int .u64 e2] 94)) wr.heap.size #[.int .u64 e1, .int .u64 e2] 94) := Blk.new wr _ _
            have hlk := ht.a.own.lt; have hlv := ht.b.own.lt
            obtain ⟨ka6, kc6, hkv⟩ := ht.a.slice
            obtain ⟨va6, vc6, hvv⟩ := ht.b.slice
            subst hkv; subst hvv
            have HNE : Hid ((Value.slice ka6 kl.length kc6).ownBlock ≠ some wr.heap.size ∧ (∀ g, (Value.slice ka6 kl.length kc6).ownBlock = some g → g < wr.heap.size) ∧ (Value.slice va6 vl.length vc6).ownBlock ≠ some wr.heap.size) := ⟨fun h => by have := hlk _ h; omega, hlk, fun h => by have := hlv _ h; omega⟩
            have hbz := (below_alloc wr (.cells #[.int .u64 e1, .int .u64 e2] 94)).size
            have HBZ : Hid (wr.heap.size < (wr.alloc (.cells #[.int .u64 e1, .int .u64 e2] 94)).heap.size) := KB.out.lt
            clear hE hE2 hge he hk1 hv1 hlk hlv ht
            go_upto_region 24 with fail
            obtain ⟨wb, hwb⟩ : ∃ x, wr.alloc (.cells #[.int .u64 e1, .int .u64 e2] 94) = x := ⟨_, rfl⟩
            obtain ⟨bb, hbb⟩ : ∃ x, wr.heap.size = x := ⟨_, rfl⟩
            rw [hwb, hbb] at KB HBZ
            rw [hwb] at TB ⊢
            rw [hbb] at HNE ⊢
            clear hwb hbb hbz c1 c2
            go_region_held3 (fun wx => wx.cell? ⟨bb, 0, none⟩ = some (.int .u64 e1) ∧ wx.cell? ⟨bb, 1, none⟩ = some (.int .u64 e2)) (first | ((with_reducible refine blk2C (t := 94) ?_); (repeat (first | (with_reducible exact KB2.out) | (with_reducible exact KB1.out) | (with_reducible exact KB.out) | (with_reducible refine Blk.drew ?_) | (with_reducible refine Blk.alloc ?_ _))))) (first | (refine step_append_sl (w := (wb.alloc (.cells #[.int .u64 e1] 28)).drew) rfl (.tmp 144) (.tmp 147) 23 rfl 28 i0 _ 1 8 Tryz.underlying23 I.out.1 I.out.2.1 I.out.2.2.1 I.out.2.2.2 rfl (by decide) (.slice ka6 kl.length kc6) kl.length (intsU kl) rfl (by exact (TB.out.a.own.alloc _).drew) _ 1 [.int .u64 e1] rfl (by exact (RdSl.newAt wb #[.int .u64 e1] 28 1 1 _ rfl rfl).drew) (one_int _ _) (by unfold maxLen; omega) (by omega) ?_; intro v1 w1' o1 g1 b1; have T1 := Lib.hid (TB.out.left (below_oneD wb _) o1 g1 b1 (by first | (simp; done) | (simp; omega))); have KB1 := Lib.hid (blk_grown (KB.out.alloc _).drew g1 HNE.out.1); clear o1 g1 b1) | (refine step_append_sl (w := ((wb.alloc (.cells #[.int .u64 e1] 28)).alloc (.cells #[.int .u64 e2] 28)).drew) rfl (.tmp 144) (.tmp 147) 23 rfl 28 i0 _ 1 8 Tryz.underlying23 I.out.1 I.out.2.1 I.out.2.2.1 I.out.2.2.2 rfl (by decide) (.slice ka6 kl.length kc6) kl.length (intsU kl) rfl (by exact ((TB.out.a.own.alloc _).alloc _).drew) _ 1 [.int .u64 e1] rfl (by exact ((RdSl.newAt wb #[.int .u64 e1] 28 1 1 _ rfl rfl).alloc _).drew) (one_int _ _) (by unfold maxLen; omega) (by omega) ?_; intro v1 w1' o1 g1 b1; have T1 := Lib.hid (TB.out.left (below_twoD wb _ _) o1 g1 b1 (by first | (simp; done) | (simp; omega))); have KB1 := Lib.hid (blk_grown ((KB.out.alloc _).alloc _).drew g1 HNE.out.1); have RB := Lib.hid (rd_one (RdSl.newAt (wb.alloc (.cells #[.int .u64 e1] 28)) #[.int .u64 e2] 28 1 1 (wb.heap.size + 1) (by simp) rfl).drew g1 (by have := HBZ.out; simp [World.drew]) (fun h => by have := HNE.out.2.1 _ h; have := HBZ.out; omega)); clear o1 g1 b1) | (refine step_append_sl (w := ((wb.alloc (.cells #[.int .u64 e2] 28)).alloc (.cells #[.int .u64 e1] 28)).drew) rfl (.tmp 144) (.tmp 147) 23 rfl 28 i0 _ 1 8 Tryz.underlying23 I.out.1 I.out.2.1 I.out.2.2.1 I.out.2.2.2 rfl (by decide) (.slice ka6 kl.length kc6) kl.length (intsU kl) rfl (by exact ((TB.out.a.own.alloc _).alloc _).drew) _ 1 [.int .u64 e1] rfl (by exact (RdSl.newAt (wb.alloc (.cells #[.int .u64 e2] 28)) #[.int .u64 e1] 28 1 1 (wb.heap.size + 1) (by simp) rfl).drew) (one_int _ _) (by unfold maxLen; omega) (by omega) ?_; intro v1 w1' o1 g1 b1; have T1 := Lib.hid (TB.out.left (below_twoD wb _ _) o1 g1 b1 (by first | (simp; done) | (simp; omega))); have KB1 := Lib.hid (blk_grown ((KB.out.alloc _).alloc _).drew g1 HNE.out.1); have RB := Lib.hid (rd_one ((RdSl.newAt wb #[.int .u64 e2] 28 1 1 _ rfl rfl).alloc _).drew g1 (by have := HBZ.out; simp [World.drew]; omega) (fun h => by have := HNE.out.2.1 _ h; have := HBZ.out; omega)); clear o1 g1 b1) | (refine step_append_sl (w := w1'.alloc (.cells #[.int .u64 e2] 28)) rfl (.tmp 149) (.tmp 152) 23 rfl 28 i0 _ 1 8 Tryz.underlying23 I.out.1 I.out.2.1 I.out.2.2.1 I.out.2.2.2 rfl (by decide) (.slice va6 vl.length vc6) vl.length (intsU vl) rfl (by exact T1.out.b.own.alloc _) _ 1 [.int .u64 e2] rfl (by exact RdSl.newAt w1' #[.int .u64 e2] 28 1 1 _ rfl rfl) (one_int _ _) (by unfold maxLen; omega) (by omega) ?_; intro v2 w2' o2 g2 b2; have T2 := Lib.hid ((T1.out.swap.left (below_alloc _ _) o2 g2 b2 (by simp)).swap); have KB2 : Hid (Blk w2' bb #[.int .u64 e1, .int .u64 e2] 94) := blk_grown (KB1.out.alloc _) g2 HNE.out.2.2; clear o2 g2 b2) | (refine step_append_sl (w := w1') rfl (.tmp 149) (.tmp 152) 23 rfl 28 i0 _ 1 8 Tryz.underlying23 I.out.1 I.out.2.1 I.out.2.2.1 I.out.2.2.2 rfl (by decide) (.slice va6 vl.length vc6) vl.length (intsU vl) rfl (by exact T1.out.b.own) _ 1 [.int .u64 e2] rfl (by exact RB.out) (one_int _ _) (by unfold maxLen; omega) (by omega) ?_; intro v2 w2' o2 g2 b2; have T2 := Lib.hid ((T1.out.swap.left (Below.refl _ _) o2 g2 b2 (by omega)).swap); have KB2 : Hid (Blk w2' bb #[.int .u64 e1, .int .u64 e2] 94) := blk_grown KB1.out g2 HNE.out.2.2; clear o2 g2 b2))
            all_goals go_wp2_with fail
            all_goals
              go_roundw
              case rel =>
                refine ⟨i + 1, by omega, by go_num, ?_⟩
                rw [HD.out]
                have e1' : ksE ((E.drop k).take i ++ [(e1, e2)]) = kl ++ [e1] := by rw [← HKL.out.1]; simp [ksE]
                have e2' : vsE ((E.drop k).take i ++ [(e1, e2)]) = vl ++ [e2] := by rw [← HKL.out.2]; simp [vsE]
                rw [e1', e2']; exact T2.out
              case measure => simp [intOf]; omega
          · obtain rfl : i = m2 := by omega
            have hfull : (E.drop k).take i = E.drop k := List.take_of_length_le (by rw [HML.out]; exact Nat.le_refl _)
            rw [hfull] at ht
            have hkl : (ksE (E.drop k)).length = i ∧ (vsE (E.drop k)).length = i := by simp [ksE, vsE, HQ.out, hm2]
            have hta := ht.a; have htb := ht.b
            rw [hkl.1] at hta; rw [hkl.2] at htb
            obtain ⟨ka6, kc6, hkv⟩ := hta.slice
            obtain ⟨va6, vc6, hvv⟩ := htb.slice
            subst hkv; subst hvv
            have S15 := Lib.hid (S14.out.next hta.bel); have C15 : Hid (RdSl wr 2 (.slice ca (cutL (nW n) (nodeOff n) k (ptrN 488)).length cc) (cutL (nW n) (nodeOff n) k (ptrN 488)).length (flat (cutL (nW n) (nodeOff n) k (ptrN 488)))) := C14.out.below hta.bel
            have HZ15 := Lib.hid (Nat.le_trans HZ14.out hta.bel.size)
            have KV15 := Lib.hid (And.intro hta.rd htb.rd)
            have HKL := Lib.hid hkl
            clear ht hta htb hfull hkl S14 C14 HZ14 AR HML
            obtain ⟨l0, l1⟩ := S15.out.q.leafC
            have HHI := Lib.hid ((S15.out.q.live.nd (V := nW n) 0 (nodeOff n) (by omega) (by omega) hn1.2.2 (by omega) (fun i => rfl) HNI.out).high)
            obtain ⟨W2, hW2⟩ : ∃ x, nW n 2 = x := ⟨_, rfl⟩
            obtain ⟨W3, hW3⟩ : ∃ x : Bool, (nW n 3 == 1) = x := ⟨_, rfl⟩
            rw [hW2, hW3] at HHI
            have HW23 := Lib.hid (And.intro hW2 hW3)
            clear hW2 hW3
            go_wp2_with fail
            (with_reducible refine HHI.out.mono ?_)
            rintro e w16 ⟨rfl, b16⟩
            have S16 := Lib.hid (S15.out.next b16); have C16 := Lib.hid (C15.out.below b16); have KV16 := Lib.hid (And.intro (KV15.out.1.below b16) (KV15.out.2.below b16))
            have HZ16 := Lib.hid (Nat.le_trans HZ15.out b16.size)
            clear b16 S15 C15 KV15 HZ15 HHI l0 l1
            obtain ⟨l0, l1⟩ := S16.out.q.leafC
            have HNX := Lib.hid ((S16.out.q.live.nd (V := nW n) 0 (nodeOff n) (by omega) (by omega) hn1.2.2 (by omega) (fun i => rfl) HNI.out).nxt)
            obtain ⟨W1, hW1⟩ : ∃ x, nW n 1 = x := ⟨_, rfl⟩
            rw [hW1] at HNX
            have HW1 := Lib.hid hW1
            clear hW1
            go_wp2_with fail
            (with_reducible refine HNX.out.mono ?_)
            rintro e w17 ⟨rfl, b17⟩
            have S17 := Lib.hid (S16.out.next b17); have C17 := Lib.hid (C16.out.below b17); have KV17 := Lib.hid (And.intro (KV16.out.1.below b17) (KV16.out.2.below b17))
            have HZ17 := Lib.hid (Nat.le_trans HZ16.out b17.size)
            clear b17 S16 C16 KV16 HZ16 HNX l0 l1
            have HEN := Lib.hid (encode_any (w := w17) (.slice ka6 i kc6) (.slice va6 i vc6) (ksE (E.drop k)) (vsE (E.drop k)) W1 W2 W3 (by rw [HKL.out.1]; exact KV17.out.1) (by rw [HKL.out.2]; exact KV17.out.2) (by rw [HKL.out.1, HKL.out.2]) (by rw [HKL.out.1]; omega))
            go_wp2_with fail
            (with_reducible refine HEN.out.mono ?_)
            rintro e w18 ⟨hen, _⟩
            obtain ⟨g2, rfl, r18, g18, b18⟩ := hen (by have := enc_good (HNI.out.e.drop k); rw [HW23.out.1, HW23.out.2] at this; exact this)
            have hsp := split_plain (C := nC n) (off := nodeOff n) (k := k) (W := nW n) (fun _ => rfl) HNI.out hn1.2.2 (by omega) (by rw [HQ.out]; exact hkq)
            rw [HW1.out, HW23.out.1, HW23.out.2] at hsp
            obtain ⟨jl, hsp⟩ := hsp
            have S18 := Lib.hid (S17.out.next b18); have C18 := Lib.hid (C17.out.below b18)
            have HZ18 := Lib.hid (Nat.le_trans HZ17.out b18.size)
            have hP := S18.out.q.live.put 488 (.slice (some ⟨g2, 0, none⟩) 28 28) (encL (E.drop k) W1 W2 W3) (by omega) (by rw [encL_len]; omega) (by rw [encL_len]; omega) (enc_row r18) (fun k hk => by
              simp [Value.ownBlock] at hk; subst hk
              exact Classical.byContradiction (fun h => by have := S17.out.q.off h; omega))
            rw [show ((488 : Nat) : Int) = 488 from rfl, encL_len] at hP
            have HP := Lib.hid hP
            have h00' : ((0 : Nat) : Int) = 0 := rfl
            clear hen r18 g18 hP b18 HEN KV17 S17 C17 HZ17 HKL
            go_wp2_with fail
            (with_reducible refine HP.out.mono ?_)
            rintro e w19 ⟨rfl, own19, D19, l19, o19, u19⟩
            have S19 := Lib.hid (S18.out.moved l19 o19 u19)
            have SP := Lib.hid hsp
            have hcl : (cutL (nW n) (nodeOff n) k (ptrN 488)).length ≤ 4 := Nat.le_refl 4
            obtain ⟨CL, hCL⟩ : ∃ x, cutL (nW n) (nodeOff n) k (ptrN 488) = x := ⟨_, rfl⟩
            rw [hCL] at C18 SP hcl C7b ⊢
            have C19 : Hid (RdSl w19 2 (.slice ca CL.length cc) CL.length (flat CL) ∧ ∀ k, (Value.slice ca CL.length cc).ownBlock = some k → own19 k = none) := ⟨C18.out.upd u19 (fun k hk => by simpa using (C7b.out k hk).1), fun k hk => by rw [o19 k (Nat.lt_of_lt_of_le (C7b.out k hk).2 HZ18.out)]; exact (C7b.out k hk).1⟩
            have HCB : Hid (∀ e ∈ CL, e.1 < 18446744073709551616) := fun e he => by have := SP.out.co e he; omega
            rw [show 488 / 8 = 61 from rfl] at S19
            obtain ⟨C1, hC1⟩ : ∃ x, laid (nC n) 61 (encL (E.drop k) W1 W2 W3) = x := ⟨_, rfl⟩
            rw [hC1] at S19 SP
            clear hsp hC1 hCL HP l19 o19 u19 S18 C18 HZ18 C7b
            go_wp2_with fail
            (with_reducible refine (thread1_any S19.out.q.live.dev).mono ?_)
            rintro e w' ⟨rfl, rfl⟩
            go_wp2_with fail
            (with_reducible refine (at_any _ _ (.inr ⟨_, _, rfl⟩)).mono ?_)
            rintro e w20 ⟨rfl, b20⟩
            have b21 := b20.trans ((below_alloc w20 (.cells #[.iface 76 (.pointer (some ⟨v.tb 1, 0, none⟩)), .int .u64 (ptrN 488 : Nat)] 35)).mono b20.size)
            have R21 : Hid (RSp w n ka sa va kc sc vc v lb g w20.heap.size own19 D19 114 C1 (.slice aa q ac) E (w20.alloc (.cells #[.iface 76 (.pointer (some ⟨v.tb 1, 0, none⟩)), .int .u64 (ptrN 488 : Nat)] 35))) :=
              ⟨S19.out.next b21, Blk.new w20 _ _, Classical.byContradiction (fun h => by have := S19.out.q.off h; have := b20.size; omega)⟩
            have C21 := Lib.hid (C19.out.1.below b21)
            have C21d := Lib.hid (C19.out.1.below b21).drew
            clear b20 b21 S19
            go_upto_region 32 with fail
            generalize w20.alloc (.cells #[.iface 76 (.pointer (some ⟨v.tb 1, 0, none⟩)), .int .u64 (ptrN 488 : Nat)] 35) = w21 at *
            generalize w20.heap.size = rb at *
            have hkE : k < E.length := by rw [HQ.out]; exact hkq
            have g2' : (k : Int) ≤ ac := by omega
            have g3' : (k : Int) ≤ q := by omega
            have g4' : (q : Int) - (k : Int) = (i : Int) := by omega
            have hac' : ¬ (ac : Int) = (k : Int) := by omega
            have hx12 : E.length ≤ 100000 := by rw [HQ.out]; omega
            have HST := Lib.hid (fun wx (h : RdSl wx 2 (.slice ca CL.length cc) CL.length (flat CL)) => stores_any _ CL h (by omega) HCB.out)
            have HTH := Lib.hid (fun wx (own : Nat → Option Role) (D : Dev) (h : IsDev wx v own D) => thread0_any h)
            have HRN := Lib.hid (fun wx pv (h : RSp w n ka sa va kc sc vc v lb g rb own19 D19 114 C1 (.slice aa q ac) E wx) (hp : RdSl wx 3 pv (storesL CL).length (instrC (storesL CL))) (ho : ∀ k, pv.ownBlock = some k → own19 k = none) => h.run (by omega) SP.out.co SP.out.cn hp ho)
            have HE0 := Lib.hid (fun wx (own : Nat → Option Role) (D : Dev) (h : RSp w n ka sa va kc sc vc v lb g rb own D (114 + 100) (fun i => look CL (C1 i) i) (.slice aa q ac) E wx) => (h.nl SP.out.l2).entr)
            have HE1 := Lib.hid (fun wx (own : Nat → Option Role) (D : Dev) (h : RSp w n ka sa va kc sc vc v lb g rb own D (114 + 100) (fun i => look CL (C1 i) i) (.slice aa q ac) E wx) => (h.nr SP.out.r2).entr)
            have HN0 := Lib.hid (fun wx (own : Nat → Option Role) (D : Dev) (h : RSp w n ka sa va kc sc vc v lb g rb own D (114 + 100) (fun i => look CL (C1 i) i) (.slice aa q ac) E wx) => h.nxtL SP.out.l2 SP.out.l21)
            have HK0 := Lib.hid (fun wx (own : Nat → Option Role) (D : Dev) (h : RSp w n ka sa va kc sc vc v lb g rb own D (114 + 100) (fun i => look CL (C1 i) i) (.slice aa q ac) E wx) => (h.nl SP.out.l2).chk)
            have HK1 := Lib.hid (fun wx (own : Nat → Option Role) (D : Dev) (h : RSp w n ka sa va kc sc vc v lb g rb own D (114 + 100) (fun i => look CL (C1 i) i) (.slice aa q ac) E wx) => (h.nr SP.out.r2).chk)
            have HSM := Lib.hid (fun wx u u' (A : List (Int × Int)) (h1 : RdSl wx 2 u A.length (entC A)) (h2 : RdSl wx 2 u' A.length (entC A)) (hl : A.length ≤ 100000) => refSame_same (w := wx) u u' A h1 h2 hl)
            have hpart : Hid ((∀ wx, RdSl wx 2 (.slice aa q ac) E.length (entC E) → RdSl wx 2 (.slice aa k ac) (E.take k).length (entC (E.take k))) ∧ (∀ wx, RdSl wx 2 (.slice aa q ac) E.length (entC E) → RdSl wx 2 (.slice (aa.map (·.add (k * 2))) i (ac - k)) (E.drop k).length (entC (E.drop k)))) := by
              refine ⟨fun wx h => ?_, fun wx h => ?_⟩
              · rw [HQ.out] at h
                have := h.takeG k (by omega)
                rw [entC_take] at this
                rw [List.length_take, HQ.out, Nat.min_eq_left (by omega)]
                exact this
              · rw [HQ.out] at h
                have := h.dropG k (by omega)
                rw [entC_drop, hm2, if_neg (by omega)] at this
                rw [List.length_drop, HQ.out, hm2]
                exact this
            have hl1 : (E.take k).length ≤ 100000 := by rw [List.length_take]; omega
            have hl2 : (E.drop k).length ≤ 100000 := by rw [List.length_drop]; omega
            obtain ⟨EA, hEA⟩ : ∃ x, E.take k = x := ⟨_, rfl⟩
            obtain ⟨EB, hEB⟩ : ∃ x, E.drop k = x := ⟨_, rfl⟩
            rw [hEA, hEB] at hpart
            rw [hEA] at HE0 hl1
            rw [hEB] at HE1 hl2
            clear hEA hEB
            go_cut [220] from 180 to 220 (fun u wx => u = .bool false ∧ ∃ own D, RSp w n ka sa va kc sc vc v lb g rb own D (114 + 100) (fun i => look CL (C1 i) i) (.slice aa q ac) E wx)
            case first =>
              go_region_held3 (fun wx => wx.cell? ⟨lb, 0, none⟩ = some (.iface 76 (.pointer (some ⟨v.tb 0, 0, none⟩))) ∧ wx.cell? ⟨lb, 1, none⟩ = some (.int .u64 (ptrN (nodeOff n) : Nat)) ∧ wx.cell? ⟨rb, 0, none⟩ = some (.iface 76 (.pointer (some ⟨v.tb 1, 0, none⟩))) ∧ wx.cell? ⟨rb, 1, none⟩ = some (.int .u64 (ptrN 488 : Nat))) (first | (with_reducible exact R30.out.cells) | (with_reducible exact R29.out.cells) | (with_reducible exact R28.out.cells) | (with_reducible exact R27.out.cells) | (with_reducible exact R26.out.cells) | (with_reducible exact R25.out.cells) | (with_reducible exact R24.out.cells) | (with_reducible exact R23.out.cells) | (with_reducible exact R22.out.cells) | (with_reducible exact R21.out.drew.cells) | (with_reducible exact R21.out.cells)) (first | (go_at_call 48; (with_reducible refine (HST.out _ C21d.out).mono ?_); rintro e w22 ⟨pv, rfl, p22⟩; obtain ⟨pa, pc, hpv⟩ := p22.slice; subst hpv; have R22 := Lib.hid (R21.out.drew.next p22.bel); have P22 := Lib.hid (And.intro p22.rd (fun k hk => R21.out.drew.free (p22.new k hk))); clear p22) | (go_at_call 34; (with_reducible refine (HTH.out _ _ _ R22.out.s.q.live.dev).mono ?_); rintro e w' ⟨rfl, rfl⟩) | (go_at_call 33; (with_reducible refine (HRN.out _ _ R22.out P22.out.1 P22.out.2).mono ?_); rintro e w23 ⟨rfl, own23, D23, r23⟩; have R23 := Lib.hid r23; clear r23) | (go_at_call 16; (with_reducible refine (HE0.out _ _ _ R23.out).mono ?_); rintro e w24 ⟨a24, c24, rfl, q24, b24⟩; have R24 := Lib.hid (R23.out.next b24); have Q24 := Lib.hid q24; clear q24 b24) | (go_at_call 15; (with_reducible refine (HSM.out _ _ _ _ Q24.out (hpart.out.1 _ R24.out.s.rd) hl1).mono ?_); rintro e w25 ⟨rfl, b25⟩; have R25 := Lib.hid (R24.out.next b25); clear b25) | (go_at_call 16; (with_reducible refine (HE1.out _ _ _ R25.out).mono ?_); rintro e w26 ⟨a26, c26, rfl, q26, b26⟩; have R26 := Lib.hid (R25.out.next b26); have Q26 := Lib.hid q26; clear q26 b26) | (go_at_call 15; (with_reducible refine (HSM.out _ _ _ _ Q26.out (hpart.out.2 _ R26.out.s.rd) hl2).mono ?_); rintro e w27 ⟨rfl, b27⟩; have R27 := Lib.hid (R26.out.next b27); clear b27) | (go_at_call 27; (with_reducible refine (HN0.out _ _ _ R27.out).mono ?_); rintro e w28 ⟨rfl, b28⟩; have R28 := Lib.hid (R27.out.next b28); clear b28) | (go_at_call 14; (with_reducible refine (HK0.out _ _ _ R28.out).mono ?_); rintro e w29 ⟨rfl, b29⟩; have R29 := Lib.hid (R28.out.next b29); clear b29) | (go_at_call 14; (with_reducible refine (HK1.out _ _ _ R29.out).mono ?_); rintro e w30 ⟨rfl, b30⟩; have R30 := Lib.hid (R29.out.next b30); clear b30))
              all_goals go_wp2_with fail
              all_goals go_meet
              all_goals exact ⟨rfl, _, _, R30.out⟩
            case rest =>
            obtain ⟨rfl, own30, D30, hr30⟩ := hcut
            obtain ⟨w30, hw30⟩ : ∃ y : World, y = wc := ⟨_, rfl⟩
            subst hw30
            have R30 := Lib.hid hr30
            clear hr30 R21 C21 C21d HST HRN HE0 HE1 HN0 HK0 HK1 hpart
            have HTH := Lib.hid (fun wx (own : Nat → Option Role) (D : Dev) (h : IsDev wx v own D) => thread0_any h)
            obtain ⟨e, he⟩ : ∃ e, E[k]? = some e := ⟨_, List.getElem?_eq_getElem hkE⟩
            have hge := entC_get _ _ _ he
            have hgd : E.getD k (0, 0) = e := by rw [List.getD_eq_getElem?_getD, he]; rfl
            obtain ⟨e1, e2⟩ := e
            have HH2 := Lib.hid (R30.out.highL SP.out.l2 (SP.out.l22.trans (congrArg (·.1) hgd)) SP.out.l23 rfl)
            obtain ⟨l0, l1, l2, l3⟩ := R30.out.cells
            clear hgd he
            go_wp2_with fail
            (with_reducible refine HH2.out.mono ?_)
            rintro e w31 ⟨rfl, b31⟩
            have R31 := Lib.hid (R30.out.next b31)
            clear b31 R30 HH2 l0 l1 l2 l3
            obtain ⟨_, _, _, e', _, hE⟩ := R31.out.s.rd
            have hkq' : (k : Int) < q := by omega
            obtain ⟨eb, eo, haa, hE2⟩ := rd_at hE hge.1
            have haa2 : aa = some ⟨eb, eo, none⟩ := by
              have := congrArg slAddr e'
              simp [slAddr] at this
              rw [this]; exact haa
            have c1 := hE2 _ _ hge.1
            subst haa2
            have HJ := Lib.hid (R31.out.joinL SP.out.l2 SP.out.r2 SP.out.jz)
            obtain ⟨l0, l1, l2, l3⟩ := R31.out.cells
            clear hE hE2 hge e' haa
            go_wp2_with fail
            (with_reducible refine HJ.out.mono ?_)
            rintro e w32 ⟨jv, rfl, j32⟩
            obtain ⟨ja, jc, hjv⟩ := j32.slice
            subst hjv
            have R32 := Lib.hid (R31.out.next j32.bel)
            have hjn := SP.out.jn
            have HST := Lib.hid (stores_any (w := w32) (.slice ja jl.length jc) jl j32.rd (by omega) (fun e he => by have := SP.out.jo e he; omega))
            have h00 : ((0 : Nat) : Int) = 0 := rfl
            clear j32 HJ R31 l0 l1 l2 l3 c1
            go_wp2_with fail
            (with_reducible refine HST.out.mono ?_)
            rintro e w33 ⟨pv, rfl, p33⟩
            obtain ⟨pa, pc, hpv⟩ := p33.slice
            subst hpv
            have R33 := Lib.hid (R32.out.next p33.bel)
            have HRN := Lib.hid (R33.out.run (by omega) SP.out.jo SP.out.jn p33.rd (fun k hk => R32.out.free (p33.new k hk)))
            clear p33 HST R32
            go_wp2_with fail
            (with_reducible refine (HTH.out _ _ _ R33.out.s.q.live.dev).mono ?_)
            rintro e w' ⟨rfl, rfl⟩
            go_wp2_with fail
            (with_reducible refine HRN.out.mono ?_)
            rintro e w34 ⟨rfl, own34, D34, r34⟩
            have R34 := Lib.hid r34
            have HH3 := Lib.hid (R34.out.highL SP.out.l3 SP.out.l32 SP.out.l33 HW23.out.2)
            obtain ⟨l0, l1, l2, l3⟩ := R34.out.cells
            clear r34 HRN R33
            go_wp2_with fail
            (with_reducible refine HH3.out.mono ?_)
            rintro e w35 ⟨rfl, b35⟩
            have R35 := Lib.hid (R34.out.next b35)
            clear b35 R34 HH3 l0 l1 l2 l3
            have HK3 := Lib.hid (fun wx (h : RSp w n ka sa va kc sc vc v lb g rb own34 D34 (114 + 100 + 100) (fun i => look jl (look CL (C1 i) i) i) (.slice (some ⟨eb, eo, none⟩) q ac) E wx) => (h.nl SP.out.l3).chk)
            have HE3 := Lib.hid (fun wx (h : RSp w n ka sa va kc sc vc v lb g rb own34 D34 (114 + 100 + 100) (fun i => look jl (look CL (C1 i) i) i) (.slice (some ⟨eb, eo, none⟩) q ac) E wx) => (h.nl SP.out.l3).entr)
            have HN3 := Lib.hid (fun wx (h : RSp w n ka sa va kc sc vc v lb g rb own34 D34 (114 + 100 + 100) (fun i => look jl (look CL (C1 i) i) i) (.slice (some ⟨eb, eo, none⟩) q ac) E wx) => h.nxtL SP.out.l3 SP.out.l31)
            have HW1b := Lib.hid HW1.out
            obtain ⟨l0, l1, l2⟩ := R35.out.cellsW HW1b.out
            go_upto_region 41 with fail
            go_region_held3 (fun wx => wx.cell? ⟨lb, 0, none⟩ = some (.iface 76 (.pointer (some ⟨v.tb 0, 0, none⟩))) ∧ wx.cell? ⟨lb, 1, none⟩ = some (.int .u64 (ptrN (nodeOff n) : Nat)) ∧ wx.cell? ⟨g, 1, none⟩ = some (.int .u64 W1)) (first | (with_reducible exact R39.out.cellsW HW1b.out) | (with_reducible exact R38.out.cellsW HW1b.out) | (with_reducible exact R37.out.cellsW HW1b.out) | (with_reducible exact R36.out.cellsW HW1b.out) | (with_reducible exact R35.out.drew.cellsW HW1b.out) | (with_reducible exact R35.out.cellsW HW1b.out)) (first | (go_at_call 14; (with_reducible refine (HK3.out _ R35.out.drew).mono ?_); rintro e w36 ⟨rfl, b36⟩; have R36 := Lib.hid (R35.out.drew.next b36); clear b36) | (go_at_call 16; (with_reducible refine (HE3.out _ R36.out).mono ?_); rintro e w37 ⟨a37, c37, rfl, q37, b37⟩; have R37 := Lib.hid (R36.out.next b37); have Q37 := Lib.hid q37; clear q37 b37) | (go_at_call 15; (with_reducible refine (HSM.out _ _ _ _ Q37.out R37.out.s.rd hx12).mono ?_); rintro e w38 ⟨rfl, b38⟩; have R38 := Lib.hid (R37.out.next b38); clear b38) | (go_at_call 27; (with_reducible refine (HN3.out _ R38.out).mono ?_); rintro e w39 ⟨rfl, b39⟩; have R39 := Lib.hid (R38.out.next b39); clear b39))
            all_goals go_wp2_with fail
            all_goals go_ret
            all_goals exact ⟨by simp, R39.out.bel⟩
end
end Go.Proofs.YtgdcjedcinapdaaGreat

/- From a walk to a given statement: a law that returns true and changes nothing that was there answers as its row says, whatever its arguments are. -/
namespace Go.Proofs.YtgdcjedcinapdaaGreat
open Go.ChangeShapes Go.WideShapes Go.ChangeAt Go.RowKit

theorem own_knob : ownKnob Tryz.prog.godebug = none := by kernel_rfl
theorem laid_outP : laidOutB Tryz.prog = true := by kernel_rfl

section
variable {H : Type} {enc : TypeId × Value → H}

theorem trodAll_stays {W W' : World} {sp' : Nat → Bool} : ∀ {ts : List TypeId} {vs : List Value} {ds : List (DataW H)} {ps : List MemPlace}, (∀ t ∈ ts, Tryz.prog.readableRec t = true ∧ t < Tryz.prog.types.size) →
    DataW.TrodAll enc Tryz.prog W 0 (fun _ => true) true ts vs ds ps → (∀ p ∈ ps, W.sameAt W' p) → (∀ p ∈ ps, sp' p.block = true) → DataW.TrodAll enc Tryz.prog W' 0 sp' true ts vs ds ps
  | [], [], [], _, _, h, _, _ => h
  | t :: _, _ :: _, _ :: _, _, hT, ⟨p, q, h1, h2, e⟩, hw, hs =>
    ⟨p, q, WideElems.Trod_stays laid_outP (hT t (List.mem_cons.2 (.inl rfl))).1 (hT t (List.mem_cons.2 (.inl rfl))).2 h1 (fun x hx => hw x (by rw [e]; exact List.mem_append_left _ hx)) (fun x hx => hs x (by rw [e]; exact List.mem_append_left _ hx)),
      trodAll_stays (fun t ht => hT t (List.mem_cons.2 (.inr ht))) h2 (fun x hx => hw x (by rw [e]; exact List.mem_append_right _ hx)) (fun x hx => hs x (by rw [e]; exact List.mem_append_right _ hx)), e⟩

theorem law_post {f : Func} {s : ChangeSpec} {W W' : World} {args : Array Value} {ds gs : List (DataW H)} {before : List MemPlace}
    (hW : DataW.Whole enc Tryz.prog f.params.toList s.vars false W args.toList ds gs before) (hvars : s.vars = []) (hr : f.resultTypes = #[4])
    (hs : s.fn H ds = { results := [.lit (.bool true)], args := ds }) (hrd : ∀ t ∈ f.params.toList, Tryz.prog.readableRec t = true ∧ t < Tryz.prog.types.size) (hb : Below W.heap.size W W') :
    s.post enc Tryz.prog f false true false false W args (.bool true) W' := by
  have hlt : ∀ p ∈ before, p.block < W.heap.size := fun p hp => hW.lt p hp
  have hW' := hW
  obtain ⟨p, q, hA, hV, rfl, _, _⟩ := hW
  rw [hvars] at hV
  obtain ⟨rfl, rfl⟩ := trodVars_none hV
  simp only [List.append_nil] at hlt hW'
  refine ⟨ds, [], p, [], p, [], hW', ?_, ?_, ?_, World.keptBut_mono (fun x hx => ⟨hx, .inr (.inl hx)⟩) (hb.frame (· ∈ p)), fun h => (Bool.false_ne_true h).elim⟩
  · rw [hr, List.append_nil, hs]; exact trodAll_mk1 (shut_bool Tryz.underlying4 _)
  · rw [List.append_nil, hs]
    exact trodAll_stays hrd hA (fun x hx => hb.same (hlt x hx)) (fun x hx => by simpa using hlt x hx)
  · rw [hvars, List.append_nil, hs]; rfl

/-- A word that came in. -/
theorem u64_nat {x : Int} (h : (Lit.int .u64 x).wf = true) : ∃ n : Nat, x = n ∧ n < 18446744073709551616 := by
  simp [Lit.wf, IntKind.min, IntKind.max, IntKind.signed, IntKind.bits] at h
  exact ⟨x.toNat, by omega, by omega⟩
theorem cells_u64 : Tryz.prog.cellsOf 28 = 1 := by kernel_rfl
set_option maxRecDepth 100000 in
/-- A slice of words that came in. -/
theorem open_u64s {W : World} {base b : Nat} {sp : Nat → Bool} {hd : Bool} {v : Value} {d : DataW H} {p : List MemPlace} (hv : Value.okWide Tryz.prog W .any b 23 v) (h : DataW.Trod enc Tryz.prog W base sp hd 23 v d p) :
    ∃ a c xs, v = .slice a xs.length c ∧ RdSl W 1 (.slice a xs.length c) xs.length (intsU xs) ∧ xs.length ≤ maxLen := by
  obtain ⟨a0, len, cap, rfl⟩ := okWide_slice Tryz.underlying23 hv
  obtain ⟨fuel, hf⟩ := h
  rcases open_ints Tryz.underlying23 Tryz.underlying28 cells_u64 hf with ⟨hcs, _⟩ | ⟨a, len', cap', zs, hcs, _, hl, hm, hz, _, hcell, _⟩
  · simp [Value.cells] at hcs
    obtain ⟨rfl, rfl, rfl⟩ := hcs
    exact ⟨none, 0, [], rfl, (OwnSl.nil W 0 1).rd, by simp⟩
  · simp [Value.cells] at hcs
    obtain ⟨rfl, rfl, rfl⟩ := hcs
    have hlen : (zs.take len).length = len := by
      rw [List.length_take, hz]; split <;> omega
    refine ⟨some a, cap, zs.take len, by rw [hlen], ?_, by omega⟩
    rw [hlen]
    refine ⟨by rw [intsU, List.length_map, hlen, Nat.mul_one], some a, cap, rfl, hl, ?_⟩
    by_cases h0 : len = 0
    · left; simp [intsU, h0]
    · have hz1 : len ≤ zs.length := by rw [hz]; split <;> omega
      have c0 := hcell 0 (by omega)
      have hsp := World.cell?_spot c0
      simp only [Addr.add, if_true] at hsp
      refine .inr ⟨a.block, a.off, by rw [← hsp], fun j u hu => ?_⟩
      have hj : j < len := by
        rcases Nat.lt_or_ge j len with h | h
        · exact h
        · rw [List.getElem?_eq_none (by simp [intsU]; omega)] at hu; cases hu
      have hcj := hcell j (by omega)
      have ea : a.add j = ⟨a.block, a.off + j, none⟩ := by
        unfold Addr.add; split
        · rename_i e; subst e; rw [← hsp]; rfl
        · rfl
      rw [← ea, hcj]
      simp only [intsU, List.getElem?_map, List.getElem?_take, if_pos hj] at hu
      rw [List.getElem?_eq_getElem (by omega)] at hu
      rw [List.getD, List.getElem?_eq_getElem (by omega)]
      simpa using hu
end
end Go.Proofs.YtgdcjedcinapdaaGreat

/- A node that came in as an argument: opened. -/
namespace Go.Proofs.YtgdcjedcinapdaaGreat
open Go.ChangeShapes Go.WideShapes Go.ChangeAt Go.RowKit Go.Joins Go.Deep

section
variable {H : Type} {enc : TypeId × Value → H} {P : Program}
/-- A struct of one-cell fields, by value, opened: each field's value and its reading. -/
theorem open_fields {W : World} {base b : Nat} {sp : Nat → Bool} {hd : Bool} {r : Reach} {t : TypeId} {fs : Array Field} {v : Value} {d : DataW H} {p : List MemPlace} (hs : P.underlying t = some (.struct fs)) (hone : oneCellFields P fs = true)
    (hC : P.cellsOf t = fs.size) (hv : Value.okWide P W r b t v) (h : DataW.Trod enc P W base sp hd t v d p) :
    ∃ (l : List Value) (n : Nat), v = .agg l.toArray ∧ l.length = fs.size ∧ ∀ (j : Nat) (f : Field), fs[j]? = some f → ∃ (c : Value) (y : DataW H × List MemPlace), l[j]? = some c ∧ DataW.trod enc P W base sp hd n f.type [c] = some y := by
  obtain ⟨cs, rfl, hsz⟩ := okWide_struct hs hv
  obtain ⟨l⟩ := cs
  obtain ⟨fuel, hf⟩ := h
  obtain ⟨xs, n, _, hx, _, hlen, hg⟩ := DataW.trod_struct hs hf
  have hl : l.length = fs.size := by simpa using hsz.trans hC
  refine ⟨l, n, rfl, hl, fun j f hj => ?_⟩
  obtain ⟨ho, hk⟩ := hone_of hone j f hj
  have hjl : j < fs.size := (Array.getElem?_eq_some_iff.1 hj).1
  have h1 := hg j f hj
  rw [ho, hk] at h1
  have hone' : (l.drop j).take 1 = [l[j]'(by omega)] := by
    rw [List.drop_eq_getElem_cons (by omega)]; rfl
  have hys : xs[j]? = some (xs[j]'(by omega)) := List.getElem?_eq_getElem (by omega)
  refine ⟨l[j]'(by omega), xs[j]'(by omega), List.getElem?_eq_getElem (by omega), ?_⟩
  rw [← hys, ← h1, ← hone']
  rfl
/-- A slice of numbers that came in. -/
theorem open_nums {W : World} {base : Nat} {sp : Nat → Bool} {hd : Bool} {t e : TypeId} {k : IntKind} {fuel : Nat} {v : Value} {x : DataW H × List MemPlace} (ht : P.underlying t = some (.slice e)) (he : P.underlying e = some (.int k)) (hc : P.cellsOf e = 1)
    (hf : DataW.trod enc P W base sp hd fuel t [v] = some x) :
    ∃ (a : Option Addr) (c : Nat) (xs : List Int), v = .slice a xs.length c ∧ RdSl W 1 (.slice a xs.length c) xs.length (xs.map fun n => .int k n) ∧ xs.length ≤ maxLen ∧ ∀ n ∈ xs, (Lit.int k n).wf = true := by
  rcases open_ints ht he hc hf with ⟨hcs, _⟩ | ⟨a, len', cap', zs, hcs, _, hl, hm, hz, _, hcell, hwf⟩
  · simp at hcs
    subst hcs
    exact ⟨none, 0, [], rfl, (OwnSl.nil W 0 1).rd, by simp, by simp⟩
  · simp at hcs
    subst hcs
    have hlen : (zs.take len').length = len' := by
      rw [List.length_take, hz]; split <;> omega
    refine ⟨some a, cap', zs.take len', by rw [hlen], ?_, by omega, fun n hn => hwf n (List.mem_of_mem_take hn)⟩
    rw [hlen]
    refine ⟨by rw [List.length_map, hlen, Nat.mul_one], some a, cap', rfl, hl, ?_⟩
    by_cases h0 : len' = 0
    · left; simp [h0]
    · have hz1 : len' ≤ zs.length := by rw [hz]; split <;> omega
      have c0 := hcell 0 (by omega)
      have hsp := World.cell?_spot c0
      simp only [Addr.add, if_true] at hsp
      refine .inr ⟨a.block, a.off, by rw [← hsp], fun j u hu => ?_⟩
      have hj : j < len' := by
        rcases Nat.lt_or_ge j len' with h | h
        · exact h
        · rw [List.getElem?_eq_none (by simp; omega)] at hu; cases hu
      have hcj := hcell j (by omega)
      have ea : a.add j = ⟨a.block, a.off + j, none⟩ := by
        unfold Addr.add; split
        · rename_i e; subst e; rw [← hsp]; rfl
        · rfl
      rw [← ea, hcj]
      simp only [List.getElem?_map, List.getElem?_take, if_pos hj] at hu
      rw [List.getElem?_eq_getElem (by omega)] at hu
      rw [List.getD, List.getElem?_eq_getElem (by omega)]
      simpa using hu
theorem cells_u8 : Tryz.prog.cellsOf 5 = 1 := by kernel_rfl
theorem u8_nat {x : Int} (h : (Lit.int .u8 x).wf = true) : ∃ n : Nat, x = n ∧ n < 256 := by
  simp [Lit.wf, IntKind.min, IntKind.max, IntKind.signed, IntKind.bits] at h
  exact ⟨x.toNat, by omega, by omega⟩
theorem u16_nat {x : Int} (h : (Lit.int .u16 x).wf = true) : ∃ n : Nat, x = n ∧ n < 65536 := by
  simp [Lit.wf, IntKind.min, IntKind.max, IntKind.signed, IntKind.bits] at h
  exact ⟨x.toNat, by omega, by omega⟩
theorem nums_nat (k : IntKind) (xs : List Int) (B : Nat) (h : ∀ x ∈ xs, ∃ n : Nat, x = n ∧ n < B) : ∃ l : List Nat, (xs.map fun n => Value.int k n) = natsK k l ∧ l.length = xs.length ∧ ∀ n ∈ l, n < B := by
  refine ⟨xs.map Int.toNat, ?_, by simp, fun n hn => ?_⟩
  · unfold natsK
    rw [List.map_map]
    refine List.map_congr_left fun x hx => ?_
    obtain ⟨n, rfl, _⟩ := h x hx
    simp
  · simp at hn
    obtain ⟨x, hx, rfl⟩ := hn
    obtain ⟨n, rfl, hn⟩ := h x hx
    simpa using hn
set_option maxRecDepth 100000 in
theorem open_node {W : World} {base b : Nat} {sp : Nat → Bool} {hd : Bool} {r : Reach} {v : Value} {d : DataW H} {p : List MemPlace} (hv : Value.okWide Tryz.prog W r b 26 v) (h : DataW.Trod enc Tryz.prog W base sp hd 26 v d p) :
    ∃ (n : NodeP) (ka sa va : Option Addr) (kc sc vc : Nat), v = .agg (nodeAgg n ka sa va kc sc vc) ∧ NodeIn W n ka sa va kc sc vc := by
  obtain ⟨l, n, rfl, hl, hf⟩ := open_fields Tryz.underlying26 (by kernel_rfl) (by kernel_rfl) hv h
  match l, hl with
  | [c0, c1, c2, c3, c4, c5, c6, c7], _ =>
    obtain ⟨_, y0, e0, t0⟩ := hf 0 _ rfl; cases e0
    obtain ⟨_, y1, e1, t1⟩ := hf 1 _ rfl; cases e1
    obtain ⟨_, y2, e2, t2⟩ := hf 2 _ rfl; cases e2
    obtain ⟨_, y3, e3, t3⟩ := hf 3 _ rfl; cases e3
    obtain ⟨_, y4, e4, t4⟩ := hf 4 _ rfl; cases e4
    obtain ⟨_, y5, e5, t5⟩ := hf 5 _ rfl; cases e5
    obtain ⟨_, y6, e6, t6⟩ := hf 6 _ rfl; cases e6
    obtain ⟨_, y7, e7, t7⟩ := hf 7 _ rfl; cases e7
    obtain ⟨x0, h0, _, w0⟩ := DataW.trod_int Tryz.underlying5 t0
    obtain ⟨x4, h4, _, w4⟩ := DataW.trod_int Tryz.underlying5 t4
    obtain ⟨x5, h5, _⟩ := DataW.trod_bool Tryz.underlying4 t5
    obtain ⟨x6, h6, _⟩ := DataW.trod_bool Tryz.underlying4 t6
    obtain ⟨x7, h7, _, w7⟩ := DataW.trod_int Tryz.underlying24 t7
    simp only [List.cons.injEq, and_true] at h0 h4 h5 h6 h7
    subst h0 h4 h5 h6 h7
    obtain ⟨n0, rfl, b0⟩ := u8_nat w0
    obtain ⟨n4, rfl, b4⟩ := u8_nat w4
    obtain ⟨n7, rfl, b7⟩ := u16_nat w7
    obtain ⟨ka, kc, ks, rfl, rk, lk, wk⟩ := open_nums Tryz.underlying22 Tryz.underlying5 cells_u8 t1
    obtain ⟨sa, sc, ss, rfl, rs, ls, ws⟩ := open_nums Tryz.underlying22 Tryz.underlying5 cells_u8 t2
    obtain ⟨va, vc, vs, rfl, rv, lv, wv⟩ := open_nums Tryz.underlying23 Tryz.underlying28 cells_u64 t3
    obtain ⟨kn, ek, elk, bk⟩ := nums_nat .u8 ks 256 (fun x hx => u8_nat (wk x hx))
    obtain ⟨sn, es, els, bs⟩ := nums_nat .u8 ss 256 (fun x hx => u8_nat (ws x hx))
    rw [ek, ← elk] at rk; rw [es, ← els] at rs
    rw [← elk] at lk ⊢; rw [← els] at ls ⊢
    refine ⟨⟨n0, kn, sn, vs, n4, x5, x6, n7⟩, ka, sa, va, kc, sc, vc, rfl, ⟨rk, rs, rv, lk, ls, lv, bk, bs, fun x hx => ?_, b0, b4, b7⟩⟩
    obtain ⟨m, rfl, hm⟩ := u64_nat (wv x hx)
    omega
end
end Go.Proofs.YtgdcjedcinapdaaGreat
