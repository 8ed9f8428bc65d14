/- LeafChecks: the law's own walk. -/
import Derived.Test.YtkoijmoendepgaaGreatJ8
import Derived.Outline
import Derived.Deep.CutBlock
import Derived.Deep.RegionHeld3
import Derived.Deep.CutRange
import Derived.Test.YtkoijmoendepgaaGreatJ2
import Derived.WalkKit
import Derived.ProofKit
import Derived.OpenShut
import Derived.Lib.SmallJoins
import Derived.Deep.Fields
import Derived.Deep.Slices
import Derived.ChangeSame
import Derived.Test.YtkoijmoendepgaaGreatJ4
namespace Go.Proofs.YtkoijmoendepgaaGreat
open Go.RowKit

section
variable {w : World} {n : NodeP} {ka sa va : Option Addr} {kc sc vc : Nat}
theorem entries_err {p : Nat} {m : Value} {e : Int} (h : ReadErr w m p e) (hm : IsMem m) (he : e ≠ 0) : Calls Tryz.prog 16 #[.agg #[m, .int .u64 p]] w fun r w' => ∃ a c, r = .returned (.slice a 0 c) ∧ Below w.heap.size w w' := by
  refine (entries_any m p [] hm (yields_err h he) (by simp)).mono ?_
  intro r w' hp
  obtain ⟨a, c, h1, h2⟩ := ents_len hp
  exact ⟨a, c, h1, h2⟩
set_option maxRecDepth 100000 in
set_option maxHeartbeats 8000000 in
theorem leafChecks_any (ha : NodeIn w n ka sa va kc sc vc) (sv : Value) (l : List (Nat × Int)) (hs : RdSl w 2 sv l.length (spoC l)) (hlm : l.length ≤ maxLen) (hsb : ∀ e ∈ l, e.1 < 256 ∧ 0 ≤ e.2 ∧ e.2 < 18446744073709551616) (key : Int) :
    Calls Tryz.prog 3 #[.agg (nodeAgg n ka sa va kc sc vc), sv, .int .u64 key] w fun r w' => r = .returned (.bool true) ∧ Below w.heap.size w w' := by
  have HMA := Lib.hid (fun wx (hx : Below w.heap.size w wx) => made_any (ha.below hx))
  have HWA := Lib.hid (fun wx (hx : Below w.heap.size w wx) => words_any (ha.below hx))
  have HO := Lib.hid (fun wx => nodeAt_any (w := wx) n ka sa va kc sc vc ha.p8)
  have BA := Lib.hid (nW_bd ha)
  have HNB := Lib.hid (fun i => nWords_bd ha i)
  have HSP := Lib.hid hs; have HSB := Lib.hid hsb
  obtain ⟨_, pa, pc, rfl, hpc, _⟩ := hs
  unfold maxLen at hlm
  generalize hm : l.length = m at *
  have HM := Lib.hid hm; clear hm
  clear ha hsb
  have hB0 := Lib.hid (Blk.new w (nodeAgg n ka sa va kc sc vc) 26)
  unfold nodeAgg at HMA HWA HO hB0 ⊢
  go_enter Tryz.func3, Tryz.ntmps3
  go_wp2_with fail
  (with_reducible refine awake_any.mono ?_)
  rintro e w1 ⟨rfl, b1⟩
  have B1 : Hid (Below w.heap.size w w1) := (below_alloc w _).trans (b1.mono (by simp))
  have X1 := Lib.hid (hB0.out.below b1)
  have hz1 : w.heap.size < w1.heap.size := X1.out.lt
  have a0 : w1.cell? ⟨w.heap.size, 0, none⟩ = some (.int .u8 n.pos) := X1.out.cell rfl
  have a1 : w1.cell? ⟨w.heap.size, 1, none⟩ = some (.slice ka n.ks.length kc) := X1.out.cell rfl
  have a2 : w1.cell? ⟨w.heap.size, 2, none⟩ = some (.slice sa n.ss.length sc) := X1.out.cell rfl
  have a3 : w1.cell? ⟨w.heap.size, 3, none⟩ = some (.slice va n.vs.length vc) := X1.out.cell rfl
  have a4 : w1.cell? ⟨w.heap.size, 4, none⟩ = some (.int .u8 n.high) := X1.out.cell rfl
  have a5 : w1.cell? ⟨w.heap.size, 5, none⟩ = some (.bool n.bounded) := X1.out.cell rfl
  have a6 : w1.cell? ⟨w.heap.size, 6, none⟩ = some (.bool n.next) := X1.out.cell rfl
  have a7 : w1.cell? ⟨w.heap.size, 7, none⟩ = some (.int .u16 n.count) := X1.out.cell rfl
  clear b1 hB0
  go_wp2_with fail
  (with_reducible refine (HMA.out _ B1.out).mono ?_)
  rintro e w2 ⟨v, own, D, rfl, l2⟩
  have X2 := Lib.hid (X1.out.below l2.bel)
  have L2 : Hid (LiveSt w v own D 57 (nC n) w2) := ⟨⟨l2.dev, fun k hk => Nat.le_trans B1.out.size (l2.ob k hk), B1.out.trans (l2.bel.mono B1.out.size)⟩, l2.live⟩
  have O2 : Hid (own w.heap.size = none) := Classical.byContradiction (fun h => by have := l2.ob _ h; omega)
  clear l2 X1 hz1 a0 a1 a2 a3 a4 a5 a6 a7 B1
  have hz2 : w.heap.size < w2.heap.size := X2.out.lt
  have a0 : w2.cell? ⟨w.heap.size, 0, none⟩ = some (.int .u8 n.pos) := X2.out.cell rfl
  have a1 : w2.cell? ⟨w.heap.size, 1, none⟩ = some (.slice ka n.ks.length kc) := X2.out.cell rfl
  have a2 : w2.cell? ⟨w.heap.size, 2, none⟩ = some (.slice sa n.ss.length sc) := X2.out.cell rfl
  have a3 : w2.cell? ⟨w.heap.size, 3, none⟩ = some (.slice va n.vs.length vc) := X2.out.cell rfl
  have a4 : w2.cell? ⟨w.heap.size, 4, none⟩ = some (.int .u8 n.high) := X2.out.cell rfl
  have a5 : w2.cell? ⟨w.heap.size, 5, none⟩ = some (.bool n.bounded) := X2.out.cell rfl
  have a6 : w2.cell? ⟨w.heap.size, 6, none⟩ = some (.bool n.next) := X2.out.cell rfl
  have a7 : w2.cell? ⟨w.heap.size, 7, none⟩ = some (.int .u16 n.count) := X2.out.cell rfl
  go_wp2_with fail
  (with_reducible refine (HWA.out _ (L2.out.next (below_alloc w2 _)).bel).mono ?_)
  rintro e w3 ⟨g, rfl, r3, g3, bb3⟩
  have hb3 : Below w2.heap.size w2 w3 := (below_alloc w2 _).trans (bb3.mono (by simp))
  have K3 : Hid (KSt w n ka sa va kc sc vc v w2.heap.size g own D 57 (nC n) (nWords n) w3) :=
    ⟨L2.out.next hb3, X2.out.below hb3, (Blk.new w2 _ _).below bb3, r3, O2.out, Classical.byContradiction (fun h => by have := L2.out.dev.lt _ h; omega), Classical.byContradiction (fun h => by have := L2.out.dev.lt _ h; simp at g3; omega), by simp at g3; omega, by simp at g3; omega⟩
  clear r3 g3 bb3 hb3 X2 L2 O2 hz2 a0 a1 a2 a3 a4 a5 a6 a7 HMA HWA
  generalize w2.heap.size = lb at *
  obtain ⟨wo, hwo⟩ : ∃ x : World, x = w3 := ⟨_, rfl⟩
  subst hwo
  go_upto_block 0 with fail
  go_cut [10, 11] from 37 to 52 (fun _ _ wx => ∃ f : Nat → Int, (∀ i, i < 28 → 0 ≤ f i ∧ f i < 18446744073709551616) ∧ KSt w n ka sa va kc sc vc v lb g own D 57 (nC n) f wx)
  case first =>
    go_wp2_with fail
    go_loopw [10, 11, 37] (fun _ _ y wr => ∃ k : Nat, k ≤ m ∧ y = .int .i64 k ∧ ∃ f : Nat → Int, (∀ i, i < 28 → 0 ≤ f i ∧ f i < 18446744073709551616) ∧ KSt w n ka sa va kc sc vc v lb g own D 57 (nC n) f wr) (fun _ _ y _ => m - (intOf y).toNat)
    case atStart => exact ⟨0, by omega, rfl, nWords n, fun i _ => HNB.out i, K3.out⟩
    case round =>
      obtain ⟨k, hk, rfl, f, hfb, hks⟩ := hrel
      have FB := Lib.hid hfb; have K := Lib.hid hks; clear hfb hks K3
      by_cases hlt : k < m
      · have hk' : (k : Int) < m := by omega
        obtain ⟨e, he⟩ : ∃ e, l[k]? = some e := ⟨_, List.getElem?_eq_getElem (by rw [HM.out]; exact hlt)⟩
        obtain ⟨_, a', c', e', _, hE⟩ := (show RdSl wr 2 (.slice pa m pc) m (spoC l) from HSP.out.kept (fun b _ hb => K.out.live.bel.block b hb))
        cases e'
        have hg := spoC_get l k e he
        obtain ⟨eb, eo, rfl, hE2⟩ := rd_at hE hg.1
        have c1 := hE2 _ _ hg.1; have c2 := hE2 _ _ hg.2
        rw [← Nat.add_assoc] at c2
        obtain ⟨hb1, hb2, hb3⟩ := HSB.out e (List.mem_of_getElem? he)
        clear hE hE2 hg he
        obtain ⟨e1, e2⟩ := e
        simp only at c1 c2 hb1 hb2 hb3
        by_cases h3 : k = 3
        · have h3' : ((k : Int) == 3) = true := by simp; omega
          clear h3
          go_wp2_with fail
          go_meet
          exact ⟨f, FB.out, K.out.next (below_alloc wr _)⟩
        · have h3' : ((k : Int) == 3) = false := by simp; omega
          clear h3
          have d1 : wr.cell? ⟨g, e1 % 28, none⟩ = some (.int .u64 (f (e1 % 28))) := K.out.ws.cell (Nat.mod_lt _ (by omega))
          have d2 := K.out.ws.frozen (e1 % 28)
          have d3 := K.out.ws.lt
          have i1 : (0 : Int) ≤ (e1 : Int) % 28 := by omega
          have i2 : (e1 : Int) % 28 < 28 := by omega
          have FB2 : Hid (∀ i, i < 28 → 0 ≤ (if i = e1 % 28 then e2 else f i) ∧ (if i = e1 % 28 then e2 else f i) < 18446744073709551616) := fun i hi => by
            split
            · exact ⟨hb2, hb3⟩
            · exact FB.out i hi
          go_wp2_with fail
          go_roundw
          case rel => exact ⟨k + 1, by omega, by go_num, _, FB2.out, (K.out.set (e1 % 28) e2).next (below_alloc _ _)⟩
          case measure => simp [intOf]; omega
      · go_wp2_with fail
        go_meet
        exact ⟨f, FB.out, K.out⟩
  case rest =>
  obtain ⟨f, hfb, hks⟩ := hcut
  obtain ⟨w4, hw4⟩ : ∃ y : World, y = wc := ⟨_, rfl⟩
  subst hw4
  have FB := Lib.hid hfb; have K4 := Lib.hid hks; clear hfb hks K3 HSP HSB HNB
  have a0 : w4.cell? ⟨w.heap.size, 0, none⟩ = some (.int .u8 n.pos) := K4.out.box.cell rfl
  have a1 : w4.cell? ⟨w.heap.size, 1, none⟩ = some (.slice ka n.ks.length kc) := K4.out.box.cell rfl
  have a2 : w4.cell? ⟨w.heap.size, 2, none⟩ = some (.slice sa n.ss.length sc) := K4.out.box.cell rfl
  have a3 : w4.cell? ⟨w.heap.size, 3, none⟩ = some (.slice va n.vs.length vc) := K4.out.box.cell rfl
  have a4 : w4.cell? ⟨w.heap.size, 4, none⟩ = some (.int .u8 n.high) := K4.out.box.cell rfl
  have a5 : w4.cell? ⟨w.heap.size, 5, none⟩ = some (.bool n.bounded) := K4.out.box.cell rfl
  have a6 : w4.cell? ⟨w.heap.size, 6, none⟩ = some (.bool n.next) := K4.out.box.cell rfl
  have a7 : w4.cell? ⟨w.heap.size, 7, none⟩ = some (.int .u16 n.count) := K4.out.box.cell rfl
  go_wp2_with fail
  (with_reducible refine (HO.out w4).mono ?_)
  rintro e w5 ⟨rfl, b5⟩
  have K5 := Lib.hid (K4.out.next b5)
  clear b5 K4 a0 a1 a2 a3 a4 a5 a6 a7
  go_wp2_with fail
  (with_reducible refine (K5.out.put (by omega)).mono ?_)
  rintro e w6 ⟨rfl, own6, D6, k6⟩
  have WB : Hid (∀ i, i < 28 → 0 ≤ putW n (nC n) f i ∧ putW n (nC n) f i < 18446744073709551616) := fun i hi => by rw [putW_at n _ f i hi]; exact FB.out i hi
  have HW : Hid (putW n (nC n) f = fun i => putF n (nC n) f (nodeOff n / 8 + i)) := rfl
  generalize putW n (nC n) f = W at *
  generalize putF n (nC n) f = C6 at *
  have K6 := Lib.hid k6
  clear k6 K5 FB
  have hRV := refValid_any (w := w6) (sv := .slice (some ⟨g, 0, none⟩) 28 28) (W := W) ⟨K6.out.list, WB.out⟩ 768
  rw [show ((768 : Nat) : Int) = 768 from rfl] at hRV
  have HRV := Lib.hid hRV; clear hRV
  go_wp2_with fail
  (with_reducible refine HRV.out.mono ?_)
  rintro r w7 ⟨bb, rfl, hiff, q7⟩
  have K7 := Lib.hid (K6.out.next q7.below)
  have hok := hiff.trans (refOk_iff W 768 WB.out)
  clear q7 K6 HRV hiff
  have hn1 := nodeOff_le n
  have KN := Lib.hid (fun wx (hx : KSt w n ka sa va kc sc vc v lb g own6 D6 (57 + 57) C6 W wx) => hx.node HW.out WB.out)
  cases bb
  case true =>
    have OK : Hid (nodeOk W 768) := hok.1 rfl
    clear hok
    have l0 : w7.cell? ⟨lb, 0, none⟩ = some (.iface 76 (.pointer (some ⟨v.tb 0, 0, none⟩))) := K7.out.leaf.cell rfl
    have l1 : w7.cell? ⟨lb, 1, none⟩ = some (.int .u64 (ptrN (nodeOff n) : Nat)) := K7.out.leaf.cell rfl
    obtain ⟨N7, e7, m7⟩ := KN.out _ K7.out
    have hCK := check_any N7
    rw [e7, m7] at hCK
    have HCK := Lib.hid hCK; clear hCK N7 e7 m7
    go_wp2_with fail
    (with_reducible refine HCK.out.mono ?_)
    rintro e w8 ⟨b8, ⟨_, rfl⟩ | ⟨hbad, _⟩⟩
    case inr => exact absurd OK.out hbad
    have K8 := Lib.hid (K7.out.next b8)
    clear b8 K7 l0 l1 HCK
    have l0 : w8.cell? ⟨lb, 0, none⟩ = some (.iface 76 (.pointer (some ⟨v.tb 0, 0, none⟩))) := K8.out.leaf.cell rfl
    have l1 : w8.cell? ⟨lb, 1, none⟩ = some (.int .u64 (ptrN (nodeOff n) : Nat)) := K8.out.leaf.cell rfl
    obtain ⟨N8, e8, m8⟩ := KN.out _ K8.out
    have hEN := entries_node N8 (by rw [e8, m8]; exact OK.out) rfl
    rw [e8] at hEN
    have HEN := Lib.hid hEN; clear hEN N8 e8 m8
    have hl12 := (ok_good OK.out).len
    go_wp2_with fail
    (with_reducible refine HEN.out.mono ?_)
    rintro e w9 ⟨na, nc, rfl, r9, b9⟩
    have K9 := Lib.hid (K8.out.next b9); have R9 := Lib.hid r9
    clear r9 b9 K8 l0 l1 HEN
    have hb0 := WB.out 0 (by omega)
    have RI : Hid (RefIn w9 (.slice (some ⟨g, 0, none⟩) 28 28) W (W 0).toNat) := ⟨K9.out.list, by omega, by omega, OK.out.1⟩
    have hRE := refEntries_any RI.out
    rw [show slotsN (W 0).toNat ((W 0).toNat % 16) = slotsW W from rfl] at hRE
    have HRE := Lib.hid hRE; clear hRE RI hb0
    go_wp2_with fail
    (with_reducible refine HRE.out.mono ?_)
    rintro e w10 ⟨ev, rfl, a10⟩
    have K10 := Lib.hid (K9.out.next a10.bel); have R10 := Lib.hid (R9.out.below a10.bel)
    have E10 : Hid (RdSl w10 2 ev (entsW W (slotsW W)).length (entC (entsW W (slotsW W)))) := by show RdSl w10 2 ev (entsW W (slotsW W)).length _; rw [show (entsW W (slotsW W)).length = (slotsW W).length by simp [entsW]]; exact a10.rd
    obtain ⟨ea, ec, hev⟩ := a10.slice
    subst hev
    clear a10 K9 R9 HRE
    go_wp2_with fail
    (with_reducible refine (refSame_same _ _ (entsW W (slotsW W)) R10.out E10.out (by simp [entsW]; omega)).mono ?_)
    rintro e w11 ⟨rfl, b11⟩
    have K11 := Lib.hid (K10.out.next b11)
    clear b11
    go_wp2_with fail
    go_ret
    exact ⟨rfl, K11.out.live.bel⟩
  case false =>
    have BAD : Hid (¬ nodeOk W 768) := fun h => Bool.false_ne_true (hok.2 h)
    clear hok
    obtain ⟨N7, e7, m7⟩ := KN.out _ K7.out
    have RE := Lib.hid (bad_read N7 (by rw [e7, m7]; exact BAD.out))
    clear N7 e7 m7 KN
    have IM := Lib.hid (isMem_thr ⟨v.tb 0, 0, none⟩)
    have l0 : w7.cell? ⟨lb, 0, none⟩ = some (.iface 76 (.pointer (some ⟨v.tb 0, 0, none⟩))) := K7.out.leaf.cell rfl
    have l1 : w7.cell? ⟨lb, 1, none⟩ = some (.int .u64 (ptrN (nodeOff n) : Nat)) := K7.out.leaf.cell rfl
    go_wp2_with fail
    (with_reducible refine (get_err RE.out IM.out (by omega) key).mono ?_)
    rintro e w8 ⟨rfl, b8⟩
    have K8 := Lib.hid (K7.out.next b8); have RE8 := Lib.hid (RE.out.below b8)
    clear b8 l0 l1 K7
    have l0 : w8.cell? ⟨lb, 0, none⟩ = some (.iface 76 (.pointer (some ⟨v.tb 0, 0, none⟩))) := K8.out.leaf.cell rfl
    have l1 : w8.cell? ⟨lb, 1, none⟩ = some (.int .u64 (ptrN (nodeOff n) : Nat)) := K8.out.leaf.cell rfl
    go_wp2_with fail
    (with_reducible refine (planPut_err RE8.out IM.out (by omega) key 1).mono ?_)
    rintro e w9 ⟨rfl, b9⟩
    have K9 := Lib.hid (K8.out.next b9); have RE9 := Lib.hid (RE8.out.below b9)
    clear b9 l0 l1 K8
    have l0 : w9.cell? ⟨lb, 0, none⟩ = some (.iface 76 (.pointer (some ⟨v.tb 0, 0, none⟩))) := K9.out.leaf.cell rfl
    have l1 : w9.cell? ⟨lb, 1, none⟩ = some (.int .u64 (ptrN (nodeOff n) : Nat)) := K9.out.leaf.cell rfl
    go_wp2_with fail
    (with_reducible refine (planDelete_err RE9.out IM.out (by omega) key).mono ?_)
    rintro e w10 ⟨rfl, b10⟩
    have K10 := Lib.hid (K9.out.next b10); have RE10 := Lib.hid (RE9.out.below b10)
    clear b10 l0 l1 K9
    have l0 : w10.cell? ⟨lb, 0, none⟩ = some (.iface 76 (.pointer (some ⟨v.tb 0, 0, none⟩))) := K10.out.leaf.cell rfl
    have l1 : w10.cell? ⟨lb, 1, none⟩ = some (.int .u64 (ptrN (nodeOff n) : Nat)) := K10.out.leaf.cell rfl
    go_wp2_with fail
    (with_reducible refine (half_err RE10.out IM.out (by omega)).mono ?_)
    rintro e w11 ⟨rfl, b11⟩
    have K11 := Lib.hid (K10.out.next b11); have RE11 := Lib.hid (RE10.out.below b11)
    clear b11 l0 l1 K10
    have l0 : w11.cell? ⟨lb, 0, none⟩ = some (.iface 76 (.pointer (some ⟨v.tb 0, 0, none⟩))) := K11.out.leaf.cell rfl
    have l1 : w11.cell? ⟨lb, 1, none⟩ = some (.int .u64 (ptrN (nodeOff n) : Nat)) := K11.out.leaf.cell rfl
    go_wp2_with fail
    (with_reducible refine (cut_err RE11.out IM.out (by omega) 0 0).mono ?_)
    rintro e w12 ⟨rfl, b12⟩
    have K12 := Lib.hid (K11.out.next b12); have RE12 := Lib.hid (RE11.out.below b12)
    clear b12 l0 l1 K11
    have l0 : w12.cell? ⟨lb, 0, none⟩ = some (.iface 76 (.pointer (some ⟨v.tb 0, 0, none⟩))) := K12.out.leaf.cell rfl
    have l1 : w12.cell? ⟨lb, 1, none⟩ = some (.int .u64 (ptrN (nodeOff n) : Nat)) := K12.out.leaf.cell rfl
    go_wp2_with fail
    (with_reducible refine (join_err RE12.out IM.out (by omega)).mono ?_)
    rintro e w13 ⟨rfl, b13⟩
    have K13 := Lib.hid (K12.out.next b13); have RE13 := Lib.hid (RE12.out.below b13)
    clear b13 l0 l1 K12
    have l0 : w13.cell? ⟨lb, 0, none⟩ = some (.iface 76 (.pointer (some ⟨v.tb 0, 0, none⟩))) := K13.out.leaf.cell rfl
    have l1 : w13.cell? ⟨lb, 1, none⟩ = some (.int .u64 (ptrN (nodeOff n) : Nat)) := K13.out.leaf.cell rfl
    go_wp2_with fail
    (with_reducible refine (high_err RE13.out IM.out (by omega)).mono ?_)
    rintro e w14 ⟨rfl, b14⟩
    have K14 := Lib.hid (K13.out.next b14); have RE14 := Lib.hid (RE13.out.below b14)
    clear b14 l0 l1 K13
    have l01 := K14.out.leafs
    obtain ⟨l0, l1⟩ := l01
    have KD := Lib.hid (K14.out.next ((Below.refl _ _).drew)); have RED := Lib.hid (RE14.out.below ((Below.refl _ _).drew))
    go_wp2_with fail
    simp only [List.append_eq, List.cons_append, List.nil_append]
    go_region_held3 (fun wx => wx.cell? ⟨lb, 0, none⟩ = some (.iface 76 (.pointer (some ⟨v.tb 0, 0, none⟩))) ∧ wx.cell? ⟨lb, 1, none⟩ = some (.int .u64 (ptrN (nodeOff n) : Nat))) (first | (with_reducible exact K19.out.leafs) | (with_reducible exact K18.out.leafs) | (with_reducible exact K17.out.leafs) | (with_reducible exact K16.out.leafs) | (with_reducible exact K15.out.leafs) | (with_reducible exact KD.out.leafs)) (first | (go_at_call 14; (with_reducible refine (check_err RED.out IM.out (by omega)).mono ?_); rintro e w15 ⟨rfl, b15⟩; have K15 := Lib.hid (KD.out.next b15); have RE15 := Lib.hid (RED.out.below b15); clear b15) | (go_at_call 16; (with_reducible refine (entries_err RE15.out IM.out (by omega)).mono ?_); rintro e w16 ⟨ua, uc, rfl, b16⟩; have K16 := Lib.hid (K15.out.next b16); have RE16 := Lib.hid (RE15.out.below b16); clear b16) | (go_at_call 25; (with_reducible refine (keys_err RE16.out IM.out (by omega)).mono ?_); rintro e w17 ⟨rfl, b17⟩; have K17 := Lib.hid (K16.out.next b17); have RE17 := Lib.hid (RE16.out.below b17); clear b17) | (go_at_call 26; (with_reducible refine (len_err RE17.out IM.out (by omega)).mono ?_); rintro e w18 ⟨rfl, b18⟩; have K18 := Lib.hid (K17.out.next b18); have RE18 := Lib.hid (RE17.out.below b18); clear b18) | (go_at_call 27; (with_reducible refine (next_err RE18.out IM.out (by omega)).mono ?_); rintro e w19 ⟨rfl, b19⟩; have K19 := Lib.hid (K18.out.next b19); have RE19 := Lib.hid (RE18.out.below b19); clear b19))
    all_goals go_wp2_with fail
    all_goals go_ret
    all_goals exact ⟨rfl, K19.out.live.bel⟩
end
end Go.Proofs.YtkoijmoendepgaaGreat

/- From a walk to a given statement: a law that returns true and changes nothing that was there answers as its row says, whatever its arguments are. -/
namespace Go.Proofs.YtkoijmoendepgaaGreat
open Go.ChangeShapes Go.WideShapes Go.ChangeAt Go.RowKit

theorem own_knob : ownKnob Tryz.prog.godebug = none := by kernel_rfl
theorem laid_out : laidOutB Tryz.prog = true := by kernel_rfl

section
variable {H : Type} {enc : TypeId × Value → H}

theorem trodAll_stays {W W' : World} {sp' : Nat → Bool} : ∀ {ts : List TypeId} {vs : List Value} {ds : List (DataW H)} {ps : List MemPlace}, (∀ t ∈ ts, Tryz.prog.readableRec t = true ∧ t < Tryz.prog.types.size) →
    DataW.TrodAll enc Tryz.prog W 0 (fun _ => true) true ts vs ds ps → (∀ p ∈ ps, W.sameAt W' p) → (∀ p ∈ ps, sp' p.block = true) → DataW.TrodAll enc Tryz.prog W' 0 sp' true ts vs ds ps
  | [], [], [], _, _, h, _, _ => h
  | t :: _, _ :: _, _ :: _, _, hT, ⟨p, q, h1, h2, e⟩, hw, hs =>
    ⟨p, q, WideElems.Trod_stays laid_out (hT t (List.mem_cons.2 (.inl rfl))).1 (hT t (List.mem_cons.2 (.inl rfl))).2 h1 (fun x hx => hw x (by rw [e]; exact List.mem_append_left _ hx)) (fun x hx => hs x (by rw [e]; exact List.mem_append_left _ hx)),
      trodAll_stays (fun t ht => hT t (List.mem_cons.2 (.inr ht))) h2 (fun x hx => hw x (by rw [e]; exact List.mem_append_right _ hx)) (fun x hx => hs x (by rw [e]; exact List.mem_append_right _ hx)), e⟩

theorem law_post {f : Func} {s : ChangeSpec} {W W' : World} {args : Array Value} {ds gs : List (DataW H)} {before : List MemPlace}
    (hW : DataW.Whole enc Tryz.prog f.params.toList s.vars false W args.toList ds gs before) (hvars : s.vars = []) (hr : f.resultTypes = #[4])
    (hs : s.fn H ds = { results := [.lit (.bool true)], args := ds }) (hrd : ∀ t ∈ f.params.toList, Tryz.prog.readableRec t = true ∧ t < Tryz.prog.types.size) (hb : Below W.heap.size W W') :
    s.post enc Tryz.prog f false true false false W args (.bool true) W' := by
  have hlt : ∀ p ∈ before, p.block < W.heap.size := fun p hp => hW.lt p hp
  have hW' := hW
  obtain ⟨p, q, hA, hV, rfl, _, _⟩ := hW
  rw [hvars] at hV
  obtain ⟨rfl, rfl⟩ := trodVars_none hV
  simp only [List.append_nil] at hlt hW'
  refine ⟨ds, [], p, [], p, [], hW', ?_, ?_, ?_, World.keptBut_mono (fun x hx => ⟨hx, .inr (.inl hx)⟩) (hb.frame (· ∈ p)), fun h => (Bool.false_ne_true h).elim⟩
  · rw [hr, List.append_nil, hs]; exact trodAll_mk1 (shut_bool Tryz.underlying4 _)
  · rw [List.append_nil, hs]
    exact trodAll_stays hrd hA (fun x hx => hb.same (hlt x hx)) (fun x hx => by simpa using hlt x hx)
  · rw [hvars, List.append_nil, hs]; rfl

/-- A word that came in. -/
theorem u64_nat {x : Int} (h : (Lit.int .u64 x).wf = true) : ∃ n : Nat, x = n ∧ n < 18446744073709551616 := by
  simp [Lit.wf, IntKind.min, IntKind.max, IntKind.signed, IntKind.bits] at h
  exact ⟨x.toNat, by omega, by omega⟩
theorem cells_u64 : Tryz.prog.cellsOf 28 = 1 := by kernel_rfl
set_option maxRecDepth 100000 in
/-- A slice of words that came in. -/
theorem open_u64s {W : World} {base b : Nat} {sp : Nat → Bool} {hd : Bool} {v : Value} {d : DataW H} {p : List MemPlace} (hv : Value.okWide Tryz.prog W .any b 23 v) (h : DataW.Trod enc Tryz.prog W base sp hd 23 v d p) :
    ∃ a c xs, v = .slice a xs.length c ∧ RdSl W 1 (.slice a xs.length c) xs.length (intsU xs) ∧ xs.length ≤ maxLen := by
  obtain ⟨a0, len, cap, rfl⟩ := okWide_slice Tryz.underlying23 hv
  obtain ⟨fuel, hf⟩ := h
  rcases open_ints Tryz.underlying23 Tryz.underlying28 cells_u64 hf with ⟨hcs, _⟩ | ⟨a, len', cap', zs, hcs, _, hl, hm, hz, _, hcell, _⟩
  · simp [Value.cells] at hcs
    obtain ⟨rfl, rfl, rfl⟩ := hcs
    exact ⟨none, 0, [], rfl, (OwnSl.nil W 0 1).rd, by simp⟩
  · simp [Value.cells] at hcs
    obtain ⟨rfl, rfl, rfl⟩ := hcs
    have hlen : (zs.take len).length = len := by
      rw [List.length_take, hz]; split <;> omega
    refine ⟨some a, cap, zs.take len, by rw [hlen], ?_, by omega⟩
    rw [hlen]
    refine ⟨by rw [intsU, List.length_map, hlen, Nat.mul_one], some a, cap, rfl, hl, ?_⟩
    by_cases h0 : len = 0
    · left; simp [intsU, h0]
    · have hz1 : len ≤ zs.length := by rw [hz]; split <;> omega
      have c0 := hcell 0 (by omega)
      have hsp := World.cell?_spot c0
      simp only [Addr.add, if_true] at hsp
      refine .inr ⟨a.block, a.off, by rw [← hsp], fun j u hu => ?_⟩
      have hj : j < len := by
        rcases Nat.lt_or_ge j len with h | h
        · exact h
        · rw [List.getElem?_eq_none (by simp [intsU]; omega)] at hu; cases hu
      have hcj := hcell j (by omega)
      have ea : a.add j = ⟨a.block, a.off + j, none⟩ := by
        unfold Addr.add; split
        · rename_i e; subst e; rw [← hsp]; rfl
        · rfl
      rw [← ea, hcj]
      simp only [intsU, List.getElem?_map, List.getElem?_take, if_pos hj] at hu
      rw [List.getElem?_eq_getElem (by omega)] at hu
      rw [List.getD, List.getElem?_eq_getElem (by omega)]
      simpa using hu
end
end Go.Proofs.YtkoijmoendepgaaGreat

/- A slice of structs that came in as an argument: opened. -/
namespace Go.Proofs.YtkoijmoendepgaaGreat
open Go.ChangeShapes Go.WideShapes Go.ChangeAt Go.RowKit Go.Joins Go.Deep

section
variable {H : Type} {enc : TypeId × Value → H} {P : Program}
theorem addr_flat {W : World} {a : Addr} {u : Value} (h : W.cell? (a.add 0) = some u) : a = ⟨a.block, a.off, none⟩ ∧ ∀ j, a.add j = ⟨a.block, a.off + j, none⟩ := by
  have hsp := World.cell?_spot h
  simp only [Addr.add, if_true] at hsp
  have e : a = ⟨a.block, a.off, none⟩ := by rw [← hsp]
  refine ⟨e, fun j => ?_⟩
  unfold Addr.add; split
  · rename_i h0; subst h0; exact e
  · rfl
/-- The cells of a slice of structs, and each field's reading. -/
theorem open_structs {W : World} {base : Nat} {sp : Nat → Bool} {hd : Bool} {t e : TypeId} {fs : Array Field} {fuel : Nat} {v : Value} {x : DataW H × List MemPlace} (ht : P.underlying t = some (.slice e)) (he : P.underlying e = some (.struct fs))
    (hone : oneCellFields P fs = true) (hC : P.cellsOf e = fs.size) (hpos : 0 < fs.size) (h : DataW.trod enc P W base sp hd fuel t [v] = some x) :
    ∃ (a : Option Addr) (n c : Nat) (xs : List Value), v = .slice a n c ∧ RdSl W fs.size (.slice a n c) n xs ∧ n ≤ maxLen ∧
      ∀ i, i < n → ∃ q : Nat, ∀ (j : Nat) (f : Field), fs[j]? = some f → ∃ (u : Value) (y : DataW H × List MemPlace), xs[i * fs.size + j]? = some u ∧ DataW.trod enc P W base sp hd q f.type [u] = some y := by
  rcases open_slice ht h with ⟨h0, _⟩ | ⟨a, len, cap, m, n, D, Pl, hcs, hb, hl, hm, hmm, hx, hi⟩
  · simp at h0; subst h0
    exact ⟨none, 0, 0, [], rfl, (OwnSl.nil W 0 _).rd, by simp, fun i hi => by omega⟩
  · simp at hcs; subst hcs
    have hlm : len ≤ m := by rw [hmm]; split <;> omega
    have hcell : ∀ i, i < len → ∃ (q : Nat) (cs : List Value), cs.length = fs.size ∧ (∀ j, j < fs.size → W.cell? (a.add (i * fs.size + j)) = cs[j]?) ∧ ∀ (j : Nat) (f : Field), fs[j]? = some f → ∃ (u : Value) (y : DataW H × List MemPlace), cs[j]? = some u ∧ DataW.trod enc P W base sp hd q f.type [u] = some y := by
      intro i hil
      obtain ⟨cs', hc, ht'⟩ := hi i (by omega)
      rw [hC] at hc
      obtain ⟨ys, n', hn', hy, hlen, hyl, hf⟩ := DataW.trod_struct he ht'
      obtain ⟨_, hcl, hat⟩ := World.cells?_some hc
      refine ⟨n', cs', hcl, fun j hj => by rw [← Go.Deep.add_add]; exact hat j hj, fun j f hj => ?_⟩
      obtain ⟨ho, hk⟩ := hone_of hone j f hj
      have hjl : j < fs.size := (Array.getElem?_eq_some_iff.1 hj).1
      have h1 := hf j f hj
      rw [ho, hk] at h1
      have hone' : (cs'.drop j).take 1 = [cs'[j]'(by omega)] := by
        rw [List.drop_eq_getElem_cons (by omega)]; rfl
      rw [hone'] at h1
      have hys : ys[j]? = some (ys[j]'(by omega)) := List.getElem?_eq_getElem (by omega)
      exact ⟨_, _, List.getElem?_eq_getElem (by omega), h1.trans hys⟩
    refine ⟨some a, len, cap, (List.range (len * fs.size)).map fun j => (W.cell? (a.add j)).getD (.bool false), rfl, ⟨by simp, some a, cap, rfl, hl, ?_⟩, by omega, fun i hil => ?_⟩
    · by_cases h0 : len = 0
      · left; simp [h0]
      · obtain ⟨q, cs, hcl, hat, _⟩ := hcell 0 (by omega)
        have c0 := hat 0 hpos
        simp only [Nat.zero_mul, Nat.zero_add] at c0
        rw [List.getElem?_eq_getElem (by omega)] at c0
        obtain ⟨ha, hadd⟩ := addr_flat c0
        refine .inr ⟨a.block, a.off, by rw [← ha], fun j u hu => ?_⟩
        have hj : j < len * fs.size := by
          rcases Nat.lt_or_ge j (len * fs.size) with h | h
          · exact h
          · rw [List.getElem?_eq_none (by simpa using h)] at hu; cases hu
        have hd : j / fs.size < len := Nat.div_lt_of_lt_mul (by rw [Nat.mul_comm]; exact hj)
        obtain ⟨q, cs, hcl, hat, _⟩ := hcell (j / fs.size) hd
        have hmod := Nat.mod_lt j hpos
        have c1 := hat (j % fs.size) hmod
        rw [Nat.mul_comm, Nat.div_add_mod, List.getElem?_eq_getElem (by omega)] at c1
        simp only [List.getElem?_map, List.getElem?_range hj, Option.map_some, c1, Option.getD_some, Option.some.injEq] at hu
        rw [← hadd, c1, hu]
    · obtain ⟨q, cs, hcl, hat, hf⟩ := hcell i hil
      refine ⟨q, fun j f hj => ?_⟩
      have hjl : j < fs.size := (Array.getElem?_eq_some_iff.1 hj).1
      obtain ⟨u, y, hu, hy⟩ := hf j f hj
      refine ⟨u, y, ?_, hy⟩
      have hlt : i * fs.size + j < len * fs.size := by
        have : (i + 1) * fs.size ≤ len * fs.size := Nat.mul_le_mul_right _ hil
        rw [Nat.add_mul] at this; omega
      rw [List.getElem?_map, List.getElem?_range hlt, Option.map_some, hat j hjl, hu]; rfl
end
end Go.Proofs.YtkoijmoendepgaaGreat

/- A node that came in as an argument: opened. -/
namespace Go.Proofs.YtkoijmoendepgaaGreat
open Go.ChangeShapes Go.WideShapes Go.ChangeAt Go.RowKit Go.Joins Go.Deep

section
variable {H : Type} {enc : TypeId × Value → H} {P : Program}
/-- A struct of one-cell fields, by value, opened: each field's value and its reading. -/
theorem open_fields {W : World} {base b : Nat} {sp : Nat → Bool} {hd : Bool} {r : Reach} {t : TypeId} {fs : Array Field} {v : Value} {d : DataW H} {p : List MemPlace} (hs : P.underlying t = some (.struct fs)) (hone : oneCellFields P fs = true)
    (hC : P.cellsOf t = fs.size) (hv : Value.okWide P W r b t v) (h : DataW.Trod enc P W base sp hd t v d p) :
    ∃ (l : List Value) (n : Nat), v = .agg l.toArray ∧ l.length = fs.size ∧ ∀ (j : Nat) (f : Field), fs[j]? = some f → ∃ (c : Value) (y : DataW H × List MemPlace), l[j]? = some c ∧ DataW.trod enc P W base sp hd n f.type [c] = some y := by
  obtain ⟨cs, rfl, hsz⟩ := okWide_struct hs hv
  obtain ⟨l⟩ := cs
  obtain ⟨fuel, hf⟩ := h
  obtain ⟨xs, n, _, hx, _, hlen, hg⟩ := DataW.trod_struct hs hf
  have hl : l.length = fs.size := by simpa using hsz.trans hC
  refine ⟨l, n, rfl, hl, fun j f hj => ?_⟩
  obtain ⟨ho, hk⟩ := hone_of hone j f hj
  have hjl : j < fs.size := (Array.getElem?_eq_some_iff.1 hj).1
  have h1 := hg j f hj
  rw [ho, hk] at h1
  have hone' : (l.drop j).take 1 = [l[j]'(by omega)] := by
    rw [List.drop_eq_getElem_cons (by omega)]; rfl
  have hys : xs[j]? = some (xs[j]'(by omega)) := List.getElem?_eq_getElem (by omega)
  refine ⟨l[j]'(by omega), xs[j]'(by omega), List.getElem?_eq_getElem (by omega), ?_⟩
  rw [← hys, ← h1, ← hone']
  rfl
/-- A slice of numbers that came in. -/
theorem open_nums {W : World} {base : Nat} {sp : Nat → Bool} {hd : Bool} {t e : TypeId} {k : IntKind} {fuel : Nat} {v : Value} {x : DataW H × List MemPlace} (ht : P.underlying t = some (.slice e)) (he : P.underlying e = some (.int k)) (hc : P.cellsOf e = 1)
    (hf : DataW.trod enc P W base sp hd fuel t [v] = some x) :
    ∃ (a : Option Addr) (c : Nat) (xs : List Int), v = .slice a xs.length c ∧ RdSl W 1 (.slice a xs.length c) xs.length (xs.map fun n => .int k n) ∧ xs.length ≤ maxLen ∧ ∀ n ∈ xs, (Lit.int k n).wf = true := by
  rcases open_ints ht he hc hf with ⟨hcs, _⟩ | ⟨a, len', cap', zs, hcs, _, hl, hm, hz, _, hcell, hwf⟩
  · simp at hcs
    subst hcs
    exact ⟨none, 0, [], rfl, (OwnSl.nil W 0 1).rd, by simp, by simp⟩
  · simp at hcs
    subst hcs
    have hlen : (zs.take len').length = len' := by
      rw [List.length_take, hz]; split <;> omega
    refine ⟨some a, cap', zs.take len', by rw [hlen], ?_, by omega, fun n hn => hwf n (List.mem_of_mem_take hn)⟩
    rw [hlen]
    refine ⟨by rw [List.length_map, hlen, Nat.mul_one], some a, cap', rfl, hl, ?_⟩
    by_cases h0 : len' = 0
    · left; simp [h0]
    · have hz1 : len' ≤ zs.length := by rw [hz]; split <;> omega
      have c0 := hcell 0 (by omega)
      have hsp := World.cell?_spot c0
      simp only [Addr.add, if_true] at hsp
      refine .inr ⟨a.block, a.off, by rw [← hsp], fun j u hu => ?_⟩
      have hj : j < len' := by
        rcases Nat.lt_or_ge j len' with h | h
        · exact h
        · rw [List.getElem?_eq_none (by simp; omega)] at hu; cases hu
      have hcj := hcell j (by omega)
      have ea : a.add j = ⟨a.block, a.off + j, none⟩ := by
        unfold Addr.add; split
        · rename_i e; subst e; rw [← hsp]; rfl
        · rfl
      rw [← ea, hcj]
      simp only [List.getElem?_map, List.getElem?_take, if_pos hj] at hu
      rw [List.getElem?_eq_getElem (by omega)] at hu
      rw [List.getD, List.getElem?_eq_getElem (by omega)]
      simpa using hu
theorem cells_u8 : Tryz.prog.cellsOf 5 = 1 := by kernel_rfl
theorem u8_nat {x : Int} (h : (Lit.int .u8 x).wf = true) : ∃ n : Nat, x = n ∧ n < 256 := by
  simp [Lit.wf, IntKind.min, IntKind.max, IntKind.signed, IntKind.bits] at h
  exact ⟨x.toNat, by omega, by omega⟩
theorem u16_nat {x : Int} (h : (Lit.int .u16 x).wf = true) : ∃ n : Nat, x = n ∧ n < 65536 := by
  simp [Lit.wf, IntKind.min, IntKind.max, IntKind.signed, IntKind.bits] at h
  exact ⟨x.toNat, by omega, by omega⟩
theorem nums_nat (k : IntKind) (xs : List Int) (B : Nat) (h : ∀ x ∈ xs, ∃ n : Nat, x = n ∧ n < B) : ∃ l : List Nat, (xs.map fun n => Value.int k n) = natsK k l ∧ l.length = xs.length ∧ ∀ n ∈ l, n < B := by
  refine ⟨xs.map Int.toNat, ?_, by simp, fun n hn => ?_⟩
  · unfold natsK
    rw [List.map_map]
    refine List.map_congr_left fun x hx => ?_
    obtain ⟨n, rfl, _⟩ := h x hx
    simp
  · simp at hn
    obtain ⟨x, hx, rfl⟩ := hn
    obtain ⟨n, rfl, hn⟩ := h x hx
    simpa using hn
set_option maxRecDepth 100000 in
theorem open_node {W : World} {base b : Nat} {sp : Nat → Bool} {hd : Bool} {r : Reach} {v : Value} {d : DataW H} {p : List MemPlace} (hv : Value.okWide Tryz.prog W r b 26 v) (h : DataW.Trod enc Tryz.prog W base sp hd 26 v d p) :
    ∃ (n : NodeP) (ka sa va : Option Addr) (kc sc vc : Nat), v = .agg (nodeAgg n ka sa va kc sc vc) ∧ NodeIn W n ka sa va kc sc vc := by
  obtain ⟨l, n, rfl, hl, hf⟩ := open_fields Tryz.underlying26 (by kernel_rfl) (by kernel_rfl) hv h
  match l, hl with
  | [c0, c1, c2, c3, c4, c5, c6, c7], _ =>
    obtain ⟨_, y0, e0, t0⟩ := hf 0 _ rfl; cases e0
    obtain ⟨_, y1, e1, t1⟩ := hf 1 _ rfl; cases e1
    obtain ⟨_, y2, e2, t2⟩ := hf 2 _ rfl; cases e2
    obtain ⟨_, y3, e3, t3⟩ := hf 3 _ rfl; cases e3
    obtain ⟨_, y4, e4, t4⟩ := hf 4 _ rfl; cases e4
    obtain ⟨_, y5, e5, t5⟩ := hf 5 _ rfl; cases e5
    obtain ⟨_, y6, e6, t6⟩ := hf 6 _ rfl; cases e6
    obtain ⟨_, y7, e7, t7⟩ := hf 7 _ rfl; cases e7
    obtain ⟨x0, h0, _, w0⟩ := DataW.trod_int Tryz.underlying5 t0
    obtain ⟨x4, h4, _, w4⟩ := DataW.trod_int Tryz.underlying5 t4
    obtain ⟨x5, h5, _⟩ := DataW.trod_bool Tryz.underlying4 t5
    obtain ⟨x6, h6, _⟩ := DataW.trod_bool Tryz.underlying4 t6
    obtain ⟨x7, h7, _, w7⟩ := DataW.trod_int Tryz.underlying24 t7
    simp only [List.cons.injEq, and_true] at h0 h4 h5 h6 h7
    subst h0 h4 h5 h6 h7
    obtain ⟨n0, rfl, b0⟩ := u8_nat w0
    obtain ⟨n4, rfl, b4⟩ := u8_nat w4
    obtain ⟨n7, rfl, b7⟩ := u16_nat w7
    obtain ⟨ka, kc, ks, rfl, rk, lk, wk⟩ := open_nums Tryz.underlying22 Tryz.underlying5 cells_u8 t1
    obtain ⟨sa, sc, ss, rfl, rs, ls, ws⟩ := open_nums Tryz.underlying22 Tryz.underlying5 cells_u8 t2
    obtain ⟨va, vc, vs, rfl, rv, lv, wv⟩ := open_nums Tryz.underlying23 Tryz.underlying28 cells_u64 t3
    obtain ⟨kn, ek, elk, bk⟩ := nums_nat .u8 ks 256 (fun x hx => u8_nat (wk x hx))
    obtain ⟨sn, es, els, bs⟩ := nums_nat .u8 ss 256 (fun x hx => u8_nat (ws x hx))
    rw [ek, ← elk] at rk; rw [es, ← els] at rs
    rw [← elk] at lk ⊢; rw [← els] at ls ⊢
    refine ⟨⟨n0, kn, sn, vs, n4, x5, x6, n7⟩, ka, sa, va, kc, sc, vc, rfl, ⟨rk, rs, rv, lk, ls, lv, bk, bs, fun x hx => ?_, b0, b4, b7⟩⟩
    obtain ⟨m, rfl, hm⟩ := u64_nat (wv x hx)
    omega
end
end Go.Proofs.YtkoijmoendepgaaGreat

/- The changes of words of LeafChecks: opened. -/
namespace Go.Proofs.YtkoijmoendepgaaGreat
open Go.ChangeShapes Go.WideShapes Go.ChangeAt Go.RowKit Go.Joins Go.Deep

section
variable {H : Type} {enc : TypeId × Value → H}
theorem spoC_len (l : List (Nat × Int)) : (spoC l).length = l.length * 2 := by
  induction l with
  | nil => rfl
  | cons e l ih => simp [spoC] at *; omega
set_option maxRecDepth 100000 in
theorem open_spoils {W : World} {base b : Nat} {sp : Nat → Bool} {hd : Bool} {v : Value} {d : DataW H} {p : List MemPlace} (hv : Value.okWide Tryz.prog W .any b 27 v) (h : DataW.Trod enc Tryz.prog W base sp hd 27 v d p) :
    ∃ l : List (Nat × Int), RdSl W 2 v l.length (spoC l) ∧ l.length ≤ maxLen ∧ ∀ e ∈ l, e.1 < 256 ∧ 0 ≤ e.2 ∧ e.2 < 18446744073709551616 := by
  obtain ⟨a0, len, cap, rfl⟩ := okWide_slice Tryz.underlying27 hv
  obtain ⟨fuel, hf⟩ := h
  obtain ⟨a, n, c, xs, hv', hrd, hn, hfl⟩ := open_structs Tryz.underlying27 Tryz.underlying40 (by kernel_rfl) (by kernel_rfl) (by decide) hf
  obtain ⟨rfl, rfl, rfl⟩ : a0 = a ∧ len = n ∧ cap = c := by simpa using hv'
  have key : ∀ i, i < len → ∃ (x : Nat) (y : Int), xs[i * 2]? = some (.int .u8 x) ∧ xs[i * 2 + 1]? = some (.int .u64 y) ∧ x < 256 ∧ (0 ≤ y ∧ y < 18446744073709551616) := by
    intro i hi
    obtain ⟨q, hq⟩ := hfl i hi
    obtain ⟨u0, y0, e0, t0⟩ := hq 0 _ rfl
    obtain ⟨u1, y1, e1, t1⟩ := hq 1 _ rfl
    obtain ⟨x0, h0, _, w0⟩ := DataW.trod_int Tryz.underlying5 t0
    obtain ⟨x1, h1, _, w1⟩ := DataW.trod_int Tryz.underlying28 t1
    simp only [List.cons.injEq, and_true] at h0 h1
    subst h0 h1
    obtain ⟨m0, rfl, b0⟩ := u8_nat w0
    obtain ⟨m1, rfl, b1⟩ := u64_nat w1
    exact ⟨m0, m1, e0, e1, b0, by omega⟩
  let l : List (Nat × Int) := (List.range len).map fun i => ((intOf (xs.getD (i * 2) (.bool false))).toNat, intOf (xs.getD (i * 2 + 1) (.bool false)))
  have hll : l.length = len := by simp [l]
  have hget : ∀ i, i < len → ∀ (x : Nat) (y : Int), xs[i * 2]? = some (.int .u8 x) → xs[i * 2 + 1]? = some (.int .u64 y) → l[i]? = some (x, y) := by
    intro i hi x y h0 h1
    simp only [l, List.getElem?_map, List.getElem?_range hi, Option.map_some, List.getD, h0, h1, Option.getD_some, intOf, Int.toNat_natCast]
  have hx : spoC l = xs := by
    have hxl : xs.length = len * 2 := hrd.1
    refine List.ext_getElem? fun j => ?_
    by_cases hj : j < len * 2
    · obtain ⟨x, y, h0, h1, _, _⟩ := key (j / 2) (by omega)
      obtain ⟨g0, g1⟩ := spoC_get l (j / 2) _ (hget (j / 2) (by omega) x y h0 h1)
      obtain hm | hm : j % 2 = 0 ∨ j % 2 = 1 := by omega
      · rw [show j = j / 2 * 2 by omega, h0]; exact g0
      · rw [show j = j / 2 * 2 + 1 by omega, h1]; exact g1
    · rw [List.getElem?_eq_none (by rw [spoC_len]; omega), List.getElem?_eq_none (by omega)]
  refine ⟨l, by rw [hll, hx]; exact hrd, by omega, fun e he => ?_⟩
  obtain ⟨i, hi, rfl⟩ := List.getElem_of_mem he
  have hi' : i < len := by omega
  obtain ⟨x, y, h0, h1, hy, hz⟩ := key i hi'
  have := hget i hi' x y h0 h1
  rw [List.getElem?_eq_getElem hi] at this
  rw [Option.some.inj this]
  exact ⟨hy, hz⟩
end
end Go.Proofs.YtkoijmoendepgaaGreat
