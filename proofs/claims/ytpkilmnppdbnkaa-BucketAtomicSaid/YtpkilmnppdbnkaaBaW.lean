/- The walk of BucketAtomic. -/
import Derived.Test.YtpkilmnppdbnkaaBaN
import Derived.Deep.LoopGhost
import Derived.Deep.CutRange
import Derived.Deep.CutBlock
import Derived.Deep.RegionHeld3
namespace Go.Proofs.Ytpkilmnppdbnkaa
open Go.RowKit

section
variable {w : World}
set_option maxRecDepth 100000 in
set_option maxHeartbeats 16000000 in
theorem bucketAtomic_any (b n : Nat) (hb : b < 256) (sv : Value) (xs : List Value) (hs : RdSl w 3 sv n xs) (hn : n ≤ maxLen) (hop : ∀ i, i < n → OpAt xs i) (po pk px : Nat) (hpo : po < 256) (hpk : pk < 18446744073709551616) (hpx : px < 18446744073709551616) :
    Calls Try.prog 7 #[.int .u8 b, sv, .agg #[.int .u8 po, .int .u64 pk, .int .u64 px]] w fun r w' => r = .returned (.bool true) ∧ Below w.heap.size w w' := by
  unfold maxLen at hn
  obtain ⟨_, a, ca, rfl, hca, ha⟩ := hs
  have HAA := Lib.hid ha; have HOP := Lib.hid hop
  clear ha hop
  have HAW := Lib.hid (fun wx => awake31 (w := wx))
  have HMD := Lib.hid (fun wx => made31 (w := wx) b hb)
  have h8 : 8 * (b % 17) % 8 = 0 := by omega
  have hl : 8 * (b % 17) + 128 ≤ 256 := by omega
  generalize 8 * (b % 17) = off at *
  go_enter Try.func7, Try.ntmps7
  go_wp2_with fail
  (with_reducible refine (HAW.out _).mono ?_)
  rintro e w1 ⟨rfl, b1⟩
  have OX1 : Hid (Blk w1 w.heap.size #[.int .u8 po, .int .u64 pk, .int .u64 px] 37) := (Blk.new w _ _).below b1
  have B1 : Hid (Below w.heap.size w w1) := (below_alloc w _).trans (b1.mono (by simp))
  have L1 : Hid (w.heap.size < w1.heap.size) := OX1.out.lt
  clear b1 HAW
  go_wp2_with fail
  (with_reducible refine (HMD.out _).mono ?_)
  rintro e w2 ⟨v, own, rfl, d, o, b2⟩
  have OX2 := Lib.hid (OX1.out.below b2)
  have OF2 : Hid (own w.heap.size = none) := (by
    cases e : own w.heap.size with
    | none => rfl
    | some r => have := o w.heap.size (by rw [e]; simp); have := L1.out; omega : own w.heap.size = none)
  have ON2 : Hid (w.heap.size ≠ w2.heap.size + 1) := (by have := OX2.out.lt; omega : w.heap.size ≠ w2.heap.size + 1)
  have S2 := Lib.hid (PlS.start (w := w) d (fun k hk => Nat.le_trans B1.out.size (o k hk)) (B1.out.trans (b2.mono B1.out.size)) h8 hl)
  have OX3 := Lib.hid (OX2.out.below (below_twice w2 (.cells #[.iface 56 (.pointer (some ⟨v.tb 0, 0, none⟩)), .int .u64 off] 29) (.cells (refC (fun _ => 0) off) 32)))
  clear d o b2 HMD B1 OX1 OX2 L1
  dsimp only [refC]
  go_upto_block 0 with fail
  generalize hwv : World.alloc (World.alloc w2 _) _ = w3 at S2 OX3
  have hwv2 := hwv
  dsimp only [refC] at hwv2
  rw [hwv2]
  clear hwv hwv2
  generalize w2.heap.size = bl at *
  generalize hxb : bl + 1 = xb at *
  clear hxb
  obtain ⟨wo, hwo⟩ : ∃ x : World, x = w3 := ⟨_, rfl⟩
  subst hwo
  go_cut [10, 11] from 37 to 49 (fun _ _ wx => ∃ own D C, PlS w v own D 540 C off bl xb wx ∧ Blk wx w.heap.size #[.int .u8 po, .int .u64 pk, .int .u64 px] 37 ∧ own w.heap.size = none)
  case first =>
    go_wp2_with fail
    go_loopw [10, 11, 37] (fun _ _ z wr => ∃ i : Nat, i ≤ n ∧ i ≤ 60 ∧ z = .int .i64 i ∧ ∃ own D C, PlS w v own D (9 * i) C off bl xb wr ∧ Blk wr w.heap.size #[.int .u8 po, .int .u64 pk, .int .u64 px] 37 ∧ own w.heap.size = none) (fun _ _ z _ => n - (intOf z).toNat)
    case atStart => exact ⟨0, by omega, by omega, rfl, _, _, _, S2.out, OX3.out, OF2.out⟩
    case round =>
      obtain ⟨i, hi, hi6, rfl, own, D, C, hs, hox, hof⟩ := hrel
      have R := Lib.hid hs; have OX := Lib.hid hox; have OF0 := Lib.hid hof
      clear hs S2 hox hof OX3 OF2
      by_cases hlt : i < n
      · have hi1 : (i : Int) < n := by omega
        obtain ⟨ab, aq, o, k, x, rfl, c0, c1, c2, b0, b1, b2⟩ := op_now HAA.out (HOP.out i hlt) R.out.bel
        by_cases h60 : i = 60
        · have hq : ((i : Int) == 60) = true := by simp; omega
          clear h60
          go_wp2_with fail
          go_meet
          exact ⟨own, D, C, (R.out.mono (by omega)).next (below_alloc _ _), OX.out.below (below_alloc _ _), OF0.out⟩
        · have hi7 : i < 60 := by omega
          have hq : ((i : Int) == 60) = false := by simp; omega
          have R4 := Lib.hid (R.out.next (below_alloc wr (.cells #[.int .u8 o, .int .u64 k, .int .u64 x] 37)))
          have OX4 := Lib.hid (OX.out.below (below_alloc wr (.cells #[.int .u8 o, .int .u64 k, .int .u64 x] 37)))
          have OB0 : Hid (Blk (wr.alloc (.cells #[.int .u8 o, .int .u64 k, .int .u64 x] 37)) wr.heap.size #[.int .u8 o, .int .u64 k, .int .u64 x] 37) := Blk.new wr _ _
          obtain ⟨y, hy9⟩ : ∃ y, y = 9 * i := ⟨_, rfl⟩
          rw [← hy9] at R4
          have hap := fun (wx : World) (h : BSt wx v own D 4 y C off) (hx : Blk wx xb (refC C off) 32) (hf : own xb = none) => apply31_any h hx hf (by omega) o k x b0 b1 b2
          obtain ⟨C', hC'⟩ : ∃ C', applyC C off o k x = C' := ⟨_, rfl⟩
          rw [hC'] at hap
          have HAP := Lib.hid hap
          have d0 := R4.out.bb.cell (i := 0) (v := .iface 56 (.pointer (some ⟨v.tb 0, 0, none⟩))) rfl
          have d1 := R4.out.bb.cell (i := 1) (v := .int .u64 off) rfl
          clear hap hC' h60 R
          go_wp2_with fail
          clear d0 d1
          (with_reducible refine (HAP.out _ R4.out.st R4.out.xs R4.out.fx).mono ?_)
          rintro e w5 hp
          obtain ⟨rfl, own', D', s5, hkeep⟩ := R4.out.step hp
          have S5 := Lib.hid s5
          have OX5 := Lib.hid (hkeep _ _ _ OX4.out OF0.out ON2.out)
          clear hp hkeep s5 R4 OB0
          go_wp2_with fail
          go_roundw
          case rel => exact ⟨i + 1, by omega, by omega, by go_num, own', D', C', S5.out.mono (by omega), OX5.out.1, OX5.out.2⟩
          case measure => simp [intOf]; omega
      · obtain rfl : i = n := by omega
        go_wp2_with fail
        go_meet
        exact ⟨own, D, C, R.out.mono (by omega), OX.out, OF0.out⟩
  case rest =>
  clear S2 OX3 OF2 HAA HOP
  obtain ⟨own, D, C, hs, hox, hof⟩ := hcut
  obtain ⟨wr, hwr⟩ : ∃ y : World, y = wc := ⟨_, rfl⟩
  subst hwr
  have R := Lib.hid hs; have OX := Lib.hid hox; have OF0 := Lib.hid hof
  clear hs hox hof
  have hbd := R.out.st.inv.hd
  have hpp := R.out.st.planPut pk hpk (px : Int)
  have hpd := fun (wx : World) (h : BSt wx v own D 4 540 C off) => h.planDel pk hpk
  have HTry := Lib.hid hpp; have HPD := Lib.hid hpd
  have HPU := Lib.hid (PrG.put (C := C) (off := off) (k := pk) (x := (px : Int)) h8 hl hpk ⟨by omega, by omega⟩ hbd)
  have HDE := Lib.hid (PrG.del (C := C) (off := off) (k := pk) h8 hl hbd)
  have HNW := Lib.hid (fun g (hg : wr.heap.size ≤ g) => R.out.new_free hg)
  have d0 := R.out.bb.cell (i := 0) (v := .iface 56 (.pointer (some ⟨v.tb 0, 0, none⟩))) rfl
  have d1 := R.out.bb.cell (i := 1) (v := .int .u64 off) rfl
  have a0 := OX.out.cell (i := 0) (v := .int .u8 po) rfl
  have a1 := OX.out.cell (i := 1) (v := .int .u64 pk) rfl
  have a2 := OX.out.cell (i := 2) (v := .int .u64 px) rfl
  clear hpp hpd hbd
  go_wp2_with fail
  (with_reducible refine HTry.out.mono ?_)
  rintro e w4 ⟨pv, rfl, ha⟩
  have R1 := Lib.hid (R.out.next ha.bel); have X1 := Lib.hid (OX.out.below ha.bel)
  have A1 := Lib.hid ha
  have B1 := Lib.hid ha.bel
  obtain ⟨pva, pvc, rfl⟩ := ha.slice
  have d0 := R1.out.bb.cell (i := 0) (v := .iface 56 (.pointer (some ⟨v.tb 0, 0, none⟩))) rfl
  have d1 := R1.out.bb.cell (i := 1) (v := .int .u64 off) rfl
  have a0 := X1.out.cell (i := 0) (v := .int .u8 po) rfl
  have a1 := X1.out.cell (i := 1) (v := .int .u64 pk) rfl
  have R0 := Lib.hid R.out
  clear ha HTry R OX
  have e4 : ((po : Nat) : Int).tmod 2 = (po : Int) % 2 := Int.tmod_eq_emod_of_nonneg (by omega)
  obtain ⟨wq, hwq⟩ : ∃ x : World, x = w4 := ⟨_, rfl⟩
  subst hwq
  go_upto_if 62 with fail
  go_cut [12, 13] from 61 to 69 (fun u z wx => ∃ (L : List (Nat × Nat × Int)) (C1 : Nat → Int) (e : Int), z = .int .i64 e ∧ (e = 0 → PrG C off L C1) ∧ (∃ a c, u = .slice a L.length c) ∧ RdSl wx 3 u L.length (instrC L) ∧ (∀ g, u.ownBlock = some g → wr.heap.size ≤ g ∧ g < wx.heap.size) ∧ Below wr.heap.size wr wx)
  case first =>
    by_cases hd : po % 2 = 1
    · have hq : (((po : Nat) : Int) % 2 == 1) = true := by simp; omega
      go_wp2_with fail
      (with_reducible refine (HPD.out _ R1.out.st).mono ?_)
      rintro e w5 ⟨qv, rfl, ha⟩
      have A := Lib.hid ha
      obtain ⟨qva, qvc, rfl⟩ := ha.slice
      clear ha
      go_wp2_with fail
      go_meet
      exact ⟨delL C off pk, delC C off pk, delE C off pk, rfl, HDE.out, ⟨_, _, rfl⟩, A.out.own.rd, fun g hg => ⟨Nat.le_trans B1.out.size (A.out.new g hg), A.out.own.lt g hg⟩, B1.out.trans (A.out.bel.mono B1.out.size)⟩
    · have hq : (((po : Nat) : Int) % 2 == 1) = false := by simp; omega
      go_wp2_with fail
      go_meet
      exact ⟨putL C off pk px, putC C off pk px, putE C off pk, rfl, HPU.out, ⟨_, _, rfl⟩, A1.out.own.rd, fun g hg => ⟨A1.out.new g hg, A1.out.own.lt g hg⟩, A1.out.bel⟩
  case rest =>
  clear HPD HPU HDE d0 d1 a0 a1 A1 X1
  obtain ⟨L, C1, e, rfl, hG, ⟨pa, pc, rfl⟩, hrd, hpo2, hbl⟩ := hcut
  obtain ⟨w3, hw3⟩ : ∃ y : World, y = wc := ⟨_, rfl⟩
  subst hw3
  have R3 := Lib.hid (R0.out.next hbl)
  have PV := Lib.hid hrd; have PB := Lib.hid hpo2
  clear hrd hpo2 hbl R1 B1 R0
  by_cases he0 : e = 0
  · subst he0
    have G := Lib.hid (hG rfl)
    clear hG
    -- the reference's entries
    have hrp := fun wx => r31Pairs_any (w := wx) (refC_ok (C := C) (off := off) R3.out.st.inv.bd (by omega))
    have hat := fun k hk => G.out.at R3.out.st.cl k hk
    have hl0 := entB_le C off 7; have hl1 := entB_le C1 off 7
    have hcl := G.out.cl D 540 R3.out.st.cl
    have hb2 : BOk (D.run 0 L) off := ⟨hcl.vb, hcl.grp.on.off, hcl.grp.on.err, h8, by rw [hcl.grp.on.n]; omega⟩
    have hcu : (D.run 0 L).cur = C1 := hcl.cur
    have her : (D.run 0 L).err 0 = 0 := hcl.grp.on.err
    have hdz : ∀ l, (D.run 0 L).hist l = [] := hcl.hist
    obtain ⟨E0, hE0⟩ : ∃ E, entB C off 7 = E := ⟨_, rfl⟩
    obtain ⟨E1, hE1⟩ : ∃ E, entB C1 off 7 = E := ⟨_, rfl⟩
    rw [hE0] at hrp hat hl0; rw [hE1] at hat hl1
    have HRP := Lib.hid hrp; have HAT := Lib.hid hat
    have HIN := Lib.hid (refC_info C off)
    have HE1 := Lib.hid hE1
    have R3s := Lib.hid (fun g (hg : w3.heap.size ≤ g) => R3.out.new_free hg)
    have hxe : D.exec < 100000 := by have := R3.out.st.cl.exec; omega
    have HCP := Lib.hid (fun wx (h : IsDev wx v own D) => copy_any h (by omega))
    have HRN := Lib.hid (fun wx (v' : DV) own' pv (h : IsDev wx v' own' D) (hp : RdSl wx 3 pv L.length (instrC L)) (ho : ∀ k, pv.ownBlock = some k → own' k = none) => run_any h (j := 0) (by omega) pv L hp ho G.out.ok (by have := G.out.len; omega) (by have := G.out.len; omega))
    rw [her] at HRN
    have HTH := Lib.hid (fun wx (v' : DV) own' (D' : Dev) (h : IsDev wx v' own' D') => thread0_any h)
    have HAA := Lib.hid (fun wx (t : Addr) => bAt_any2 (w := wx) t off)
    have HPA := Lib.hid (fun wx (v' : DV) own' (D' : Dev) (h : IsDev wx v' own' D') (hb : BOk D' off) => pairs31_any h hb)
    have HSY := Lib.hid (fun wx u q (l m : List (Int × Int)) (h1 : RdSl wx 2 u l.length (prC l)) (h2 : RdSl wx 2 q m.length (prC m)) (hl : l.length ≤ 7) (hm : m.length ≤ 7) (e : l = m) => same31_yes (wx := wx) u q l m h1 h2 hl hm e)
    have HSO := Lib.hid (fun wx u q (l m : List (Int × Int)) (h1 : RdSl wx 2 u l.length (prC l)) (h2 : RdSl wx 2 q m.length (prC m)) (hl : l.length ≤ 7) (hm : m.length ≤ 7) (e : ¬ l = m) => same31_no (wx := wx) u q l m h1 h2 hl hm e)
    have B2 := Lib.hid hb2; have CU := Lib.hid hcu; have HDZ := Lib.hid hdz
    clear hrp hat hcl hb2 hcu her hdz
    go_wp2_with (refine wpList_load_row rfl 32 (.tmp 9) rfl xb rfl 32 (refC C off) (0, 0) _ R3.out.xs Try.underlying32 rfl HIN.out ?_)
    (with_reducible refine (HRP.out _).mono ?_)
    rintro r w4 ⟨u0, rfl, ha⟩
    have R4 := Lib.hid (R3.out.next ha.bel)
    have P4 := Lib.hid (PV.out.below ha.bel)
    have PB4 : Hid (∀ g, (Value.slice pa L.length pc).ownBlock = some g → wr.heap.size ≤ g ∧ g < w4.heap.size) := fun g hg => ⟨(PB.out g hg).1, Nat.lt_of_lt_of_le (PB.out g hg).2 ha.bel.size⟩
    have K0 : Hid (RdSl w4 2 u0 E0.length (prC E0) ∧ ∀ g, u0.ownBlock = some g → w3.heap.size ≤ g ∧ g < w4.heap.size) := ⟨ha.own.rd, fun g hg => ⟨ha.new g hg, ha.own.lt g hg⟩⟩
    obtain ⟨ua0, uc0, rfl⟩ := ha.slice
    have hz34 := ha.bel.size
    clear ha HRP R3 PV PB
    go_wp2_with fail
    (with_reducible refine (HCP.out _ R4.out.st.dev).mono ?_)
    rintro r w5 ⟨v', own', rfl, hd1, hd2, ho2, b5⟩
    have R5 := Lib.hid (R4.out.next b5)
    have C5 := Lib.hid hd2; have CO5 := Lib.hid ho2; have B5 := Lib.hid b5
    have P5 := Lib.hid (P4.out.below b5)
    clear hd1 hd2 ho2 b5 HCP
    go_wp2_with fail
    (with_reducible refine (HTH.out _ _ _ _ C5.out).mono ?_)
    rintro r w' ⟨rfl, rfl⟩
    go_wp2_with fail
    (with_reducible refine (HRN.out _ _ _ _ C5.out P5.out (fun k hk => by
      cases e : own' k with
      | none => rfl
      | some r => have := CO5.out k (by rw [e]; simp); have := (PB4.out k hk).2; omega)).mono ?_)
    rintro r w6 ⟨rfl, hp⟩
    have h6 : Below w4.heap.size w4 w6 := by
      obtain ⟨_, _, _, hu⟩ := hp
      exact ⟨hu.os.trans B5.out.os, hu.tape.trans B5.out.tape, hu.output.trans B5.out.output, Nat.le_trans B5.out.size hu.size, fun k hk => (hu.block k (Nat.lt_of_lt_of_le hk B5.out.size) (fun e => by have := CO5.out k e; omega)).trans (B5.out.block k hk)⟩
    have R6 := Lib.hid (R4.out.next h6)
    have P6 := Lib.hid (P4.out.below h6)
    have K06 := Lib.hid (K0.out.1.below h6)
    have hz46 := h6.size
    obtain ⟨own6, hd6, _, _⟩ := hp
    have C6 := Lib.hid hd6
    clear hd6 h6 R5 P5 B5 C5 CO5 HRN R4 P4
    have x0 := R6.out.xs.cell (i := 0) (v := .int .u64 off) rfl
    have MD : Hid (IsDev w6.drew v' own6 (D.run 0 L)) := C6.out.drew
    have x1 : w6.drew.cell? ⟨xb, 0, none⟩ = some (.int .u64 off) := x0
    go_upto_region 20 with fail
    go_cut [16] from 82 to 88 (fun u wx => ∃ a c, u = .slice a E1.length c ∧ RdSl wx 2 u E1.length (prC E1) ∧ (∀ g, u.ownBlock = some g → w6.heap.size ≤ g ∧ g < wx.heap.size) ∧ Below w6.heap.size w6 wx)
    case first =>
      go_region_with (first | (go_at_call 19; (first | (with_reducible refine (HTH.out _ _ _ _ MD.out).mono ?_) | (with_reducible refine (HTH.out _ _ _ _ C6.out).mono ?_)); rintro e w' ⟨rfl, rfl⟩) | (go_at_call 14; (with_reducible refine (HAA.out _ _).mono ?_); rintro e w7 ⟨rfl, b7⟩; have M7 := Lib.hid (MD.out.below b7); have B7 : Hid (Below w6.heap.size w6 w7) := ((Below.refl _ _).drew).trans b7; clear b7) | (go_at_call 17; (with_reducible refine (HPA.out _ _ _ _ M7.out B2.out).mono ?_); rintro e w8 ⟨u1, rfl, rw1, b8⟩; have RW1 := Lib.hid rw1; have B8 := Lib.hid (B7.out.trans (b8.mono B7.out.size)); clear rw1 b8))
      all_goals go_wp2_with fail
      all_goals go_meet
      all_goals
        obtain ⟨⟨ra, rc, rfl⟩, r2, r3⟩ := row_all31 RW1.out
        rw [CU.out, HE1.out] at r2 r3 ⊢
        exact ⟨ra, rc, rfl, r2, fun g hg => ⟨Nat.le_trans B7.out.size (r3 g hg).1, (r3 g hg).2⟩, B8.out⟩
    case rest =>
    clear MD x0 x1 C6
    obtain ⟨ua1, uc1, rfl, hk1, hkb, hbz⟩ := hcut
    obtain ⟨w7, hw7⟩ : ∃ y : World, y = wc := ⟨_, rfl⟩
    subst hw7
    have R7 := Lib.hid (R6.out.next hbz)
    have P7 := Lib.hid (P6.out.below hbz)
    have K07 := Lib.hid (K06.out.below hbz)
    have K17 := Lib.hid (And.intro hk1 hkb)
    have hz7 := hbz.size
    clear hk1 hkb hbz R6 P6 K06
    -- the program is not empty
    obtain ⟨pb, pq, rfl⟩ : ∃ pb pq, pa = some ⟨pb, pq, none⟩ := by
      obtain ⟨_, a', c', e', _, hE⟩ := P7.out
      cases e'
      obtain ⟨e, he⟩ : ∃ e, L[0]? = some e := ⟨_, List.getElem?_eq_getElem G.out.ne⟩
      obtain ⟨fb, fo, rfl, _⟩ := rd_at hE (instrC_get L 0 e he).1
      exact ⟨_, _, rfl⟩
    have HMS := Lib.hid (fun wx (t : Addr) (h : RdSl wx 3 (.slice (some ⟨pb, pq, none⟩) L.length pc) L.length (instrC L)) => memStep_any (w := wx) t ⟨pb, pq, none⟩ pc L h G.out.ok (by have := G.out.len; omega))
    go_wp2_with fail
    (with_reducible refine (HTH.out _ _ _ _ R7.out.st.dev).mono ?_)
    rintro r w' ⟨rfl, rfl⟩
    go_wp2_with fail
    (with_reducible refine (HMS.out _ _ P7.out).mono ?_)
    rintro r w8 ⟨sb, rfl, hst, hsb, b8⟩
    have A8 : Hid (AtS w v own (D.run 0 (L.take 0)) off bl xb C sb (L.drop 0) (.slice ua0 E0.length uc0) (.slice ua1 E1.length uc1) E0 E1 w8) := by
      have R8 := R7.out.next b8
      refine ⟨by rw [List.take_zero]; exact R8.st.dev, by rw [List.drop_zero]; exact hst own R7.out.st.dev.lt, R8.ob, R8.bb, R8.fb, fun e => ?_, R8.xs, R8.fx, fun e => ?_, ⟨K07.out.below b8, fun g hg => ?_⟩, ⟨K17.out.1.below b8, fun g hg => ?_⟩, R8.bel, Nat.le_trans R7.out.bel.size hsb⟩
      · have := R7.out.bb.lt; omega
      · have := R7.out.xs.lt; omega
      · obtain ⟨h1, h2⟩ := K0.out.2 g hg
        have h3 := b8.size
        exact ⟨R3s.out g h1, by omega, by omega⟩
      · obtain ⟨h1, h2⟩ := K17.out.2 g hg
        have h3 := b8.size
        exact ⟨R3s.out g (by omega), by omega, by omega⟩
    have HPG := Lib.hid G.out.ok
    have CL := Lib.hid R7.out.st.cl
    clear hst hsb b8 HMS K07 K17 K0 PB4 P7 R7
    obtain ⟨m, hm⟩ : ∃ m, L.length = m := ⟨_, rfl⟩
    have HM := Lib.hid hm
    have hlen := G.out.len
    rw [hm] at hlen
    rw [hm]
    go_wp2_with fail
    go_loopw [18, 19, 20, 21, 22, 23, 24, 25, 26, 96] (fun _ _ _ _ _ _ _ _ _ y wx => ∃ k : Nat, k ≤ m ∧ y = .int .i64 k ∧ ∃ own, AtS w v own (D.run 0 (L.take k)) off bl xb C sb (L.drop k) (.slice ua0 E0.length uc0) (.slice ua1 E1.length uc1) E0 E1 wx) (fun _ _ _ _ _ _ _ _ _ y _ => m - (intOf y).toNat)
    case atStart => exact ⟨0, by omega, rfl, own, A8.out⟩
    case round =>
      clear A8 OF0
      obtain ⟨k, hk, rfl, own1, hat⟩ := hrel
      rename World => wq
      have A := Lib.hid hat
      clear hat
      by_cases hlt : k < m
      · have hlt' : (k : Int) < m := by omega
        obtain ⟨e, he⟩ : ∃ e, L[k]? = some e := ⟨_, List.getElem?_eq_getElem (by rw [HM.out]; exact hlt)⟩
        have hdrop : L.drop k = e :: L.drop (k + 1) := by
          obtain ⟨h1, h2⟩ := List.getElem?_eq_some_iff.1 he
          rw [List.drop_eq_getElem_cons h1, h2]
        have hstp : D.run 0 (L.take (k + 1)) = (D.run 0 (L.take k)).step 0 e := by
          have htake : L.take (k + 1) = L.take k ++ [e] := by rw [List.take_add_one, he]; rfl
          rw [htake, Dev.run_snoc]
        have A1 : Hid (AtS w v own1 (D.run 0 (L.take k)) off bl xb C sb (e :: L.drop (k + 1)) (.slice ua0 E0.length uc0) (.slice ua1 E1.length uc1) E0 E1 wq) := by
          have := A.out
          rw [hdrop] at this
          exact this
        have ba0 := HAT.out k (by rw [HM.out]; omega)
        have ba := HAT.out (k + 1) (by rw [HM.out]; omega)
        have hst := stpStep_any A1.out.dev (by omega) A1.out.stp (HPG.out e (List.mem_of_getElem? he)) (by rw [List.length_drop, HM.out]; omega) (by have := ba0.ex; omega)
        rw [← hstp] at hst
        obtain ⟨D1, hD1⟩ : ∃ X, D.run 0 (L.take (k + 1)) = X := ⟨_, rfl⟩
        rw [hD1] at hst ba
        have BA := Lib.hid ba; have HST := Lib.hid hst; have HD1 := Lib.hid hD1
        clear hst ba ba0 hD1 hstp he hdrop A
        go_wp2_with fail
        (with_reducible refine HST.out.mono ?_)
        rintro r w10 hp
        obtain ⟨sbb, own2, rfl, hs2⟩ := A1.out.step hp
        have S := Lib.hid hs2
        clear hp hs2 HST A1
        have d0 := S.out.bb.cell (i := 0) (v := .iface 56 (.pointer (some ⟨v.tb 0, 0, none⟩))) rfl
        have d1 := S.out.bb.cell (i := 1) (v := .int .u64 off) rfl
        go_wp2_with fail
        (with_reducible refine (HPA.out _ _ _ _ S.out.dev (BA.out.ok h8 (by omega))).mono ?_)
        rintro r w11 ⟨nv, rfl, rw1, b11⟩
        obtain ⟨⟨na, nc, rfl⟩, n2, _⟩ := row_all31 rw1
        have hEN := BA.out.cur
        have hlN := entB_le D1.cur off 7
        obtain ⟨EN, hEN2⟩ : ∃ E, entB D1.cur off 7 = E := ⟨_, rfl⟩
        rw [hEN2] at n2 hEN hlN ⊢
        have S11 := Lib.hid (S.out.next b11); have NV := Lib.hid n2
        clear rw1 b11 n2 d0 d1 S hEN2
        go_upto_region 26 with fail
        go_cut [111] from 102 to 111 (fun u wx => u = .bool false ∧ Below w11.heap.size w11 wx)
        case first =>
          by_cases hq : EN = E0
          · have hs1 := HSY.out w11 _ _ EN E0 NV.out S11.out.k0.rd hlN hl0 hq
            have HS1 := Lib.hid hs1
            clear hs1 hEN hq
            go_wp2_with fail
            (with_reducible refine HS1.out.mono ?_)
            rintro r w12 ⟨rfl, b12⟩
            have B12 := Lib.hid b12
            clear b12
            go_wp2_with fail
            go_meet
            exact ⟨rfl, B12.out⟩
          · have hq1 : EN = E1 := hEN.resolve_left hq
            have hs1 := HSO.out w11 _ _ EN E0 NV.out S11.out.k0.rd hlN hl0 hq
            have HS1 := Lib.hid hs1
            have HS2 := Lib.hid (fun wx (hb : Below w11.heap.size w11 wx) => HSY.out wx _ _ EN E1 (NV.out.below hb) (S11.out.k1.rd.below hb) hlN hl1 hq1)
            clear hs1 hEN hq hq1
            go_wp2_with fail
            (with_reducible refine HS1.out.mono ?_)
            rintro r w12 ⟨rfl, b12⟩
            have B12 := Lib.hid b12
            clear b12
            go_wp2_with fail
            (with_reducible refine (HS2.out _ B12.out).mono ?_)
            rintro r w13 ⟨rfl, b13⟩
            have B13 := Lib.hid (B12.out.trans (b13.mono B12.out.size))
            clear b13
            go_wp2_with fail
            go_meet
            exact ⟨rfl, B13.out⟩
        case rest =>
        obtain ⟨rfl, b12⟩ := hcut
        obtain ⟨w12, hw12⟩ : ∃ y : World, y = wc := ⟨_, rfl⟩
        subst hw12
        have S12 := Lib.hid (S11.out.next b12)
        clear b12 S11 NV hEN hlN
        have hct := count_any S12.out.dev BA.out.vb (by have := BA.out.ex; omega) (by have := BA.out.cnt; omega) (fun l _ => by have := BA.out.few l; omega)
        have hpp := prodN_pos (basesL D1) (basesL_pos D1)
        have hp64 := BA.out.cnt
        have HCA := Lib.hid (fun wx (h : IsDev wx v own2 D1) (n : Nat) (hn : n < prodN (basesL D1)) => csAt_any h BA.out.vb (by have := BA.out.ex; omega) n hn (by have := BA.out.cnt; omega) (fun l _ => by have := BA.out.few l; omega))
        obtain ⟨P, hP⟩ : ∃ P, prodN (basesL D1) = P := ⟨_, rfl⟩
        rw [hP] at hct hpp hp64 HCA
        have HCT := Lib.hid hct
        clear hct hP
        go_wp2_with fail
        (with_reducible refine HCT.out.mono ?_)
        rintro r w13 ⟨rfl, b13⟩
        have S13 := Lib.hid (S12.out.next b13)
        clear b13 S12 HCT
        have q1 : ¬ ((P : Nat) : Int) < 1 := by omega
        have q2 : ¬ (64 : Int) < (P : Nat) := by omega
        go_wp2_with fail
        go_loopw [21, 22, 23, 24, 25, 26, 128] (fun _ _ _ _ _ _ y wr => ∃ i : Nat, i ≤ P ∧ y = .int .u64 i ∧ Below w13.heap.size w13 wr) (fun _ _ _ _ _ _ y _ => P - (intOf y).toNat)
        case atStart => exact ⟨0, by omega, rfl, Below.refl _ _⟩
        case round =>
          obtain ⟨i, hi, rfl, hbz⟩ := hrel
          rename World => wz
          have Z := Lib.hid (S13.out.next hbz); have BZ := Lib.hid hbz
          clear hbz
          by_cases hip : i < P
          · have hip' : (i : Int) < P := by omega
            have HC1 := Lib.hid (HCA.out _ Z.out.dev i hip)
            unfold AtPost at HC1
            go_wp2_with fail
            (with_reducible refine HC1.out.mono ?_)
            rintro r w14 ⟨ks, s, hks, rfl, himg, b14⟩
            rw [BA.out.on.n] at himg
            have B14 : Hid (Below w13.heap.size w13 (w14.alloc (.cells #[.string s] 80))) := (BZ.out.trans (b14.mono BZ.out.size)).trans ((below_alloc _ _).mono (Nat.le_trans BZ.out.size b14.size))
            have X := Lib.hid (Blk.new w14 #[.string s] 80)
            have dx := X.out.cell (i := 0) (v := .string s) rfl
            have HDV := Lib.hid (imDevice_any (w := w14.alloc (.cells #[.string s] 80)) himg (by omega) (by omega) (fun i => BA.out.vb.img ks i))
            have hEI := BA.out.img ks
            have hlI := entB_le (D1.img ks) off 7
            have HOK := Lib.hid (fresh_bok (off := off) (fun i => BA.out.vb.img ks i) (n := 4) h8 (by omega))
            have HFC := Lib.hid (fresh_cur 4 (D1.img ks))
            clear hks himg b14 HC1
            go_wp2_with fail
            (with_reducible refine HDV.out.mono ?_)
            rintro r w15 ⟨v2, own4, rfl, ⟨f, hf, hd⟩, _, b15⟩
            have Y := Lib.hid (fresh_words hd hf)
            have B15 := Lib.hid (B14.out.trans (b15.mono B14.out.size))
            have Z15 := Lib.hid (S13.out.next B15.out)
            clear hf hd b15 HDV B14 dx X Z BZ
            obtain ⟨EI, hEI2⟩ : ∃ E, entB (D1.img ks) off 7 = E := ⟨_, rfl⟩
            have HEI := Lib.hid hEI2
            rw [hEI2] at hEI hlI
            clear hEI2
            have x0 := Z15.out.xs.cell (i := 0) (v := .int .u64 off) rfl
            have MD : Hid (IsDev w15.drew v2 own4 (Dev.fresh 4 (D1.img ks))) := Y.out.drew
            have x1 : w15.drew.cell? ⟨xb, 0, none⟩ = some (.int .u64 off) := x0
            go_upto_region 38 with fail
            go_cut [26] from 148 to 154 (fun u wx => ∃ a c, u = .slice a EI.length c ∧ RdSl wx 2 u EI.length (prC EI) ∧ Below w15.heap.size w15 wx)
            case first =>
              go_region_with (first | (go_at_call 19; (first | (with_reducible refine (HTH.out _ _ _ _ MD.out).mono ?_) | (with_reducible refine (HTH.out _ _ _ _ Y.out).mono ?_)); rintro e w' ⟨rfl, rfl⟩) | (go_at_call 14; (with_reducible refine (HAA.out _ _).mono ?_); rintro e w16 ⟨rfl, b16⟩; have M16 := Lib.hid (MD.out.below b16); have B16 : Hid (Below w15.heap.size w15 w16) := ((Below.refl _ _).drew).trans b16; clear b16) | (go_at_call 17; (with_reducible refine (HPA.out _ _ _ _ M16.out HOK.out).mono ?_); rintro e w17 ⟨ui, rfl, rw1, b17⟩; have RW1 := Lib.hid rw1; have B17 := Lib.hid (B16.out.trans (b17.mono B16.out.size)); clear rw1 b17))
              all_goals go_wp2_with fail
              all_goals go_meet
              all_goals
                obtain ⟨⟨ra, rc, rfl⟩, r2, r3⟩ := row_all31 RW1.out
                rw [HFC.out, HEI.out] at r2 ⊢
                exact ⟨ra, rc, rfl, r2, B17.out⟩
            case rest =>
            clear MD x0 x1 Y
            obtain ⟨ia, ic, rfl, hki, hbz⟩ := hcut
            obtain ⟨w16, hw16⟩ : ∃ y : World, y = wc := ⟨_, rfl⟩
            subst hw16
            have S16 := Lib.hid (Z15.out.next hbz)
            have B16 := Lib.hid (B15.out.trans (hbz.mono B15.out.size))
            have NV := Lib.hid hki
            clear hki hbz Z15 B15
            go_upto_region 39 with fail
            go_cut [164] from 155 to 164 (fun u wx => u = .bool false ∧ Below w16.heap.size w16 wx)
            case first =>
              by_cases hq : EI = E0
              · have hs1 := HSY.out w16 _ _ EI E0 NV.out S16.out.k0.rd hlI hl0 hq
                have HS1 := Lib.hid hs1
                clear hs1 hEI hq
                go_wp2_with fail
                (with_reducible refine HS1.out.mono ?_)
                rintro r w17 ⟨rfl, b17⟩
                have B17 := Lib.hid b17
                clear b17
                go_wp2_with fail
                go_meet
                exact ⟨rfl, B17.out⟩
              · have hq1 : EI = E1 := hEI.resolve_left hq
                have hs1 := HSO.out w16 _ _ EI E0 NV.out S16.out.k0.rd hlI hl0 hq
                have HS1 := Lib.hid hs1
                have HS2 := Lib.hid (fun wx (hb : Below w16.heap.size w16 wx) => HSY.out wx _ _ EI E1 (NV.out.below hb) (S16.out.k1.rd.below hb) hlI hl1 hq1)
                clear hs1 hEI hq hq1
                go_wp2_with fail
                (with_reducible refine HS1.out.mono ?_)
                rintro r w17 ⟨rfl, b17⟩
                have B17 := Lib.hid b17
                clear b17
                go_wp2_with fail
                (with_reducible refine (HS2.out _ B17.out).mono ?_)
                rintro r w18 ⟨rfl, b18⟩
                have B18 := Lib.hid (B17.out.trans (b18.mono B17.out.size))
                clear b18
                go_wp2_with fail
                go_meet
                exact ⟨rfl, B18.out⟩
            case rest =>
            obtain ⟨rfl, b17⟩ := hcut
            obtain ⟨w17, hw17⟩ : ∃ y : World, y = wc := ⟨_, rfl⟩
            subst hw17
            have B17 := Lib.hid (B16.out.trans (b17.mono B16.out.size))
            clear b17 B16 S16 NV hEI hlI
            have g1 : IntKind.u64.wrap ((i : Int) + 1) = (i : Int) + 1 := IntWalk.u64_in _ (by omega)
            go_wp2_with fail
            go_roundw
            case rel => exact ⟨i + 1, by omega, by go_num, B17.out⟩
            case measure => simp [intOf]; omega
          · obtain rfl : i = P := by omega
            go_wp2_with fail
            go_roundw
            case rel => exact ⟨k + 1, by omega, by go_num, own2, by rw [HD1.out]; exact Z.out⟩
            case measure => simp [intOf]; omega
      · obtain rfl : k = m := by omega
        have htk : L.take k = L := List.take_of_length_le (by rw [HM.out]; exact Nat.le_refl _)
        rw [htk] at A
        have hdy := dirty_any A.out.dev
        rw [dirty_none HDZ.out] at hdy
        have HDY := Lib.hid hdy
        have hs1 := fun wx u q (h1 : RdSl wx 2 u E1.length (prC E1)) (h2 : RdSl wx 2 q E1.length (prC E1)) => HSY.out wx u q E1 E1 h1 h2 hl1 hl1 rfl
        have HS1 := Lib.hid hs1
        clear hdy hs1 htk
        go_wp2_with fail
        (with_reducible refine HDY.out.mono ?_)
        rintro r w10 ⟨dv, rfl, ha⟩
        have S := Lib.hid (A.out.next ha.bel)
        obtain ⟨da, dc, rfl⟩ := ha.slice
        have d0 := S.out.bb.cell (i := 0) (v := .iface 56 (.pointer (some ⟨v.tb 0, 0, none⟩))) rfl
        have d1 := S.out.bb.cell (i := 1) (v := .int .u64 off) rfl
        clear ha A HDY
        go_wp2_with fail
        (with_reducible refine (HPA.out _ _ _ _ S.out.dev B2.out).mono ?_)
        rintro r w11 ⟨nv, rfl, rw1, b11⟩
        obtain ⟨⟨na, nc, rfl⟩, n2, _⟩ := row_all31 rw1
        rw [CU.out, HE1.out] at n2 ⊢
        have S11 := Lib.hid (S.out.next b11); have NV := Lib.hid n2
        clear rw1 b11 n2 d0 d1 S
        go_wp2_with fail
        (with_reducible refine (HS1.out _ _ _ NV.out S11.out.k1.rd).mono ?_)
        rintro r w12 ⟨rfl, b12⟩
        have S12 := Lib.hid (S11.out.next b12)
        clear b12 S11 NV
        go_wp2_with fail
        go_ret
        exact ⟨rfl, S12.out.bel⟩
  · have hq : (e != 0) = true := by simp; exact he0
    go_wp2_with fail
    go_ret
    exact ⟨rfl, R3.out.bel⟩
end
end Go.Proofs.Ytpkilmnppdbnkaa
