/- The walk of BucketIsMap. Printed by wip/genmap.py. -/
import Derived.Test.YtpkilmnppdbnkaaBkMp
namespace Go.Proofs.Ytpkilmnppdbnkaa
open Go.RowKit Go.Maps

theorem keyed31 : Keyed Try.prog 27 := int_keyed Try.underlying27
abbrev OwnM (w : World) (mb n : Nat) (N : DataW Unit) : Prop := w.ownsMap Try.prog 27 (plainElem Try.prog 27) mb n N
section
variable {w : World} {mb n : Nat} {N : DataW Unit} {C : Nat → Int} {off : Nat}
theorem key31 (k : Nat) (hk : k < 18446744073709551616) : keyOf Try.prog 27 (.int .u64 (k : Int)) = some (.int .u64 (k : Int)) := keyOf_int_mk Try.underlying27 (WalkArith.wf_u64 (by omega))
theorem elem31 (k : Nat) (hk : k < 18446744073709551616) : plainElem (H := Unit) Try.prog 27 (.int .u64 (k : Int)) = some (.lit (.int .u64 (k : Int)), []) := plainElem_int Try.underlying27 (WalkArith.wf_u64 (by omega))
theorem map_look31 (h : OwnM w mb n N) (hm : MapOf N C off) (k : Nat) (hk : k < 18446744073709551616) :
    (Instr.lookup 35 (.map (some mb)) (.int .u64 (k : Int)) true).run Try.prog w = .ok (.tuple #[.int .u64 (getV C off k), .bool (inB C off k)]) w := by
  have hz : (zeroValue 27).run Try.prog w = .ok (.int .u64 0) w := by kernel_rfl
  obtain ⟨v, ps, hr, hv⟩ := h.look_ok keyed31 Try.underlying35 hz (elem31 0 (by omega)) (key31 k hk)
  rw [hm.has k hk] at hr
  rw [show ((0 : Nat) : Int) = 0 from rfl, hm.val k hk] at hv
  obtain ⟨c, rfl, hc, _⟩ := plainElem_int_inv Try.underlying27 hv
  have e : getV C off k = c := by
    have := congrArg Prod.fst hc
    simpa using this
  rw [e]; exact hr
theorem map_len31 (h : OwnM w mb n N) (hm : MapOf N C off) (ty : TypeId) : (Builtin.len_ #[35] ty #[.map (some mb)]).run Try.prog w = .ok (.int .i64 (cntN (bkH C off) : Nat)) w := by
  have := h.len Try.underlying35 ty
  rw [hm.size] at this
  exact this
theorem owns_at {w' : World} (h : OwnM w mb n N) (hb : w'.heap[mb]? = w.heap[mb]?) : OwnM w' mb n N := by
  unfold OwnM World.ownsMap at *
  obtain ⟨es, clock, h1, h2⟩ := h
  exact ⟨es, clock, hb.trans h1, h2⟩
end
/-- The law's state: a bucket, a Go map, the call's box. -/
structure MpS (w0 : World) (v : DV) (own : Nat → Option Role) (D : Dev) (y : Nat) (C : Nat → Int) (off bl mb n : Nat) (N : DataW Unit) (wx : World) : Prop where
  l : LSt31 w0 v own D 4 y C off bl wx
  m : OwnM wx mb n N
  fm : own mb = none
  lm : w0.heap.size ≤ mb
  nb : bl ≠ mb
section
variable {w0 wx wy : World} {v : DV} {own own' : Nat → Option Role} {D D' : Dev} {y y' : Nat} {C C' : Nat → Int} {off bl mb n n' : Nat} {N N' : DataW Unit}
theorem MpS.next (h : MpS w0 v own D y C off bl mb n N wx) (hb : Below wx.heap.size wx wy) : MpS w0 v own D y C off bl mb n N wy := ⟨h.l.next hb, owns_at h.m (hb.block mb h.m.lt), h.fm, h.lm, h.nb⟩
theorem MpS.step (h : MpS w0 v own D y C off bl mb n N wx) (hs : BSt wy v own' D' 4 y' C' off) (ho : ∀ k, k < wx.heap.size → own' k = own k) (hu : Upd (fun k => own k ≠ none) wx wy) : MpS w0 v own' D' y' C' off bl mb n N wy :=
  ⟨h.l.step hs ho hu, owns_at h.m (hu.block mb h.m.lt (by rw [h.fm]; simp)), by rw [ho _ h.m.lt]; exact h.fm, h.lm, h.nb⟩
theorem turn_upd (ht : wx.mapTurned wy mb) : Upd (fun k => k = mb) wx wy := (Upd.refl _ _).grown ht.grown (fun k hk _ => by cases hk; rfl)
theorem MpS.turn (h : MpS w0 v own D y C off bl mb n N wx) (hm : OwnM wy mb n' N') (ht : wx.mapTurned wy mb) : MpS w0 v own D y C off bl mb n' N' wy := by
  have hu := turn_upd ht
  refine ⟨⟨⟨h.l.st.dev.upd hu (fun k hk e => ?_), h.l.st.cl, h.l.st.inv, h.l.st.h8, h.l.st.hl⟩, h.l.ob, h.l.box.upd hu h.nb, h.l.free, ?_⟩, hm, h.fm, h.lm, h.nb⟩
  · rw [e, h.fm] at hk; exact hk rfl
  · refine ⟨hu.os.trans h.l.bel.os, hu.tape.trans h.l.bel.tape, hu.output.trans h.l.bel.output, Nat.le_trans h.l.bel.size hu.size, fun k hk => ?_⟩
    rw [hu.block k (Nat.lt_of_lt_of_le hk h.l.bel.size) (fun e => by have := h.lm; omega)]
    exact h.l.bel.block k hk
theorem MpS.mono {n2 y2 : Nat} (h : MpS w0 v own D y C off bl mb n N wx) (hn : n ≤ n2) (hy : y ≤ y2) : MpS w0 v own D y2 C off bl mb n2 N wx := ⟨⟨h.l.st.mono31 hy, h.l.ob, h.l.box, h.l.free, h.l.bel⟩, h.m.mono hn, h.fm, h.lm, h.nb⟩
/-- .. with the call's box. -/
structure MpO (w0 : World) (v : DV) (own : Nat → Option Role) (D : Dev) (y : Nat) (C : Nat → Int) (off bl mb n : Nat) (N : DataW Unit) (ob : Nat) (c : Array Value) (wx : World) : Prop where
  s : MpS w0 v own D y C off bl mb n N wx
  b : Blk wx ob c 37
  fo : own ob = none
  no : ob ≠ mb
variable {ob : Nat} {c : Array Value}
theorem MpO.next (h : MpO w0 v own D y C off bl mb n N ob c wx) (hb : Below wx.heap.size wx wy) : MpO w0 v own D y C off bl mb n N ob c wy := ⟨h.s.next hb, h.b.below hb, h.fo, h.no⟩
theorem MpO.step (h : MpO w0 v own D y C off bl mb n N ob c wx) (hs : BSt wy v own' D' 4 y' C' off) (ho : ∀ k, k < wx.heap.size → own' k = own k) (hu : Upd (fun k => own k ≠ none) wx wy) : MpO w0 v own' D' y' C' off bl mb n N ob c wy :=
  ⟨h.s.step hs ho hu, h.b.upd hu (by rw [h.fo]; simp), by rw [ho _ h.b.lt]; exact h.fo, h.no⟩
theorem MpO.turn (h : MpO w0 v own D y C off bl mb n N ob c wx) (hm : OwnM wy mb n' N') (ht : wx.mapTurned wy mb) : MpO w0 v own D y C off bl mb n' N' ob c wy := ⟨h.s.turn hm ht, h.b.upd (turn_upd ht) h.no, h.fo, h.no⟩
theorem full31 (C : Nat → Int) (off k : Nat) (x : Int) (h : putE C off k ≠ 0) : putE C off k = 4 ∧ putC C off k x = C ∧ inB C off k = false ∧ cntN (bkH C off) = 7 := by
  unfold putE putC inB at *
  by_cases h1 : 0 ≤ fstK (rfB C off k) 7
  · rw [if_pos h1] at h; exact (h rfl).elim
  · rw [if_neg h1] at h ⊢
    rw [if_neg h1]
    by_cases h2 : 0 ≤ freI (bkH C off)
    · rw [if_pos h2] at h; exact (h rfl).elim
    · rw [if_neg h2, if_neg h2]
      refine ⟨rfl, rfl, by simpa using h1, ?_⟩
      rcases fre_cases (bkH C off) with ⟨_, hf⟩ | ⟨s, e, _, _⟩
      · exact cnt_full _ hf
      · omega
end
section
variable {w : World}
set_option maxRecDepth 100000 in
set_option maxHeartbeats 16000000 in
theorem bucketIsMap_any (b n : Nat) (hb : b < 256) (sv : Value) (xs : List Value) (hs : RdSl w 3 sv n xs) (hn : n ≤ maxLen) (hop : ∀ i, i < n → OpAt xs i) :
    Calls Try.prog 3 #[.int .u8 b, sv] w fun r w' => r = .returned (.bool true) ∧ Below w.heap.size w w' := by
  unfold maxLen at hn
  obtain ⟨_, a, ca, rfl, hca, ha⟩ := hs
  have HAA := Lib.hid ha; have HOP := Lib.hid hop
  clear ha hop
  have HAW := Lib.hid (fun wx => awake31 (w := wx))
  have HMD := Lib.hid (fun wx => made31 (w := wx) b hb)
  have h8 : 8 * (b % 17) % 8 = 0 := by omega
  have hl : 8 * (b % 17) + 128 ≤ 256 := by omega
  generalize 8 * (b % 17) = off at *
  go_enter Try.func3, Try.ntmps3
  go_wp2_with fail
  (with_reducible refine (HAW.out _).mono ?_)
  rintro e w1 ⟨rfl, b1⟩
  have B1 := Lib.hid b1
  clear b1 HAW
  go_wp2_with fail
  (with_reducible refine (HMD.out _).mono ?_)
  rintro e w2 ⟨v, own, rfl, d, o, b2⟩
  have S0 : Hid (MpS w v own (Dev.fresh 4 (fun _ => 0)) 0 (fun _ => 0) off w2.heap.size (w2.heap.size + 1 + 1) 0 (.map []) (((w2.alloc (.cells #[.iface 56 (.pointer (some ⟨v.tb 0, 0, none⟩)), .int .u64 off] 29)).alloc (.cells (refC (fun _ => 0) off) 32)).alloc (.map #[] 0))) := by
    have hl0 := (LSt31.start (w0 := w) ⟨d, BCl.fresh (fun _ => by omega) 4, BInv.zero _ (fun _ => by omega) rfl, h8, by omega⟩ (fun k hk => Nat.le_trans B1.out.size (o k hk)) (B1.out.trans (b2.mono B1.out.size))).next ((below_alloc _ (.cells (refC (fun _ => 0) off) 32)).trans ((below_alloc _ (.map #[] 0)).mono (by simp)))
    have hm := World.ownsMap_made (H := Unit) ((w2.alloc (.cells #[.iface 56 (.pointer (some ⟨v.tb 0, 0, none⟩)), .int .u64 off] 29)).alloc (.cells (refC (fun _ => 0) off) 32)) Try.prog 27 (plainElem Try.prog 27)
    rw [World.size_alloc, World.size_alloc] at hm
    refine ⟨hl0, hm, ?_, by have := B1.out.size; have := b2.size; omega, by omega⟩
    cases e : own (w2.heap.size + 1 + 1) with
    | none => rfl
    | some r => have := d.lt (w2.heap.size + 1 + 1) (by rw [e]; simp); omega
  have M0 := Lib.hid (MapOf.start off)
  clear d o b2 HMD B1
  dsimp only [refC]
  have hmm := @run_makeMap Try.prog
  go_wp2_with fail
  clear hmm
  generalize hwv : World.alloc (World.alloc (World.alloc w2 _) _) _ = w3 at S0
  have hwv2 := hwv
  dsimp only [refC] at hwv2
  rw [hwv2]
  clear hwv hwv2
  generalize w2.heap.size + 1 + 1 = mb at *
  generalize hxb : w2.heap.size + 1 = xb at *
  generalize w2.heap.size = bl at *
  clear hxb
  go_loopw [29] (fun z wr => ∃ i : Nat, i ≤ n ∧ i ≤ 60 ∧ z = .int .i64 i ∧ ∃ own D C N, MpS w v own D (9 * i) C off bl mb i N wr ∧ MapOf N C off) (fun z _ => n - (intOf z).toNat)
  case atStart => exact ⟨0, by omega, by omega, rfl, _, _, _, _, S0.out, M0.out⟩
  case round =>
    obtain ⟨i, hi, hi6, rfl, own, D, C, N, hs, hm⟩ := hrel
    have R := Lib.hid hs; have HM := Lib.hid hm
    clear hs hm S0 M0
    by_cases hlt : i < n
    · have hi1 : (i : Int) < n := by omega
      obtain ⟨ab, aq, o, k, x, rfl, c0, c1, c2, b0, b1, b2⟩ := op_now HAA.out (HOP.out i hlt) R.out.l.bel
      by_cases h60 : i = 60
      · have hq : ((i : Int) == 60) = true := by simp; omega
        clear h60
        go_wp2_with fail
        have R4 := Lib.hid (R.out.next (below_alloc wr (.cells #[.int .u8 o, .int .u64 k, .int .u64 x] 37)))
        go_ret
        exact ⟨rfl, R4.out.l.bel⟩
      have hi7 : i < 60 := by omega
      have hq : ((i : Int) == 60) = false := by simp; omega
      have R4 : Hid (MpO w v own D (9 * i) C off bl mb i N wr.heap.size #[.int .u8 o, .int .u64 k, .int .u64 x] (wr.alloc (.cells #[.int .u8 o, .int .u64 k, .int .u64 x] 37))) := ⟨R.out.next (below_alloc _ _), Blk.new _ _ _, (by
        cases e : own wr.heap.size with
        | none => rfl
        | some r => have := R.out.l.st.dev.lt wr.heap.size (by rw [e]; simp); omega), by have := R.out.m.lt; omega⟩
      have hlk := map_look31 R4.out.s.m HM.out k b1
      have hinv := R.out.l.st.inv
      obtain ⟨th, hth⟩ : ∃ t, inB C off k = t := ⟨_, rfl⟩
      obtain ⟨gv0, hgv0⟩ : ∃ t, getV C off k = t := ⟨_, rfl⟩
      rw [hth, hgv0] at hlk
      have HKY := Lib.hid (key31 k b1); have HEL := Lib.hid (elem31 x b2)
      have d0 := R4.out.s.l.box.cell (i := 0) (v := .iface 56 (.pointer (some ⟨v.tb 0, 0, none⟩))) rfl
      have d1 := R4.out.s.l.box.cell (i := 1) (v := .int .u64 off) rfl
      clear h60 R hgv0
      by_cases h1 : o % 3 = 1
      · have hm3 : ((o : Int) % 3 == 1) = true := by simp; omega
        have hdl := R4.out.s.l.st.del k b1 (by omega)
        have M6 := Lib.hid (HM.out.del hinv b1)
        rw [delE_eq, hth] at hdl
        obtain ⟨C', hC'⟩ : ∃ C', delC C off k = C' := ⟨_, rfl⟩
        rw [hC'] at hdl M6
        have HDL := Lib.hid hdl
        clear hdl hC' hth hinv HM h1
        cases th
        · have f0 := R4.out.b.cell (i := 0) (v := .int .u8 o) rfl
          have f1 := R4.out.b.cell (i := 1) (v := .int .u64 k) rfl
          have f2 := R4.out.b.cell (i := 2) (v := .int .u64 x) rfl
          go_wp2_with fail
          clear d0 d1 f0 f1 f2 hlk
          (with_reducible refine HDL.out.mono ?_)
          rintro e w5 ⟨rfl, own', D', s5, o5, u5⟩
          have R5 := Lib.hid (R4.out.step s5 o5 u5)
          clear s5 o5 u5 R4 HDL
          have d0 := R5.out.s.l.box.cell (i := 0) (v := .iface 56 (.pointer (some ⟨v.tb 0, 0, none⟩))) rfl
          have d1 := R5.out.s.l.box.cell (i := 1) (v := .int .u64 off) rfl
          have f0 := R5.out.b.cell (i := 0) (v := .int .u8 o) rfl
          have f1 := R5.out.b.cell (i := 1) (v := .int .u64 k) rfl
          have f2 := R5.out.b.cell (i := 2) (v := .int .u64 x) rfl
          go_wp2_with (at_delete; refine wpList_delete_own _ rfl _ _ 35 27 rfl 27 keyed31 Try.underlying35 _ mb i N rfl R5.out.s.m _ _ rfl HKY.out ?_)
          clear d0 d1 f0 f1 f2
          intro w6 m6 t6
          have R6 := Lib.hid (R5.out.turn m6 t6)
          clear m6 t6 R5
          have hget := fun (wx : World) (h : BSt wx v own' D' 4 (9 * i + 9) C' off) => h.get k b1
          have hcnt := fun (wx : World) (h : BSt wx v own' D' 4 (9 * i + 9) C' off) => h.count
          rw [getE_eq] at hget
          obtain ⟨gv, hgv⟩ : ∃ t, getV C' off k = t := ⟨_, rfl⟩
          obtain ⟨ib, hib⟩ : ∃ t, inB C' off k = t := ⟨_, rfl⟩
          obtain ⟨cn, hcn⟩ : ∃ t, cntN (bkH C' off) = t := ⟨_, rfl⟩
          rw [hgv, hib] at hget
          rw [hcn] at hcnt
          have HGT := Lib.hid hget; have HCT := Lib.hid hcnt
          have hne : (gv != gv) = false := by simp
          have hnc : ((cn : Int) != (cn : Int)) = false := by simp
          clear hget hcnt
          cases ib
          · have d0 := R6.out.s.l.box.cell (i := 0) (v := .iface 56 (.pointer (some ⟨v.tb 0, 0, none⟩))) rfl
            have d1 := R6.out.s.l.box.cell (i := 1) (v := .int .u64 off) rfl
            have f0 := R6.out.b.cell (i := 0) (v := .int .u8 o) rfl
            have f1 := R6.out.b.cell (i := 1) (v := .int .u64 k) rfl
            have f2 := R6.out.b.cell (i := 2) (v := .int .u64 x) rfl
            go_wp2_with fail
            clear d0 d1 f0 f1 f2
            (with_reducible refine (HGT.out _ R6.out.s.l.st).mono ?_)
            rintro e w20 ⟨rfl, b⟩
            have R7 := Lib.hid (R6.out.next b)
            clear b HGT
            have hlk2 := map_look31 R7.out.s.m M6.out k b1
            rw [hgv, hib] at hlk2
            have d0 := R7.out.s.l.box.cell (i := 0) (v := .iface 56 (.pointer (some ⟨v.tb 0, 0, none⟩))) rfl
            have d1 := R7.out.s.l.box.cell (i := 1) (v := .int .u64 off) rfl
            have f0 := R7.out.b.cell (i := 0) (v := .int .u8 o) rfl
            have f1 := R7.out.b.cell (i := 1) (v := .int .u64 k) rfl
            have f2 := R7.out.b.cell (i := 2) (v := .int .u64 x) rfl
            go_wp2_with fail
            clear d0 d1 f0 f1 f2
            (with_reducible refine (HCT.out _ R7.out.s.l.st).mono ?_)
            rintro e w21 ⟨rfl, b⟩
            have R8 := Lib.hid (R7.out.next b)
            clear b HCT hlk2
            have hln := map_len31 R8.out.s.m M6.out
            rw [hcn] at hln
            go_wp2_with fail
            go_roundw
            case rel => exact ⟨i + 1, by omega, by omega, by go_num, _, _, _, _, R8.out.s.mono (by omega) (by omega), M6.out⟩
            case measure => simp [intOf]; omega
          · have d0 := R6.out.s.l.box.cell (i := 0) (v := .iface 56 (.pointer (some ⟨v.tb 0, 0, none⟩))) rfl
            have d1 := R6.out.s.l.box.cell (i := 1) (v := .int .u64 off) rfl
            have f0 := R6.out.b.cell (i := 0) (v := .int .u8 o) rfl
            have f1 := R6.out.b.cell (i := 1) (v := .int .u64 k) rfl
            have f2 := R6.out.b.cell (i := 2) (v := .int .u64 x) rfl
            go_wp2_with fail
            clear d0 d1 f0 f1 f2
            (with_reducible refine (HGT.out _ R6.out.s.l.st).mono ?_)
            rintro e w20 ⟨rfl, b⟩
            have R7 := Lib.hid (R6.out.next b)
            clear b HGT
            have hlk2 := map_look31 R7.out.s.m M6.out k b1
            rw [hgv, hib] at hlk2
            have d0 := R7.out.s.l.box.cell (i := 0) (v := .iface 56 (.pointer (some ⟨v.tb 0, 0, none⟩))) rfl
            have d1 := R7.out.s.l.box.cell (i := 1) (v := .int .u64 off) rfl
            have f0 := R7.out.b.cell (i := 0) (v := .int .u8 o) rfl
            have f1 := R7.out.b.cell (i := 1) (v := .int .u64 k) rfl
            have f2 := R7.out.b.cell (i := 2) (v := .int .u64 x) rfl
            go_wp2_with fail
            clear d0 d1 f0 f1 f2
            (with_reducible refine (HCT.out _ R7.out.s.l.st).mono ?_)
            rintro e w21 ⟨rfl, b⟩
            have R8 := Lib.hid (R7.out.next b)
            clear b HCT hlk2
            have hln := map_len31 R8.out.s.m M6.out
            rw [hcn] at hln
            go_wp2_with fail
            go_roundw
            case rel => exact ⟨i + 1, by omega, by omega, by go_num, _, _, _, _, R8.out.s.mono (by omega) (by omega), M6.out⟩
            case measure => simp [intOf]; omega
        · have f0 := R4.out.b.cell (i := 0) (v := .int .u8 o) rfl
          have f1 := R4.out.b.cell (i := 1) (v := .int .u64 k) rfl
          have f2 := R4.out.b.cell (i := 2) (v := .int .u64 x) rfl
          go_wp2_with fail
          clear d0 d1 f0 f1 f2 hlk
          (with_reducible refine HDL.out.mono ?_)
          rintro e w5 ⟨rfl, own', D', s5, o5, u5⟩
          have R5 := Lib.hid (R4.out.step s5 o5 u5)
          clear s5 o5 u5 R4 HDL
          have d0 := R5.out.s.l.box.cell (i := 0) (v := .iface 56 (.pointer (some ⟨v.tb 0, 0, none⟩))) rfl
          have d1 := R5.out.s.l.box.cell (i := 1) (v := .int .u64 off) rfl
          have f0 := R5.out.b.cell (i := 0) (v := .int .u8 o) rfl
          have f1 := R5.out.b.cell (i := 1) (v := .int .u64 k) rfl
          have f2 := R5.out.b.cell (i := 2) (v := .int .u64 x) rfl
          go_wp2_with (at_delete; refine wpList_delete_own _ rfl _ _ 35 27 rfl 27 keyed31 Try.underlying35 _ mb i N rfl R5.out.s.m _ _ rfl HKY.out ?_)
          clear d0 d1 f0 f1 f2
          intro w6 m6 t6
          have R6 := Lib.hid (R5.out.turn m6 t6)
          clear m6 t6 R5
          have hget := fun (wx : World) (h : BSt wx v own' D' 4 (9 * i + 9) C' off) => h.get k b1
          have hcnt := fun (wx : World) (h : BSt wx v own' D' 4 (9 * i + 9) C' off) => h.count
          rw [getE_eq] at hget
          obtain ⟨gv, hgv⟩ : ∃ t, getV C' off k = t := ⟨_, rfl⟩
          obtain ⟨ib, hib⟩ : ∃ t, inB C' off k = t := ⟨_, rfl⟩
          obtain ⟨cn, hcn⟩ : ∃ t, cntN (bkH C' off) = t := ⟨_, rfl⟩
          rw [hgv, hib] at hget
          rw [hcn] at hcnt
          have HGT := Lib.hid hget; have HCT := Lib.hid hcnt
          have hne : (gv != gv) = false := by simp
          have hnc : ((cn : Int) != (cn : Int)) = false := by simp
          clear hget hcnt
          cases ib
          · have d0 := R6.out.s.l.box.cell (i := 0) (v := .iface 56 (.pointer (some ⟨v.tb 0, 0, none⟩))) rfl
            have d1 := R6.out.s.l.box.cell (i := 1) (v := .int .u64 off) rfl
            have f0 := R6.out.b.cell (i := 0) (v := .int .u8 o) rfl
            have f1 := R6.out.b.cell (i := 1) (v := .int .u64 k) rfl
            have f2 := R6.out.b.cell (i := 2) (v := .int .u64 x) rfl
            go_wp2_with fail
            clear d0 d1 f0 f1 f2
            (with_reducible refine (HGT.out _ R6.out.s.l.st).mono ?_)
            rintro e w20 ⟨rfl, b⟩
            have R7 := Lib.hid (R6.out.next b)
            clear b HGT
            have hlk2 := map_look31 R7.out.s.m M6.out k b1
            rw [hgv, hib] at hlk2
            have d0 := R7.out.s.l.box.cell (i := 0) (v := .iface 56 (.pointer (some ⟨v.tb 0, 0, none⟩))) rfl
            have d1 := R7.out.s.l.box.cell (i := 1) (v := .int .u64 off) rfl
            have f0 := R7.out.b.cell (i := 0) (v := .int .u8 o) rfl
            have f1 := R7.out.b.cell (i := 1) (v := .int .u64 k) rfl
            have f2 := R7.out.b.cell (i := 2) (v := .int .u64 x) rfl
            go_wp2_with fail
            clear d0 d1 f0 f1 f2
            (with_reducible refine (HCT.out _ R7.out.s.l.st).mono ?_)
            rintro e w21 ⟨rfl, b⟩
            have R8 := Lib.hid (R7.out.next b)
            clear b HCT hlk2
            have hln := map_len31 R8.out.s.m M6.out
            rw [hcn] at hln
            go_wp2_with fail
            go_roundw
            case rel => exact ⟨i + 1, by omega, by omega, by go_num, _, _, _, _, R8.out.s.mono (by omega) (by omega), M6.out⟩
            case measure => simp [intOf]; omega
          · have d0 := R6.out.s.l.box.cell (i := 0) (v := .iface 56 (.pointer (some ⟨v.tb 0, 0, none⟩))) rfl
            have d1 := R6.out.s.l.box.cell (i := 1) (v := .int .u64 off) rfl
            have f0 := R6.out.b.cell (i := 0) (v := .int .u8 o) rfl
            have f1 := R6.out.b.cell (i := 1) (v := .int .u64 k) rfl
            have f2 := R6.out.b.cell (i := 2) (v := .int .u64 x) rfl
            go_wp2_with fail
            clear d0 d1 f0 f1 f2
            (with_reducible refine (HGT.out _ R6.out.s.l.st).mono ?_)
            rintro e w20 ⟨rfl, b⟩
            have R7 := Lib.hid (R6.out.next b)
            clear b HGT
            have hlk2 := map_look31 R7.out.s.m M6.out k b1
            rw [hgv, hib] at hlk2
            have d0 := R7.out.s.l.box.cell (i := 0) (v := .iface 56 (.pointer (some ⟨v.tb 0, 0, none⟩))) rfl
            have d1 := R7.out.s.l.box.cell (i := 1) (v := .int .u64 off) rfl
            have f0 := R7.out.b.cell (i := 0) (v := .int .u8 o) rfl
            have f1 := R7.out.b.cell (i := 1) (v := .int .u64 k) rfl
            have f2 := R7.out.b.cell (i := 2) (v := .int .u64 x) rfl
            go_wp2_with fail
            clear d0 d1 f0 f1 f2
            (with_reducible refine (HCT.out _ R7.out.s.l.st).mono ?_)
            rintro e w21 ⟨rfl, b⟩
            have R8 := Lib.hid (R7.out.next b)
            clear b HCT hlk2
            have hln := map_len31 R8.out.s.m M6.out
            rw [hcn] at hln
            go_wp2_with fail
            go_roundw
            case rel => exact ⟨i + 1, by omega, by omega, by go_num, _, _, _, _, R8.out.s.mono (by omega) (by omega), M6.out⟩
            case measure => simp [intOf]; omega
      · have hm3 : ((o : Int) % 3 == 1) = false := by simp; omega
        have hpt := R4.out.s.l.st.put k b1 (x : Int) (by omega) (by omega)
        by_cases he : putE C off k = 0
        · have M6 := Lib.hid (HM.out.put hinv b1 b2 he)
          rw [he] at hpt
          obtain ⟨C', hC'⟩ : ∃ C', putC C off k x = C' := ⟨_, rfl⟩
          rw [hC'] at hpt M6
          have HPT := Lib.hid hpt
          clear hpt hC' hth hinv HM h1 he
          have f0 := R4.out.b.cell (i := 0) (v := .int .u8 o) rfl
          have f1 := R4.out.b.cell (i := 1) (v := .int .u64 k) rfl
          have f2 := R4.out.b.cell (i := 2) (v := .int .u64 x) rfl
          go_wp2_with fail
          clear d0 d1 f0 f1 f2 hlk
          (with_reducible refine HPT.out.mono ?_)
          rintro e w5 ⟨rfl, own', D', s5, o5, u5⟩
          have R5 := Lib.hid (R4.out.step s5 o5 u5)
          clear s5 o5 u5 R4 HPT
          have d0 := R5.out.s.l.box.cell (i := 0) (v := .iface 56 (.pointer (some ⟨v.tb 0, 0, none⟩))) rfl
          have d1 := R5.out.s.l.box.cell (i := 1) (v := .int .u64 off) rfl
          have f0 := R5.out.b.cell (i := 0) (v := .int .u8 o) rfl
          have f1 := R5.out.b.cell (i := 1) (v := .int .u64 k) rfl
          have f2 := R5.out.b.cell (i := 2) (v := .int .u64 x) rfl
          go_wp2_with (at_mapUpdate; refine wpList_mapUpdate_in _ rfl _ _ _ 35 rfl 27 27 keyed31 Try.underlying35 _ mb i N rfl R5.out.s.m (by unfold maxLen; omega) _ _ _ rfl rfl HKY.out _ [] HEL.out ?_)
          clear d0 d1 f0 f1 f2
          intro w6 m6 t6
          have R6 := Lib.hid (R5.out.turn m6 t6)
          clear m6 t6 R5
          have hget := fun (wx : World) (h : BSt wx v own' D' 4 (9 * i + 9) C' off) => h.get k b1
          have hcnt := fun (wx : World) (h : BSt wx v own' D' 4 (9 * i + 9) C' off) => h.count
          rw [getE_eq] at hget
          obtain ⟨gv, hgv⟩ : ∃ t, getV C' off k = t := ⟨_, rfl⟩
          obtain ⟨ib, hib⟩ : ∃ t, inB C' off k = t := ⟨_, rfl⟩
          obtain ⟨cn, hcn⟩ : ∃ t, cntN (bkH C' off) = t := ⟨_, rfl⟩
          rw [hgv, hib] at hget
          rw [hcn] at hcnt
          have HGT := Lib.hid hget; have HCT := Lib.hid hcnt
          have hne : (gv != gv) = false := by simp
          have hnc : ((cn : Int) != (cn : Int)) = false := by simp
          clear hget hcnt
          cases ib
          · have d0 := R6.out.s.l.box.cell (i := 0) (v := .iface 56 (.pointer (some ⟨v.tb 0, 0, none⟩))) rfl
            have d1 := R6.out.s.l.box.cell (i := 1) (v := .int .u64 off) rfl
            have f0 := R6.out.b.cell (i := 0) (v := .int .u8 o) rfl
            have f1 := R6.out.b.cell (i := 1) (v := .int .u64 k) rfl
            have f2 := R6.out.b.cell (i := 2) (v := .int .u64 x) rfl
            go_wp2_with fail
            clear d0 d1 f0 f1 f2
            (with_reducible refine (HGT.out _ R6.out.s.l.st).mono ?_)
            rintro e w20 ⟨rfl, b⟩
            have R7 := Lib.hid (R6.out.next b)
            clear b HGT
            have hlk2 := map_look31 R7.out.s.m M6.out k b1
            rw [hgv, hib] at hlk2
            have d0 := R7.out.s.l.box.cell (i := 0) (v := .iface 56 (.pointer (some ⟨v.tb 0, 0, none⟩))) rfl
            have d1 := R7.out.s.l.box.cell (i := 1) (v := .int .u64 off) rfl
            have f0 := R7.out.b.cell (i := 0) (v := .int .u8 o) rfl
            have f1 := R7.out.b.cell (i := 1) (v := .int .u64 k) rfl
            have f2 := R7.out.b.cell (i := 2) (v := .int .u64 x) rfl
            go_wp2_with fail
            clear d0 d1 f0 f1 f2
            (with_reducible refine (HCT.out _ R7.out.s.l.st).mono ?_)
            rintro e w21 ⟨rfl, b⟩
            have R8 := Lib.hid (R7.out.next b)
            clear b HCT hlk2
            have hln := map_len31 R8.out.s.m M6.out
            rw [hcn] at hln
            go_wp2_with fail
            go_roundw
            case rel => exact ⟨i + 1, by omega, by omega, by go_num, _, _, _, _, R8.out.s.mono (by omega) (by omega), M6.out⟩
            case measure => simp [intOf]; omega
          · have d0 := R6.out.s.l.box.cell (i := 0) (v := .iface 56 (.pointer (some ⟨v.tb 0, 0, none⟩))) rfl
            have d1 := R6.out.s.l.box.cell (i := 1) (v := .int .u64 off) rfl
            have f0 := R6.out.b.cell (i := 0) (v := .int .u8 o) rfl
            have f1 := R6.out.b.cell (i := 1) (v := .int .u64 k) rfl
            have f2 := R6.out.b.cell (i := 2) (v := .int .u64 x) rfl
            go_wp2_with fail
            clear d0 d1 f0 f1 f2
            (with_reducible refine (HGT.out _ R6.out.s.l.st).mono ?_)
            rintro e w20 ⟨rfl, b⟩
            have R7 := Lib.hid (R6.out.next b)
            clear b HGT
            have hlk2 := map_look31 R7.out.s.m M6.out k b1
            rw [hgv, hib] at hlk2
            have d0 := R7.out.s.l.box.cell (i := 0) (v := .iface 56 (.pointer (some ⟨v.tb 0, 0, none⟩))) rfl
            have d1 := R7.out.s.l.box.cell (i := 1) (v := .int .u64 off) rfl
            have f0 := R7.out.b.cell (i := 0) (v := .int .u8 o) rfl
            have f1 := R7.out.b.cell (i := 1) (v := .int .u64 k) rfl
            have f2 := R7.out.b.cell (i := 2) (v := .int .u64 x) rfl
            go_wp2_with fail
            clear d0 d1 f0 f1 f2
            (with_reducible refine (HCT.out _ R7.out.s.l.st).mono ?_)
            rintro e w21 ⟨rfl, b⟩
            have R8 := Lib.hid (R7.out.next b)
            clear b HCT hlk2
            have hln := map_len31 R8.out.s.m M6.out
            rw [hcn] at hln
            go_wp2_with fail
            go_roundw
            case rel => exact ⟨i + 1, by omega, by omega, by go_num, _, _, _, _, R8.out.s.mono (by omega) (by omega), M6.out⟩
            case measure => simp [intOf]; omega
        · obtain ⟨e1, e2, e3, e4⟩ := full31 C off k (x : Int) he
          rw [e1, e2] at hpt
          rw [hth] at e3
          subst e3
          have HPT := Lib.hid hpt
          clear hpt hinv h1 he e1 e2 hth
          have f0 := R4.out.b.cell (i := 0) (v := .int .u8 o) rfl
          have f1 := R4.out.b.cell (i := 1) (v := .int .u64 k) rfl
          have f2 := R4.out.b.cell (i := 2) (v := .int .u64 x) rfl
          go_wp2_with fail
          clear d0 d1 f0 f1 f2 hlk
          (with_reducible refine HPT.out.mono ?_)
          rintro e w5 ⟨rfl, own', D', s5, o5, u5⟩
          have R6 := Lib.hid (R4.out.step s5 o5 u5)
          clear s5 o5 u5 R4 HPT
          have hl7 := map_len31 R6.out.s.m HM.out
          rw [e4] at hl7
          rw [show ((7 : Nat) : Int) = 7 from rfl] at hl7
          have hget := fun (wx : World) (h : BSt wx v own' D' 4 (9 * i + 9) C off) => h.get k b1
          have hcnt := fun (wx : World) (h : BSt wx v own' D' 4 (9 * i + 9) C off) => h.count
          rw [getE_eq] at hget
          obtain ⟨gv, hgv⟩ : ∃ t, getV C off k = t := ⟨_, rfl⟩
          obtain ⟨ib, hib⟩ : ∃ t, inB C off k = t := ⟨_, rfl⟩
          obtain ⟨cn, hcn⟩ : ∃ t, cntN (bkH C off) = t := ⟨_, rfl⟩
          rw [hgv, hib] at hget
          rw [hcn] at hcnt
          have HGT := Lib.hid hget; have HCT := Lib.hid hcnt
          have hne : (gv != gv) = false := by simp
          have hnc : ((cn : Int) != (cn : Int)) = false := by simp
          clear hget hcnt
          cases ib
          · have d0 := R6.out.s.l.box.cell (i := 0) (v := .iface 56 (.pointer (some ⟨v.tb 0, 0, none⟩))) rfl
            have d1 := R6.out.s.l.box.cell (i := 1) (v := .int .u64 off) rfl
            have f0 := R6.out.b.cell (i := 0) (v := .int .u8 o) rfl
            have f1 := R6.out.b.cell (i := 1) (v := .int .u64 k) rfl
            have f2 := R6.out.b.cell (i := 2) (v := .int .u64 x) rfl
            go_wp2_with fail
            clear d0 d1 f0 f1 f2
            (with_reducible refine (HGT.out _ R6.out.s.l.st).mono ?_)
            rintro e w20 ⟨rfl, b⟩
            have R7 := Lib.hid (R6.out.next b)
            clear b HGT
            have hlk2 := map_look31 R7.out.s.m HM.out k b1
            rw [hgv, hib] at hlk2
            have d0 := R7.out.s.l.box.cell (i := 0) (v := .iface 56 (.pointer (some ⟨v.tb 0, 0, none⟩))) rfl
            have d1 := R7.out.s.l.box.cell (i := 1) (v := .int .u64 off) rfl
            have f0 := R7.out.b.cell (i := 0) (v := .int .u8 o) rfl
            have f1 := R7.out.b.cell (i := 1) (v := .int .u64 k) rfl
            have f2 := R7.out.b.cell (i := 2) (v := .int .u64 x) rfl
            go_wp2_with fail
            clear d0 d1 f0 f1 f2
            (with_reducible refine (HCT.out _ R7.out.s.l.st).mono ?_)
            rintro e w21 ⟨rfl, b⟩
            have R8 := Lib.hid (R7.out.next b)
            clear b HCT hlk2
            have hln := map_len31 R8.out.s.m HM.out
            rw [hcn] at hln
            go_wp2_with fail
            go_roundw
            case rel => exact ⟨i + 1, by omega, by omega, by go_num, _, _, _, _, R8.out.s.mono (by omega) (by omega), HM.out⟩
            case measure => simp [intOf]; omega
          · have d0 := R6.out.s.l.box.cell (i := 0) (v := .iface 56 (.pointer (some ⟨v.tb 0, 0, none⟩))) rfl
            have d1 := R6.out.s.l.box.cell (i := 1) (v := .int .u64 off) rfl
            have f0 := R6.out.b.cell (i := 0) (v := .int .u8 o) rfl
            have f1 := R6.out.b.cell (i := 1) (v := .int .u64 k) rfl
            have f2 := R6.out.b.cell (i := 2) (v := .int .u64 x) rfl
            go_wp2_with fail
            clear d0 d1 f0 f1 f2
            (with_reducible refine (HGT.out _ R6.out.s.l.st).mono ?_)
            rintro e w20 ⟨rfl, b⟩
            have R7 := Lib.hid (R6.out.next b)
            clear b HGT
            have hlk2 := map_look31 R7.out.s.m HM.out k b1
            rw [hgv, hib] at hlk2
            have d0 := R7.out.s.l.box.cell (i := 0) (v := .iface 56 (.pointer (some ⟨v.tb 0, 0, none⟩))) rfl
            have d1 := R7.out.s.l.box.cell (i := 1) (v := .int .u64 off) rfl
            have f0 := R7.out.b.cell (i := 0) (v := .int .u8 o) rfl
            have f1 := R7.out.b.cell (i := 1) (v := .int .u64 k) rfl
            have f2 := R7.out.b.cell (i := 2) (v := .int .u64 x) rfl
            go_wp2_with fail
            clear d0 d1 f0 f1 f2
            (with_reducible refine (HCT.out _ R7.out.s.l.st).mono ?_)
            rintro e w21 ⟨rfl, b⟩
            have R8 := Lib.hid (R7.out.next b)
            clear b HCT hlk2
            have hln := map_len31 R8.out.s.m HM.out
            rw [hcn] at hln
            go_wp2_with fail
            go_roundw
            case rel => exact ⟨i + 1, by omega, by omega, by go_num, _, _, _, _, R8.out.s.mono (by omega) (by omega), HM.out⟩
            case measure => simp [intOf]; omega
    · obtain rfl : i = n := by omega
      go_wp2_with fail
      go_ret
      exact ⟨rfl, R.out.l.bel⟩
end
end Go.Proofs.Ytpkilmnppdbnkaa
