/- The walks of Without and of prepare of package necessity. -/
import Derived.Test.YtahpadhejjlpoaaGreatDoorNcA
import Derived.Deep.RegionHeld3
import Derived.Laws.ByValue
namespace Go.Proofs.YtahpadhejjlpoaaGreatDoor
open Go.RowKit Go.Maps
attribute [local go_sem ↓] Go.wp_at_zero Go.wp_at_succ

section
variable {w : World} {v : DV} {own : Nat → Option Role} {D : Dev}
theorem nil_smProgram (pv : Value) (w : World) : (nilAhead 451 44 (.agg #[pv]) "Program").run Tryz.prog w = .ok (some false) w := by kernel_rfl
theorem thrZ_any (h : IsDev w v own D) : Calls Tryz.prog 13 #[.pointer (some ⟨v.db, 0, none⟩), .int .i64 0] w fun r w' => r = .returned (.pointer (some ⟨v.tb 0, 0, none⟩)) ∧ w = w' := thread_any h (j := 0) (by omega)
set_option maxRecDepth 100000 in
set_option maxHeartbeats 8000000 in
theorem mWithout_any (qv : Value) (q : List (Nat × Nat × Int)) (h : RdSl w 3 qv q.length (instrC q)) (hl : q.length ≤ 100000) (f : Int) :
    Calls Tryz.prog 24 #[qv, .int .i64 f] w fun r w' => ∃ sv, r = .returned sv ∧ Acc w w.heap.size w' 87 3 sv (woI f q 0).length (instrC (woI f q 0)) := by
  obtain ⟨i0, hi0, hz0, hz1, hz2⟩ := info_parts infoInstr
  have I := Lib.hid (And.intro hi0 (And.intro hz0 (And.intro hz1 hz2))); clear hi0 hz0 hz1 hz2
  have H := Lib.hid h
  obtain ⟨_, a, c, rfl, hc, _⟩ := h
  obtain ⟨m, hm⟩ : ∃ m, q.length = m := ⟨_, rfl⟩
  have HM := Lib.hid hm
  rw [hm] at H hl hc ⊢
  have HALL : Hid (q.take m = q) := by show q.take m = q; rw [← hm, List.take_length]
  have HWL := Lib.hid (fun k => woI_len f (q.take k) 0)
  have W0 : Hid (WoSt w f q 87 instrC 0 (.slice none 0 0) w) := ⟨Acc.nil w _ _ _ _ (Below.refl _ _) (Nat.le_refl _)⟩
  clear hm
  go_enter Tryz.func24, Tryz.ntmps24
  go_wp2_with fail
  go_loopw [5, 6, 11] (fun sv z y wr => ∃ k : Nat, k ≤ m ∧ y = .int .i64 k ∧ z = .int .i64 (fenN (q.take k) : Nat) ∧ fenN (q.take k) ≤ k ∧ WoSt w f q 87 instrC k sv wr) (fun _ _ y _ => m - (intOf y).toNat)
  case atStart => exact ⟨0, by omega, rfl, rfl, by simp [fenN], W0.out⟩
  case round =>
    clear W0
    obtain ⟨k, hk, rfl, rfl, hfk, hst⟩ := hrel
    rename World => wr
    obtain ⟨la, lc, hsv⟩ := hst.acc.slice
    subst hsv
    have S := Lib.hid hst
    clear hst
    have hwl := HWL.out k
    have htk := List.length_take_le k q
    by_cases hlt : k < m
    · have hlt' : (k : Int) < m := by omega
      obtain ⟨e, hge⟩ : ∃ e, q[k]? = some e := ⟨_, List.getElem?_eq_getElem (by rw [HM.out]; omega)⟩
      obtain ⟨_, a', c', e', _, hE⟩ := H.out.below S.out.acc.bel
      cases e'
      have hg := instrC_get q k e hge
      obtain ⟨fb, fo, rfl, hE2⟩ := rd_at hE hg.1
      have c1 := hE2 _ _ hg.1; have c2 := hE2 _ _ hg.2.1; have c3 := hE2 _ _ hg.2.2
      rw [← Nat.add_assoc] at c2 c3
      have HT : Hid (fenN (q.take (k + 1)) = fenN (q.take k) + (if e.1 = 3 then 1 else 0)) := by show fenN (q.take (k + 1)) = _; rw [List.take_add_one, hge]; exact fenN_snoc _ _
      have SK := Lib.hid (fun (h3 : e.1 = 3 ∧ (fenN (q.take k) : Int) = f) (wz : World) (hb : Below _ _ wz) => S.out.skip hge h3 hb)
      have SA := Lib.hid (fun (v : Value) (wz : World) (h3 : ¬ (e.1 = 3 ∧ (fenN (q.take k) : Int) = f)) => WoSt.add (w := w) (f := f) (t := 87) (C := instrC) (v := v) (wz := wz) (x := [.int .u8 e.1, .int .u64 e.2.1, .int .u64 e.2.2]) hge h3 (by rw [instrC_append]; rfl))
      have A2 := Lib.hid S.out.acc
      obtain ⟨e1, e2, e3⟩ := e
      simp only at c1 c2 c3 HT SK SA
      clear hE hE2 hge hg S
      obtain ⟨fn, hfn⟩ : ∃ fn, fenN (q.take k) = fn := ⟨_, rfl⟩
      rw [hfn] at HT SK SA hfk ⊢
      clear hfn
      obtain ⟨ws, hws⟩ : ∃ ws, woI f (q.take k) 0 = ws := ⟨_, rfl⟩
      rw [hws] at SA SK A2 hwl ⊢
      clear hws
      by_cases h3 : e1 = 3
      · have hb3 : ((e1 : Int) == 3) = true := by simp; omega
        rw [if_pos h3] at HT
        by_cases hff : (fn : Int) = f
        · have hbf : ((fn : Int) == f) = true := by simpa using hff
          have SK1 := Lib.hid (SK.out ⟨h3, hff⟩)
          clear SK SA h3 hff
          go_wp2_with fail
          go_roundw
          case rel => exact ⟨k + 1, by omega, by go_num, by rw [HT.out]; go_num, by rw [HT.out]; omega, SK1.out _ (below_alloc _ _)⟩
          case measure => simp [intOf]; omega
        · have hbf : ((fn : Int) == f) = false := by simpa using hff
          have SA1 := Lib.hid (fun v wz => SA.out v wz (fun hh => hff hh.2))
          clear SK SA h3 hff
          go_wp2_with (at_builtin; refine wpList_append_sl _ rfl _ _ 47 rfl 87 i0 _ 3 24 Tryz.underlying47 I.out.1 I.out.2.1 I.out.2.2.1 I.out.2.2.2 rfl (by decide) _ ws.length (instrC ws) rfl (by exact (A2.out.own.alloc _).alloc _) _ 1 [.int .u8 e1, .int .u64 e2, .int .u64 e3] rfl (by exact RdSl.newAt _ _ _ 3 1 _ (by simp) rfl) (three_one _ _ _ rfl rfl rfl) (by unfold maxLen; omega) (by omega) ?_)
          intro v1 w3 o1 g1 b1 n1
          have A3 := Lib.hid (A2.out.next (below_twice _ _ _) o1 g1 b1 (by first | simp | omega)); clear o1 g1 b1 n1
          go_wp2_with fail
          go_roundw
          case rel => exact ⟨k + 1, by omega, by go_num, by rw [HT.out]; go_num, by rw [HT.out]; omega, SA1.out _ _ A3.out⟩
          case measure => simp [intOf]; omega
      · have hb3 : ((e1 : Int) == 3) = false := by simp; omega
        rw [if_neg h3] at HT
        have SA1 := Lib.hid (fun v wz => SA.out v wz (fun hh => h3 hh.1))
        clear SK SA h3
        go_wp2_with (at_builtin; refine wpList_append_sl _ rfl _ _ 47 rfl 87 i0 _ 3 24 Tryz.underlying47 I.out.1 I.out.2.1 I.out.2.2.1 I.out.2.2.2 rfl (by decide) _ ws.length (instrC ws) rfl (by exact (A2.out.own.alloc _).alloc _) _ 1 [.int .u8 e1, .int .u64 e2, .int .u64 e3] rfl (by exact RdSl.newAt _ _ _ 3 1 _ (by simp) rfl) (three_one _ _ _ rfl rfl rfl) (by unfold maxLen; omega) (by omega) ?_)
        intro v1 w3 o1 g1 b1 n1
        have A3 := Lib.hid (A2.out.next (below_twice _ _ _) o1 g1 b1 (by first | simp | omega)); clear o1 g1 b1 n1
        go_wp2_with fail
        go_roundw
        case rel => exact ⟨k + 1, by omega, by go_num, by rw [HT.out]; go_num, by rw [HT.out]; omega, SA1.out _ _ A3.out⟩
        case measure => simp [intOf]; omega
    · obtain rfl : k = m := by omega
      go_wp2_with fail
      go_ret
      exact ⟨_, rfl, S.out.acc.congr (by rw [HALL.out]) (by rw [HALL.out])⟩
/-- What prepare answers: a new device and the program without the fence, or ErrRange. -/
def PpPost (w : World) (n : Nat) (q : List (Nat × Nat × Int)) (f : Int) (r : Ending) (w' : World) : Prop :=
  (isOf f q = false ∧ r = .returned (.tuple #[.pointer none, .slice none 0 0, .int .i64 2])) ∨
  (isOf f q = true ∧ ∃ (v : DV) (own : Nat → Option Role) (sv : Value), r = .returned (.tuple #[.pointer (some ⟨v.db, 0, none⟩), sv, .int .i64 0]) ∧ IsDev w' v own (Dev.fresh n (fun _ => 0)) ∧ RdSl w' 3 sv (qOf f q).length (instrC (qOf f q)) ∧
    (∀ k, own k ≠ none → w.heap.size ≤ k) ∧ ∀ g, sv.ownBlock = some g → own g = none)
set_option maxRecDepth 100000 in
set_option maxHeartbeats 8000000 in
theorem ncPrepare_any (pv : Value) (q : List (Nat × Nat × Int)) (h : RdSl w 3 pv q.length (refP q)) (hq : ∀ e ∈ q, 1 ≤ e.1 ∧ e.1 ≤ 3) (hpl : Plain54 q) (hl : q.length ≤ 100000) (n : Nat) (h0 : 0 < n) (hn : n ≤ 4096) (f : Int) :
    Calls Tryz.prog 9 #[.iface 44 (.agg #[pv]), .int .i64 n, .int .i64 f] w fun r w' => PpPost w n q f r w' ∧ Below w.heap.size w w' := by
  have HN := Lib.hid (new_any (w := w) n h0 hn)
  have HPG := Lib.hid (fun (wx : World) (tv : Value) (hx : RdSl wx 3 pv q.length (refP q)) => smProgram_any pv q hx hq hpl hl tv)
  have hms := meth_smSetup pv; have hmp := meth_smProgram pv; have hnl := nil_smProgram pv
  have H := Lib.hid h
  obtain ⟨_, a, c, rfl, hc, _⟩ := h
  have HFE := Lib.hid (fun (wx : World) (sv : Value) (hx : RdSl wx 3 sv q.length (instrC q)) => fences_any sv q hx hl)
  have HWO := Lib.hid (fun (wx : World) (sv : Value) (hx : RdSl wx 3 sv q.length (instrC q)) => mWithout_any sv q hx hl f)
  have HIS : Hid (isOf f q = (decide (f = -1) || decide (0 ≤ f ∧ f < fenN q))) := rfl
  have HQ1 : Hid (f = -1 → qOf f q = q) := fun e => by unfold qOf; rw [if_pos e]
  have HQ2 : Hid (f ≠ -1 → qOf f q = woI f q 0) := fun e => by unfold qOf; rw [if_neg e]
  have hfl := fenN_le q
  obtain ⟨fn, hfn⟩ : ∃ fn, fenN q = fn := ⟨_, rfl⟩
  rw [hfn] at HFE HIS hfl
  obtain ⟨m, hm⟩ : ∃ m, q.length = m := ⟨_, rfl⟩
  have HMQ : Hid (q.length = m) := hm
  rw [hm] at HPG H HFE HWO hl hc hfl hms hmp hnl ⊢
  clear hq hpl hfn hm
  go_enter Tryz.func9, Tryz.ntmps9
  go_wp2_with fail
  (with_reducible refine HN.out.mono ?_)
  rintro r w1 ⟨v, own, rfl, d1, o1, b1⟩
  have D1 := Lib.hid d1; have O1 := Lib.hid o1; have B1 := Lib.hid b1
  clear d1 o1 b1 HN
  have HSU := Lib.hid (smSetup_any (w := w1) a m c v.db)
  go_wp2_with fail
  (with_reducible refine HSU.out.mono ?_)
  rintro r w2 ⟨rfl, b2⟩
  have D2 := Lib.hid (D1.out.kept b2.size (fun k hk => b2.block k (D1.out.lt k hk)))
  have B2 := Lib.hid (B1.out.trans (b2.mono B1.out.size))
  clear b2 D1 B1 HSU
  have HTH := Lib.hid (fun (wx : World) (hx : IsDev wx v own (Dev.fresh n (fun _ => 0))) => thrZ_any hx)
  have D2d : Hid (IsDev w2.drew v own (Dev.fresh n (fun _ => 0))) := D2.out.drew
  have HP2 : Hid (∀ tv, Calls Tryz.prog 261 #[.agg #[.slice a m c], tv] w2.drew fun r w' => ∃ sv, r = .returned (.tuple #[sv, .int .i64 0]) ∧ Acc w2.drew w2.drew.heap.size w' 87 3 sv m (instrC q)) := Lib.hid (fun tv => HPG.out w2.drew tv ((H.out.below B2.out).drew))
  go_wp2_with fail
  go_region_with (first | (go_at_call 13; (with_reducible refine (HTH.out _ D2d.out).mono ?_); rintro e w' ⟨rfl, rfl⟩) | (go_at_call 261; (with_reducible refine (HP2.out _).mono ?_); rintro e w3 ⟨sv, rfl, a3⟩; have A3 := Lib.hid a3; clear a3))
  all_goals
    obtain ⟨sa, sc, hsv⟩ := A3.out.slice
    subst hsv
    have B3 : Hid (Below w.heap.size w w3) := Lib.hid ((B2.out.drew).trans (A3.out.bel.mono (by exact B2.out.size)))
    have D3 : Hid (IsDev w3 v own (Dev.fresh n (fun _ => 0))) := Lib.hid (D2d.out.kept A3.out.bel.size (fun k hk => A3.out.bel.block k (D2d.out.lt k hk)))
    have HFE1 := Lib.hid (HFE.out w3 _ A3.out.rd)
    have HON : Hid (∀ g, (Value.slice sa m sc).ownBlock = some g → own g = none) := fun g hg => by
      have h1 := A3.out.new g hg
      cases hh : own g with
      | none => rfl
      | some x => have := D2d.out.lt g (by rw [hh]; simp); omega
    by_cases hf1 : f < -1
    · have e : isOf f q = false := by rw [HIS.out, decide_eq_false (by omega), decide_eq_false (by omega)]; rfl
      go_wp2_with fail
      go_ret3
      exact ⟨.inl ⟨e, rfl⟩, B3.out⟩
    · go_wp2_with fail
      (with_reducible refine HFE1.out.mono ?_)
      rintro r w4 ⟨rfl, b4⟩
      have B4 := Lib.hid (B3.out.trans (b4.mono B3.out.size))
      have D4 := Lib.hid (D3.out.kept b4.size (fun k hk => b4.block k (D3.out.lt k hk)))
      have R4 := Lib.hid (A3.out.rd.below b4)
      clear b4
      by_cases hf2 : (fn : Int) ≤ f
      · have e : isOf f q = false := by rw [HIS.out, decide_eq_false (by omega), decide_eq_false (by omega)]; rfl
        go_wp2_with fail
        go_ret3
        exact ⟨.inl ⟨e, rfl⟩, B4.out⟩
      · by_cases hf3 : 0 ≤ f
        · have e : isOf f q = true := by rw [HIS.out, decide_eq_true (show 0 ≤ f ∧ f < (fn : Int) by omega), Bool.or_true]
          have eq := HQ2.out (by omega)
          have HW1 := Lib.hid (HWO.out w4 _ R4.out)
          go_wp2_with fail
          (with_reducible refine HW1.out.mono ?_)
          rintro r w5 ⟨sv5, rfl, a5⟩
          have A5 := Lib.hid a5
          clear a5
          have E := Lib.hid (And.intro e eq)
          clear e eq
          go_wp2_with fail
          go_ret3
          refine ⟨.inr ⟨E.out.1, v, own, sv5, rfl, D4.out.kept A5.out.bel.size (fun k hk => A5.out.bel.block k (D4.out.lt k hk)), by rw [E.out.2]; exact A5.out.rd, fun k hk => O1.out k hk, fun g hg => ?_⟩, B4.out.trans (A5.out.bel.mono B4.out.size)⟩
          have h1 := A5.out.new g hg
          cases hh : own g with
          | none => rfl
          | some x => have := D4.out.lt g (by rw [hh]; simp); omega
        · have e : isOf f q = true := by rw [HIS.out, decide_eq_true (show f = -1 by omega), Bool.true_or]
          have eq := HQ1.out (by omega)
          have E := Lib.hid (And.intro e eq)
          clear e eq
          go_wp2_with fail
          go_ret3
          exact ⟨.inr ⟨E.out.1, v, own, _, rfl, D4.out, by rw [E.out.2, HMQ.out]; exact R4.out, fun k hk => O1.out k hk, HON.out⟩, B4.out⟩
end
end Go.Proofs.YtahpadhejjlpoaaGreatDoor
