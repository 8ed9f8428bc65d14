/- The walks of the reference of layer 54: Without, Found. -/
import Derived.Test.YtoakngofgkkpnaaNcP
import Derived.OwnWalk
namespace Go.Proofs.Ytoakngofgkkpnaa
open Go.RowKit
attribute [local go_sem ↓] Go.wp_at_zero Go.wp_at_succ

theorem infoI54 : (Try.prog.info? 52).map (fun i => (i.zero, i.size, i.bytes)) = some (some (.agg #[.int .i64 0, .int .u64 0, .int .u64 0]), 3, 24) := by kernel_rfl
theorem ret_tup2 {u : Value} {a b : Bool} (h : a = b) : Ending.returned (.tuple #[u, .bool a]) = .returned (.tuple #[u, .bool b]) := by rw [h]
theorem three_one (a b c : Value) (ha : a.oneCell' = true) (hb : b.oneCell' = true) (hc : c.oneCell' = true) : ∀ u ∈ [a, b, c], u.oneCell' = true := by
  intro u hu
  simp only [List.mem_cons, List.not_mem_nil, or_false] at hu
  rcases hu with rfl | rfl | rfl
  · exact ha
  · exact hb
  · exact hc
section
variable {w : World}
structure WoSt (w : World) (f : Int) (q : List (Nat × Nat × Int)) (t : TypeId) (C : List (Nat × Nat × Int) → List Value) (k : Nat) (v : Value) (wr : World) : Prop where
  acc : Acc w w.heap.size wr t 3 v (woI f (q.take k) 0).length (C (woI f (q.take k) 0))
theorem WoSt.skip {f : Int} {q : List (Nat × Nat × Int)} {t : TypeId} {C : List (Nat × Nat × Int) → List Value} {k : Nat} {v : Value} {wr wz : World} {e : Nat × Nat × Int} (h : WoSt w f q t C k v wr) (he : q[k]? = some e) (h3 : e.1 = 3 ∧ (fenN (q.take k) : Int) = f) (hb : Below wr.heap.size wr wz) : WoSt w f q t C (k + 1) v wz := by
  have e1 : woI f (q.take (k + 1)) 0 = woI f (q.take k) 0 := by
    rw [List.take_add_one, he]
    show woI f (q.take k ++ [e]) 0 = _
    rw [woI_snoc, Nat.zero_add, if_pos h3, List.append_nil]
  exact ⟨by rw [e1]; exact h.acc.keep hb⟩
theorem WoSt.add {f : Int} {q : List (Nat × Nat × Int)} {t : TypeId} {C : List (Nat × Nat × Int) → List Value} {k : Nat} {v : Value} {wz : World} {e : Nat × Nat × Int} {x : List Value} (he : q[k]? = some e) (h3 : ¬ (e.1 = 3 ∧ (fenN (q.take k) : Int) = f)) (hC : C (woI f (q.take k) 0 ++ [e]) = C (woI f (q.take k) 0) ++ x)
    (h : Acc w w.heap.size wz t 3 v ((woI f (q.take k) 0).length + 1) (C (woI f (q.take k) 0) ++ x)) : WoSt w f q t C (k + 1) v wz := by
  have e1 : woI f (q.take (k + 1)) 0 = woI f (q.take k) 0 ++ [e] := by
    rw [List.take_add_one, he]
    show woI f (q.take k ++ [e]) 0 = _
    rw [woI_snoc, Nat.zero_add, if_neg h3]
  exact ⟨by rw [e1, hC]; exact h.congr (by simp) rfl⟩
set_option maxRecDepth 100000 in
set_option maxHeartbeats 8000000 in
theorem r54Without_any (qv : Value) (q : List (Nat × Nat × Int)) (h : RdSl w 3 qv q.length (refP q)) (hq : ∀ e ∈ q, 1 ≤ e.1 ∧ e.1 ≤ 3) (hl : q.length ≤ 100000) (f : Int) (hf0 : -9223372036854775808 ≤ f) (hf1 : f ≤ 9223372036854775807) :
    Calls Try.prog 11 #[qv, .int .i64 f] w fun r w' => ∃ sv, r = .returned (.tuple #[sv, .bool (isOf f q)]) ∧ RdSl w' 3 sv (qOf f q).length (refP (qOf f q)) ∧ Below w.heap.size w w' := by
  obtain ⟨i0, hi0, hz0, hz1, hz2⟩ := info_parts infoI54
  have I := Lib.hid (And.intro hi0 (And.intro hz0 (And.intro hz1 hz2))); clear hi0 hz0 hz1 hz2
  by_cases hm1 : f = -1
  · have e1 : qOf f q = q := by unfold qOf; rw [if_pos hm1]
    have e2 : isOf f q = true := by simp [isOf, hm1]
    rw [e1, e2]
    subst hm1
    have H := Lib.hid h
    obtain ⟨_, a, c, rfl, _, _⟩ := h
    go_enter Try.func11, Try.ntmps11
    go_wp2_with fail
    go_ret2
    exact ⟨_, rfl, H.out, Below.refl _ _⟩
  · have e1 : qOf f q = woI f q 0 := by unfold qOf; rw [if_neg hm1]
    have e2 : isOf f q = decide (0 ≤ f ∧ f < fenN q) := by simp [isOf, hm1]
    have hm1' : (f == -1) = false := by simpa using hm1
    rw [e1, e2]
    have H := Lib.hid h; have HQ := Lib.hid hq
    obtain ⟨_, a, c, rfl, hc, _⟩ := h
    obtain ⟨m, hm⟩ : ∃ m, q.length = m := ⟨_, rfl⟩
    have HM := Lib.hid hm
    rw [hm] at H hl hc ⊢
    have HALL : Hid (q.take m = q) := by show q.take m = q; rw [← hm, List.take_length]
    have HWL := Lib.hid (fun k => woI_len f (q.take k) 0)
    have W0 : Hid (WoSt w f q 52 refP 0 (.slice (some ⟨w.heap.size, 0, none⟩) 0 0) (w.alloc (.cells #[] 52))) := ⟨(acc_empty w 52 3).congr rfl rfl⟩
    clear hq hm e1 e2 hm1
    go_enter Try.func11, Try.ntmps11
    go_wp2_with fail
    go_loopw [6, 7, 16] (fun sv z y wr => ∃ k : Nat, k ≤ m ∧ y = .int .i64 k ∧ z = .int .i64 (fenN (q.take k) : Nat) ∧ fenN (q.take k) ≤ k ∧ WoSt w f q 52 refP k sv wr) (fun _ _ y _ => m - (intOf y).toNat)
    case atStart => exact ⟨0, by omega, rfl, rfl, by simp [fenN], W0.out⟩
    case round =>
      clear W0
      obtain ⟨k, hk, rfl, rfl, hfk, hst⟩ := hrel
      rename World => wr
      obtain ⟨la, lc, hsv⟩ := hst.acc.slice
      subst hsv
      have S := Lib.hid hst
      clear hst
      have hwl := HWL.out k
      have htk := List.length_take_le k q
      by_cases hlt : k < m
      · have hlt' : (k : Int) < m := by omega
        obtain ⟨e, hge⟩ : ∃ e, q[k]? = some e := ⟨_, List.getElem?_eq_getElem (by rw [HM.out]; omega)⟩
        obtain ⟨_, a', c', e', _, hE⟩ := H.out.below S.out.acc.bel
        cases e'
        have hg := refP_get q k e hge
        obtain ⟨fb, fo, rfl, hE2⟩ := rd_at hE hg.1
        have c1 := hE2 _ _ hg.1; have c2 := hE2 _ _ hg.2.1; have c3 := hE2 _ _ hg.2.2
        rw [← Nat.add_assoc] at c2 c3
        obtain ⟨o1, o2⟩ := HQ.out e (List.mem_of_getElem? hge)
        have HT : Hid (fenN (q.take (k + 1)) = fenN (q.take k) + (if e.1 = 3 then 1 else 0)) := by show fenN (q.take (k + 1)) = _; rw [List.take_add_one, hge]; exact fenN_snoc _ _
        have SK := Lib.hid (fun (h3 : e.1 = 3 ∧ (fenN (q.take k) : Int) = f) (wz : World) (hb : Below _ _ wz) => S.out.skip hge h3 hb)
        have SA := Lib.hid (fun (v : Value) (wz : World) (h3 : ¬ (e.1 = 3 ∧ (fenN (q.take k) : Int) = f)) => WoSt.add (w := w) (f := f) (t := 52) (C := refP) (v := v) (wz := wz) (x := [.int .i64 ((e.1 : Int) - 1), .int .u64 e.2.1, .int .u64 e.2.2]) hge h3 (by rw [refP_append]; rfl))
        have A2 := Lib.hid S.out.acc
        obtain ⟨e1, e2, e3⟩ := e
        simp only at o1 o2 c1 c2 c3 HT SK SA
        clear hE hE2 hge hg S
        obtain ⟨fn, hfn⟩ : ∃ fn, fenN (q.take k) = fn := ⟨_, rfl⟩
        rw [hfn] at HT SK SA hfk ⊢
        clear hfn
        obtain ⟨ws, hws⟩ : ∃ ws, woI f (q.take k) 0 = ws := ⟨_, rfl⟩
        rw [hws] at SA SK A2 hwl ⊢
        clear hws
        obtain ⟨e1m, he1m⟩ : ∃ x : Int, (e1 : Int) - 1 = x := ⟨_, rfl⟩
        rw [he1m] at c1 SA
        by_cases h3 : e1 = 3
        · have hb3 : (e1m == 2) = true := by simp; omega
          rw [if_pos h3] at HT
          by_cases hff : (fn : Int) = f
          · have ga : IntKind.i64.wrap (f + 1) = f + 1 := IntWalk.i64_in _ (by omega)
            have hbf : ((fn : Int) + 1 == f + 1) = true := by simp; omega
            have SK1 := Lib.hid (SK.out ⟨h3, hff⟩)
            clear SK SA h3 hff he1m
            go_wp2_with fail
            go_roundw
            case rel => exact ⟨k + 1, by omega, by go_num, by rw [HT.out]; go_num, by rw [HT.out]; omega, SK1.out _ (below_alloc _ _)⟩
            case measure => simp [intOf]; omega
          · obtain ⟨t, ht⟩ : ∃ t, IntKind.i64.wrap (f + 1) = t := ⟨_, rfl⟩
            have hbf : ((fn : Int) + 1 == t) = false := by
              rw [IntKind.wrap_i64] at ht
              simp
              omega
            have SA1 := Lib.hid (fun v wz => SA.out v wz (fun hh => hff hh.2))
            clear SK SA h3 hff he1m
            go_wp2_with (at_builtin; refine wpList_append_sl _ rfl _ _ 22 rfl 52 i0 _ 3 24 Try.underlying22 I.out.1 I.out.2.1 I.out.2.2.1 I.out.2.2.2 rfl (by decide) _ ws.length (refP ws) rfl (by exact (A2.out.own.alloc _).alloc _) _ 1 [.int .i64 e1m, .int .u64 e2, .int .u64 e3] rfl (by exact RdSl.newAt _ _ _ 3 1 _ (by simp) rfl) (three_one _ _ _ rfl rfl rfl) (by unfold maxLen; omega) (by omega) ?_)
            intro v1 w3 o1 g1 b1 n1
            have A3 := Lib.hid (A2.out.next (below_twice _ _ _) o1 g1 b1 (by first | simp | omega)); clear o1 g1 b1 n1
            go_wp2_with fail
            go_roundw
            case rel => exact ⟨k + 1, by omega, by go_num, by rw [HT.out]; go_num, by rw [HT.out]; omega, SA1.out _ _ A3.out⟩
            case measure => simp [intOf]; omega
        · have hb3 : (e1m == 2) = false := by simp; omega
          rw [if_neg h3] at HT
          have SA1 := Lib.hid (fun v wz => SA.out v wz (fun hh => h3 hh.1))
          clear SK SA h3 he1m
          go_wp2_with (at_builtin; refine wpList_append_sl _ rfl _ _ 22 rfl 52 i0 _ 3 24 Try.underlying22 I.out.1 I.out.2.1 I.out.2.2.1 I.out.2.2.2 rfl (by decide) _ ws.length (refP ws) rfl (by exact (A2.out.own.alloc _).alloc _) _ 1 [.int .i64 e1m, .int .u64 e2, .int .u64 e3] rfl (by exact RdSl.newAt _ _ _ 3 1 _ (by simp) rfl) (three_one _ _ _ rfl rfl rfl) (by unfold maxLen; omega) (by omega) ?_)
          intro v1 w3 o1 g1 b1 n1
          have A3 := Lib.hid (A2.out.next (below_twice _ _ _) o1 g1 b1 (by first | simp | omega)); clear o1 g1 b1 n1
          go_wp2_with fail
          go_roundw
          case rel => exact ⟨k + 1, by omega, by go_num, by rw [HT.out]; go_num, by rw [HT.out]; omega, SA1.out _ _ A3.out⟩
          case measure => simp [intOf]; omega
      · obtain rfl : k = m := by omega
        have HF : Hid (fenN (q.take k) = fenN q) := by show fenN (q.take k) = _; rw [HALL.out]
        have hA := S.out.acc
        have HW : Hid (woI f (q.take k) 0 = woI f q 0) := by show woI f (q.take k) 0 = _; rw [HALL.out]
        have A2 := Lib.hid hA
        clear hA S
        obtain ⟨fn, hfn⟩ : ∃ fn, fenN (q.take k) = fn := ⟨_, rfl⟩
        rw [hfn] at HF hfk ⊢
        clear hfn
        by_cases hf : 0 ≤ f
        · by_cases hf2 : f < fn
          · go_wp2_with fail
            go_ret2
            refine ⟨_, ret_tup2 ?_, by rw [← HW.out]; exact A2.out.rd, A2.out.bel⟩
            have h9 := HF.out
            exact (decide_eq_true ⟨hf, by omega⟩).symm
          · go_wp2_with fail
            go_ret2
            refine ⟨_, ret_tup2 ?_, by rw [← HW.out]; exact A2.out.rd, A2.out.bel⟩
            have h9 := HF.out
            exact (decide_eq_false (fun hh => by omega)).symm
        · go_wp2_with fail
          go_ret2
          refine ⟨_, ret_tup2 ?_, by rw [← HW.out]; exact A2.out.rd, A2.out.bel⟩
          have hb : decide (0 ≤ f) = false := decide_eq_false (by omega)
          rw [hb]; rfl
/-- What Found answers. -/
def FdRet (r : Nat × Nat × Nat) : Ending := .returned (.tuple #[.int .i64 r.1, .int .u64 r.2.1, .int .i64 r.2.2])
set_option maxRecDepth 100000 in
set_option maxHeartbeats 8000000 in
theorem r54Found_any (n : Nat) (h0 : 3 ≤ n) (hn : n ≤ 4096) (qv : Value) (q : List (Nat × Nat × Int)) (h : RdSl w 3 qv q.length (refP q)) (hq : ∀ e ∈ q, OkQ n e) (hl : q.length ≤ 60) (L : Nat) (_hL : L < 18446744073709551616) :
    Calls Try.prog 9 #[.int .i64 n, qv, .int .u64 L] w fun r w' => r = FdRet (fnd (Dev.fresh n (fun _ => 0)) q L) ∧ Below w.heap.size w w' := by
  have H := Lib.hid h; have HQ := Lib.hid hq
  have HA := Lib.hid (fun (wx : World) (hx : RdSl wx 3 qv q.length (refP q)) (k : Nat) (hk : k ≤ q.length) => r54After_any (w := wx) n (by omega) hn qv q hx hq (by omega) k hk)
  obtain ⟨_, a, c, rfl, hc, _⟩ := h
  obtain ⟨m, hm⟩ : ∃ m, q.length = m := ⟨_, rfl⟩
  have HM := Lib.hid hm
  have HX : Hid (∀ i, i ≤ m → prodN (basesL ((Dev.fresh n (fun _ => 0)).run 0 (q.take i))) ≤ 1152921504606846976 ∧ ((Dev.fresh n (fun _ => 0)).run 0 (q.take i)).exec ≤ 60 ∧ ((Dev.fresh n (fun _ => 0)).run 0 (q.take i)).n = n) := fun i hi => by
    have h1 := (Dev.fresh n (fun _ => 0)).run_exec 0 (q.take i)
    have h2 := List.length_take_le' i q
    have h3 : (Dev.fresh n (fun _ => 0)).exec = 0 := rfl
    exact ⟨fresh_prod n _ (by omega), by omega, by rw [run_n]; rfl⟩
  have HF0 : Hid (fnd (Dev.fresh n (fun _ => 0)) q L = fndL (Dev.fresh n (fun _ => 0)) q L (m + 1 - 0) 0) := by show _ = _; unfold fnd; rw [hm]; rfl
  have HFM := Lib.hid (fun k mm => fnd_many (D0 := Dev.fresh n (fun _ => 0)) (q := q) (limit := L) (m := mm) (k := k))
  have HFB := Lib.hid (fun k mm x => fnd_bad (D0 := Dev.fresh n (fun _ => 0)) (q := q) (limit := L) (m := mm) (k := k) (n := x))
  have HFN := Lib.hid (fun k mm => fnd_next (D0 := Dev.fresh n (fun _ => 0)) (q := q) (limit := L) (m := mm) (k := k))
  rw [hm] at H HA hl hc HFB HFN ⊢
  clear hq hm
  obtain ⟨D0, hD0⟩ : ∃ D0, Dev.fresh n (fun _ => 0) = D0 := ⟨_, rfl⟩
  rw [hD0] at HA HX HF0 HFM HFB HFN ⊢
  clear hD0
  obtain ⟨res, hres⟩ : ∃ res, fnd D0 q L = res := ⟨_, rfl⟩
  rw [hres] at HF0 ⊢
  clear hres
  go_enter Try.func9, Try.ntmps9
  go_wp2_with fail
  go_loopw [9] (fun y wr => ∃ k : Nat, k ≤ m + 1 ∧ y = .int .i64 k ∧ Below w.heap.size w wr ∧ res = fndL D0 q L (m + 1 - k) k) (fun y _ => m + 1 - (intOf y).toNat)
  case atStart => exact ⟨0, by omega, rfl, Below.refl _ _, HF0.out⟩
  case round =>
    clear HF0
    obtain ⟨k, hk, rfl, hb, hr⟩ := hrel
    rename World => wr
    have B := Lib.hid hb; have HR := Lib.hid hr
    clear hb hr
    by_cases hlt : k ≤ m
    · have hlt' : (k : Int) ≤ m := by omega
      have HA1 := Lib.hid (HA.out wr (H.out.below B.out) k hlt)
      obtain ⟨x1, x2, x3⟩ := HX.out k hlt
      have HFM1 := Lib.hid (HFM.out k (m - k))
      have HFB1 := Lib.hid (HFB.out k (m - k))
      have HFN1 := Lib.hid (HFN.out k (m - k))
      have hmk : m + 1 - k = m - k + 1 := by omega
      rw [hmk] at HR
      rw [← HR.out] at HFM1 HFB1 HFN1
      obtain ⟨DD, hDD⟩ : ∃ DD, D0.run 0 (q.take k) = DD := ⟨_, rfl⟩
      rw [hDD] at HA1 x1 x2 x3 HFM1 HFB1 HFN1
      clear hDD HR
      go_wp2_with fail
      (with_reducible refine HA1.out.mono ?_)
      rintro r w1 ⟨rb, lb, hv, nv, ns, rfl, r1, b1⟩
      have R1 := Lib.hid r1
      have B1 := Lib.hid (B.out.trans (b1.mono B.out.size))
      have HC := Lib.hid (r5Count_any r1 (by omega) (by omega))
      have HAT := Lib.hid (fun (wx : World) (hx : Below w1.heap.size w1 wx) (i : Nat) (hi : i < prodN (basesL DD)) => r5At_any (R1.out.keep hx) (by omega) i hi (by omega))
      clear r1 b1 HA1 HA
      go_wp2_with fail
      (with_reducible refine HC.out.mono ?_)
      rintro r w2 ⟨rfl, b2⟩
      have B2 := Lib.hid b2
      clear b2 HC
      obtain ⟨P, hP⟩ : ∃ P, prodN (basesL DD) = P := ⟨_, rfl⟩
      have HP := Lib.hid hP
      rw [hP] at x1 HFM1 HFB1 HFN1 HAT ⊢
      clear hP
      by_cases hLP : L < P
      · have hLP' : (L : Int) < (P : Int) := by omega
        have e := HFM1.out hLP
        subst e
        go_wp2_with fail
        go_ret3
        exact ⟨rfl, B1.out.trans (B2.out.mono B1.out.size)⟩
      · have hLP' : ¬ (L : Int) < (P : Int) := by omega
        obtain ⟨eb, heb⟩ : ∃ eb, ((k : Int) == (m : Int)) = eb := ⟨_, rfl⟩
        have hde : decide (k = m) = eb := by
          rw [← heb]
          by_cases hkm : k = m
          · subst hkm; simp
          · have : ¬ (k : Int) = (m : Int) := by omega
            simp [hkm, this]
        rw [hde] at HFB1 HFN1
        have HBA := Lib.hid (fun i h1 h2 h3 => badO_at (D := DD) (e := eb) (i := i) h1 h2 h3)
        have HBN := Lib.hid (fun h1 => badO_no (D := DD) (e := eb) h1)
        rw [HP.out] at HBA HBN
        have HVB := Lib.hid (fun i d => R1.out.up.vb.img (ksD DD i) d)
        clear hde HFM1
        go_wp2_with fail
        go_loopw [13] (fun y wy => ∃ i : Nat, i ≤ P ∧ y = .int .u64 i ∧ Below w1.heap.size w1 wy ∧ ∀ j, j < i → goodF (imgN DD j) eb = true) (fun y _ => P - (intOf y).toNat)
        case atStart => exact ⟨0, by omega, rfl, B2.out, fun j hj => absurd hj (Nat.not_lt_zero j)⟩
        case round =>
          obtain ⟨i, hi, rfl, hby, hgd⟩ := hrel
          rename World => wy
          have BY := Lib.hid hby; have GD := Lib.hid hgd
          clear hby hgd
          by_cases hiP : i < P
          · have hiP' : (i : Int) < (P : Int) := by omega
            have HAT1 := Lib.hid (HAT.out wy BY.out i hiP)
            go_wp2_with fail
            (with_reducible refine HAT1.out.mono ?_)
            rintro r w3 ⟨sv, rfl, a3⟩
            rw [x3] at a3
            have hgc := r54Good_any sv (64 * n) (imgN DD i) a3.rd (by omega) (by omega) (fun d => HVB.out i d) eb
            obtain ⟨sa, sc, hsv⟩ := a3.slice
            subst hsv
            have HGC := Lib.hid hgc
            have B3 := Lib.hid (BY.out.trans (a3.bel.mono BY.out.size))
            clear a3 hgc HAT1
            obtain ⟨gv, hgv⟩ : ∃ gv, goodF (imgN DD i) eb = gv := ⟨_, rfl⟩
            rw [hgv] at HGC
            have HGV := Lib.hid hgv
            clear hgv
            go_wp2_with fail
            (with_reducible refine HGC.out.mono ?_)
            rintro r w4 ⟨rfl, rfl⟩
            cases gv
            · have e := HFB1.out i hLP (HBA.out i hiP HGV.out GD.out)
              subst e
              go_wp2_with fail
              go_ret3
              exact ⟨rfl, B1.out.trans (B3.out.mono B1.out.size)⟩
            · go_wp2_with fail
              go_roundw
              case rel => exact ⟨i + 1, by omega, by go_num, B3.out, fun j hj => by
                rcases Nat.lt_or_ge j i with h1 | h1
                · exact GD.out j h1
                · obtain rfl : j = i := by omega
                  exact HGV.out⟩
              case measure => simp [intOf]; omega
          · obtain rfl : i = P := by omega
            have e := HFN1.out hLP (HBN.out GD.out)
            have hmk1 : m - k = m + 1 - (k + 1) := by omega
            rw [hmk1] at e
            have E := Lib.hid e
            clear e
            go_wp2_with fail
            go_roundw
            case rel => exact ⟨k + 1, by omega, by go_num, B1.out.trans (BY.out.mono B1.out.size), E.out⟩
            case measure => simp [intOf]; omega
    · obtain rfl : k = m + 1 := by omega
      have e := HR.out
      rw [Nat.sub_self] at e
      subst e
      have hlt' : ¬ ((m + 1 : Nat) : Int) ≤ m := by omega
      go_wp2_with fail
      go_ret3
      exact ⟨rfl, B.out⟩
end
end Go.Proofs.Ytoakngofgkkpnaa
