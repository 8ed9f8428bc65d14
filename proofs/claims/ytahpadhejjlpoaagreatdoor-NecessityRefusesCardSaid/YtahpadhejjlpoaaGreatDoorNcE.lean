/- The walk of Find. -/
import Derived.Test.YtahpadhejjlpoaaGreatDoorNcD
namespace Go.Proofs.YtahpadhejjlpoaaGreatDoor
open Go.RowKit Go.Maps
attribute [local go_sem ↓] Go.wp_at_zero Go.wp_at_succ

theorem below_set3 {w wx : World} {b B : Nat} (h : Below B w wx) (hb : B ≤ b) (v0 v1 v2 : Value) : Below B w (((wx.setCell ⟨b, 0, none⟩ v0).setCell ⟨b, 1, none⟩ v1).setCell ⟨b, 2, none⟩ v2) := ((h.setCell hb _).setCell hb _).setCell hb _
section
variable {w : World} {v : DV} {own : Nat → Option Role} {D0 : Dev}
/-- A device that has been run from world w1 on, and a block besides. -/
structure FiS (w : World) (v : DV) (own : Nat → Option Role) (D0 : Dev) (q : List (Nat × Nat × Int)) (w1 : World) (b : Nat) (C : Array Value) (t : TypeId) (k : Nat) (wr : World) : Prop where
  post : DPost v own w1 (D0.run 0 (q.take k)) wr
  res : Blk wr b C t
  bel : Below w.heap.size w wr
  own : ∀ j, own j ≠ none → w.heap.size ≤ j ∧ j ≠ b
  sz : w.heap.size ≤ w1.heap.size
  bz : w.heap.size ≤ b ∧ b < w1.heap.size
section
variable {q : List (Nat × Nat × Int)} {w1 wr wz : World} {b k : Nat} {C : Array Value} {t : TypeId}
theorem FiS.next (h : FiS w v own D0 q w1 b C t k wr) (hb : Below wr.heap.size wr wz) : FiS w v own D0 q w1 b C t k wz := by
  obtain ⟨own1, d1, o1, u1⟩ := h.post
  exact ⟨⟨own1, d1.kept hb.size (fun k hk => hb.block k (d1.lt k hk)), o1, u1.trans (Upd.of_below hb) (fun _ _ h => h)⟩, h.res.below hb, h.bel.trans (hb.mono h.bel.size), h.own, h.sz, h.bz⟩
theorem FiS.start (h : IsDev w1 v own D0) (hr : Blk w1 b C t) (hb : Below w.heap.size w w1) (ho : ∀ j, own j ≠ none → w.heap.size ≤ j ∧ j ≠ b) (hz : w.heap.size ≤ b) : FiS w v own D0 q w1 b C t 0 w1 :=
  ⟨DPost.refl h, hr, hb, ho, hb.size, ⟨hz, hr.lt⟩⟩
theorem FiS.run (h : FiS w v own D0 q w1 b C t k wr) {own1 : Nat → Option Role} (o1 : ∀ j, j < w1.heap.size → own1 j = own j) (u1 : Upd (fun j => own j ≠ none) w1 wr) {e : Nat × Nat × Int} (he : q[k]? = some e) (hp : DPost v own1 wr ((D0.run 0 (q.take k)).run 0 [e]) wz) : FiS w v own D0 q w1 b C t (k + 1) wz := by
  have e1 : (D0.run 0 (q.take k)).run 0 [e] = D0.run 0 (q.take (k + 1)) := by rw [take_snocI q k e he, Dev.run_append]
  rw [e1] at hp
  have hu : Upd (fun j => own1 j ≠ none) wr wz := by obtain ⟨_, _, _, hu⟩ := hp; exact hu
  have hb1 : own1 b = none := by
    rw [o1 b h.bz.2]
    cases hh : own b with
    | none => rfl
    | some x => exact absurd rfl ((h.own b (by rw [hh]; simp)).2)
  refine ⟨DPost.next o1 u1 hp, h.res.upd hu (by simpa using hb1), ⟨hu.os.trans h.bel.os, hu.tape.trans h.bel.tape, hu.output.trans h.bel.output, Nat.le_trans h.bel.size hu.size, fun j hj => ?_⟩, h.own, h.sz, h.bz⟩
  have hj1 : j < w1.heap.size := Nat.lt_of_lt_of_le hj h.sz
  rw [hu.block j (Nat.lt_of_lt_of_le hj h.bel.size) (by
    rw [o1 j hj1]
    cases hh : own j with
    | none => simp
    | some x => have := (h.own j (by rw [hh]; simp)).1; omega)]
  exact h.bel.block j hj
end
theorem slice_one (fb fo M sc k : Nat) (h : k + 1 ≤ sc) (wx : World) : (Instr.slice 47 (.slice (some ⟨fb, fo, none⟩) M sc) (some (.int .i64 k)) (some (.int .i64 ((k : Int) + 1))) none).run Tryz.prog wx = .ok (.slice (some ⟨fb, fo + k * 3, none⟩) 1 (sc - k)) wx := by
  have hne : ¬ sc = k := by omega
  rw [run_slice_lh wx 47 _ M sc (by kernel_rfl) .i64 .i64 _ _ (by omega) (by omega) (by omega)]
  have hs : (sizeOf (Tryz.prog.elem 47)).run Tryz.prog wx = .ok 3 wx := by kernel_rfl
  rw [hs]
  have e1 : ((k : Int)).toNat = k := by omega
  have e2 : ((k : Int) + 1).toNat = k + 1 := by omega
  have e3 : (⟨fb, fo, none⟩ : Addr).add (k * 3) = ⟨fb, fo + k * 3, none⟩ := Addr.add_mid _ _ _
  simp [Result.andThen, sliced, e1, e2, hne, e3]
theorem sliceAt_one (fb fo M sc k : Nat) (h : k + 1 ≤ sc) (wx : World) : (Instr.sliceAt 47 (.slice (some ⟨fb, fo, none⟩) M sc) (some (.int .i64 k)) (some (.int .i64 ((k : Int) + 1))) none).run Tryz.prog wx = .ok (.slice (some ⟨fb, fo + k * 3, none⟩) 1 (sc - k)) wx := by
  rw [run_sliceAt_slice wx 47 _ _ _ _ (by kernel_rfl)]
  exact slice_one fb fo M sc k h wx
/-- What Find answers where the limit is positive: the search's result as a witness. -/
def FiP (D0 : Dev) (Q : List (Nat × Nat × Int)) (is : Bool) (f : Int) (L : Nat) (r : Ending) (w' : World) : Prop :=
  (is = false ∧ r = .returned (.tuple #[.agg #[.int .i64 0, .int .i64 0, .slice none 0 0], .bool false, .int .i64 2])) ∨
  (is = true ∧ (fnd D0 Q L).2.2 = 2 ∧ r = .returned (.tuple #[.agg #[.int .i64 0, .int .i64 0, .slice none 0 0], .bool false, .int .i64 9])) ∨
  (is = true ∧ (fnd D0 Q L).2.2 = 1 ∧ r = .returned (.tuple #[.agg #[.int .i64 0, .int .i64 0, .slice none 0 0], .bool false, .int .i64 0])) ∨
  (is = true ∧ ∃ (k i g : Nat), fnd D0 Q L = (k, i, 0) ∧ k ≤ Q.length ∧ i < prodN (basesL (D0.run 0 (Q.take k))) ∧
    r = .returned (.tuple #[.agg #[.int .i64 f, .int .i64 k, .slice (some ⟨g, 0, none⟩) (D0.run 0 (Q.take k)).dirtyL.length (D0.run 0 (Q.take k)).dirtyL.length], .bool true, .int .i64 0]) ∧
    Row w' g (D0.run 0 (Q.take k)).dirtyL.length 5 (fun j => .int .u8 (digN (basesL (D0.run 0 (Q.take k))) i j)))
/-- What Find answers. -/
def FiPost (n : Nat) (q : List (Nat × Nat × Int)) (f L : Int) (r : Ending) (w' : World) : Prop :=
  (L < 1 ∧ r = .returned (.tuple #[.agg #[.int .i64 0, .int .i64 0, .slice none 0 0], .bool false, .int .i64 1])) ∨ (1 ≤ L ∧ FiP (Dev.fresh n (fun _ => 0)) (qOf f q) (isOf f q) f L.toNat r w')
set_option maxRecDepth 100000 in
set_option maxHeartbeats 8000000 in
theorem ncFind_any (n : Nat) (pv : Value) (q : List (Nat × Nat × Int)) (h : RdSl w 3 pv q.length (refP q)) (hq : ∀ e ∈ q, OkQ n e) (hpl : Plain54 q) (hl : q.length ≤ 60) (h4 : 4 ≤ n) (hn : n ≤ 4096) (f L : Int) (_hf0 : -9223372036854775808 ≤ f ∧ f ≤ 9223372036854775807) (hL : L ≤ 9223372036854775807) :
    Calls Tryz.prog 5 #[.iface 44 (.agg #[pv]), .int .i64 n, .int .i64 f, .int .i64 L] w fun r w' => FiPost n q f L r w' ∧ Below w.heap.size w w' := by
  have K0 := Lib.hid (Blk.new w #[.int .i64 0, .int .i64 0, .slice none 0 0] 28)
  have B0 := Lib.hid (below_alloc w (.cells #[.int .i64 0, .int .i64 0, .slice none 0 0] 28))
  by_cases hL1 : L < 1
  · clear h hq hpl
    go_enter Tryz.func5, Tryz.ntmps5
    go_wp2_with fail
    refine bodyPost_ret (v := .tuple #[.agg #[.int .i64 0, .int .i64 0, .slice none 0 0], .bool false, .int .i64 1]) (by simp [results, Tryz.results5, go_sem]) rfl ⟨.inl ⟨hL1, rfl⟩, ?_⟩
    exact B0.out
  · have hL1' : ¬ L < 1 := hL1
    obtain ⟨LN, hLN⟩ : ∃ LN : Nat, L = LN := ⟨L.toNat, by omega⟩
    subst hLN
    have HTryz := Lib.hid (ncPrepare_any pv q (h.alloc (.cells #[.int .i64 0, .int .i64 0, .slice none 0 0] 28)) (fun e he => ⟨(hq e he).lo, (hq e he).hi⟩) hpl (by omega) n (by omega) hn f)
    have HQ : Hid (∀ e ∈ qOf f q, OkQ n e) := Lib.hid (fun e he => hq e (qOf_mem e he))
    have hql := qOf_len f q
    obtain ⟨_, a, c, rfl, _, _⟩ := h
    have hLN1 : 1 ≤ (LN : Int) := by omega
    obtain ⟨mq, hmq⟩ : ∃ mq, q.length = mq := ⟨_, rfl⟩
    rw [hmq] at HTryz hl hql ⊢
    clear hq hpl hmq
    refine Calls.mono (R := fun r w' => FiP (Dev.fresh n (fun _ => 0)) (qOf f q) (isOf f q) f LN r w' ∧ Below w.heap.size w w') ?_ (fun r w' hh => ⟨.inr ⟨hLN1, hh.1⟩, hh.2⟩)
    unfold PpPost at HTryz
    obtain ⟨Q, hQ⟩ : ∃ Q, qOf f q = Q := ⟨_, rfl⟩
    rw [hQ] at HTryz HQ hql ⊢
    obtain ⟨is, his⟩ : ∃ is, isOf f q = is := ⟨_, rfl⟩
    rw [his] at HTryz ⊢
    clear hQ his
    have HD0 : Hid ((Dev.fresh n (fun _ => 0)).n = n ∧ (Dev.fresh n (fun _ => 0)).exec = 0 ∧ (Dev.fresh n (fun _ => 0)).VB) := ⟨rfl, rfl, fresh_vb n (fun i => by omega)⟩
    have HPR : Hid (∀ k, k ≤ Q.length → prodN (basesL ((Dev.fresh n (fun _ => 0)).run 0 (Q.take k))) ≤ 1152921504606846976) := fun k hk => fresh_prod n _ (by rw [List.length_take]; omega)
    obtain ⟨D0, hD0⟩ : ∃ D0, Dev.fresh n (fun _ => 0) = D0 := ⟨_, rfl⟩
    rw [hD0] at HTryz HD0 HPR ⊢
    clear hD0
    have HF0 : Hid (fnd D0 Q LN = fndL D0 Q LN (Q.length + 1 - 0) 0) := rfl
    have HFM := Lib.hid (fun k mm => fnd_many (D0 := D0) (q := Q) (limit := LN) (m := mm) (k := k))
    have HFB := Lib.hid (fun k mm x => fnd_bad (D0 := D0) (q := Q) (limit := LN) (m := mm) (k := k) (n := x))
    have HFN := Lib.hid (fun k mm => fnd_next (D0 := D0) (q := Q) (limit := LN) (m := mm) (k := k))
    have HRV : Hid (∀ k, (D0.run 0 (Q.take k)).VB ∧ (D0.run 0 (Q.take k)).exec ≤ Q.length ∧ (D0.run 0 (Q.take k)).n = n) := fun k => by
      have h1 := D0.run_exec 0 (Q.take k)
      have h2 := List.length_take_le' k Q
      rw [HD0.out.2.1] at h1
      refine ⟨Dev.VB.run _ HD0.out.2.2 0 (fun e he h1 => ?_), by omega, by rw [run_n]; exact HD0.out.1⟩
      have := HQ.out e (List.mem_of_mem_take he)
      exact ⟨this.v0, this.v1⟩
    obtain ⟨res, hres⟩ : ∃ res, fnd D0 Q LN = res := ⟨_, rfl⟩
    have HRS := Lib.hid hres
    rw [hres] at HF0
    clear hres
    obtain ⟨M, hM⟩ : ∃ M, Q.length = M := ⟨_, rfl⟩
    have HM := Lib.hid hM
    rw [hM] at HTryz hql HPR HF0 HFB HFN HRV
    clear hM
    go_enter Tryz.func5, Tryz.ntmps5
    go_wp2_with fail
    (with_reducible refine HTryz.out.mono ?_)
    rintro r w1 ⟨⟨hi1, rfl⟩ | ⟨hi1, v, own, sv, rfl, d1, r1, o1, s1⟩, b1⟩
    · subst hi1
      have K1 := Lib.hid (K0.out.below b1)
      have B1 := Lib.hid (B0.out.trans (b1.mono B0.out.size))
      have r0 := K1.out.cell (i := 0) rfl; have r1 := K1.out.cell (i := 1) rfl; have r2 := K1.out.cell (i := 2) rfl
      have f0 := K1.out.frozen 0; have f1 := K1.out.frozen 1; have f2 := K1.out.frozen 2
      clear b1
      go_wp2_with fail
      refine bodyPost_ret (v := .tuple #[.agg #[.int .i64 0, .int .i64 0, .slice none 0 0], .bool false, .int .i64 2]) (by simp [results, Tryz.results5, go_sem, r0, r1, r2]) rfl ⟨.inl ⟨rfl, rfl⟩, ?_⟩
      exact below_set3 B1.out (Nat.le_refl _) _ _ _
    · subst hi1
      obtain ⟨sa, sc, hsv⟩ : ∃ sa sc, sv = .slice sa M sc := by obtain ⟨_, a, c, e, _, _⟩ := r1; exact ⟨a, c, e⟩
      subst hsv
      have hMc : M ≤ sc := by obtain ⟨_, _, _, e, h1, _⟩ := r1; cases e; exact h1
      have BB := Lib.hid (B0.out.trans (b1.mono B0.out.size))
      have S1 : Hid (FiS w v own D0 Q w1 w.heap.size #[.int .i64 0, .int .i64 0, .slice none 0 0] 28 0 w1) := Lib.hid (FiS.start d1 (K0.out.below b1) BB.out (fun j hj => by have := o1 j hj; rw [World.size_alloc] at this; omega) (Nat.le_refl _))
      have R1 := Lib.hid r1; have S2 := Lib.hid s1
      clear d1 r1 o1 s1 b1 K0 B0 HTryz
      go_wp2_with fail
      go_loopw [14] (fun y wr => ∃ k : Nat, k ≤ M ∧ y = .int .i64 k ∧ FiS w v own D0 Q w1 w.heap.size #[.int .i64 0, .int .i64 0, .slice none 0 0] 28 k wr ∧ res = fndL D0 Q LN (M + 1 - k) k) (fun y _ => M - (intOf y).toNat)
      case atStart => exact ⟨0, by omega, rfl, S1.out, HF0.out⟩
      case round =>
        clear S1 HF0
        obtain ⟨k, hk, rfl, hst, hr⟩ := hrel
        rename World => wr
        obtain ⟨own1, d1, o1, u1⟩ := hst.post
        have S := Lib.hid hst; have D1 := Lib.hid d1; have O1 := Lib.hid o1; have U1 := Lib.hid u1; have HR := Lib.hid hr
        clear hst d1 o1 u1 hr
        obtain ⟨hv1, hx1, hn1⟩ := HRV.out k
        have hpr := HPR.out k hk
        obtain ⟨eb, heb⟩ : ∃ eb, ((k : Int) == (M : Int)) = eb := ⟨_, rfl⟩
        have hde : decide (k = M) = eb := by
          rw [← heb]
          by_cases hkm : k = M
          · subst hkm; simp
          · have : ¬ (k : Int) = (M : Int) := by omega
            simp [hkm, this]
        have hmk : M + 1 - k = M - k + 1 := by omega
        have HFM1 := Lib.hid (HFM.out k (M - k))
        have HFB1 := Lib.hid (HFB.out k (M - k))
        have HFN1 := Lib.hid (HFN.out k (M - k))
        rw [hmk] at HR
        rw [← HR.out] at HFM1 HFB1 HFN1
        rw [hde] at HFB1 HFN1
        have HIN := Lib.hid (ncInc_any D1.out hv1 (by omega) (by omega) hpr a mq c eb LN (by omega))
        have HCH := Lib.hid (fun (wx : World) (hb : Below wr.heap.size wr wx) (i : Nat) (hi : i < prodN (basesL (D0.run 0 (Q.take k)))) => csChoice_any (D1.out.kept hb.size (fun k hk => hb.block k (D1.out.lt k hk))) hv1 (by omega) i hi (by omega))
        have HEB := Lib.hid hde
        clear HR hde hmk hv1 hx1 hn1 hpr
        go_wp2_with fail
        (with_reducible refine HIN.out.mono ?_)
        rintro r w2 ⟨⟨hLP, rfl⟩ | ⟨hLP, i, hbi, hip, rfl⟩ | ⟨hLP, hbn, rfl⟩, b2⟩
        · have K2 := Lib.hid (S.out.res.below b2)
          have B2 := Lib.hid (S.out.bel.trans (b2.mono S.out.bel.size))
          have e := HFM1.out hLP
          subst e
          have HRS2 := HRS.out
          have r0 := K2.out.cell (i := 0) rfl; have r1 := K2.out.cell (i := 1) rfl; have r2 := K2.out.cell (i := 2) rfl
          have f0 := K2.out.frozen 0; have f1 := K2.out.frozen 1; have f2 := K2.out.frozen 2
          clear b2
          go_wp2_with fail
          refine bodyPost_ret (v := .tuple #[.agg #[.int .i64 0, .int .i64 0, .slice none 0 0], .bool false, .int .i64 9]) (by simp [results, Tryz.results5, go_sem, r0, r1, r2]) rfl ⟨.inr (.inl ⟨rfl, by rw [HRS2], rfl⟩), ?_⟩
          exact below_set3 B2.out (Nat.le_refl _) _ _ _
        · have e := HFB1.out i hLP hbi
          subst e
          have HRS2 := Lib.hid HRS.out
          have B2 := Lib.hid b2
          have HC1 := Lib.hid (HCH.out w2 b2 i hip)
          clear b2 HCH HFM1 HFB1 HFN1
          obtain ⟨DD, hDD⟩ : ∃ DD, D0.run 0 (Q.take k) = DD := ⟨_, rfl⟩
          have HDD := Lib.hid hDD
          rw [hDD] at HC1 hip
          obtain ⟨dm, hdm⟩ : ∃ dm, DD.dirtyL.length = dm := ⟨_, rfl⟩
          have HDM := Lib.hid hdm
          rw [hdm] at HC1
          clear hDD hdm
          go_wp2_with fail
          (with_reducible refine HC1.out.mono ?_)
          rintro r w3 ⟨g, rfl, rg, hg, b3⟩
          have K3 := Lib.hid ((S.out.res.below B2.out).below b3)
          have B3 := Lib.hid ((S.out.bel.trans (B2.out.mono S.out.bel.size)).trans (b3.mono (Nat.le_trans S.out.bel.size B2.out.size)))
          have RG := Lib.hid rg
          have hgl := rg
          have r0 := K3.out.cell (i := 0) rfl; have r1 := K3.out.cell (i := 1) rfl; have r2 := K3.out.cell (i := 2) rfl
          have f0 := K3.out.frozen 0; have f1 := K3.out.frozen 1; have f2 := K3.out.frozen 2
          have HGG : Hid (w.heap.size < g) := Lib.hid (by have h1 := S.out.bel.size; have h2 := B2.out.size; have h3 := S.out.sz; have h4 := S.out.res.lt; omega)
          clear rg hg b3 hgl
          go_wp2_with fail
          refine bodyPost_ret (v := .tuple #[.agg #[.int .i64 f, .int .i64 k, .slice (some ⟨g, 0, none⟩) dm dm], .bool true, .int .i64 0]) (by simp [results, Tryz.results5, go_sem, r0, r1, r2]) rfl ⟨.inr (.inr (.inr ⟨rfl, k, i, g, HRS2.out, by rw [HM.out]; exact hk, by rw [HDD.out]; exact hip, by rw [HDD.out, HDM.out], ?_⟩)), ?_⟩
          · rw [HDD.out, HDM.out]
            have hne : g ≠ w.heap.size := by have := HGG.out; omega
            exact ((RG.out.other (a := ⟨w.heap.size, 0, none⟩) hne _).other (a := ⟨w.heap.size, 1, none⟩) hne _).other (a := ⟨w.heap.size, 2, none⟩) hne _
          · exact below_set3 B3.out (Nat.le_refl _) _ _ _
        · have e := HFN1.out hLP hbn
          have HE := Lib.hid e
          have S2' := Lib.hid (S.out.next b2)
          clear e HFM1 HFB1 HFN1 HCH
          by_cases hkM : k = M
          · have hebt : eb = true := by rw [← HEB.out, decide_eq_true hkM]
            subst hebt
            have K2 := Lib.hid S2'.out.res
            have r0 := K2.out.cell (i := 0) rfl; have r1 := K2.out.cell (i := 1) rfl; have r2 := K2.out.cell (i := 2) rfl
            have f0 := K2.out.frozen 0; have f1 := K2.out.frozen 1; have f2 := K2.out.frozen 2
            have e := HE.out
            rw [show M - k = 0 by omega] at e
            subst e
            have HRS2 := HRS.out
            clear b2
            go_wp2_with fail
            refine bodyPost_ret (v := .tuple #[.agg #[.int .i64 0, .int .i64 0, .slice none 0 0], .bool false, .int .i64 0]) (by simp [results, Tryz.results5, go_sem, r0, r1, r2]) rfl ⟨.inr (.inr (.inl ⟨rfl, by rw [HRS2]; rfl, rfl⟩)), ?_⟩
            exact below_set3 S2'.out.bel (Nat.le_refl _) _ _ _
          · have hebf : eb = false := by rw [← HEB.out, decide_eq_false hkM]
            subst hebf
            have D2 := Lib.hid (D1.out.kept b2.size (fun k hk => b2.block k (D1.out.lt k hk)))
            have U2 := Lib.hid (U1.out.trans (Upd.of_below (S := fun j => own j ≠ none) b2) (fun _ _ h => h))
            clear b2
            obtain ⟨e, hge⟩ : ∃ e, Q[k]? = some e := ⟨_, List.getElem?_eq_getElem (by rw [HM.out]; omega)⟩
            have hkM' : k < M := by omega
            obtain ⟨_, a', c', e', _, hE⟩ := R1.out.upd U2.out (fun g hg => by simpa using S2.out g hg)
            cases e'
            have hg := instrC_get Q k e hge
            obtain ⟨fb, fo, rfl, hE2⟩ := rd_at hE hg.1
            have q1 := hE2 _ _ hg.1; have q2 := hE2 _ _ hg.2.1; have q3 := hE2 _ _ hg.2.2
            have hok := HQ.out e (List.mem_of_getElem? hge)
            have hone : RdSl w2 3 (.slice (some ⟨fb, fo + k * 3, none⟩) 1 (sc - k)) 1 (instrC [e]) := by
              refine ⟨rfl, _, _, rfl, by omega, .inr ⟨fb, fo + k * 3, rfl, fun j u hu => ?_⟩⟩
              have hj : j < 3 := by
                rcases Nat.lt_or_ge j 3 with h | h
                · exact h
                · rw [List.getElem?_eq_none (by simp [instrC]; omega)] at hu; cases hu
              obtain rfl | rfl | rfl : j = 0 ∨ j = 1 ∨ j = 2 := by omega
              · cases hu; exact q1
              · cases hu; rw [Nat.add_assoc]; exact q2
              · cases hu; rw [Nat.add_assoc]; exact q3
            have hofb : own1 fb = none := by
              have h1 := S2.out fb rfl
              have h2 : fb < w1.heap.size := by
                have hrr := R1.out
                obtain ⟨_, a2, c2, e2, _, hE3⟩ := hrr
                cases e2
                obtain ⟨b3, o3, e3, hE4⟩ := rd_at hE3 hg.1
                cases e3
                exact World.block_lt_of_cell? _ _ (hE4 _ _ hg.1)
              rw [O1.out fb h2]; exact h1
            have HRUN := Lib.hid (run_any (w := w2.drew) (v := v) (own := own1) (D := D0.run 0 (Q.take k)) (j := 0) D2.out.drew (by omega) (.slice (some ⟨fb, fo + k * 3, none⟩) 1 (sc - k)) [e] hone.drew (fun g hg => by simp [Value.ownBlock] at hg; subst hg; exact hofb) (fun x hx => by
              rw [List.mem_singleton] at hx
              subst hx
              exact ⟨hok.lo, hok.hi, by have := hok.lt; omega⟩) (by simp) (by have := (HRV.out k).2.1; show _ + 1 < _; omega))
            have HSR := Lib.hid (fun (wz : World) (hp : DPost v own1 w2.drew ((D0.run 0 (Q.take k)).run 0 [e]) wz) => FiS.run (w := w) (wr := w2) S2'.out O1.out U2.out hge (by obtain ⟨o9, d9, e9, u9⟩ := hp; exact ⟨o9, d9, e9, ⟨u9.os, u9.tape, u9.output, u9.size, u9.block⟩⟩))
            have HTH := Lib.hid (thrZ_any D2.out.drew)
            have hkc : (k : Int) + 1 ≤ sc := by omega
            have hek : ¬ (k : Int) = (M : Int) := by omega
            obtain ⟨ek, hek2⟩ : ∃ ek, ((D0.run 0 (Q.take k)).run 0 [e]).err 0 = ek := ⟨_, rfl⟩
            rw [hek2] at HRUN
            have hck : ¬ sc = k := by omega
            have gk1 : IntKind.i64.wrap ((k : Int) + 1) = (k : Int) + 1 := IntWalk.i64_in _ (by omega)
            have hsl1 := fun wx => slice_one fb fo M sc k (by omega) wx
            have hsl2 := fun wx => sliceAt_one fb fo M sc k (by omega) wx
            clear hE hE2 hge hg q1 q2 q3 hone hofb hek2 D1 D2 U1 U2
            go_wp2_with fail
            go_region_with (first | (go_at_call 13; (with_reducible refine HTH.out.mono ?_); rintro e w' ⟨rfl, rfl⟩) | (go_at_call 12; (with_reducible refine HRUN.out.mono ?_); rintro e w3 ⟨rfl, hp⟩; have S3 := Lib.hid (HSR.out _ hp); clear hp))
            all_goals
              have hm2 : M - k = M + 1 - (k + 1) := by omega
              have HE2 := Lib.hid HE.out
              rw [hm2] at HE2
              go_wp2_with fail
              go_roundw
              case rel => exact ⟨k + 1, by omega, by go_num, S3.out, HE2.out⟩
              case measure => simp [intOf]; omega
end
end Go.Proofs.YtahpadhejjlpoaaGreatDoor
