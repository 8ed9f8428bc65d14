/- The walk of UndoAtomic, the closing text. -/
import Derived.Test.YtokgplgdaememaaDoorUndT
import Derived.Laws.IdiomArrays
import Derived.Test.YtokgplgdaememaaDoorCardU
import Derived.Test.YtokgplgdaememaaDoorCards
import Derived.Lib.SmallJoins
import Derived.SevenTiedAt
namespace Go.Proofs.YtokgplgdaememaaDoor
open Go.RowKit Go.Maps
attribute [local go_sem ↓] Go.wp_at_zero Go.wp_at_succ

/-- The words nx are those of the device outside of the log, or the power has failed. -/
inductive PlA (D : Dev) (y : Nat) (nx : Nat → Int) : Prop where
  | on (h : Al W0 D y) (n : ∀ i, (i < 24 ∨ 64 ≤ i) → nx i = D.cur i) : PlA D y nx
  | off (h : Dd W0 D y) : PlA D y nx
theorem PlA.vb {D : Dev} {y : Nat} {nx : Nat → Int} (h : PlA D y nx) : D.VB := by
  rcases h with ⟨h, _⟩ | h
  · exact h.vb
  · exact h.vb
theorem PlA.n {D : Dev} {y : Nat} {nx : Nat → Int} (h : PlA D y nx) : D.n = 24 := by
  rcases h with ⟨h, _⟩ | h
  · exact h.on.n
  · exact h.n
theorem PlA.exec {D : Dev} {y : Nat} {nx : Nat → Int} (h : PlA D y nx) : D.exec ≤ y := by
  rcases h with ⟨h, _⟩ | h
  · exact h.exec
  · exact h.exec
theorem PlA.mono {D : Dev} {x y : Nat} {nx : Nat → Int} (h : PlA D x nx) (hxy : x ≤ y) : PlA D y nx := by
  rcases h with ⟨h, h2⟩ | h
  · exact .on (h.mono hxy) h2
  · exact .off (h.mono hxy)
/-- The law's two slices of words and the device. -/
structure Sa (w1 : World) (v : DV) (lb go gn : Nat) (D : Dev) (nx : Nat → Int) (own : Nat → Option Role) (wc : World) : Prop where
  st : LSt w1 v own D lb 0 192 5 wc
  ro : Row wc go 192 35 (fun i => .int .u64 (W0 i))
  rn : Row wc gn 192 35 (fun i => .int .u64 (nx i))
  fo : own go = none
  fn : own gn = none
  ln : gn ≠ lb
  ne : go ≠ gn
  lo : w1.heap.size ≤ gn
  nb : ∀ i, 0 ≤ nx i ∧ nx i < 18446744073709551616
section
variable {w1 wc wd : World} {v : DV} {lb go gn y : Nat} {D : Dev} {nx : Nat → Int} {own : Nat → Option Role}
theorem Sa.next (h : Sa w1 v lb go gn D nx own wc) (hb : Below wc.heap.size wc wd) : Sa w1 v lb go gn D nx own wd :=
  ⟨h.st.next hb, h.ro.below hb, h.rn.below hb, h.fo, h.fn, h.ln, h.ne, h.lo, h.nb⟩
theorem Sa.step (h : Sa w1 v lb go gn D nx own wc) {own' : Nat → Option Role} {D' : Dev} (l : LSt w1 v own' D' lb 0 192 5 wd) (m : Mv own own' wc wd) : Sa w1 v lb go gn D' nx own' wd :=
  ⟨l, h.ro.upd m.upd (by simpa using h.fo), h.rn.upd m.upd (by simpa using h.fn), by rw [m.old go h.ro.lt]; exact h.fo, by rw [m.old gn h.rn.lt]; exact h.fn, h.ln, h.ne, h.lo, h.nb⟩
theorem Sa.put (h : Sa w1 v lb go gn D nx own wc) (d : Nat) (x : Int) (hx : 0 ≤ x ∧ x < 18446744073709551616) : Sa w1 v lb go gn D (fun i => if i = d then x else nx i) own (wc.setCell ⟨gn, d, none⟩ (.int .u64 x)) :=
  ⟨h.st.poke (Upd.set1 wc gn d (.int .u64 x)) h.fn h.ln h.lo, h.ro.other (by simpa using h.ne) _, (h.rn.set d (.int .u64 x)).congr (fun i _ => by by_cases e : i = d <;> simp [e]), h.fo, h.fn, h.ln, h.ne, h.lo, fun i => by
    show 0 ≤ (if i = d then x else nx i) ∧ (if i = d then x else nx i) < _
    split
    · exact hx
    · exact h.nb i⟩
/-- What Save leaves. -/
def SaveIs (D D' : Dev) (offs : List Nat) (nx : Nat → Int) (y : Nat) (e : Int) : Prop :=
  (e = 0 ∧ Al W0 D' y ∧ (∀ o ∈ offs, ∃ s ∈ savedL D'.cur 192 5, s.1 = o) ∧ ∀ i, (i < 24 ∨ 64 ≤ i) → nx i = D'.cur i) ∨ (e ≠ 0 ∧ PlA D' y nx)
theorem save_at (hL : LSt w1 v own D lb 0 192 5 wc) (hP : PlA D y nx) (hy : y < 1000000) (sv : Value) (offs : List Nat) (hs : RdSl wc 1 sv offs.length (natsU offs)) (hl : offs.length ≤ 24) (ho : ∀ o ∈ offs, o < 2048) (hg : ∀ o ∈ offs, allowedB 1536 192 5 o = true) :
    Calls Tryd.prog 21 #[.pointer (some ⟨lb, 0, none⟩), sv] wc fun r w' => ∃ own' D' e, r = .returned (.int .i64 e) ∧ LSt w1 v own' D' lb 0 192 5 w' ∧ Mv own own' wc w' ∧ SaveIs D D' offs nx (y + 100) e := by
  rcases hP with ⟨hA, hn⟩ | hD
  · have hPl := uPlan_live hL.log hA.on.off hA.on.err hA.vb sv offs hs (by omega) (fun o ho2 => by have := ho o ho2; omega) (fun o ho2 => by rw [hA.on.n]; exact hg o ho2)
    refine (uSave_live hL.log sv _ _ (by have := hA.exec; omega) hPl).mono ?_
    rintro r w' (⟨hf, rfl, hb⟩ | ⟨hf, rfl, hp⟩)
    · exact ⟨own, D, 4, rfl, hL.next hb, Mv.of_below hb, .inr ⟨by omega, .on (hA.mono (by omega)) hn⟩⟩
    · have hf' : ¬ 16 < sN D.cur + (fL D.cur offs).length := hf
      have hsv := hA.save ho hg hl hf'
      have hnn : (D.run 0 (planP 192 (sN D.cur) (fL D.cur offs))).n = D.n := Dev.run_n 0 _ _
      obtain ⟨own', l', m'⟩ := hL.stepM (D' := D.run 0 (planP 192 (sN D.cur) (fL D.cur offs))) hnn hp
      refine ⟨own', _, (D.run 0 (planP 192 (sN D.cur) (fL D.cur offs))).err 0, rfl, l', m', ?_⟩
      rcases hsv with ⟨h1, h2, h3, h4⟩ | ⟨h1, h2⟩
      · exact .inl ⟨h1, h2, h3, fun i hi => by rw [h4 i hi]; exact hn i hi⟩
      · exact .inr ⟨by rw [h1]; decide, .off h2⟩
  · have he : D.err 0 ≠ 0 := by rw [hD.err]; decide
    refine (uSave_err sv he (uPlan_dead hL.log he sv offs hs (by omega) (fun o ho2 => by have := ho o ho2; omega) (fun o ho2 => by rw [hD.n]; exact hg o ho2))).mono ?_
    rintro r w' ⟨rfl, hb⟩
    exact ⟨own, D, D.err 0, rfl, hL.next hb, Mv.of_below hb, .inr ⟨he, .off (hD.mono (by omega))⟩⟩
/-- What the stores of an act keep. -/
inductive PlS (D : Dev) (y : Nat) (offs : List Nat) (nx : Nat → Int) : Prop where
  | on (h : Al W0 D y) (m : ∀ o ∈ offs, ∃ s ∈ savedL D.cur 192 5, s.1 = o) (n : ∀ i, (i < 24 ∨ 64 ≤ i) → nx i = D.cur i) : PlS D y offs nx
  | off (h : Dd W0 D y) : PlS D y offs nx
theorem PlS.pl {offs : List Nat} (h : PlS D y offs nx) : PlA D y nx := by
  rcases h with ⟨h, _, n⟩ | h
  · exact .on h n
  · exact .off h
theorem PlS.store {offs : List Nat} (h : PlS D y offs nx) (o : Nat) (ho : o ∈ offs) (hg : o % 8 = 0 ∧ o < 1536) (x : Int) (hx : 0 ≤ x ∧ x < 18446744073709551616) : PlS (D.store 0 o x) (y + 1) offs (fun i => if i = o / 8 then x else nx i) := by
  rcases h with ⟨h, m, n⟩ | h
  · rcases h.store o x (m o ho) hx with ⟨h1, h2, h3⟩ | h1
    · refine .on h1 (by rw [h2]; exact m) (fun i hi => ?_)
      rw [h3]
      show (if i = o / 8 then x else nx i) = _
      by_cases e : i = o / 8
      · rw [if_pos e, if_pos e.symm]
      · rw [if_neg e, if_neg (fun h => e h.symm)]; exact n i hi
    · exact .off h1
  · rw [h.store o x hg]; exact .off (h.mono (by omega))
/-- Commit on a device that is on. -/
theorem commit_at (hL : LSt w1 v own D lb 0 192 5 wc) (hA : Al W0 D y) (hN : ∀ i, (i < 24 ∨ 64 ≤ i) → nx i = D.cur i) (hy : y < 1000000) :
    Calls Tryd.prog 40 #[.pointer (some ⟨lb, 0, none⟩)] wc fun r w' => ∃ own' D' e, r = .returned (.int .i64 e) ∧ LSt w1 v own' D' lb 0 192 5 w' ∧ Mv own own' wc w' ∧ (D'.n = 24 ∧ D'.VB ∧ D'.exec ≤ y + 100) ∧
      ((e = 0 ∧ ∀ ks, OutEq (resC (D'.img ks)) nx) ∨ (e ≠ 0 ∧ ∀ ks, OutEq (resC (D'.img ks)) W0 ∨ OutEq (resC (D'.img ks)) nx)) := by
  have hld : LoadIs wc lb (savedL D.cur 192 5) (validL 1536 192 5 (savedL D.cur 192 5)) := by
    have := uload_any hL.log hA.on.off hA.on.err hA.vb
    rw [hA.on.n] at this
    exact this
  refine (uCommit_any hL.log _ _ hld (saved_vin hA.vb.cur) (validL_len _ _ _ _) (by have := hA.exec; omega)).mono ?_
  rintro r w' ⟨rfl, hp⟩
  obtain ⟨h1, h2, h3, h4⟩ := hA.commit
  have hto : ∀ f, OutEq f D.cur → OutEq f nx := fun f hf => ⟨hf.1, fun i hi => by rw [hf.2 i hi, hN i hi]⟩
  obtain ⟨own', l', m'⟩ := hL.stepM (by rw [h1, hA.on.n]) hp
  refine ⟨own', _, _, rfl, l', m', ⟨h1, h2, h3⟩, ?_⟩
  rcases h4 with ⟨h5, h6⟩ | ⟨h5, h6⟩
  · exact .inl ⟨h5, fun ks => hto _ (h6 ks)⟩
  · exact .inr ⟨by rw [h5]; decide, fun ks => (h6 ks).imp id (hto _)⟩
theorem drewN_below (w : World) (q : Nat) : Below w.heap.size w (w.drewN q) := ⟨rfl, rfl, rfl, Nat.le_refl _, fun _ _ => rfl⟩
theorem currentA (hL : IsDev wc v own D) (hn : D.n = 24) (hv : D.VB) : Calls Tryd.prog 20 #[.pointer (some ⟨v.db, 0, none⟩)] wc
    fun r w' => r = .returned (.slice (some ⟨wc.heap.size, 0, none⟩) 1536 1536) ∧ Row w' wc.heap.size 1536 5 (fun i => .int .u8 (byteAt D.cur i)) ∧ Below wc.heap.size wc w' := by
  have := current_any hL hv
  unfold BytesPost at this
  rw [hn] at this
  exact this
end
section
variable {w : World}
set_option maxRecDepth 100000 in
set_option maxHeartbeats 64000000 in
theorem undoAtomic_any (h : Wh w) (sv : Value) (n : Nat) (xs : List Value) (hs : RdSl w 2 sv n xs) (hl : n ≤ maxLen) (hA : ∀ i, i < n → ActAt w xs i) (cb : Bool)
    (c0 c1 c2 c3 : Int) (h0 : 0 ≤ c0 ∧ c0 < 65536) (h1 : 0 ≤ c1 ∧ c1 < 65536) (h2 : 0 ≤ c2 ∧ c2 < 65536) (h3 : 0 ≤ c3 ∧ c3 < 65536) :
    Calls Tryd.prog 10 #[sv, .bool cb, .agg #[.int .u16 c0, .int .u16 c1, .int .u16 c2, .int .u16 c3]] w fun r w' => r = .returned (.bool true) ∧ Below w.heap.size w w' := by
  have HW := Lib.hid h; have HS := Lib.hid hs; have HA := Lib.hid hA; clear h hA
  obtain ⟨_, sa, sc, rfl, hsc, _⟩ := hs
  have HBX := Lib.hid (below_alloc w (.cells #[.int .u16 c0, .int .u16 c1, .int .u16 c2, .int .u16 c3] 90))
  obtain ⟨k2, hk2⟩ : ∃ k2 : Nat, (k2 : Int) = c0 % 200 := ⟨(c0 % 200).toNat, by omega⟩
  have q1 : c0 % 200 = (k2 : Int) := hk2.symm
  have q2 : c0.tmod 200 = (k2 : Int) := by rw [Int.tmod_eq_emod_of_nonneg h0.1]; omega
  have hk60 : k2 < 200 := by omega
  have HRC := Lib.hid (fun (wx : World) (v : DV) (own : Nat → Option Role) (D : Dev) (hx : IsDev wx v own D) (hn : D.n = 24) (hv : D.VB) (he : D.exec < 4611686018427387904) => l16recovered_any hx hn hv he c0 c1 c2 c3 h1 h2 h3)
  clear hk2 h1 h2 h3
  go_enter Tryd.func10, Tryd.ntmps10
  go_wp2_with fail
  (with_reducible refine awake16.mono ?_)
  rintro e w1 ⟨rfl, b1⟩
  have B1 := Lib.hid (HBX.out.trans (b1.mono HBX.out.size))
  have BK1 : Hid (Blk w1 w.heap.size #[.int .u16 c0, .int .u16 c1, .int .u16 c2, .int .u16 c3] 90) := (Blk.new w _ _).upd (Upd.of_below (S := fun _ => False) b1) (fun h => h)
  have W1 := Lib.hid (HW.out.below B1.out); clear b1 HBX
  go_wp2_with fail
  (with_reducible refine (made16 W1.out).mono ?_)
  rintro e w2 ⟨v, own, lb, rfl, l2⟩
  have L2 := Lib.hid l2; clear l2
  go_wp2_with fail
  (with_reducible refine (thread0_any L2.out.dev).mono ?_)
  rintro e w' ⟨rfl, rfl⟩
  go_wp2_with fail
  (with_reducible refine (current24 L2.out.dev D0_cl.lv).mono ?_)
  rintro e w3 ⟨rfl, r3, b3⟩
  have R3 := Lib.hid r3; have L3 := Lib.hid (L2.out.next b3); clear r3 b3 L2
  go_wp2_with fail
  (with_reducible refine (words24 D0_vb.cur R3.out).mono ?_)
  rintro e w4 ⟨rfl, d4⟩
  have RO := Lib.hid d4.row
  have KO := Lib.hid (Kp.wd L3.out d4)
  have HGO : Hid (w1.heap.size ≤ w3.heap.size ∧ lb < w3.heap.size) := ⟨L3.out.bel.size, L3.out.log.blk.lt⟩
  have L4 := Lib.hid (L3.out.next d4.bel); clear d4 R3 L3
  generalize w3.heap.size = go at *
  have y0 : w4.cell? ⟨w.heap.size, 0, none⟩ = some (.int .u16 c0) := (BK1.out.upd (Upd.of_below (S := fun _ => False) L4.out.bel) (fun h => h)).cell rfl
  have HARM := Lib.hid (arm_any L4.out.dev k2 (by omega))
  have HAL := Lib.hid (D0_al k2)
  have HDC : Hid (∀ i, (D0.arm k2).cur i = W0 i) := fun i => rfl
  have HDN : Hid ((D0.arm k2).n = D0.n) := rfl
  generalize D0.arm k2 = DA at *
  go_wp2_with fail
  (with_reducible refine HARM.out.mono ?_)
  rintro e w5 ⟨rfl, p5⟩
  obtain ⟨own5, l5, m5⟩ := L4.out.stepM (D' := DA) HDN.out p5
  have L5 := Lib.hid l5
  have KO5 := Lib.hid (KO.out.step m5)
  have RO5 := Lib.hid (RO.out.upd m5.upd (by simpa using (KO.out.fr go rfl).1))
  clear p5 l5 m5 L4 KO RO HARM y0
  go_wp2_with fail
  (with_reducible refine (currentA L5.out.dev HAL.out.on.n HAL.out.vb).mono ?_)
  rintro e w6 ⟨rfl, r6, b6⟩
  have R6 := Lib.hid r6; have L6 := Lib.hid (L5.out.next b6); have KO6 := Lib.hid (KO5.out.next b6); have RO6 := Lib.hid (RO5.out.below b6); clear r6 b6 L5 KO5 RO5
  go_wp2_with fail
  (with_reducible refine (words24 HAL.out.vb.cur R6.out).mono ?_)
  rintro e w7 ⟨rfl, d7⟩
  have KN := Lib.hid (Kp.wd L6.out d7)
  have SA0 : Hid (Sa w1 v lb go w6.heap.size DA DA.cur own5 w7) := ⟨L6.out.next d7.bel, RO6.out.below d7.bel, d7.row, (KO6.out.fr go rfl).1, (KN.out.fr _ rfl).1, by have := L6.out.log.blk.lt; omega, by have := (KO6.out.fr go rfl).2; omega, L6.out.bel.size, HAL.out.vb.cur⟩
  clear d7 R6 L6 KO6 RO6 KN
  generalize w6.heap.size = gn at *
  go_wp2_with fail
  go_loopw [43] (fun y wr => ∃ (k : Nat) (D : Dev) (nx : Nat → Int) (own : Nat → Option Role), k ≤ n ∧ k ≤ 6 ∧ y = .int .i64 k ∧ Sa w1 v lb go gn D nx own wr ∧ PlA D (200 * k) nx) (fun y _ => n - (intOf y).toNat)
  case atStart => exact ⟨0, DA, DA.cur, own5, by omega, by omega, rfl, SA0.out, .on HAL.out (fun i _ => rfl)⟩
  case round =>
    clear SA0 HAL HDC HDN
    obtain ⟨k, D, nx, ownr, hk, hk8, rfl, lr, hpl⟩ := hrel
    have SZ := Lib.hid lr; have PL := Lib.hid hpl; clear lr hpl
    by_cases hlt : k < n
    · have hlt' : (k : Int) < n := by omega
      obtain ⟨wv, l, x, hx1, hx2, hxb, hwv, hlb, hll⟩ := HA.out k hlt
      have hwv2 := hwv
      obtain ⟨_, wa, wc, hwe, _, _⟩ := hwv2
      subst hwe
      obtain ⟨_, a', c', e', _, hE⟩ := HS.out.below (B1.out.trans (SZ.out.st.bel.mono B1.out.size))
      cases e'
      obtain ⟨eb, eo, rfl, hE2⟩ := rd_at hE hx1
      have d1 := hE2 _ _ hx1; have d2 := hE2 _ _ hx2
      rw [← Nat.add_assoc] at d2
      have HX := Lib.hid hxb
      clear hE hE2 hx1 hx2 hxb
      by_cases h8 : k = 6
      · have hb8 : ((k : Int) == 6) = true := by simp; omega
        clear hlb hll hwv h8
        have LA := Lib.hid (SZ.out.next (below_alloc wr (.cells #[.slice wa l.length wc, .int .u64 x] 43)))
        clear SZ HX
        have HOF := Lib.hid (devOff_any LA.out.st.dev)
        rcases PL.out with ⟨hA, hN⟩ | hD
        · have AL := Lib.hid hA; have HN := Lib.hid hN; clear hA hN PL
          rw [AL.out.on.off] at HOF
          cases cb
          · have RES := Lib.hid (fun ks => outB_of (AL.out.fit ks).res)
            have PN := Lib.hid (And.intro AL.out.on.n (And.intro AL.out.vb AL.out.exec))
            have LB := Lib.hid LA.out
            clear LA HOF
            have BKZ := Lib.hid (BK1.out.upd (Upd.of_below (S := fun _ => False) LB.out.st.bel) (fun h => h))
            have u0 := BKZ.out.cell (i := 0) (v := .int .u16 c0) rfl
            have u1 := BKZ.out.cell (i := 1) (v := .int .u16 c1) rfl
            have u2 := BKZ.out.cell (i := 2) (v := .int .u16 c2) rfl
            have u3 := BKZ.out.cell (i := 3) (v := .int .u16 c3) rfl
            go_wp2_with fail
            (with_reducible refine (HRC.out _ _ _ _ LB.out.st.dev PN.out.1 PN.out.2.1 (by have := PN.out.2.2; omega)).mono ?_)
            rintro e z1 ⟨ks, g, _, rfl, q1, b1⟩
            have Q1 := Lib.hid q1
            have L1 := Lib.hid (LB.out.next b1)
            clear q1 b1 u0 u1 u2 u3 BKZ
            have HO1 := Lib.hid (l16outside_any (w := z1) (f := resC (D.img ks)) (g := W0) (W1.out.below L1.out.st.bel) Q1.out (row_rd L1.out.ro (Nat.le_refl _)))
            rw [RES.out ks] at HO1
            go_wp2_with fail
            (with_reducible refine HO1.out.mono ?_)
            rintro e z2 ⟨rfl, q, rfl⟩
            go_wp2_with fail
            go_ret
            exact ⟨rfl, B1.out.trans ((L1.out.next (drewN_below _ _)).st.bel.mono B1.out.size)⟩
          · go_wp2_with fail
            (with_reducible refine HOF.out.mono ?_)
            rintro e w' ⟨rfl, rfl⟩
            have LB := Lib.hid LA.out
            clear LA HOF
            go_wp2_with fail
            (with_reducible refine (commit_at LB.out.st AL.out HN.out (by omega)).mono ?_)
            rintro e y1 ⟨ownc, DC, ec, rfl, lc, mc, hpc, hres⟩
            have LC := Lib.hid (LB.out.step lc mc)
            have PN := Lib.hid hpc
            clear lc mc hpc LB
            have BKZ := Lib.hid (BK1.out.upd (Upd.of_below (S := fun _ => False) LC.out.st.bel) (fun h => h))
            have u0 := BKZ.out.cell (i := 0) (v := .int .u16 c0) rfl
            have u1 := BKZ.out.cell (i := 1) (v := .int .u16 c1) rfl
            have u2 := BKZ.out.cell (i := 2) (v := .int .u16 c2) rfl
            have u3 := BKZ.out.cell (i := 3) (v := .int .u16 c3) rfl
            rcases hres with ⟨rfl, hr⟩ | ⟨hec, hr⟩
            · have HR := Lib.hid hr; clear hr
              go_wp2_with fail
              (with_reducible refine (HRC.out _ _ _ _ LC.out.st.dev PN.out.1 PN.out.2.1 (by have := PN.out.2.2; omega)).mono ?_)
              rintro e z1 ⟨ks, g, _, rfl, q1, b1⟩
              have Q1 := Lib.hid q1
              have L1 := Lib.hid (LC.out.next b1)
              clear q1 b1 u0 u1 u2 u3 BKZ
              have HO2 := Lib.hid (fun q => l16outside_any (w := z1.drewN q) (f := resC (DC.img ks)) (g := nx) (W1.out.below (L1.out.next (drewN_below z1 q)).st.bel) (Q1.out.kept (fun _ _ _ => rfl)) ((row_rd L1.out.rn (Nat.le_refl _)).kept (fun _ _ _ => rfl)))
              have HO3 := Lib.hid (l16outside_any (w := z1) (f := resC (DC.img ks)) (g := nx) (W1.out.below L1.out.st.bel) Q1.out (row_rd L1.out.rn (Nat.le_refl _)))
              rw [outB_of (HR.out ks)] at HO3
              clear HO2
              go_wp2_with fail
              (with_reducible refine HO3.out.mono ?_)
              rintro e z2 ⟨rfl, q, rfl⟩
              go_wp2_with fail
              go_ret
              exact ⟨rfl, B1.out.trans ((L1.out.next (drewN_below _ _)).st.bel.mono B1.out.size)⟩
            · have HR := Lib.hid hr; clear hr
              have hcb : (ec == 0) = false := by simpa using hec
              clear hec
              go_wp2_with fail
              (with_reducible refine (HRC.out _ _ _ _ LC.out.st.dev PN.out.1 PN.out.2.1 (by have := PN.out.2.2; omega)).mono ?_)
              rintro e z1 ⟨ks, g, _, rfl, q1, b1⟩
              have Q1 := Lib.hid q1
              have L1 := Lib.hid (LC.out.next b1)
              clear q1 b1 u0 u1 u2 u3 BKZ
              have HO1 := Lib.hid (l16outside_any (w := z1) (f := resC (DC.img ks)) (g := W0) (W1.out.below L1.out.st.bel) Q1.out (row_rd L1.out.ro (Nat.le_refl _)))
              have HO2 := Lib.hid (fun q => l16outside_any (w := z1.drewN q) (f := resC (DC.img ks)) (g := nx) (W1.out.below (L1.out.next (drewN_below z1 q)).st.bel) (Q1.out.kept (fun _ _ _ => rfl)) ((row_rd L1.out.rn (Nat.le_refl _)).kept (fun _ _ _ => rfl)))
              have HRK := Lib.hid ((HR.out ks).imp outB_of outB_of)
              generalize outB (resC (DC.img ks)) W0 = b1 at *
              generalize outB (resC (DC.img ks)) nx = b2 at *
              cases b1
              · obtain rfl : b2 = true := by rcases HRK.out with h | h; cases h; exact h
                go_wp2_with fail
                (with_reducible refine HO1.out.mono ?_)
                rintro e z2 ⟨rfl, q, rfl⟩
                go_wp2_with fail
                (with_reducible refine (HO2.out q).mono ?_)
                rintro e z3 ⟨rfl, q3, rfl⟩
                go_wp2_with fail
                go_ret
                exact ⟨rfl, B1.out.trans ((L1.out.next (drewN_below _ _)).st.bel.mono B1.out.size)⟩
              · go_wp2_with fail
                (with_reducible refine HO1.out.mono ?_)
                rintro e z2 ⟨rfl, q, rfl⟩
                go_wp2_with fail
                go_ret
                exact ⟨rfl, B1.out.trans ((L1.out.next (drewN_below _ _)).st.bel.mono B1.out.size)⟩
        · have DD := Lib.hid hD; clear hD PL
          rw [DD.out.off] at HOF
          have RES := Lib.hid (fun ks => outB_of (DD.out.res ks))
          have PN := Lib.hid (And.intro DD.out.n (And.intro DD.out.vb DD.out.exec))
          cases cb
          · have LB := Lib.hid LA.out
            clear LA HOF
            have BKZ := Lib.hid (BK1.out.upd (Upd.of_below (S := fun _ => False) LB.out.st.bel) (fun h => h))
            have u0 := BKZ.out.cell (i := 0) (v := .int .u16 c0) rfl
            have u1 := BKZ.out.cell (i := 1) (v := .int .u16 c1) rfl
            have u2 := BKZ.out.cell (i := 2) (v := .int .u16 c2) rfl
            have u3 := BKZ.out.cell (i := 3) (v := .int .u16 c3) rfl
            go_wp2_with fail
            (with_reducible refine (HRC.out _ _ _ _ LB.out.st.dev PN.out.1 PN.out.2.1 (by have := PN.out.2.2; omega)).mono ?_)
            rintro e z1 ⟨ks, g, _, rfl, q1, b1⟩
            have Q1 := Lib.hid q1
            have L1 := Lib.hid (LB.out.next b1)
            clear q1 b1 u0 u1 u2 u3 BKZ
            have HO1 := Lib.hid (l16outside_any (w := z1) (f := resC (D.img ks)) (g := W0) (W1.out.below L1.out.st.bel) Q1.out (row_rd L1.out.ro (Nat.le_refl _)))
            rw [RES.out ks] at HO1
            go_wp2_with fail
            (with_reducible refine HO1.out.mono ?_)
            rintro e z2 ⟨rfl, q, rfl⟩
            go_wp2_with fail
            go_ret
            exact ⟨rfl, B1.out.trans ((L1.out.next (drewN_below _ _)).st.bel.mono B1.out.size)⟩
          · go_wp2_with fail
            (with_reducible refine HOF.out.mono ?_)
            rintro e w' ⟨rfl, rfl⟩
            have LB := Lib.hid LA.out
            clear LA HOF
            have BKZ := Lib.hid (BK1.out.upd (Upd.of_below (S := fun _ => False) LB.out.st.bel) (fun h => h))
            have u0 := BKZ.out.cell (i := 0) (v := .int .u16 c0) rfl
            have u1 := BKZ.out.cell (i := 1) (v := .int .u16 c1) rfl
            have u2 := BKZ.out.cell (i := 2) (v := .int .u16 c2) rfl
            have u3 := BKZ.out.cell (i := 3) (v := .int .u16 c3) rfl
            go_wp2_with fail
            (with_reducible refine (HRC.out _ _ _ _ LB.out.st.dev PN.out.1 PN.out.2.1 (by have := PN.out.2.2; omega)).mono ?_)
            rintro e z1 ⟨ks, g, _, rfl, q1, b1⟩
            have Q1 := Lib.hid q1
            have L1 := Lib.hid (LB.out.next b1)
            clear q1 b1 u0 u1 u2 u3 BKZ
            have HO1 := Lib.hid (l16outside_any (w := z1) (f := resC (D.img ks)) (g := W0) (W1.out.below L1.out.st.bel) Q1.out (row_rd L1.out.ro (Nat.le_refl _)))
            rw [RES.out ks] at HO1
            go_wp2_with fail
            (with_reducible refine HO1.out.mono ?_)
            rintro e z2 ⟨rfl, q, rfl⟩
            go_wp2_with fail
            go_ret
            exact ⟨rfl, B1.out.trans ((L1.out.next (drewN_below _ _)).st.bel.mono B1.out.size)⟩
      · have hb8 : ((k : Int) == 6) = false := by simp; omega
        have HOB := Lib.hid (fun (wx : World) (hx : Below w.heap.size w wx) => l16offsets_any (w := wx) _ l true (hwv.below hx) hlb hll)
        have hfl := offsL_len l true; have hft := offsL_lt l true hlb; have hfg := offsL_good l
        clear hlb hll hwv
        generalize offsL l true = offs at *
        have HSV := Lib.hid (fun (wc : World) (own : Nat → Option Role) (hx : LSt w1 v own D lb 0 192 5 wc) (fv : Value) (hr : RdSl wc 1 fv offs.length (natsU offs)) => save_at hx PL.out (by omega) fv offs hr hfl hft hfg)
        have HFG := Lib.hid hfg
        clear hft hfg
        generalize hm : offs.length = m at *
        have HM := Lib.hid hm; clear hm
        have LB := Lib.hid (SZ.out.next (below_alloc wr (.cells #[.slice wa l.length wc, .int .u64 x] 43)))
        have KB := Lib.hid (Kp.boxed SZ.out.st (.slice wa l.length wc) (.int .u64 x) 43)
        have HPG : Hid (gn < wr.heap.size) := SZ.out.rn.lt
        go_wp2_with fail
        (with_reducible refine (HOB.out _ (B1.out.trans (LB.out.st.bel.mono B1.out.size))).mono ?_)
        rintro e w8 ⟨ov, rfl, a8⟩
        obtain ⟨oa, oc, hov⟩ := a8.slice
        subst hov
        have KO := Lib.hid (Kp.of LB.out.st a8)
        have HON : Hid ((Value.slice oa m oc).ownBlock ≠ some gn) := fun e => by have h1 := a8.new _ e; have h2 := HPG.out; simp at h1; omega
        have L8 := Lib.hid (LB.out.next a8.bel)
        have KB8 := Lib.hid (KB.out.next a8.bel); clear a8 SZ LB KB HOB
        generalize wr.heap.size = pb at *
        go_wp2_with fail
        (with_reducible refine (HSV.out _ _ L8.out.st _ KO.out.rd).mono ?_)
        rintro e w9 ⟨own9, D1, c, rfl, l9, m9, hsi⟩
        have L9 := Lib.hid (L8.out.step l9 m9)
        have KO9 := Lib.hid (KO.out.step m9); have KB9 := Lib.hid (KB8.out.step m9)
        clear l9 m9 L8 KO KB8 HSV
        rcases hsi with ⟨rfl, hal, hme, hnx⟩ | ⟨hc, hpl⟩
        · have PS0 : Hid (PlS D1 (200 * k + 100) offs nx) := .on hal hme hnx
          clear hal hme hnx PL
          go_wp2_with fail
          go_loopw [59] (fun y wq => ∃ (b : Nat) (D3 : Dev) (nx3 : Nat → Int) (own3 : Nat → Option Role), b ≤ m ∧ y = .int .i64 b ∧ Sa w1 v lb go gn D3 nx3 own3 wq ∧ PlS D3 (200 * k + 100 + b) offs nx3 ∧ Kp own3 wq 1 (.slice oa m oc) m (natsU offs) ∧ Kp own3 wq 2 (.slice (some ⟨pb, 0, none⟩) 1 1) 1 [.slice wa l.length wc, .int .u64 x]) (fun y _ => m - (intOf y).toNat)
          case atStart => exact ⟨0, D1, nx, own9, by omega, rfl, L9.out, PS0.out, KO9.out, KB9.out⟩
          case round =>
            clear L9 KO9 KB9 PS0
            obtain ⟨b, D3, nx3, own3, hb, rfl, hsa, hps, hko, hkb⟩ := hrel
            have SQ := Lib.hid hsa; have PS := Lib.hid hps; have KQ := Lib.hid hko; have BQ := Lib.hid hkb; clear hsa hps hko hkb
            by_cases hlt3 : b < m
            · have hb' : (b : Int) < m := by omega
              obtain ⟨o, ho⟩ : ∃ o, offs[b]? = some o := ⟨_, List.getElem?_eq_getElem (by rw [HM.out]; exact hlt3)⟩
              obtain ⟨_, a', c', e', _, hE⟩ := KQ.out.rd
              cases e'
              obtain ⟨fb, fo, rfl, hE2⟩ := rd_at hE (natsU_get ho)
              have e1 := hE2 _ _ (natsU_get ho)
              have x1 := BQ.out.two.2
              have hom := List.mem_of_getElem? ho
              have hog := allowed_out (HFG.out o hom)
              have hbw : IntKind.u64.wrap (b : Int) = (b : Int) := IntWalk.u64_in _ (by omega)
              have hyb := wrap_bd (x + (b : Int))
              have HYB := Lib.hid hyb
              have HPS := Lib.hid (PS.out.store o hom ⟨hog.1, hog.2.1⟩ (IntKind.u64.wrap (x + (b : Int))) hyb)
              have HSTO := Lib.hid (store_any SQ.out.st.dev (j := 0) (by omega) o (IntKind.u64.wrap (x + (b : Int))) (by have := PS.out.pl.exec; omega))
              have HSN : Hid ((D3.store 0 o (IntKind.u64.wrap (x + (b : Int)))).n = D3.n) := by
                show (D3.store 0 o (IntKind.u64.wrap (x + (b : Int)))).n = D3.n
                rw [HPS.out.pl.n, PS.out.pl.n]
              obtain ⟨d, hd⟩ : ∃ d, o / 8 = d := ⟨_, rfl⟩
              have z1 : (o : Int) / 8 = (d : Int) := by omega
              have z2 : (o : Int).tdiv 8 = (d : Int) := by rw [Int.tdiv_eq_ediv_of_nonneg (by omega)]; omega
              have hdn : d < 192 := by omega
              have hdn' : (d : Int) < 192 := by omega
              rw [hd] at HPS
              clear hE hE2 ho hyb hom hog hd
              generalize hy : IntKind.u64.wrap (x + (b : Int)) = y at *
              generalize D3.store 0 o y = D4 at *
              go_wp2_with fail
              (with_reducible refine HSTO.out.mono ?_)
              rintro e w10 ⟨rfl, p10⟩
              obtain ⟨own4, l10, m10⟩ := SQ.out.st.stepM (D' := D4) HSN.out p10
              have S10 := Lib.hid (SQ.out.step l10 m10); have K10 := Lib.hid (KQ.out.step m10); have B10 := Lib.hid (BQ.out.step m10)
              clear p10 l10 m10 SQ KQ BQ HSTO e1 x1
              have x1 := B10.out.two.2
              have hcell := S10.out.rn.cell hdn
              have hfro := S10.out.rn.frozen d
              go_wp2_with fail
              go_roundw
              case rel => exact ⟨b + 1, D4, _, own4, by omega, by go_num, S10.out.put d y HYB.out, HPS.out, K10.out.poke (Upd.set1 _ gn d _) HON.out, B10.out.poke (Upd.set1 _ gn d _) (by simp [Value.ownBlock]; have := HPG.out; omega)⟩
              case measure => simp [intOf]; omega
            · obtain rfl : b = m := by omega
              have P9 := Lib.hid (PS.out.pl.mono (y := 200 * (k + 1)) (by omega))
              clear PS KQ BQ
              go_wp2_with fail
              go_roundw
              case rel => exact ⟨k + 1, D3, nx3, own3, by omega, by omega, by go_num, SQ.out, P9.out⟩
              case measure => simp [intOf]; omega
        · have hcb : (c != 0) = true := by simpa using hc
          have P9 := Lib.hid (hpl.mono (y := 200 * (k + 1)) (by omega))
          clear hc hpl PL KO9 KB9
          go_wp2_with fail
          go_roundw
          case rel => exact ⟨k + 1, D1, nx, own9, by omega, by omega, by go_num, L9.out, P9.out⟩
          case measure => simp [intOf]; omega
    · obtain rfl : k = n := by omega
      have LA := Lib.hid SZ.out
      clear SZ
      focus
        have HOF := Lib.hid (devOff_any LA.out.st.dev)
        rcases PL.out with ⟨hA, hN⟩ | hD
        · have AL := Lib.hid hA; have HN := Lib.hid hN; clear hA hN PL
          rw [AL.out.on.off] at HOF
          cases cb
          · have RES := Lib.hid (fun ks => outB_of (AL.out.fit ks).res)
            have PN := Lib.hid (And.intro AL.out.on.n (And.intro AL.out.vb AL.out.exec))
            have LB := Lib.hid LA.out
            clear LA HOF
            have BKZ := Lib.hid (BK1.out.upd (Upd.of_below (S := fun _ => False) LB.out.st.bel) (fun h => h))
            have u0 := BKZ.out.cell (i := 0) (v := .int .u16 c0) rfl
            have u1 := BKZ.out.cell (i := 1) (v := .int .u16 c1) rfl
            have u2 := BKZ.out.cell (i := 2) (v := .int .u16 c2) rfl
            have u3 := BKZ.out.cell (i := 3) (v := .int .u16 c3) rfl
            go_wp2_with fail
            (with_reducible refine (HRC.out _ _ _ _ LB.out.st.dev PN.out.1 PN.out.2.1 (by have := PN.out.2.2; omega)).mono ?_)
            rintro e z1 ⟨ks, g, _, rfl, q1, b1⟩
            have Q1 := Lib.hid q1
            have L1 := Lib.hid (LB.out.next b1)
            clear q1 b1 u0 u1 u2 u3 BKZ
            have HO1 := Lib.hid (l16outside_any (w := z1) (f := resC (D.img ks)) (g := W0) (W1.out.below L1.out.st.bel) Q1.out (row_rd L1.out.ro (Nat.le_refl _)))
            rw [RES.out ks] at HO1
            go_wp2_with fail
            (with_reducible refine HO1.out.mono ?_)
            rintro e z2 ⟨rfl, q, rfl⟩
            go_wp2_with fail
            go_ret
            exact ⟨rfl, B1.out.trans ((L1.out.next (drewN_below _ _)).st.bel.mono B1.out.size)⟩
          · go_wp2_with fail
            (with_reducible refine HOF.out.mono ?_)
            rintro e w' ⟨rfl, rfl⟩
            have LB := Lib.hid LA.out
            clear LA HOF
            go_wp2_with fail
            (with_reducible refine (commit_at LB.out.st AL.out HN.out (by omega)).mono ?_)
            rintro e y1 ⟨ownc, DC, ec, rfl, lc, mc, hpc, hres⟩
            have LC := Lib.hid (LB.out.step lc mc)
            have PN := Lib.hid hpc
            clear lc mc hpc LB
            have BKZ := Lib.hid (BK1.out.upd (Upd.of_below (S := fun _ => False) LC.out.st.bel) (fun h => h))
            have u0 := BKZ.out.cell (i := 0) (v := .int .u16 c0) rfl
            have u1 := BKZ.out.cell (i := 1) (v := .int .u16 c1) rfl
            have u2 := BKZ.out.cell (i := 2) (v := .int .u16 c2) rfl
            have u3 := BKZ.out.cell (i := 3) (v := .int .u16 c3) rfl
            rcases hres with ⟨rfl, hr⟩ | ⟨hec, hr⟩
            · have HR := Lib.hid hr; clear hr
              go_wp2_with fail
              (with_reducible refine (HRC.out _ _ _ _ LC.out.st.dev PN.out.1 PN.out.2.1 (by have := PN.out.2.2; omega)).mono ?_)
              rintro e z1 ⟨ks, g, _, rfl, q1, b1⟩
              have Q1 := Lib.hid q1
              have L1 := Lib.hid (LC.out.next b1)
              clear q1 b1 u0 u1 u2 u3 BKZ
              have HO2 := Lib.hid (fun q => l16outside_any (w := z1.drewN q) (f := resC (DC.img ks)) (g := nx) (W1.out.below (L1.out.next (drewN_below z1 q)).st.bel) (Q1.out.kept (fun _ _ _ => rfl)) ((row_rd L1.out.rn (Nat.le_refl _)).kept (fun _ _ _ => rfl)))
              have HO3 := Lib.hid (l16outside_any (w := z1) (f := resC (DC.img ks)) (g := nx) (W1.out.below L1.out.st.bel) Q1.out (row_rd L1.out.rn (Nat.le_refl _)))
              rw [outB_of (HR.out ks)] at HO3
              clear HO2
              go_wp2_with fail
              (with_reducible refine HO3.out.mono ?_)
              rintro e z2 ⟨rfl, q, rfl⟩
              go_wp2_with fail
              go_ret
              exact ⟨rfl, B1.out.trans ((L1.out.next (drewN_below _ _)).st.bel.mono B1.out.size)⟩
            · have HR := Lib.hid hr; clear hr
              have hcb : (ec == 0) = false := by simpa using hec
              clear hec
              go_wp2_with fail
              (with_reducible refine (HRC.out _ _ _ _ LC.out.st.dev PN.out.1 PN.out.2.1 (by have := PN.out.2.2; omega)).mono ?_)
              rintro e z1 ⟨ks, g, _, rfl, q1, b1⟩
              have Q1 := Lib.hid q1
              have L1 := Lib.hid (LC.out.next b1)
              clear q1 b1 u0 u1 u2 u3 BKZ
              have HO1 := Lib.hid (l16outside_any (w := z1) (f := resC (DC.img ks)) (g := W0) (W1.out.below L1.out.st.bel) Q1.out (row_rd L1.out.ro (Nat.le_refl _)))
              have HO2 := Lib.hid (fun q => l16outside_any (w := z1.drewN q) (f := resC (DC.img ks)) (g := nx) (W1.out.below (L1.out.next (drewN_below z1 q)).st.bel) (Q1.out.kept (fun _ _ _ => rfl)) ((row_rd L1.out.rn (Nat.le_refl _)).kept (fun _ _ _ => rfl)))
              have HRK := Lib.hid ((HR.out ks).imp outB_of outB_of)
              generalize outB (resC (DC.img ks)) W0 = b1 at *
              generalize outB (resC (DC.img ks)) nx = b2 at *
              cases b1
              · obtain rfl : b2 = true := by rcases HRK.out with h | h; cases h; exact h
                go_wp2_with fail
                (with_reducible refine HO1.out.mono ?_)
                rintro e z2 ⟨rfl, q, rfl⟩
                go_wp2_with fail
                (with_reducible refine (HO2.out q).mono ?_)
                rintro e z3 ⟨rfl, q3, rfl⟩
                go_wp2_with fail
                go_ret
                exact ⟨rfl, B1.out.trans ((L1.out.next (drewN_below _ _)).st.bel.mono B1.out.size)⟩
              · go_wp2_with fail
                (with_reducible refine HO1.out.mono ?_)
                rintro e z2 ⟨rfl, q, rfl⟩
                go_wp2_with fail
                go_ret
                exact ⟨rfl, B1.out.trans ((L1.out.next (drewN_below _ _)).st.bel.mono B1.out.size)⟩
        · have DD := Lib.hid hD; clear hD PL
          rw [DD.out.off] at HOF
          have RES := Lib.hid (fun ks => outB_of (DD.out.res ks))
          have PN := Lib.hid (And.intro DD.out.n (And.intro DD.out.vb DD.out.exec))
          cases cb
          · have LB := Lib.hid LA.out
            clear LA HOF
            have BKZ := Lib.hid (BK1.out.upd (Upd.of_below (S := fun _ => False) LB.out.st.bel) (fun h => h))
            have u0 := BKZ.out.cell (i := 0) (v := .int .u16 c0) rfl
            have u1 := BKZ.out.cell (i := 1) (v := .int .u16 c1) rfl
            have u2 := BKZ.out.cell (i := 2) (v := .int .u16 c2) rfl
            have u3 := BKZ.out.cell (i := 3) (v := .int .u16 c3) rfl
            go_wp2_with fail
            (with_reducible refine (HRC.out _ _ _ _ LB.out.st.dev PN.out.1 PN.out.2.1 (by have := PN.out.2.2; omega)).mono ?_)
            rintro e z1 ⟨ks, g, _, rfl, q1, b1⟩
            have Q1 := Lib.hid q1
            have L1 := Lib.hid (LB.out.next b1)
            clear q1 b1 u0 u1 u2 u3 BKZ
            have HO1 := Lib.hid (l16outside_any (w := z1) (f := resC (D.img ks)) (g := W0) (W1.out.below L1.out.st.bel) Q1.out (row_rd L1.out.ro (Nat.le_refl _)))
            rw [RES.out ks] at HO1
            go_wp2_with fail
            (with_reducible refine HO1.out.mono ?_)
            rintro e z2 ⟨rfl, q, rfl⟩
            go_wp2_with fail
            go_ret
            exact ⟨rfl, B1.out.trans ((L1.out.next (drewN_below _ _)).st.bel.mono B1.out.size)⟩
          · go_wp2_with fail
            (with_reducible refine HOF.out.mono ?_)
            rintro e w' ⟨rfl, rfl⟩
            have LB := Lib.hid LA.out
            clear LA HOF
            have BKZ := Lib.hid (BK1.out.upd (Upd.of_below (S := fun _ => False) LB.out.st.bel) (fun h => h))
            have u0 := BKZ.out.cell (i := 0) (v := .int .u16 c0) rfl
            have u1 := BKZ.out.cell (i := 1) (v := .int .u16 c1) rfl
            have u2 := BKZ.out.cell (i := 2) (v := .int .u16 c2) rfl
            have u3 := BKZ.out.cell (i := 3) (v := .int .u16 c3) rfl
            go_wp2_with fail
            (with_reducible refine (HRC.out _ _ _ _ LB.out.st.dev PN.out.1 PN.out.2.1 (by have := PN.out.2.2; omega)).mono ?_)
            rintro e z1 ⟨ks, g, _, rfl, q1, b1⟩
            have Q1 := Lib.hid q1
            have L1 := Lib.hid (LB.out.next b1)
            clear q1 b1 u0 u1 u2 u3 BKZ
            have HO1 := Lib.hid (l16outside_any (w := z1) (f := resC (D.img ks)) (g := W0) (W1.out.below L1.out.st.bel) Q1.out (row_rd L1.out.ro (Nat.le_refl _)))
            rw [RES.out ks] at HO1
            go_wp2_with fail
            (with_reducible refine HO1.out.mono ?_)
            rintro e z2 ⟨rfl, q, rfl⟩
            go_wp2_with fail
            go_ret
            exact ⟨rfl, B1.out.trans ((L1.out.next (drewN_below _ _)).st.bel.mono B1.out.size)⟩
end
end Go.Proofs.YtokgplgdaememaaDoor

/- The argument cut of UndoAtomic: opened. -/
namespace Go.Proofs.YtokgplgdaememaaDoor
open Go.ChangeShapes Go.WideShapes Go.ChangeAt Go.RowKit Go.Joins Go.Deep

section
variable {H : Type} {enc : TypeId × Value → H}
theorem cells_u16 : Tryd.prog.cellsOf 89 = 1 := by kernel_rfl
theorem cells_arr : Tryd.prog.cellsOf 90 = 4 := by kernel_rfl
theorem u16_in {x : Int} (h : (Lit.int .u16 x).wf = true) : 0 ≤ x ∧ x < 65536 := by
  simp [Lit.wf, IntKind.min, IntKind.max, IntKind.signed, IntKind.bits] at h
  exact ⟨by omega, by omega⟩
set_option maxRecDepth 100000 in
theorem open_cut4 {W : World} {base b : Nat} {sp : Nat → Bool} {hd : Bool} {v : Value} {d : DataW H} {p : List MemPlace} (hv : Value.okWide Tryd.prog W .any b 90 v) (h : DataW.Trod enc Tryd.prog W base sp hd 90 v d p) :
    ∃ c0 c1 c2 c3 : Int, v = .agg #[.int .u16 c0, .int .u16 c1, .int .u16 c2, .int .u16 c3] ∧ (0 ≤ c0 ∧ c0 < 65536) ∧ (0 ≤ c1 ∧ c1 < 65536) ∧ (0 ≤ c2 ∧ c2 < 65536) ∧ (0 ≤ c3 ∧ c3 < 65536) := by
  simp only [Value.okWide, Tryd.underlying90] at hv
  obtain ⟨cs, rfl, hsz, _⟩ := hv
  rw [cells_arr] at hsz
  obtain ⟨l⟩ := cs
  obtain ⟨v0, v1, v2, v3, rfl⟩ : ∃ v0 v1 v2 v3, l = [v0, v1, v2, v3] := by
    match l, hsz with
    | [a, b, c, d], _ => exact ⟨a, b, c, d, rfl⟩
  obtain ⟨fuel, hf⟩ := h
  obtain ⟨y0, y1, y2, y3, m, _, hy0, hy1, hy2, hy3⟩ := trod_array4 Tryd.underlying90 cells_u16 hf
  obtain ⟨x0, e0, _, w0⟩ := DataW.trod_int Tryd.underlying89 hy0
  obtain ⟨x1, e1, _, w1⟩ := DataW.trod_int Tryd.underlying89 hy1
  obtain ⟨x2, e2, _, w2⟩ := DataW.trod_int Tryd.underlying89 hy2
  obtain ⟨x3, e3, _, w3⟩ := DataW.trod_int Tryd.underlying89 hy3
  simp at e0 e1 e2 e3
  subst e0 e1 e2 e3
  exact ⟨x0, x1, x2, x3, rfl, u16_in w0, u16_in w1, u16_in w2, u16_in w3⟩
end
end Go.Proofs.YtokgplgdaememaaDoor

/- UndoAtomic returns true for every input, over the listed variable as the program's text lays it: whenever the power fails, and again in the recovery, before Commit begins recovery leads to the saved values, after it has returned to the new ones, in between to either. No condition besides. -/
namespace Go.Proofs.YtokgplgdaememaaDoor
open Go.ChangeShapes Go.WideShapes Go.ChangeAt Go.RowKit Go.Joins

set_option maxRecDepth 100000 in
theorem undoAtomic_lifted (os : Os) (started : os.Started) (H : Type) (enc : TypeId × Value → H) :
    ReturnsInHanded {} Tryd.checked os 10 .any (fun w args => (Rows.undoAtomicSpec.pre enc Tryd.prog Tryd.f10 Rows.undoAtomicRow.domain false w args ∧ laidMetH Tryd.prog laidU w) ∧ sizedMet enc Tryd.prog Tryd.f10 (OpenSpec.ofChange Rows.undoAtomicSpec) false w args)
      (Rows.undoAtomicSpec.post enc Tryd.prog Tryd.f10 false true false false) := by
  refine returnsInHanded_of_change_and (C := Tryd.checked) (X := fun w _ => laidMetH Tryd.prog laidU w) (fun _ _ _ hh h => h.of_heap hh) own_knob started (by kernel_rfl) Tryd.func10
    (ChangeSpec.witness_shaped (enc := enc) (C := Tryd.checked) (os := os) (X := fun w _ => laidMetH Tryd.prog laidU w) false (World.laidAll Tryd.prog os laidU) #[.slice none 0 0, .bool false, .agg #[.int .u16 0, .int .u16 0, .int .u16 0, .int .u16 0]] 8 (World.laidAll_os _ _ _)
      (World.shaped_of_ZipB (by kernel_rfl) (by kernel_rfl)) (by kernel_rfl) (by kernel_rfl) (by kernel_rfl)
      (by rw [MakeChecks.laidMetH_plain _ _ _ (by kernel_rfl)]; exact laidMet_laidAll _ (by kernel_rfl) (by kernel_rfl))) ?_
  intro W base args ds gs before hval0 hW _ _ hL _
  have hval : ∀ (j : Nat) t v, Tryd.f10.params[j]? = some t → args[j]? = some v → Value.okWide Tryd.prog W .any base t v := hval0
  have hW' := hW
  have HWH := wh_of_laid hL
  obtain ⟨p, q, hA0, hV, rfl, hfz, hnd⟩ := hW
  have hA : DataW.TrodAll enc Tryd.prog W 0 (fun _ => true) true Tryd.f10.params.toList args.toList ds p := hA0
  rw [Tryd.params10] at hA hval
  clear hA0 hval0
  obtain ⟨v0, vs0, d0, ds0, p0, q0, hargs, rfl, rfl, h0, r0⟩ := trodAll_cons hA
  obtain ⟨v1, vs1, d1, ds1, p1, q1, hargs1, rfl, rfl, h1, r1⟩ := trodAll_cons r0
  obtain ⟨v2, vs2, d2, ds2, p2, q2, hargs2, rfl, rfl, h2, r2⟩ := trodAll_cons r1
  obtain ⟨rfl, rfl, rfl⟩ := trodAll_nil r2
  obtain rfl : args = #[v0, v1, v2] := by cases args; simp_all
  obtain ⟨n, xs, hs, hn, hac⟩ := open_acts (hval 0 40 v0 rfl rfl) h0
  obtain ⟨cb, rfl, _, _⟩ := open_bool Tryd.underlying4 (hval 1 4 v1 rfl rfl) h1
  obtain ⟨c0, c1, c2, c3, rfl, k0, k1, k2, k3⟩ := open_cut4 (hval 2 90 v2 rfl rfl) h2
  refine (undoAtomic_any HWH v0 n xs hs hn hac cb c0 c1 c2 c3 k0 k1 k2 k3).mono fun e W' ⟨he, hg⟩ => ?_
  subst he
  refine ⟨_, rfl, law_post hW' rfl (by kernel_rfl) rfl ?_ hg⟩
  rw [Tryd.params10]
  intro t ht
  have hall : ([40, 4, 90].all fun t => Tryd.prog.readableRec t && decide (t < Tryd.prog.types.size)) = true := by kernel_rfl
  have := List.all_eq_true.1 hall t ht
  simpa using this

theorem undoAtomic_row : Rows.UndoAtomicSaid :=
  OpenClaim.holds_of_wide 10 Tryd.f10 rfl rfl rfl rfl rfl rfl rfl ⟨rfl, rfl, rfl, rfl, rfl⟩ rfl rfl rfl rfl rfl (by kernel_rfl) Tryd.func10 (by kernel_rfl)
    (of_decide_eq_true (by kernel_rfl)) (by unfold Func.isWrapper; first | (rw [if_pos (by decide +kernel)]; kernel_rfl) | (rw [if_neg (by decide +kernel)]; exact ⟨rfl, rfl⟩))
    (fun os started H enc _ => undoAtomic_lifted os started H enc)
theorem undoAtomic_holds : Rows.UndoAtomicCardSaid :=
  Claim7.holds_tied_plain_at .later [] [.data] true (true, "5d02ff41f4c91551bdde88e9d7154ed27509754a1175b7e710bd6818def5a27d") false undoAtomic_row (fun _ h => by cases h) (by kernel_rfl) (fun _ h => by cases h) undoAtomic_row_tie rfl ⟨rfl, rfl⟩ (by kernel_rfl) rfl
    (fun f fn hf hfn => by
      obtain rfl : f = 10 := Option.some.inj ((show Tryd.prog.funcNamed "bedrock/bedrocklaw16.UndoAtomic" = some 10 by kernel_rfl).symm.trans hf) |>.symm
      obtain rfl : fn = Tryd.f10 := (Option.some.inj (Tryd.func10.symm.trans hfn)).symm
      exact ⟨by kernel_rfl, fun j t ht => by
        rw [Tryd.params10] at ht
        have hm : t ∈ [40, 4, 90] := by simpa using Array.mem_of_getElem? ht
        have hall : ([40, 4, 90].all fun u => !Tryd.prog.wantsStandIn u) = true := by kernel_rfl
        exact (show Tryd.prog.wantsStandIn t = false by simpa using List.all_eq_true.1 hall t hm)⟩)
    (by kernel_rfl)
#print axioms undoAtomic_holds
end Go.Proofs.YtokgplgdaememaaDoor
