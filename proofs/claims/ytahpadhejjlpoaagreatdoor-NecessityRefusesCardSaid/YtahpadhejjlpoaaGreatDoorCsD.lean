/- The walks of total, Count and split. -/
import Derived.Test.YtahpadhejjlpoaaGreatDoorCsC
import Derived.Test.YtahpadhejjlpoaaGreatDoorShelf
namespace Go.Proofs.YtahpadhejjlpoaaGreatDoor
open Go.RowKit
attribute [local go_sem ↓] Go.wp_at_zero Go.wp_at_succ

section
variable {w : World} {v : DV} {own : Nat → Option Role} {D : Dev} {pg N : Nat} {lv hv : Value} {hs : List Value}
theorem bases_at (D : Dev) (k l : Nat) (h : D.dirtyL[k]? = some l) : (basesL D).take (k + 1) = (basesL D).take k ++ [(D.hist l).length + 1] ∧ (basesL D)[k]? = some ((D.hist l).length + 1) := by
  have h1 : (basesL D)[k]? = some ((D.hist l).length + 1) := by unfold basesL; rw [List.getElem?_map, h]; rfl
  exact ⟨by rw [List.take_add_one, h1]; rfl, h1⟩
theorem basesL_len (D : Dev) : (basesL D).length = D.dirtyL.length := by unfold basesL; rw [List.length_map]
set_option maxRecDepth 100000 in
set_option maxHeartbeats 4000000 in
theorem total_any (h : ExAt D pg lv hv hs w) (hp : prodN (basesL D) < 18446744073709551616) (hm : D.dirtyL.length ≤ 1000000) (hq : ∀ l ∈ D.dirtyL, (D.hist l).length ≤ 1000000000) :
    Calls Tryz.prog 103 #[.agg #[.slice (some ⟨pg, 0, none⟩) N N, lv, hv]] w fun r w' => r = .returned (.tuple #[.int .u64 (prodN (basesL D) : Nat), .bool true]) ∧ Below w.heap.size w w' := by
  have K0 := Lib.hid (Blk.new w #[.slice (some ⟨pg, 0, none⟩) N N, lv, hv] 78)
  have B0 := Lib.hid (below_alloc w (.cells #[.slice (some ⟨pg, 0, none⟩) N N, lv, hv] 78))
  have H := Lib.hid (h.next B0.out)
  have HQ := Lib.hid hq
  have HP := Lib.hid hp
  have HLE := Lib.hid (fun k => prodN_le (basesL D) (basesL_pos D) k)
  have HBA := Lib.hid (bases_at D)
  have HALL : Hid ((basesL D).take D.dirtyL.length = basesL D) := List.take_of_length_le (by rw [basesL_len]; exact Nat.le_refl _)
  obtain ⟨m, hmm⟩ : ∃ m, D.dirtyL.length = m := ⟨_, rfl⟩
  have HM := Lib.hid hmm
  have hh := h.hist
  rw [hmm] at hm HALL hh
  obtain ⟨_, ha, hc, rfl, hmc, _⟩ := hh
  clear h hp hq hmm
  go_enter Tryz.func103, Tryz.ntmps103
  go_wp2_with fail
  go_loop [4, 6, 7, 8, 12] (fun z _ _ _ y => ∃ k : Nat, k ≤ m ∧ y = .int .i64 k ∧ z = .int .u64 (prodN ((basesL D).take k) : Nat)) (fun _ _ _ _ y => m - (intOf y).toNat)
  case atStart => exact ⟨0, by omega, rfl, rfl⟩
  case round =>
    obtain ⟨k, hk, rfl, rfl⟩ := hrel
    by_cases hlt : k < m
    · have hlt' : (k : Int) < m := by omega
      obtain ⟨l, hl⟩ : ∃ l, D.dirtyL[k]? = some l := ⟨_, List.getElem?_eq_getElem (by rw [HM.out]; exact hlt)⟩
      obtain ⟨u, r1, r2⟩ := H.out.row k l hl
      have hq1 := HQ.out l (List.mem_of_getElem? hl)
      obtain ⟨hb1, _⟩ := HBA.out k l hl
      have hle := HLE.out (k + 1)
      have hle0 := HLE.out k
      have hp := HP.out
      obtain ⟨_, _, _, e', _, hE⟩ := H.out.hist
      cases e'
      obtain ⟨hb, ho, rfl, hE2⟩ := rd_at hE r1
      have c1 := hE2 k _ r1
      obtain ⟨_, ua, uc, rfl, _, _⟩ := r2
      obtain ⟨q, hqd⟩ : ∃ q, (D.hist l).length = q := ⟨_, rfl⟩
      rw [hqd] at c1 hq1 hb1
      rw [hb1, prodN_snoc] at hle
      have HNX : Hid (prodN ((basesL D).take (k + 1)) = prodN ((basesL D).take k) * (q + 1)) := by show _ = _; rw [hb1, prodN_snoc]
      obtain ⟨P, hP⟩ : ∃ P, prodN ((basesL D).take k) = P := ⟨_, rfl⟩
      rw [hP] at hle hle0 HNX ⊢
      have hP64 : P < 18446744073709551616 := by omega
      have hPq : P * (q + 1) < 18446744073709551616 := by omega
      have ga1 : IntKind.u64.wrap (q : Int) = (q : Int) := IntWalk.u64_in _ (by omega)
      have ga2 : IntKind.u64.wrap ((q : Int) + 1) = (q : Int) + 1 := IntWalk.u64_in _ (by omega)
      have HMU : Hid (∀ wx, Calls Tryz.prog 165 #[.int .u64 (P : Int), .int .u64 ((q : Int) + 1)] wx fun e w' => e = .returned (.tuple #[.int .u64 0, .int .u64 ((P * (q + 1) : Nat) : Int)]) ∧ wx = w') := fun wx => by
        have := Tryz.bits_Mul64 P (q + 1) hP64 (by omega) wx
        rw [Nat.div_eq_of_lt hPq, Nat.mod_eq_of_lt hPq, show (((q + 1 : Nat)) : Int) = (q : Int) + 1 by omega] at this
        exact this.mono fun _ _ ⟨h1, h2⟩ => ⟨h1, h2.symm⟩
      clear hE hE2 r1 hl hqd hb1 hP hp hle hle0
      go_wp2_with fail
      (with_reducible refine (HMU.out _).mono ?_)
      rintro r w' ⟨rfl, rfl⟩
      go_wp2_with fail
      go_round
      case rel => exact ⟨k + 1, by omega, by go_num, by rw [HNX.out]; simp⟩
      case measure => simp [intOf]; omega
    · obtain rfl : k = m := by omega
      rw [HALL.out]
      go_wp2_with fail
      go_ret2
      exact ⟨rfl, B0.out⟩
set_option maxRecDepth 100000 in
set_option maxHeartbeats 4000000 in
theorem count_any (h : IsDev w v own D) (hvb : D.VB) (hx : D.exec < 1000000000) (hp : prodN (basesL D) ≤ 4611686018427387904) (hq : ∀ l ∈ D.dirtyL, (D.hist l).length ≤ 1000000000) :
    Calls Tryz.prog 25 #[.pointer (some ⟨v.db, 0, none⟩)] w fun r w' => r = .returned (.tuple #[.int .u64 (prodN (basesL D) : Nat), .bool true]) ∧ Below w.heap.size w w' := by
  have hdl : D.dirtyL.length ≤ 1000000 := by
    have h1 : D.dirtyL.length ≤ D.n := by unfold Dev.dirtyL; exact filt_len D D.n
    have := h.wf.le
    omega
  have HE := Lib.hid (examine_any h hvb (by omega))
  have HT := Lib.hid (fun (wx : World) (pg : Nat) (lv hv : Value) (hs : List Value) (hE : ExAt D pg lv hv hs wx) => total_any (N := 64 * D.n) hE (by omega) hdl hq)
  obtain ⟨P, hP⟩ : ∃ P, prodN (basesL D) = P := ⟨_, rfl⟩
  rw [hP] at hp HT ⊢
  have hp2 : ¬ (4611686018427387904 : Int) < (P : Int) := by omega
  clear h hvb hx hq hdl hP hp
  go_enter Tryz.func25, Tryz.ntmps25
  go_wp2_with fail
  (with_reducible refine HE.out.mono ?_)
  rintro r w1 ⟨pg, lv, hv, hs, rfl, hE, b1⟩
  have HT1 := Lib.hid (HT.out _ _ _ _ _ hE)
  have B1 := Lib.hid b1
  clear hE b1 HE HT
  go_wp2_with fail
  (with_reducible refine HT1.out.mono ?_)
  rintro r w2 ⟨rfl, b2⟩
  have B2 := Lib.hid (B1.out.trans (b2.mono B1.out.size))
  clear b2 HT1
  go_wp2_with fail
  go_ret2
  exact ⟨rfl, B2.out⟩
theorem mkInts (wx : World) (n : Nat) (hn : n ≤ 1000000) : (Instr.makeSlice 75 (.int .i64 n) (.int .i64 n)).run Tryz.prog wx = .ok (.slice (some ⟨wx.heap.size, 0, none⟩) n n) (wx.alloc (.cells (madeCells #[.int .i64 0] n) 3)) := by
  obtain ⟨i0, hi, hz0, hz1, hz2⟩ := info_parts infoInt
  have := run_make (P := Tryz.prog) wx 75 3 i0 _ Tryz.underlying75 hi hz0 .i64 .i64 n n (by omega) (by omega) (by rw [hz2]; omega) (by omega)
  rw [hz1] at this
  simpa [Value.cells] using this
/-- Where split stands: the digits from k on are taken. -/
structure SpSt (w wb : World) (D : Dev) (m g N0 k n' : Nat) (wr : World) : Prop where
  row : ∃ f : Nat → Nat, Row wr g m 3 (fun i => .int .i64 (f i)) ∧ ∀ (i b : Nat), k ≤ i → (basesL D)[i]? = some b → f i < b ∧ f i = digN (basesL D) N0 i
  n : n' < prodN ((basesL D).take k)
  dig : n' = N0 / prodN ((basesL D).drop k)
  bel : Below w.heap.size w wr
  up : Upd (· = g) wb wr
theorem SpSt.step {m g N0 i n' q : Nat} {wb wr : World} (h : SpSt w wb D m g N0 (i + 1) n' wr) (hg : w.heap.size ≤ g) (hb : (basesL D).take (i + 1) = (basesL D).take i ++ [q + 1]) (hq : (basesL D)[i]? = some (q + 1)) : SpSt w wb D m g N0 i (n' / (q + 1)) (wr.setCell ⟨g, i, none⟩ (.int .i64 ((n' % (q + 1) : Nat) : Int))) := by
  obtain ⟨f, h1, h2⟩ := h.row
  have hn := h.n
  have hd := h.dig
  rw [hb, prodN_snoc] at hn
  refine ⟨⟨fun j => if j = i then n' % (q + 1) else f j, (h1.set i (.int .i64 ((n' % (q + 1) : Nat) : Int))).congr (fun j _ => ?_), fun j b hj hjb => ?_⟩, Nat.div_lt_of_lt_mul (by rw [Nat.mul_comm]; exact hn), ?_, h.bel.setCell hg _, h.up.setCell (fun _ => rfl) _⟩
  · by_cases e : j = i
    · simp only [if_pos e]
    · simp only [if_neg e]
  · by_cases e : j = i
    · simp only [if_pos e]
      subst e
      rw [hq] at hjb
      cases hjb
      refine ⟨Nat.mod_lt _ (by omega), ?_⟩
      unfold digN
      rw [hd, List.getD_eq_getElem?_getD, hq]
      rfl
    · simp only [if_neg e]
      exact h2 j b (by omega) hjb
  · rw [prodN_drop hq, hd, Nat.div_div_eq_div_mul]
set_option maxRecDepth 100000 in
set_option maxHeartbeats 4000000 in
theorem splitN_any (h : ExAt D pg lv hv hs w) (n : Nat) (hn : n < prodN (basesL D)) (hp : prodN (basesL D) < 18446744073709551616) (hm : D.dirtyL.length ≤ 1000000) (hq : ∀ l ∈ D.dirtyL, (D.hist l).length ≤ 1000000000) :
    Calls Tryz.prog 29 #[.agg #[.slice (some ⟨pg, 0, none⟩) N N, lv, hv], .int .u64 n] w fun r w' => ∃ (g : Nat) (f : Nat → Nat), r = .returned (.tuple #[.slice (some ⟨g, 0, none⟩) D.dirtyL.length D.dirtyL.length, .bool true]) ∧ Row w' g D.dirtyL.length 3 (fun i => .int .i64 (f i)) ∧ (∀ (i b : Nat), (basesL D)[i]? = some b → f i < b ∧ f i = digN (basesL D) n i) ∧ w.heap.size ≤ g ∧ Below w.heap.size w w' := by
  have K0 := Lib.hid (Blk.new w #[.slice (some ⟨pg, 0, none⟩) N N, lv, hv] 78)
  have B0 := Lib.hid (below_alloc w (.cells #[.slice (some ⟨pg, 0, none⟩) N N, lv, hv] 78))
  have H := Lib.hid h
  have HQ := Lib.hid hq
  have HP := Lib.hid hp
  have HLE := Lib.hid (fun k => prodN_le (basesL D) (basesL_pos D) k)
  have HBA := Lib.hid (bases_at D)
  have HALL : Hid ((basesL D).take D.dirtyL.length = basesL D) := List.take_of_length_le (by rw [basesL_len]; exact Nat.le_refl _)
  have HBL := Lib.hid (basesL_len D)
  obtain ⟨m, hmm⟩ : ∃ m, D.dirtyL.length = m := ⟨_, rfl⟩
  have HM := Lib.hid hmm
  have hh := h.hist
  have hl := h.lines
  rw [hmm] at hm HALL hh hl HBL ⊢
  obtain ⟨_, ha, hc, rfl, hmc, _⟩ := hh
  obtain ⟨_, la, lc, rfl, _, _⟩ := hl
  have K2 : Hid (Blk ((w.alloc (.cells #[.slice (some ⟨pg, 0, none⟩) N N, .slice la m lc, .slice ha m hc] 78)).alloc (.cells (madeCells #[.int .i64 0] m) 3)) w.heap.size #[.slice (some ⟨pg, 0, none⟩) N N, .slice la m lc, .slice ha m hc] 78) := K0.out.alloc _
  have S0 : Hid (SpSt w ((w.alloc (.cells #[.slice (some ⟨pg, 0, none⟩) N N, .slice la m lc, .slice ha m hc] 78)).alloc (.cells (madeCells #[.int .i64 0] m) 3)) D m (w.heap.size + 1) n m n ((w.alloc (.cells #[.slice (some ⟨pg, 0, none⟩) N N, .slice la m lc, .slice ha m hc] 78)).alloc (.cells (madeCells #[.int .i64 0] m) 3))) := by
    have hr := row_made (w.alloc (.cells #[.slice (some ⟨pg, 0, none⟩) N N, .slice la m lc, .slice ha m hc] 78)) 3 .i64 m
    rw [World.size_alloc] at hr
    exact ⟨⟨fun _ => 0, hr, fun i b hi hb => by have := (List.getElem?_eq_some_iff.1 hb).1; rw [HBL.out] at this; omega⟩, by rw [HALL.out]; exact hn, by rw [List.drop_of_length_le (by rw [HBL.out]; exact Nat.le_refl _)]; exact (Nat.div_one n).symm, (below_twice w _ _), Upd.refl _ _⟩
  have hmk := fun (wx : World) => mkInts wx m hm
  have gm1 : IntKind.i64.wrap ((m : Int) - 1) = (m : Int) - 1 := IntWalk.i64_in _ (by omega)
  obtain ⟨wb, hwb⟩ : ∃ wb, ((w.alloc (.cells #[.slice (some ⟨pg, 0, none⟩) N N, .slice la m lc, .slice ha m hc] 78)).alloc (.cells (madeCells #[.int .i64 0] m) 3)) = wb := ⟨_, rfl⟩
  rw [hwb] at K2 S0
  clear h hp hq hmm hn K0 B0
  go_enter Tryz.func29, Tryz.ntmps29
  go_wp2_with fail
  clear hwb
  go_loopw [1, 7, 8] (fun z y _ wr => ∃ k n' : Nat, k ≤ m ∧ y = .int .i64 ((k : Int) - 1) ∧ z = .int .u64 n' ∧ SpSt w wb D m (w.heap.size + 1) n k n' wr) (fun _ y _ _ => (intOf y + 1).toNat)
  case atStart => exact ⟨m, n, by omega, rfl, rfl, S0.out⟩
  case round =>
    clear S0
    obtain ⟨k, n', hk, rfl, rfl, hst⟩ := hrel
    rename World => wr
    have S := Lib.hid hst
    clear hst
    by_cases hk0 : k = 0
    · subst hk0
      have hn0 : n' = 0 := by
        have := S.out.n
        rw [List.take_zero] at this
        have e : prodN ([] : List Nat) = 1 := rfl
        omega
      subst hn0
      obtain ⟨f, f1, f2⟩ := S.out.row
      have F := Lib.hid (And.intro f1 f2)
      clear f1 f2
      rw [show ((0 : Nat) : Int) - 1 = -1 from rfl, show ((0 : Nat) : Int) = 0 from rfl]
      go_wp2_with fail
      go_ret2
      exact ⟨w.heap.size + 1, f, rfl, F.out.1, fun i b hb => F.out.2 i b (by omega) hb, by omega, S.out.bel⟩
    · obtain ⟨i, rfl⟩ : ∃ i, k = i + 1 := ⟨k - 1, by omega⟩
      rw [show (((i + 1 : Nat) : Int) - 1) = (i : Int) by omega]
      have hi0 : (0 : Int) ≤ (i : Int) := by omega
      have him : (i : Int) < m := by omega
      obtain ⟨l, hl⟩ : ∃ l, D.dirtyL[i]? = some l := ⟨_, List.getElem?_eq_getElem (by rw [HM.out]; omega)⟩
      obtain ⟨u, r1, r2⟩ := H.out.row i l hl
      have hq1 := HQ.out l (List.mem_of_getElem? hl)
      obtain ⟨hb1, hb2⟩ := HBA.out i l hl
      have hhb := H.out.hist.below S.out.bel
      rw [HM.out] at hhb
      obtain ⟨_, _, _, e', _, hE⟩ := hhb
      cases e'
      obtain ⟨hb, ho, rfl, hE2⟩ := rd_at hE r1
      have c1 := hE2 i _ r1
      obtain ⟨_, ua, uc, rfl, _, _⟩ := r2
      have KW := Lib.hid (K2.out.upd S.out.up (fun e => by have e' : w.heap.size = w.heap.size + 1 := e; omega))
      have k2 := KW.out.cell (i := 2) (v := .slice (some ⟨hb, ho, none⟩) m hc) rfl
      obtain ⟨f, f1, f2⟩ := S.out.row
      have d1 := f1.cell (i := i) (by omega)
      have d2 := f1.frozen i
      have hgl := f1.lt
      obtain ⟨q, hqd⟩ : ∃ q, (D.hist l).length = q := ⟨_, rfl⟩
      rw [hqd] at c1 hq1 hb1 hb2
      have S2 := Lib.hid (S.out.step (by omega) hb1 hb2)
      have ga1 : IntKind.u64.wrap (q : Int) = (q : Int) := IntWalk.u64_in _ (by omega)
      have ga2 : IntKind.u64.wrap ((q : Int) + 1) = (q : Int) + 1 := IntWalk.u64_in _ (by omega)
      obtain ⟨z, hz⟩ : ∃ z, n' % (q + 1) = z := ⟨_, rfl⟩
      obtain ⟨z2, hz2⟩ : ∃ z, n' / (q + 1) = z := ⟨_, rfl⟩
      have hzq : z < q + 1 := by rw [← hz]; exact Nat.mod_lt _ (by omega)
      have ge1 : (n' : Int) % ((q : Int) + 1) = (z : Int) := by rw [← hz]; simp
      have ge2 : (n' : Int) / ((q : Int) + 1) = (z2 : Int) := by rw [← hz2]; simp
      have ge3 : (n' : Int).tmod ((q : Int) + 1) = (z : Int) := by rw [Int.tmod_eq_emod_of_nonneg (by omega)]; exact ge1
      have ge4 : (n' : Int).tdiv ((q : Int) + 1) = (z2 : Int) := by rw [Int.tdiv_eq_ediv_of_nonneg (by omega)]; exact ge2
      have ge5 : ¬ (q : Int) + 1 = 0 := by omega
      have ga3 : IntKind.i64.wrap (z : Int) = (z : Int) := IntWalk.i64_in _ (by omega)
      have ga4 : IntKind.i64.wrap ((i : Int) - 1) = (i : Int) - 1 := IntWalk.i64_in _ (by omega)
      rw [hz, hz2] at S2
      have hz2b : z2 < 18446744073709551616 := Nat.lt_trans S2.out.n (Nat.lt_of_le_of_lt (HLE.out i) HP.out)
      have ga5 : IntKind.u64.wrap (z2 : Int) = (z2 : Int) := IntWalk.u64_in _ (by omega)
      clear hE hE2 r1 hl hqd hb1 hb2 f1 f2 hz hz2
      go_wp2_with fail
      go_roundw
      case rel =>
        refine ⟨i, z2, by omega, ?_, ?_, S2.out⟩
        · rfl
        · rfl
      case measure => simp [intOf]
theorem split_any (h : ExAt D pg lv hv hs w) (n : Nat) (hn : n < prodN (basesL D)) (hp : prodN (basesL D) < 18446744073709551616) (hm : D.dirtyL.length ≤ 1000000) (hq : ∀ l ∈ D.dirtyL, (D.hist l).length ≤ 1000000000) :
    Calls Tryz.prog 29 #[.agg #[.slice (some ⟨pg, 0, none⟩) N N, lv, hv], .int .u64 n] w fun r w' => ∃ (g : Nat) (f : Nat → Nat), r = .returned (.tuple #[.slice (some ⟨g, 0, none⟩) D.dirtyL.length D.dirtyL.length, .bool true]) ∧ Row w' g D.dirtyL.length 3 (fun i => .int .i64 (f i)) ∧ (∀ (i b : Nat), (basesL D)[i]? = some b → f i < b) ∧ w.heap.size ≤ g ∧ Below w.heap.size w w' := by
  refine (splitN_any h n hn hp hm hq).mono ?_
  rintro r w' ⟨g, f, h1, h2, h3, h4, h5⟩
  exact ⟨g, f, h1, h2, fun i b hb => (h3 i b hb).1, h4, h5⟩
end
end Go.Proofs.YtahpadhejjlpoaaGreatDoor
