/- The walk of Choice. -/
import Derived.Test.YtahpadhejjlpoaaGreatDoorNcC
namespace Go.Proofs.YtahpadhejjlpoaaGreatDoor
open Go.RowKit Go.Maps
attribute [local go_sem ↓] Go.wp_at_zero Go.wp_at_succ

section
variable {w : World} {v : DV} {own : Nat → Option Role} {D : Dev}
set_option maxRecDepth 100000 in
set_option maxHeartbeats 8000000 in
theorem csChoice_any (h : IsDev w v own D) (hvb : D.VB) (hx : D.exec < 200) (n : Nat) (hn : n < prodN (basesL D)) (hp : prodN (basesL D) ≤ 4611686018427387904) :
    Calls Tryz.prog 11 #[.pointer (some ⟨v.db, 0, none⟩), .int .u64 n] w fun r w' => ∃ g, r = .returned (.tuple #[.slice (some ⟨g, 0, none⟩) D.dirtyL.length D.dirtyL.length, .int .i64 0]) ∧ Row w' g D.dirtyL.length 5 (fun i => .int .u8 (digN (basesL D) n i)) ∧ w.heap.size ≤ g ∧ Below w.heap.size w w' := by
  have hql : ∀ l ∈ D.dirtyL, (D.hist l).length ≤ 200 := fun l hl => by
    have hln : l < D.n := by
      unfold Dev.dirtyL at hl
      have := (List.mem_filter.1 hl).1
      simpa using this
    have := h.wf.cnt l hln
    omega
  have hdl : D.dirtyL.length ≤ 1000000 := by
    have h1 : D.dirtyL.length ≤ D.n := by unfold Dev.dirtyL; exact filt_len D D.n
    have := h.wf.le
    omega
  have HE := Lib.hid (examine_any h hvb (by omega))
  have HSP := Lib.hid (fun (wx : World) (pg : Nat) (lv hv : Value) (hs : List Value) (hE : ExAt D pg lv hv hs wx) => splitN_any (N := 64 * D.n) hE n hn (by omega) hdl (fun l hl => by have := hql l hl; omega))
  have HQL := Lib.hid hql
  have HBA := Lib.hid (bases_at D)
  obtain ⟨N, hN⟩ : ∃ N, 64 * D.n = N := ⟨_, rfl⟩
  obtain ⟨m, hm⟩ : ∃ m, D.dirtyL.length = m := ⟨_, rfl⟩
  have HM := Lib.hid hm
  rw [hN] at HE HSP
  rw [hm] at HSP hdl ⊢
  have hmk := fun (wx : World) => mkBytes wx m hdl
  clear h hvb hx hn hp hN hm hql
  go_enter Tryz.func11, Tryz.ntmps11
  go_wp2_with fail
  (with_reducible refine HE.out.mono ?_)
  rintro r w1 ⟨pg, lv, hv, hs, rfl, hE, b1⟩
  obtain ⟨la, lc, rfl⟩ : ∃ la lc, lv = .slice la m lc := by obtain ⟨_, a, c, e, _, _⟩ := hE.lines; rw [HM.out] at e; exact ⟨a, c, e⟩
  obtain ⟨ha, hc, rfl⟩ : ∃ ha hc, hv = .slice ha m hc := by obtain ⟨_, a, c, e, _, _⟩ := hE.hist; rw [HM.out] at e; exact ⟨a, c, e⟩
  have B1 := Lib.hid b1
  have b2 := below_alloc w1 (.cells #[.slice (some ⟨pg, 0, none⟩) N N, .slice la m lc, .slice ha m hc] 78)
  have X2 := Lib.hid (Blk.new w1 #[.slice (some ⟨pg, 0, none⟩) N N, .slice la m lc, .slice ha m hc] 78)
  have B2 := Lib.hid (B1.out.trans (b2.mono B1.out.size))
  have E2 := Lib.hid (hE.next b2)
  have HS2 := Lib.hid (HSP.out _ _ _ _ _ E2.out)
  have x0 := X2.out.cell (i := 0) rfl
  have x1 := X2.out.cell (i := 1) rfl
  have x2 := X2.out.cell (i := 2) rfl
  clear b1 b2 hE HE HSP
  go_wp2_with fail
  (with_reducible refine HS2.out.mono ?_)
  rintro r w3 ⟨kb, f, rfl, f1, f2, f3, b3⟩
  have B3 := Lib.hid (B2.out.trans (b3.mono B2.out.size))
  have X3 := Lib.hid (X2.out.below b3)
  have E3 := Lib.hid (E2.out.next b3)
  have F1 := Lib.hid (And.intro f1 f2)
  clear f1 f2 f3 b3 HS2 x0 x1 x2 E2 X2
  have M0 : Hid (Row (w3.alloc (.cells (madeCells #[.int .u8 0] m) 5)) w3.heap.size m 5 (fun i => .int .u8 (if i < 0 then (digN (basesL D) n i : Int) else 0)) ∧ Upd (· = w3.heap.size) (w3.alloc (.cells (madeCells #[.int .u8 0] m) 5)) (w3.alloc (.cells (madeCells #[.int .u8 0] m) 5))) := ⟨(row_made w3 5 .u8 m).congr (fun i _ => by simp), Upd.refl _ _⟩
  have BM : Hid (Below w3.heap.size w3 (w3.alloc (.cells (madeCells #[.int .u8 0] m) 5))) := Lib.hid (below_alloc _ _)
  go_wp2_with fail
  obtain ⟨wb, hwb⟩ : ∃ wb, w3.alloc (.cells (madeCells #[.int .u8 0] m) 5) = wb := ⟨_, rfl⟩
  rw [hwb] at M0 BM ⊢
  clear hwb
  go_loopw [29] (fun y wr => ∃ k : Nat, k ≤ m ∧ y = .int .i64 k ∧ Row wr w3.heap.size m 5 (fun i => .int .u8 (if i < k then (digN (basesL D) n i : Int) else 0)) ∧ Upd (· = w3.heap.size) wb wr) (fun y _ => m - (intOf y).toNat)
  case atStart => exact ⟨0, by omega, rfl, M0.out⟩
  case round =>
    clear M0
    obtain ⟨k, hk, rfl, hr, hu⟩ := hrel
    rename World => wr
    have R := Lib.hid hr
    have BR : Hid (Below w3.heap.size w3 wr) := Lib.hid ⟨hu.os.trans BM.out.os, hu.tape.trans BM.out.tape, hu.output.trans BM.out.output, Nat.le_trans BM.out.size hu.size, fun j hj => (hu.block j (Nat.lt_of_lt_of_le hj BM.out.size) (fun e => by have e' : j = w3.heap.size := e; omega)).trans (BM.out.block j hj)⟩
    have U := Lib.hid hu
    clear hr hu
    by_cases hlt : k < m
    · have hlt' : (k : Int) < m := by omega
      obtain ⟨l, hl⟩ : ∃ l, D.dirtyL[k]? = some l := ⟨_, List.getElem?_eq_getElem (by rw [HM.out]; exact hlt)⟩
      have hq1 := HQL.out l (List.mem_of_getElem? hl)
      obtain ⟨hb1, hb2⟩ := HBA.out k l hl
      obtain ⟨hfk, hfd⟩ := F1.out.2 k _ hb2
      have E4 := E3.out.next BR.out
      obtain ⟨u, r1, r2⟩ := E4.row k l hl
      have hhb := E4.hist
      rw [HM.out] at hhb
      obtain ⟨_, _, _, e', _, hE⟩ := hhb
      cases e'
      obtain ⟨hb, ho, rfl, hE2⟩ := rd_at hE r1
      have c1 := hE2 k _ r1
      obtain ⟨ua, q, uc, rfl, hqe⟩ : ∃ ua q uc, u = .slice ua q uc ∧ q = (D.hist l).length := by obtain ⟨_, a, c, e, _, _⟩ := r2; exact ⟨a, _, c, e, rfl⟩
      rw [← hqe] at hq1 hfk
      have c2 := (F1.out.1.below BR.out).cell (i := k) hlt
      have x2 := (X3.out.below BR.out).cell (i := 2) rfl
      have d1 := R.out.cell (i := k) hlt
      have d2 := R.out.frozen k
      have hgl := R.out.lt
      obtain ⟨z, hz⟩ : ∃ z, f k = z := ⟨_, rfl⟩
      rw [hz] at c2 hfk hfd
      have gz : IntKind.u8.wrap (z : Int) = (z : Int) := IntWalk.u8_in _ (by omega)
      have HFD := Lib.hid hfd
      clear hE hE2 r1 r2 E4 hl hb1 hb2 hqe hz
      go_wp2_with fail
      go_roundw
      case rel =>
        refine ⟨k + 1, by omega, by go_num, (R.out.set k _).congr (fun i _ => ?_), U.out.setCell (fun _ => rfl) _⟩
        by_cases e : i = k
        · subst e
          rw [if_pos rfl, if_pos (by omega)]
        · rw [if_neg e]
          by_cases e2 : i < k
          · rw [if_pos e2, if_pos (by omega)]
          · rw [if_neg e2, if_neg (by omega)]
      case measure => simp [intOf]; omega
    · obtain rfl : k = m := by omega
      go_wp2_with fail
      go_ret2
      exact ⟨w3.heap.size, rfl, R.out.congr (fun i hi => by rw [if_pos hi]), B3.out.size, B3.out.trans (BR.out.mono B3.out.size)⟩
end
end Go.Proofs.YtahpadhejjlpoaaGreatDoor
