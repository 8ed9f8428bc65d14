/- The walks of the law's plain and of the reference's Program. -/
import Derived.Test.YtbpaamnofkhonaaDoorSbB
import Derived.Test.YtbpaamnofkhonaaDoorEqR
import Derived.Laws.BytesArg
namespace Go.Proofs.YtbpaamnofkhonaaDoor
open Go.RowKit Go.Maps
attribute [local go_sem ↓] Go.wp_at_zero Go.wp_at_succ

/-- The program as a list. -/
def pgL (o : Nat) (W : List Nat) : List (Nat × Nat × Int) := [(1, o + 56, 0), (1, o, (W.getD 0 0 : Nat)), (1, o + 8, (W.getD 1 0 : Nat)), (1, o + 16, (W.getD 2 0 : Nat)), (1, o + 24, (W.getD 3 0 : Nat)), (1, o + 32, (W.getD 4 0 : Nat)), (1, o + 40, (W.getD 5 0 : Nat)), (1, o + 48, (W.getD 6 0 : Nat)), (1, o + 56, (W.getD 7 0 : Nat)), (2, o, 0), (3, 0, 0)]
theorem sbP_pgL (s : Sup) (i : Nat) (hi : i ≤ 1) : sbP s i = pgL (64 * i) s.words := by
  unfold sbP
  rw [sbWs_eq]
  generalize s.words = W
  have h0 : flushL [56, 0, 8, 16, 24, 32, 40, 48, 56] = [(2, 0, 0), (3, 0, 0)] := by decide
  have h1 : flushL [120, 64, 72, 80, 88, 96, 104, 112, 120] = [(2, 64, 0), (3, 0, 0)] := by decide
  obtain rfl | rfl : i = 0 ∨ i = 1 := by omega
  · show (_ : List (Nat × Nat × Int)) ++ flushL [56, 0, 8, 16, 24, 32, 40, 48, 56] = _
    rw [h0]
    rfl
  · show (_ : List (Nat × Nat × Int)) ++ flushL [120, 64, 72, 80, 88, 96, 104, 112, 120] = _
    rw [h1]
    rfl
/-- The program that is collected, and the words besides. -/
structure PgAt (w : World) (wv : Value) (W : List Nat) (sv : Value) (n : Nat) (xs : List Value) (wr : World) : Prop where
  acc : Acc w w.heap.size wr 128 3 sv n xs
  rd : RdSl wr 1 wv 8 (natsU W)
  ne : ∀ g, wv.ownBlock = some g → sv.ownBlock ≠ some g ∧ g < wr.heap.size
theorem PgAt.next {w wr wz w1 : World} {wv : Value} {W : List Nat} {sv v' : Value} {n m q : Nat} {xs news : List Value} (h : PgAt w wv W sv n xs wr) (hz : Below wr.heap.size wr wz) (o1 : OwnSl w1 128 3 v' (n + m) (xs ++ news)) (g1 : wz.grownBy w1 sv.ownBlock)
    (b1 : slAddr v' = slAddr sv ∨ slAddr v' = some ⟨q, 0, none⟩) (hq : wr.heap.size ≤ q) : PgAt w wv W v' (n + m) (xs ++ news) w1 := by
  refine ⟨h.acc.next hz o1 g1 b1 hq, h.rd.kept (fun k hk hlt => ?_), fun k hk => ⟨fun e => ?_, ?_⟩⟩
  · rw [g1.block k (Nat.lt_of_lt_of_le hlt hz.size) (fun e => (h.ne k hk).1 e.symm)]
    exact hz.block k hlt
  · rcases b1 with b1 | b1
    · rw [ownBlock_addr, b1, ← ownBlock_addr] at e; exact (h.ne k hk).1 e
    · have h9 := (h.ne k hk).2; rw [ownBlock_addr, b1] at e; cases e; exact absurd h9 (Nat.not_lt.2 hq)
  · have := (h.ne k hk).2; have := hz.size; have := g1.size; omega
section
variable {w : World}
set_option maxRecDepth 100000 in
set_option maxHeartbeats 8000000 in
theorem prog13_any (s : Sup) (hf : s.Fits) (i : Nat) (hi : i ≤ 1) : Calls Tryd.prog 36 #[.agg s.cells, .int .i64 i] w fun r w' => ∃ ov, r = .returned ov ∧ Acc w w.heap.size w' 128 3 ov (sbP s i).length (instrC (sbP s i)) := by
  rw [sbP_pgL s i hi]
  have HW := Lib.hid (fun wx => words13_any (w := wx) s hf)
  obtain ⟨i0, hi0, hz0, hz1, hz2⟩ := info_parts infoRI
  have I := Lib.hid (And.intro hi0 (And.intro hz0 (And.intro hz1 hz2))); clear hi0 hz0 hz1 hz2
  obtain ⟨o, ho⟩ : ∃ o, 64 * i = o := ⟨_, rfl⟩
  have y1 : (64 : Int) * (i : Int) = (o : Int) := by omega
  have ho64 : o ≤ 64 := by omega
  have hWl : s.words.length = 8 := rfl
  rw [ho]
  generalize s.words = W at *
  obtain ⟨ver, lin, redo, und, desc, que, tab, gen⟩ := s
  unfold Sup.cells at *
  have A0 : Hid (Acc w w.heap.size ((w.alloc (.cells #[.int .i64 ver, .int .i64 lin, .int .i64 redo, .int .i64 und, .int .i64 desc, .int .i64 que, .int .i64 tab, .int .u64 gen] 26)).alloc (.cells #[.int .u8 1, .int .u64 ((o : Int) + 56), .int .u64 0] 128)) 128 3 (.slice (some ⟨w.heap.size + 1, 0, none⟩) 1 1) 1 (instrC [(1, o + 56, 0)])) :=
    ⟨by have := OwnSl.new (w.alloc (.cells #[.int .i64 ver, .int .i64 lin, .int .i64 redo, .int .i64 und, .int .i64 desc, .int .i64 que, .int .i64 tab, .int .u64 gen] 26)) #[.int .u8 1, .int .u64 ((o : Int) + 56), .int .u64 0] 128 3 1 1 rfl (Nat.le_refl _) (by unfold maxLen; omega)
        simpa [instrC] using this,
      fun g hg => by simp [Value.ownBlock] at hg; omega, below_twice w _ _, by simp; omega⟩
  have K0 : Hid (Blk ((w.alloc (.cells #[.int .i64 ver, .int .i64 lin, .int .i64 redo, .int .i64 und, .int .i64 desc, .int .i64 que, .int .i64 tab, .int .u64 gen] 26)).alloc (.cells #[.int .u8 1, .int .u64 ((o : Int) + 56), .int .u64 0] 128)) w.heap.size #[.int .i64 ver, .int .i64 lin, .int .i64 redo, .int .i64 und, .int .i64 desc, .int .i64 que, .int .i64 tab, .int .u64 gen] 26) := (Blk.new w _ _).alloc _
  clear hf
  go_enter Tryd.func36, Tryd.ntmps36
  go_wp2_with fail
  (with_reducible refine (HW.out _).mono ?_)
  rintro e w1 ⟨wv, rfl, ha⟩
  obtain ⟨wa, wc, rfl⟩ := ha.slice
  have P0 : Hid (PgAt w (.slice wa 8 wc) W (.slice (some ⟨w.heap.size + 1, 0, none⟩) 1 1) 1 (instrC ((pgL o W).take 1)) w1) := by
    have hA := A0.out.keep ha.bel
    refine ⟨hA, ha.rd, fun g hg => ⟨fun e => ?_, ha.own.lt g hg⟩⟩
    have h1 := ha.new g hg
    have h2 := A0.out.own.lt g e
    omega
  obtain ⟨_, wa', wc', hwv, hwc, hwd⟩ := P0.out.rd
  cases hwv
  obtain ⟨wb, wo, rfl⟩ : ∃ b o, wa = some ⟨b, o, none⟩ := by
    rcases hwd with h | ⟨b, o, h, _⟩
    · have hl : (natsU W).length = 8 := by simp [natsU, hWl]
      rw [h] at hl; simp at hl
    · exact ⟨b, o, h⟩
  clear hwd ha A0 K0
  go_wp2_with fail
  go_loopw [6, 18] (fun sv y wr => ∃ k : Nat, k ≤ 7 ∧ y = .int .i64 k ∧ PgAt w (.slice (some ⟨wb, wo, none⟩) 8 wc) W sv (k + 1) (instrC ((pgL o W).take (k + 1))) wr) (fun _ y _ => 7 - (intOf y).toNat)
  case atStart => exact ⟨0, by omega, rfl, P0.out⟩
  case round =>
    clear P0
    obtain ⟨k, hk, rfl, hp⟩ := hrel
    obtain ⟨qa, qc, rfl⟩ := hp.acc.slice
    have P := Lib.hid hp; clear hp
    have hrd := P.out.rd
    by_cases hlt : k < 7
    · have hk' : (k : Int) < 7 := by omega
      have hk8 : (k : Int) < 8 := by omega
      obtain ⟨x, hx⟩ : ∃ x : Nat, W.getD k 0 = x := ⟨_, rfl⟩
      have cx : wr.cell? ⟨wb, wo + k, none⟩ = some (.int .u64 (x : Int)) := by
        obtain ⟨_, a9, c9, e9, _, h9⟩ := hrd
        cases e9
        obtain ⟨b8, o8, e8, hc⟩ := rd_at h9 (natsU_get (l := W) (i := k) (n := x) (by rw [← hx, List.getD_eq_getElem?_getD, List.getElem?_eq_getElem (by omega)]; rfl))
        cases e8
        exact hc _ _ (natsU_get (by rw [← hx, List.getD_eq_getElem?_getD, List.getElem?_eq_getElem (by omega)]; rfl))
      have HT : Hid (instrC ((pgL o W).take (k + 1 + 1)) = instrC ((pgL o W).take (k + 1)) ++ instrC [(1, o + 8 * k, (x : Int))]) := by
        show instrC _ = _
        rw [← instrC_append]
        congr 1
        subst hx
        obtain rfl | rfl | rfl | rfl | rfl | rfl | rfl : k = 0 ∨ k = 1 ∨ k = 2 ∨ k = 3 ∨ k = 4 ∨ k = 5 ∨ k = 6 := by omega
        all_goals rfl
      obtain ⟨t, ht⟩ : ∃ t, o + 8 * k = t := ⟨_, rfl⟩
      have ht2 : (o : Int) + 8 * (k : Int) = (t : Int) := by omega
      rw [ht] at HT
      have htl : t < 200 := by omega
      clear hx ht hrd
      go_wp2_with (at_builtin; refine wpList_append_sl _ rfl _ _ 73 rfl 128 i0 _ 3 24 Tryd.underlying73 I.out.1 I.out.2.1 I.out.2.2.1 I.out.2.2.2 rfl (by decide) _ (k + 1) (instrC ((pgL o W).take (k + 1))) rfl (by exact P.out.acc.own.alloc _) _ 1 (instrC [(1, t, (x : Int))]) rfl (by exact RdSl.newAt _ _ _ 3 1 _ (by simp) rfl) (instrC_one _) (by unfold maxLen; omega) (by omega) ?_)
      intro v1 w4 o1 g1 n1 m1
      have P4 := Lib.hid (P.out.next (m := 1) (below_alloc wr _) o1 g1 n1 (by simp)); clear o1 g1 n1 m1 P
      rw [← HT.out] at P4
      go_wp2_with fail
      go_roundw
      case rel => exact ⟨k + 1, by omega, by go_num, P4.out⟩
      case measure => simp [intOf]; omega
    · obtain rfl : k = 7 := by omega
      obtain ⟨x, hx⟩ : ∃ x : Nat, W.getD 7 0 = x := ⟨_, rfl⟩
      have cx : wr.cell? ⟨wb, wo + 7, none⟩ = some (.int .u64 (x : Int)) := by
        obtain ⟨_, a9, c9, e9, _, h9⟩ := hrd
        cases e9
        obtain ⟨b8, o8, e8, hc⟩ := rd_at h9 (natsU_get (l := W) (i := 7) (n := x) (by rw [← hx, List.getD_eq_getElem?_getD, List.getElem?_eq_getElem (by omega)]; rfl))
        cases e8
        exact hc _ _ (natsU_get (by rw [← hx, List.getD_eq_getElem?_getD, List.getElem?_eq_getElem (by omega)]; rfl))
      have HT : Hid (instrC (pgL o W) = instrC ((pgL o W).take (7 + 1)) ++ instrC [(1, o + 56, (x : Int)), (2, o, 0), (3, 0, 0)]) := by
        show instrC _ = _
        rw [← instrC_append]
        subst hx
        rfl
      clear hx hrd
      have hk7 : ¬ ((7 : Nat) : Int) < 7 := by omega
      go_wp2_with (at_builtin; refine wpList_append_sl _ rfl _ _ 73 rfl 128 i0 _ 3 24 Tryd.underlying73 I.out.1 I.out.2.1 I.out.2.2.1 I.out.2.2.2 rfl (by decide) _ (7 + 1) (instrC ((pgL o W).take (7 + 1))) rfl (by exact P.out.acc.own.alloc _) _ 3 (instrC [(1, o + 56, (x : Int)), (2, o, 0), (3, 0, 0)]) rfl (by exact RdSl.newAt _ _ _ 3 3 _ (by simp) rfl) (instrC_one _) (by decide) (by decide) ?_)
      intro v1 w4 o1 g1 n1 m1
      have P4 := Lib.hid (P.out.next (m := 3) (below_alloc wr _) o1 g1 n1 (by simp)); clear o1 g1 n1 m1 P
      rw [← HT.out] at P4
      go_wp2_with fail
      go_ret
      exact ⟨_, rfl, P4.out.acc⟩
end
theorem take_instr (l : List (Nat × Nat × Int)) (k : Nat) (e : Nat × Nat × Int) (h : l[k]? = some e) : instrC (l.take (k + 1)) = instrC (l.take k) ++ instrC [e] := by
  rw [take_snocI l k e h, instrC_append]
section
variable {w : World}
set_option maxRecDepth 100000 in
set_option maxHeartbeats 8000000 in
theorem plain13_any (sv : Value) (l : List (Nat × Nat × Int)) (hs : RdSl w 3 sv l.length (instrC l)) (hn : l.length ≤ 100000) :
    Calls Tryd.prog 35 #[sv] w fun r w' => ∃ ov, r = .returned ov ∧ Acc w w.heap.size w' 128 3 ov l.length (instrC l) := by
  obtain ⟨i0, hi0, hz0, hz1, hz2⟩ := info_parts infoRI
  have I := Lib.hid (And.intro hi0 (And.intro hz0 (And.intro hz1 hz2))); clear hi0 hz0 hz1 hz2
  obtain ⟨_, a, ca, rfl, hca, ha⟩ := hs
  have HA := Lib.hid ha
  clear ha
  have HI0 : Hid (instrC (l.take 0) = []) := rfl
  generalize hn1 : l.length = n at *
  have HN := Lib.hid hn1
  clear hn1
  go_enter Tryd.func35, Tryd.ntmps35
  go_wp2_with fail
  go_loopw [3, 8] (fun pv y wr => ∃ k : Nat, k ≤ n ∧ y = .int .i64 k ∧ Acc w w.heap.size wr 128 3 pv k (instrC (l.take k))) (fun _ y _ => n - (intOf y).toNat)
  case atStart => exact ⟨0, by omega, rfl, by rw [HI0.out]; exact Acc.nil _ _ _ _ _ (Below.refl _ _) (Nat.le_refl _)⟩
  case round =>
    obtain ⟨k, hk, rfl, hacc⟩ := hrel
    have A1 := Lib.hid hacc
    obtain ⟨pa, pc, rfl⟩ := hacc.slice
    clear hacc
    by_cases hlt : k < n
    · have hk' : (k : Int) < n := by omega
      obtain ⟨e, he⟩ : ∃ e, l[k]? = some e := ⟨_, List.getElem?_eq_getElem (by rw [HN.out]; exact hlt)⟩
      have hg := instrC_get l k e he
      obtain ⟨eb, eo, rfl, hcell⟩ := rd_at HA.out hg.1
      have hb := A1.out.bel
      have c1 := (hb.cell (p := ⟨eb, eo + k * 3, none⟩) (World.block_lt_of_cell? w _ (hcell _ _ hg.1))).trans (hcell _ _ hg.1)
      have c2 := (hb.cell (p := ⟨eb, eo + (k * 3 + 1), none⟩) (World.block_lt_of_cell? w _ (hcell _ _ hg.2.1))).trans (hcell _ _ hg.2.1)
      have c3 := (hb.cell (p := ⟨eb, eo + (k * 3 + 2), none⟩) (World.block_lt_of_cell? w _ (hcell _ _ hg.2.2))).trans (hcell _ _ hg.2.2)
      rw [← Nat.add_assoc] at c2 c3
      have HT := Lib.hid (take_instr l k e he)
      clear hcell he hg hb
      obtain ⟨e1, e2, e3⟩ := e
      simp only at c1 c2 c3
      have A2 := Lib.hid (A1.out.keep (below_alloc wr (.cells #[.int .u8 e1, .int .u64 e2, .int .u64 e3] 131)))
      go_wp2_with (at_builtin; refine wpList_append_sl _ rfl _ _ 73 rfl 128 i0 _ 3 24 Tryd.underlying73 I.out.1 I.out.2.1 I.out.2.2.1 I.out.2.2.2 rfl (by decide) _ _ _ rfl (by exact (A2.out.own.alloc _)) _ 1 (instrC [(e1, e2, e3)]) rfl (by exact RdSl.newAt _ _ _ 3 1 _ (by simp) rfl) (instrC_one _) (by unfold maxLen; omega) (by omega) ?_)
      intro v1 w1 o1 g1 b1 n1
      have A3 : Hid (Acc w w.heap.size w1 128 3 v1 (k + 1) (instrC (l.take (k + 1)))) := by
        show Acc _ _ _ _ _ _ _ _
        have := A2.out.next (m := 1) (below_alloc _ _) o1 g1 b1 (by simp)
        rw [HT.out]
        exact this
      clear o1 g1 b1 n1
      go_wp2_with fail
      go_roundw
      case rel => exact ⟨k + 1, by omega, by go_num, A3.out⟩
      case measure => simp [intOf]; omega
    · obtain rfl : k = n := by omega
      have A2 := Lib.hid A1.out
      rw [List.take_of_length_le (by rw [HN.out]; omega)] at A2
      go_wp2_with fail
      go_ret
      exact ⟨_, rfl, A2.out⟩
end
/-- The words of a device of n lines as a string. -/
def strN (n : Nat) (f : Nat → Int) : ByteArray := strOfNums ((List.range (64 * n)).map fun i => byteAt f i)
set_option maxRecDepth 100000 in
theorem convN {w : World} {g n : Nat} {f : Nat → Int} (h : Row w g (64 * n) 5 (fun i => .int .u8 (byteAt f i))) : (Go.convert 77 9 (.slice (some ⟨g, 0, none⟩) (64 * n) (64 * n))).run Tryd.prog w = .ok (.string (strN n f)) w := by
  refine run_convert_bytes_arg (P := Tryd.prog) w 77 5 Tryd.underlying77 Tryd.underlying5 g 0 (64 * n) (64 * n) ((List.range (64 * n)).map fun i => byteAt f i) (by simp) (fun i hi => ?_) 9 Tryd.underlying9
  rw [h.cell (i := 0 + i) (by omega)]
  simp [List.getD, List.getElem?_map, List.getElem?_range hi]
end Go.Proofs.YtbpaamnofkhonaaDoor
