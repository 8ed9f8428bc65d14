/- The law's small functions of layer 15: offset, good, writes. -/
import Derived.Test.YtdidpppjkbgccaaDoorRdoR
import Derived.Test.YtdidpppjkbgccaaDoorDevI
import Derived.Test.YtdidpppjkbgccaaDoorDevK
import Derived.Deep.RegionLaw
namespace Go.Proofs.YtdidpppjkbgccaaDoor
open Go.RowKit Go.Maps

theorem u8_in (x : Int) (h : 0 ≤ x ∧ x < 256) : IntKind.u8.wrap x = x := by
  simp [IntKind.wrap, IntKind.signed, IntKind.bits]
  omega
def offR (n : Nat) : Nat := if n < 40 then 8 * n else if n < 112 then 1984 + 8 * (n - 40) else if n < 150 then 320 + 8 * (n - 112) else if n < 200 then n else 2560 + 8 * (n - 200)
theorem offR_good (n : Nat) (h : n < 112) : rAllowB 2560 320 1664 (offR n) = true := by
  unfold rAllowB offR
  apply decide_eq_true
  split
  · omega
  · first | omega | (rw [if_pos h]; omega)
theorem offR_lt (n : Nat) (h : n < 256) : offR n < 4096 := by unfold offR; split; omega; split; omega; split; omega; split <;> omega
section
variable {w : World}
set_option maxHeartbeats 1000000 in
theorem l15offset_any (n : Nat) (hn : n < 256) : Calls Tryd.prog 33 #[.int .u8 n] w fun r w' => r = .returned (.int .u64 (offR n)) ∧ w = w' := by
  by_cases h1 : n < 40
  · have h1' : (n : Int) < 40 := by omega
    have E : Hid (((offR n : Nat) : Int) = 8 * (n : Int)) := by show ((offR n : Nat) : Int) = _; unfold offR; rw [if_pos h1]; omega
    rw [E.out]
    go_enter Tryd.func33, Tryd.ntmps33
    go_wp2_with fail
    go_ret
    exact ⟨rfl, rfl⟩
  · have h1' : ¬ (n : Int) < 40 := by omega
    by_cases h2 : n < 112
    · have h2' : (n : Int) < 112 := by omega
      have E : Hid (((offR n : Nat) : Int) = 1984 + 8 * ((n : Int) - 40)) := by show ((offR n : Nat) : Int) = _; unfold offR; rw [if_neg h1, if_pos h2]; omega
      have hu := u8_in ((n : Int) - 40) (by omega)
      rw [E.out]
      go_enter Tryd.func33, Tryd.ntmps33
      go_wp2_with fail
      go_ret
      exact ⟨rfl, rfl⟩
    · have h2' : ¬ (n : Int) < 112 := by omega
      by_cases h3 : n < 150
      · have h3' : (n : Int) < 150 := by omega
        have E : Hid (((offR n : Nat) : Int) = 320 + 8 * ((n : Int) - 112)) := by show ((offR n : Nat) : Int) = _; unfold offR; rw [if_neg h1, if_neg h2, if_pos h3]; omega
        have hu := u8_in ((n : Int) - 112) (by omega)
        rw [E.out]
        go_enter Tryd.func33, Tryd.ntmps33
        go_wp2_with fail
        go_ret
        exact ⟨rfl, rfl⟩
      · have h3' : ¬ (n : Int) < 150 := by omega
        by_cases h4 : n < 200
        · have h4' : (n : Int) < 200 := by omega
          have E : Hid (((offR n : Nat) : Int) = (n : Int)) := by show ((offR n : Nat) : Int) = _; unfold offR; rw [if_neg h1, if_neg h2, if_neg h3, if_pos h4]
          rw [E.out]
          go_enter Tryd.func33, Tryd.ntmps33
          go_wp2_with fail
          go_ret
          exact ⟨rfl, rfl⟩
        · have h4' : ¬ (n : Int) < 200 := by omega
          have E : Hid (((offR n : Nat) : Int) = 2560 + 8 * ((n : Int) - 200)) := by show ((offR n : Nat) : Int) = _; unfold offR; rw [if_neg h1, if_neg h2, if_neg h3, if_neg h4]; omega
          have hu := u8_in ((n : Int) - 200) (by omega)
          rw [E.out]
          go_enter Tryd.func33, Tryd.ntmps33
          go_wp2_with fail
          go_ret
          exact ⟨rfl, rfl⟩
end
end Go.Proofs.YtdidpppjkbgccaaDoor

/- The law's good and writes of layer 15. -/
namespace Go.Proofs.YtdidpppjkbgccaaDoor
open Go.RowKit Go.Maps
attribute [local go_sem ↓] Go.wp_at_zero Go.wp_at_succ

theorem infoPair : (Tryd.prog.info? 86).map (fun i => (i.zero, i.size, i.bytes)) = some (some (.agg #[.int .u8 0, .int .u64 0]), 2, 16) := by kernel_rfl
theorem infoRW : (Tryd.prog.info? 88).map (fun i => (i.zero, i.size, i.bytes)) = some (some (.agg #[.int .u64 0, .int .u64 0]), 2, 16) := by kernel_rfl
/-- Pairs as cells. -/
def pairC (l : List (Nat × Int)) : List Value := l.flatMap fun e => [.int .u8 e.1, .int .u64 e.2]
theorem pairC_append (a b : List (Nat × Int)) : pairC (a ++ b) = pairC a ++ pairC b := by simp [pairC]
theorem pairC_len (l : List (Nat × Int)) : (pairC l).length = l.length * 2 := by
  induction l with
  | nil => rfl
  | cons e l ih => simp [pairC] at *; omega
theorem pairC_get (l : List (Nat × Int)) : ∀ (k : Nat) (e : Nat × Int), l[k]? = some e → (pairC l)[k * 2]? = some (.int .u8 e.1) ∧ (pairC l)[k * 2 + 1]? = some (.int .u64 e.2) := by
  induction l with
  | nil => intro k e h; simp at h
  | cons x l ih =>
    intro k e he
    have hf : pairC (x :: l) = .int .u8 x.1 :: .int .u64 x.2 :: pairC l := rfl
    cases k with
    | zero => simp at he; subst he; simp [hf]
    | succ k =>
      have := ih k e (by simpa using he)
      rw [hf, show (k + 1) * 2 = k * 2 + 1 + 1 from by omega]
      simpa using this
theorem pairC_one (l : List (Nat × Int)) : ∀ u ∈ pairC l, u.oneCell' = true := by
  intro u hu
  simp [pairC] at hu
  obtain ⟨a, b, _, rfl | rfl⟩ := hu <;> rfl
def goodL (l : List (Nat × Int)) : List (Nat × Int) := (l.take 100).map fun e => (e.1 % 112, e.2)
theorem goodL_len (l : List (Nat × Int)) : (goodL l).length ≤ 100 := by unfold goodL; rw [List.length_map, List.length_take]; omega
theorem goodL_snoc (l : List (Nat × Int)) (k : Nat) (e : Nat × Int) (hk : k < 100) (h : l[k]? = some e) : goodL (l.take (k + 1)) = goodL (l.take k) ++ [(e.1 % 112, e.2)] := by
  unfold goodL
  rw [List.take_take, List.take_take, show min 100 (k + 1) = k + 1 by omega, show min 100 k = k by omega, List.take_add_one, h]
  simp
theorem goodL_bd {l : List (Nat × Int)} (h : ∀ e ∈ l, 0 ≤ e.2 ∧ e.2 < 18446744073709551616) : ∀ e ∈ goodL l, e.1 < 112 ∧ 0 ≤ e.2 ∧ e.2 < 18446744073709551616 := fun e he => by
  unfold goodL at he
  obtain ⟨x, hx, rfl⟩ := List.mem_map.1 he
  exact ⟨by simp only; omega, h x (List.mem_of_mem_take hx)⟩
/-- The writes of a list. -/
def wrL (l : List (Nat × Int)) : List (Nat × Int) := l.map fun e => (offR e.1, e.2)
theorem wrL_len (l : List (Nat × Int)) : (wrL l).length = l.length := by simp [wrL]
theorem wrL_snoc (l : List (Nat × Int)) (k : Nat) (e : Nat × Int) (h : l[k]? = some e) : wrL (l.take (k + 1)) = wrL (l.take k) ++ [(offR e.1, e.2)] := by
  unfold wrL
  rw [List.take_add_one, h]; simp
section
variable {w : World}
set_option maxRecDepth 100000 in
set_option maxHeartbeats 4000000 in
theorem l15good_any (sv : Value) (l : List (Nat × Int)) (h : RdSl w 2 sv l.length (pairC l)) (hb : ∀ e ∈ l, e.1 < 256) (hl : l.length ≤ maxLen) :
    Calls Tryd.prog 10 #[sv] w fun r w' => ∃ ov, r = .returned ov ∧ Acc w w.heap.size w' 86 2 ov (goodL l).length (pairC (goodL l)) := by
  have HS := Lib.hid h; have HB := Lib.hid hb; clear hb
  obtain ⟨_, sa, sc, rfl, hsc, _⟩ := h
  obtain ⟨k0, hi0, hz0, hz1, hz2⟩ := info_parts infoPair
  have I2 := Lib.hid (And.intro hi0 (And.intro hz0 (And.intro hz1 hz2))); clear hi0 hz0 hz1 hz2
  have HG : Hid (∀ k, (l.length ≤ k ∨ 100 ≤ k) → goodL (l.take k) = goodL l) := fun k hk => by
    rcases hk with hk | hk
    · rw [List.take_of_length_le hk]
    · unfold goodL; rw [List.take_take, show min 100 k = 100 by omega]
  generalize hm : l.length = m at *
  have HM := Lib.hid hm; clear hm
  unfold maxLen at hl
  go_enter Tryd.func10, Tryd.ntmps10
  go_wp2_with fail
  go_loopw [3, 8] (fun ov y wr => ∃ k : Nat, k ≤ m ∧ k ≤ 100 ∧ y = .int .i64 k ∧ (goodL (l.take k)).length = k ∧ Acc w w.heap.size wr 86 2 ov k (pairC (goodL (l.take k)))) (fun _ y _ => m - (intOf y).toNat)
  case atStart => exact ⟨0, by omega, by omega, rfl, rfl, Acc.nil w _ _ _ _ (Below.refl _ _) (Nat.le_refl _)⟩
  case round =>
    obtain ⟨k, hk, hk1, rfl, hgl, hacc⟩ := hrel
    obtain ⟨pa, pc, hpv⟩ := hacc.slice
    subst hpv
    have A := Lib.hid hacc; clear hacc
    by_cases hlt : k < m
    · have hk' : (k : Int) < m := by omega
      obtain ⟨e, he⟩ : ∃ e, l[k]? = some e := ⟨_, List.getElem?_eq_getElem (by rw [HM.out]; exact hlt)⟩
      obtain ⟨_, a', c', e', _, hE⟩ := HS.out.below A.out.bel
      cases e'
      have hg := pairC_get l k e he
      obtain ⟨eb, eo, rfl, hE2⟩ := rd_at hE hg.1
      have c1 := hE2 _ _ hg.1; have c2 := hE2 _ _ hg.2
      rw [← Nat.add_assoc] at c2
      have he2 := HB.out e (List.mem_of_getElem? he)
      have HE := Lib.hid he
      clear hE hE2 he hg
      obtain ⟨e1, e2⟩ := e
      simp only at c1 c2 he2
      by_cases h1 : k = 100
      · have hb1 : ((k : Int) == 100) = true := by simp; omega
        have HQ := Lib.hid (HG.out k (.inr (by omega)))
        clear HG h1
        go_wp2_with fail
        go_ret
        exact ⟨_, rfl, (A.out.keep (below_alloc wr _)).congr (by rw [← HQ.out, hgl]) (by rw [HQ.out])⟩
      · have hb1 : ((k : Int) == 100) = false := by simp; omega
        have HT := Lib.hid (goodL_snoc l k (e1, e2) (by omega) HE.out)
        obtain ⟨r, hr⟩ : ∃ r, e1 % 112 = r := ⟨_, rfl⟩
        have z1 : (e1 : Int) % 112 = (r : Int) := by omega
        have z2 : (e1 : Int).tmod 112 = (r : Int) := by rw [Int.tmod_eq_emod_of_nonneg (by omega)]; omega
        simp only [hr] at HT
        have hk99 : k + 1 ≤ 100 := by omega
        clear hr h1
        go_wp2_with (at_builtin; refine wpList_append_sl _ rfl _ _ 30 rfl 86 k0 _ 2 16 Tryd.underlying30 I2.out.1 I2.out.2.1 I2.out.2.2.1 I2.out.2.2.2 rfl (by decide) _ k (pairC (goodL (l.take k))) rfl (by exact (A.out.own.alloc _).alloc _) _ 1 (pairC [(r, e2)]) rfl (by exact RdSl.newAt _ _ _ 2 1 _ (by simp) rfl) (pairC_one _) (by unfold maxLen; omega) (by omega) ?_)
        intro v1 w4 o1 g1 b1 n1
        have A1 := Lib.hid (A.out.next (below_twice wr _ _) o1 g1 b1 (by omega)); clear o1 g1 b1 n1
        go_wp2_with fail
        go_roundw
        case rel => exact ⟨k + 1, by omega, hk99, by go_num, by rw [HT.out, List.length_append, hgl]; rfl, A1.out.congr rfl (by rw [HT.out, pairC_append])⟩
        case measure => simp [intOf]; omega
    · obtain rfl : k = m := by omega
      have HQ := Lib.hid (HG.out k (.inl (by omega)))
      clear HG
      go_wp2_with fail
      go_ret
      exact ⟨_, rfl, A.out.congr (by rw [← HQ.out, hgl]) (by rw [HQ.out])⟩
set_option maxRecDepth 100000 in
set_option maxHeartbeats 8000000 in
theorem l15writes_any (sv : Value) (l : List (Nat × Int)) (h : RdSl w 2 sv l.length (pairC l)) (hb : ∀ e ∈ l, e.1 < 256) (hl : l.length ≤ 10000) :
    Calls Tryd.prog 9 #[sv] w fun r w' => ∃ u v, r = .returned (.tuple #[u, v]) ∧ Pair w w.heap.size w' 73 2 u (wrL l).length (flat (wrL l)) 88 2 v (wrL l).length (flat (wrL l)) := by
  have HS := Lib.hid h; have HB := Lib.hid hb; clear hb
  obtain ⟨_, sa, sc, rfl, hsc, _⟩ := h
  obtain ⟨k0, hi0, hz0, hz1, hz2⟩ := info_parts infoWrite
  have I2 := Lib.hid (And.intro hi0 (And.intro hz0 (And.intro hz1 hz2))); clear hi0 hz0 hz1 hz2
  obtain ⟨k1, hi0, hz0, hz1, hz2⟩ := info_parts infoRW
  have I3 := Lib.hid (And.intro hi0 (And.intro hz0 (And.intro hz1 hz2))); clear hi0 hz0 hz1 hz2
  have HWL := Lib.hid (wrL_len l)
  generalize hm : l.length = m at *
  have HM := Lib.hid hm; clear hm
  go_enter Tryd.func9, Tryd.ntmps9
  go_wp2_with fail
  go_loopw [4, 5, 10] (fun u v y wr => ∃ k : Nat, k ≤ m ∧ y = .int .i64 k ∧ Pair w w.heap.size wr 73 2 u k (flat (wrL (l.take k))) 88 2 v k (flat (wrL (l.take k)))) (fun _ _ y _ => m - (intOf y).toNat)
  case atStart => exact ⟨0, by omega, rfl, ⟨Acc.nil w _ _ _ _ (Below.refl _ _) (Nat.le_refl _), Acc.nil w _ _ _ _ (Below.refl _ _) (Nat.le_refl _), fun g hg => by simp [Value.ownBlock] at hg⟩⟩
  case round =>
    obtain ⟨k, hk, rfl, hacc⟩ := hrel
    obtain ⟨pa, pc, hpv⟩ := hacc.a.slice
    subst hpv
    obtain ⟨qa, qc, hqv⟩ := hacc.b.slice
    subst hqv
    have A := Lib.hid hacc; clear hacc
    by_cases hlt : k < m
    · have hk' : (k : Int) < m := by omega
      obtain ⟨e, he⟩ : ∃ e, l[k]? = some e := ⟨_, List.getElem?_eq_getElem (by rw [HM.out]; exact hlt)⟩
      obtain ⟨_, a', c', e', _, hE⟩ := HS.out.below A.out.a.bel
      cases e'
      have hg := pairC_get l k e he
      obtain ⟨eb, eo, rfl, hE2⟩ := rd_at hE hg.1
      have c1 := hE2 _ _ hg.1; have c2 := hE2 _ _ hg.2
      rw [← Nat.add_assoc] at c2
      have he2 := HB.out e (List.mem_of_getElem? he)
      have HT := Lib.hid (wrL_snoc l k e he)
      clear hE hE2 he hg
      obtain ⟨e1, e2⟩ := e
      simp only at c1 c2 he2 HT
      have HOF := Lib.hid (fun (wx : World) => l15offset_any (w := wx) e1 he2)
      generalize offR e1 = o at *
      have hlw := A.out.a.lt
      have hne : (Value.slice pa k pc).ownBlock ≠ some wr.heap.size := fun hh => by have := A.out.a.own.lt _ hh; omega
      have hne' : (Value.slice qa k qc).ownBlock ≠ some wr.heap.size := fun hh => by have := A.out.b.own.lt _ hh; omega
      have HNE := Lib.hid (And.intro hne hne'); clear hne hne'
      go_wp2_with fail
      go_region_law (first | (go_simp; go_at_call 33; (with_reducible refine (HOF.out _).mono ?_); rintro e w' ⟨rfl, rfl⟩) | (refine step_append_sl rfl (.tmp 14) (.tmp 21) 31 rfl 73 k0 _ 2 16 Tryd.underlying31 I2.out.1 I2.out.2.1 I2.out.2.2.1 I2.out.2.2.2 rfl (by decide) (.slice pa k pc) k (flat (wrL (l.take k))) rfl (by exact ((A.out.a.own.alloc _).alloc _).drew) _ 1 (flat [(o, e2)]) rfl (by exact (RdSl.newAt _ _ _ 2 1 _ (by simp) rfl).drew) (flat_one _) (by unfold maxLen; omega) (by omega) ?_; intro v1 w4 o1 g1 b1; have f0 : w4.cell? ⟨wr.heap.size, 0, none⟩ = some (.int .u8 (e1 : Int)) := (kept_cell ((below_alloc _ _).drew) g1 (by simp) HNE.out.1 0).trans ((Blk.new wr _ _).cell rfl); have f1 : w4.cell? ⟨wr.heap.size, 1, none⟩ = some (.int .u64 e2) := (kept_cell ((below_alloc _ _).drew) g1 (by simp) HNE.out.1 1).trans ((Blk.new wr _ _).cell rfl); have A1 := Lib.hid (A.out.left ((below_twice wr _ _).drew) o1 g1 b1 (by simp [World.drew]; omega)); clear o1 g1 b1))
      all_goals
        obtain ⟨va, vc, hv1⟩ := A1.out.a.slice
        subst hv1
        have hne2 : (Value.slice qa k qc).ownBlock ≠ some wr.heap.size := HNE.out.2
        have f0d : w4.drew.cell? ⟨wr.heap.size, 0, none⟩ = some (.int .u8 (e1 : Int)) := f0
        have f1d : w4.drew.cell? ⟨wr.heap.size, 1, none⟩ = some (.int .u64 e2) := f1
        go_wp2_with fail
        go_region_law (first | (go_simp; go_at_call 33; (with_reducible refine (HOF.out _).mono ?_); rintro e w' ⟨rfl, rfl⟩) | (refine step_append_sl rfl (.tmp 23) (.tmp 30) 32 rfl 88 k1 _ 2 16 Tryd.underlying32 I3.out.1 I3.out.2.1 I3.out.2.2.1 I3.out.2.2.2 rfl (by decide) (.slice qa k qc) k (flat (wrL (l.take k))) rfl (by exact (A1.out.b.own.alloc _).drew) _ 1 (flat [(o, e2)]) rfl (by exact (RdSl.newAt _ _ _ 2 1 _ (by simp) rfl).drew) (flat_one _) (by unfold maxLen; omega) (by omega) ?_; intro v2 w5 o2 g2 b2; have A2 := Lib.hid (A1.out.swap.left ((below_alloc _ _).drew) o2 g2 b2 (by simp [World.drew])).swap; clear o2 g2 b2))
        all_goals go_wp2_with fail
        all_goals
          go_roundw
          case rel => exact ⟨k + 1, by omega, by go_num, ⟨A2.out.a.congr rfl (by rw [HT.out, flat_append]), A2.out.b.congr rfl (by rw [HT.out, flat_append]), A2.out.ne⟩⟩
          case measure => simp [intOf]; omega
    · obtain rfl : k = m := by omega
      have hlt2 : l.take k = l := List.take_of_length_le (by rw [HM.out]; omega)
      have HQ := Lib.hid hlt2; clear hlt2
      go_wp2_with fail
      go_ret2
      exact ⟨_, _, rfl, ⟨A.out.a.congr HWL.out.symm (by rw [HQ.out]), A.out.b.congr HWL.out.symm (by rw [HQ.out]), A.out.ne⟩⟩
end
end Go.Proofs.YtdidpppjkbgccaaDoor

/- The reference's Writes of layer 15. -/
namespace Go.Proofs.YtdidpppjkbgccaaDoor
open Go.RowKit Go.Maps
attribute [local go_sem ↓] Go.wp_at_zero Go.wp_at_succ
section
variable {w : World}
set_option maxRecDepth 100000 in
set_option maxHeartbeats 8000000 in
theorem r15Writes_any (sv : Value) (l : List (Nat × Int)) (h : RdSl w 2 sv l.length (flat l)) (hl : l.length ≤ 10000) :
    Calls Tryd.prog 12 #[sv] w fun r w' => ∃ ov, r = .returned ov ∧ Acc w w.heap.size w' 88 2 ov (lastL l).length (flat (lastL l)) := by
  have HS := Lib.hid h
  obtain ⟨_, sa, sc, rfl, hsc, _⟩ := h
  obtain ⟨k1, hi0, hz0, hz1, hz2⟩ := info_parts infoRW
  have I3 := Lib.hid (And.intro hi0 (And.intro hz0 (And.intro hz1 hz2))); clear hi0 hz0 hz1 hz2
  generalize hm : l.length = m at *
  have HM := Lib.hid hm; clear hm
  go_enter Tryd.func12, Tryd.ntmps12
  go_wp2_with fail
  go_loopw [3, 11] (fun fv y wr => ∃ (q : Nat) (F : List (Nat × Int)), q ≤ m ∧ y = .int .i64 q ∧ F.length ≤ q ∧ F ++ lastL (l.drop q) = lastL l ∧ Acc w w.heap.size wr 88 2 fv F.length (flat F)) (fun _ y _ => m - (intOf y).toNat)
  case atStart => exact ⟨0, [], by omega, rfl, by simp, rfl, Acc.nil w _ _ _ _ (Below.refl _ _) (Nat.le_refl _)⟩
  case round =>
    obtain ⟨q, F, hq, rfl, hfl, hFq, hacc⟩ := hrel
    have HFQ := Lib.hid hFq; clear hFq
    obtain ⟨fa, fc, hfv⟩ := hacc.slice
    subst hfv
    have A := Lib.hid hacc; clear hacc
    by_cases hlt : q < m
    · have hq' : (q : Int) < m := by omega
      obtain ⟨e, he⟩ : ∃ e, l[q]? = some e := ⟨_, List.getElem?_eq_getElem (by rw [HM.out]; exact hlt)⟩
      obtain ⟨_, a', c', e', _, hE⟩ := HS.out.below A.out.bel
      cases e'
      have hg := flat_get' l q e he
      obtain ⟨eb, eo, rfl, hE2⟩ := rd_at hE hg.1
      have c1 := hE2 _ _ hg.1; have c2 := hE2 _ _ hg.2
      rw [← Nat.add_assoc] at c2
      have HD := Lib.hid (lastL_drop he)
      clear hE hE2 he hg
      obtain ⟨e1, e2⟩ := e
      simp only at c1 c2 HD
      have AA := Lib.hid (A.out.keep (below_alloc wr (.cells #[.int .u64 (e1 : Int), .int .u64 e2] 88)))
      have z0 : (wr.alloc (.cells #[.int .u64 (e1 : Int), .int .u64 e2] 88)).cell? ⟨wr.heap.size, 0, none⟩ = some (.int .u64 (e1 : Int)) := (Blk.new wr _ _).cell rfl
      have z1 : (wr.alloc (.cells #[.int .u64 (e1 : Int), .int .u64 e2] 88)).cell? ⟨wr.heap.size, 1, none⟩ = some (.int .u64 e2) := (Blk.new wr _ _).cell rfl
      have Z := Lib.hid (And.intro z0 z1); clear z0 z1 A
      have HDR := Lib.hid (HS.out.dropG (q + 1) (by omega))
      have hcap : (q : Int) + 1 ≤ sc := by omega
      have hqm : (q : Int) + 1 ≤ m := by omega
      obtain ⟨n, hn⟩ : ∃ n, m - (q + 1) = n := ⟨_, rfl⟩
      have hnI : (m : Int) - ((q : Int) + 1) = (n : Int) := by omega
      by_cases hsq : sc = q + 1
      · subst hsq
        have h1 := HDR.out
        rw [if_pos rfl, hn] at h1
        clear HDR
        rw [flat_drop] at h1
        have HDR := Lib.hid h1; clear h1
        go_wp2_with fail
        generalize wr.alloc (.cells #[.int .u64 (e1 : Int), .int .u64 e2] 88) = wa at *
        generalize wr.heap.size = pb at *
        go_loopw [6, 21] (fun fl y wq => ∃ j : Nat, j ≤ n ∧ y = .int .i64 j ∧ fl = .bool (!(((l.drop (q + 1)).take j).any (fun x => x.1 == e1))) ∧ Below wa.heap.size wa wq) (fun _ y _ => n - (intOf y).toNat)
        case atStart => exact ⟨0, by omega, rfl, rfl, Below.refl _ _⟩
        case round =>
          obtain ⟨j, hj, rfl, rfl, hb⟩ := hrel
          rename World => wq
          have B := Lib.hid hb; clear hb
          by_cases hlt2 : j < n
          · omega
          · obtain rfl : j = n := by omega
            have hQ : (l.drop (q + 1)).take j = l.drop (q + 1) := List.take_of_length_le (by rw [List.length_drop, HM.out]; omega)
            rw [hQ]
            clear hQ
            have A2 := Lib.hid (AA.out.keep B.out)
            have z0 := cell_bel B.out Z.out.1
            have z1 := cell_bel B.out Z.out.2
            cases hany : (l.drop (q + 1)).any (fun x => x.1 == e1)
            · have HAN := Lib.hid hany; clear hany
              go_wp2_with (at_builtin; refine wpList_append_sl _ rfl _ _ 32 rfl 88 k1 _ 2 16 Tryd.underlying32 I3.out.1 I3.out.2.1 I3.out.2.2.1 I3.out.2.2.2 rfl (by decide) _ F.length (flat F) rfl (by exact A2.out.own.alloc _) _ 1 (flat [(e1, e2)]) rfl (by exact RdSl.newAt _ _ _ 2 1 _ (by simp) rfl) (flat_one _) (by unfold maxLen; omega) (by omega) ?_)
              intro v1 w4 o1 g1 b1 n1
              have A4 := Lib.hid (A2.out.next (below_alloc _ _) o1 g1 b1 (by simp)); clear o1 g1 b1 n1
              go_wp2_with fail
              go_roundw
              case rel => exact ⟨q + 1, F ++ [(e1, e2)], by omega, by go_num, by rw [List.length_append]; show F.length + 1 ≤ q + 1; omega, by rw [← HFQ.out, HD.out, if_neg (by rw [HAN.out]; simp), List.append_assoc], A4.out.congr (by simp) (by rw [flat_append])⟩
              case measure => simp [intOf]; omega
            · have HAN := Lib.hid hany; clear hany
              go_wp2_with fail
              go_roundw
              case rel => exact ⟨q + 1, F, by omega, by go_num, by omega, by rw [← HFQ.out, HD.out, if_pos HAN.out]; rfl, A2.out⟩
              case measure => simp [intOf]; omega
      · have h1 := HDR.out
        rw [if_neg hsq, hn] at h1
        have h1' : RdSl w 2 (.slice (some ⟨eb, eo + (q + 1) * 2, none⟩) n (sc - (q + 1))) n ((flat l).drop ((q + 1) * 2)) := h1
        rw [flat_drop] at h1'
        clear HDR h1
        have HDR := Lib.hid h1'; clear h1'
        go_wp2_with fail
        generalize wr.alloc (.cells #[.int .u64 (e1 : Int), .int .u64 e2] 88) = wa at *
        generalize wr.heap.size = pb at *
        go_loopw [6, 21] (fun fl y wq => ∃ j : Nat, j ≤ n ∧ y = .int .i64 j ∧ fl = .bool (!(((l.drop (q + 1)).take j).any (fun x => x.1 == e1))) ∧ Below wa.heap.size wa wq) (fun _ y _ => n - (intOf y).toNat)
        case atStart => exact ⟨0, by omega, rfl, rfl, Below.refl _ _⟩
        case round =>
          obtain ⟨j, hj, rfl, rfl, hb⟩ := hrel
          rename World => wq
          have B := Lib.hid hb; clear hb
          by_cases hlt2 : j < n
          · have hlt2' : (j : Int) < n := by omega
            obtain ⟨x, hx⟩ : ∃ x, (l.drop (q + 1))[j]? = some x := ⟨_, List.getElem?_eq_getElem (by rw [List.length_drop, HM.out, hn]; exact hlt2)⟩
            obtain ⟨_, a', c', e', _, hE⟩ := (HDR.out.below (AA.out.bel.trans (B.out.mono AA.out.bel.size)))
            cases e'
            have hg := flat_get' (l.drop (q + 1)) j x hx
            obtain ⟨xb, xo, hxa, hE2⟩ := rd_at hE hg.1
            cases hxa
            have d1 := hE2 _ _ hg.1; have d2 := hE2 _ _ hg.2
            rw [← Nat.add_assoc] at d2
            have z0 := cell_bel B.out Z.out.1
            have zl := World.block_lt_of_cell? _ _ z0
            have HT2 : Hid (((l.drop (q + 1)).take (j + 1)).any (fun x => x.1 == e1) = (((l.drop (q + 1)).take j).any (fun x => x.1 == e1) || (x.1 == e1))) := by
              show _ = _
              rw [List.take_add_one, hx, List.any_append]; simp
            have BA := Lib.hid (B.out.alloc B.out.size (.cells #[.int .u64 (x.1 : Int), .int .u64 x.2] 88))
            clear hE hE2 hx hg
            obtain ⟨x1, x2⟩ := x
            simp only at d1 d2 HT2 BA
            generalize ((l.drop (q + 1)).take j).any (fun x => x.1 == e1) = b at *
            cases b
            · by_cases hx1 : x1 = e1
              · have hb1 : ((x1 : Int) != (e1 : Int)) = false := by simp; omega
                have HR : Hid (((l.drop (q + 1)).take (j + 1)).any (fun x => x.1 == e1) = true) := by show _ = true; rw [HT2.out]; simp [hx1]
                clear hx1
                go_wp2_with fail
                go_roundw
                case rel => exact ⟨j + 1, by omega, by go_num, by rw [HR.out]; rfl, BA.out⟩
                case measure => simp [intOf]; omega
              · have hb1 : ((x1 : Int) != (e1 : Int)) = true := by simp; omega
                have HR : Hid (((l.drop (q + 1)).take (j + 1)).any (fun x => x.1 == e1) = false) := by show _ = false; rw [HT2.out]; simp [hx1]
                clear hx1
                go_wp2_with fail
                go_roundw
                case rel => exact ⟨j + 1, by omega, by go_num, by rw [HR.out]; rfl, BA.out⟩
                case measure => simp [intOf]; omega
            · have HR : Hid (((l.drop (q + 1)).take (j + 1)).any (fun x => x.1 == e1) = true) := by show _ = true; rw [HT2.out]; simp
              go_wp2_with fail
              go_roundw
              case rel => exact ⟨j + 1, by omega, by go_num, by rw [HR.out]; rfl, BA.out⟩
              case measure => simp [intOf]; omega
          · obtain rfl : j = n := by omega
            have hQ : (l.drop (q + 1)).take j = l.drop (q + 1) := List.take_of_length_le (by rw [List.length_drop, HM.out]; omega)
            rw [hQ]
            clear hQ
            have A2 := Lib.hid (AA.out.keep B.out)
            have z0 := cell_bel B.out Z.out.1
            have z1 := cell_bel B.out Z.out.2
            cases hany : (l.drop (q + 1)).any (fun x => x.1 == e1)
            · have HAN := Lib.hid hany; clear hany
              go_wp2_with (at_builtin; refine wpList_append_sl _ rfl _ _ 32 rfl 88 k1 _ 2 16 Tryd.underlying32 I3.out.1 I3.out.2.1 I3.out.2.2.1 I3.out.2.2.2 rfl (by decide) _ F.length (flat F) rfl (by exact A2.out.own.alloc _) _ 1 (flat [(e1, e2)]) rfl (by exact RdSl.newAt _ _ _ 2 1 _ (by simp) rfl) (flat_one _) (by unfold maxLen; omega) (by omega) ?_)
              intro v1 w4 o1 g1 b1 n1
              have A4 := Lib.hid (A2.out.next (below_alloc _ _) o1 g1 b1 (by simp)); clear o1 g1 b1 n1
              go_wp2_with fail
              go_roundw
              case rel => exact ⟨q + 1, F ++ [(e1, e2)], by omega, by go_num, by rw [List.length_append]; show F.length + 1 ≤ q + 1; omega, by rw [← HFQ.out, HD.out, if_neg (by rw [HAN.out]; simp), List.append_assoc], A4.out.congr (by simp) (by rw [flat_append])⟩
              case measure => simp [intOf]; omega
            · have HAN := Lib.hid hany; clear hany
              go_wp2_with fail
              go_roundw
              case rel => exact ⟨q + 1, F, by omega, by go_num, by omega, by rw [← HFQ.out, HD.out, if_pos HAN.out]; rfl, A2.out⟩
              case measure => simp [intOf]; omega
    · obtain rfl : q = m := by omega
      have hFl : F = lastL l := by have := HFQ.out; rw [List.drop_of_length_le (by rw [HM.out]; omega)] at this; simpa [lastL] using this
      have HFL := Lib.hid hFl; clear hFl
      go_wp2_with fail
      go_ret
      exact ⟨_, rfl, by rw [← HFL.out]; exact A.out⟩
end
end Go.Proofs.YtdidpppjkbgccaaDoor
