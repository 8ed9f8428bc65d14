/- The reference of layer 16: word, Word, Capacity, is, count, Saved, fresh. -/
import Derived.Test.YtokgplgdaememaaDoorUndB
import Derived.Deep.RegionHeld3
namespace Go.Proofs.YtokgplgdaememaaDoor
open Go.RowKit Go.Maps
attribute [local go_sem ↓] Go.wp_at_zero Go.wp_at_succ

theorem infoRW : (Tryd.prog.info? 59).map (fun i => (i.zero, i.size, i.bytes)) = some (some (.agg #[.int .u64 0, .int .u64 0]), 2, 16) := by kernel_rfl
/-- The words of a device of 24 lines, as a slice. -/
structure WIn (w : World) (sv : Value) (C : Nat → Int) : Prop where
  rd : RdSl w 1 sv 192 (intsU (getL C 192))
  bd : ∀ i, 0 ≤ C i ∧ C i < 18446744073709551616
section
variable {w : World} {sv : Value} {C : Nat → Int}
theorem WIn.below {w1 : World} (h : WIn w sv C) (hb : Below w.heap.size w w1) : WIn w1 sv C := ⟨h.rd.below hb, h.bd⟩
theorem WIn.alloc (h : WIn w sv C) (o : Obj) : WIn (w.alloc o) sv C := h.below (below_alloc w o)
theorem WIn.drew (h : WIn w sv C) : WIn w.drew sv C := h.below ((Below.refl _ _).drew)
theorem WIn.cell (h : WIn w sv C) (i : Nat) (hi : i < 192) : ∃ b o c, sv = .slice (some ⟨b, o, none⟩) 192 c ∧ w.cell? ⟨b, o + i, none⟩ = some (.int .u64 (C i)) := by
  have hx : (intsU (getL C 192))[i]? = some (.int .u64 (C i)) := by simp [intsU, getL, hi]
  obtain ⟨b, o, c, e, _, h3⟩ := rd_some h.rd (fun e => by rw [e] at hx; simp at hx)
  exact ⟨b, o, c, e, h3 i _ hx⟩
theorem WIn.slice (h : WIn w sv C) : ∃ a c, sv = .slice a 192 c := by obtain ⟨_, a, c, e, _⟩ := h.rd; exact ⟨a, c, e⟩
set_option maxHeartbeats 400000 in
theorem r16word_any (h : WIn w sv C) (o : Nat) (ho : o < 1536) : Calls Tryd.prog 61 #[sv, .int .u64 o] w fun r w' => r = .returned (.int .u64 (((C (o / 8)).toNat : Nat) : Int)) ∧ w = w' := by
  obtain ⟨b, q, c, rfl, hc⟩ := h.cell (o / 8) (by omega)
  have E : Hid ((((C (o / 8)).toNat : Nat) : Int) = C (o / 8)) := Int.toNat_of_nonneg (h.bd _).1
  rw [E.out]
  obtain ⟨d, hd⟩ : ∃ d, o / 8 = d := ⟨_, rfl⟩
  have q6 : (o : Int) / 8 = d := by omega
  have hdn : (d : Int) < 192 := by omega
  rw [hd] at hc ⊢
  clear h E hd
  go_enter Tryd.func61, Tryd.ntmps61
  go_wp2_with fail
  go_ret
  exact ⟨rfl, rfl⟩
set_option maxHeartbeats 400000 in
theorem r16Capacity_any : Calls Tryd.prog 60 #[.agg #[.int .u64 192, .int .u64 512, .int .u64 1536]] w fun r w' => r = .returned (.int .i64 16) ∧ Below w.heap.size w w' := by
  go_enter Tryd.func60, Tryd.ntmps60
  go_wp2_with fail
  go_ret
  exact ⟨rfl, below_alloc _ _⟩
set_option maxRecDepth 100000 in
set_option maxHeartbeats 1000000 in
theorem r16Word_any (o : Nat) : Calls Tryd.prog 37 #[.agg #[.int .u64 192, .int .u64 512, .int .u64 1536], .int .u64 o] w fun r w' => r = .returned (.bool (allowedB 1536 192 5 o)) ∧ Below w.heap.size w w' := by
  have hres : ∀ b, b = allowedB 1536 192 5 o → Ending.returned (.bool b) = .returned (.bool (allowedB 1536 192 5 o)) := fun b e => by rw [e]
  have HR := Lib.hid hres; clear hres
  by_cases h8 : o % 8 = 0
  · have b8 : (((o : Int) % 8) == 0) = true := by simp; omega
    by_cases hs : o < 1536
    · have hs' : (o : Int) < 1536 := by omega
      by_cases hl : o < 192
      · have hl' : (o : Int) < 192 := by omega
        go_enter Tryd.func37, Tryd.ntmps37
        go_wp2_with fail
        go_ret
        exact ⟨HR.out _ (by unfold allowedB; simp [h8, hs, hl]), below_alloc _ _⟩
      · have hl' : ¬ (o : Int) < 192 := by omega
        by_cases h5 : 512 ≤ o
        · have h5' : (512 : Int) ≤ o := by omega
          go_enter Tryd.func37, Tryd.ntmps37
          go_wp2_with fail
          go_ret
          exact ⟨HR.out _ (by unfold allowedB; symm; simp; omega), below_alloc _ _⟩
        · have h5' : ¬ (512 : Int) ≤ o := by omega
          go_enter Tryd.func37, Tryd.ntmps37
          go_wp2_with fail
          go_ret
          exact ⟨HR.out _ (by unfold allowedB; symm; simp; omega), below_alloc _ _⟩
    · have hs' : ¬ (o : Int) < 1536 := by omega
      go_enter Tryd.func37, Tryd.ntmps37
      go_wp2_with fail
      go_ret
      exact ⟨HR.out _ (by unfold allowedB; simp [hs]), below_alloc _ _⟩
  · have b8 : (((o : Int) % 8) == 0) = false := by simp; omega
    go_enter Tryd.func37, Tryd.ntmps37
    go_wp2_with fail
    go_ret
    exact ⟨HR.out _ (by unfold allowedB; simp [h8]), below_alloc _ _⟩
set_option maxRecDepth 100000 in
set_option maxHeartbeats 1000000 in
theorem r16count_any (k : Nat) (hk : k ≤ 100000) : Calls Tryd.prog 63 #[.agg #[.int .u64 192, .int .u64 512, .int .u64 1536], .int .i64 k] w
    fun r w' => ∃ ov, r = .returned ov ∧ Acc w w.heap.size w' 55 3 ov (storesL [(192, (k : Int))]).length (instrC (storesL [(192, (k : Int))])) := by
  have HS := Lib.hid (r10Stores_any (w := (w.alloc (.cells #[.int .u64 192, .int .u64 512, .int .u64 1536] 37)).alloc (.cells #[.int .u64 192, .int .u64 k] 59)) (.slice (some ⟨w.heap.size + 1, 0, none⟩) 1 1) [(192, (k : Int))] (by exact RdSl.newAt _ _ _ 2 1 _ (by simp) rfl) (by simp) (fun e he => by simp at he; subst he; simp))
  go_enter Tryd.func63, Tryd.ntmps63
  go_wp2_with fail
  (with_reducible refine HS.out.mono ?_)
  rintro e w1 ⟨ov, rfl, a1⟩
  have A1 := Lib.hid (a1.deeper (below_twice _ _ _)); clear a1 HS
  go_wp2_with fail
  go_ret
  exact ⟨_, rfl, A1.out⟩
set_option maxRecDepth 100000 in
set_option maxHeartbeats 2000000 in
theorem r16is_any (lv : Value) (l : List (Nat × Int)) (h : RdSl w 2 lv l.length (flat l)) (o : Nat) (hl : l.length ≤ 100000) :
    Calls Tryd.prog 83 #[lv, .int .u64 o] w fun r w' => r = .returned (.bool (decide (o ∈ l.map (·.1)))) ∧ Below w.heap.size w w' := by
  have H := Lib.hid h
  obtain ⟨_, la, lc, rfl, hlc, _⟩ := h
  generalize hn : l.length = n at *
  have HN := Lib.hid hn; clear hn
  go_enter Tryd.func83, Tryd.ntmps83
  go_wp2_with fail
  go_loopw [9] (fun y wr => ∃ k : Nat, k ≤ n ∧ y = .int .i64 k ∧ o ∉ (l.take k).map (·.1) ∧ Below w.heap.size w wr) (fun y _ => n - (intOf y).toNat)
  case atStart => exact ⟨0, by omega, rfl, by simp, Below.refl _ _⟩
  case round =>
    obtain ⟨k, hk, rfl, hno, hb⟩ := hrel
    have B := Lib.hid hb; have NO := Lib.hid hno; clear hb hno
    by_cases hlt : k < n
    · have hk' : (k : Int) < n := by omega
      obtain ⟨e, he⟩ : ∃ e, l[k]? = some e := ⟨_, List.getElem?_eq_getElem (by rw [HN.out]; exact hlt)⟩
      obtain ⟨_, a', c', e', _, hE⟩ := H.out.below B.out
      cases e'
      have hg := flat_get' l k e he
      obtain ⟨eb, eo, rfl, hE2⟩ := rd_at hE hg.1
      have c1 := hE2 _ _ hg.1; have c2 := hE2 _ _ hg.2
      rw [← Nat.add_assoc] at c2
      have HT := Lib.hid (take_snoc_get l k e he)
      have HM := Lib.hid (List.mem_of_getElem? he)
      clear hE hE2 he hg
      obtain ⟨e1, e2⟩ := e
      simp only at c1 c2
      by_cases heq : e1 = o
      · have hb : ((e1 : Int) == (o : Int)) = true := by simp; omega
        have HQ : Hid (decide (o ∈ l.map (·.1)) = true) := by
          show decide (o ∈ l.map (·.1)) = true
          simp; exact ⟨e2, by rw [← heq]; exact HM.out⟩
        clear heq
        go_wp2_with fail
        go_ret
        exact ⟨by rw [HQ.out]; rfl, B.out.trans ((below_alloc wr _).mono B.out.size)⟩
      · have hb : ((e1 : Int) == (o : Int)) = false := by simp; omega
        have HQ : Hid (o ∉ (l.take (k + 1)).map (·.1)) := by
          show o ∉ (l.take (k + 1)).map (·.1)
          rw [HT.out, List.map_append, List.mem_append]
          rintro (h | h)
          · exact NO.out h
          · simp at h; omega
        clear heq
        go_wp2_with fail
        go_roundw
        case rel => exact ⟨k + 1, by omega, by go_num, HQ.out, B.out.trans ((below_alloc wr _).mono B.out.size)⟩
        case measure => simp [intOf]; omega
    · obtain rfl : k = n := by omega
      have HQ : Hid (decide (o ∈ l.map (·.1)) = false) := by
        show decide (o ∈ l.map (·.1)) = false
        have := NO.out
        rw [List.take_of_length_le (by rw [HN.out]; omega)] at this
        simpa using this
      go_wp2_with fail
      go_ret
      exact ⟨by rw [HQ.out]; rfl, B.out⟩
/-- The reference's Saved and fresh answer lists of writes in blocks of their own. -/
def WrPost (w : World) (l : List (Nat × Int)) (r : Ending) (w' : World) : Prop := ∃ ov, r = .returned ov ∧ Acc w w.heap.size w' 59 2 ov l.length (flat l)
set_option maxRecDepth 100000 in
set_option maxHeartbeats 4000000 in
theorem r16Saved_any (h : WIn w sv C) : Calls Tryd.prog 23 #[.agg #[.int .u64 192, .int .u64 512, .int .u64 1536], sv] w (WrPost w (savedL C 192 5)) := by
  have H := Lib.hid h
  obtain ⟨sa, sc, hsv⟩ := h.slice
  have hcb := h.bd 24
  have HW := Lib.hid (fun wx (hx : WIn wx sv C) o ho => r16word_any hx o ho)
  obtain ⟨k0, hi0, hz0, hz1, hz2⟩ := info_parts infoRW
  have I2 := Lib.hid (And.intro hi0 (And.intro hz0 (And.intro hz1 hz2))); clear hi0 hz0 hz1 hz2
  obtain ⟨c, hc⟩ : ∃ c, (C 24).toNat = c := ⟨_, rfl⟩
  have hcI : C 24 = (c : Int) := by omega
  have hc64 : c < 18446744073709551616 := by omega
  have HC : Hid (cntL C 192 5 = if 16 < c then 0 else c) := by
    show cntL C 192 5 = _
    unfold cntL
    rw [show 192 / 8 = 24 from rfl, hcI, show 4 * (5 - 1) = 16 from rfl]
    by_cases e : 16 < c
    · rw [if_pos (by omega), if_pos e]
    · rw [if_neg (by omega), if_neg e]; omega
  have HW0 := Lib.hid (fun wx (hx : WIn wx sv C) => by have := HW.out wx hx 192 (by omega); rw [show 192 / 8 = 24 from rfl, hc, show ((192 : Nat) : Int) = 192 from rfl] at this; exact this)
  clear h hcb hcI hc
  subst hsv
  by_cases hgt : 16 < c
  · have hgt' : (16 : Int) < (c : Int) := by omega
    have HQ : Hid (savedL C 192 5 = []) := by show savedL C 192 5 = []; unfold savedL; rw [HC.out, if_pos hgt]; rfl
    clear HC
    go_enter Tryd.func23, Tryd.ntmps23
    go_wp2_with fail
    (with_reducible refine (HW0.out _ (H.out.alloc _)).mono ?_)
    rintro e w' ⟨rfl, rfl⟩
    go_wp2_with fail
    (with_reducible refine r16Capacity_any.mono ?_)
    rintro e w1 ⟨rfl, b1⟩
    have B1 := Lib.hid ((below_alloc w _).trans (b1.mono (by simp))); clear b1
    go_wp2_with fail
    go_ret
    exact ⟨_, rfl, by rw [HQ.out]; exact Acc.nil w _ _ _ _ B1.out B1.out.size⟩
  · have hgt' : ¬ (16 : Int) < (c : Int) := by omega
    have HQ : Hid (savedL C 192 5 = entsL C 192 c) := by show savedL C 192 5 = _; unfold savedL; rw [HC.out, if_neg hgt]
    clear HC
    go_enter Tryd.func23, Tryd.ntmps23
    go_wp2_with fail
    (with_reducible refine (HW0.out _ (H.out.alloc _)).mono ?_)
    rintro e w' ⟨rfl, rfl⟩
    go_wp2_with fail
    (with_reducible refine r16Capacity_any.mono ?_)
    rintro e w1 ⟨rfl, b1⟩
    have X1 : Hid (w1.cell? ⟨w.heap.size, 0, none⟩ = some (.int .u64 192)) := cell_bel b1 ((Blk.new w _ 37).cell (i := 0) rfl)
    have B1 := Lib.hid ((below_alloc w _).trans (b1.mono (by simp))); clear b1 HW0
    have S1 : Hid (w.heap.size < w1.heap.size) := World.block_lt_of_cell? w1 _ X1.out
    go_wp2_with fail
    go_loopw [6, 7] (fun s y wr => ∃ k : Nat, k ≤ c ∧ y = .int .u64 k ∧ Acc w1 w1.heap.size wr 59 2 s k (flat (entsL C 192 k))) (fun _ y _ => c - (intOf y).toNat)
    case atStart => exact ⟨0, by omega, rfl, Acc.nil w1 _ _ _ _ (Below.refl _ _) (Nat.le_refl _)⟩
    case round =>
      obtain ⟨k, hk, rfl, ha⟩ := hrel
      obtain ⟨oa, oc, hov⟩ := ha.slice
      subst hov
      have A := Lib.hid ha; clear ha
      by_cases hlt : k < c
      · have hlt' : (k : Int) < c := by omega
        have x0 : wr.cell? ⟨w.heap.size, 0, none⟩ = some (.int .u64 192) := cell_bel A.out.bel X1.out
        have LW := Lib.hid (H.out.below (B1.out.trans (A.out.bel.mono B1.out.size)))
        have hw1 := HW.out wr.drew LW.out.drew (256 + 16 * k) (by omega)
        have hw2 := HW.out wr.drew LW.out.drew (264 + 16 * k) (by omega)
        have hv1 := H.out.bd ((264 + 16 * k) / 8)
        rw [show (256 + 16 * k) / 8 = 192 / 8 + 8 + 2 * k by omega, show ((256 + 16 * k : Nat) : Int) = 256 + 16 * (k : Int) by omega] at hw1
        rw [show (264 + 16 * k) / 8 = 192 / 8 + 9 + 2 * k by omega, show ((264 + 16 * k : Nat) : Int) = 264 + 16 * (k : Int) by omega] at hw2
        rw [show (264 + 16 * k) / 8 = 192 / 8 + 9 + 2 * k by omega] at hv1
        have HW1 := Lib.hid hw1; have HW2 := Lib.hid hw2
        have HT : Hid (entsL C 192 (k + 1) = entsL C 192 k ++ [((C (192 / 8 + 8 + 2 * k)).toNat, ((C (192 / 8 + 9 + 2 * k)).toNat : Int))]) := by
          show entsL C 192 (k + 1) = _
          rw [entsL_snoc, Int.toNat_of_nonneg hv1.1]
        clear hw1 hw2 hv1
        generalize (C (192 / 8 + 8 + 2 * k)).toNat = ea at *
        generalize (C (192 / 8 + 9 + 2 * k)).toNat = ev at *
        go_wp2_with fail
        have q1 : IntKind.u64.wrap (16 * (k : Int)) = 16 * (k : Int) := IntWalk.u64_in _ (by omega)
        have q2 : IntKind.u64.wrap (256 + 16 * (k : Int)) = 256 + 16 * (k : Int) := IntWalk.u64_in _ (by omega)
        have q3 : IntKind.u64.wrap (264 + 16 * (k : Int)) = 264 + 16 * (k : Int) := IntWalk.u64_in _ (by omega)
        have q4 : IntKind.u64.wrap 256 = 256 := IntWalk.u64_in _ (by omega)
        have q5 : IntKind.u64.wrap 264 = 264 := IntWalk.u64_in _ (by omega)
        have XD : Hid (wr.drew.cell? ⟨w.heap.size, 0, none⟩ = some (.int .u64 192)) := x0
        have XA : Hid (∀ o, (wr.drew.alloc o).cell? ⟨w.heap.size, 0, none⟩ = some (.int .u64 192)) := fun o => cell_bel (below_alloc _ o) XD.out
        have XB : Hid (∀ o, (wr.alloc o).drew.cell? ⟨w.heap.size, 0, none⟩ = some (.int .u64 192)) := fun o => cell_bel (below_alloc_drew _ o) x0
        go_region_held3 (fun wx => wx.cell? ⟨w.heap.size, 0, none⟩ = some (.int .u64 192)) (first | (with_reducible exact XD.out) | (with_reducible exact XA.out _) | (with_reducible exact XB.out _) | (with_reducible exact XC.out)) (first | (go_at_call 61; (first | (with_reducible refine HW1.out.mono ?_) | (with_reducible refine HW2.out.mono ?_)); rintro e w' ⟨rfl, rfl⟩) | (refine step_append_sl (w := wr.drew.alloc (.cells #[.int .u64 ea, .int .u64 ev] 59)) rfl (.tmp 22) (.tmp 40) 50 rfl 59 k0 _ 2 16 Tryd.underlying50 I2.out.1 I2.out.2.1 I2.out.2.2.1 I2.out.2.2.2 rfl (by decide) (.slice oa k oc) k (flat (entsL C 192 k)) rfl (by exact A.out.own.drew.alloc _) _ 1 (flat [(ea, (ev : Int))]) rfl (by exact RdSl.newAt _ _ _ 2 1 _ rfl rfl) (flat_one _) (by unfold maxLen; omega) (by omega) ?_; intro v2 w2 o2 g2 b2; have A2 := Lib.hid (A.out.next (below_alloc_drew wr _) o2 g2 b2 (below_alloc_drew wr _).size); have XC : Hid (w2.cell? ⟨w.heap.size, 0, none⟩ = some (.int .u64 192)) := cell_bel A2.out.bel X1.out; clear o2 g2 b2))
        all_goals go_wp2_with fail
        all_goals
          go_roundw
          case rel => exact ⟨k + 1, by omega, by go_num, A2.out.congr rfl (by rw [HT.out, flat_append])⟩
          case measure => simp [intOf]; omega
      · obtain rfl : k = c := by omega
        go_wp2_with fail
        go_ret
        exact ⟨_, rfl, by rw [HQ.out]; exact (A.out.deeper B1.out).congr (entsL_len _ _ _).symm rfl⟩
end
end Go.Proofs.YtokgplgdaememaaDoor
