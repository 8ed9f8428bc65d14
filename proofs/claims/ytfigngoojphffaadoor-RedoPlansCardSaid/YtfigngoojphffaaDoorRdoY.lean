/- The reference of layer 15: Word, Check, entries, Commit. -/
import Derived.Test.YtfigngoojphffaaDoorRdoK
import Derived.Test.YtfigngoojphffaaDoorCrcB
import Derived.Test.YtfigngoojphffaaDoorR11
namespace Go.Proofs.YtfigngoojphffaaDoor
open Go.RowKit Go.Maps
attribute [local go_sem ↓] Go.wp_at_zero Go.wp_at_succ

/-- What the reference's Check tells. -/
def chkR (l : List (Nat × Int)) : Int := if l.all (fun e => rAllowB 2560 320 1664 e.1) then (if 96 < (lastL l).length then 9 else 0) else 1
theorem chkR_bad {l : List (Nat × Int)} {e : Nat × Int} (he : e ∈ l) (h : rAllowB 2560 320 1664 e.1 = false) : chkR l = 1 := by
  unfold chkR
  rw [if_neg]
  intro hc
  have := List.all_eq_true.1 hc e he
  rw [h] at this; cases this
theorem chkR_good {l : List (Nat × Int)} (h : ∀ e ∈ l, rAllowB 2560 320 1664 e.1 = true) : chkR l = if 96 < (lastL l).length then 9 else 0 := by
  unfold chkR
  rw [if_pos (List.all_eq_true.2 h)]
theorem all_snoc {l : List (Nat × Int)} {k : Nat} {e : Nat × Int} {p : Nat × Int → Prop} (he : l[k]? = some e) (h : ∀ x ∈ l.take k, p x) (hp : p e) : ∀ x ∈ l.take (k + 1), p x := fun x hx => by
  rw [take_snoc_get l k e he] at hx
  rcases List.mem_append.1 hx with hx | hx
  · exact h x hx
  · simp at hx; subst hx; exact hp
section
variable {w : World}
set_option maxRecDepth 100000 in
set_option maxHeartbeats 2000000 in
theorem r15Word_any (o : Nat) : Calls Tryd.prog 53 #[.agg #[.int .u64 320, .int .u64 1984, .int .u64 2560], .int .u64 o] w fun r w' => r = .returned (.bool (rAllowB 2560 320 1664 o)) ∧ Below w.heap.size w w' := by
  have hres : ∀ b, b = rAllowB 2560 320 1664 o → Ending.returned (.bool b) = .returned (.bool (rAllowB 2560 320 1664 o)) := fun b e => by rw [e]
  have HR := Lib.hid hres; clear hres
  by_cases h8 : o % 8 = 0
  · have b8 : (((o : Int) % 8) == 0) = true := by simp; omega
    by_cases hs : o < 2560
    · have hs' : (o : Int) < 2560 := by omega
      by_cases hl : o < 320
      · have hl' : (o : Int) < 320 := by omega
        go_enter Tryd.func53, Tryd.ntmps53
        go_wp2_with fail
        go_ret
        exact ⟨HR.out _ (by unfold rAllowB; symm; simp; omega), below_alloc _ _⟩
      · have hl' : ¬ (o : Int) < 320 := by omega
        by_cases h5 : 1984 ≤ o
        · have h5' : (1984 : Int) ≤ o := by omega
          go_enter Tryd.func53, Tryd.ntmps53
          go_wp2_with fail
          go_ret
          exact ⟨HR.out _ (by unfold rAllowB; symm; simp; omega), below_alloc _ _⟩
        · have h5' : ¬ (1984 : Int) ≤ o := by omega
          go_enter Tryd.func53, Tryd.ntmps53
          go_wp2_with fail
          go_ret
          exact ⟨HR.out _ (by unfold rAllowB; symm; simp; omega), below_alloc _ _⟩
    · have hs' : ¬ (o : Int) < 2560 := by omega
      go_enter Tryd.func53, Tryd.ntmps53
      go_wp2_with fail
      go_ret
      exact ⟨HR.out _ (by unfold rAllowB; simp [hs]), below_alloc _ _⟩
  · have b8 : (((o : Int) % 8) == 0) = false := by simp; omega
    go_enter Tryd.func53, Tryd.ntmps53
    go_wp2_with fail
    go_ret
    exact ⟨HR.out _ (by unfold rAllowB; simp [h8]), below_alloc _ _⟩
set_option maxRecDepth 100000 in
set_option maxHeartbeats 4000000 in
theorem r15Check_any (sv : Value) (l : List (Nat × Int)) (hs : RdSl w 2 sv l.length (flat l)) (hl : l.length ≤ 10000) (hb : ∀ e ∈ l, e.1 < 18446744073709551616) :
    Calls Tryd.prog 15 #[.agg #[.int .u64 320, .int .u64 1984, .int .u64 2560], sv] w fun r w' => r = .returned (.int .i64 (chkR l)) ∧ Below w.heap.size w w' := by
  have HS := Lib.hid hs; have HB := Lib.hid hb; clear hb
  obtain ⟨_, sa, sc, rfl, hsc, _⟩ := hs
  generalize hm : l.length = m at *
  have HM := Lib.hid hm; clear hm
  have B0 := Lib.hid (below_alloc w (.cells #[.int .u64 320, .int .u64 1984, .int .u64 2560] 42))
  have Z0 : Hid ((w.alloc (.cells #[.int .u64 320, .int .u64 1984, .int .u64 2560] 42)).cell? ⟨w.heap.size, 0, none⟩ = some (.int .u64 320) ∧ (w.alloc (.cells #[.int .u64 320, .int .u64 1984, .int .u64 2560] 42)).cell? ⟨w.heap.size, 1, none⟩ = some (.int .u64 1984) ∧ (w.alloc (.cells #[.int .u64 320, .int .u64 1984, .int .u64 2560] 42)).cell? ⟨w.heap.size, 2, none⟩ = some (.int .u64 2560)) := ⟨(Blk.new w _ _).cell rfl, (Blk.new w _ _).cell rfl, (Blk.new w _ _).cell rfl⟩
  go_enter Tryd.func15, Tryd.ntmps15
  go_wp2_with fail
  go_loopw [9] (fun y wr => ∃ k : Nat, k ≤ m ∧ y = .int .i64 k ∧ (∀ e ∈ l.take k, rAllowB 2560 320 1664 e.1 = true) ∧ Below (w.heap.size + 1) (w.alloc (.cells #[.int .u64 320, .int .u64 1984, .int .u64 2560] 42)) wr) (fun y _ => m - (intOf y).toNat)
  case atStart => exact ⟨0, by omega, rfl, by simp, Below.refl _ _⟩
  case round =>
    obtain ⟨k, hk, rfl, hall, hbr⟩ := hrel
    have B := Lib.hid hbr; have HA := Lib.hid hall; clear hbr hall
    have BW : Hid (Below w.heap.size w wr) := B0.out.trans (B.out.mono (by omega))
    by_cases hlt : k < m
    · have hk' : (k : Int) < m := by omega
      obtain ⟨e, he⟩ : ∃ e, l[k]? = some e := ⟨_, List.getElem?_eq_getElem (by rw [HM.out]; exact hlt)⟩
      obtain ⟨_, a', c', e', _, hE⟩ := HS.out.below BW.out
      cases e'
      have hg := flat_get' l k e he
      obtain ⟨eb, eo, rfl, hE2⟩ := rd_at hE hg.1
      have c1 := hE2 _ _ hg.1; have c2 := hE2 _ _ hg.2
      rw [← Nat.add_assoc] at c2
      have HE := Lib.hid (fun h => all_snoc (p := fun e => rAllowB 2560 320 1664 e.1 = true) he HA.out h)
      have HM2 := Lib.hid (List.mem_of_getElem? he)
      clear hE hE2 he hg
      obtain ⟨e1, e2⟩ := e
      simp only at c1 c2 HE
      have hbs : (w.alloc (.cells #[.int .u64 320, .int .u64 1984, .int .u64 2560] 42)).heap.size = w.heap.size + 1 := by simp
      have hsz := B.out.size
      rw [hbs] at hsz
      have B2 : Hid (Below (w.heap.size + 1) (w.alloc (.cells #[.int .u64 320, .int .u64 1984, .int .u64 2560] 42)) (wr.alloc (.cells #[.int .u64 (e1 : Int), .int .u64 e2] 68))) := B.out.alloc hsz _
      have z0 : (wr.alloc (.cells #[.int .u64 (e1 : Int), .int .u64 e2] 68)).cell? ⟨w.heap.size, 0, none⟩ = some (.int .u64 320) := (World.cell?_of_block (B2.out.block w.heap.size (by omega))).trans Z0.out.1
      have z1 : (wr.alloc (.cells #[.int .u64 (e1 : Int), .int .u64 e2] 68)).cell? ⟨w.heap.size, 1, none⟩ = some (.int .u64 1984) := (World.cell?_of_block (B2.out.block w.heap.size (by omega))).trans Z0.out.2.1
      have z2 : (wr.alloc (.cells #[.int .u64 (e1 : Int), .int .u64 e2] 68)).cell? ⟨w.heap.size, 2, none⟩ = some (.int .u64 2560) := (World.cell?_of_block (B2.out.block w.heap.size (by omega))).trans Z0.out.2.2
      clear hbs
      have HW := Lib.hid (r15Word_any (w := wr.alloc (.cells #[.int .u64 (e1 : Int), .int .u64 e2] 68)) e1)
      cases hal : rAllowB 2560 320 1664 e1
      · rw [hal] at HW
        have HC : Hid (chkR l = 1) := chkR_bad HM2.out hal
        clear hal
        go_wp2_with fail
        (with_reducible refine HW.out.mono ?_)
        rintro e w4 ⟨rfl, b4⟩
        have B4 := Lib.hid b4; clear b4
        go_wp2_with fail
        go_ret
        exact ⟨by rw [HC.out]; rfl, BW.out.trans (((below_alloc wr _).trans (B4.out.mono (by simp))).mono BW.out.size)⟩
      · rw [hal] at HW
        have HE2 := Lib.hid (HE.out hal)
        clear hal
        go_wp2_with fail
        (with_reducible refine HW.out.mono ?_)
        rintro e w4 ⟨rfl, b4⟩
        have B4 : Hid (Below (w.heap.size + 1) (w.alloc (.cells #[.int .u64 320, .int .u64 1984, .int .u64 2560] 42)) w4) := B2.out.trans (b4.mono (by simp; omega))
        clear b4
        go_wp2_with fail
        go_roundw
        case rel => exact ⟨k + 1, by omega, by go_num, HE2.out, B4.out⟩
        case measure => simp [intOf]; omega
    · obtain rfl : k = m := by omega
      have hQ : l.take k = l := List.take_of_length_le (by rw [HM.out]; omega)
      rw [hQ] at HA
      have HC := Lib.hid (chkR_good HA.out)
      clear hQ
      have HWR := Lib.hid (r15Writes_any (w := wr) (.slice sa k sc) l (by rw [HM.out]; exact HS.out.below BW.out) (by rw [HM.out]; omega))
      generalize hwl : (lastL l).length = wl at *
      have HWL := Lib.hid hwl; clear hwl
      go_wp2_with fail
      (with_reducible refine HWR.out.mono ?_)
      rintro e w4 ⟨ov, rfl, a4⟩
      obtain ⟨za, zc, hz⟩ := a4.slice
      subst hz
      have B4 : Hid (Below w.heap.size w w4) := BW.out.trans (a4.bel.mono BW.out.size)
      clear a4
      by_cases h96 : 96 < wl
      · have h96' : (96 : Int) < wl := by omega
        rw [if_pos h96] at HC
        go_wp2_with fail
        go_ret
        exact ⟨by rw [HC.out]; rfl, B4.out⟩
      · have h96' : ¬ (96 : Int) < wl := by omega
        rw [if_neg h96] at HC
        go_wp2_with fail
        go_ret
        exact ⟨by rw [HC.out]; rfl, B4.out⟩
set_option maxRecDepth 100000 in
set_option maxHeartbeats 4000000 in
theorem r15entries_any (sv : Value) (l : List (Nat × Int)) (hs : RdSl w 2 sv l.length (flat l)) (hl : l.length ≤ 10000) (hb : ∀ e ∈ l, 0 ≤ e.2) :
    Calls Tryd.prog 54 #[sv] w fun r w' => ∃ ov, r = .returned ov ∧ Acc w w.heap.size w' 40 1 ov (2 * l.length) (natsU (entW l)) := by
  have HS := Lib.hid hs; have HB := Lib.hid hb; clear hb
  obtain ⟨_, sa, sc, rfl, hsc, _⟩ := hs
  obtain ⟨i0, hi0, hz0, hz1, hz2⟩ := info_parts infoU64
  have I := Lib.hid (And.intro hi0 (And.intro hz0 (And.intro hz1 hz2))); clear hi0 hz0 hz1 hz2
  generalize hm : l.length = m at *
  have HM := Lib.hid hm; clear hm
  go_enter Tryd.func54, Tryd.ntmps54
  go_wp2_with fail
  go_loopw [3, 8] (fun ov y wr => ∃ k : Nat, k ≤ m ∧ y = .int .i64 k ∧ Acc w w.heap.size wr 40 1 ov (2 * k) (natsU (entW (l.take k)))) (fun _ y _ => m - (intOf y).toNat)
  case atStart => exact ⟨0, by omega, rfl, Acc.nil w _ _ _ _ (Below.refl _ _) (Nat.le_refl _)⟩
  case round =>
    obtain ⟨k, hk, rfl, ha⟩ := hrel
    obtain ⟨oa, oc, hov⟩ := ha.slice
    subst hov
    have A := Lib.hid ha; clear ha
    by_cases hlt : k < m
    · have hk' : (k : Int) < m := by omega
      obtain ⟨e, he⟩ : ∃ e, l[k]? = some e := ⟨_, List.getElem?_eq_getElem (by rw [HM.out]; exact hlt)⟩
      obtain ⟨_, a', c', e', _, hE⟩ := HS.out.below A.out.bel
      cases e'
      have hg := flat_get' l k e he
      obtain ⟨eb, eo, rfl, hE2⟩ := rd_at hE hg.1
      have c1 := hE2 _ _ hg.1; have c2 := hE2 _ _ hg.2
      rw [← Nat.add_assoc] at c2
      have HT : Hid (natsU (entW (l.take (k + 1))) = natsU (entW (l.take k)) ++ [.int .u64 (e.1 : Int), .int .u64 e.2]) := by
        show _ = _
        rw [take_snoc_get l k e he, entW_snoc]
        have := HB.out e (List.mem_of_getElem? he)
        simp [natsU, Int.toNat_of_nonneg this]
      clear hE hE2 he hg
      obtain ⟨e1, e2⟩ := e
      simp only at c1 c2 HT
      go_wp2_with (at_builtin; refine wpList_append_sl _ rfl _ _ 56 rfl 40 i0 _ 1 8 Tryd.underlying56 I.out.1 I.out.2.1 I.out.2.2.1 I.out.2.2.2 rfl (by decide) _ (2 * k) (natsU (entW (l.take k))) rfl (by exact (A.out.own.alloc _).alloc _) _ 2 [.int .u64 (e1 : Int), .int .u64 e2] rfl (by exact RdSl.newAt _ _ _ 1 2 _ (by simp) rfl) (by simp [Value.oneCell']) (by unfold maxLen; omega) (by omega) ?_)
      intro v1 w1 o1 g1 b1 n1
      have A1 := Lib.hid (A.out.next (below_twice wr _ _) o1 g1 b1 (by omega)); clear o1 g1 b1 n1
      go_wp2_with fail
      go_roundw
      case rel => exact ⟨k + 1, by omega, by go_num, A1.out.congr (by omega) HT.out.symm⟩
      case measure => simp [intOf]; omega
    · obtain rfl : k = m := by omega
      have hF : l.take k = l := List.take_of_length_le (by rw [HM.out]; omega)
      rw [hF] at A
      clear hF
      go_wp2_with fail
      go_ret
      exact ⟨_, rfl, A.out⟩
set_option maxRecDepth 100000 in
set_option maxHeartbeats 4000000 in
theorem r15Commit_any (sv : Value) (l : List (Nat × Int)) (hs : RdSl w 2 sv l.length (flat l)) (hl : l.length ≤ 1000) (hb : ∀ e ∈ l, e.1 < 18446744073709551616 ∧ 0 ≤ e.2 ∧ e.2 < 18446744073709551616) :
    Calls Tryd.prog 56 #[sv] w fun r w' => r = .returned (.int .u64 (cmtN l : Nat)) ∧ Below w.heap.size w w' := by
  have HE := Lib.hid (r15entries_any sv l hs (by omega) (fun e he => (hb e he).2.1))
  have hW := entW_bd hb
  have HSM := Lib.hid (fun (wx : World) (v : Value) (h : RdSl wx 1 v (2 * l.length) (natsU (entW l))) => r13Sum_any v (entW l) (by rw [entW_len]; exact h) hW (by rw [entW_len]; omega))
  obtain ⟨_, sa, sc, rfl, hsc, _⟩ := hs
  have hcb := crcN_lt (entW l)
  have HC : Hid (cmtN l = l.length + crcN (entW l) * 4294967296) := rfl
  generalize cmtN l = cm at *
  generalize crcN (entW l) = c at *
  generalize hm : l.length = m at *
  clear hb hW hm
  go_enter Tryd.func56, Tryd.ntmps56
  go_wp2_with fail
  (with_reducible refine HE.out.mono ?_)
  rintro e w1 ⟨ov, rfl, a1⟩
  obtain ⟨oa, oc, hov⟩ := a1.slice
  subst hov
  have HS1 := Lib.hid (HSM.out _ _ a1.rd)
  have B1 := Lib.hid a1.bel; clear a1
  go_wp2_with fail
  (with_reducible refine HS1.out.mono ?_)
  rintro e w' ⟨rfl, rfl⟩
  go_wp2_with fail
  go_ret
  exact ⟨by rw [HC.out, Int.natCast_add, Int.natCast_mul]; rfl, B1.out⟩
end
end Go.Proofs.YtfigngoojphffaaDoor
