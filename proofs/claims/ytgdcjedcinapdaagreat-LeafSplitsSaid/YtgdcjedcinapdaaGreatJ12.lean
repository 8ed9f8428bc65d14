/- The reference's Lines, Flushes and Stores. -/
import Derived.Test.YtgdcjedcinapdaaGreatJ9
import Derived.Test.YtgdcjedcinapdaaGreatJ1
import Derived.Test.YtgdcjedcinapdaaGreatJ4
import Derived.Laws.CopyRow
import Derived.Test.YtgdcjedcinapdaaGreatJ11
import Derived.Test.YtgdcjedcinapdaaGreatJ10
import Derived.Test.YtgdcjedcinapdaaGreatJ7
namespace Go.Proofs.YtgdcjedcinapdaaGreat
open Go.RowKit
attribute [local go_sem ↓] Go.wp_at_zero Go.wp_at_succ

section
variable {w : World}
/-- The slices of a row and one more word, put together. -/
theorem lines_end {w3 : World} {v3 : Value} {out : List Nat} {i l : Nat} (hi : i ≤ out.length) (o : OwnSl w3 28 1 v3 (0 + i + 1 + (out.length - i)) ([] ++ natsU (out.take i) ++ natsU [l] ++ natsU (out.drop i))) : OwnSl w3 28 1 v3 (out.take i ++ l :: out.drop i).length (natsU (out.take i ++ l :: out.drop i)) := by
  have e1 : (out.take i ++ l :: out.drop i).length = 0 + i + 1 + (out.length - i) := by simp; omega
  have e2 : natsU (out.take i ++ l :: out.drop i) = [] ++ natsU (out.take i) ++ natsU [l] ++ natsU (out.drop i) := by simp [natsU]
  rw [e1, e2]; exact o
theorem ownNewAt (w : World) (c : Array Value) (e : TypeId) (size n cap b : Nat) (hb : b = w.heap.size) (hs : c.size = cap * size) (hn : n ≤ cap) (hm : cap ≤ maxLen) :
    OwnSl (w.alloc (.cells c e)) e size (.slice (Option.some ⟨b, 0, none⟩) n cap) n (c.toList.take (n * size)) := by subst hb; exact OwnSl.new w c e size n cap hs hn hm
theorem sz1 (w : World) (o : Obj) : w.heap.size ≤ (w.alloc o).drew.heap.size := by simp [World.drew]
theorem sz2 (w : World) (o o' : Obj) : w.heap.size ≤ ((w.alloc o).alloc o').drew.heap.size := by simp [World.drew]; omega
theorem lt2 (w : World) (o o' : Obj) : w.heap.size + 1 < ((w.alloc o).alloc o').drew.heap.size := by simp [World.drew]
theorem lt2' (w : World) (o o' : Obj) : w.heap.size < ((w.alloc o).alloc o').drew.heap.size := by simp [World.drew]; omega
theorem ob_ne {a b : Nat} (h : a ≠ b) : (Value.slice (some ⟨a, 0, none⟩) 0 0).ownBlock ≠ some b := fun e => h (by simpa [Value.ownBlock] using e)
/-- The lines collected so far. -/
structure LnAt (w : World) (offs : List Nat) (k : Nat) (ov : Value) (wr : World) : Prop where
  acc : Acc w w.heap.size wr 28 1 ov (linesL (offs.take k)).length (natsU (linesL (offs.take k)))
theorem rd_newer {wz w1 : World} {g : Nat} {l : Nat} {k : Value} (h : RdSl wz 1 (.slice (some ⟨g, 0, none⟩) 1 1) 1 (natsU [l])) (hg : wz.grownBy w1 k.ownBlock) (hlt : g < wz.heap.size) (hne : k.ownBlock ≠ some g) : RdSl w1 1 (.slice (some ⟨g, 0, none⟩) 1 1) 1 (natsU [l]) :=
  h.kept (fun b hb _ => by simp [Value.ownBlock] at hb; subst hb; exact hg.block _ hlt (fun e => hne e.symm))
theorem LnAt.step {w wo w3 : World} {offs : List Nat} {k o : Nat} {ov v3 : Value} {i : Nat} (h : LnAt w offs k ov wo) (ho : offs[k]? = some o) (hi : lowN (linesL (offs.take k)) (o / 64) = i) (hne : (linesL (offs.take k))[i]? ≠ some (o / 64))
    (h3 : OwnSl w3 28 1 v3 ((linesL (offs.take k)).take i ++ (o / 64) :: (linesL (offs.take k)).drop i).length (natsU ((linesL (offs.take k)).take i ++ (o / 64) :: (linesL (offs.take k)).drop i))) (hb : Below wo.heap.size wo w3 ∧ ∀ g, v3.ownBlock = some g → wo.heap.size ≤ g) : LnAt w offs (k + 1) v3 w3 := by
  have e : linesL (offs.take (k + 1)) = (linesL (offs.take k)).take i ++ (o / 64) :: (linesL (offs.take k)).drop i := by
    rw [take_snoc_at offs k o ho, linesL_snoc]; unfold insL; rw [hi, if_neg hne]
  refine ⟨?_⟩
  rw [e]
  exact ⟨h3, fun g hg => Nat.le_trans h.acc.bel.size (hb.2 g hg), h.acc.bel.trans (hb.1.mono h.acc.bel.size), Nat.le_trans h.acc.lt hb.1.size⟩
theorem LnAt.skip {w wo : World} {offs : List Nat} {k o : Nat} {ov : Value} {i : Nat} (h : LnAt w offs k ov wo) (ho : offs[k]? = some o) (hi : lowN (linesL (offs.take k)) (o / 64) = i) (he : (linesL (offs.take k))[i]? = some (o / 64)) : LnAt w offs (k + 1) ov wo := by
  have e : linesL (offs.take (k + 1)) = linesL (offs.take k) := by rw [take_snoc_at offs k o ho, linesL_snoc]; unfold insL; rw [hi, if_pos he]
  exact ⟨by rw [e]; exact h.acc⟩
set_option maxRecDepth 100000 in
set_option maxHeartbeats 8000000 in
theorem r10Lines_any (sv : Value) (offs : List Nat) (h : RdSl w 1 sv offs.length (natsU offs)) (hl : offs.length ≤ 100000) (hb : ∀ o ∈ offs, o < 18446744073709551616) :
    Calls Tryz.prog 122 #[sv] w fun r w' => ∃ ov, r = .returned ov ∧ Acc w w.heap.size w' 28 1 ov (linesL offs).length (natsU (linesL offs)) := by
  have H := Lib.hid h; have HB := Lib.hid hb; clear hb
  obtain ⟨_, sa, sc, rfl, hsc, _⟩ := h
  obtain ⟨i0, hi0, hz0, hz1, hz2⟩ := info_parts infoU64
  have I := Lib.hid (And.intro hi0 (And.intro hz0 (And.intro hz1 hz2))); clear hi0 hz0 hz1 hz2
  generalize hn : offs.length = n at *
  have HN := Lib.hid hn; clear hn
  go_enter Tryz.func122, Tryz.ntmps122
  go_wp2_with fail
  go_loopw [3, 10] (fun ov y wr => ∃ k : Nat, k ≤ n ∧ y = .int .i64 k ∧ LnAt w offs k ov wr) (fun _ y _ => n - (intOf y).toNat)
  case atStart => exact ⟨0, by omega, rfl, ⟨Acc.nil w _ _ _ _ (Below.refl _ _) (Nat.le_refl _)⟩⟩
  case round =>
    obtain ⟨k, hk, rfl, ha⟩ := hrel
    obtain ⟨oa, oc, hov⟩ := ha.acc.slice
    subst hov
    have A := Lib.hid ha; clear ha
    obtain ⟨wo, hwo⟩ : ∃ x : World, x = wr := ⟨_, rfl⟩
    subst hwo
    by_cases hlt : k < n
    · have hk' : (k : Int) < n := by omega
      obtain ⟨o, ho⟩ : ∃ o, offs[k]? = some o := ⟨_, List.getElem?_eq_getElem (by rw [HN.out]; exact hlt)⟩
      obtain ⟨_, a', c', e', _, hE⟩ := H.out.below A.out.acc.bel
      cases e'
      obtain ⟨eb, eo, rfl, hE2⟩ := rd_at hE (natsU_get ho)
      have c1 := hE2 _ _ (natsU_get ho)
      have hoB := HB.out o (List.mem_of_getElem? ho)
      have HST := Lib.hid (fun v3 w3 i => A.out.step (v3 := v3) (w3 := w3) (i := i) ho)
      have HSK := Lib.hid (fun i => A.out.skip (i := i) ho)
      have hlen : (linesL (offs.take k)).length ≤ 100000 := by have h1 := linesL_len (offs.take k); have h2 := List.length_take_le k offs; omega
      have hrd := A.out.acc.rd
      clear hE hE2 ho
      generalize hout : linesL (offs.take k) = out at *
      clear hout
      obtain ⟨l, hdef⟩ : ∃ l, l = o / 64 := ⟨_, rfl⟩
      have hq : (o : Int) / 64 = (l : Int) := by omega
      rw [← hdef] at HST HSK
      have hlow := lowN_lt out l; have hge := lowN_ge out l; have hle := lowN_le out l
      generalize ht : lowN out l = t at *
      have LOW := Lib.hid (And.intro hlow hge); clear hlow hge hdef
      have RD := Lib.hid hrd
      generalize hm : out.length = m at *
      have HM := Lib.hid hm; clear hm
      have hcap : m ≤ oc := by obtain ⟨_, _, _, e, hc, _⟩ := hrd; cases e; exact hc
      clear hrd
      go_wp2_with fail
      go_loop [7] (fun y => ∃ i : Nat, i ≤ t ∧ y = .int .i64 i) (fun y => t - (intOf y).toNat)
      case atStart => exact ⟨0, by omega, rfl⟩
      case round =>
        obtain ⟨i, hi, rfl⟩ := hrel
        by_cases hit : i < t
        · obtain ⟨x, hx⟩ : ∃ x, out[i]? = some x := ⟨_, List.getElem?_eq_getElem (by rw [HM.out]; omega)⟩
          have hxl := LOW.out.1 i x hit hx
          obtain ⟨_, a', c', e', _, hE⟩ := RD.out
          cases e'
          obtain ⟨gb, go', rfl, hE2⟩ := rd_at hE (natsU_get hx)
          have d1 := hE2 _ _ (natsU_get hx)
          have him : (i : Int) < m := by omega
          have hxl' : (x : Int) < l := by omega
          clear hE hE2 hx
          go_wp2_with fail
          go_round
          case rel => exact ⟨i + 1, by omega, by go_num⟩
          case measure => simp [intOf]; omega
        · obtain rfl : i = t := by omega
          clear hit
          by_cases him : i < m
          · have him' : (i : Int) < m := by omega
            obtain ⟨x, hx⟩ : ∃ x, out[i]? = some x := ⟨_, List.getElem?_eq_getElem (by rw [HM.out]; omega)⟩
            have hxl := LOW.out.2 x hx
            have hxl' : ¬ (x : Int) < l := by omega
            by_cases hxe : x = l
            · have hbe : ((x : Int) == (l : Int)) = true := by simp; omega
              have HSK2 := Lib.hid (HSK.out i rfl (by rw [hx, hxe]))
              obtain ⟨_, a', c', e', _, hE⟩ := RD.out
              cases e'
              obtain ⟨gb, go', rfl, hE2⟩ := rd_at hE (natsU_get hx)
              have d1 := hE2 _ _ (natsU_get hx)
              clear hE hE2 hx hxe
              go_wp2_with fail
              go_roundw
              case rel => exact ⟨k + 1, by omega, by go_num, HSK2.out⟩
              case measure => simp [intOf]; omega
            · have hbe : ((x : Int) == (l : Int)) = false := by simp; omega
              have HST2 := Lib.hid (fun v3 w3 => HST.out v3 w3 i rfl (by rw [hx]; simpa using hxe))
              obtain ⟨_, a', c', e', _, hE⟩ := RD.out
              cases e'
              obtain ⟨gb, go', rfl, hE2⟩ := rd_at hE (natsU_get hx)
              have d1 := hE2 _ _ (natsU_get hx)
              have t1 : RdSl wo 1 (.slice (some ⟨gb, go', none⟩) i oc) i (natsU (out.take i)) := by have := RD.out.takeG i (by omega); rw [Nat.mul_one, natsU_take] at this; exact this
              have t2 : RdSl wo 1 (.slice (some ⟨gb, go' + i, none⟩) (m - i) (oc - i)) (m - i) (natsU (out.drop i)) := by
                have := RD.out.dropG i (by omega)
                rw [natsU_drop, Nat.mul_one, if_neg (by omega), Option.map_some, Addr.add_lit] at this
                exact this
              have T1 := Lib.hid t1; have T2 := Lib.hid t2; clear t1 t2
              have hic : (i : Int) ≤ oc := by omega
              have hil : (i : Int) ≤ m := by omega
              have hci' : ¬ (oc : Int) = (i : Int) := by omega
              have hci : ¬ oc = i := by omega
              clear hE hE2 hx hxe HSK RD A LOW
              go_wp2_with fail
              go_region_held3 (fun _ => True) (trivial) (first | (refine step_append_sl (w := (wo.alloc (.cells #[] 28)).drew) rfl (.tmp 42) (.tmp 45) 23 rfl 28 i0 _ 1 8 Tryz.underlying23 I.out.1 I.out.2.1 I.out.2.2.1 I.out.2.2.2 rfl (by decide) (.slice (some ⟨wo.heap.size, 0, none⟩) 0 0) 0 [] rfl (by exact (OwnSl.new wo #[] 28 1 0 0 rfl (Nat.le_refl _) (Nat.zero_le _)).drew) _ i (natsU (out.take i)) rfl (by exact (T1.out.alloc _).drew) (natsU_one _) (by unfold maxLen; omega) (by omega) ?_; intro v1 w1 o1 g1 b1; have hb1 := own_chain (v1 := .slice (some ⟨wo.heap.size, 0, none⟩) 0 0) ⟨below_alloc wo (.cells #[] 28), fun g hg => by cases hg; exact Nat.le_refl _⟩ ((Below.refl _ _).drew) g1 b1 (sz1 wo _); have O1 := Lib.hid (And.intro o1 hb1); clear o1 g1 b1 hb1) | (refine step_append_sl (w := ((wo.alloc (.cells #[] 28)).alloc (.cells #[.int .u64 (l : Int)] 28)).drew) rfl (.tmp 42) (.tmp 45) 23 rfl 28 i0 _ 1 8 Tryz.underlying23 I.out.1 I.out.2.1 I.out.2.2.1 I.out.2.2.2 rfl (by decide) (.slice (some ⟨wo.heap.size, 0, none⟩) 0 0) 0 [] rfl (by exact ((OwnSl.new wo #[] 28 1 0 0 rfl (Nat.le_refl _) (Nat.zero_le _)).alloc _).drew) _ i (natsU (out.take i)) rfl (by exact ((T1.out.alloc _).alloc _).drew) (natsU_one _) (by unfold maxLen; omega) (by omega) ?_; intro v1 w1 o1 g1 b1; have hb1 := own_chain (v1 := .slice (some ⟨wo.heap.size, 0, none⟩) 0 0) ⟨below_twice wo (.cells #[] 28) (.cells #[.int .u64 (l : Int)] 28), fun g hg => by cases hg; exact Nat.le_refl _⟩ ((Below.refl _ _).drew) g1 b1 (sz2 wo _ _); have RB := Lib.hid (rd_newer (l := l) ((RdSl.newAt (wo.alloc (.cells #[] 28)) #[.int .u64 (l : Int)] 28 1 1 (wo.heap.size + 1) (by simp) rfl).drew) g1 (lt2 wo _ _) (ob_ne (by omega))); have O1 := Lib.hid (And.intro o1 hb1); clear o1 g1 b1 hb1) | (refine step_append_sl (w := ((wo.alloc (.cells #[.int .u64 (l : Int)] 28)).alloc (.cells #[] 28)).drew) rfl (.tmp 42) (.tmp 45) 23 rfl 28 i0 _ 1 8 Tryz.underlying23 I.out.1 I.out.2.1 I.out.2.2.1 I.out.2.2.2 rfl (by decide) (.slice (some ⟨wo.heap.size + 1, 0, none⟩) 0 0) 0 [] rfl (by exact (ownNewAt (wo.alloc (.cells #[.int .u64 (l : Int)] 28)) #[] 28 1 0 0 (wo.heap.size + 1) (by simp) rfl (Nat.le_refl _) (Nat.zero_le _)).drew) _ i (natsU (out.take i)) rfl (by exact ((T1.out.alloc _).alloc _).drew) (natsU_one _) (by unfold maxLen; omega) (by omega) ?_; intro v1 w1 o1 g1 b1; have hb1 := own_chain (v1 := .slice (some ⟨wo.heap.size + 1, 0, none⟩) 0 0) ⟨below_twice wo (.cells #[.int .u64 (l : Int)] 28) (.cells #[] 28), fun g hg => by cases hg; exact Nat.le_succ _⟩ ((Below.refl _ _).drew) g1 b1 (sz2 wo _ _); have RB := Lib.hid (rd_newer (l := l) (((RdSl.newAt wo #[.int .u64 (l : Int)] 28 1 1 wo.heap.size rfl rfl).alloc (.cells #[] 28)).drew) g1 (lt2' wo _ _) (ob_ne (by omega))); have O1 := Lib.hid (And.intro o1 hb1); clear o1 g1 b1 hb1) | (refine step_append_sl (w := w1.alloc (.cells #[.int .u64 (l : Int)] 28)) rfl (.tmp 46) (.tmp 48) 23 rfl 28 i0 _ 1 8 Tryz.underlying23 I.out.1 I.out.2.1 I.out.2.2.1 I.out.2.2.2 rfl (by decide) v1 (0 + i) ([] ++ natsU (out.take i)) rfl (by exact O1.out.1.alloc _) _ 1 (natsU [l]) rfl (by exact RdSl.newAt w1 #[.int .u64 (l : Int)] 28 1 1 _ rfl rfl) (natsU_one _) (by unfold maxLen; omega) (by omega) ?_; intro v2 w2 o2 g2 b2; have hb2 := own_chain O1.out.2 (below_alloc w1 _) g2 b2 (by have := O1.out.2.1.size; simp; try omega); have O2 := Lib.hid (And.intro o2 hb2); have R2 := Lib.hid (T2.out.below hb2.1); clear o2 g2 b2 hb2) | (refine step_append_sl (w := w1) rfl (.tmp 46) (.tmp 48) 23 rfl 28 i0 _ 1 8 Tryz.underlying23 I.out.1 I.out.2.1 I.out.2.2.1 I.out.2.2.2 rfl (by decide) v1 (0 + i) ([] ++ natsU (out.take i)) rfl (by exact O1.out.1) _ 1 (natsU [l]) rfl (by exact RB.out) (natsU_one _) (by unfold maxLen; omega) (by omega) ?_; intro v2 w2 o2 g2 b2; have hb2 := own_chain O1.out.2 (Below.refl _ _) g2 b2 (by have := O1.out.2.1.size; simp; try omega); have O2 := Lib.hid (And.intro o2 hb2); have R2 := Lib.hid (T2.out.below hb2.1); clear o2 g2 b2 hb2) | (refine step_append_sl (w := w2) rfl (.tmp 49) (.tmp 52) 23 rfl 28 i0 _ 1 8 Tryz.underlying23 I.out.1 I.out.2.1 I.out.2.2.1 I.out.2.2.2 rfl (by decide) v2 (0 + i + 1) ([] ++ natsU (out.take i) ++ natsU [l]) rfl (by exact O2.out.1) _ (m - i) (natsU (out.drop i)) rfl (by exact R2.out) (natsU_one _) (by unfold maxLen; omega) (by omega) ?_; intro v3 w3 o3 g3 b3; have hb3 := own_chain O2.out.2 (Below.refl _ _) g3 b3 (by have := O2.out.2.1.size; omega); have O3 := Lib.hid (And.intro o3 hb3); clear o3 g3 b3 hb3))
              all_goals go_wp2_with fail
              all_goals go_roundw
              all_goals first | (exact ⟨k + 1, by omega, by go_num, HST2.out _ _ (lines_end (by have := HM.out; omega) (by rw [HM.out]; exact O3.out.1)) O3.out.2⟩) | (simp [intOf]; omega)
          · have him' : ¬ (i : Int) < m := by omega
            obtain rfl : i = m := by omega
            have hnone : out[i]? = none := List.getElem?_eq_none (by rw [HM.out]; omega)
            have HST2 := Lib.hid (fun v3 w3 => HST.out v3 w3 i rfl (by rw [hnone]; simp))
            have t1 : RdSl wo 1 (.slice oa i oc) i (natsU (out.take i)) := by have := RD.out.takeG i (by omega); rw [Nat.mul_one, natsU_take] at this; exact this
            have t2 : RdSl wo 1 (.slice (if oc = i then oa else oa.map (·.add i)) (i - i) (oc - i)) (i - i) (natsU (out.drop i)) := by have := RD.out.dropG i (by omega); rw [natsU_drop, Nat.mul_one] at this; exact this
            rw [Nat.sub_self] at t2
            have hic : (i : Int) ≤ oc := by omega
            clear hnone HSK RD A LOW
            by_cases hci : oc = i
            · rw [if_pos hci] at t2
              obtain rfl : i = oc := hci.symm
              rw [Nat.sub_self] at t2
              have T1 := Lib.hid t1; have T2 := Lib.hid t2; clear t1 t2 hci
              go_wp2_with fail
              go_region_held3 (fun _ => True) (trivial) (first | (refine step_append_sl (w := (wo.alloc (.cells #[] 28)).drew) rfl (.tmp 42) (.tmp 45) 23 rfl 28 i0 _ 1 8 Tryz.underlying23 I.out.1 I.out.2.1 I.out.2.2.1 I.out.2.2.2 rfl (by decide) (.slice (some ⟨wo.heap.size, 0, none⟩) 0 0) 0 [] rfl (by exact (OwnSl.new wo #[] 28 1 0 0 rfl (Nat.le_refl _) (Nat.zero_le _)).drew) _ i (natsU (out.take i)) rfl (by exact (T1.out.alloc _).drew) (natsU_one _) (by unfold maxLen; omega) (by omega) ?_; intro v1 w1 o1 g1 b1; have hb1 := own_chain (v1 := .slice (some ⟨wo.heap.size, 0, none⟩) 0 0) ⟨below_alloc wo (.cells #[] 28), fun g hg => by cases hg; exact Nat.le_refl _⟩ ((Below.refl _ _).drew) g1 b1 (sz1 wo _); have O1 := Lib.hid (And.intro o1 hb1); clear o1 g1 b1 hb1) | (refine step_append_sl (w := ((wo.alloc (.cells #[] 28)).alloc (.cells #[.int .u64 (l : Int)] 28)).drew) rfl (.tmp 42) (.tmp 45) 23 rfl 28 i0 _ 1 8 Tryz.underlying23 I.out.1 I.out.2.1 I.out.2.2.1 I.out.2.2.2 rfl (by decide) (.slice (some ⟨wo.heap.size, 0, none⟩) 0 0) 0 [] rfl (by exact ((OwnSl.new wo #[] 28 1 0 0 rfl (Nat.le_refl _) (Nat.zero_le _)).alloc _).drew) _ i (natsU (out.take i)) rfl (by exact ((T1.out.alloc _).alloc _).drew) (natsU_one _) (by unfold maxLen; omega) (by omega) ?_; intro v1 w1 o1 g1 b1; have hb1 := own_chain (v1 := .slice (some ⟨wo.heap.size, 0, none⟩) 0 0) ⟨below_twice wo (.cells #[] 28) (.cells #[.int .u64 (l : Int)] 28), fun g hg => by cases hg; exact Nat.le_refl _⟩ ((Below.refl _ _).drew) g1 b1 (sz2 wo _ _); have RB := Lib.hid (rd_newer (l := l) ((RdSl.newAt (wo.alloc (.cells #[] 28)) #[.int .u64 (l : Int)] 28 1 1 (wo.heap.size + 1) (by simp) rfl).drew) g1 (lt2 wo _ _) (ob_ne (by omega))); have O1 := Lib.hid (And.intro o1 hb1); clear o1 g1 b1 hb1) | (refine step_append_sl (w := ((wo.alloc (.cells #[.int .u64 (l : Int)] 28)).alloc (.cells #[] 28)).drew) rfl (.tmp 42) (.tmp 45) 23 rfl 28 i0 _ 1 8 Tryz.underlying23 I.out.1 I.out.2.1 I.out.2.2.1 I.out.2.2.2 rfl (by decide) (.slice (some ⟨wo.heap.size + 1, 0, none⟩) 0 0) 0 [] rfl (by exact (ownNewAt (wo.alloc (.cells #[.int .u64 (l : Int)] 28)) #[] 28 1 0 0 (wo.heap.size + 1) (by simp) rfl (Nat.le_refl _) (Nat.zero_le _)).drew) _ i (natsU (out.take i)) rfl (by exact ((T1.out.alloc _).alloc _).drew) (natsU_one _) (by unfold maxLen; omega) (by omega) ?_; intro v1 w1 o1 g1 b1; have hb1 := own_chain (v1 := .slice (some ⟨wo.heap.size + 1, 0, none⟩) 0 0) ⟨below_twice wo (.cells #[.int .u64 (l : Int)] 28) (.cells #[] 28), fun g hg => by cases hg; exact Nat.le_succ _⟩ ((Below.refl _ _).drew) g1 b1 (sz2 wo _ _); have RB := Lib.hid (rd_newer (l := l) (((RdSl.newAt wo #[.int .u64 (l : Int)] 28 1 1 wo.heap.size rfl rfl).alloc (.cells #[] 28)).drew) g1 (lt2' wo _ _) (ob_ne (by omega))); have O1 := Lib.hid (And.intro o1 hb1); clear o1 g1 b1 hb1) | (refine step_append_sl (w := w1.alloc (.cells #[.int .u64 (l : Int)] 28)) rfl (.tmp 46) (.tmp 48) 23 rfl 28 i0 _ 1 8 Tryz.underlying23 I.out.1 I.out.2.1 I.out.2.2.1 I.out.2.2.2 rfl (by decide) v1 (0 + i) ([] ++ natsU (out.take i)) rfl (by exact O1.out.1.alloc _) _ 1 (natsU [l]) rfl (by exact RdSl.newAt w1 #[.int .u64 (l : Int)] 28 1 1 _ rfl rfl) (natsU_one _) (by unfold maxLen; omega) (by omega) ?_; intro v2 w2 o2 g2 b2; have hb2 := own_chain O1.out.2 (below_alloc w1 _) g2 b2 (by have := O1.out.2.1.size; simp; try omega); have O2 := Lib.hid (And.intro o2 hb2); have R2 := Lib.hid (T2.out.below hb2.1); clear o2 g2 b2 hb2) | (refine step_append_sl (w := w1) rfl (.tmp 46) (.tmp 48) 23 rfl 28 i0 _ 1 8 Tryz.underlying23 I.out.1 I.out.2.1 I.out.2.2.1 I.out.2.2.2 rfl (by decide) v1 (0 + i) ([] ++ natsU (out.take i)) rfl (by exact O1.out.1) _ 1 (natsU [l]) rfl (by exact RB.out) (natsU_one _) (by unfold maxLen; omega) (by omega) ?_; intro v2 w2 o2 g2 b2; have hb2 := own_chain O1.out.2 (Below.refl _ _) g2 b2 (by have := O1.out.2.1.size; simp; try omega); have O2 := Lib.hid (And.intro o2 hb2); have R2 := Lib.hid (T2.out.below hb2.1); clear o2 g2 b2 hb2) | (refine step_append_sl (w := w2) rfl (.tmp 49) (.tmp 52) 23 rfl 28 i0 _ 1 8 Tryz.underlying23 I.out.1 I.out.2.1 I.out.2.2.1 I.out.2.2.2 rfl (by decide) v2 (0 + i + 1) ([] ++ natsU (out.take i) ++ natsU [l]) rfl (by exact O2.out.1) _ 0 (natsU (out.drop i)) rfl (by exact R2.out) (natsU_one _) (by unfold maxLen; omega) (by omega) ?_; intro v3 w3 o3 g3 b3; have hb3 := own_chain O2.out.2 (Below.refl _ _) g3 b3 (by have := O2.out.2.1.size; omega); have O3 := Lib.hid (And.intro o3 hb3); clear o3 g3 b3 hb3))
              all_goals go_wp2_with fail
              all_goals go_roundw
              all_goals first | (exact ⟨k + 1, by omega, by go_num, HST2.out _ _ (lines_end (by have := HM.out; omega) (by rw [HM.out, Nat.sub_self]; exact O3.out.1)) O3.out.2⟩) | (simp [intOf]; omega)
            · rw [if_neg hci] at t2
              have hci' : ¬ (oc : Int) = (i : Int) := by omega
              have T1 := Lib.hid t1; have T2 := Lib.hid t2; clear t1 t2
              go_wp2_with fail
              go_region_held3 (fun _ => True) (trivial) (first | (refine step_append_sl (w := (wo.alloc (.cells #[] 28)).drew) rfl (.tmp 42) (.tmp 45) 23 rfl 28 i0 _ 1 8 Tryz.underlying23 I.out.1 I.out.2.1 I.out.2.2.1 I.out.2.2.2 rfl (by decide) (.slice (some ⟨wo.heap.size, 0, none⟩) 0 0) 0 [] rfl (by exact (OwnSl.new wo #[] 28 1 0 0 rfl (Nat.le_refl _) (Nat.zero_le _)).drew) _ i (natsU (out.take i)) rfl (by exact (T1.out.alloc _).drew) (natsU_one _) (by unfold maxLen; omega) (by omega) ?_; intro v1 w1 o1 g1 b1; have hb1 := own_chain (v1 := .slice (some ⟨wo.heap.size, 0, none⟩) 0 0) ⟨below_alloc wo (.cells #[] 28), fun g hg => by cases hg; exact Nat.le_refl _⟩ ((Below.refl _ _).drew) g1 b1 (sz1 wo _); have O1 := Lib.hid (And.intro o1 hb1); clear o1 g1 b1 hb1) | (refine step_append_sl (w := ((wo.alloc (.cells #[] 28)).alloc (.cells #[.int .u64 (l : Int)] 28)).drew) rfl (.tmp 42) (.tmp 45) 23 rfl 28 i0 _ 1 8 Tryz.underlying23 I.out.1 I.out.2.1 I.out.2.2.1 I.out.2.2.2 rfl (by decide) (.slice (some ⟨wo.heap.size, 0, none⟩) 0 0) 0 [] rfl (by exact ((OwnSl.new wo #[] 28 1 0 0 rfl (Nat.le_refl _) (Nat.zero_le _)).alloc _).drew) _ i (natsU (out.take i)) rfl (by exact ((T1.out.alloc _).alloc _).drew) (natsU_one _) (by unfold maxLen; omega) (by omega) ?_; intro v1 w1 o1 g1 b1; have hb1 := own_chain (v1 := .slice (some ⟨wo.heap.size, 0, none⟩) 0 0) ⟨below_twice wo (.cells #[] 28) (.cells #[.int .u64 (l : Int)] 28), fun g hg => by cases hg; exact Nat.le_refl _⟩ ((Below.refl _ _).drew) g1 b1 (sz2 wo _ _); have RB := Lib.hid (rd_newer (l := l) ((RdSl.newAt (wo.alloc (.cells #[] 28)) #[.int .u64 (l : Int)] 28 1 1 (wo.heap.size + 1) (by simp) rfl).drew) g1 (lt2 wo _ _) (ob_ne (by omega))); have O1 := Lib.hid (And.intro o1 hb1); clear o1 g1 b1 hb1) | (refine step_append_sl (w := ((wo.alloc (.cells #[.int .u64 (l : Int)] 28)).alloc (.cells #[] 28)).drew) rfl (.tmp 42) (.tmp 45) 23 rfl 28 i0 _ 1 8 Tryz.underlying23 I.out.1 I.out.2.1 I.out.2.2.1 I.out.2.2.2 rfl (by decide) (.slice (some ⟨wo.heap.size + 1, 0, none⟩) 0 0) 0 [] rfl (by exact (ownNewAt (wo.alloc (.cells #[.int .u64 (l : Int)] 28)) #[] 28 1 0 0 (wo.heap.size + 1) (by simp) rfl (Nat.le_refl _) (Nat.zero_le _)).drew) _ i (natsU (out.take i)) rfl (by exact ((T1.out.alloc _).alloc _).drew) (natsU_one _) (by unfold maxLen; omega) (by omega) ?_; intro v1 w1 o1 g1 b1; have hb1 := own_chain (v1 := .slice (some ⟨wo.heap.size + 1, 0, none⟩) 0 0) ⟨below_twice wo (.cells #[.int .u64 (l : Int)] 28) (.cells #[] 28), fun g hg => by cases hg; exact Nat.le_succ _⟩ ((Below.refl _ _).drew) g1 b1 (sz2 wo _ _); have RB := Lib.hid (rd_newer (l := l) (((RdSl.newAt wo #[.int .u64 (l : Int)] 28 1 1 wo.heap.size rfl rfl).alloc (.cells #[] 28)).drew) g1 (lt2' wo _ _) (ob_ne (by omega))); have O1 := Lib.hid (And.intro o1 hb1); clear o1 g1 b1 hb1) | (refine step_append_sl (w := w1.alloc (.cells #[.int .u64 (l : Int)] 28)) rfl (.tmp 46) (.tmp 48) 23 rfl 28 i0 _ 1 8 Tryz.underlying23 I.out.1 I.out.2.1 I.out.2.2.1 I.out.2.2.2 rfl (by decide) v1 (0 + i) ([] ++ natsU (out.take i)) rfl (by exact O1.out.1.alloc _) _ 1 (natsU [l]) rfl (by exact RdSl.newAt w1 #[.int .u64 (l : Int)] 28 1 1 _ rfl rfl) (natsU_one _) (by unfold maxLen; omega) (by omega) ?_; intro v2 w2 o2 g2 b2; have hb2 := own_chain O1.out.2 (below_alloc w1 _) g2 b2 (by have := O1.out.2.1.size; simp; try omega); have O2 := Lib.hid (And.intro o2 hb2); have R2 := Lib.hid (T2.out.below hb2.1); clear o2 g2 b2 hb2) | (refine step_append_sl (w := w1) rfl (.tmp 46) (.tmp 48) 23 rfl 28 i0 _ 1 8 Tryz.underlying23 I.out.1 I.out.2.1 I.out.2.2.1 I.out.2.2.2 rfl (by decide) v1 (0 + i) ([] ++ natsU (out.take i)) rfl (by exact O1.out.1) _ 1 (natsU [l]) rfl (by exact RB.out) (natsU_one _) (by unfold maxLen; omega) (by omega) ?_; intro v2 w2 o2 g2 b2; have hb2 := own_chain O1.out.2 (Below.refl _ _) g2 b2 (by have := O1.out.2.1.size; simp; try omega); have O2 := Lib.hid (And.intro o2 hb2); have R2 := Lib.hid (T2.out.below hb2.1); clear o2 g2 b2 hb2) | (refine step_append_sl (w := w2) rfl (.tmp 49) (.tmp 52) 23 rfl 28 i0 _ 1 8 Tryz.underlying23 I.out.1 I.out.2.1 I.out.2.2.1 I.out.2.2.2 rfl (by decide) v2 (0 + i + 1) ([] ++ natsU (out.take i) ++ natsU [l]) rfl (by exact O2.out.1) _ 0 (natsU (out.drop i)) rfl (by exact R2.out) (natsU_one _) (by unfold maxLen; omega) (by omega) ?_; intro v3 w3 o3 g3 b3; have hb3 := own_chain O2.out.2 (Below.refl _ _) g3 b3 (by have := O2.out.2.1.size; omega); have O3 := Lib.hid (And.intro o3 hb3); clear o3 g3 b3 hb3))
              all_goals go_wp2_with fail
              all_goals go_roundw
              all_goals first | (exact ⟨k + 1, by omega, by go_num, HST2.out _ _ (lines_end (by have := HM.out; omega) (by rw [HM.out, Nat.sub_self]; exact O3.out.1)) O3.out.2⟩) | (simp [intOf]; omega)
    · obtain rfl : k = n := by omega
      have HF : Hid (offs.take k = offs) := List.take_of_length_le (by rw [HN.out]; omega)
      have A2 := Lib.hid (A.out.acc.congr (show (linesL (offs.take k)).length = (linesL offs).length by rw [HF.out]) (show natsU (linesL (offs.take k)) = natsU (linesL offs) by rw [HF.out]))
      clear A
      go_wp2_with fail
      go_ret
      exact ⟨_, rfl, A2.out⟩
end
end Go.Proofs.YtgdcjedcinapdaaGreat

/- The reference's Flushes and Stores. -/
namespace Go.Proofs.YtgdcjedcinapdaaGreat
open Go.RowKit

section
variable {w : World}
def flC (l : List Nat) : List (Nat × Nat × Int) := l.map fun x => (2, 64 * x, 0)
theorem flC_snoc (l : List Nat) (x : Nat) : flC (l ++ [x]) = flC l ++ [(2, 64 * x, 0)] := by simp [flC]
set_option maxRecDepth 100000 in
set_option maxHeartbeats 4000000 in
theorem r10Flushes_any (sv : Value) (offs : List Nat) (h : RdSl w 1 sv offs.length (natsU offs)) (hl : offs.length ≤ 100000) (hb : ∀ o ∈ offs, o < 18446744073709551616) :
    Calls Tryz.prog 107 #[sv] w fun r w' => ∃ ov, r = .returned ov ∧ Acc w w.heap.size w' 148 3 ov (flushL offs).length (instrC (flushL offs)) := by
  have HL := Lib.hid (r10Lines_any sv offs h hl hb)
  have hbd := linesL_bd offs 288230376151711744 (fun o ho => by have := hb o ho; omega)
  have hln := linesL_len offs
  obtain ⟨_, sa, sc, rfl, hsc, _⟩ := h
  clear hb
  obtain ⟨k0, hi0, hz0, hz1, hz2⟩ := info_parts infoRI
  have I2 := Lib.hid (And.intro hi0 (And.intro hz0 (And.intro hz1 hz2))); clear hi0 hz0 hz1 hz2
  have HFL : Hid (flushL offs = if linesL offs = [] then [] else flC (linesL offs) ++ [(3, 0, 0)]) := rfl
  generalize linesL offs = L at *
  have HBD := Lib.hid hbd; clear hbd
  generalize hn : L.length = n at *
  have HN := Lib.hid hn; clear hn
  go_enter Tryz.func107, Tryz.ntmps107
  go_wp2_with fail
  (with_reducible refine HL.out.mono ?_)
  rintro e w1 ⟨lv, rfl, a1⟩
  obtain ⟨la, lc, hlv⟩ := a1.slice
  subst hlv
  have B1 := Lib.hid a1.bel; have R1 := Lib.hid a1.rd; clear a1 HL
  go_wp2_with fail
  go_loopw [3, 9] (fun ov y wr => ∃ k : Nat, k ≤ n ∧ y = .int .i64 k ∧ Acc w1 w1.heap.size wr 148 3 ov k (instrC (flC (L.take k)))) (fun _ y _ => n - (intOf y).toNat)
  case atStart => exact ⟨0, by omega, rfl, Acc.nil w1 _ _ _ _ (Below.refl _ _) (Nat.le_refl _)⟩
  case round =>
    obtain ⟨k, hk, rfl, ha⟩ := hrel
    obtain ⟨oa, oc, hov⟩ := ha.slice
    subst hov
    have A := Lib.hid ha; clear ha
    by_cases hlt2 : k < n
    · have hk' : (k : Int) < n := by omega
      obtain ⟨x, hx⟩ : ∃ x, L[k]? = some x := ⟨_, List.getElem?_eq_getElem (by rw [HN.out]; exact hlt2)⟩
      have hxb := HBD.out x (List.mem_of_getElem? hx)
      obtain ⟨_, a', c', e', _, hE⟩ := R1.out.below A.out.bel
      cases e'
      obtain ⟨eb, eo, rfl, hE2⟩ := rd_at hE (natsU_get hx)
      have c1 := hE2 _ _ (natsU_get hx)
      have HT := Lib.hid (take_snoc_at L k x hx)
      have HC : Hid ((64 : Int) * (x : Int) = ((64 * x : Nat) : Int)) := by show (64 : Int) * (x : Int) = ((64 * x : Nat) : Int); omega
      clear hE hE2 hx
      go_wp2_with (at_builtin; refine wpList_append_sl _ rfl _ _ 68 rfl 148 k0 _ 3 24 Tryz.underlying68 I2.out.1 I2.out.2.1 I2.out.2.2.1 I2.out.2.2.2 rfl (by decide) _ k (instrC (flC (L.take k))) rfl (by exact A.out.own.alloc _) _ 1 [.int .u8 2, .int .u64 (64 * (x : Int)), .int .u64 0] rfl (by exact RdSl.newAt _ _ _ 3 1 _ (by simp) rfl) (by simp [Value.oneCell']) (by unfold maxLen; omega) (by omega) ?_)
      intro v1 w2 o1 g1 b1 n1
      have A1 := Lib.hid (A.out.next (below_alloc wr _) o1 g1 b1 (by omega)); clear o1 g1 b1 n1
      go_wp2_with fail
      go_roundw
      case rel => exact ⟨k + 1, by omega, by go_num, A1.out.congr rfl (by rw [HT.out, flC_snoc, instrC_append, HC.out]; rfl)⟩
      case measure => simp [intOf]; omega
    · obtain rfl : k = n := by omega
      have HF : Hid (L.take k = L) := List.take_of_length_le (by rw [HN.out]; omega)
      have A2 := Lib.hid A.out
      rw [HF.out] at A2
      clear A
      by_cases h0 : k = 0
      · have hL : L = [] := List.eq_nil_of_length_eq_zero (by rw [HN.out]; exact h0)
        have HL0 : Hid (flushL offs = []) := by show flushL offs = []; rw [HFL.out, if_pos hL]
        have hb0 : ((k : Int) == 0) = true := by simp; omega
        clear h0 hL
        go_wp2_with fail
        go_ret
        exact ⟨_, rfl, by rw [HL0.out]; exact Acc.nil w _ _ _ _ (B1.out.trans (A2.out.bel.mono B1.out.size)) (Nat.le_trans B1.out.size A2.out.lt)⟩
      · have HL0 : Hid (flushL offs = flC L ++ [(3, 0, 0)]) := by
          show flushL offs = flC L ++ [(3, 0, 0)]
          rw [HFL.out, if_neg (fun h => h0 (by rw [← HN.out, h]; rfl))]
        have hb0 : ((k : Int) == 0) = false := by simp; omega
        clear h0
        go_wp2_with (at_builtin; refine wpList_append_sl _ rfl _ _ 68 rfl 148 k0 _ 3 24 Tryz.underlying68 I2.out.1 I2.out.2.1 I2.out.2.2.1 I2.out.2.2.2 rfl (by decide) _ k (instrC (flC L)) rfl (by exact A2.out.own.alloc _) _ 1 (instrC [(3, 0, 0)]) rfl (by exact RdSl.newAt _ _ _ 3 1 _ (by simp) rfl) (instrC_one _) (by unfold maxLen; omega) (by omega) ?_)
        intro v1 w2 o1 g1 b1 n1
        have A1 := Lib.hid ((A2.out.next (below_alloc wr _) o1 g1 b1 (by omega)).deeper B1.out); clear o1 g1 b1 n1
        go_wp2_with fail
        go_ret
        exact ⟨_, rfl, by rw [HL0.out]; exact A1.out.congr (by simp [flC, HN.out]) (by rw [instrC_append])⟩
def stC (ws : List (Nat × Int)) : List (Nat × Nat × Int) := ws.map fun e => (1, e.1, e.2)
theorem stC_snoc (l : List (Nat × Int)) (e : Nat × Int) : stC (l ++ [e]) = stC l ++ [(1, e.1, e.2)] := by simp [stC]
theorem flushL_len (offs : List Nat) : (flushL offs).length ≤ offs.length + 1 := by
  have := linesL_len offs
  unfold flushL; split <;> simp; omega
theorem Acc.newer {w wr w1 : World} {B : Nat} {e : TypeId} {s n : Nat} {v : Value} {xs : List Value} (h : Acc w B wr e s v n xs) (hb : Below wr.heap.size wr w1) : Acc w B w1 e s v n xs := h.keep hb
set_option maxRecDepth 100000 in
set_option maxHeartbeats 4000000 in
theorem r10Stores_any (sv : Value) (ws : List (Nat × Int)) (h : RdSl w 2 sv ws.length (flat ws)) (hl : ws.length ≤ 100000) (hb : ∀ e ∈ ws, e.1 < 18446744073709551616) :
    Calls Tryz.prog 79 #[sv] w fun r w' => ∃ ov, r = .returned ov ∧ Acc w w.heap.size w' 148 3 ov (storesL ws).length (instrC (storesL ws)) := by
  have H := Lib.hid h
  have HB : Hid (∀ o ∈ ws.map (·.1), o < 18446744073709551616) := fun o ho => by
    obtain ⟨e, he, rfl⟩ := List.mem_map.1 ho; exact hb e he
  clear hb
  obtain ⟨_, sa, sc, rfl, hsc, _⟩ := h
  obtain ⟨k0, hi0, hz0, hz1, hz2⟩ := info_parts infoRI
  have I2 := Lib.hid (And.intro hi0 (And.intro hz0 (And.intro hz1 hz2))); clear hi0 hz0 hz1 hz2
  obtain ⟨i0, hi0, hz0, hz1, hz2⟩ := info_parts infoU64
  have I := Lib.hid (And.intro hi0 (And.intro hz0 (And.intro hz1 hz2))); clear hi0 hz0 hz1 hz2
  generalize hn : ws.length = n at *
  have HN := Lib.hid hn; clear hn
  go_enter Tryz.func79, Tryz.ntmps79
  go_wp2_with fail
  go_loopw [3, 4, 9] (fun ov fv y wr => ∃ k : Nat, k ≤ n ∧ y = .int .i64 k ∧ Pair w w.heap.size wr 148 3 ov k (instrC (stC (ws.take k))) 28 1 fv k (natsU ((ws.take k).map (·.1)))) (fun _ _ y _ => n - (intOf y).toNat)
  case atStart => exact ⟨0, by omega, rfl, ⟨Acc.nil w _ _ _ _ (Below.refl _ _) (Nat.le_refl _), Acc.nil w _ _ _ _ (Below.refl _ _) (Nat.le_refl _), fun g hg => by simp [Value.ownBlock] at hg⟩⟩
  case round =>
    obtain ⟨k, hk, rfl, ha⟩ := hrel
    obtain ⟨oa, oc, hov⟩ := ha.a.slice
    subst hov
    obtain ⟨fa, fc, hfv⟩ := ha.b.slice
    subst hfv
    have A := Lib.hid ha; clear ha
    by_cases hlt2 : k < n
    · have hk' : (k : Int) < n := by omega
      obtain ⟨e, he⟩ : ∃ e, ws[k]? = some e := ⟨_, List.getElem?_eq_getElem (by rw [HN.out]; exact hlt2)⟩
      obtain ⟨_, a', c', e', _, hE⟩ := H.out.below A.out.a.bel
      cases e'
      have hg := flat_get' ws k e he
      obtain ⟨eb, eo, rfl, hE2⟩ := rd_at hE hg.1
      have c1 := hE2 _ _ hg.1; have c2 := hE2 _ _ hg.2
      rw [← Nat.add_assoc] at c2
      have HT := Lib.hid (take_snoc_get ws k e he)
      clear hE hE2 he hg
      obtain ⟨e1, e2⟩ := e
      simp only at c1 c2
      have hne : (Value.slice oa k oc).ownBlock ≠ some wr.heap.size := fun hh => by have := A.out.a.own.lt _ hh; omega
      have HNE := Lib.hid hne; clear hne
      go_wp2_with (at_builtin; refine wpList_append_sl _ rfl _ _ 68 rfl 148 k0 _ 3 24 Tryz.underlying68 I2.out.1 I2.out.2.1 I2.out.2.2.1 I2.out.2.2.2 rfl (by decide) _ k (instrC (stC (ws.take k))) rfl (by exact (A.out.a.own.alloc _).alloc _) _ 1 (instrC [(1, e1, e2)]) rfl (by exact RdSl.newAt _ _ _ 3 1 _ (by simp) rfl) (instrC_one _) (by unfold maxLen; omega) (by omega) ?_)
      intro v1 w1 o1 g1 b1 n1
      have d1 : w1.cell? ⟨wr.heap.size, 0, none⟩ = some (.int .u64 (e1 : Int)) := (kept_cell (below_alloc _ _) g1 (by simp) HNE.out 0).trans ((Blk.new wr _ _).cell rfl)
      have P1 := Lib.hid (A.out.left (below_twice wr _ _) o1 g1 b1 (by omega)); clear o1 g1 b1 n1
      obtain ⟨va, vc, hv1⟩ := P1.out.a.slice
      subst hv1
      go_wp2_with (at_builtin; refine wpList_append_sl _ rfl _ _ 23 rfl 28 i0 _ 1 8 Tryz.underlying23 I.out.1 I.out.2.1 I.out.2.2.1 I.out.2.2.2 rfl (by decide) _ k (natsU ((ws.take k).map (·.1))) rfl (by exact P1.out.b.own.alloc _) _ 1 (natsU [e1]) rfl (by exact RdSl.newAt _ _ _ 1 1 _ (by simp) rfl) (natsU_one _) (by unfold maxLen; omega) (by omega) ?_)
      intro v2 w2 o2 g2 b2 n2
      have o2' : OwnSl w2 28 1 v2 (k + 1) (natsU ((ws.take k).map (·.1)) ++ natsU [e1]) := by rw [List.map_take]; exact o2
      have P2 := Lib.hid ((P1.out.swap.left (below_alloc w1 _) o2' g2 b2 (by omega)).swap); clear o2 o2' g2 b2 n2
      go_wp2_with fail
      go_roundw
      case rel => exact ⟨k + 1, by omega, by go_num, by rw [HT.out, stC_snoc, instrC_append, List.map_append, show natsU ((ws.take k).map (·.1) ++ [(e1, e2)].map (·.1)) = natsU ((ws.take k).map (·.1)) ++ natsU [e1] by simp [natsU]]; exact P2.out⟩
      case measure => simp [intOf]; omega
    · obtain rfl : k = n := by omega
      have hF : ws.take k = ws := List.take_of_length_le (by rw [HN.out]; omega)
      rw [hF] at A
      clear hF
      have hml : (ws.map (·.1)).length = k := by rw [List.length_map, HN.out]
      have HFL := Lib.hid (r10Flushes_any (w := wr) (.slice fa k fc) (ws.map (·.1)) (by rw [hml]; exact A.out.b.rd) (by omega) HB.out)
      have hfl := flushL_len (ws.map (·.1))
      rw [hml] at hfl
      have HST : Hid (storesL ws = stC ws ++ flushL (ws.map (·.1))) := rfl
      generalize flushL (ws.map (·.1)) = F at *
      clear hml
      go_wp2_with fail
      (with_reducible refine HFL.out.mono ?_)
      rintro e w5 ⟨rv, rfl, a5⟩
      have A5 := Lib.hid a5
      obtain ⟨ra, rc, hrv⟩ := a5.slice
      subst hrv
      have O5 := Lib.hid (A.out.a.keep a5.bel)
      clear a5 HFL
      go_wp2_with (at_builtin; refine wpList_append_sl _ rfl _ _ 68 rfl 148 k0 _ 3 24 Tryz.underlying68 I2.out.1 I2.out.2.1 I2.out.2.2.1 I2.out.2.2.2 rfl (by decide) _ k (instrC (stC ws)) rfl (by exact O5.out.own) _ F.length (instrC F) rfl (by exact A5.out.rd) (instrC_one _) (by unfold maxLen; omega) (by omega) ?_)
      intro v6 w6 o6 g6 b6 n6
      have A6 := Lib.hid (O5.out.next (Below.refl _ _) o6 g6 b6 (by omega)); clear o6 g6 b6 n6
      go_wp2_with fail
      go_ret
      exact ⟨_, rfl, by rw [HST.out]; exact A6.out.congr (by simp [stC, HN.out]) (by rw [instrC_append])⟩
end
end Go.Proofs.YtgdcjedcinapdaaGreat

/- slices.Compact of words that a slice owns. -/
namespace Go.Proofs.YtgdcjedcinapdaaGreat
open Go.RowKit
attribute [local go_sem ↓] Go.wp_at_zero Go.wp_at_succ

theorem cmpL_none (xs : List Int) : ∀ k, k < xs.length → (∀ j, j < k → ¬ xs[j + 1]! = xs[j]!) → cmpL (xs.take (k + 1)) = xs.take (k + 1) := by
  intro k
  induction k with
  | zero => intro h _; exact cmpL_one xs h
  | succ k ih =>
    intro h hn
    have e1 : xs.take (k + 1 + 1) = xs.take (k + 1) ++ [xs[k + 1]!] := by
      rw [List.take_add_one (i := k + 1), List.getElem?_eq_getElem h, getElem!_pos xs (k + 1) h]; rfl
    rw [cmpL_take xs k h, if_neg (hn k (by omega)), ih (by omega) (fun j hj => hn j (by omega)), e1]
theorem CmpMid.start {xs : List Int} {k : Nat} (hk : k + 1 < xs.length) (hn : ∀ j, j < k → ¬ xs[j + 1]! = xs[j]!) (he : xs[k + 1]! = xs[k]!) : CmpMid xs xs (k + 1 + 1) (k + 1) :=
  ⟨rfl, by rw [cmpL_take xs k hk, if_pos he, cmpL_none xs k (by omega) hn], fun _ _ => rfl, by omega, by omega⟩
theorem at0_get (l : List Int) (i : Nat) (h : i < l.length) : at0 l i = l[i]! := by simp [at0, List.getD, h]
theorem zeroU (w : World) : (zeroValue 28).run Tryz.prog w = .ok (.int .u64 0) w := by kernel_rfl

section
variable {w : World}
theorem run_clearU (ty : TypeId) {g o c i m : Nat} {ys : List Int} (h : WrU w g o c ys) (hi : i + m = ys.length) (h0 : 0 < m) :
    ∃ w', (Builtin.clear_ #[23] ty #[.slice (some ⟨g, o + i, none⟩) m (c - i)]).run Tryz.prog w = .ok (.tuple #[]) w' ∧ OwnSl w' 28 1 (.slice (some ⟨g, o, none⟩) i c) i (intsU (ys.take i)) ∧ Upd (fun k => k = g) w w' := by
  rcases h.2 with ⟨e, _⟩ | ⟨g', o', cap, cur, e, hb, h1, h2, h3, h4⟩
  · cases e
  · cases e
    have hzl : (Builtin.zeroCells (Value.cells (.int .u64 0)) m).toList.length = m := by simp [Builtin.zeroCells, Value.cells]
    have hz1 : ∀ u ∈ (Builtin.zeroCells (Value.cells (.int .u64 0)) m).toList, u.oneCell' = true := by
      intro u hu
      simp [Builtin.zeroCells, Value.cells, Nat.mod_one] at hu
      rw [← hu.2]; rfl
    have hst := run_storeCells_at Tryz.prog g (o + i) 28 (Builtin.zeroCells (Value.cells (.int .u64 0)) m).toList 0 cur w hb (by rw [hzl]; omega) hz1
    obtain ⟨m', rfl⟩ : ∃ m', m = m' + 1 := ⟨m - 1, by omega⟩
    refine ⟨w.setRow g (cur.toList.take (o + i + 0) ++ (Builtin.zeroCells (Value.cells (.int .u64 0)) (m' + 1)).toList ++ cur.toList.drop (o + i + 0 + (Builtin.zeroCells (Value.cells (.int .u64 0)) (m' + 1)).toList.length)).toArray, ?_, ?_, ?_⟩
    · simp [Builtin.clear_, run_underlying Tryz.underlying23, hst, Result.andThen]
    · refine ⟨by simp [intsU]; omega, .inr ⟨g, o, c, _, rfl, setRow_heap w g cur _ 28 (0, 0) hb, by omega, h2, ?_, ?_⟩⟩
      · simp only [List.size_toArray, List.length_append, List.length_take, List.length_drop, Array.length_toList, hzl]
        omega
      · simp only [Nat.add_zero, Nat.mul_one]
        have lo : (cur.toList.take (o + i)).length = o + i := by rw [List.length_take, Array.length_toList]; omega
        rw [List.append_assoc, List.drop_append_of_le_length (by omega), List.take_append_of_le_length (by rw [List.length_drop]; omega)]
        rw [List.drop_take, List.take_take, show min i (o + i - o) = i by omega]
        have h5 := congrArg (List.take i) h4
        rw [List.take_take, show min i (ys.length * 1) = i by omega] at h5
        rw [h5, intsU, intsU, List.map_take]
    · exact ⟨rfl, rfl, rfl, by simp [World.setRow], fun k _ hk => setRow_other w g k _ hk⟩
theorem Upd.drewN {S : Nat → Prop} {a b : World} (h : Upd S a b) (n : Nat) : Upd S a (b.drewN n) := ⟨h.os, h.tape, h.output, h.size, h.block⟩
theorem WrU.rd2 {g o c : Nat} {xs : List Int} (h : WrU w g o c xs) (j : Nat) (hj : j < xs.length) : w.cell? ⟨g, o + j, none⟩ = some (.int .u64 xs[j]!) := by
  rw [← at0_get xs j hj]; exact h.cell j hj
/-- What Compact leaves. -/
def CmpPost (w : World) (g o c : Nat) (xs : List Int) (r : Ending) (w' : World) : Prop :=
  r = .returned (.slice (some ⟨g, o, none⟩) (cmpL xs).length c) ∧ OwnSl w' 28 1 (.slice (some ⟨g, o, none⟩) (cmpL xs).length c) (cmpL xs).length (intsU (cmpL xs)) ∧ Upd (fun k => k = g) w w'
/-- In the inner loop. -/
structure CmpSt (w : World) (g o c : Nat) (xs : List Int) (q i : Nat) (wr : World) : Prop where
  st : ∃ ys, CmpMid xs ys q i ∧ WrU wr g o c ys ∧ Upd (fun k => k = g) w wr
theorem CmpMid.fin {xs ys : List Int} {i : Nat} (h : CmpMid xs ys xs.length i) : i = (cmpL xs).length ∧ ys.take i = cmpL xs := by
  have h1 := h.pre
  rw [List.take_length] at h1
  have h2 := congrArg List.length h1
  rw [List.length_take, h.len] at h2
  have := h.lt
  exact ⟨by omega, h1⟩
theorem CmpMid.keep' {xs ys : List Int} {q i : Nat} (h : CmpMid xs ys q i) (hq0 : 0 < q) (hq : q < xs.length) (e : ¬ xs[q]! = xs[q - 1]!) : CmpMid xs (ys.set i xs[q]!) (q + 1) (i + 1) := by
  obtain ⟨p, rfl⟩ : ∃ p, q = p + 1 := ⟨q - 1, by omega⟩
  exact h.keep hq e
theorem CmpMid.skip' {xs ys : List Int} {q i : Nat} (h : CmpMid xs ys q i) (hq0 : 0 < q) (hq : q < xs.length) (e : xs[q]! = xs[q - 1]!) : CmpMid xs ys (q + 1) i := by
  obtain ⟨p, rfl⟩ : ∃ p, q = p + 1 := ⟨q - 1, by omega⟩
  exact h.skip hq e
theorem CmpMid.at {xs ys : List Int} {q i j : Nat} (h : CmpMid xs ys q i) (hj : q ≤ j + 1) (hx : j < xs.length) : ys[j]! = xs[j]! := by
  have h1 := h.rest j hj
  have h2 := h.len
  rw [List.getElem?_eq_getElem hx, List.getElem?_eq_getElem (by omega)] at h1
  rw [getElem!_pos ys j (by omega), getElem!_pos xs j hx]
  exact Option.some.inj h1
set_option maxRecDepth 100000 in
set_option maxHeartbeats 4000000 in
theorem compact_wr {g o c : Nat} {xs : List Int} (h : WrU w g o c xs) (hs : xs.length ≤ 100000) :
    Calls Tryz.prog 90 #[.slice (some ⟨g, o, none⟩) xs.length c] w (CmpPost w g o c xs) := by
  have hc := h.le.1
  have hc2 : c ≤ maxLen := by
    rcases h.2 with ⟨e, _⟩ | ⟨g', o', cap, cur, e, hb, h1, h2, _⟩
    · cases e
    · cases e; exact h2
  unfold maxLen at hc2
  have hg := h.lt
  have H := Lib.hid h; clear h
  generalize hn : xs.length = n at *
  have HN := Lib.hid hn; clear hn
  by_cases h2 : n < 2
  · have h2' : (n : Int) < 2 := by omega
    have hcm : Hid (cmpL xs = xs) := by
      show cmpL xs = xs
      match xs, HN.out with
      | [], _ => rfl
      | [x], _ => rfl
      | x :: y :: l, e => simp at e; omega
    go_enter Tryz.func90, Tryz.ntmps90
    go_wp2_with fail
    go_ret
    refine ⟨?_, ?_, Upd.refl _ _⟩
    · rw [hcm.out, HN.out]; rfl
    · rw [hcm.out, HN.out]; have := H.out; unfold WrU at this; rw [HN.out] at this; exact this
  · have h2' : ¬ (n : Int) < 2 := by omega
    go_enter Tryz.func90, Tryz.ntmps90
    go_wp2_with fail
    go_loopw [3] (fun y wr => ∃ k : Nat, 0 < k ∧ k ≤ n ∧ y = .int .i64 k ∧ (∀ j, j + 1 < k → ¬ xs[j + 1]! = xs[j]!) ∧ Qt w wr) (fun y _ => n - (intOf y).toNat)
    case atStart => exact ⟨1, by omega, by omega, rfl, fun j hj => by omega, Qt.refl w⟩
    case round =>
      obtain ⟨k, hk0, hk, rfl, hne, q⟩ := hrel
      obtain ⟨na, rfl⟩ := q
      have HNE := Lib.hid hne; clear hne
      by_cases hlt : k < n
      · have hk' : (k : Int) < n := by omega
        have d1 := H.out.rd2 k (by rw [HN.out]; exact hlt); have d2 := H.out.rd2 (k - 1) (by rw [HN.out]; omega)
        have hi2 : ((k : Int) - 1).toNat = k - 1 := by omega
        have hi3 : (0 : Int) ≤ (k : Int) - 1 := by omega
        have hi4 : (1 : Int) ≤ (k : Int) := by omega
        have hi6 : (k : Int) - 1 < n := by omega
        by_cases he : xs[k]! = xs[k - 1]!
        · have hb : (xs[k]! == xs[k - 1]!) = true := by simpa using he
          have M0 : Hid (CmpMid xs xs (k + 1) k) := by
            obtain ⟨p, rfl⟩ : ∃ p, k = p + 1 := ⟨k - 1, by omega⟩
            exact CmpMid.start (by rw [HN.out]; exact hlt) (fun j hj => HNE.out j (by omega)) he
          generalize xs[k]! = xk at *
          generalize xs[k - 1]! = xk1 at *
          clear he
          have hck : ¬ c = k := by omega
          have hck' : ¬ (c : Int) = (k : Int) := by omega
          have hkc : (k : Int) ≤ c := by omega
          have hkn : (k : Int) ≤ n := by omega
          go_wp2_with fail
          go_quiet (fail)
          go_wp2_with fail
          obtain ⟨wq, hwq⟩ : ∃ wq, wq = w.drewN (na + nq) := ⟨_, rfl⟩
          rw [← hwq]
          have S0 : Hid (CmpSt w g o c xs (k + 1) k wq) := by
            refine ⟨⟨xs, M0.out, ?_, ?_⟩⟩
            · rw [hwq]; exact H.out.drewN _
            · rw [hwq]; exact (Upd.refl _ w).drewN _
          clear hwq d1 d2 hi2 hi3 hi4 hi6 hb M0
          go_loopw [3, 5] (fun y z wr => ∃ i k2 : Nat, y = .int .i64 i ∧ z = .int .i64 k2 ∧ 0 < k2 ∧ k + k2 ≤ n ∧ CmpSt w g o c xs (k + k2) i wr) (fun _ z _ => n - (intOf z).toNat)
          case atStart => exact ⟨k, 1, rfl, rfl, by omega, by omega, S0.out⟩
          case round =>
            obtain ⟨i, k2, rfl, rfl, hk2, hkk, hst⟩ := hrel
            obtain ⟨ys, m1, w1, u1⟩ := hst.st
            have M := Lib.hid m1; have W := Lib.hid w1; have U := Lib.hid u1; clear m1 w1 u1 hst S0
            have hsub : ((n - k : Nat) : Int) = (n : Int) - k := by omega
            have hwb := W.out.lt
            have hwf := W.out.frozen
            by_cases hlt2 : k2 < n - k
            · have hlt2' : (k2 : Int) < ((n - k : Nat) : Int) := by omega
              have e1 := W.out.rd2 (k + k2) (by rw [M.out.len, HN.out]; omega); have e2 := W.out.rd2 (k + k2 - 1) (by rw [M.out.len, HN.out]; omega)
              rw [M.out.at (by omega) (by rw [HN.out]; omega)] at e1 e2
              rw [show o + (k + k2) = o + k + k2 by omega] at e1
              rw [show o + (k + k2 - 1) = o + k + (k2 - 1) by omega] at e2
              have hj2 : ((k2 : Int) - 1).toNat = k2 - 1 := by omega
              have hj3 : (0 : Int) ≤ (k2 : Int) - 1 := by omega
              have hj4 : (1 : Int) ≤ (k2 : Int) := by omega
              have hj6 : (k2 : Int) - 1 < ((n - k : Nat) : Int) := by omega
              have hin : (i : Int) < n := by have := M.out.lt; omega
              have hf1 := hwf (o + i)
              by_cases hx : xs[k + k2]! = xs[k + k2 - 1]!
              · have hbx : (xs[k + k2]! != xs[k + k2 - 1]!) = false := by simpa using hx
                have M2 := Lib.hid (M.out.skip' (by omega) (by rw [HN.out]; omega) hx)
                generalize xs[k + k2]! = xa at *
                generalize xs[k + k2 - 1]! = xb at *
                clear hx
                go_wp2_with fail
                go_quiet (fail)
                go_wp2_with fail
                go_roundw
                case rel => exact ⟨i, k2 + 1, rfl, by go_num, by omega, by omega, ⟨ys, by rw [← Nat.add_assoc]; exact M2.out, W.out.drewN _, U.out.drewN _⟩⟩
                case measure => simp [intOf]; omega
              · have hbx : (xs[k + k2]! != xs[k + k2 - 1]!) = true := by simpa using hx
                have M2 := Lib.hid (M.out.keep' (by omega) (by rw [HN.out]; omega) hx)
                have W2 := Lib.hid (fun m => (W.out.drewN m).set i (by rw [M.out.len, HN.out]; omega) xs[k + k2]!)
                generalize xs[k + k2]! = xa at *
                generalize xs[k + k2 - 1]! = xb at *
                clear hx
                have hgi := W.out.cell i (by rw [M.out.len, HN.out]; omega)
                go_wp2_with fail
                go_quiet (fail)
                go_wp2_with fail
                go_roundw
                case rel => exact ⟨i + 1, k2 + 1, by go_num, by go_num, by omega, by omega, ⟨_, by rw [← Nat.add_assoc]; exact M2.out, W2.out _, (U.out.drewN _).setCell (fun _ => rfl) _⟩⟩
                case measure => simp [intOf]; omega
            · obtain rfl : k2 = n - k := by omega
              have hsum : k + (n - k) = xs.length := by rw [HN.out]; omega
              rw [hsum] at M
              have F := Lib.hid M.out.fin
              have hil : i < n := by have := M.out.lt; rw [HN.out] at this; exact this
              have hyl : Hid (i + (n - i) = ys.length) := by show i + (n - i) = ys.length; rw [M.out.len, HN.out]; omega
              have hci : ¬ c = i := by omega
              have hci' : ¬ (c : Int) = (i : Int) := by omega
              have hic : (i : Int) ≤ c := by omega
              have hin : (i : Int) ≤ n := by omega
              clear hsum
              obtain ⟨w5, hr5, o5, u5⟩ := run_clearU 0 W.out hyl.out (by omega)
              have O5 := Lib.hid o5; have U5 := Lib.hid u5; clear o5 u5
              go_wp2_with fail
              go_ret
              refine ⟨?_, ?_, U.out.trans U5.out (fun _ _ h => h)⟩
              · rw [← F.out.1]; rfl
              · rw [← F.out.1, ← F.out.2]; exact O5.out
        · have hb : (xs[k]! == xs[k - 1]!) = false := by simpa using he
          have HNX : Hid (∀ j, j + 1 < k + 1 → ¬ xs[j + 1]! = xs[j]!) := fun j hj => by
            by_cases e : j + 1 = k
            · subst e; exact he
            · exact HNE.out j (by omega)
          clear he
          generalize xs[k]! = xk at *
          generalize xs[k - 1]! = xk1 at *
          go_wp2_with fail
          go_quiet (fail)
          go_wp2_with fail
          go_roundw
          case rel => exact ⟨k + 1, by omega, by omega, by go_num, HNX.out, ⟨_, rfl⟩⟩
          case measure => simp [intOf]; omega
      · obtain rfl : k = n := by omega
        have hcm : Hid (cmpL xs = xs) := by
          show cmpL xs = xs
          have := cmpL_none xs (k - 1) (by rw [HN.out]; omega) (fun j hj => HNE.out j (by omega))
          rw [show k - 1 + 1 = k by omega, List.take_of_length_le (by rw [HN.out]; omega)] at this
          exact this
        go_wp2_with fail
        go_ret
        refine ⟨?_, ?_, (Upd.of_below (Qt.drewN w na).below)⟩
        · rw [hcm.out, HN.out]; rfl
        · rw [hcm.out, HN.out]; have := H.out; unfold WrU at this; rw [HN.out] at this; exact this.kept (fun _ _ => rfl)
end
end Go.Proofs.YtgdcjedcinapdaaGreat

/- mem.Stores: the stores in order, a flush of each line, ascending, and a fence. -/
namespace Go.Proofs.YtgdcjedcinapdaaGreat
open Go.RowKit

section
variable {w : World}
theorem Acc.side {w wr w1 : World} {B : Nat} {e : TypeId} {s n : Nat} {v lv : Value} {xs : List Value} (h : Acc w B wr e s v n xs) (hu : Upd (fun k => lv.ownBlock = some k) wr w1) (hn : ∀ g, lv.ownBlock = some g → B ≤ g) (hne : ∀ g, v.ownBlock = some g → lv.ownBlock ≠ some g) : Acc w B w1 e s v n xs :=
  ⟨h.own.upd hu hne, h.new, ⟨hu.os.trans h.bel.os, hu.tape.trans h.bel.tape, hu.output.trans h.bel.output, Nat.le_trans h.bel.size hu.size, fun k hk => by
    rw [hu.block k (Nat.lt_of_lt_of_le hk h.lt) (fun e => by have := hn k e; omega)]; exact h.bel.block k hk⟩, Nat.le_trans h.lt hu.size⟩
theorem compactU_own (sv : Value) (xs : List Int) (h : OwnSl w 28 1 sv xs.length (intsU xs)) (h0 : 0 < xs.length) (hs : xs.length ≤ 100000) :
    Calls Tryz.prog 90 #[sv] w fun r w' => ∃ a c, r = .returned (.slice a (cmpL xs).length c) ∧ OwnSl w' 28 1 (.slice a (cmpL xs).length c) (cmpL xs).length (intsU (cmpL xs)) ∧ (∀ k, (Value.slice a (cmpL xs).length c).ownBlock = some k → sv.ownBlock = some k) ∧ Upd (fun k => sv.ownBlock = some k) w w' := by
  rcases h.2 with ⟨rfl, hn⟩ | ⟨g, o, cap, cur, rfl, _⟩
  · omega
  · exact (compact_wr (g := g) (o := o) (c := cap) (xs := xs) h hs).mono fun r w' ⟨h1, h2, h3⟩ => ⟨_, _, h1, h2, fun k hk => hk, h3.mono (fun i _ hi => by rw [hi]; rfl)⟩
theorem mstart_any (o : Nat) (ho : o < 18446744073709551616) : Calls Tryz.prog 88 #[.int .u64 o] w fun r w' => r = .returned (.int .u64 ((o - o % 64 : Nat) : Int)) ∧ w = w' := by
  have e : (o : Int) - (o : Int) % 64 = ((o - o % 64 : Nat) : Int) := by omega
  have E := Lib.hid e; clear e
  go_enter Tryz.func88, Tryz.ntmps88
  go_wp2
  go_ret
  exact ⟨ret_int (by first | exact E.out | (rw [← E.out])), rfl⟩
def startsI (offs : List Nat) : List Int := offs.map fun o => ((o - o % 64 : Nat) : Int)
theorem startsI_snoc (l : List Nat) (o : Nat) : startsI (l ++ [o]) = startsI l ++ [((o - o % 64 : Nat) : Int)] := by simp [startsI]
theorem intsU_one (l : List Int) : ∀ u ∈ intsU l, u.oneCell' = true := by intro u hu; simp [intsU] at hu; obtain ⟨s, _, rfl⟩ := hu; rfl
theorem intsU_append (a b : List Int) : intsU (a ++ b) = intsU a ++ intsU b := by simp [intsU]
theorem mkLines (wx : World) (n : Nat) (hn : n ≤ 1000000) : (Instr.makeSlice 23 (.int .i64 0) (.int .i64 n)).run Tryz.prog wx = .ok (.slice (some ⟨wx.heap.size, 0, none⟩) 0 n) (wx.alloc (.cells (madeCells #[.int .u64 0] n) 28)) := by
  obtain ⟨i0, hi, hz0, hz1, hz2⟩ := info_parts infoU64
  have := run_make (P := Tryz.prog) wx 23 28 i0 _ Tryz.underlying23 hi hz0 .i64 .i64 0 n (by omega) (by omega) (by rw [hz2]; omega) (by omega)
  rw [hz1] at this
  simpa [Value.cells] using this
theorem compact_lines {n : Nat} (sv : Value) (offs : List Nat) (ys : List Int) (h : OwnSl w 28 1 sv n (intsU ys)) (hn : ys.length = n) (hp : ys.Perm (startsI offs)) (ha : ascOn ys 0 n) (h0 : 0 < n) (hs : n ≤ 100000) :
    Calls Tryz.prog 90 #[sv] w fun r w' => ∃ a c, r = .returned (.slice a (linesL offs).length c) ∧ OwnSl w' 28 1 (.slice a (linesL offs).length c) (linesL offs).length (natsU ((linesL offs).map (64 * ·))) ∧
      (∀ k, (Value.slice a (linesL offs).length c).ownBlock = some k → sv.ownBlock = some k) ∧ Upd (fun k => sv.ownBlock = some k) w w' := by
  subst hn
  have hc := lines_compact offs ys hp ha
  have hlen : (cmpL ys).length = (linesL offs).length := by rw [hc, List.length_map]
  have hcell : intsU (cmpL ys) = natsU ((linesL offs).map (64 * ·)) := by rw [hc]; simp [intsU, natsU]
  have := compactU_own sv ys h h0 hs
  rw [hlen, hcell] at this
  exact this
theorem flC_pos (offs : List Nat) (h : 0 < offs.length) : linesL offs ≠ [] := fun e => by
  obtain ⟨o, ho⟩ : ∃ o, o ∈ offs := by
    match offs, h with
    | o :: l, _ => exact ⟨o, by simp⟩
  have := (linesL_mem offs (o / 64)).2 ⟨o, ho, rfl⟩
  rw [e] at this; simp at this
set_option maxRecDepth 100000 in
set_option maxHeartbeats 8000000 in
theorem stores_any (sv : Value) (ws : List (Nat × Int)) (h : RdSl w 2 sv ws.length (flat ws)) (hl : ws.length ≤ 10000) (hb : ∀ e ∈ ws, e.1 < 18446744073709551616) :
    Calls Tryz.prog 48 #[sv] w fun r w' => ∃ ov, r = .returned ov ∧ Acc w w.heap.size w' 110 3 ov (storesL ws).length (instrC (storesL ws)) := by
  have H := Lib.hid h
  have HB := Lib.hid hb
  clear hb
  obtain ⟨_, sa, sc, rfl, hsc, _⟩ := h
  obtain ⟨k0, hi0, hz0, hz1, hz2⟩ := info_parts infoInstr
  have I2 := Lib.hid (And.intro hi0 (And.intro hz0 (And.intro hz1 hz2))); clear hi0 hz0 hz1 hz2
  obtain ⟨i0, hi0, hz0, hz1, hz2⟩ := info_parts infoU64
  have I := Lib.hid (And.intro hi0 (And.intro hz0 (And.intro hz1 hz2))); clear hi0 hz0 hz1 hz2
  generalize hn : ws.length = n at *
  have HN := Lib.hid hn; clear hn
  by_cases h0 : n = 0
  · have hw : ws = [] := List.eq_nil_of_length_eq_zero (by rw [HN.out]; exact h0)
    have hb0 : ((n : Int) == 0) = true := by simp; omega
    have HW := Lib.hid hw; clear hw h0
    go_enter Tryz.func48, Tryz.ntmps48
    go_wp2_with fail
    go_ret
    exact ⟨_, rfl, by rw [HW.out]; exact Acc.nil w _ _ _ _ (Below.refl _ _) (Nat.le_refl _)⟩
  · have hb0 : ((n : Int) == 0) = false := by simp; omega
    have hpos : 0 < n := by omega
    clear h0
    have hmk := fun wx => mkLines wx n (by omega)
    go_enter Tryz.func48, Tryz.ntmps48
    go_wp2_with fail
    have P0 : Hid (Pair w w.heap.size (w.alloc (.cells (madeCells #[.int .u64 0] n) 28)) 110 3 (.slice none 0 0) 0 (instrC []) 28 1 (.slice (some ⟨w.heap.size, 0, none⟩) 0 n) 0 (intsU [])) := by
      refine ⟨Acc.nil w _ _ _ _ (below_alloc _ _) (by simp), ⟨?_, fun g hg => by simp [Value.ownBlock] at hg; omega, below_alloc _ _, by simp⟩, fun g hg => by simp [Value.ownBlock] at hg⟩
      have := OwnSl.new w (madeCells #[.int .u64 0] n) 28 1 0 n (by simp [madeCells]) (Nat.zero_le _) (by unfold maxLen; omega)
      simpa [intsU] using this
    go_loopw [3, 4, 17] (fun ov fv y wr => ∃ k : Nat, k ≤ n ∧ y = .int .i64 k ∧ Pair w w.heap.size wr 110 3 ov k (instrC (stC (ws.take k))) 28 1 fv k (intsU (startsI ((ws.take k).map (·.1))))) (fun _ _ y _ => n - (intOf y).toNat)
    case atStart => exact ⟨0, by omega, rfl, P0.out⟩
    case round =>
      obtain ⟨k, hk, rfl, ha⟩ := hrel
      obtain ⟨oa, oc, hov⟩ := ha.a.slice
      subst hov
      obtain ⟨fa, fc, hfv⟩ := ha.b.slice
      subst hfv
      have A := Lib.hid ha; clear ha P0
      by_cases hlt2 : k < n
      · have hk' : (k : Int) < n := by omega
        obtain ⟨e, he⟩ : ∃ e, ws[k]? = some e := ⟨_, List.getElem?_eq_getElem (by rw [HN.out]; exact hlt2)⟩
        obtain ⟨_, a', c', e', _, hE⟩ := H.out.below A.out.a.bel
        cases e'
        have hg := flat_get' ws k e he
        obtain ⟨eb, eo, rfl, hE2⟩ := rd_at hE hg.1
        have c1 := hE2 _ _ hg.1; have c2 := hE2 _ _ hg.2
        rw [← Nat.add_assoc] at c2
        have HT := Lib.hid (take_snoc_get ws k e he)
        have hlt64 := HB.out e (List.mem_of_getElem? he)
        clear hE hE2 he hg
        obtain ⟨e1, e2⟩ := e
        simp only at c1 c2 hlt64
        have HM := Lib.hid (fun wx => mstart_any (w := wx) e1 hlt64)
        have hne : (Value.slice oa k oc).ownBlock ≠ some wr.heap.size := fun hh => by have := A.out.a.own.lt _ hh; omega
        have HNE := Lib.hid hne; clear hne
        go_wp2_with (at_builtin; refine wpList_append_sl _ rfl _ _ 53 rfl 110 k0 _ 3 24 Tryz.underlying53 I2.out.1 I2.out.2.1 I2.out.2.2.1 I2.out.2.2.2 rfl (by decide) _ k (instrC (stC (ws.take k))) rfl (by exact (A.out.a.own.alloc _).alloc _) _ 1 (instrC [(1, e1, e2)]) rfl (by exact RdSl.newAt _ _ _ 3 1 _ (by simp) rfl) (instrC_one _) (by unfold maxLen; omega) (by omega) ?_)
        intro v1 w1 o1 g1 b1 n1
        have d1 : w1.cell? ⟨wr.heap.size, 0, none⟩ = some (.int .u64 (e1 : Int)) := (kept_cell (below_alloc _ _) g1 (by simp) HNE.out 0).trans ((Blk.new wr _ _).cell rfl)
        have P1 := Lib.hid (A.out.left (below_twice wr _ _) o1 g1 b1 (by omega)); clear o1 g1 b1 n1
        obtain ⟨va, vc, hv1⟩ := P1.out.a.slice
        subst hv1
        go_wp2_with fail
        (with_reducible refine (HM.out _).mono ?_)
        rintro e w' ⟨rfl, rfl⟩
        go_wp2_with (at_builtin; refine wpList_append_sl _ rfl _ _ 23 rfl 28 i0 _ 1 8 Tryz.underlying23 I.out.1 I.out.2.1 I.out.2.2.1 I.out.2.2.2 rfl (by decide) _ k (intsU (startsI ((ws.take k).map (·.1)))) rfl (by exact P1.out.b.own.alloc _) _ 1 (intsU [((e1 - e1 % 64 : Nat) : Int)]) rfl (by exact RdSl.newAt _ _ _ 1 1 _ (by simp) rfl) (intsU_one _) (by unfold maxLen; omega) (by omega) ?_)
        intro v2 w2 o2 g2 b2 n2
        have o2' : OwnSl w2 28 1 v2 (k + 1) (intsU (startsI ((ws.take k).map (·.1))) ++ intsU [((e1 - e1 % 64 : Nat) : Int)]) := by rw [List.map_take]; exact o2
        have P2 := Lib.hid ((P1.out.swap.left (below_alloc w1 _) o2' g2 b2 (by omega)).swap); clear o2 o2' g2 b2 n2
        go_wp2_with fail
        go_roundw
        case rel => exact ⟨k + 1, by omega, by go_num, by rw [HT.out, stC_snoc, instrC_append, List.map_append, List.map_cons, List.map_nil, startsI_snoc, intsU_append]; exact P2.out⟩
        case measure => simp [intOf]; omega
      · obtain rfl : k = n := by omega
        have hF : ws.take k = ws := List.take_of_length_le (by rw [HN.out]; omega)
        rw [hF] at A
        clear hF hmk
        have hml : (startsI (ws.map (·.1))).length = k := by unfold startsI; rw [List.length_map, List.length_map, HN.out]
        have hS := sortU_own (w := wr) (.slice fa k fc) (startsI (ws.map (·.1))) (by rw [hml]; exact A.out.b.own) (by rw [hml]; omega)
        rw [hml] at hS
        have HS := Lib.hid hS; clear hS
        have HL := Lib.hid (linesL_len (ws.map (·.1)))
        have hlen : (linesL (ws.map (·.1))).length ≤ k := by have := HL.out; rw [List.length_map, HN.out] at this; exact this
        have HP := Lib.hid (flC_pos (ws.map (·.1)) (by rw [List.length_map, HN.out]; exact hpos))
        have hbd := linesL_bd (ws.map (·.1)) 288230376151711744 (fun o ho => by
          obtain ⟨e, he, rfl⟩ := List.mem_map.1 ho; have := HB.out e he; omega)
        have HBD := Lib.hid hbd
        have HST : Hid (storesL ws = stC ws ++ (flC (linesL (ws.map (·.1))) ++ [(3, 0, 0)])) := by
          show storesL ws = _
          unfold storesL flushL
          rw [if_neg HP.out]; rfl
        have HC := Lib.hid (fun ys (wx : World) h1 h2 h3 h4 => compact_lines (w := wx) (n := k) (.slice fa k fc) (ws.map (·.1)) ys h1 h2 h3 h4 hpos (by omega))
        clear hbd HL
        generalize linesL (ws.map (·.1)) = L at *
        generalize hm : L.length = m at *
        have HM := Lib.hid hm; clear hm
        go_wp2_with fail
        (with_reducible refine HS.out.mono ?_)
        rintro e w1 ⟨rfl, ys, m1, a1, o1, u1⟩
        have hyl : ys.length = k := by rw [m1.len, hml]
        have HC1 := Lib.hid (HC.out ys w1 o1 hyl m1.perm a1)
        have P1 := Lib.hid (A.out.a.side u1 A.out.b.new (fun g h1 h2 => A.out.ne g h1 h2))
        have hnew := A.out.b.new; have hne := A.out.ne
        clear o1 u1 m1 a1 hyl HS HC hml A
        have NW := Lib.hid (And.intro hnew hne); clear hnew hne
        go_wp2_with fail
        (with_reducible refine HC1.out.mono ?_)
        rintro e w2 ⟨ca, cc, rfl, o2, b2, u2⟩
        have P2 := Lib.hid (P1.out.side u2 NW.out.1 (fun g h1 h2 => NW.out.2 g h1 h2))
        have O2 : Hid (Pair w w.heap.size w2 110 3 (.slice oa k oc) k (instrC (stC ws)) 28 1 (.slice ca m cc) m (natsU (L.map (64 * ·)))) :=
          ⟨P2.out, ⟨o2, fun g hg => NW.out.1 g (b2 g hg), P2.out.bel, P2.out.lt⟩, fun g h1 h2 => NW.out.2 g h1 (b2 g h2)⟩
        clear o2 b2 u2 P1 P2 NW HC1
        go_wp2_with fail
        go_loopw [3, 41] (fun ov y wr => ∃ j : Nat, j ≤ m ∧ y = .int .i64 j ∧ Pair w w.heap.size wr 110 3 ov (k + j) (instrC (stC ws ++ flC (L.take j))) 28 1 (.slice ca m cc) m (natsU (L.map (64 * ·)))) (fun _ y _ => m - (intOf y).toNat)
        case atStart => exact ⟨0, by omega, rfl, by simpa [flC] using O2.out⟩
        case round =>
          obtain ⟨j, hj, rfl, ha⟩ := hrel
          obtain ⟨ra, rc, hrv⟩ := ha.a.slice
          subst hrv
          have A := Lib.hid ha; clear ha O2
          by_cases hlt3 : j < m
          · have hj' : (j : Int) < m := by omega
            obtain ⟨x, hx⟩ : ∃ x, L[j]? = some x := ⟨_, List.getElem?_eq_getElem (by rw [HM.out]; exact hlt3)⟩
            have hxb := HBD.out x (List.mem_of_getElem? hx)
            have hx2 : (natsU (L.map (64 * ·)))[j]? = some (.int .u64 ((64 * x : Nat) : Int)) := by simp [natsU, hx]
            obtain ⟨_, a', c', e', _, hE⟩ := A.out.b.rd
            cases e'
            obtain ⟨eb, eo, rfl, hE2⟩ := rd_at hE hx2
            have c1 := hE2 _ _ hx2
            have HT := Lib.hid (take_snoc_get L j x hx)
            clear hE hE2 hx hx2
            obtain ⟨y, hy⟩ : ∃ y : Nat, 64 * x = y := ⟨_, rfl⟩
            rw [hy] at c1
            have HY := Lib.hid hy; clear hy
            go_wp2_with (at_builtin; refine wpList_append_sl _ rfl _ _ 53 rfl 110 k0 _ 3 24 Tryz.underlying53 I2.out.1 I2.out.2.1 I2.out.2.2.1 I2.out.2.2.2 rfl (by decide) _ (k + j) (instrC (stC ws ++ flC (L.take j))) rfl (by exact A.out.a.own.alloc _) _ 1 (instrC [(2, y, 0)]) rfl (by exact RdSl.newAt _ _ _ 3 1 _ (by simp) rfl) (instrC_one _) (by unfold maxLen; omega) (by omega) ?_)
            intro v1 w3 o1 g1 b1 n1
            have P3 := Lib.hid (A.out.left (below_alloc wr _) o1 g1 b1 (by omega)); clear o1 g1 b1 n1
            go_wp2_with fail
            go_roundw
            case rel => exact ⟨j + 1, by omega, by go_num, by rw [HT.out, flC_snoc, HY.out, ← List.append_assoc, instrC_append (stC ws ++ flC (L.take j))]; exact P3.out⟩
            case measure => simp [intOf]; omega
          · obtain rfl : j = m := by omega
            have hF : L.take j = L := List.take_of_length_le (by rw [HM.out]; omega)
            rw [hF] at A
            clear hF
            go_wp2_with (at_builtin; refine wpList_append_sl _ rfl _ _ 53 rfl 110 k0 _ 3 24 Tryz.underlying53 I2.out.1 I2.out.2.1 I2.out.2.2.1 I2.out.2.2.2 rfl (by decide) _ (k + j) (instrC (stC ws ++ flC L)) rfl (by exact A.out.a.own.alloc _) _ 1 (instrC [(3, 0, 0)]) rfl (by exact RdSl.newAt _ _ _ 3 1 _ (by simp) rfl) (instrC_one _) (by unfold maxLen; omega) (by omega) ?_)
            intro v1 w3 o1 g1 b1 n1
            have A1 := Lib.hid (A.out.a.next (below_alloc wr _) o1 g1 b1 (by omega)); clear o1 g1 b1 n1
            go_wp2_with fail
            go_ret
            exact ⟨_, rfl, by rw [HST.out, ← List.append_assoc]; exact A1.out.congr (by simp [stC, flC, HN.out, HM.out]; omega) (by rw [instrC_append (stC ws ++ flC L)])⟩
end
end Go.Proofs.YtgdcjedcinapdaaGreat

/- LeafSplits: the law's states. -/
namespace Go.Proofs.YtgdcjedcinapdaaGreat
open Go.RowKit

/-- A node of the device that can be read through thread j. -/
structure NdAt (wc : World) (v : DV) (own : Nat → Option Role) (D : Dev) (j off : Nat) (V : Nat → Int) (A : List (Int × Int)) : Prop where
  at' : NodeAt wc v own D j (ptrN off)
  wd : nodeW D (ptrN off) = V
  sz : D.n * 64 = 768
  is : NodeIs V A
  po : ptrOff (ptrN off) = off
theorem LiveSt.nd {w wc : World} {v : DV} {own : Nat → Option Role} {D : Dev} {x : Nat} {C V : Nat → Int} {A : List (Int × Int)} (h : LiveSt w v own D x C wc) (j off : Nat) (hj : j < 8) (h0 : 0 < off) (h8 : off % 8 = 0) (hl : off + 224 ≤ 768) (hV : ∀ i, V i = C (off / 8 + i)) (hn : NodeIs V A) : NdAt wc v own D j off V A := by
  have := h.node j off hj h0 h8 hl (fun i hi => by rw [← hV]; exact hn.bd i hi)
  exact ⟨this.1, funext fun i => (this.2 i).trans (hV i).symm, by rw [h.live.n], hn, refD_ptr _ h8 (by omega)⟩
section
variable {w : World} {v : DV} {own : Nat → Option Role} {D : Dev} {j off : Nat} {V : Nat → Int} {A : List (Int × Int)}
theorem NdAt.ok (h : NdAt w v own D j off V A) : nodeOk (nodeW D (ptrN off)) (D.n * 64) := by rw [h.wd, h.sz]; exact h.is.ok
theorem NdAt.half (h : NdAt w v own D j off V A) : Calls Tryz.prog 21 #[.agg #[.iface 76 (.pointer (some ⟨v.tb j, 0, none⟩)), .int .u64 (ptrN off : Nat)]] w (TwoPost w (ksE (A.drop (A.length / 2))) (vsE (A.drop (A.length / 2)))) := by
  have := half_any h.at' h.ok
  rw [h.wd, keysOf_E, valsOf_E] at this
  have e : entsW V ((slotsW V).drop ((slotsW V).length / 2)) = A.drop (A.length / 2) := by
    rw [h.is.len]
    conv => rhs; rw [← h.is.ents]
    simp [entsW, List.map_drop]
  rw [e] at this
  exact this
theorem NdAt.cutB (h : NdAt w v own D j off V A) (k : Int) (nx : Nat) (hk : k < 0 ∨ (A.length : Int) ≤ k) : Calls Tryz.prog 22 #[.agg #[.iface 76 (.pointer (some ⟨v.tb j, 0, none⟩)), .int .u64 (ptrN off : Nat)], .int .i64 k, .int .u64 nx] w
    fun r w' => r = .returned (.tuple #[.slice none 0 0, .int .i64 1]) ∧ Below w.heap.size w w' :=
  cut_bad h.at' h.ok k nx (by rw [h.wd, ← h.is.len]; exact hk)
theorem NdAt.cutO (h : NdAt w v own D j off V A) (k nx : Nat) (hk : k < A.length) : Calls Tryz.prog 22 #[.agg #[.iface 76 (.pointer (some ⟨v.tb j, 0, none⟩)), .int .u64 (ptrN off : Nat)], .int .i64 k, .int .u64 nx] w
    (WritesPost w (cutL V off k nx) 0) := by
  have := cut_ok h.at' h.ok k nx (by rw [h.wd, ← h.is.len]; exact hk)
  rw [h.wd, h.po] at this
  exact this
theorem NdAt.high (h : NdAt w v own D j off V A) : Calls Tryz.prog 24 #[.agg #[.iface 76 (.pointer (some ⟨v.tb j, 0, none⟩)), .int .u64 (ptrN off : Nat)]] w fun r w' => r = .returned (.tuple #[.int .u64 (V 2), .bool (V 3 == 1)]) ∧ Below w.heap.size w w' := by
  refine (high_any h.at').mono ?_
  rintro r w' ⟨hb, ⟨_, hr⟩ | ⟨hn, _⟩⟩
  · rw [h.wd] at hr; exact ⟨hr, hb⟩
  · exact absurd h.ok hn
theorem NdAt.nxt (h : NdAt w v own D j off V A) : Calls Tryz.prog 27 #[.agg #[.iface 76 (.pointer (some ⟨v.tb j, 0, none⟩)), .int .u64 (ptrN off : Nat)]] w fun r w' => r = .returned (.int .u64 (V 1)) ∧ Below w.heap.size w w' := by
  refine (next_any h.at').mono ?_
  rintro r w' ⟨hb, ⟨_, hr⟩ | ⟨hn, _⟩⟩
  · rw [h.wd] at hr; exact ⟨hr, hb⟩
  · exact absurd h.ok hn
theorem NdAt.chk (h : NdAt w v own D j off V A) : Calls Tryz.prog 14 #[.agg #[.iface 76 (.pointer (some ⟨v.tb j, 0, none⟩)), .int .u64 (ptrN off : Nat)]] w fun r w' => r = .returned (.int .i64 0) ∧ Below w.heap.size w w' := by
  refine (check_any h.at').mono ?_
  rintro r w' ⟨hb, ⟨_, hr⟩ | ⟨hn, _⟩⟩
  · exact ⟨hr, hb⟩
  · exact absurd h.ok hn
theorem NdAt.entr (h : NdAt w v own D j off V A) : Calls Tryz.prog 16 #[.agg #[.iface 76 (.pointer (some ⟨v.tb j, 0, none⟩)), .int .u64 (ptrN off : Nat)]] w fun r w' => ∃ a c, r = .returned (.slice a A.length c) ∧ RdSl w' 2 (.slice a A.length c) A.length (entC A) ∧ Below w.heap.size w w' :=
  entries_node h.at' h.ok (by rw [h.wd]; exact h.is.ents)
theorem NdAt.join {j2 off2 : Nat} {V2 : Nat → Int} {A2 : List (Int × Int)} (h : NdAt w v own D j off V A) (h2 : NdAt w v own D j2 off2 V2 A2) :
    Calls Tryz.prog 23 #[.agg #[.iface 76 (.pointer (some ⟨v.tb j, 0, none⟩)), .int .u64 (ptrN off : Nat)], .agg #[.iface 76 (.pointer (some ⟨v.tb j2, 0, none⟩)), .int .u64 (ptrN off2 : Nat)]] w (WritesPost w (joinP V off V2).1 (joinP V off V2).2) := by
  have := join_ok h.at' h2.at' h.ok h2.ok
  rw [h.wd, h2.wd, h.po] at this
  exact this
end

theorem ret_u64 {a b : Int} (h : a = b) : Ending.returned (.int .u64 a) = .returned (.int .u64 b) := by rw [h]
theorem ret_high {a b x y : Int} {c : Bool} (h : a = b) (h2 : x = y) (h3 : (y == 1) = c) : Ending.returned (.tuple #[.int .u64 a, .bool (x == 1)]) = .returned (.tuple #[.int .u64 b, .bool c]) := by rw [h, h2, h3]
/-- What Cut answers. -/
def cutR (V : Nat → Int) (off : Nat) (kz : Int) (nx : Nat) : List (Nat × Int) × Nat := if 0 ≤ kz ∧ kz < ((slotsW V).length : Int) then (cutL V off kz.toNat nx, 0) else ([], 1)
section
variable {w : World} {v : DV} {own : Nat → Option Role} {D : Dev} {j off : Nat} {V : Nat → Int} {A : List (Int × Int)}
theorem NdAt.cut (h : NdAt w v own D j off V A) (kz : Int) (nx : Nat) : Calls Tryz.prog 22 #[.agg #[.iface 76 (.pointer (some ⟨v.tb j, 0, none⟩)), .int .u64 (ptrN off : Nat)], .int .i64 kz, .int .u64 nx] w
    (WritesPost w (cutR V off kz nx).1 (cutR V off kz nx).2) := by
  unfold cutR
  have hl := h.is.len
  split
  · rename_i hk
    obtain ⟨k, rfl⟩ : ∃ k : Nat, kz = k := ⟨kz.toNat, by omega⟩
    rw [Int.toNat_natCast]
    exact h.cutO k nx (by omega)
  · rename_i hk
    refine (h.cutB kz nx (by omega)).mono ?_
    rintro r w' ⟨rfl, hb⟩
    exact ⟨_, rfl, Acc.nil w _ _ _ _ hb hb.size⟩
theorem refCut_any {sv : Value} {x : Nat} (h : RefIn w sv V x) (off : Nat) (kz : Int) (nx : Nat) (ha : off < 1000000) : Calls Tryz.prog 44 #[sv, .int .u64 off, .int .i64 kz, .int .u64 nx] w
    fun r w' => ∃ ov, r = .returned (.tuple #[ov, .int .i64 (cutR V off kz nx).2]) ∧ Acc w w.heap.size w' 100 2 ov (cutR V off kz nx).1.length (flat (cutR V off kz nx).1) := by
  unfold cutR
  split
  · rename_i hk
    obtain ⟨k, rfl⟩ : ∃ k : Nat, kz = k := ⟨kz.toNat, by omega⟩
    rw [Int.toNat_natCast]
    exact refCut_ok h off nx k (by omega) ha
  · rename_i hk
    refine (refCut_bad h off nx kz (by omega)).mono ?_
    rintro r w' ⟨rfl, hb⟩
    exact ⟨_, rfl, Acc.nil w _ _ _ _ hb hb.size⟩
theorem cutR_len (V : Nat → Int) (off : Nat) (kz : Int) (nx : Nat) : (cutR V off kz nx).1.length ≤ 4 := by unfold cutR; split <;> simp [cutL]
theorem cutR_cases (V : Nat → Int) (off : Nat) (kz : Int) (nx : Nat) : (cutR V off kz nx).2 = 1 ∨ ∃ k : Nat, kz = k ∧ k < (slotsW V).length ∧ cutR V off kz nx = (cutL V off k nx, 0) := by
  unfold cutR
  split
  · rename_i hk
    obtain ⟨k, rfl⟩ : ∃ k : Nat, kz = k := ⟨kz.toNat, by omega⟩
    exact .inr ⟨k, rfl, by omega, by rw [Int.toNat_natCast]⟩
  · exact .inl rfl
end

/-- The device and the boxes, the node's entries as the reference tells them. -/
structure SSt (w : World) (n : NodeP) (ka sa va : Option Addr) (kc sc vc : Nat) (v : DV) (lb g : Nat) (own : Nat → Option Role) (D : Dev) (x : Nat) (C : Nat → Int) (av : Value) (E : List (Int × Int)) (wc : World) : Prop where
  q : QSt w n ka sa va kc sc vc v lb g own D x C wc
  rd : RdSl wc 2 av E.length (entC E)
  ao : ∀ k, av.ownBlock = some k → own k = none ∧ k < wc.heap.size
section
variable {w : World} {n : NodeP} {ka sa va : Option Addr} {kc sc vc : Nat} {v : DV} {lb g : Nat} {own : Nat → Option Role} {D : Dev} {x : Nat} {C : Nat → Int} {av : Value} {E : List (Int × Int)} {wc w1 : World}
theorem SSt.next (h : SSt w n ka sa va kc sc vc v lb g own D x C av E wc) (hb : Below wc.heap.size wc w1) : SSt w n ka sa va kc sc vc v lb g own D x C av E w1 :=
  ⟨h.q.next hb, h.rd.below hb, fun k hk => ⟨(h.ao k hk).1, Nat.lt_of_lt_of_le (h.ao k hk).2 hb.size⟩⟩
theorem SSt.bel (h : SSt w n ka sa va kc sc vc v lb g own D x C av E wc) : Below w.heap.size w wc := h.q.live.bel
theorem SSt.ran (h : SSt w n ka sa va kc sc vc v lb g own D x C av E wc) {D' : Dev} {x' : Nat} {C' : Nat → Int} (hp : DPost v own wc D' w1) (hl : Live D' 12 x' C') :
    ∃ own', SSt w n ka sa va kc sc vc v lb g own' D' x' C' av E w1 ∧ (∀ k, k < wc.heap.size → own' k = own k) ∧ Upd (fun k => own k ≠ none) wc w1 := by
  obtain ⟨own', h1, h2, h3⟩ := h.q.ran hp hl
  exact ⟨own', ⟨h1, h.rd.upd h3 (fun k hk => by simpa using (h.ao k hk).1), fun k hk => ⟨by rw [h2 k (h.ao k hk).2]; exact (h.ao k hk).1, Nat.lt_of_lt_of_le (h.ao k hk).2 h3.size⟩⟩, h2, h3⟩
/-- Some stores are run. -/
theorem SSt.run (h : SSt w n ka sa va kc sc vc v lb g own D x C av E wc) (hx : x ≤ 1000) {ws : List (Nat × Int)} (hok : ∀ e ∈ ws, e.1 % 8 = 0 ∧ e.1 < 768) (hlen : ws.length ≤ 40) {pv : Value} (hp : RdSl wc 3 pv (storesL ws).length (instrC (storesL ws))) (ho : ∀ k, pv.ownBlock = some k → own k = none) :
    Calls Tryz.prog 33 #[pv, .iface 76 (.pointer (some ⟨v.tb 0, 0, none⟩))] wc fun r w' => r = .returned (.int .i64 0) ∧ ∃ own' D', SSt w n ka sa va kc sc vc v lb g own' D' (x + 100) (fun i => look ws (C i) i) av E w' ∧ (∀ k, k < wc.heap.size → own' k = own k) ∧ Upd (fun k => own k ≠ none) wc w' := by
  have hpo : progOk 12 (storesL ws) := progOk_stores hok
  have hsl := storesL_lenS ws
  refine (run_any h.q.live.dev (by omega) pv (storesL ws) hp ho hpo.instr (by omega) (by have := h.q.live.live.exec; omega)).mono ?_
  rintro r w' ⟨rfl, hd⟩
  have hl := h.q.live.live.run 0 (storesL ws) hpo
  have hc : runC C (storesL ws) = fun i => look ws (C i) i := funext fun i => runC_stores ws C i
  rw [hc] at hl
  obtain ⟨own', h2⟩ := h.ran hd (hl.congr (by omega) (fun _ => rfl) : Live _ 12 (x + 100) _)
  exact ⟨by rw [hl.err], own', _, h2⟩
end
theorem blk_grown {wz w1 : World} {b : Nat} {c : Array Value} {t : TypeId} {k : Value} (h : Blk wz b c t) (g1 : wz.grownBy w1 k.ownBlock) (hne : k.ownBlock ≠ some b) : Blk w1 b c t := (g1.block b h.lt (fun e => hne e.symm)).trans h
theorem rd_one {wz w1 : World} {g : Nat} {u k : Value} (h : RdSl wz 1 (.slice (some ⟨g, 0, none⟩) 1 1) 1 [u]) (g1 : wz.grownBy w1 k.ownBlock) (hlt : g < wz.heap.size) (hne : k.ownBlock ≠ some g) : RdSl w1 1 (.slice (some ⟨g, 0, none⟩) 1 1) 1 [u] :=
  h.kept (fun b hb _ => by simp [Value.ownBlock] at hb; subst hb; exact g1.block _ hlt (fun e => hne e.symm))
theorem blk2C {wx : World} {b : Nat} {x y : Value} {t : TypeId} (h : Blk wx b #[x, y] t) : wx.cell? ⟨b, 0, none⟩ = some x ∧ wx.cell? ⟨b, 1, none⟩ = some y := ⟨h.cell rfl, h.cell rfl⟩
theorem below_twoD (w : World) (o1 o2 : Obj) : Below w.heap.size w ((w.alloc o1).alloc o2).drew := (((Below.refl _ w).alloc (Nat.le_refl _) o1).alloc (by simp) o2).drew
theorem below_oneD (w : World) (o1 : Obj) : Below w.heap.size w (w.alloc o1).drew := ((Below.refl _ w).alloc (Nat.le_refl _) o1).drew
section
variable {w : World} {n : NodeP} {ka sa va : Option Addr} {kc sc vc : Nat} {v : DV} {lb g rb : Nat} {own : Nat → Option Role} {D : Dev} {x : Nat} {C : Nat → Int} {av : Value} {E : List (Int × Int)} {wc w1 : World}
theorem SSt.moved (h : SSt w n ka sa va kc sc vc v lb g own D x C av E wc) {own' : Nat → Option Role} {D' : Dev} {x' : Nat} {C' : Nat → Int} (l : LiveSt w v own' D' x' C' w1) (o : ∀ k, k < wc.heap.size → own' k = own k) (u : Upd (fun k => own k ≠ none) wc w1) : SSt w n ka sa va kc sc vc v lb g own' D' x' C' av E w1 :=
  ⟨⟨l, h.q.box.upd u (by simpa using h.q.ob), h.q.leaf.upd u (by simpa using h.q.ol), h.q.ws.upd u (by simpa using h.q.og), by rw [o _ h.q.box.lt]; exact h.q.ob, by rw [o _ h.q.leaf.lt]; exact h.q.ol, by rw [o _ h.q.ws.lt]; exact h.q.og⟩,
    h.rd.upd u (fun k hk => by simpa using (h.ao k hk).1), fun k hk => ⟨by rw [o k (h.ao k hk).2]; exact (h.ao k hk).1, Nat.lt_of_lt_of_le (h.ao k hk).2 u.size⟩⟩
/-- The state and the right leaf's box. -/
structure RSp (w : World) (n : NodeP) (ka sa va : Option Addr) (kc sc vc : Nat) (v : DV) (lb g rb : Nat) (own : Nat → Option Role) (D : Dev) (x : Nat) (C : Nat → Int) (av : Value) (E : List (Int × Int)) (wc : World) : Prop where
  s : SSt w n ka sa va kc sc vc v lb g own D x C av E wc
  r : Blk wc rb #[.iface 76 (.pointer (some ⟨v.tb 1, 0, none⟩)), .int .u64 (ptrN 488 : Nat)] 35
  ro : own rb = none
theorem RSp.next (h : RSp w n ka sa va kc sc vc v lb g rb own D x C av E wc) (hb : Below wc.heap.size wc w1) : RSp w n ka sa va kc sc vc v lb g rb own D x C av E w1 := ⟨h.s.next hb, h.r.below hb, h.ro⟩
theorem RSp.drew (h : RSp w n ka sa va kc sc vc v lb g rb own D x C av E wc) : RSp w n ka sa va kc sc vc v lb g rb own D x C av E wc.drew := h.next ((Below.refl _ _).drew)
theorem RSp.cells (h : RSp w n ka sa va kc sc vc v lb g rb own D x C av E wc) : wc.cell? ⟨lb, 0, none⟩ = some (.iface 76 (.pointer (some ⟨v.tb 0, 0, none⟩))) ∧ wc.cell? ⟨lb, 1, none⟩ = some (.int .u64 (ptrN (nodeOff n) : Nat)) ∧ wc.cell? ⟨rb, 0, none⟩ = some (.iface 76 (.pointer (some ⟨v.tb 1, 0, none⟩))) ∧ wc.cell? ⟨rb, 1, none⟩ = some (.int .u64 (ptrN 488 : Nat)) :=
  ⟨h.s.q.leaf.cell rfl, h.s.q.leaf.cell rfl, h.r.cell rfl, h.r.cell rfl⟩
theorem RSp.cellsW (h : RSp w n ka sa va kc sc vc v lb g rb own D x C av E wc) {y : Int} (hy : nW n 1 = y) : wc.cell? ⟨lb, 0, none⟩ = some (.iface 76 (.pointer (some ⟨v.tb 0, 0, none⟩))) ∧ wc.cell? ⟨lb, 1, none⟩ = some (.int .u64 (ptrN (nodeOff n) : Nat)) ∧ wc.cell? ⟨g, 1, none⟩ = some (.int .u64 y) :=
  ⟨h.s.q.leaf.cell rfl, h.s.q.leaf.cell rfl, by have := h.s.q.ws.cell (i := 1) (by omega); rw [← nW_node n 1 (by omega), hy] at this; exact this⟩
theorem RSp.bel (h : RSp w n ka sa va kc sc vc v lb g rb own D x C av E wc) : Below w.heap.size w wc := h.s.bel
theorem RSp.run (h : RSp w n ka sa va kc sc vc v lb g rb own D x C av E wc) (hx : x ≤ 1000) {ws : List (Nat × Int)} (hok : ∀ e ∈ ws, e.1 % 8 = 0 ∧ e.1 < 768) (hlen : ws.length ≤ 40) {pv : Value} (hp : RdSl wc 3 pv (storesL ws).length (instrC (storesL ws))) (ho : ∀ k, pv.ownBlock = some k → own k = none) :
    Calls Tryz.prog 33 #[pv, .iface 76 (.pointer (some ⟨v.tb 0, 0, none⟩))] wc fun r w' => r = .returned (.int .i64 0) ∧ ∃ own' D', RSp w n ka sa va kc sc vc v lb g rb own' D' (x + 100) (fun i => look ws (C i) i) av E w' := by
  refine (h.s.run hx hok hlen hp ho).mono ?_
  rintro r w' ⟨rfl, own', D', hs, o, u⟩
  exact ⟨rfl, own', D', hs, h.r.upd u (by simpa using h.ro), by rw [o _ h.r.lt]; exact h.ro⟩
/-- The left node, and the right one. -/
theorem RSp.nl (h : RSp w n ka sa va kc sc vc v lb g rb own D x C av E wc) {A : List (Int × Int)} (hn : NodeIs (fun i => C (nodeOff n / 8 + i)) A) : NdAt wc v own D 0 (nodeOff n) (fun i => C (nodeOff n / 8 + i)) A :=
  h.s.q.live.nd 0 (nodeOff n) (by omega) (by have := nodeOff_le n; omega) (nodeOff_le n).2.2 (by have := nodeOff_le n; omega) (fun _ => rfl) hn
theorem RSp.nr (h : RSp w n ka sa va kc sc vc v lb g rb own D x C av E wc) {A : List (Int × Int)} (hn : NodeIs (fun i => C (488 / 8 + i)) A) : NdAt wc v own D 1 488 (fun i => C (488 / 8 + i)) A :=
  h.s.q.live.nd 1 488 (by omega) (by omega) (by omega) (by omega) (fun _ => rfl) hn
theorem RSp.nxtL (h : RSp w n ka sa va kc sc vc v lb g rb own D x C av E wc) {A : List (Int × Int)} {y : Int} (hn : NodeIs (fun i => C (nodeOff n / 8 + i)) A) (hy : C (nodeOff n / 8 + 1) = y) : Calls Tryz.prog 27 #[.agg #[.iface 76 (.pointer (some ⟨v.tb 0, 0, none⟩)), .int .u64 (ptrN (nodeOff n) : Nat)]] wc fun r w' => r = .returned (.int .u64 y) ∧ Below wc.heap.size wc w' := by
  refine (h.nl hn).nxt.mono ?_
  rintro r w' ⟨hr, hb⟩
  exact ⟨hr.trans (ret_u64 hy), hb⟩
theorem RSp.highL (h : RSp w n ka sa va kc sc vc v lb g rb own D x C av E wc) {A : List (Int × Int)} {y z : Int} {c : Bool} (hn : NodeIs (fun i => C (nodeOff n / 8 + i)) A) (hy : C (nodeOff n / 8 + 2) = y) (hz : C (nodeOff n / 8 + 3) = z) (hc : (z == 1) = c) : Calls Tryz.prog 24 #[.agg #[.iface 76 (.pointer (some ⟨v.tb 0, 0, none⟩)), .int .u64 (ptrN (nodeOff n) : Nat)]] wc fun r w' => r = .returned (.tuple #[.int .u64 y, .bool c]) ∧ Below wc.heap.size wc w' := by
  refine (h.nl hn).high.mono ?_
  rintro r w' ⟨hr, hb⟩
  exact ⟨hr.trans (ret_high hy hz hc), hb⟩
theorem RSp.joinL (h : RSp w n ka sa va kc sc vc v lb g rb own D x C av E wc) {A B : List (Int × Int)} {jl : List (Nat × Int)} (hn : NodeIs (fun i => C (nodeOff n / 8 + i)) A) (hr : NodeIs (fun i => C (488 / 8 + i)) B) (hj : joinP (fun i => C (nodeOff n / 8 + i)) (nodeOff n) (fun i => C (488 / 8 + i)) = (jl, 0)) :
    Calls Tryz.prog 23 #[.agg #[.iface 76 (.pointer (some ⟨v.tb 0, 0, none⟩)), .int .u64 (ptrN (nodeOff n) : Nat)], .agg #[.iface 76 (.pointer (some ⟨v.tb 1, 0, none⟩)), .int .u64 (ptrN 488 : Nat)]] wc (WritesPost wc jl 0) := by
  have := (h.nl hn).join (h.nr hr)
  rw [hj] at this
  exact this
theorem RSp.free (h : RSp w n ka sa va kc sc vc v lb g rb own D x C av E wc) {k : Nat} (hk : wc.heap.size ≤ k) : own k = none := Classical.byContradiction fun hn => by have := h.s.q.off hn; omega
theorem enc_row {wx : World} {g : Nat} {E : List (Int × Int)} {nx hi : Int} {b : Bool} (h : Row wx g 28 28 (fun i => .int .u64 (encW (ksE E) (vsE E) nx hi b i))) : RdSl wx 1 (.slice (some ⟨g, 0, none⟩) 28 28) (encL E nx hi b).length (intsV (encL E nx hi b)) := by
  refine ⟨by simp [intsV], _, _, by rw [encL_len], by rw [encL_len]; exact Nat.le_refl _, .inr ⟨g, 0, rfl, fun j u hu => ?_⟩⟩
  have hj : j < 28 := by
    rcases Nat.lt_or_ge j 28 with h | h
    · exact h
    · rw [List.getElem?_eq_none (by simp [intsV, encL_len]; exact h)] at hu; cases hu
  have : u = .int .u64 (encW (ksE E) (vsE E) nx hi b j) := by simp [intsV, encL, hj] at hu; exact hu.symm
  rw [this, Nat.zero_add]; exact h.cell hj
end
end Go.Proofs.YtgdcjedcinapdaaGreat
