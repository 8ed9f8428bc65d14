/- The reference's Lines, Flushes and Stores. -/
import Derived.Test.YtpkilmnppdbnkaaGen
import Derived.Test.YtpkilmnppdbnkaaGen
import Derived.Test.YtpkilmnppdbnkaaLinesM
namespace Go.Proofs.Ytpkilmnppdbnkaa
open Go.RowKit
attribute [local go_sem ↓] Go.wp_at_zero Go.wp_at_succ

section
variable {w : World}
/-- The slices of a row and one more word, put together. -/
theorem lines_end {w3 : World} {v3 : Value} {out : List Nat} {i l : Nat} (hi : i ≤ out.length) (o : OwnSl w3 27 1 v3 (0 + i + 1 + (out.length - i)) ([] ++ natsU (out.take i) ++ natsU [l] ++ natsU (out.drop i))) : OwnSl w3 27 1 v3 (out.take i ++ l :: out.drop i).length (natsU (out.take i ++ l :: out.drop i)) := by
  have e1 : (out.take i ++ l :: out.drop i).length = 0 + i + 1 + (out.length - i) := by simp; omega
  have e2 : natsU (out.take i ++ l :: out.drop i) = [] ++ natsU (out.take i) ++ natsU [l] ++ natsU (out.drop i) := by simp [natsU]
  rw [e1, e2]; exact o
theorem ownNewAt (w : World) (c : Array Value) (e : TypeId) (size n cap b : Nat) (hb : b = w.heap.size) (hs : c.size = cap * size) (hn : n ≤ cap) (hm : cap ≤ maxLen) :
    OwnSl (w.alloc (.cells c e)) e size (.slice (Option.some ⟨b, 0, none⟩) n cap) n (c.toList.take (n * size)) := by subst hb; exact OwnSl.new w c e size n cap hs hn hm
theorem sz1 (w : World) (o : Obj) : w.heap.size ≤ (w.alloc o).drew.heap.size := by simp [World.drew]
theorem sz2 (w : World) (o o' : Obj) : w.heap.size ≤ ((w.alloc o).alloc o').drew.heap.size := by simp [World.drew]; omega
theorem lt2 (w : World) (o o' : Obj) : w.heap.size + 1 < ((w.alloc o).alloc o').drew.heap.size := by simp [World.drew]
theorem lt2' (w : World) (o o' : Obj) : w.heap.size < ((w.alloc o).alloc o').drew.heap.size := by simp [World.drew]; omega
theorem ob_ne {a b : Nat} (h : a ≠ b) : (Value.slice (some ⟨a, 0, none⟩) 0 0).ownBlock ≠ some b := fun e => h (by simpa [Value.ownBlock] using e)
/-- The lines collected so far. -/
structure LnAt (w : World) (offs : List Nat) (k : Nat) (ov : Value) (wr : World) : Prop where
  acc : Acc w w.heap.size wr 27 1 ov (linesL (offs.take k)).length (natsU (linesL (offs.take k)))
theorem rd_newer {wz w1 : World} {g : Nat} {l : Nat} {k : Value} (h : RdSl wz 1 (.slice (some ⟨g, 0, none⟩) 1 1) 1 (natsU [l])) (hg : wz.grownBy w1 k.ownBlock) (hlt : g < wz.heap.size) (hne : k.ownBlock ≠ some g) : RdSl w1 1 (.slice (some ⟨g, 0, none⟩) 1 1) 1 (natsU [l]) :=
  h.kept (fun b hb _ => by simp [Value.ownBlock] at hb; subst hb; exact hg.block _ hlt (fun e => hne e.symm))
theorem LnAt.step {w wo w3 : World} {offs : List Nat} {k o : Nat} {ov v3 : Value} {i : Nat} (h : LnAt w offs k ov wo) (ho : offs[k]? = some o) (hi : lowN (linesL (offs.take k)) (o / 64) = i) (hne : (linesL (offs.take k))[i]? ≠ some (o / 64))
    (h3 : OwnSl w3 27 1 v3 ((linesL (offs.take k)).take i ++ (o / 64) :: (linesL (offs.take k)).drop i).length (natsU ((linesL (offs.take k)).take i ++ (o / 64) :: (linesL (offs.take k)).drop i))) (hb : Below wo.heap.size wo w3 ∧ ∀ g, v3.ownBlock = some g → wo.heap.size ≤ g) : LnAt w offs (k + 1) v3 w3 := by
  have e : linesL (offs.take (k + 1)) = (linesL (offs.take k)).take i ++ (o / 64) :: (linesL (offs.take k)).drop i := by
    rw [take_snoc_at offs k o ho, linesL_snoc]; unfold insL; rw [hi, if_neg hne]
  refine ⟨?_⟩
  rw [e]
  exact ⟨h3, fun g hg => Nat.le_trans h.acc.bel.size (hb.2 g hg), h.acc.bel.trans (hb.1.mono h.acc.bel.size), Nat.le_trans h.acc.lt hb.1.size⟩
theorem LnAt.skip {w wo : World} {offs : List Nat} {k o : Nat} {ov : Value} {i : Nat} (h : LnAt w offs k ov wo) (ho : offs[k]? = some o) (hi : lowN (linesL (offs.take k)) (o / 64) = i) (he : (linesL (offs.take k))[i]? = some (o / 64)) : LnAt w offs (k + 1) ov wo := by
  have e : linesL (offs.take (k + 1)) = linesL (offs.take k) := by rw [take_snoc_at offs k o ho, linesL_snoc]; unfold insL; rw [hi, if_pos he]
  exact ⟨by rw [e]; exact h.acc⟩
set_option maxRecDepth 100000 in
set_option maxHeartbeats 8000000 in
theorem r10Lines_any (sv : Value) (offs : List Nat) (h : RdSl w 1 sv offs.length (natsU offs)) (hl : offs.length ≤ 100000) (hb : ∀ o ∈ offs, o < 18446744073709551616) :
    Calls Try.prog 86 #[sv] w fun r w' => ∃ ov, r = .returned ov ∧ Acc w w.heap.size w' 27 1 ov (linesL offs).length (natsU (linesL offs)) := by
  have H := Lib.hid h; have HB := Lib.hid hb; clear hb
  obtain ⟨_, sa, sc, rfl, hsc, _⟩ := h
  obtain ⟨i0, hi0, hz0, hz1, hz2⟩ := info_parts infoU64
  have I := Lib.hid (And.intro hi0 (And.intro hz0 (And.intro hz1 hz2))); clear hi0 hz0 hz1 hz2
  generalize hn : offs.length = n at *
  have HN := Lib.hid hn; clear hn
  go_enter Try.func86, Try.ntmps86
  go_wp2_with fail
  go_loopw [3, 10] (fun ov y wr => ∃ k : Nat, k ≤ n ∧ y = .int .i64 k ∧ LnAt w offs k ov wr) (fun _ y _ => n - (intOf y).toNat)
  case atStart => exact ⟨0, by omega, rfl, ⟨Acc.nil w _ _ _ _ (Below.refl _ _) (Nat.le_refl _)⟩⟩
  case round =>
    obtain ⟨k, hk, rfl, ha⟩ := hrel
    obtain ⟨oa, oc, hov⟩ := ha.acc.slice
    subst hov
    have A := Lib.hid ha; clear ha
    obtain ⟨wo, hwo⟩ : ∃ x : World, x = wr := ⟨_, rfl⟩
    subst hwo
    by_cases hlt : k < n
    · have hk' : (k : Int) < n := by omega
      obtain ⟨o, ho⟩ : ∃ o, offs[k]? = some o := ⟨_, List.getElem?_eq_getElem (by rw [HN.out]; exact hlt)⟩
      obtain ⟨_, a', c', e', _, hE⟩ := H.out.below A.out.acc.bel
      cases e'
      obtain ⟨eb, eo, rfl, hE2⟩ := rd_at hE (natsU_get ho)
      have c1 := hE2 _ _ (natsU_get ho)
      have hoB := HB.out o (List.mem_of_getElem? ho)
      have HST := Lib.hid (fun v3 w3 i => A.out.step (v3 := v3) (w3 := w3) (i := i) ho)
      have HSK := Lib.hid (fun i => A.out.skip (i := i) ho)
      have hlen : (linesL (offs.take k)).length ≤ 100000 := by have h1 := linesL_len (offs.take k); have h2 := List.length_take_le k offs; omega
      have hrd := A.out.acc.rd
      clear hE hE2 ho
      generalize hout : linesL (offs.take k) = out at *
      clear hout
      obtain ⟨l, hdef⟩ : ∃ l, l = o / 64 := ⟨_, rfl⟩
      have hq : (o : Int) / 64 = (l : Int) := by omega
      rw [← hdef] at HST HSK
      have hlow := lowN_lt out l; have hge := lowN_ge out l; have hle := lowN_le out l
      generalize ht : lowN out l = t at *
      have LOW := Lib.hid (And.intro hlow hge); clear hlow hge hdef
      have RD := Lib.hid hrd
      generalize hm : out.length = m at *
      have HM := Lib.hid hm; clear hm
      have hcap : m ≤ oc := by obtain ⟨_, _, _, e, hc, _⟩ := hrd; cases e; exact hc
      clear hrd
      go_wp2_with fail
      go_loop [7] (fun y => ∃ i : Nat, i ≤ t ∧ y = .int .i64 i) (fun y => t - (intOf y).toNat)
      case atStart => exact ⟨0, by omega, rfl⟩
      case round =>
        obtain ⟨i, hi, rfl⟩ := hrel
        by_cases hit : i < t
        · obtain ⟨x, hx⟩ : ∃ x, out[i]? = some x := ⟨_, List.getElem?_eq_getElem (by rw [HM.out]; omega)⟩
          have hxl := LOW.out.1 i x hit hx
          obtain ⟨_, a', c', e', _, hE⟩ := RD.out
          cases e'
          obtain ⟨gb, go', rfl, hE2⟩ := rd_at hE (natsU_get hx)
          have d1 := hE2 _ _ (natsU_get hx)
          have him : (i : Int) < m := by omega
          have hxl' : (x : Int) < l := by omega
          clear hE hE2 hx
          go_wp2_with fail
          go_round
          case rel => exact ⟨i + 1, by omega, by go_num⟩
          case measure => simp [intOf]; omega
        · obtain rfl : i = t := by omega
          clear hit
          by_cases him : i < m
          · have him' : (i : Int) < m := by omega
            obtain ⟨x, hx⟩ : ∃ x, out[i]? = some x := ⟨_, List.getElem?_eq_getElem (by rw [HM.out]; omega)⟩
            have hxl := LOW.out.2 x hx
            have hxl' : ¬ (x : Int) < l := by omega
            by_cases hxe : x = l
            · have hbe : ((x : Int) == (l : Int)) = true := by simp; omega
              have HSK2 := Lib.hid (HSK.out i rfl (by rw [hx, hxe]))
              obtain ⟨_, a', c', e', _, hE⟩ := RD.out
              cases e'
              obtain ⟨gb, go', rfl, hE2⟩ := rd_at hE (natsU_get hx)
              have d1 := hE2 _ _ (natsU_get hx)
              clear hE hE2 hx hxe
              go_wp2_with fail
              go_roundw
              case rel => exact ⟨k + 1, by omega, by go_num, HSK2.out⟩
              case measure => simp [intOf]; omega
            · have hbe : ((x : Int) == (l : Int)) = false := by simp; omega
              have HST2 := Lib.hid (fun v3 w3 => HST.out v3 w3 i rfl (by rw [hx]; simpa using hxe))
              obtain ⟨_, a', c', e', _, hE⟩ := RD.out
              cases e'
              obtain ⟨gb, go', rfl, hE2⟩ := rd_at hE (natsU_get hx)
              have d1 := hE2 _ _ (natsU_get hx)
              have t1 : RdSl wo 1 (.slice (some ⟨gb, go', none⟩) i oc) i (natsU (out.take i)) := by have := RD.out.takeG i (by omega); rw [Nat.mul_one, natsU_take] at this; exact this
              have t2 : RdSl wo 1 (.slice (some ⟨gb, go' + i, none⟩) (m - i) (oc - i)) (m - i) (natsU (out.drop i)) := by
                have := RD.out.dropG i (by omega)
                rw [natsU_drop, Nat.mul_one, if_neg (by omega), Option.map_some, Addr.add_lit] at this
                exact this
              have T1 := Lib.hid t1; have T2 := Lib.hid t2; clear t1 t2
              have hic : (i : Int) ≤ oc := by omega
              have hil : (i : Int) ≤ m := by omega
              have hci' : ¬ (oc : Int) = (i : Int) := by omega
              have hci : ¬ oc = i := by omega
              clear hE hE2 hx hxe HSK RD A LOW
              go_wp2_with fail
              go_region_held3 (fun _ => True) (trivial) (first | (refine step_append_sl (w := (wo.alloc (.cells #[] 27)).drew) rfl (.tmp 42) (.tmp 45) 105 rfl 27 i0 _ 1 8 Try.underlying105 I.out.1 I.out.2.1 I.out.2.2.1 I.out.2.2.2 rfl (by decide) (.slice (some ⟨wo.heap.size, 0, none⟩) 0 0) 0 [] rfl (by exact (OwnSl.new wo #[] 27 1 0 0 rfl (Nat.le_refl _) (Nat.zero_le _)).drew) _ i (natsU (out.take i)) rfl (by exact (T1.out.alloc _).drew) (natsU_one _) (by unfold maxLen; omega) (by omega) ?_; intro v1 w1 o1 g1 b1; have hb1 := own_chain (v1 := .slice (some ⟨wo.heap.size, 0, none⟩) 0 0) ⟨below_alloc wo (.cells #[] 27), fun g hg => by cases hg; exact Nat.le_refl _⟩ ((Below.refl _ _).drew) g1 b1 (sz1 wo _); have O1 := Lib.hid (And.intro o1 hb1); clear o1 g1 b1 hb1) | (refine step_append_sl (w := ((wo.alloc (.cells #[] 27)).alloc (.cells #[.int .u64 (l : Int)] 27)).drew) rfl (.tmp 42) (.tmp 45) 105 rfl 27 i0 _ 1 8 Try.underlying105 I.out.1 I.out.2.1 I.out.2.2.1 I.out.2.2.2 rfl (by decide) (.slice (some ⟨wo.heap.size, 0, none⟩) 0 0) 0 [] rfl (by exact ((OwnSl.new wo #[] 27 1 0 0 rfl (Nat.le_refl _) (Nat.zero_le _)).alloc _).drew) _ i (natsU (out.take i)) rfl (by exact ((T1.out.alloc _).alloc _).drew) (natsU_one _) (by unfold maxLen; omega) (by omega) ?_; intro v1 w1 o1 g1 b1; have hb1 := own_chain (v1 := .slice (some ⟨wo.heap.size, 0, none⟩) 0 0) ⟨below_twice wo (.cells #[] 27) (.cells #[.int .u64 (l : Int)] 27), fun g hg => by cases hg; exact Nat.le_refl _⟩ ((Below.refl _ _).drew) g1 b1 (sz2 wo _ _); have RB := Lib.hid (rd_newer (l := l) ((RdSl.newAt (wo.alloc (.cells #[] 27)) #[.int .u64 (l : Int)] 27 1 1 (wo.heap.size + 1) (by simp) rfl).drew) g1 (lt2 wo _ _) (ob_ne (by omega))); have O1 := Lib.hid (And.intro o1 hb1); clear o1 g1 b1 hb1) | (refine step_append_sl (w := ((wo.alloc (.cells #[.int .u64 (l : Int)] 27)).alloc (.cells #[] 27)).drew) rfl (.tmp 42) (.tmp 45) 105 rfl 27 i0 _ 1 8 Try.underlying105 I.out.1 I.out.2.1 I.out.2.2.1 I.out.2.2.2 rfl (by decide) (.slice (some ⟨wo.heap.size + 1, 0, none⟩) 0 0) 0 [] rfl (by exact (ownNewAt (wo.alloc (.cells #[.int .u64 (l : Int)] 27)) #[] 27 1 0 0 (wo.heap.size + 1) (by simp) rfl (Nat.le_refl _) (Nat.zero_le _)).drew) _ i (natsU (out.take i)) rfl (by exact ((T1.out.alloc _).alloc _).drew) (natsU_one _) (by unfold maxLen; omega) (by omega) ?_; intro v1 w1 o1 g1 b1; have hb1 := own_chain (v1 := .slice (some ⟨wo.heap.size + 1, 0, none⟩) 0 0) ⟨below_twice wo (.cells #[.int .u64 (l : Int)] 27) (.cells #[] 27), fun g hg => by cases hg; exact Nat.le_succ _⟩ ((Below.refl _ _).drew) g1 b1 (sz2 wo _ _); have RB := Lib.hid (rd_newer (l := l) (((RdSl.newAt wo #[.int .u64 (l : Int)] 27 1 1 wo.heap.size rfl rfl).alloc (.cells #[] 27)).drew) g1 (lt2' wo _ _) (ob_ne (by omega))); have O1 := Lib.hid (And.intro o1 hb1); clear o1 g1 b1 hb1) | (refine step_append_sl (w := w1.alloc (.cells #[.int .u64 (l : Int)] 27)) rfl (.tmp 46) (.tmp 48) 105 rfl 27 i0 _ 1 8 Try.underlying105 I.out.1 I.out.2.1 I.out.2.2.1 I.out.2.2.2 rfl (by decide) v1 (0 + i) ([] ++ natsU (out.take i)) rfl (by exact O1.out.1.alloc _) _ 1 (natsU [l]) rfl (by exact RdSl.newAt w1 #[.int .u64 (l : Int)] 27 1 1 _ rfl rfl) (natsU_one _) (by unfold maxLen; omega) (by omega) ?_; intro v2 w2 o2 g2 b2; have hb2 := own_chain O1.out.2 (below_alloc w1 _) g2 b2 (by have := O1.out.2.1.size; simp; try omega); have O2 := Lib.hid (And.intro o2 hb2); have R2 := Lib.hid (T2.out.below hb2.1); clear o2 g2 b2 hb2) | (refine step_append_sl (w := w1) rfl (.tmp 46) (.tmp 48) 105 rfl 27 i0 _ 1 8 Try.underlying105 I.out.1 I.out.2.1 I.out.2.2.1 I.out.2.2.2 rfl (by decide) v1 (0 + i) ([] ++ natsU (out.take i)) rfl (by exact O1.out.1) _ 1 (natsU [l]) rfl (by exact RB.out) (natsU_one _) (by unfold maxLen; omega) (by omega) ?_; intro v2 w2 o2 g2 b2; have hb2 := own_chain O1.out.2 (Below.refl _ _) g2 b2 (by have := O1.out.2.1.size; simp; try omega); have O2 := Lib.hid (And.intro o2 hb2); have R2 := Lib.hid (T2.out.below hb2.1); clear o2 g2 b2 hb2) | (refine step_append_sl (w := w2) rfl (.tmp 49) (.tmp 52) 105 rfl 27 i0 _ 1 8 Try.underlying105 I.out.1 I.out.2.1 I.out.2.2.1 I.out.2.2.2 rfl (by decide) v2 (0 + i + 1) ([] ++ natsU (out.take i) ++ natsU [l]) rfl (by exact O2.out.1) _ (m - i) (natsU (out.drop i)) rfl (by exact R2.out) (natsU_one _) (by unfold maxLen; omega) (by omega) ?_; intro v3 w3 o3 g3 b3; have hb3 := own_chain O2.out.2 (Below.refl _ _) g3 b3 (by have := O2.out.2.1.size; omega); have O3 := Lib.hid (And.intro o3 hb3); clear o3 g3 b3 hb3))
              all_goals go_wp2_with fail
              all_goals go_roundw
              all_goals first | (exact ⟨k + 1, by omega, by go_num, HST2.out _ _ (lines_end (by have := HM.out; omega) (by rw [HM.out]; exact O3.out.1)) O3.out.2⟩) | (simp [intOf]; omega)
          · have him' : ¬ (i : Int) < m := by omega
            obtain rfl : i = m := by omega
            have hnone : out[i]? = none := List.getElem?_eq_none (by rw [HM.out]; omega)
            have HST2 := Lib.hid (fun v3 w3 => HST.out v3 w3 i rfl (by rw [hnone]; simp))
            have t1 : RdSl wo 1 (.slice oa i oc) i (natsU (out.take i)) := by have := RD.out.takeG i (by omega); rw [Nat.mul_one, natsU_take] at this; exact this
            have t2 : RdSl wo 1 (.slice (if oc = i then oa else oa.map (·.add i)) (i - i) (oc - i)) (i - i) (natsU (out.drop i)) := by have := RD.out.dropG i (by omega); rw [natsU_drop, Nat.mul_one] at this; exact this
            rw [Nat.sub_self] at t2
            have hic : (i : Int) ≤ oc := by omega
            clear hnone HSK RD A LOW
            by_cases hci : oc = i
            · rw [if_pos hci] at t2
              obtain rfl : i = oc := hci.symm
              rw [Nat.sub_self] at t2
              have T1 := Lib.hid t1; have T2 := Lib.hid t2; clear t1 t2 hci
              go_wp2_with fail
              go_region_held3 (fun _ => True) (trivial) (first | (refine step_append_sl (w := (wo.alloc (.cells #[] 27)).drew) rfl (.tmp 42) (.tmp 45) 105 rfl 27 i0 _ 1 8 Try.underlying105 I.out.1 I.out.2.1 I.out.2.2.1 I.out.2.2.2 rfl (by decide) (.slice (some ⟨wo.heap.size, 0, none⟩) 0 0) 0 [] rfl (by exact (OwnSl.new wo #[] 27 1 0 0 rfl (Nat.le_refl _) (Nat.zero_le _)).drew) _ i (natsU (out.take i)) rfl (by exact (T1.out.alloc _).drew) (natsU_one _) (by unfold maxLen; omega) (by omega) ?_; intro v1 w1 o1 g1 b1; have hb1 := own_chain (v1 := .slice (some ⟨wo.heap.size, 0, none⟩) 0 0) ⟨below_alloc wo (.cells #[] 27), fun g hg => by cases hg; exact Nat.le_refl _⟩ ((Below.refl _ _).drew) g1 b1 (sz1 wo _); have O1 := Lib.hid (And.intro o1 hb1); clear o1 g1 b1 hb1) | (refine step_append_sl (w := ((wo.alloc (.cells #[] 27)).alloc (.cells #[.int .u64 (l : Int)] 27)).drew) rfl (.tmp 42) (.tmp 45) 105 rfl 27 i0 _ 1 8 Try.underlying105 I.out.1 I.out.2.1 I.out.2.2.1 I.out.2.2.2 rfl (by decide) (.slice (some ⟨wo.heap.size, 0, none⟩) 0 0) 0 [] rfl (by exact ((OwnSl.new wo #[] 27 1 0 0 rfl (Nat.le_refl _) (Nat.zero_le _)).alloc _).drew) _ i (natsU (out.take i)) rfl (by exact ((T1.out.alloc _).alloc _).drew) (natsU_one _) (by unfold maxLen; omega) (by omega) ?_; intro v1 w1 o1 g1 b1; have hb1 := own_chain (v1 := .slice (some ⟨wo.heap.size, 0, none⟩) 0 0) ⟨below_twice wo (.cells #[] 27) (.cells #[.int .u64 (l : Int)] 27), fun g hg => by cases hg; exact Nat.le_refl _⟩ ((Below.refl _ _).drew) g1 b1 (sz2 wo _ _); have RB := Lib.hid (rd_newer (l := l) ((RdSl.newAt (wo.alloc (.cells #[] 27)) #[.int .u64 (l : Int)] 27 1 1 (wo.heap.size + 1) (by simp) rfl).drew) g1 (lt2 wo _ _) (ob_ne (by omega))); have O1 := Lib.hid (And.intro o1 hb1); clear o1 g1 b1 hb1) | (refine step_append_sl (w := ((wo.alloc (.cells #[.int .u64 (l : Int)] 27)).alloc (.cells #[] 27)).drew) rfl (.tmp 42) (.tmp 45) 105 rfl 27 i0 _ 1 8 Try.underlying105 I.out.1 I.out.2.1 I.out.2.2.1 I.out.2.2.2 rfl (by decide) (.slice (some ⟨wo.heap.size + 1, 0, none⟩) 0 0) 0 [] rfl (by exact (ownNewAt (wo.alloc (.cells #[.int .u64 (l : Int)] 27)) #[] 27 1 0 0 (wo.heap.size + 1) (by simp) rfl (Nat.le_refl _) (Nat.zero_le _)).drew) _ i (natsU (out.take i)) rfl (by exact ((T1.out.alloc _).alloc _).drew) (natsU_one _) (by unfold maxLen; omega) (by omega) ?_; intro v1 w1 o1 g1 b1; have hb1 := own_chain (v1 := .slice (some ⟨wo.heap.size + 1, 0, none⟩) 0 0) ⟨below_twice wo (.cells #[.int .u64 (l : Int)] 27) (.cells #[] 27), fun g hg => by cases hg; exact Nat.le_succ _⟩ ((Below.refl _ _).drew) g1 b1 (sz2 wo _ _); have RB := Lib.hid (rd_newer (l := l) (((RdSl.newAt wo #[.int .u64 (l : Int)] 27 1 1 wo.heap.size rfl rfl).alloc (.cells #[] 27)).drew) g1 (lt2' wo _ _) (ob_ne (by omega))); have O1 := Lib.hid (And.intro o1 hb1); clear o1 g1 b1 hb1) | (refine step_append_sl (w := w1.alloc (.cells #[.int .u64 (l : Int)] 27)) rfl (.tmp 46) (.tmp 48) 105 rfl 27 i0 _ 1 8 Try.underlying105 I.out.1 I.out.2.1 I.out.2.2.1 I.out.2.2.2 rfl (by decide) v1 (0 + i) ([] ++ natsU (out.take i)) rfl (by exact O1.out.1.alloc _) _ 1 (natsU [l]) rfl (by exact RdSl.newAt w1 #[.int .u64 (l : Int)] 27 1 1 _ rfl rfl) (natsU_one _) (by unfold maxLen; omega) (by omega) ?_; intro v2 w2 o2 g2 b2; have hb2 := own_chain O1.out.2 (below_alloc w1 _) g2 b2 (by have := O1.out.2.1.size; simp; try omega); have O2 := Lib.hid (And.intro o2 hb2); have R2 := Lib.hid (T2.out.below hb2.1); clear o2 g2 b2 hb2) | (refine step_append_sl (w := w1) rfl (.tmp 46) (.tmp 48) 105 rfl 27 i0 _ 1 8 Try.underlying105 I.out.1 I.out.2.1 I.out.2.2.1 I.out.2.2.2 rfl (by decide) v1 (0 + i) ([] ++ natsU (out.take i)) rfl (by exact O1.out.1) _ 1 (natsU [l]) rfl (by exact RB.out) (natsU_one _) (by unfold maxLen; omega) (by omega) ?_; intro v2 w2 o2 g2 b2; have hb2 := own_chain O1.out.2 (Below.refl _ _) g2 b2 (by have := O1.out.2.1.size; simp; try omega); have O2 := Lib.hid (And.intro o2 hb2); have R2 := Lib.hid (T2.out.below hb2.1); clear o2 g2 b2 hb2) | (refine step_append_sl (w := w2) rfl (.tmp 49) (.tmp 52) 105 rfl 27 i0 _ 1 8 Try.underlying105 I.out.1 I.out.2.1 I.out.2.2.1 I.out.2.2.2 rfl (by decide) v2 (0 + i + 1) ([] ++ natsU (out.take i) ++ natsU [l]) rfl (by exact O2.out.1) _ 0 (natsU (out.drop i)) rfl (by exact R2.out) (natsU_one _) (by unfold maxLen; omega) (by omega) ?_; intro v3 w3 o3 g3 b3; have hb3 := own_chain O2.out.2 (Below.refl _ _) g3 b3 (by have := O2.out.2.1.size; omega); have O3 := Lib.hid (And.intro o3 hb3); clear o3 g3 b3 hb3))
              all_goals go_wp2_with fail
              all_goals go_roundw
              all_goals first | (exact ⟨k + 1, by omega, by go_num, HST2.out _ _ (lines_end (by have := HM.out; omega) (by rw [HM.out, Nat.sub_self]; exact O3.out.1)) O3.out.2⟩) | (simp [intOf]; omega)
            · rw [if_neg hci] at t2
              have hci' : ¬ (oc : Int) = (i : Int) := by omega
              have T1 := Lib.hid t1; have T2 := Lib.hid t2; clear t1 t2
              go_wp2_with fail
              go_region_held3 (fun _ => True) (trivial) (first | (refine step_append_sl (w := (wo.alloc (.cells #[] 27)).drew) rfl (.tmp 42) (.tmp 45) 105 rfl 27 i0 _ 1 8 Try.underlying105 I.out.1 I.out.2.1 I.out.2.2.1 I.out.2.2.2 rfl (by decide) (.slice (some ⟨wo.heap.size, 0, none⟩) 0 0) 0 [] rfl (by exact (OwnSl.new wo #[] 27 1 0 0 rfl (Nat.le_refl _) (Nat.zero_le _)).drew) _ i (natsU (out.take i)) rfl (by exact (T1.out.alloc _).drew) (natsU_one _) (by unfold maxLen; omega) (by omega) ?_; intro v1 w1 o1 g1 b1; have hb1 := own_chain (v1 := .slice (some ⟨wo.heap.size, 0, none⟩) 0 0) ⟨below_alloc wo (.cells #[] 27), fun g hg => by cases hg; exact Nat.le_refl _⟩ ((Below.refl _ _).drew) g1 b1 (sz1 wo _); have O1 := Lib.hid (And.intro o1 hb1); clear o1 g1 b1 hb1) | (refine step_append_sl (w := ((wo.alloc (.cells #[] 27)).alloc (.cells #[.int .u64 (l : Int)] 27)).drew) rfl (.tmp 42) (.tmp 45) 105 rfl 27 i0 _ 1 8 Try.underlying105 I.out.1 I.out.2.1 I.out.2.2.1 I.out.2.2.2 rfl (by decide) (.slice (some ⟨wo.heap.size, 0, none⟩) 0 0) 0 [] rfl (by exact ((OwnSl.new wo #[] 27 1 0 0 rfl (Nat.le_refl _) (Nat.zero_le _)).alloc _).drew) _ i (natsU (out.take i)) rfl (by exact ((T1.out.alloc _).alloc _).drew) (natsU_one _) (by unfold maxLen; omega) (by omega) ?_; intro v1 w1 o1 g1 b1; have hb1 := own_chain (v1 := .slice (some ⟨wo.heap.size, 0, none⟩) 0 0) ⟨below_twice wo (.cells #[] 27) (.cells #[.int .u64 (l : Int)] 27), fun g hg => by cases hg; exact Nat.le_refl _⟩ ((Below.refl _ _).drew) g1 b1 (sz2 wo _ _); have RB := Lib.hid (rd_newer (l := l) ((RdSl.newAt (wo.alloc (.cells #[] 27)) #[.int .u64 (l : Int)] 27 1 1 (wo.heap.size + 1) (by simp) rfl).drew) g1 (lt2 wo _ _) (ob_ne (by omega))); have O1 := Lib.hid (And.intro o1 hb1); clear o1 g1 b1 hb1) | (refine step_append_sl (w := ((wo.alloc (.cells #[.int .u64 (l : Int)] 27)).alloc (.cells #[] 27)).drew) rfl (.tmp 42) (.tmp 45) 105 rfl 27 i0 _ 1 8 Try.underlying105 I.out.1 I.out.2.1 I.out.2.2.1 I.out.2.2.2 rfl (by decide) (.slice (some ⟨wo.heap.size + 1, 0, none⟩) 0 0) 0 [] rfl (by exact (ownNewAt (wo.alloc (.cells #[.int .u64 (l : Int)] 27)) #[] 27 1 0 0 (wo.heap.size + 1) (by simp) rfl (Nat.le_refl _) (Nat.zero_le _)).drew) _ i (natsU (out.take i)) rfl (by exact ((T1.out.alloc _).alloc _).drew) (natsU_one _) (by unfold maxLen; omega) (by omega) ?_; intro v1 w1 o1 g1 b1; have hb1 := own_chain (v1 := .slice (some ⟨wo.heap.size + 1, 0, none⟩) 0 0) ⟨below_twice wo (.cells #[.int .u64 (l : Int)] 27) (.cells #[] 27), fun g hg => by cases hg; exact Nat.le_succ _⟩ ((Below.refl _ _).drew) g1 b1 (sz2 wo _ _); have RB := Lib.hid (rd_newer (l := l) (((RdSl.newAt wo #[.int .u64 (l : Int)] 27 1 1 wo.heap.size rfl rfl).alloc (.cells #[] 27)).drew) g1 (lt2' wo _ _) (ob_ne (by omega))); have O1 := Lib.hid (And.intro o1 hb1); clear o1 g1 b1 hb1) | (refine step_append_sl (w := w1.alloc (.cells #[.int .u64 (l : Int)] 27)) rfl (.tmp 46) (.tmp 48) 105 rfl 27 i0 _ 1 8 Try.underlying105 I.out.1 I.out.2.1 I.out.2.2.1 I.out.2.2.2 rfl (by decide) v1 (0 + i) ([] ++ natsU (out.take i)) rfl (by exact O1.out.1.alloc _) _ 1 (natsU [l]) rfl (by exact RdSl.newAt w1 #[.int .u64 (l : Int)] 27 1 1 _ rfl rfl) (natsU_one _) (by unfold maxLen; omega) (by omega) ?_; intro v2 w2 o2 g2 b2; have hb2 := own_chain O1.out.2 (below_alloc w1 _) g2 b2 (by have := O1.out.2.1.size; simp; try omega); have O2 := Lib.hid (And.intro o2 hb2); have R2 := Lib.hid (T2.out.below hb2.1); clear o2 g2 b2 hb2) | (refine step_append_sl (w := w1) rfl (.tmp 46) (.tmp 48) 105 rfl 27 i0 _ 1 8 Try.underlying105 I.out.1 I.out.2.1 I.out.2.2.1 I.out.2.2.2 rfl (by decide) v1 (0 + i) ([] ++ natsU (out.take i)) rfl (by exact O1.out.1) _ 1 (natsU [l]) rfl (by exact RB.out) (natsU_one _) (by unfold maxLen; omega) (by omega) ?_; intro v2 w2 o2 g2 b2; have hb2 := own_chain O1.out.2 (Below.refl _ _) g2 b2 (by have := O1.out.2.1.size; simp; try omega); have O2 := Lib.hid (And.intro o2 hb2); have R2 := Lib.hid (T2.out.below hb2.1); clear o2 g2 b2 hb2) | (refine step_append_sl (w := w2) rfl (.tmp 49) (.tmp 52) 105 rfl 27 i0 _ 1 8 Try.underlying105 I.out.1 I.out.2.1 I.out.2.2.1 I.out.2.2.2 rfl (by decide) v2 (0 + i + 1) ([] ++ natsU (out.take i) ++ natsU [l]) rfl (by exact O2.out.1) _ 0 (natsU (out.drop i)) rfl (by exact R2.out) (natsU_one _) (by unfold maxLen; omega) (by omega) ?_; intro v3 w3 o3 g3 b3; have hb3 := own_chain O2.out.2 (Below.refl _ _) g3 b3 (by have := O2.out.2.1.size; omega); have O3 := Lib.hid (And.intro o3 hb3); clear o3 g3 b3 hb3))
              all_goals go_wp2_with fail
              all_goals go_roundw
              all_goals first | (exact ⟨k + 1, by omega, by go_num, HST2.out _ _ (lines_end (by have := HM.out; omega) (by rw [HM.out, Nat.sub_self]; exact O3.out.1)) O3.out.2⟩) | (simp [intOf]; omega)
    · obtain rfl : k = n := by omega
      have HF : Hid (offs.take k = offs) := List.take_of_length_le (by rw [HN.out]; omega)
      have A2 := Lib.hid (A.out.acc.congr (show (linesL (offs.take k)).length = (linesL offs).length by rw [HF.out]) (show natsU (linesL (offs.take k)) = natsU (linesL offs) by rw [HF.out]))
      clear A
      go_wp2_with fail
      go_ret
      exact ⟨_, rfl, A2.out⟩
end
end Go.Proofs.Ytpkilmnppdbnkaa
