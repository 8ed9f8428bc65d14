/- The reference's Flushes and Stores. -/
import Derived.Test.YtpkilmnppdbnkaaR10
namespace Go.Proofs.Ytpkilmnppdbnkaa
open Go.RowKit

section
variable {w : World}
def flC (l : List Nat) : List (Nat × Nat × Int) := l.map fun x => (2, 64 * x, 0)
theorem flC_snoc (l : List Nat) (x : Nat) : flC (l ++ [x]) = flC l ++ [(2, 64 * x, 0)] := by simp [flC]
set_option maxRecDepth 100000 in
set_option maxHeartbeats 4000000 in
theorem r10Flushes_any (sv : Value) (offs : List Nat) (h : RdSl w 1 sv offs.length (natsU offs)) (hl : offs.length ≤ 100000) (hb : ∀ o ∈ offs, o < 18446744073709551616) :
    Calls Try.prog 59 #[sv] w fun r w' => ∃ ov, r = .returned ov ∧ Acc w w.heap.size w' 121 3 ov (flushL offs).length (instrC (flushL offs)) := by
  have HL := Lib.hid (r10Lines_any sv offs h hl hb)
  have hbd := linesL_bd offs 288230376151711744 (fun o ho => by have := hb o ho; omega)
  have hln := linesL_len offs
  obtain ⟨_, sa, sc, rfl, hsc, _⟩ := h
  clear hb
  obtain ⟨k0, hi0, hz0, hz1, hz2⟩ := info_parts infoRI
  have I2 := Lib.hid (And.intro hi0 (And.intro hz0 (And.intro hz1 hz2))); clear hi0 hz0 hz1 hz2
  have HFL : Hid (flushL offs = if linesL offs = [] then [] else flC (linesL offs) ++ [(3, 0, 0)]) := rfl
  generalize linesL offs = L at *
  have HBD := Lib.hid hbd; clear hbd
  generalize hn : L.length = n at *
  have HN := Lib.hid hn; clear hn
  go_enter Try.func59, Try.ntmps59
  go_wp2_with fail
  (with_reducible refine HL.out.mono ?_)
  rintro e w1 ⟨lv, rfl, a1⟩
  obtain ⟨la, lc, hlv⟩ := a1.slice
  subst hlv
  have B1 := Lib.hid a1.bel; have R1 := Lib.hid a1.rd; clear a1 HL
  go_wp2_with fail
  go_loopw [3, 9] (fun ov y wr => ∃ k : Nat, k ≤ n ∧ y = .int .i64 k ∧ Acc w1 w1.heap.size wr 121 3 ov k (instrC (flC (L.take k)))) (fun _ y _ => n - (intOf y).toNat)
  case atStart => exact ⟨0, by omega, rfl, Acc.nil w1 _ _ _ _ (Below.refl _ _) (Nat.le_refl _)⟩
  case round =>
    obtain ⟨k, hk, rfl, ha⟩ := hrel
    obtain ⟨oa, oc, hov⟩ := ha.slice
    subst hov
    have A := Lib.hid ha; clear ha
    by_cases hlt2 : k < n
    · have hk' : (k : Int) < n := by omega
      obtain ⟨x, hx⟩ : ∃ x, L[k]? = some x := ⟨_, List.getElem?_eq_getElem (by rw [HN.out]; exact hlt2)⟩
      have hxb := HBD.out x (List.mem_of_getElem? hx)
      obtain ⟨_, a', c', e', _, hE⟩ := R1.out.below A.out.bel
      cases e'
      obtain ⟨eb, eo, rfl, hE2⟩ := rd_at hE (natsU_get hx)
      have c1 := hE2 _ _ (natsU_get hx)
      have HT := Lib.hid (take_snoc_at L k x hx)
      have HC : Hid ((64 : Int) * (x : Int) = ((64 * x : Nat) : Int)) := by show (64 : Int) * (x : Int) = ((64 * x : Nat) : Int); omega
      clear hE hE2 hx
      go_wp2_with (at_builtin; refine wpList_append_sl _ rfl _ _ 67 rfl 121 k0 _ 3 24 Try.underlying67 I2.out.1 I2.out.2.1 I2.out.2.2.1 I2.out.2.2.2 rfl (by decide) _ k (instrC (flC (L.take k))) rfl (by exact A.out.own.alloc _) _ 1 [.int .u8 2, .int .u64 (64 * (x : Int)), .int .u64 0] rfl (by exact RdSl.newAt _ _ _ 3 1 _ (by simp) rfl) (by simp [Value.oneCell']) (by unfold maxLen; omega) (by omega) ?_)
      intro v1 w2 o1 g1 b1 n1
      have A1 := Lib.hid (A.out.next (below_alloc wr _) o1 g1 b1 (by omega)); clear o1 g1 b1 n1
      go_wp2_with fail
      go_roundw
      case rel => exact ⟨k + 1, by omega, by go_num, A1.out.congr rfl (by rw [HT.out, flC_snoc, instrC_append, HC.out]; rfl)⟩
      case measure => simp [intOf]; omega
    · obtain rfl : k = n := by omega
      have HF : Hid (L.take k = L) := List.take_of_length_le (by rw [HN.out]; omega)
      have A2 := Lib.hid A.out
      rw [HF.out] at A2
      clear A
      by_cases h0 : k = 0
      · have hL : L = [] := List.eq_nil_of_length_eq_zero (by rw [HN.out]; exact h0)
        have HL0 : Hid (flushL offs = []) := by show flushL offs = []; rw [HFL.out, if_pos hL]
        have hb0 : ((k : Int) == 0) = true := by simp; omega
        clear h0 hL
        go_wp2_with fail
        go_ret
        exact ⟨_, rfl, by rw [HL0.out]; exact Acc.nil w _ _ _ _ (B1.out.trans (A2.out.bel.mono B1.out.size)) (Nat.le_trans B1.out.size A2.out.lt)⟩
      · have HL0 : Hid (flushL offs = flC L ++ [(3, 0, 0)]) := by
          show flushL offs = flC L ++ [(3, 0, 0)]
          rw [HFL.out, if_neg (fun h => h0 (by rw [← HN.out, h]; rfl))]
        have hb0 : ((k : Int) == 0) = false := by simp; omega
        clear h0
        go_wp2_with (at_builtin; refine wpList_append_sl _ rfl _ _ 67 rfl 121 k0 _ 3 24 Try.underlying67 I2.out.1 I2.out.2.1 I2.out.2.2.1 I2.out.2.2.2 rfl (by decide) _ k (instrC (flC L)) rfl (by exact A2.out.own.alloc _) _ 1 (instrC [(3, 0, 0)]) rfl (by exact RdSl.newAt _ _ _ 3 1 _ (by simp) rfl) (instrC_one _) (by unfold maxLen; omega) (by omega) ?_)
        intro v1 w2 o1 g1 b1 n1
        have A1 := Lib.hid ((A2.out.next (below_alloc wr _) o1 g1 b1 (by omega)).deeper B1.out); clear o1 g1 b1 n1
        go_wp2_with fail
        go_ret
        exact ⟨_, rfl, by rw [HL0.out]; exact A1.out.congr (by simp [flC, HN.out]) (by rw [instrC_append])⟩
def stC (ws : List (Nat × Int)) : List (Nat × Nat × Int) := ws.map fun e => (1, e.1, e.2)
theorem stC_snoc (l : List (Nat × Int)) (e : Nat × Int) : stC (l ++ [e]) = stC l ++ [(1, e.1, e.2)] := by simp [stC]
theorem flushL_len (offs : List Nat) : (flushL offs).length ≤ offs.length + 1 := by
  have := linesL_len offs
  unfold flushL; split <;> simp; omega
theorem Acc.newer {w wr w1 : World} {B : Nat} {e : TypeId} {s n : Nat} {v : Value} {xs : List Value} (h : Acc w B wr e s v n xs) (hb : Below wr.heap.size wr w1) : Acc w B w1 e s v n xs := h.keep hb
set_option maxRecDepth 100000 in
set_option maxHeartbeats 4000000 in
theorem r10Stores_any (sv : Value) (ws : List (Nat × Int)) (h : RdSl w 2 sv ws.length (flat ws)) (hl : ws.length ≤ 100000) (hb : ∀ e ∈ ws, e.1 < 18446744073709551616) :
    Calls Try.prog 56 #[sv] w fun r w' => ∃ ov, r = .returned ov ∧ Acc w w.heap.size w' 121 3 ov (storesL ws).length (instrC (storesL ws)) := by
  have H := Lib.hid h
  have HB : Hid (∀ o ∈ ws.map (·.1), o < 18446744073709551616) := fun o ho => by
    obtain ⟨e, he, rfl⟩ := List.mem_map.1 ho; exact hb e he
  clear hb
  obtain ⟨_, sa, sc, rfl, hsc, _⟩ := h
  obtain ⟨k0, hi0, hz0, hz1, hz2⟩ := info_parts infoRI
  have I2 := Lib.hid (And.intro hi0 (And.intro hz0 (And.intro hz1 hz2))); clear hi0 hz0 hz1 hz2
  obtain ⟨i0, hi0, hz0, hz1, hz2⟩ := info_parts infoU64
  have I := Lib.hid (And.intro hi0 (And.intro hz0 (And.intro hz1 hz2))); clear hi0 hz0 hz1 hz2
  generalize hn : ws.length = n at *
  have HN := Lib.hid hn; clear hn
  go_enter Try.func56, Try.ntmps56
  go_wp2_with fail
  go_loopw [3, 4, 9] (fun ov fv y wr => ∃ k : Nat, k ≤ n ∧ y = .int .i64 k ∧ Pair w w.heap.size wr 121 3 ov k (instrC (stC (ws.take k))) 27 1 fv k (natsU ((ws.take k).map (·.1)))) (fun _ _ y _ => n - (intOf y).toNat)
  case atStart => exact ⟨0, by omega, rfl, ⟨Acc.nil w _ _ _ _ (Below.refl _ _) (Nat.le_refl _), Acc.nil w _ _ _ _ (Below.refl _ _) (Nat.le_refl _), fun g hg => by simp [Value.ownBlock] at hg⟩⟩
  case round =>
    obtain ⟨k, hk, rfl, ha⟩ := hrel
    obtain ⟨oa, oc, hov⟩ := ha.a.slice
    subst hov
    obtain ⟨fa, fc, hfv⟩ := ha.b.slice
    subst hfv
    have A := Lib.hid ha; clear ha
    by_cases hlt2 : k < n
    · have hk' : (k : Int) < n := by omega
      obtain ⟨e, he⟩ : ∃ e, ws[k]? = some e := ⟨_, List.getElem?_eq_getElem (by rw [HN.out]; exact hlt2)⟩
      obtain ⟨_, a', c', e', _, hE⟩ := H.out.below A.out.a.bel
      cases e'
      have hg := flat_get' ws k e he
      obtain ⟨eb, eo, rfl, hE2⟩ := rd_at hE hg.1
      have c1 := hE2 _ _ hg.1; have c2 := hE2 _ _ hg.2
      rw [← Nat.add_assoc] at c2
      have HT := Lib.hid (take_snoc_get ws k e he)
      clear hE hE2 he hg
      obtain ⟨e1, e2⟩ := e
      simp only at c1 c2
      have hne : (Value.slice oa k oc).ownBlock ≠ some wr.heap.size := fun hh => by have := A.out.a.own.lt _ hh; omega
      have HNE := Lib.hid hne; clear hne
      go_wp2_with (at_builtin; refine wpList_append_sl _ rfl _ _ 67 rfl 121 k0 _ 3 24 Try.underlying67 I2.out.1 I2.out.2.1 I2.out.2.2.1 I2.out.2.2.2 rfl (by decide) _ k (instrC (stC (ws.take k))) rfl (by exact (A.out.a.own.alloc _).alloc _) _ 1 (instrC [(1, e1, e2)]) rfl (by exact RdSl.newAt _ _ _ 3 1 _ (by simp) rfl) (instrC_one _) (by unfold maxLen; omega) (by omega) ?_)
      intro v1 w1 o1 g1 b1 n1
      have d1 : w1.cell? ⟨wr.heap.size, 0, none⟩ = some (.int .u64 (e1 : Int)) := (kept_cell (below_alloc _ _) g1 (by simp) HNE.out 0).trans ((Blk.new wr _ _).cell rfl)
      have P1 := Lib.hid (A.out.left (below_twice wr _ _) o1 g1 b1 (by omega)); clear o1 g1 b1 n1
      obtain ⟨va, vc, hv1⟩ := P1.out.a.slice
      subst hv1
      go_wp2_with (at_builtin; refine wpList_append_sl _ rfl _ _ 105 rfl 27 i0 _ 1 8 Try.underlying105 I.out.1 I.out.2.1 I.out.2.2.1 I.out.2.2.2 rfl (by decide) _ k (natsU ((ws.take k).map (·.1))) rfl (by exact P1.out.b.own.alloc _) _ 1 (natsU [e1]) rfl (by exact RdSl.newAt _ _ _ 1 1 _ (by simp) rfl) (natsU_one _) (by unfold maxLen; omega) (by omega) ?_)
      intro v2 w2 o2 g2 b2 n2
      have o2' : OwnSl w2 27 1 v2 (k + 1) (natsU ((ws.take k).map (·.1)) ++ natsU [e1]) := by rw [List.map_take]; exact o2
      have P2 := Lib.hid ((P1.out.swap.left (below_alloc w1 _) o2' g2 b2 (by omega)).swap); clear o2 o2' g2 b2 n2
      go_wp2_with fail
      go_roundw
      case rel => exact ⟨k + 1, by omega, by go_num, by rw [HT.out, stC_snoc, instrC_append, List.map_append, show natsU ((ws.take k).map (·.1) ++ [(e1, e2)].map (·.1)) = natsU ((ws.take k).map (·.1)) ++ natsU [e1] by simp [natsU]]; exact P2.out⟩
      case measure => simp [intOf]; omega
    · obtain rfl : k = n := by omega
      have hF : ws.take k = ws := List.take_of_length_le (by rw [HN.out]; omega)
      rw [hF] at A
      clear hF
      have hml : (ws.map (·.1)).length = k := by rw [List.length_map, HN.out]
      have HFL := Lib.hid (r10Flushes_any (w := wr) (.slice fa k fc) (ws.map (·.1)) (by rw [hml]; exact A.out.b.rd) (by omega) HB.out)
      have hfl := flushL_len (ws.map (·.1))
      rw [hml] at hfl
      have HST : Hid (storesL ws = stC ws ++ flushL (ws.map (·.1))) := rfl
      generalize flushL (ws.map (·.1)) = F at *
      clear hml
      go_wp2_with fail
      (with_reducible refine HFL.out.mono ?_)
      rintro e w5 ⟨rv, rfl, a5⟩
      have A5 := Lib.hid a5
      obtain ⟨ra, rc, hrv⟩ := a5.slice
      subst hrv
      have O5 := Lib.hid (A.out.a.keep a5.bel)
      clear a5 HFL
      go_wp2_with (at_builtin; refine wpList_append_sl _ rfl _ _ 67 rfl 121 k0 _ 3 24 Try.underlying67 I2.out.1 I2.out.2.1 I2.out.2.2.1 I2.out.2.2.2 rfl (by decide) _ k (instrC (stC ws)) rfl (by exact O5.out.own) _ F.length (instrC F) rfl (by exact A5.out.rd) (instrC_one _) (by unfold maxLen; omega) (by omega) ?_)
      intro v6 w6 o6 g6 b6 n6
      have A6 := Lib.hid (O5.out.next (Below.refl _ _) o6 g6 b6 (by omega)); clear o6 g6 b6 n6
      go_wp2_with fail
      go_ret
      exact ⟨_, rfl, by rw [HST.out]; exact A6.out.congr (by simp [stC, HN.out]) (by rw [instrC_append])⟩
end
end Go.Proofs.Ytpkilmnppdbnkaa
