/- The reference's Flushes and Stores. -/
import Derived.Test.YtkoijmoendepgaaGreatJ8
import Derived.Test.YtkoijmoendepgaaGreatJ7
import Derived.Test.YtkoijmoendepgaaGreatJ6
import Derived.Test.YtkoijmoendepgaaGreatJ2
import Derived.WalkKit
import Derived.ProofKit
import Derived.OpenShut
import Derived.Test.YtkoijmoendepgaaGreatJ4
import Derived.Lib.SmallJoins
import Derived.Deep.Fields
namespace Go.Proofs.YtkoijmoendepgaaGreat
open Go.RowKit

section
variable {w : World}
def flC (l : List Nat) : List (Nat × Nat × Int) := l.map fun x => (2, 64 * x, 0)
theorem flC_snoc (l : List Nat) (x : Nat) : flC (l ++ [x]) = flC l ++ [(2, 64 * x, 0)] := by simp [flC]
set_option maxRecDepth 100000 in
set_option maxHeartbeats 4000000 in
theorem r10Flushes_any (sv : Value) (offs : List Nat) (h : RdSl w 1 sv offs.length (natsU offs)) (hl : offs.length ≤ 100000) (hb : ∀ o ∈ offs, o < 18446744073709551616) :
    Calls Tryz.prog 107 #[sv] w fun r w' => ∃ ov, r = .returned ov ∧ Acc w w.heap.size w' 148 3 ov (flushL offs).length (instrC (flushL offs)) := by
  have HL := Lib.hid (r10Lines_any sv offs h hl hb)
  have hbd := linesL_bd offs 288230376151711744 (fun o ho => by have := hb o ho; omega)
  have hln := linesL_len offs
  obtain ⟨_, sa, sc, rfl, hsc, _⟩ := h
  clear hb
  obtain ⟨k0, hi0, hz0, hz1, hz2⟩ := info_parts infoRI
  have I2 := Lib.hid (And.intro hi0 (And.intro hz0 (And.intro hz1 hz2))); clear hi0 hz0 hz1 hz2
  have HFL : Hid (flushL offs = if linesL offs = [] then [] else flC (linesL offs) ++ [(3, 0, 0)]) := rfl
  generalize linesL offs = L at *
  have HBD := Lib.hid hbd; clear hbd
  generalize hn : L.length = n at *
  have HN := Lib.hid hn; clear hn
  go_enter Tryz.func107, Tryz.ntmps107
  go_wp2_with fail
  (with_reducible refine HL.out.mono ?_)
  rintro e w1 ⟨lv, rfl, a1⟩
  obtain ⟨la, lc, hlv⟩ := a1.slice
  subst hlv
  have B1 := Lib.hid a1.bel; have R1 := Lib.hid a1.rd; clear a1 HL
  go_wp2_with fail
  go_loopw [3, 9] (fun ov y wr => ∃ k : Nat, k ≤ n ∧ y = .int .i64 k ∧ Acc w1 w1.heap.size wr 148 3 ov k (instrC (flC (L.take k)))) (fun _ y _ => n - (intOf y).toNat)
  case atStart => exact ⟨0, by omega, rfl, Acc.nil w1 _ _ _ _ (Below.refl _ _) (Nat.le_refl _)⟩
  case round =>
    obtain ⟨k, hk, rfl, ha⟩ := hrel
    obtain ⟨oa, oc, hov⟩ := ha.slice
    subst hov
    have A := Lib.hid ha; clear ha
    by_cases hlt2 : k < n
    · have hk' : (k : Int) < n := by omega
      obtain ⟨x, hx⟩ : ∃ x, L[k]? = some x := ⟨_, List.getElem?_eq_getElem (by rw [HN.out]; exact hlt2)⟩
      have hxb := HBD.out x (List.mem_of_getElem? hx)
      obtain ⟨_, a', c', e', _, hE⟩ := R1.out.below A.out.bel
      cases e'
      obtain ⟨eb, eo, rfl, hE2⟩ := rd_at hE (natsU_get hx)
      have c1 := hE2 _ _ (natsU_get hx)
      have HT := Lib.hid (take_snoc_at L k x hx)
      have HC : Hid ((64 : Int) * (x : Int) = ((64 * x : Nat) : Int)) := by show (64 : Int) * (x : Int) = ((64 * x : Nat) : Int); omega
      clear hE hE2 hx
      go_wp2_with (at_builtin; refine wpList_append_sl _ rfl _ _ 68 rfl 148 k0 _ 3 24 Tryz.underlying68 I2.out.1 I2.out.2.1 I2.out.2.2.1 I2.out.2.2.2 rfl (by decide) _ k (instrC (flC (L.take k))) rfl (by exact A.out.own.alloc _) _ 1 [.int .u8 2, .int .u64 (64 * (x : Int)), .int .u64 0] rfl (by exact RdSl.newAt _ _ _ 3 1 _ (by simp) rfl) (by simp [Value.oneCell']) (by unfold maxLen; omega) (by omega) ?_)
      intro v1 w2 o1 g1 b1 n1
      have A1 := Lib.hid (A.out.next (below_alloc wr _) o1 g1 b1 (by omega)); clear o1 g1 b1 n1
      go_wp2_with fail
      go_roundw
      case rel => exact ⟨k + 1, by omega, by go_num, A1.out.congr rfl (by rw [HT.out, flC_snoc, instrC_append, HC.out]; rfl)⟩
      case measure => simp [intOf]; omega
    · obtain rfl : k = n := by omega
      have HF : Hid (L.take k = L) := List.take_of_length_le (by rw [HN.out]; omega)
      have A2 := Lib.hid A.out
      rw [HF.out] at A2
      clear A
      by_cases h0 : k = 0
      · have hL : L = [] := List.eq_nil_of_length_eq_zero (by rw [HN.out]; exact h0)
        have HL0 : Hid (flushL offs = []) := by show flushL offs = []; rw [HFL.out, if_pos hL]
        have hb0 : ((k : Int) == 0) = true := by simp; omega
        clear h0 hL
        go_wp2_with fail
        go_ret
        exact ⟨_, rfl, by rw [HL0.out]; exact Acc.nil w _ _ _ _ (B1.out.trans (A2.out.bel.mono B1.out.size)) (Nat.le_trans B1.out.size A2.out.lt)⟩
      · have HL0 : Hid (flushL offs = flC L ++ [(3, 0, 0)]) := by
          show flushL offs = flC L ++ [(3, 0, 0)]
          rw [HFL.out, if_neg (fun h => h0 (by rw [← HN.out, h]; rfl))]
        have hb0 : ((k : Int) == 0) = false := by simp; omega
        clear h0
        go_wp2_with (at_builtin; refine wpList_append_sl _ rfl _ _ 68 rfl 148 k0 _ 3 24 Tryz.underlying68 I2.out.1 I2.out.2.1 I2.out.2.2.1 I2.out.2.2.2 rfl (by decide) _ k (instrC (flC L)) rfl (by exact A2.out.own.alloc _) _ 1 (instrC [(3, 0, 0)]) rfl (by exact RdSl.newAt _ _ _ 3 1 _ (by simp) rfl) (instrC_one _) (by unfold maxLen; omega) (by omega) ?_)
        intro v1 w2 o1 g1 b1 n1
        have A1 := Lib.hid ((A2.out.next (below_alloc wr _) o1 g1 b1 (by omega)).deeper B1.out); clear o1 g1 b1 n1
        go_wp2_with fail
        go_ret
        exact ⟨_, rfl, by rw [HL0.out]; exact A1.out.congr (by simp [flC, HN.out]) (by rw [instrC_append])⟩
def stC (ws : List (Nat × Int)) : List (Nat × Nat × Int) := ws.map fun e => (1, e.1, e.2)
theorem stC_snoc (l : List (Nat × Int)) (e : Nat × Int) : stC (l ++ [e]) = stC l ++ [(1, e.1, e.2)] := by simp [stC]
theorem flushL_len (offs : List Nat) : (flushL offs).length ≤ offs.length + 1 := by
  have := linesL_len offs
  unfold flushL; split <;> simp; omega
theorem Acc.newer {w wr w1 : World} {B : Nat} {e : TypeId} {s n : Nat} {v : Value} {xs : List Value} (h : Acc w B wr e s v n xs) (hb : Below wr.heap.size wr w1) : Acc w B w1 e s v n xs := h.keep hb
set_option maxRecDepth 100000 in
set_option maxHeartbeats 4000000 in
theorem r10Stores_any (sv : Value) (ws : List (Nat × Int)) (h : RdSl w 2 sv ws.length (flat ws)) (hl : ws.length ≤ 100000) (hb : ∀ e ∈ ws, e.1 < 18446744073709551616) :
    Calls Tryz.prog 79 #[sv] w fun r w' => ∃ ov, r = .returned ov ∧ Acc w w.heap.size w' 148 3 ov (storesL ws).length (instrC (storesL ws)) := by
  have H := Lib.hid h
  have HB : Hid (∀ o ∈ ws.map (·.1), o < 18446744073709551616) := fun o ho => by
    obtain ⟨e, he, rfl⟩ := List.mem_map.1 ho; exact hb e he
  clear hb
  obtain ⟨_, sa, sc, rfl, hsc, _⟩ := h
  obtain ⟨k0, hi0, hz0, hz1, hz2⟩ := info_parts infoRI
  have I2 := Lib.hid (And.intro hi0 (And.intro hz0 (And.intro hz1 hz2))); clear hi0 hz0 hz1 hz2
  obtain ⟨i0, hi0, hz0, hz1, hz2⟩ := info_parts infoU64
  have I := Lib.hid (And.intro hi0 (And.intro hz0 (And.intro hz1 hz2))); clear hi0 hz0 hz1 hz2
  generalize hn : ws.length = n at *
  have HN := Lib.hid hn; clear hn
  go_enter Tryz.func79, Tryz.ntmps79
  go_wp2_with fail
  go_loopw [3, 4, 9] (fun ov fv y wr => ∃ k : Nat, k ≤ n ∧ y = .int .i64 k ∧ Pair w w.heap.size wr 148 3 ov k (instrC (stC (ws.take k))) 28 1 fv k (natsU ((ws.take k).map (·.1)))) (fun _ _ y _ => n - (intOf y).toNat)
  case atStart => exact ⟨0, by omega, rfl, ⟨Acc.nil w _ _ _ _ (Below.refl _ _) (Nat.le_refl _), Acc.nil w _ _ _ _ (Below.refl _ _) (Nat.le_refl _), fun g hg => by simp [Value.ownBlock] at hg⟩⟩
  case round =>
    obtain ⟨k, hk, rfl, ha⟩ := hrel
    obtain ⟨oa, oc, hov⟩ := ha.a.slice
    subst hov
    obtain ⟨fa, fc, hfv⟩ := ha.b.slice
    subst hfv
    have A := Lib.hid ha; clear ha
    by_cases hlt2 : k < n
    · have hk' : (k : Int) < n := by omega
      obtain ⟨e, he⟩ : ∃ e, ws[k]? = some e := ⟨_, List.getElem?_eq_getElem (by rw [HN.out]; exact hlt2)⟩
      obtain ⟨_, a', c', e', _, hE⟩ := H.out.below A.out.a.bel
      cases e'
      have hg := flat_get' ws k e he
      obtain ⟨eb, eo, rfl, hE2⟩ := rd_at hE hg.1
      have c1 := hE2 _ _ hg.1; have c2 := hE2 _ _ hg.2
      rw [← Nat.add_assoc] at c2
      have HT := Lib.hid (take_snoc_get ws k e he)
      clear hE hE2 he hg
      obtain ⟨e1, e2⟩ := e
      simp only at c1 c2
      have hne : (Value.slice oa k oc).ownBlock ≠ some wr.heap.size := fun hh => by have := A.out.a.own.lt _ hh; omega
      have HNE := Lib.hid hne; clear hne
      go_wp2_with (at_builtin; refine wpList_append_sl _ rfl _ _ 68 rfl 148 k0 _ 3 24 Tryz.underlying68 I2.out.1 I2.out.2.1 I2.out.2.2.1 I2.out.2.2.2 rfl (by decide) _ k (instrC (stC (ws.take k))) rfl (by exact (A.out.a.own.alloc _).alloc _) _ 1 (instrC [(1, e1, e2)]) rfl (by exact RdSl.newAt _ _ _ 3 1 _ (by simp) rfl) (instrC_one _) (by unfold maxLen; omega) (by omega) ?_)
      intro v1 w1 o1 g1 b1 n1
      have d1 : w1.cell? ⟨wr.heap.size, 0, none⟩ = some (.int .u64 (e1 : Int)) := (kept_cell (below_alloc _ _) g1 (by simp) HNE.out 0).trans ((Blk.new wr _ _).cell rfl)
      have P1 := Lib.hid (A.out.left (below_twice wr _ _) o1 g1 b1 (by omega)); clear o1 g1 b1 n1
      obtain ⟨va, vc, hv1⟩ := P1.out.a.slice
      subst hv1
      go_wp2_with (at_builtin; refine wpList_append_sl _ rfl _ _ 23 rfl 28 i0 _ 1 8 Tryz.underlying23 I.out.1 I.out.2.1 I.out.2.2.1 I.out.2.2.2 rfl (by decide) _ k (natsU ((ws.take k).map (·.1))) rfl (by exact P1.out.b.own.alloc _) _ 1 (natsU [e1]) rfl (by exact RdSl.newAt _ _ _ 1 1 _ (by simp) rfl) (natsU_one _) (by unfold maxLen; omega) (by omega) ?_)
      intro v2 w2 o2 g2 b2 n2
      have o2' : OwnSl w2 28 1 v2 (k + 1) (natsU ((ws.take k).map (·.1)) ++ natsU [e1]) := by rw [List.map_take]; exact o2
      have P2 := Lib.hid ((P1.out.swap.left (below_alloc w1 _) o2' g2 b2 (by omega)).swap); clear o2 o2' g2 b2 n2
      go_wp2_with fail
      go_roundw
      case rel => exact ⟨k + 1, by omega, by go_num, by rw [HT.out, stC_snoc, instrC_append, List.map_append, show natsU ((ws.take k).map (·.1) ++ [(e1, e2)].map (·.1)) = natsU ((ws.take k).map (·.1)) ++ natsU [e1] by simp [natsU]]; exact P2.out⟩
      case measure => simp [intOf]; omega
    · obtain rfl : k = n := by omega
      have hF : ws.take k = ws := List.take_of_length_le (by rw [HN.out]; omega)
      rw [hF] at A
      clear hF
      have hml : (ws.map (·.1)).length = k := by rw [List.length_map, HN.out]
      have HFL := Lib.hid (r10Flushes_any (w := wr) (.slice fa k fc) (ws.map (·.1)) (by rw [hml]; exact A.out.b.rd) (by omega) HB.out)
      have hfl := flushL_len (ws.map (·.1))
      rw [hml] at hfl
      have HST : Hid (storesL ws = stC ws ++ flushL (ws.map (·.1))) := rfl
      generalize flushL (ws.map (·.1)) = F at *
      clear hml
      go_wp2_with fail
      (with_reducible refine HFL.out.mono ?_)
      rintro e w5 ⟨rv, rfl, a5⟩
      have A5 := Lib.hid a5
      obtain ⟨ra, rc, hrv⟩ := a5.slice
      subst hrv
      have O5 := Lib.hid (A.out.a.keep a5.bel)
      clear a5 HFL
      go_wp2_with (at_builtin; refine wpList_append_sl _ rfl _ _ 68 rfl 148 k0 _ 3 24 Tryz.underlying68 I2.out.1 I2.out.2.1 I2.out.2.2.1 I2.out.2.2.2 rfl (by decide) _ k (instrC (stC ws)) rfl (by exact O5.out.own) _ F.length (instrC F) rfl (by exact A5.out.rd) (instrC_one _) (by unfold maxLen; omega) (by omega) ?_)
      intro v6 w6 o6 g6 b6 n6
      have A6 := Lib.hid (O5.out.next (Below.refl _ _) o6 g6 b6 (by omega)); clear o6 g6 b6 n6
      go_wp2_with fail
      go_ret
      exact ⟨_, rfl, by rw [HST.out]; exact A6.out.congr (by simp [stC, HN.out]) (by rw [instrC_append])⟩
end
end Go.Proofs.YtkoijmoendepgaaGreat

/- The reference's Put. (Its drawn region is printed by genput.py.) -/
namespace Go.Proofs.YtkoijmoendepgaaGreat
open Go.RowKit
attribute [local go_sem ↓] Go.wp_at_zero Go.wp_at_succ

section
variable {w : World} {sv : Value} {W : Nat → Int} {x : Nat}
theorem rd_newerI {wz w1 : World} {g : Nat} {l : Nat} {k : Value} (h : RdSl wz 1 (.slice (some ⟨g, 0, none⟩) 1 1) 1 (natsI [l])) (hg : wz.grownBy w1 k.ownBlock) (hlt : g < wz.heap.size) (hne : k.ownBlock ≠ some g) : RdSl w1 1 (.slice (some ⟨g, 0, none⟩) 1 1) 1 (natsI [l]) :=
  h.kept (fun b hb _ => by simp [Value.ownBlock] at hb; subst hb; exact hg.block _ hlt (fun e => hne e.symm))
theorem lines_two (a b : Nat) (h : a < b) : linesL [a, b] = if b / 64 = a / 64 then [a / 64] else [a / 64, b / 64] := by
  have e1 : linesL [a, b] = insL (insL [] (a / 64)) (b / 64) := rfl
  have e2 : insL [] (a / 64) = [a / 64] := by simp [insL, lowN]
  rw [e1, e2]
  by_cases hc : b / 64 = a / 64
  · rw [if_pos hc, hc]; simp [insL, lowN]
  · have hlt : a / 64 < b / 64 := by omega
    rw [if_neg hc]; simp [insL, lowN, hlt]
theorem stores_two (a b : Nat) (x y : Int) (h : a < b) : storesL [(a, x), (b, y)] = [(1, a, x), (1, b, y), (2, lineN a, 0)] ++ (if lineN b = lineN a then [] else [(2, lineN b, 0)]) ++ [(3, 0, 0)] := by
  have hc : (lineN b = lineN a) = (b / 64 = a / 64) := by unfold lineN; apply propext; omega
  have ha : 64 * (a / 64) = lineN a := by unfold lineN; omega
  have hb : 64 * (b / 64) = lineN b := by unfold lineN; omega
  unfold storesL flushL
  simp only [List.map_cons, List.map_nil, lines_two a b h]
  by_cases hq : b / 64 = a / 64
  · simp [hq, hc, ha]
  · simp [hq, hc, ha, hb]
theorem putNew_ref (W : Nat → Int) (off : Nat) (key value : Int) (i s : Nat) : putNew W off key value i s = storesL [(off + 8 * (4 + s), key), (off + 8 * (16 + s), value)] ++ lastC off (ordN ((slotsW W).take i ++ s :: (slotsW W).drop i) ((W 0).toNat / 4503599627370496 + 1) : Nat) := by
  rw [stores_two _ _ _ _ (by omega)]; rfl
theorem stores_len2 (a b : Nat) (x y : Int) (h : a < b) : (storesL [(a, x), (b, y)]).length ≤ 6 := by rw [stores_two a b x y h]; split <;> simp
/-- The slots with a further one, put together. -/
theorem put_slots {w3 : World} {v3 : Value} {S : List Nat} {i s : Nat} (hi : i ≤ S.length) (o : OwnSl w3 3 1 v3 (0 + i + 1 + (S.length - i)) ([] ++ natsI (S.take i) ++ natsI [s] ++ natsI (S.drop i))) : OwnSl w3 3 1 v3 (S.take i ++ s :: S.drop i).length (natsI (S.take i ++ s :: S.drop i)) := by
  have e1 : (S.take i ++ s :: S.drop i).length = 0 + i + 1 + (S.length - i) := by simp; omega
  have e2 : natsI (S.take i ++ s :: S.drop i) = [] ++ natsI (S.take i) ++ natsI [s] ++ natsI (S.drop i) := by simp [natsI]
  rw [e1, e2]; exact o
/-- The slots with a further one, beside the stores. -/
structure PutR (w wo : World) (S : List Nat) (idx s : Nat) (P : List (Nat × Nat × Int)) (pv nv : Value) (wx : World) : Prop where
  own : OwnSl wx 3 1 nv (S.take idx ++ s :: S.drop idx).length (natsI (S.take idx ++ s :: S.drop idx))
  bel : Below wo.heap.size wo wx
  acc : Acc w w.heap.size wx 148 3 pv P.length (instrC P)
set_option maxRecDepth 100000 in
set_option maxHeartbeats 8000000 in
theorem refPut_any (h : RefIn w sv W x) (at' : Nat) (hat : at' ≤ 100000) (key value : Int) : Calls Tryz.prog 28 #[sv, .int .u64 at', .int .u64 key, .int .u64 value] w (RIPost w (putP W at' key value).1 (putP W at' key value).2) := by
  have HF := Lib.hid (reffind_any h key)
  have HS := Lib.hid (refSlots_any h)
  have H := Lib.hid h
  have h12 := h.lt12
  have hl12 : (slotsN x (x % 16)).length ≤ 12 := by simpa [slotsN] using h.ok.1
  have hlt := h.lt
  have eS := h.slotsW
  have e0 : (W 0).toNat = x := by rw [h.w0, Int.toNat_natCast]
  obtain ⟨b, o, c, rfl, hc, hcl⟩ := h.slice
  have c2 := hcl 2 (by omega); have c3 := hcl 3 (by omega)
  clear h hcl
  by_cases hnr : W 3 = 1 ∧ W 2 ≤ key
  · have hP : putP W at' key value = ([], 2) := by unfold putP; rw [if_pos hnr]
    rw [hP]
    have e3 : (W 3 == 1) = true := by simp [hnr.1]
    have e2 : W 2 ≤ key := hnr.2
    clear hnr hP
    go_enter Tryz.func28, Tryz.ntmps28
    go_wp2_with fail
    go_ret2
    exact ⟨_, rfl, Acc.nil w _ _ _ _ (Below.refl _ _) (Nat.le_refl _)⟩
  have hcase : (W 3 == 1) = true ∧ ¬ W 2 ≤ key ∨ (W 3 == 1) = false := by
    by_cases h : W 3 = 1
    · exact .inl ⟨by simp [h], fun h' => hnr ⟨h, h'⟩⟩
    · exact .inr (by simp [h])
  have HFA : Hid (foundB W key (slotsN x (x % 16)) = true → ∃ s, (slotsN x (x % 16))[findIdx W key (slotsN x (x % 16))]? = some s) := fun hf => by
    obtain ⟨s, hs, _⟩ := found_at _ _ _ hf; exact ⟨s, hs⟩
  have hidx := findIdx_le W key (slotsN x (x % 16))
  have HFR := Lib.hid (fun wx u (hu : RdSl wx 1 u (slotsN x (x % 16)).length (natsI (slotsN x (x % 16)))) (hl : (slotsN x (x % 16)).length < 12) => refFree_any u _ hu hl)
  have HUN := Lib.hid (fun hl => unusedN_free (slotsN x (x % 16)) hl)
  have HP := Lib.hid (fun wx u l (hu : RdSl wx 1 u l.length (natsI l)) (h1 : l.length ≤ 12) (h2 : ∀ s ∈ l, s < 16) => permutation_any u l (x / 4503599627370496 + 1) hu h1 h2 (by omega))
  have HC := Lib.hid (fun wx (hx : Below w.heap.size w wx) => refCount_any (H.out.below hx))
  have HTryz : Hid (putP W at' key value = if foundB W key (slotsN x (x % 16)) then (lastC (at' + 8 * (16 + (slotsN x (x % 16)).getD (findIdx W key (slotsN x (x % 16))) 0)) value, 0) else if (slotsN x (x % 16)).length = 12 then ([], 4) else
      (storesL [(at' + 8 * (4 + unusedN (slotsN x (x % 16))), key), (at' + 8 * (16 + unusedN (slotsN x (x % 16))), value)] ++ lastC at' (ordN ((slotsN x (x % 16)).take (findIdx W key (slotsN x (x % 16))) ++ unusedN (slotsN x (x % 16)) :: (slotsN x (x % 16)).drop (findIdx W key (slotsN x (x % 16)))) (x / 4503599627370496 + 1) : Nat), 0)) := by
    show putP W at' key value = _
    unfold putP
    rw [if_neg hnr, eS, putNew_ref, eS, e0]
  rw [HTryz.out]
  clear HTryz H eS e0 hnr
  generalize slotsN x (x % 16) = S at *
  generalize findIdx W key S = idx at *
  generalize hf : foundB W key S = fb at *
  clear hf
  obtain ⟨i0, hi0, hz0, hz1, hz2⟩ := info_parts infoInt
  have I := Lib.hid (And.intro hi0 (And.intro hz0 (And.intro hz1 hz2))); clear hi0 hz0 hz1 hz2
  obtain ⟨k0, hi0, hz0, hz1, hz2⟩ := info_parts infoRI
  have I2 := Lib.hid (And.intro hi0 (And.intro hz0 (And.intro hz1 hz2))); clear hi0 hz0 hz1 hz2
  cases fb
  case true =>
    obtain ⟨s, hs⟩ := HFA.out rfl
    have hs12 := h12 s (List.mem_of_getElem? hs)
    have hil : idx < S.length := by
      rcases Nat.lt_or_ge idx S.length with h | h
      · exact h
      · rw [List.getElem?_eq_none h] at hs; cases hs
    rw [if_pos rfl, show S.getD idx 0 = s by simp [List.getD, hs]]
    have hil' : (idx : Int) < S.length := by omega
    have HSI := Lib.hid hs
    have HOF : Hid ((at' : Int) + 8 * (16 + (s : Int)) = ((at' + 8 * (16 + s) : Nat) : Int)) := by show (at' : Int) + 8 * (16 + (s : Int)) = _; omega
    clear HFA HFR HUN HP HC hs
    rcases hcase with ⟨e3, e2⟩ | e3
    all_goals
      go_enter Tryz.func28, Tryz.ntmps28
      go_wp2_with fail
      (with_reducible refine HF.out.mono ?_)
      rintro e w' ⟨rfl, rfl⟩
      go_wp2_with fail
      (with_reducible refine HS.out.mono ?_)
      rintro e w2 ⟨lv, rfl, a2⟩
      obtain ⟨la, lc, hlv⟩ := a2.slice
      subst hlv
      obtain ⟨_, a', c', e', _, hE⟩ := a2.rd
      cases e'
      have hv : (natsI S)[idx]? = some (.int .i64 s) := by simp [natsI, HSI.out]
      obtain ⟨gb, go', rfl, hE2⟩ := rd_at hE hv
      have d1 := hE2 _ _ hv
      have B2 := Lib.hid a2.bel
      clear hE hE2 hv a2 HS HF
      have HLA := Lib.hid (reflast_any (w := w2) (at' + 8 * (16 + s)) value)
      rw [← HOF.out] at HLA
      go_wp2_with fail
      (with_reducible refine HLA.out.mono ?_)
      rintro e w3 ⟨ov, rfl, a3⟩
      have A3 := Lib.hid (a3.deeper B2.out)
      clear a3 HLA
      go_wp2_with fail
      go_ret2
      exact ⟨_, rfl, A3.out⟩
  case false =>
    rw [if_neg (by simp)]
    by_cases h12l : S.length = 12
    · rw [if_pos h12l]
      have hb12 : ((S.length : Int) == 12) = true := by simp; omega
      clear HFA HFR HUN HP HC h12l
      generalize S.length = m at *
      rcases hcase with ⟨e3, e2⟩ | e3
      all_goals
        go_enter Tryz.func28, Tryz.ntmps28
        go_wp2_with fail
        (with_reducible refine HF.out.mono ?_)
        rintro e w' ⟨rfl, rfl⟩
        go_wp2_with fail
        (with_reducible refine HS.out.mono ?_)
        rintro e w2 ⟨lv, rfl, a2⟩
        obtain ⟨la, lc, hlv⟩ := a2.slice
        subst hlv
        have B2 := Lib.hid a2.bel
        clear a2 HS HF
        go_wp2_with fail
        go_ret2
        exact ⟨_, rfl, Acc.nil w _ _ _ _ B2.out B2.out.size⟩
    · rw [if_neg h12l]
      have hb12 : ((S.length : Int) == 12) = false := by simp; omega
      obtain ⟨hs12, hsn⟩ := HUN.out (by omega)
      have hlt12 : S.length < 12 := by omega
      clear HFA HUN h12l hsn
      generalize hsd : unusedN S = s at *
      have HSD := Lib.hid hsd; clear hsd
      have HK : Hid ((at' : Int) + 8 * (4 + (s : Int)) = ((at' + 8 * (4 + s) : Nat) : Int)) := by show (at' : Int) + 8 * (4 + (s : Int)) = _; omega
      have HV : Hid ((at' : Int) + 8 * (16 + (s : Int)) = ((at' + 8 * (16 + s) : Nat) : Int)) := by show (at' : Int) + 8 * (16 + (s : Int)) = _; omega
      have hsl := stores_len2 (at' + 8 * (4 + s)) (at' + 8 * (16 + s)) key value (by omega)
      have HSTO := Lib.hid (fun wx u (hu : RdSl wx 2 u 2 (flat [(at' + 8 * (4 + s), key), (at' + 8 * (16 + s), value)])) => r10Stores_any (w := wx) u [(at' + 8 * (4 + s), key), (at' + 8 * (16 + s), value)] hu (by simp) (by intro e he; simp at he; rcases he with rfl | rfl <;> simp only <;> omega))
      generalize storesL [(at' + 8 * (4 + s), key), (at' + 8 * (16 + s), value)] = P at *
      rcases hcase with ⟨e3, e2⟩ | e3
      all_goals
        go_enter Tryz.func28, Tryz.ntmps28
        go_wp2_with fail
        (with_reducible refine HF.out.mono ?_)
        rintro e w' ⟨rfl, rfl⟩
        go_wp2_with fail
        (with_reducible refine HS.out.mono ?_)
        rintro e w2 ⟨lv, rfl, a2⟩
        obtain ⟨la, lc, hlv⟩ := a2.slice
        subst hlv
        have A2 := Lib.hid a2
        have HFR2 := Lib.hid (HFR.out w2 _ a2.rd hlt12)
        clear a2 HS HF HFR
        go_wp2_with fail
        (with_reducible refine HFR2.out.mono ?_)
        rintro e w' ⟨rfl, rfl⟩
        clear HFR2
        have hrd : RdSl (w2.alloc (.cells #[.int .u64 ((at' : Int) + 8 * (4 + (s : Int))), .int .u64 key, .int .u64 ((at' : Int) + 8 * (16 + (s : Int))), .int .u64 value] 100)) 2 (.slice (some ⟨w2.heap.size, 0, none⟩) 2 2) 2 (flat [(at' + 8 * (4 + s), key), (at' + 8 * (16 + s), value)]) := by
          have := RdSl.newAt w2 #[.int .u64 ((at' : Int) + 8 * (4 + (s : Int))), .int .u64 key, .int .u64 ((at' : Int) + 8 * (16 + (s : Int))), .int .u64 value] 100 2 2 w2.heap.size rfl rfl
          rw [HK.out, HV.out] at this ⊢
          exact this
        have HSTO2 := Lib.hid (HSTO.out _ _ hrd)
        clear hrd HSTO
        go_wp2_with fail
        (with_reducible refine HSTO2.out.mono ?_)
        rintro e w3 ⟨pv, rfl, a3⟩
        have hb3 : Below w2.heap.size w2 w3 := (below_alloc w2 _).trans (a3.bel.mono (by simp))
        have A3 := Lib.hid (a3.deeper (A2.out.bel.trans ((below_alloc w2 _).mono A2.out.bel.size)))
        obtain ⟨pa, pc, hpv⟩ := a3.slice
        subst hpv
        have hsv := (A2.out.keep hb3).rd
        have B3 := Lib.hid (A2.out.bel.trans (hb3.mono A2.out.bel.size))
        clear a3 hb3 A2 HSTO2
        obtain ⟨wo, hwo⟩ : ∃ y : World, y = w3 := ⟨_, rfl⟩
        subst hwo
        have hcap : S.length ≤ lc := by obtain ⟨_, _, _, e, hc, _⟩ := hsv; cases e; exact hc
        have t1 : RdSl wo 1 (.slice la idx lc) idx (natsI (S.take idx)) := by have := hsv.takeG idx (by omega); rw [Nat.mul_one, natsI_take] at this; exact this
        have t2 : RdSl wo 1 (.slice (if lc = idx then la else la.map (·.add idx)) (S.length - idx) (lc - idx)) (S.length - idx) (natsI (S.drop idx)) := by have := hsv.dropG idx (by omega); rw [natsI_drop, Nat.mul_one] at this; exact this
        clear hsv
        have hic : (idx : Int) ≤ lc := by omega
        have hil : (idx : Int) ≤ S.length := by omega
        go_wp2_with fail
        go_cut [15] (PutR w wo S idx s P (.slice pa P.length pc))
        case first =>
          by_cases hci : lc = idx
          · rw [if_pos hci] at t2
            obtain rfl : idx = lc := hci.symm
            have hz : S.length - idx = 0 := by omega
            rw [Nat.sub_self, hz] at t2
            have HZ := Lib.hid hz
            have T1 := Lib.hid t1; have T2 := Lib.hid t2; clear t1 t2 hci hz
            go_region_held3 (fun _ => True) (trivial) (first | (refine step_append_sl (w := (wo.alloc (.cells #[] 3)).drew) rfl (.tmp 70) (.tmp 73) 113 rfl 3 i0 _ 1 8 Tryz.underlying113 I.out.1 I.out.2.1 I.out.2.2.1 I.out.2.2.2 rfl (by decide) (.slice (some ⟨wo.heap.size, 0, none⟩) 0 0) 0 [] rfl (by exact (OwnSl.new wo #[] 3 1 0 0 rfl (Nat.le_refl _) (Nat.zero_le _)).drew) _ idx (natsI (S.take idx)) rfl (by exact (T1.out.alloc _).drew) (natsI_one _) (by unfold maxLen; omega) (by omega) ?_; intro v1 w1 o1 g1 b1; have hb1 := own_chain (v1 := .slice (some ⟨wo.heap.size, 0, none⟩) 0 0) ⟨below_alloc wo (.cells #[] 3), fun g hg => by cases hg; exact Nat.le_refl _⟩ ((Below.refl _ _).drew) g1 b1 (sz1 wo _); have O1 := Lib.hid (And.intro o1 hb1); clear o1 g1 b1 hb1) | (refine step_append_sl (w := ((wo.alloc (.cells #[] 3)).alloc (.cells #[.int .i64 (s : Int)] 3)).drew) rfl (.tmp 70) (.tmp 73) 113 rfl 3 i0 _ 1 8 Tryz.underlying113 I.out.1 I.out.2.1 I.out.2.2.1 I.out.2.2.2 rfl (by decide) (.slice (some ⟨wo.heap.size, 0, none⟩) 0 0) 0 [] rfl (by exact ((OwnSl.new wo #[] 3 1 0 0 rfl (Nat.le_refl _) (Nat.zero_le _)).alloc _).drew) _ idx (natsI (S.take idx)) rfl (by exact ((T1.out.alloc _).alloc _).drew) (natsI_one _) (by unfold maxLen; omega) (by omega) ?_; intro v1 w1 o1 g1 b1; have hb1 := own_chain (v1 := .slice (some ⟨wo.heap.size, 0, none⟩) 0 0) ⟨below_twice wo (.cells #[] 3) (.cells #[.int .i64 (s : Int)] 3), fun g hg => by cases hg; exact Nat.le_refl _⟩ ((Below.refl _ _).drew) g1 b1 (sz2 wo _ _); have RB := Lib.hid (rd_newerI (l := s) ((RdSl.newAt (wo.alloc (.cells #[] 3)) #[.int .i64 (s : Int)] 3 1 1 (wo.heap.size + 1) (by simp) rfl).drew) g1 (lt2 wo _ _) (ob_ne (by omega))); have O1 := Lib.hid (And.intro o1 hb1); clear o1 g1 b1 hb1) | (refine step_append_sl (w := ((wo.alloc (.cells #[.int .i64 (s : Int)] 3)).alloc (.cells #[] 3)).drew) rfl (.tmp 70) (.tmp 73) 113 rfl 3 i0 _ 1 8 Tryz.underlying113 I.out.1 I.out.2.1 I.out.2.2.1 I.out.2.2.2 rfl (by decide) (.slice (some ⟨wo.heap.size + 1, 0, none⟩) 0 0) 0 [] rfl (by exact (ownNewAt (wo.alloc (.cells #[.int .i64 (s : Int)] 3)) #[] 3 1 0 0 (wo.heap.size + 1) (by simp) rfl (Nat.le_refl _) (Nat.zero_le _)).drew) _ idx (natsI (S.take idx)) rfl (by exact ((T1.out.alloc _).alloc _).drew) (natsI_one _) (by unfold maxLen; omega) (by omega) ?_; intro v1 w1 o1 g1 b1; have hb1 := own_chain (v1 := .slice (some ⟨wo.heap.size + 1, 0, none⟩) 0 0) ⟨below_twice wo (.cells #[.int .i64 (s : Int)] 3) (.cells #[] 3), fun g hg => by cases hg; exact Nat.le_succ _⟩ ((Below.refl _ _).drew) g1 b1 (sz2 wo _ _); have RB := Lib.hid (rd_newerI (l := s) (((RdSl.newAt wo #[.int .i64 (s : Int)] 3 1 1 wo.heap.size rfl rfl).alloc (.cells #[] 3)).drew) g1 (lt2' wo _ _) (ob_ne (by omega))); have O1 := Lib.hid (And.intro o1 hb1); clear o1 g1 b1 hb1) | (refine step_append_sl (w := w1.alloc (.cells #[.int .i64 (s : Int)] 3)) rfl (.tmp 74) (.tmp 76) 113 rfl 3 i0 _ 1 8 Tryz.underlying113 I.out.1 I.out.2.1 I.out.2.2.1 I.out.2.2.2 rfl (by decide) v1 (0 + idx) ([] ++ natsI (S.take idx)) rfl (by exact O1.out.1.alloc _) _ 1 (natsI [s]) rfl (by exact RdSl.newAt w1 #[.int .i64 (s : Int)] 3 1 1 _ rfl rfl) (natsI_one _) (by unfold maxLen; omega) (by omega) ?_; intro v2 w2 o2 g2 b2; have hb2 := own_chain O1.out.2 (below_alloc w1 _) g2 b2 (by have := O1.out.2.1.size; simp; try omega); have O2 := Lib.hid (And.intro o2 hb2); have R2 := Lib.hid (T2.out.below hb2.1); clear o2 g2 b2 hb2) | (refine step_append_sl (w := w1) rfl (.tmp 74) (.tmp 76) 113 rfl 3 i0 _ 1 8 Tryz.underlying113 I.out.1 I.out.2.1 I.out.2.2.1 I.out.2.2.2 rfl (by decide) v1 (0 + idx) ([] ++ natsI (S.take idx)) rfl (by exact O1.out.1) _ 1 (natsI [s]) rfl (by exact RB.out) (natsI_one _) (by unfold maxLen; omega) (by omega) ?_; intro v2 w2 o2 g2 b2; have hb2 := own_chain O1.out.2 (Below.refl _ _) g2 b2 (by have := O1.out.2.1.size; simp; try omega); have O2 := Lib.hid (And.intro o2 hb2); have R2 := Lib.hid (T2.out.below hb2.1); clear o2 g2 b2 hb2) | (refine step_append_sl (w := w2) rfl (.tmp 77) (.tmp 80) 113 rfl 3 i0 _ 1 8 Tryz.underlying113 I.out.1 I.out.2.1 I.out.2.2.1 I.out.2.2.2 rfl (by decide) v2 (0 + idx + 1) ([] ++ natsI (S.take idx) ++ natsI [s]) rfl (by exact O2.out.1) _ 0 (natsI (S.drop idx)) rfl (by exact R2.out) (natsI_one _) (by unfold maxLen; omega) (by omega) ?_; intro v3 w3 o3 g3 b3; have hb3 := own_chain O2.out.2 (Below.refl _ _) g3 b3 (by have := O2.out.2.1.size; omega); have O3 := Lib.hid (And.intro o3 hb3); clear o3 g3 b3 hb3))
            all_goals go_wp2_with fail
            all_goals go_meet
            all_goals exact ⟨put_slots hidx (by rw [HZ.out]; exact O3.out.1), O3.out.2.1, A3.out.keep O3.out.2.1⟩
          · rw [if_neg hci] at t2
            have hci' : ¬ (lc : Int) = (idx : Int) := by omega
            have T1 := Lib.hid t1; have T2 := Lib.hid t2; clear t1 t2
            go_region_held3 (fun _ => True) (trivial) (first | (refine step_append_sl (w := (wo.alloc (.cells #[] 3)).drew) rfl (.tmp 70) (.tmp 73) 113 rfl 3 i0 _ 1 8 Tryz.underlying113 I.out.1 I.out.2.1 I.out.2.2.1 I.out.2.2.2 rfl (by decide) (.slice (some ⟨wo.heap.size, 0, none⟩) 0 0) 0 [] rfl (by exact (OwnSl.new wo #[] 3 1 0 0 rfl (Nat.le_refl _) (Nat.zero_le _)).drew) _ idx (natsI (S.take idx)) rfl (by exact (T1.out.alloc _).drew) (natsI_one _) (by unfold maxLen; omega) (by omega) ?_; intro v1 w1 o1 g1 b1; have hb1 := own_chain (v1 := .slice (some ⟨wo.heap.size, 0, none⟩) 0 0) ⟨below_alloc wo (.cells #[] 3), fun g hg => by cases hg; exact Nat.le_refl _⟩ ((Below.refl _ _).drew) g1 b1 (sz1 wo _); have O1 := Lib.hid (And.intro o1 hb1); clear o1 g1 b1 hb1) | (refine step_append_sl (w := ((wo.alloc (.cells #[] 3)).alloc (.cells #[.int .i64 (s : Int)] 3)).drew) rfl (.tmp 70) (.tmp 73) 113 rfl 3 i0 _ 1 8 Tryz.underlying113 I.out.1 I.out.2.1 I.out.2.2.1 I.out.2.2.2 rfl (by decide) (.slice (some ⟨wo.heap.size, 0, none⟩) 0 0) 0 [] rfl (by exact ((OwnSl.new wo #[] 3 1 0 0 rfl (Nat.le_refl _) (Nat.zero_le _)).alloc _).drew) _ idx (natsI (S.take idx)) rfl (by exact ((T1.out.alloc _).alloc _).drew) (natsI_one _) (by unfold maxLen; omega) (by omega) ?_; intro v1 w1 o1 g1 b1; have hb1 := own_chain (v1 := .slice (some ⟨wo.heap.size, 0, none⟩) 0 0) ⟨below_twice wo (.cells #[] 3) (.cells #[.int .i64 (s : Int)] 3), fun g hg => by cases hg; exact Nat.le_refl _⟩ ((Below.refl _ _).drew) g1 b1 (sz2 wo _ _); have RB := Lib.hid (rd_newerI (l := s) ((RdSl.newAt (wo.alloc (.cells #[] 3)) #[.int .i64 (s : Int)] 3 1 1 (wo.heap.size + 1) (by simp) rfl).drew) g1 (lt2 wo _ _) (ob_ne (by omega))); have O1 := Lib.hid (And.intro o1 hb1); clear o1 g1 b1 hb1) | (refine step_append_sl (w := ((wo.alloc (.cells #[.int .i64 (s : Int)] 3)).alloc (.cells #[] 3)).drew) rfl (.tmp 70) (.tmp 73) 113 rfl 3 i0 _ 1 8 Tryz.underlying113 I.out.1 I.out.2.1 I.out.2.2.1 I.out.2.2.2 rfl (by decide) (.slice (some ⟨wo.heap.size + 1, 0, none⟩) 0 0) 0 [] rfl (by exact (ownNewAt (wo.alloc (.cells #[.int .i64 (s : Int)] 3)) #[] 3 1 0 0 (wo.heap.size + 1) (by simp) rfl (Nat.le_refl _) (Nat.zero_le _)).drew) _ idx (natsI (S.take idx)) rfl (by exact ((T1.out.alloc _).alloc _).drew) (natsI_one _) (by unfold maxLen; omega) (by omega) ?_; intro v1 w1 o1 g1 b1; have hb1 := own_chain (v1 := .slice (some ⟨wo.heap.size + 1, 0, none⟩) 0 0) ⟨below_twice wo (.cells #[.int .i64 (s : Int)] 3) (.cells #[] 3), fun g hg => by cases hg; exact Nat.le_succ _⟩ ((Below.refl _ _).drew) g1 b1 (sz2 wo _ _); have RB := Lib.hid (rd_newerI (l := s) (((RdSl.newAt wo #[.int .i64 (s : Int)] 3 1 1 wo.heap.size rfl rfl).alloc (.cells #[] 3)).drew) g1 (lt2' wo _ _) (ob_ne (by omega))); have O1 := Lib.hid (And.intro o1 hb1); clear o1 g1 b1 hb1) | (refine step_append_sl (w := w1.alloc (.cells #[.int .i64 (s : Int)] 3)) rfl (.tmp 74) (.tmp 76) 113 rfl 3 i0 _ 1 8 Tryz.underlying113 I.out.1 I.out.2.1 I.out.2.2.1 I.out.2.2.2 rfl (by decide) v1 (0 + idx) ([] ++ natsI (S.take idx)) rfl (by exact O1.out.1.alloc _) _ 1 (natsI [s]) rfl (by exact RdSl.newAt w1 #[.int .i64 (s : Int)] 3 1 1 _ rfl rfl) (natsI_one _) (by unfold maxLen; omega) (by omega) ?_; intro v2 w2 o2 g2 b2; have hb2 := own_chain O1.out.2 (below_alloc w1 _) g2 b2 (by have := O1.out.2.1.size; simp; try omega); have O2 := Lib.hid (And.intro o2 hb2); have R2 := Lib.hid (T2.out.below hb2.1); clear o2 g2 b2 hb2) | (refine step_append_sl (w := w1) rfl (.tmp 74) (.tmp 76) 113 rfl 3 i0 _ 1 8 Tryz.underlying113 I.out.1 I.out.2.1 I.out.2.2.1 I.out.2.2.2 rfl (by decide) v1 (0 + idx) ([] ++ natsI (S.take idx)) rfl (by exact O1.out.1) _ 1 (natsI [s]) rfl (by exact RB.out) (natsI_one _) (by unfold maxLen; omega) (by omega) ?_; intro v2 w2 o2 g2 b2; have hb2 := own_chain O1.out.2 (Below.refl _ _) g2 b2 (by have := O1.out.2.1.size; simp; try omega); have O2 := Lib.hid (And.intro o2 hb2); have R2 := Lib.hid (T2.out.below hb2.1); clear o2 g2 b2 hb2) | (refine step_append_sl (w := w2) rfl (.tmp 77) (.tmp 80) 113 rfl 3 i0 _ 1 8 Tryz.underlying113 I.out.1 I.out.2.1 I.out.2.2.1 I.out.2.2.2 rfl (by decide) v2 (0 + idx + 1) ([] ++ natsI (S.take idx) ++ natsI [s]) rfl (by exact O2.out.1) _ (S.length - idx) (natsI (S.drop idx)) rfl (by exact R2.out) (natsI_one _) (by unfold maxLen; omega) (by omega) ?_; intro v3 w3 o3 g3 b3; have hb3 := own_chain O2.out.2 (Below.refl _ _) g3 b3 (by have := O2.out.2.1.size; omega); have O3 := Lib.hid (And.intro o3 hb3); clear o3 g3 b3 hb3))
            all_goals go_wp2_with fail
            all_goals go_meet
            all_goals exact ⟨put_slots hidx O3.out.1, O3.out.2.1, A3.out.keep O3.out.2.1⟩
        case rest =>
          obtain ⟨w4, hw4⟩ : ∃ y, y = wc := ⟨_, rfl⟩
          subst hw4
          have B4 := Lib.hid (B3.out.trans (hcut.bel.mono B3.out.size))
          have A4 := Lib.hid hcut.acc
          have hd12 : (S.take idx ++ s :: S.drop idx).length ≤ 12 := by simp; omega
          have HP4 := Lib.hid (HP.out w4 _ (S.take idx ++ s :: S.drop idx) hcut.own.rd hd12 (fun t ht => by
            rcases List.mem_append.1 ht with h1 | h1
            · have := h12 t (List.mem_of_mem_take h1); omega
            · rcases List.mem_cons.1 h1 with rfl | h1
              · omega
              · have := h12 t (List.mem_of_mem_drop h1); omega))
          have HC4 := Lib.hid (HC.out w4 B4.out)
          have z1 : ((x / 4503599627370496 : Nat) : Int) + 1 ≤ 5000 := by omega
          obtain ⟨na, nc, hnv⟩ := hcut.own.slice
          subst hnv
          clear hcut t1 t2 HP HC A3 B3
          generalize S.take idx ++ s :: S.drop idx = L at *
          generalize hch : x / 4503599627370496 = ch at *
          clear hch
          have hcc : ((ch + 1 : Nat) : Int) = (ch : Int) + 1 := by omega
          rw [hcc] at HP4
          clear hcc
          go_wp2_with fail
          (with_reducible refine HC4.out.mono ?_)
          rintro e w' ⟨rfl, rfl⟩
          go_wp2_with fail
          (with_reducible refine HP4.out.mono ?_)
          rintro e w' ⟨rfl, rfl⟩
          go_wp2_with fail
          (with_reducible refine (reflast_any at' _).mono ?_)
          rintro e w5 ⟨ov, rfl, a5⟩
          obtain ⟨oa, oc, hov⟩ := a5.slice
          subst hov
          have A5 := Lib.hid a5.rd; have P5 := Lib.hid (A4.out.keep a5.bel)
          clear a5 A4 HC4 HP4
          generalize hLC : lastC at' (ordN L (ch + 1) : Nat) = LC at *
          have hlc3 : LC.length = 3 := by rw [← hLC]; rfl
          clear hLC
          rw [hlc3] at A5 ⊢
          go_wp2_with (at_builtin; refine wpList_append_sl _ rfl _ _ 68 rfl 148 k0 _ 3 24 Tryz.underlying68 I2.out.1 I2.out.2.1 I2.out.2.2.1 I2.out.2.2.2 rfl (by decide) _ P.length (instrC P) rfl (by exact P5.out.own) _ 3 (instrC LC) rfl (by exact A5.out) (instrC_one _) (by unfold maxLen; omega) (by omega) ?_)
          intro v6 w6 o6 g6 b6 n6
          have A6 := Lib.hid (P5.out.next (Below.refl _ _) o6 g6 b6 (by omega)); clear o6 g6 b6 n6
          go_wp2_with fail
          go_ret2
          exact ⟨_, rfl, A6.out.congr (by simp [hlc3]) (by rw [instrC_append])⟩
end
end Go.Proofs.YtkoijmoendepgaaGreat

/- LeafPuts: the walk of the law. -/
namespace Go.Proofs.YtkoijmoendepgaaGreat
open Go.RowKit
attribute [local go_sem ↓] Go.wp_at_zero Go.wp_at_succ

section
variable {w : World} {n : NodeP} {ka sa va : Option Addr} {kc sc vc : Nat}
theorem putP_len (W : Nat → Int) (off : Nat) (key value : Int) : (putP W off key value).1.length ≤ 8 := by
  unfold putP
  split
  · simp
  · split
    · simp [lastC]
    · split
      · simp
      · unfold putNew lastC; split <;> simp
variable {v : DV} {lb g : Nat} {own : Nat → Option Role} {D : Dev} {x : Nat} {C : Nat → Int} {wc : World}
theorem QSt.cells {wx : World} (h : QSt w n ka sa va kc sc vc v lb g own D x C wx) : wx.cell? ⟨w.heap.size, 0, none⟩ = some (.int .u8 n.pos) ∧ wx.cell? ⟨w.heap.size, 1, none⟩ = some (.slice ka n.ks.length kc) ∧ wx.cell? ⟨w.heap.size, 2, none⟩ = some (.slice sa n.ss.length sc) ∧ wx.cell? ⟨w.heap.size, 3, none⟩ = some (.slice va n.vs.length vc) ∧ wx.cell? ⟨w.heap.size, 4, none⟩ = some (.int .u8 n.high) ∧ wx.cell? ⟨w.heap.size, 5, none⟩ = some (.bool n.bounded) ∧ wx.cell? ⟨w.heap.size, 6, none⟩ = some (.bool n.next) ∧ wx.cell? ⟨w.heap.size, 7, none⟩ = some (.int .u16 n.count) ∧ wx.cell? ⟨lb, 0, none⟩ = some (.iface 76 (.pointer (some ⟨v.tb 0, 0, none⟩))) ∧ wx.cell? ⟨lb, 1, none⟩ = some (.int .u64 (ptrN (nodeOff n) : Nat)) ∧ wx.cell? ⟨g, 1, none⟩ = some (.int .u64 (nWords n 1)) :=
  ⟨h.box.cell rfl, h.box.cell rfl, h.box.cell rfl, h.box.cell rfl, h.box.cell rfl, h.box.cell rfl, h.box.cell rfl, h.box.cell rfl, h.leaf.cell rfl, h.leaf.cell rfl, h.ws.cell (by omega)⟩
theorem QSt.ents {p : List (Nat × Nat × Int)} {E : List (Int × Int)} (h : QSt w n ka sa va kc sc vc v lb g own D x (runC (nC n) p) wc) (a : After (nC n) (nodeOff n) (nW n) p E) :
    Calls Tryz.prog 16 #[.agg #[.iface 76 (.pointer (some ⟨v.tb 0, 0, none⟩)), .int .u64 (ptrN (nodeOff n) : Nat)]] wc fun r w' => ∃ a c, r = .returned (.slice a E.length c) ∧ RdSl w' 2 (.slice a E.length c) E.length (entC E) ∧ Below wc.heap.size wc w' := by
  obtain ⟨N, e, m⟩ := h.node 0 (by omega) a.bd
  exact entries_node N (by rw [e, m]; exact a.node) (by rw [e]; exact a.ents)
theorem QSt.nextW {p : List (Nat × Nat × Int)} {E : List (Int × Int)} (h : QSt w n ka sa va kc sc vc v lb g own D x (runC (nC n) p) wc) (a : After (nC n) (nodeOff n) (nW n) p E) :
    Calls Tryz.prog 27 #[.agg #[.iface 76 (.pointer (some ⟨v.tb 0, 0, none⟩)), .int .u64 (ptrN (nodeOff n) : Nat)]] wc fun r w' => r = .returned (.int .u64 (nWords n 1)) ∧ Below wc.heap.size wc w' := by
  obtain ⟨N, e, m⟩ := h.node 0 (by omega) a.bd
  refine (next_any N).mono ?_
  rintro r w' ⟨h1, h2⟩
  rw [e, m] at h2
  rcases h2 with ⟨_, rfl⟩ | h2
  · refine ⟨?_, h1⟩
    show Ending.returned (.int .u64 (runC (nC n) p (nodeOff n / 8 + 1))) = _
    rw [a.w1, nW_node n 1 (by omega)]
  · exact absurd a.node h2.1
set_option maxRecDepth 100000 in
set_option maxHeartbeats 8000000 in
theorem leafPuts_any (ha : NodeIn w n ka sa va kc sc vc) (key value : Int) (hkb : 0 ≤ key ∧ key < 18446744073709551616) (hvb : 0 ≤ value ∧ value < 18446744073709551616) :
    Calls Tryz.prog 4 #[.agg (nodeAgg n ka sa va kc sc vc), .int .u64 key, .int .u64 value] w fun r w' => r = .returned (.bool true) ∧ Below w.heap.size w w' := by
  have HMA := Lib.hid (fun wx (hx : Below w.heap.size w wx) => made_any (ha.below hx))
  have HWA := Lib.hid (fun wx (hx : Below w.heap.size w wx) => words_any (ha.below hx))
  have HO := Lib.hid (fun wx => nodeAt_any (w := wx) n ka sa va kc sc vc ha.p8)
  have BA := Lib.hid (nW_bd ha)
  have HKB := Lib.hid (And.intro hkb hvb)
  clear ha hkb hvb
  have hB0 := Lib.hid (Blk.new w (nodeAgg n ka sa va kc sc vc) 26)
  unfold nodeAgg at HMA HWA HO hB0 ⊢
  go_enter Tryz.func4, Tryz.ntmps4
  go_wp2_with fail
  (with_reducible refine awake_any.mono ?_)
  rintro e w1 ⟨rfl, b1⟩
  have B1 : Hid (Below w.heap.size w w1) := (below_alloc w _).trans (b1.mono (by simp))
  have X1 := Lib.hid (hB0.out.below b1)
  have hz1 : w.heap.size < w1.heap.size := X1.out.lt
  have a0 : w1.cell? ⟨w.heap.size, 0, none⟩ = some (.int .u8 n.pos) := X1.out.cell rfl
  have a1 : w1.cell? ⟨w.heap.size, 1, none⟩ = some (.slice ka n.ks.length kc) := X1.out.cell rfl
  have a2 : w1.cell? ⟨w.heap.size, 2, none⟩ = some (.slice sa n.ss.length sc) := X1.out.cell rfl
  have a3 : w1.cell? ⟨w.heap.size, 3, none⟩ = some (.slice va n.vs.length vc) := X1.out.cell rfl
  have a4 : w1.cell? ⟨w.heap.size, 4, none⟩ = some (.int .u8 n.high) := X1.out.cell rfl
  have a5 : w1.cell? ⟨w.heap.size, 5, none⟩ = some (.bool n.bounded) := X1.out.cell rfl
  have a6 : w1.cell? ⟨w.heap.size, 6, none⟩ = some (.bool n.next) := X1.out.cell rfl
  have a7 : w1.cell? ⟨w.heap.size, 7, none⟩ = some (.int .u16 n.count) := X1.out.cell rfl
  clear b1 hB0
  go_wp2_with fail
  (with_reducible refine (HMA.out _ B1.out).mono ?_)
  rintro e w2 ⟨v, own, D, rfl, l2⟩
  have X2 := Lib.hid (X1.out.below l2.bel)
  have L2 : Hid (LiveSt w v own D 57 (nC n) w2) := ⟨⟨l2.dev, fun k hk => Nat.le_trans B1.out.size (l2.ob k hk), B1.out.trans (l2.bel.mono B1.out.size)⟩, l2.live⟩
  have O2 : Hid (own w.heap.size = none) := Classical.byContradiction (fun h => by have := l2.ob _ h; omega)
  clear l2 X1 hz1 a0 a1 a2 a3 a4 a5 a6 a7 B1
  have hz2 : w.heap.size < w2.heap.size := X2.out.lt
  have a0 : w2.cell? ⟨w.heap.size, 0, none⟩ = some (.int .u8 n.pos) := X2.out.cell rfl
  have a1 : w2.cell? ⟨w.heap.size, 1, none⟩ = some (.slice ka n.ks.length kc) := X2.out.cell rfl
  have a2 : w2.cell? ⟨w.heap.size, 2, none⟩ = some (.slice sa n.ss.length sc) := X2.out.cell rfl
  have a3 : w2.cell? ⟨w.heap.size, 3, none⟩ = some (.slice va n.vs.length vc) := X2.out.cell rfl
  have a4 : w2.cell? ⟨w.heap.size, 4, none⟩ = some (.int .u8 n.high) := X2.out.cell rfl
  have a5 : w2.cell? ⟨w.heap.size, 5, none⟩ = some (.bool n.bounded) := X2.out.cell rfl
  have a6 : w2.cell? ⟨w.heap.size, 6, none⟩ = some (.bool n.next) := X2.out.cell rfl
  have a7 : w2.cell? ⟨w.heap.size, 7, none⟩ = some (.int .u16 n.count) := X2.out.cell rfl
  go_wp2_with fail
  (with_reducible refine (HWA.out _ (L2.out.next (below_alloc w2 _)).bel).mono ?_)
  rintro e w3 ⟨g, rfl, r3, g3, bb3⟩
  have hb3 : Below w2.heap.size w2 w3 := (below_alloc w2 _).trans (bb3.mono (by simp))
  have Q3 : Hid (QSt w n ka sa va kc sc vc v w2.heap.size g own D 57 (nC n) w3) :=
    ⟨L2.out.next hb3, X2.out.below hb3, (Blk.new w2 _ _).below bb3, r3, O2.out, Classical.byContradiction (fun h => by have := L2.out.dev.lt _ h; omega), Classical.byContradiction (fun h => by have := L2.out.dev.lt _ h; simp at g3; omega)⟩
  clear r3 g3 bb3 hb3 X2 L2 O2 hz2 a0 a1 a2 a3 a4 a5 a6 a7 HMA HWA
  generalize w2.heap.size = lb at *
  have hn1 := nodeOff_le n
  have l0 : w3.cell? ⟨lb, 0, none⟩ = some (.iface 76 (.pointer (some ⟨v.tb 0, 0, none⟩))) := Q3.out.leaf.cell rfl
  have l1 : w3.cell? ⟨lb, 1, none⟩ = some (.int .u64 (ptrN (nodeOff n) : Nat)) := Q3.out.leaf.cell rfl
  obtain ⟨N3, e3, m3⟩ := Q3.out.node 0 (by omega) BA.out
  have hPD := planPut_any N3 key value
  have e3' : nodeW D (ptrN (nodeOff n)) = nW n := e3
  rw [e3', m3, refD_ptr _ hn1.2.2 (by omega)] at hPD
  have HPD := Lib.hid hPD
  clear N3 e3 e3' m3 hPD
  go_wp2_with fail
  (with_reducible refine HPD.out.mono ?_)
  rintro e w4 ⟨b4, ⟨_, pv, rfl, o4, n4⟩ | ⟨hbad, _⟩⟩
  case inr => exact absurd (nW_ok n) hbad
  have Q4 := Lib.hid (Q3.out.next b4)
  have O4 := Lib.hid (And.intro o4 (fun k hk => show own k = none from Classical.byContradiction (fun hn => by have := Q3.out.off hn; have := n4 k hk; omega)))
  obtain ⟨pa, pc, hpv⟩ := o4.slice
  clear b4 o4 n4 HPD Q3 l0 l1
  subst hpv
  have a0 : w4.cell? ⟨w.heap.size, 0, none⟩ = some (.int .u8 n.pos) := Q4.out.box.cell rfl
  have a1 : w4.cell? ⟨w.heap.size, 1, none⟩ = some (.slice ka n.ks.length kc) := Q4.out.box.cell rfl
  have a2 : w4.cell? ⟨w.heap.size, 2, none⟩ = some (.slice sa n.ss.length sc) := Q4.out.box.cell rfl
  have a3 : w4.cell? ⟨w.heap.size, 3, none⟩ = some (.slice va n.vs.length vc) := Q4.out.box.cell rfl
  have a4 : w4.cell? ⟨w.heap.size, 4, none⟩ = some (.int .u8 n.high) := Q4.out.box.cell rfl
  have a5 : w4.cell? ⟨w.heap.size, 5, none⟩ = some (.bool n.bounded) := Q4.out.box.cell rfl
  have a6 : w4.cell? ⟨w.heap.size, 6, none⟩ = some (.bool n.next) := Q4.out.box.cell rfl
  have a7 : w4.cell? ⟨w.heap.size, 7, none⟩ = some (.int .u16 n.count) := Q4.out.box.cell rfl
  go_wp2_with fail
  (with_reducible refine (HO.out w4).mono ?_)
  rintro e w5 ⟨rfl, b5⟩
  have Q5 := Lib.hid (Q4.out.next b5); have P5 := Lib.hid (O4.out.1.below b5)
  clear b5 a0 a1 a2 a3 a4 a5 a6 a7 Q4
  have HRD := Lib.hid (refPut_any Q5.out.refIn (nodeOff n) (by omega) key value)
  have hdl := putP_len (nW n) (nodeOff n) key value
  have HAF : Hid ((putP (nW n) (nodeOff n) key value).2 = 0 → After (nC n) (nodeOff n) (nW n) (putP (nW n) (nodeOff n) key value).1 (setL key value (entsW (nW n) (slotsW (nW n))))) := fun he => put_after (nW_ok n) (fun _ => rfl) BA.out HKB.out.1 HKB.out.2 hn1.2.2 (by omega) he
  go_wp2_with fail
  (with_reducible refine HRD.out.mono ?_)
  rintro e w6 ⟨rv, rfl, a6⟩
  obtain ⟨ra, rc, hrv⟩ := a6.slice
  subst hrv
  generalize putP (nW n) (nodeOff n) key value = dp at *
  obtain ⟨p, er⟩ := dp
  simp only at hdl HAF a6 P5 O4 ⊢
  have S6 : Hid (DSt w n ka sa va kc sc vc v lb g own D 57 (nC n) p (.slice pa p.length pc) (.slice ra p.length rc) w6) := ⟨Q5.out.next a6.bel, P5.out.rd.below a6.bel, a6.rd, O4.out.2⟩
  clear a6 HRD Q5 P5 O4
  have hee : ((er : Int) != (er : Int)) = false := by simp
  go_wp2_with fail
  (with_reducible refine (told_any _ p S6.out.pp (by omega)).mono ?_)
  rintro e w7 ⟨tv, rfl, a7⟩
  have S7 := Lib.hid (S6.out.next a7.bel); have T7 := Lib.hid a7.rd
  obtain ⟨ta, tc, htv⟩ := a7.slice
  subst htv
  clear a7 S6
  go_wp2_with fail
  (with_reducible refine (r10Same_same _ _ p T7.out S7.out.rr (by omega)).mono ?_)
  rintro e w8 ⟨rfl, b8⟩
  have S8 := Lib.hid (S7.out.next b8)
  clear b8 S7 T7
  have a0 : w8.cell? ⟨w.heap.size, 0, none⟩ = some (.int .u8 n.pos) := S8.out.q.box.cell rfl
  have a1 : w8.cell? ⟨w.heap.size, 1, none⟩ = some (.slice ka n.ks.length kc) := S8.out.q.box.cell rfl
  have a2 : w8.cell? ⟨w.heap.size, 2, none⟩ = some (.slice sa n.ss.length sc) := S8.out.q.box.cell rfl
  have a3 : w8.cell? ⟨w.heap.size, 3, none⟩ = some (.slice va n.vs.length vc) := S8.out.q.box.cell rfl
  have a4 : w8.cell? ⟨w.heap.size, 4, none⟩ = some (.int .u8 n.high) := S8.out.q.box.cell rfl
  have a5 : w8.cell? ⟨w.heap.size, 5, none⟩ = some (.bool n.bounded) := S8.out.q.box.cell rfl
  have a6 : w8.cell? ⟨w.heap.size, 6, none⟩ = some (.bool n.next) := S8.out.q.box.cell rfl
  have a7 : w8.cell? ⟨w.heap.size, 7, none⟩ = some (.int .u16 n.count) := S8.out.q.box.cell rfl
  go_wp2_with fail
  (with_reducible refine (HO.out w8).mono ?_)
  rintro e w9 ⟨rfl, b9⟩
  have S9 := Lib.hid (S8.out.next b9)
  clear b9 S8 a0 a1 a2 a3 a4 a5 a6 a7
  go_wp2_with fail
  (with_reducible refine S9.out.q.get.mono ?_)
  rintro e w10 ⟨gv, rfl, a10⟩
  have S10 := Lib.hid (S9.out.next a10.bel); have G10 := Lib.hid a10.rd
  obtain ⟨ga, gc, hgv⟩ := a10.slice
  subst hgv
  clear a10 S9
  go_wp2_with fail
  (with_reducible refine (equalU_list _ _ (nW n) G10.out S10.out.q.list).mono ?_)
  rintro e w11 ⟨rfl, b11⟩
  have S11 := Lib.hid (S10.out.next b11)
  clear b11 S10 G10
  by_cases he0 : er = 0
  · subst he0
    have AF := Lib.hid (HAF.out rfl)
    clear HAF hee
    have hRE := fun wx (hx : RefIn wx (.slice (some ⟨g, 0, none⟩) 28 28) (nW n) (ordN (nSlots n) n.count)) => refEntries_any hx
    have HRE := Lib.hid hRE; clear hRE
    have hl12 := (ok_good (nW_ok n)).len
    have HSN := Lib.hid (slotsN_ents S11.out.q.refIn)
    rw [HSN.out] at HRE
    have HST := Lib.hid (fun wx u (hu : RdSl wx 2 u (entsW (nW n) (slotsW (nW n))).length (entC (entsW (nW n) (slotsW (nW n))))) => refSet_any (w := wx) u (entsW (nW n) (slotsW (nW n))) key value hu (by simp [entsW]; omega))
    have HEL : Hid ((entsW (nW n) (slotsW (nW n))).length = (slotsW (nW n)).length) := by show (entsW (nW n) (slotsW (nW n))).length = _; simp [entsW]
    have hE12 : (setL key value (entsW (nW n) (slotsW (nW n)))).length ≤ 12 := by rw [← AF.out.ents]; simpa [entsW] using (ok_good AF.out.node).len
    generalize entsW (nW n) (slotsW (nW n)) = E0 at *
    generalize setL key value E0 = E at *
    have Q11 := Lib.hid (S11.out.next ((Below.refl _ _).drew))
    have HT := Lib.hid (thread0_any Q11.out.q.live.dev)
    have HR := Lib.hid (Q11.out.q.run (by omega) AF.out.ok AF.out.len Q11.out.pp Q11.out.op)
    have HVT := Lib.hid (fun wx u (hx : RefW wx u (fun i => runC (nC n) p (nodeOff n / 8 + i))) => refValid_true hx 768 AF.out.node)
    rw [show ((768 : Nat) : Int) = 768 from rfl] at HVT
    have HEN := Lib.hid (fun wx own' D' (hx : QSt w n ka sa va kc sc vc v lb g own' D' (57 + 8) (runC (nC n) p) wx) => hx.ents AF.out)
    have HNX := Lib.hid (fun wx own' D' (hx : QSt w n ka sa va kc sc vc v lb g own' D' (57 + 8) (runC (nC n) p) wx) => hx.nextW AF.out)
    have hnn : (nWords n 1 == nWords n 1) = true := by simp
    clear S11
    go_wp2_with fail
    go_region_held3 (fun wx => wx.cell? ⟨w.heap.size, 0, none⟩ = some (.int .u8 n.pos) ∧ wx.cell? ⟨w.heap.size, 1, none⟩ = some (.slice ka n.ks.length kc) ∧ wx.cell? ⟨w.heap.size, 2, none⟩ = some (.slice sa n.ss.length sc) ∧ wx.cell? ⟨w.heap.size, 3, none⟩ = some (.slice va n.vs.length vc) ∧ wx.cell? ⟨w.heap.size, 4, none⟩ = some (.int .u8 n.high) ∧ wx.cell? ⟨w.heap.size, 5, none⟩ = some (.bool n.bounded) ∧ wx.cell? ⟨w.heap.size, 6, none⟩ = some (.bool n.next) ∧ wx.cell? ⟨w.heap.size, 7, none⟩ = some (.int .u16 n.count) ∧ wx.cell? ⟨lb, 0, none⟩ = some (.iface 76 (.pointer (some ⟨v.tb 0, 0, none⟩))) ∧ wx.cell? ⟨lb, 1, none⟩ = some (.int .u64 (ptrN (nodeOff n) : Nat)) ∧ wx.cell? ⟨g, 1, none⟩ = some (.int .u64 (nWords n 1))) (first | (with_reducible exact Q22.out.cells) | (with_reducible exact Q21.out.cells) | (with_reducible exact Q20.out.cells) | (with_reducible exact Q19.out.cells) | (with_reducible exact Q18.out.cells) | (with_reducible exact Q17.out.cells) | (with_reducible exact Q16.out.cells) | (with_reducible exact Q15.out.cells) | (with_reducible exact Q14.out.cells) | (with_reducible exact Q11.out.q.cells)) (first | (go_at_call 34; (with_reducible refine HT.out.mono ?_); rintro e w' ⟨rfl, rfl⟩) | (go_at_call 33; (with_reducible refine HR.out.mono ?_); rintro e w14 ⟨rfl, own14, D14, q14, o14, u14⟩; have Q14 := Lib.hid q14; clear q14 o14 u14) | (go_at_call 12; (with_reducible refine (HO.out _).mono ?_); rintro e w15 ⟨rfl, b15⟩; have Q15 := Lib.hid (Q14.out.next b15); clear b15) | (go_at_call 32; (with_reducible refine Q15.out.get.mono ?_); rintro e w16 ⟨gv, rfl, a16⟩; have Q16 := Lib.hid (Q15.out.next a16.bel); have R16 : Hid (RefW w16 gv (fun i => runC (nC n) p (nodeOff n / 8 + i))) := Lib.hid ⟨a16.rd, AF.out.bd⟩; clear a16) | (go_at_call 13; (with_reducible refine (HVT.out _ _ R16.out).mono ?_); rintro e w17 ⟨rfl, b17⟩; have Q17 := Lib.hid (Q16.out.next b17); clear b17) | (go_at_call 16; (with_reducible refine (HEN.out _ _ _ Q17.out).mono ?_); rintro e w18 ⟨na, nc, rfl, r18, b18⟩; have Q18 := Lib.hid (Q17.out.next b18); have R18 := Lib.hid r18; clear b18 r18) | (go_at_call 17; (with_reducible refine (HRE.out _ Q18.out.refIn).mono ?_); rintro e w19 ⟨ev, rfl, a19⟩; have Q19 := Lib.hid (Q18.out.next a19.bel); have R19 := Lib.hid (R18.out.below a19.bel); have E19 : Hid (RdSl w19 2 ev E0.length (entC E0)) := Lib.hid (by rw [HEL.out]; exact a19.rd); clear a19) | (go_at_call 35; (with_reducible refine (HST.out _ _ E19.out).mono ?_); rintro e w20 ⟨tv, rfl, a20⟩; have Q20 := Lib.hid (Q19.out.next a20.bel); have R20 := Lib.hid (R19.out.below a20.bel); have T20 := Lib.hid a20.rd; clear a20) | (go_at_call 15; (with_reducible refine (refSame_same _ _ E R20.out T20.out (by omega)).mono ?_); rintro e w21 ⟨rfl, b21⟩; have Q21 := Lib.hid (Q20.out.next b21); clear b21) | (go_at_call 27; (with_reducible refine (HNX.out _ _ _ Q21.out).mono ?_); rintro e w22 ⟨rfl, b22⟩; have Q22 := Lib.hid (Q21.out.next b22); clear b22))
    all_goals go_wp2_with fail
    all_goals go_ret
    all_goals exact ⟨rfl, Q22.out.live.bel⟩
  · have hb0 : ((er : Int) != 0) = true := by simp; omega
    clear he0 HAF
    go_wp2_with fail
    go_ret
    exact ⟨rfl, S11.out.q.live.bel⟩
end
end Go.Proofs.YtkoijmoendepgaaGreat

/- From a walk to a given statement: a law that returns true and changes nothing that was there answers as its row says, whatever its arguments are. -/
namespace Go.Proofs.YtkoijmoendepgaaGreat
open Go.ChangeShapes Go.WideShapes Go.ChangeAt Go.RowKit

theorem own_knob : ownKnob Tryz.prog.godebug = none := by kernel_rfl
theorem laid_out : laidOutB Tryz.prog = true := by kernel_rfl

section
variable {H : Type} {enc : TypeId × Value → H}

theorem trodAll_stays {W W' : World} {sp' : Nat → Bool} : ∀ {ts : List TypeId} {vs : List Value} {ds : List (DataW H)} {ps : List MemPlace}, (∀ t ∈ ts, Tryz.prog.readableRec t = true ∧ t < Tryz.prog.types.size) →
    DataW.TrodAll enc Tryz.prog W 0 (fun _ => true) true ts vs ds ps → (∀ p ∈ ps, W.sameAt W' p) → (∀ p ∈ ps, sp' p.block = true) → DataW.TrodAll enc Tryz.prog W' 0 sp' true ts vs ds ps
  | [], [], [], _, _, h, _, _ => h
  | t :: _, _ :: _, _ :: _, _, hT, ⟨p, q, h1, h2, e⟩, hw, hs =>
    ⟨p, q, WideElems.Trod_stays laid_out (hT t (List.mem_cons.2 (.inl rfl))).1 (hT t (List.mem_cons.2 (.inl rfl))).2 h1 (fun x hx => hw x (by rw [e]; exact List.mem_append_left _ hx)) (fun x hx => hs x (by rw [e]; exact List.mem_append_left _ hx)),
      trodAll_stays (fun t ht => hT t (List.mem_cons.2 (.inr ht))) h2 (fun x hx => hw x (by rw [e]; exact List.mem_append_right _ hx)) (fun x hx => hs x (by rw [e]; exact List.mem_append_right _ hx)), e⟩

theorem law_post {f : Func} {s : ChangeSpec} {W W' : World} {args : Array Value} {ds gs : List (DataW H)} {before : List MemPlace}
    (hW : DataW.Whole enc Tryz.prog f.params.toList s.vars false W args.toList ds gs before) (hvars : s.vars = []) (hr : f.resultTypes = #[4])
    (hs : s.fn H ds = { results := [.lit (.bool true)], args := ds }) (hrd : ∀ t ∈ f.params.toList, Tryz.prog.readableRec t = true ∧ t < Tryz.prog.types.size) (hb : Below W.heap.size W W') :
    s.post enc Tryz.prog f false true false false W args (.bool true) W' := by
  have hlt : ∀ p ∈ before, p.block < W.heap.size := fun p hp => hW.lt p hp
  have hW' := hW
  obtain ⟨p, q, hA, hV, rfl, _, _⟩ := hW
  rw [hvars] at hV
  obtain ⟨rfl, rfl⟩ := trodVars_none hV
  simp only [List.append_nil] at hlt hW'
  refine ⟨ds, [], p, [], p, [], hW', ?_, ?_, ?_, World.keptBut_mono (fun x hx => ⟨hx, .inr (.inl hx)⟩) (hb.frame (· ∈ p)), fun h => (Bool.false_ne_true h).elim⟩
  · rw [hr, List.append_nil, hs]; exact trodAll_mk1 (shut_bool Tryz.underlying4 _)
  · rw [List.append_nil, hs]
    exact trodAll_stays hrd hA (fun x hx => hb.same (hlt x hx)) (fun x hx => by simpa using hlt x hx)
  · rw [hvars, List.append_nil, hs]; rfl

/-- A word that came in. -/
theorem u64_nat {x : Int} (h : (Lit.int .u64 x).wf = true) : ∃ n : Nat, x = n ∧ n < 18446744073709551616 := by
  simp [Lit.wf, IntKind.min, IntKind.max, IntKind.signed, IntKind.bits] at h
  exact ⟨x.toNat, by omega, by omega⟩
theorem cells_u64 : Tryz.prog.cellsOf 28 = 1 := by kernel_rfl
set_option maxRecDepth 100000 in
/-- A slice of words that came in. -/
theorem open_u64s {W : World} {base b : Nat} {sp : Nat → Bool} {hd : Bool} {v : Value} {d : DataW H} {p : List MemPlace} (hv : Value.okWide Tryz.prog W .any b 23 v) (h : DataW.Trod enc Tryz.prog W base sp hd 23 v d p) :
    ∃ a c xs, v = .slice a xs.length c ∧ RdSl W 1 (.slice a xs.length c) xs.length (intsU xs) ∧ xs.length ≤ maxLen := by
  obtain ⟨a0, len, cap, rfl⟩ := okWide_slice Tryz.underlying23 hv
  obtain ⟨fuel, hf⟩ := h
  rcases open_ints Tryz.underlying23 Tryz.underlying28 cells_u64 hf with ⟨hcs, _⟩ | ⟨a, len', cap', zs, hcs, _, hl, hm, hz, _, hcell, _⟩
  · simp [Value.cells] at hcs
    obtain ⟨rfl, rfl, rfl⟩ := hcs
    exact ⟨none, 0, [], rfl, (OwnSl.nil W 0 1).rd, by simp⟩
  · simp [Value.cells] at hcs
    obtain ⟨rfl, rfl, rfl⟩ := hcs
    have hlen : (zs.take len).length = len := by
      rw [List.length_take, hz]; split <;> omega
    refine ⟨some a, cap, zs.take len, by rw [hlen], ?_, by omega⟩
    rw [hlen]
    refine ⟨by rw [intsU, List.length_map, hlen, Nat.mul_one], some a, cap, rfl, hl, ?_⟩
    by_cases h0 : len = 0
    · left; simp [intsU, h0]
    · have hz1 : len ≤ zs.length := by rw [hz]; split <;> omega
      have c0 := hcell 0 (by omega)
      have hsp := World.cell?_spot c0
      simp only [Addr.add, if_true] at hsp
      refine .inr ⟨a.block, a.off, by rw [← hsp], fun j u hu => ?_⟩
      have hj : j < len := by
        rcases Nat.lt_or_ge j len with h | h
        · exact h
        · rw [List.getElem?_eq_none (by simp [intsU]; omega)] at hu; cases hu
      have hcj := hcell j (by omega)
      have ea : a.add j = ⟨a.block, a.off + j, none⟩ := by
        unfold Addr.add; split
        · rename_i e; subst e; rw [← hsp]; rfl
        · rfl
      rw [← ea, hcj]
      simp only [intsU, List.getElem?_map, List.getElem?_take, if_pos hj] at hu
      rw [List.getElem?_eq_getElem (by omega)] at hu
      rw [List.getD, List.getElem?_eq_getElem (by omega)]
      simpa using hu
end
end Go.Proofs.YtkoijmoendepgaaGreat

/- A node that came in as an argument: opened. -/
namespace Go.Proofs.YtkoijmoendepgaaGreat
open Go.ChangeShapes Go.WideShapes Go.ChangeAt Go.RowKit Go.Joins Go.Deep

section
variable {H : Type} {enc : TypeId × Value → H} {P : Program}
/-- A struct of one-cell fields, by value, opened: each field's value and its reading. -/
theorem open_fields {W : World} {base b : Nat} {sp : Nat → Bool} {hd : Bool} {r : Reach} {t : TypeId} {fs : Array Field} {v : Value} {d : DataW H} {p : List MemPlace} (hs : P.underlying t = some (.struct fs)) (hone : oneCellFields P fs = true)
    (hC : P.cellsOf t = fs.size) (hv : Value.okWide P W r b t v) (h : DataW.Trod enc P W base sp hd t v d p) :
    ∃ (l : List Value) (n : Nat), v = .agg l.toArray ∧ l.length = fs.size ∧ ∀ (j : Nat) (f : Field), fs[j]? = some f → ∃ (c : Value) (y : DataW H × List MemPlace), l[j]? = some c ∧ DataW.trod enc P W base sp hd n f.type [c] = some y := by
  obtain ⟨cs, rfl, hsz⟩ := okWide_struct hs hv
  obtain ⟨l⟩ := cs
  obtain ⟨fuel, hf⟩ := h
  obtain ⟨xs, n, _, hx, _, hlen, hg⟩ := DataW.trod_struct hs hf
  have hl : l.length = fs.size := by simpa using hsz.trans hC
  refine ⟨l, n, rfl, hl, fun j f hj => ?_⟩
  obtain ⟨ho, hk⟩ := hone_of hone j f hj
  have hjl : j < fs.size := (Array.getElem?_eq_some_iff.1 hj).1
  have h1 := hg j f hj
  rw [ho, hk] at h1
  have hone' : (l.drop j).take 1 = [l[j]'(by omega)] := by
    rw [List.drop_eq_getElem_cons (by omega)]; rfl
  have hys : xs[j]? = some (xs[j]'(by omega)) := List.getElem?_eq_getElem (by omega)
  refine ⟨l[j]'(by omega), xs[j]'(by omega), List.getElem?_eq_getElem (by omega), ?_⟩
  rw [← hys, ← h1, ← hone']
  rfl
/-- A slice of numbers that came in. -/
theorem open_nums {W : World} {base : Nat} {sp : Nat → Bool} {hd : Bool} {t e : TypeId} {k : IntKind} {fuel : Nat} {v : Value} {x : DataW H × List MemPlace} (ht : P.underlying t = some (.slice e)) (he : P.underlying e = some (.int k)) (hc : P.cellsOf e = 1)
    (hf : DataW.trod enc P W base sp hd fuel t [v] = some x) :
    ∃ (a : Option Addr) (c : Nat) (xs : List Int), v = .slice a xs.length c ∧ RdSl W 1 (.slice a xs.length c) xs.length (xs.map fun n => .int k n) ∧ xs.length ≤ maxLen ∧ ∀ n ∈ xs, (Lit.int k n).wf = true := by
  rcases open_ints ht he hc hf with ⟨hcs, _⟩ | ⟨a, len', cap', zs, hcs, _, hl, hm, hz, _, hcell, hwf⟩
  · simp at hcs
    subst hcs
    exact ⟨none, 0, [], rfl, (OwnSl.nil W 0 1).rd, by simp, by simp⟩
  · simp at hcs
    subst hcs
    have hlen : (zs.take len').length = len' := by
      rw [List.length_take, hz]; split <;> omega
    refine ⟨some a, cap', zs.take len', by rw [hlen], ?_, by omega, fun n hn => hwf n (List.mem_of_mem_take hn)⟩
    rw [hlen]
    refine ⟨by rw [List.length_map, hlen, Nat.mul_one], some a, cap', rfl, hl, ?_⟩
    by_cases h0 : len' = 0
    · left; simp [h0]
    · have hz1 : len' ≤ zs.length := by rw [hz]; split <;> omega
      have c0 := hcell 0 (by omega)
      have hsp := World.cell?_spot c0
      simp only [Addr.add, if_true] at hsp
      refine .inr ⟨a.block, a.off, by rw [← hsp], fun j u hu => ?_⟩
      have hj : j < len' := by
        rcases Nat.lt_or_ge j len' with h | h
        · exact h
        · rw [List.getElem?_eq_none (by simp; omega)] at hu; cases hu
      have hcj := hcell j (by omega)
      have ea : a.add j = ⟨a.block, a.off + j, none⟩ := by
        unfold Addr.add; split
        · rename_i e; subst e; rw [← hsp]; rfl
        · rfl
      rw [← ea, hcj]
      simp only [List.getElem?_map, List.getElem?_take, if_pos hj] at hu
      rw [List.getElem?_eq_getElem (by omega)] at hu
      rw [List.getD, List.getElem?_eq_getElem (by omega)]
      simpa using hu
theorem cells_u8 : Tryz.prog.cellsOf 5 = 1 := by kernel_rfl
theorem u8_nat {x : Int} (h : (Lit.int .u8 x).wf = true) : ∃ n : Nat, x = n ∧ n < 256 := by
  simp [Lit.wf, IntKind.min, IntKind.max, IntKind.signed, IntKind.bits] at h
  exact ⟨x.toNat, by omega, by omega⟩
theorem u16_nat {x : Int} (h : (Lit.int .u16 x).wf = true) : ∃ n : Nat, x = n ∧ n < 65536 := by
  simp [Lit.wf, IntKind.min, IntKind.max, IntKind.signed, IntKind.bits] at h
  exact ⟨x.toNat, by omega, by omega⟩
theorem nums_nat (k : IntKind) (xs : List Int) (B : Nat) (h : ∀ x ∈ xs, ∃ n : Nat, x = n ∧ n < B) : ∃ l : List Nat, (xs.map fun n => Value.int k n) = natsK k l ∧ l.length = xs.length ∧ ∀ n ∈ l, n < B := by
  refine ⟨xs.map Int.toNat, ?_, by simp, fun n hn => ?_⟩
  · unfold natsK
    rw [List.map_map]
    refine List.map_congr_left fun x hx => ?_
    obtain ⟨n, rfl, _⟩ := h x hx
    simp
  · simp at hn
    obtain ⟨x, hx, rfl⟩ := hn
    obtain ⟨n, rfl, hn⟩ := h x hx
    simpa using hn
set_option maxRecDepth 100000 in
theorem open_node {W : World} {base b : Nat} {sp : Nat → Bool} {hd : Bool} {r : Reach} {v : Value} {d : DataW H} {p : List MemPlace} (hv : Value.okWide Tryz.prog W r b 26 v) (h : DataW.Trod enc Tryz.prog W base sp hd 26 v d p) :
    ∃ (n : NodeP) (ka sa va : Option Addr) (kc sc vc : Nat), v = .agg (nodeAgg n ka sa va kc sc vc) ∧ NodeIn W n ka sa va kc sc vc := by
  obtain ⟨l, n, rfl, hl, hf⟩ := open_fields Tryz.underlying26 (by kernel_rfl) (by kernel_rfl) hv h
  match l, hl with
  | [c0, c1, c2, c3, c4, c5, c6, c7], _ =>
    obtain ⟨_, y0, e0, t0⟩ := hf 0 _ rfl; cases e0
    obtain ⟨_, y1, e1, t1⟩ := hf 1 _ rfl; cases e1
    obtain ⟨_, y2, e2, t2⟩ := hf 2 _ rfl; cases e2
    obtain ⟨_, y3, e3, t3⟩ := hf 3 _ rfl; cases e3
    obtain ⟨_, y4, e4, t4⟩ := hf 4 _ rfl; cases e4
    obtain ⟨_, y5, e5, t5⟩ := hf 5 _ rfl; cases e5
    obtain ⟨_, y6, e6, t6⟩ := hf 6 _ rfl; cases e6
    obtain ⟨_, y7, e7, t7⟩ := hf 7 _ rfl; cases e7
    obtain ⟨x0, h0, _, w0⟩ := DataW.trod_int Tryz.underlying5 t0
    obtain ⟨x4, h4, _, w4⟩ := DataW.trod_int Tryz.underlying5 t4
    obtain ⟨x5, h5, _⟩ := DataW.trod_bool Tryz.underlying4 t5
    obtain ⟨x6, h6, _⟩ := DataW.trod_bool Tryz.underlying4 t6
    obtain ⟨x7, h7, _, w7⟩ := DataW.trod_int Tryz.underlying24 t7
    simp only [List.cons.injEq, and_true] at h0 h4 h5 h6 h7
    subst h0 h4 h5 h6 h7
    obtain ⟨n0, rfl, b0⟩ := u8_nat w0
    obtain ⟨n4, rfl, b4⟩ := u8_nat w4
    obtain ⟨n7, rfl, b7⟩ := u16_nat w7
    obtain ⟨ka, kc, ks, rfl, rk, lk, wk⟩ := open_nums Tryz.underlying22 Tryz.underlying5 cells_u8 t1
    obtain ⟨sa, sc, ss, rfl, rs, ls, ws⟩ := open_nums Tryz.underlying22 Tryz.underlying5 cells_u8 t2
    obtain ⟨va, vc, vs, rfl, rv, lv, wv⟩ := open_nums Tryz.underlying23 Tryz.underlying28 cells_u64 t3
    obtain ⟨kn, ek, elk, bk⟩ := nums_nat .u8 ks 256 (fun x hx => u8_nat (wk x hx))
    obtain ⟨sn, es, els, bs⟩ := nums_nat .u8 ss 256 (fun x hx => u8_nat (ws x hx))
    rw [ek, ← elk] at rk; rw [es, ← els] at rs
    rw [← elk] at lk ⊢; rw [← els] at ls ⊢
    refine ⟨⟨n0, kn, sn, vs, n4, x5, x6, n7⟩, ka, sa, va, kc, sc, vc, rfl, ⟨rk, rs, rv, lk, ls, lv, bk, bs, fun x hx => ?_, b0, b4, b7⟩⟩
    obtain ⟨m, rfl, hm⟩ := u64_nat (wv x hx)
    omega
end
end Go.Proofs.YtkoijmoendepgaaGreat
