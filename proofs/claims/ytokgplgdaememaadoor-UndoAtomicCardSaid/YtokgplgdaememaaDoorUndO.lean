/- The law's offset, offsets, told, program, first0. -/
import Derived.Test.YtokgplgdaememaaDoorUndRA
namespace Go.Proofs.YtokgplgdaememaaDoor
open Go.RowKit Go.Maps

def offN (n : Nat) : Nat := if n < 24 then 8 * n else if n < 152 then 512 + 8 * (n - 24) else if n < 192 then 192 + 8 * (n - 152) else if n < 230 then n else 1536 + 8 * (n - 230)
def offsL (l : List Nat) (good : Bool) : List Nat := (l.take 24).map fun n => offN (if good then n % 152 else n)
theorem offN_good (n : Nat) (h : n < 152) : allowedB 1536 192 5 (offN n) = true := by
  unfold allowedB offN
  apply decide_eq_true
  split
  · omega
  · first | omega | (rw [if_pos h]; omega)
theorem offN_lt (n : Nat) (h : n < 256) : offN n < 2048 := by unfold offN; split; omega; split; omega; split; omega; split <;> omega
theorem offsL_lt (l : List Nat) (g : Bool) (h : ∀ n ∈ l, n < 256) : ∀ o ∈ offsL l g, o < 2048 := fun o ho => by
  obtain ⟨n, hn, rfl⟩ := List.mem_map.1 ho
  have := h n (List.mem_of_mem_take hn)
  refine offN_lt _ ?_
  split <;> omega
theorem offsL_good (l : List Nat) : ∀ o ∈ offsL l true, allowedB 1536 192 5 o = true := fun o ho => by
  obtain ⟨n, hn, rfl⟩ := List.mem_map.1 ho
  exact offN_good _ (by simp; omega)
theorem offsL_len (l : List Nat) (g : Bool) : (offsL l g).length ≤ 24 := by unfold offsL; rw [List.length_map, List.length_take]; omega
def natsB (l : List Nat) : List Value := l.map fun (n : Nat) => Value.int .u8 n
theorem natsB_get {l : List Nat} {i n : Nat} (h : l[i]? = some n) : (natsB l)[i]? = some (.int .u8 n) := by simp [natsB, h]
section
variable {w : World}
set_option maxHeartbeats 1000000 in
theorem l16offset_any (n : Nat) (hn : n < 256) : Calls Tryd.prog 56 #[.int .u8 n] w fun r w' => r = .returned (.int .u64 (offN n)) ∧ w = w' := by
  by_cases h1 : n < 24
  · have h1' : (n : Int) < 24 := by omega
    have E : Hid (((offN n : Nat) : Int) = 8 * (n : Int)) := by show ((offN n : Nat) : Int) = _; unfold offN; rw [if_pos h1]; omega
    rw [E.out]
    go_enter Tryd.func56, Tryd.ntmps56
    go_wp2_with fail
    go_ret
    exact ⟨rfl, rfl⟩
  · have h1' : ¬ (n : Int) < 24 := by omega
    by_cases h2 : n < 152
    · have h2' : (n : Int) < 152 := by omega
      have E : Hid (((offN n : Nat) : Int) = 512 + 8 * ((n : Int) - 24)) := by show ((offN n : Nat) : Int) = _; unfold offN; rw [if_neg h1, if_pos h2]; omega
      have hu := u8_in ((n : Int) - 24) (by omega)
      rw [E.out]
      go_enter Tryd.func56, Tryd.ntmps56
      go_wp2_with fail
      go_ret
      exact ⟨rfl, rfl⟩
    · have h2' : ¬ (n : Int) < 152 := by omega
      by_cases h3 : n < 192
      · have h3' : (n : Int) < 192 := by omega
        have E : Hid (((offN n : Nat) : Int) = 192 + 8 * ((n : Int) - 152)) := by show ((offN n : Nat) : Int) = _; unfold offN; rw [if_neg h1, if_neg h2, if_pos h3]; omega
        have hu := u8_in ((n : Int) - 152) (by omega)
        rw [E.out]
        go_enter Tryd.func56, Tryd.ntmps56
        go_wp2_with fail
        go_ret
        exact ⟨rfl, rfl⟩
      · have h3' : ¬ (n : Int) < 192 := by omega
        by_cases h4 : n < 230
        · have h4' : (n : Int) < 230 := by omega
          have E : Hid (((offN n : Nat) : Int) = (n : Int)) := by show ((offN n : Nat) : Int) = _; unfold offN; rw [if_neg h1, if_neg h2, if_neg h3, if_pos h4]
          rw [E.out]
          go_enter Tryd.func56, Tryd.ntmps56
          go_wp2_with fail
          go_ret
          exact ⟨rfl, rfl⟩
        · have h4' : ¬ (n : Int) < 230 := by omega
          have E : Hid (((offN n : Nat) : Int) = 1536 + 8 * ((n : Int) - 230)) := by show ((offN n : Nat) : Int) = _; unfold offN; rw [if_neg h1, if_neg h2, if_neg h3, if_neg h4]; omega
          have hu := u8_in ((n : Int) - 230) (by omega)
          rw [E.out]
          go_enter Tryd.func56, Tryd.ntmps56
          go_wp2_with fail
          go_ret
          exact ⟨rfl, rfl⟩
theorem offsL_snoc (l : List Nat) (k n : Nat) (g : Bool) (hk : k < 24) (h : l[k]? = some n) : offsL (l.take (k + 1)) g = offsL (l.take k) g ++ [offN (if g then n % 152 else n)] := by
  unfold offsL
  rw [List.take_take, List.take_take, show min 24 (k + 1) = k + 1 by omega, show min 24 k = k by omega, take_snoc_get l k n h, List.map_append]; rfl
set_option maxRecDepth 100000 in
set_option maxHeartbeats 4000000 in
theorem l16offsets_any (sv : Value) (l : List Nat) (g : Bool) (h : RdSl w 1 sv l.length (natsB l)) (hb : ∀ n ∈ l, n < 256) (hl : l.length ≤ maxLen) :
    Calls Tryd.prog 18 #[sv, .bool g] w fun r w' => ∃ ov, r = .returned ov ∧ Acc w w.heap.size w' 35 1 ov (offsL l g).length (natsU (offsL l g)) := by
  have H := Lib.hid h; have HB := Lib.hid hb; clear hb
  obtain ⟨_, sa, sc, rfl, hsc, _⟩ := h
  obtain ⟨i0, hi0, hz0, hz1, hz2⟩ := info_parts infoU64
  have I := Lib.hid (And.intro hi0 (And.intro hz0 (And.intro hz1 hz2))); clear hi0 hz0 hz1 hz2
  have hlm := hl
  unfold maxLen at hl
  generalize hn : l.length = n at *
  have HN := Lib.hid hn; clear hn
  have HO := Lib.hid (fun (wx : World) (m : Nat) (hm : m < 256) => l16offset_any (w := wx) m hm)
  go_enter Tryd.func18, Tryd.ntmps18
  go_wp2_with fail
  go_loopw [5, 10] (fun ov y wr => ∃ k : Nat, k ≤ n ∧ k ≤ 24 ∧ y = .int .i64 k ∧ Acc w w.heap.size wr 35 1 ov k (natsU (offsL (l.take k) g))) (fun _ y _ => n - (intOf y).toNat)
  case atStart => exact ⟨0, by omega, by omega, rfl, by simpa [offsL, natsU] using Acc.nil w _ _ _ _ (Below.refl _ _) (Nat.le_refl _)⟩
  case round =>
    obtain ⟨k, hk, hk24, rfl, ha⟩ := hrel
    obtain ⟨oa, oc, hov⟩ := ha.slice
    subst hov
    have A := Lib.hid ha; clear ha
    by_cases hlt : k < n
    · have hk' : (k : Int) < n := by omega
      obtain ⟨m, hm⟩ : ∃ m, l[k]? = some m := ⟨_, List.getElem?_eq_getElem (by rw [HN.out]; exact hlt)⟩
      obtain ⟨_, a', c', e', _, hE⟩ := H.out.below A.out.bel
      cases e'
      obtain ⟨eb, eo, rfl, hE2⟩ := rd_at hE (natsB_get hm)
      have c1 := hE2 _ _ (natsB_get hm)
      have hm256 := HB.out m (List.mem_of_getElem? hm)
      have HM := Lib.hid hm
      clear hE hE2 hm
      by_cases h24 : k = 24
      · have hb24 : ((k : Int) == 24) = true := by simp; omega
        have HF : Hid (offsL (l.take k) g = offsL l g) := by show offsL (l.take k) g = _; unfold offsL; rw [List.take_take, h24]; rfl
        have HL : Hid ((offsL l g).length = k) := by show (offsL l g).length = k; unfold offsL; rw [List.length_map, List.length_take, HN.out]; omega
        clear h24
        go_wp2_with fail
        go_ret
        exact ⟨_, rfl, A.out.congr HL.out.symm (by rw [HF.out])⟩
      · have hb24 : ((k : Int) == 24) = false := by simp; omega
        have HS := Lib.hid (offsL_snoc l k m g (by omega) HM.out)
        have hk24' : k < 24 := by omega
        clear h24
        cases g
        · have HO1 := Lib.hid (fun wx => HO.out wx m hm256)
          have e1 : offN (if false = true then m % 152 else m) = offN m := rfl
          rw [e1] at HS
          generalize offN m = t at *
          go_wp2_with fail
          (with_reducible refine (HO1.out _).mono ?_)
          rintro e w' ⟨rfl, rfl⟩
          go_wp2_with (at_builtin; refine wpList_append_sl _ rfl _ _ 44 rfl 35 i0 _ 1 8 Tryd.underlying44 I.out.1 I.out.2.1 I.out.2.2.1 I.out.2.2.2 rfl (by decide) _ k (natsU (offsL (l.take k) false)) rfl (by exact A.out.own.alloc _) _ 1 (natsU [t]) rfl (by exact RdSl.newAt _ _ _ 1 1 _ (by simp) rfl) (natsU_one _) (by unfold maxLen; omega) (by omega) ?_)
          intro v1 w1 o1 g1 b1 n1
          have A1 := Lib.hid (A.out.next (below_alloc wr _) o1 g1 b1 (by omega)); clear o1 g1 b1 n1
          go_wp2_with fail
          go_roundw
          case rel => exact ⟨k + 1, by omega, by omega, by go_num, A1.out.congr rfl (by rw [HS.out]; simp [natsU])⟩
          case measure => simp [intOf]; omega
        · have ho1 := fun wx => HO.out wx (m % 152) (by omega)
          rw [show ((m % 152 : Nat) : Int) = (m : Int) % 152 by omega] at ho1
          have HO1 := Lib.hid ho1; clear ho1
          have e1 : offN (if true = true then m % 152 else m) = offN (m % 152) := rfl
          rw [e1] at HS
          generalize offN (m % 152) = t at *
          go_wp2_with fail
          (with_reducible refine (HO1.out _).mono ?_)
          rintro e w' ⟨rfl, rfl⟩
          go_wp2_with (at_builtin; refine wpList_append_sl _ rfl _ _ 44 rfl 35 i0 _ 1 8 Tryd.underlying44 I.out.1 I.out.2.1 I.out.2.2.1 I.out.2.2.2 rfl (by decide) _ k (natsU (offsL (l.take k) true)) rfl (by exact A.out.own.alloc _) _ 1 (natsU [t]) rfl (by exact RdSl.newAt _ _ _ 1 1 _ (by simp) rfl) (natsU_one _) (by unfold maxLen; omega) (by omega) ?_)
          intro v1 w1 o1 g1 b1 n1
          have A1 := Lib.hid (A.out.next (below_alloc wr _) o1 g1 b1 (by omega)); clear o1 g1 b1 n1
          go_wp2_with fail
          go_roundw
          case rel => exact ⟨k + 1, by omega, by omega, by go_num, A1.out.congr rfl (by rw [HS.out]; simp [natsU])⟩
          case measure => simp [intOf]; omega
    · obtain rfl : k = n := by omega
      have HF : Hid (offsL (l.take k) g = offsL l g) := by show offsL (l.take k) g = _; rw [List.take_of_length_le (by rw [HN.out]; omega)]
      have HL : Hid ((offsL l g).length = k) := by show (offsL l g).length = k; unfold offsL; rw [List.length_map, List.length_take, HN.out]; omega
      go_wp2_with fail
      go_ret
      exact ⟨_, rfl, A.out.congr HL.out.symm (by rw [HF.out])⟩
set_option maxRecDepth 100000 in
set_option maxHeartbeats 2000000 in
theorem program16_any (sv : Value) (l : List (Nat × Nat × Int)) (h : RdSl w 3 sv l.length (instrC l)) (hl : l.length ≤ 100000) :
    Calls Tryd.prog 34 #[sv] w fun r w' => ∃ ov, r = .returned ov ∧ Acc w w.heap.size w' 55 3 ov l.length (instrC l) := by
  have H := Lib.hid h
  obtain ⟨_, a, c, rfl, hc, _⟩ := h
  obtain ⟨k0, hi0, hz0, hz1, hz2⟩ := info_parts infoRI
  have I2 := Lib.hid (And.intro hi0 (And.intro hz0 (And.intro hz1 hz2))); clear hi0 hz0 hz1 hz2
  generalize hn : l.length = n at *
  have HN := Lib.hid hn; clear hn
  go_enter Tryd.func34, Tryd.ntmps34
  go_wp2_with fail
  go_loopw [3, 8] (fun ov y wr => ∃ k : Nat, k ≤ n ∧ y = .int .i64 k ∧ Acc w w.heap.size wr 55 3 ov k (instrC (l.take k))) (fun _ y _ => n - (intOf y).toNat)
  case atStart => exact ⟨0, by omega, rfl, Acc.nil w _ _ _ _ (Below.refl _ _) (Nat.le_refl _)⟩
  case round =>
    obtain ⟨k, hk, rfl, ha⟩ := hrel
    obtain ⟨oa, oc, rfl⟩ := ha.slice
    have A := Lib.hid ha; clear ha
    by_cases hlt2 : k < n
    · have hk' : (k : Int) < n := by omega
      obtain ⟨e, he⟩ : ∃ e, l[k]? = some e := ⟨_, List.getElem?_eq_getElem (by rw [HN.out]; exact hlt2)⟩
      obtain ⟨_, a', c', e', _, hE⟩ := H.out.below A.out.bel
      cases e'
      have hg := instrC_get l k e he
      obtain ⟨eb, eo, rfl, hE2⟩ := rd_at hE hg.1
      have c1 := hE2 _ _ hg.1; have c2 := hE2 _ _ hg.2.1; have c3 := hE2 _ _ hg.2.2
      rw [← Nat.add_assoc] at c2 c3
      have HT := Lib.hid (take_snocI l k e he)
      clear hE hE2 he hg
      obtain ⟨e1, e2, e3⟩ := e
      go_wp2_with (at_builtin; refine wpList_append_sl _ rfl _ _ 52 rfl 55 k0 _ 3 24 Tryd.underlying52 I2.out.1 I2.out.2.1 I2.out.2.2.1 I2.out.2.2.2 rfl (by decide) _ k (instrC (l.take k)) rfl (by exact (A.out.own.alloc _).alloc _) _ 1 (instrC [(e1, e2, e3)]) rfl (by exact RdSl.newAt _ _ _ 3 1 _ (by simp) rfl) (instrC_one _) (by unfold maxLen; omega) (by omega) ?_)
      intro v1 w1 o1 g1 b1 n1
      have A1 := Lib.hid (A.out.next (below_twice wr _ _) o1 g1 b1 (by omega)); clear o1 g1 b1 n1
      go_wp2_with fail
      go_roundw
      case rel => exact ⟨k + 1, by omega, by go_num, A1.out.congr rfl (by rw [HT.out, instrC_append])⟩
      case measure => simp [intOf]; omega
    · obtain rfl : k = n := by omega
      go_wp2_with fail
      go_ret
      exact ⟨_, rfl, A.out.congr rfl (by rw [List.take_of_length_le (by rw [HN.out]; omega)])⟩
set_option maxRecDepth 100000 in
set_option maxHeartbeats 2000000 in
theorem told16_any (sv : Value) (l : List (Nat × Int)) (h : RdSl w 2 sv l.length (flat l)) (hl : l.length ≤ 100000) (hlt : ∀ k, sv.ownBlock = some k → k < w.heap.size) :
    Calls Tryd.prog 27 #[sv] w fun r w' => ∃ ov, r = .returned ov ∧ Acc w w.heap.size w' 59 2 ov l.length (flat l) := by
  have H := Lib.hid h
  obtain ⟨_, a, c, rfl, hc, _⟩ := h
  obtain ⟨k0, hi0, hz0, hz1, hz2⟩ := info_parts infoRW
  have I2 := Lib.hid (And.intro hi0 (And.intro hz0 (And.intro hz1 hz2))); clear hi0 hz0 hz1 hz2
  generalize hn : l.length = n at *
  have HN := Lib.hid hn; clear hn
  go_enter Tryd.func27, Tryd.ntmps27
  go_wp2_with fail
  go_loopw [3, 8] (fun ov y wr => ∃ k : Nat, k ≤ n ∧ y = .int .i64 k ∧ Acc w w.heap.size wr 59 2 ov k (flat (l.take k))) (fun _ y _ => n - (intOf y).toNat)
  case atStart => exact ⟨0, by omega, rfl, Acc.nil w _ _ _ _ (Below.refl _ _) (Nat.le_refl _)⟩
  case round =>
    obtain ⟨k, hk, rfl, ha⟩ := hrel
    obtain ⟨oa, oc, rfl⟩ := ha.slice
    have A := Lib.hid ha; clear ha
    by_cases hlt2 : k < n
    · have hk' : (k : Int) < n := by omega
      obtain ⟨e, he⟩ : ∃ e, l[k]? = some e := ⟨_, List.getElem?_eq_getElem (by rw [HN.out]; exact hlt2)⟩
      obtain ⟨_, a', c', e', _, hE⟩ := H.out.below A.out.bel
      cases e'
      obtain ⟨eb, eo, rfl, hE2⟩ := rd_at hE (flat_get' l k e he).1
      have c1 := hE2 _ _ (flat_get' l k e he).1; have c2 := hE2 _ _ (flat_get' l k e he).2
      rw [← Nat.add_assoc] at c2
      have HT := Lib.hid (take_snoc_get l k e he)
      clear hE hE2 he
      obtain ⟨e1, e2⟩ := e
      go_wp2_with (at_builtin; refine wpList_append_sl _ rfl _ _ 50 rfl 59 k0 _ 2 16 Tryd.underlying50 I2.out.1 I2.out.2.1 I2.out.2.2.1 I2.out.2.2.2 rfl (by decide) _ k (flat (l.take k)) rfl (by exact (A.out.own.alloc _).alloc _) _ 1 (flat [(e1, e2)]) rfl (by exact RdSl.newAt _ _ _ 2 1 _ (by simp) rfl) (flat_one _) (by unfold maxLen; omega) (by omega) ?_)
      intro v1 w1 o1 g1 b1 n1
      have A1 := Lib.hid (A.out.next (below_twice wr _ _) o1 g1 b1 (by omega)); clear o1 g1 b1 n1
      go_wp2_with fail
      go_roundw
      case rel => exact ⟨k + 1, by omega, by go_num, A1.out.congr rfl (by rw [HT.out, flat_append])⟩
      case measure => simp [intOf]; omega
    · obtain rfl : k = n := by omega
      go_wp2_with fail
      go_ret
      exact ⟨_, rfl, A.out.congr rfl (by rw [List.take_of_length_le (by rw [HN.out]; omega)])⟩
set_option maxRecDepth 100000 in
set_option maxHeartbeats 1000000 in
theorem first0_any (h : Wh w) : Calls Tryd.prog 29 #[] w fun r w' => ∃ g, r = .returned (.slice (some ⟨g, 0, none⟩) 1536 1536) ∧ Row w' g 1536 5 (fun i => .int .u8 (byteAt W0 i)) ∧ w.heap.size ≤ g ∧ Below w.heap.size w w' := by
  have HM := Lib.hid (made16 h); clear h
  have hcur := fun (wx : World) (v : DV) (own : Nat → Option Role) (hd : IsDev wx v own D0) => current_any hd D0_vb
  have HC := Lib.hid hcur; clear hcur
  go_enter Tryd.func29, Tryd.ntmps29
  go_wp2_with fail
  (with_reducible refine HM.out.mono ?_)
  rintro e w1 ⟨v, own, lb, rfl, l1⟩
  have L1 := Lib.hid l1; clear l1 HM
  go_wp2_with fail
  (with_reducible refine (HC.out _ _ _ L1.out.dev).mono ?_)
  rintro e w2 ⟨rfl, r2, b2⟩
  have R2 : Hid (Row w2 w1.heap.size 1536 5 (fun i => .int .u8 (byteAt W0 i)) ∧ Below w1.heap.size w1 w2) := ⟨r2, b2⟩
  clear r2 b2 HC
  rw [show 64 * D0.n = 1536 from rfl]
  go_wp2_with fail
  go_ret
  exact ⟨_, rfl, R2.out.1, L1.out.bel.size, L1.out.bel.trans (R2.out.2.mono L1.out.bel.size)⟩
end
end Go.Proofs.YtokgplgdaememaaDoor
