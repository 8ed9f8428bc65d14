/- The walk of the redo log's last: a map of the last places, then the writes that stand there. -/
import Derived.Test.YtfigngoojphffaaDoorRdoA
namespace Go.Proofs.YtfigngoojphffaaDoor
open Go.RowKit Go.Maps

/-- The map says where each offset occurs last among the first k writes. -/
def FinM (N : DataW Unit) (l : List (Nat × Int)) (k : Nat) : Prop := ∀ x : Nat, N.atKey (.int .u64 (x : Int)) (.lit (.int .i64 0)) = .lit (.int .i64 (finI l k x))
theorem FinM.nil (l : List (Nat × Int)) : FinM (.map []) l 0 := fun x => by simp [DataW.atKey, finI]
theorem FinM.put {N : DataW Unit} {l : List (Nat × Int)} {k : Nat} {e : Nat × Int} (h : FinM N l k) (hN : IsMap N) (he : l[k]? = some e) : FinM (N.put (.int .u64 (e.1 : Int)) (.lit (.int .i64 (k : Int)))) l (k + 1) := fun x => by
  have hd : l.getD k (0, 0) = e := by simp [List.getD, he]
  show _ = DataW.lit (.int .i64 (if (l.getD k (0, 0)).1 = x then (k : Int) else finI l k x))
  rw [hd]
  by_cases h1 : e.1 = x
  · subst h1
    rw [atKey_put_same hN (show WideAt.IsKeyLit (.int .u64 (e.1 : Int)) from trivial), if_pos rfl]
  · rw [atKey_put_other (by intro h; injection h with _ h; exact h1 (by omega)), h x, if_neg h1]
theorem lawU64 : Keyed Tryd.prog 40 := int_keyed Tryd.underlying40
theorem zeroI (w : World) : (zeroValue 3).run Tryd.prog w = .ok (.int .i64 0) w := by kernel_rfl
section
variable {w : World}
theorem look_fin {b m : Nat} {N : DataW Unit} {l : List (Nat × Int)} {k : Nat} (h : w.ownsMap Tryd.prog 40 (plainElem Tryd.prog 3) b m N) (hK : FinM N l k) (o : Nat) (ho : o < 18446744073709551616) :
    (Instr.lookup 151 (.map (some b)) (.int .u64 (o : Int)) false).run Tryd.prog w = .ok (.int .i64 (finI l k o)) w := by
  obtain ⟨c, hrun, hat, _⟩ := h.lookup_int lawU64 Tryd.underlying151 Tryd.underlying3 (zeroI w) (show keyOf Tryd.prog 40 (.int .u64 (o : Int)) = some (.int .u64 (o : Int)) from keyOf_int_mk Tryd.underlying40 (WalkArith.wf_u64 (by omega)))
  rw [hK o] at hat
  simp only [DataW.lit.injEq, Lit.int.injEq, true_and] at hat
  rw [hrun, hat]
/-- Where last stands: what it keeps, and the map. -/
structure LsSt (w wr : World) (fv : Value) (F : List (Nat × Int)) (mb : Nat) (l : List (Nat × Int)) (k : Nat) : Prop where
  f : Acc w w.heap.size wr 67 2 fv F.length (flat F)
  m : ∃ (N : DataW Unit) (m : Nat), m ≤ k ∧ wr.ownsMap Tryd.prog 40 (plainElem Tryd.prog 3) mb m N ∧ FinM N l k
  new : w.heap.size ≤ mb
  nf : fv.ownBlock ≠ some mb
variable {wr wz w1 : World} {fv : Value} {F l : List (Nat × Int)} {mb k : Nat}
theorem LsSt.keep (h : LsSt w wr fv F mb l k) (hz : Below wr.heap.size wr wz) : LsSt w wz fv F mb l k := by
  obtain ⟨N, m, h1, h2, h3⟩ := h.m
  exact ⟨h.f.keep hz, ⟨N, m, h1, h2.kept (row := none) ⟨hz.os, hz.tape, hz.output, hz.size, fun k hk _ => hz.block k hk⟩ (by simp), h3⟩, h.new, h.nf⟩
theorem Acc.beside {B : Nat} {e : TypeId} {s n : Nat} {v : Value} {xs : List Value} (h : Acc w B wr e s v n xs) (hg : wr.grownBy w1 (some mb)) (hB : B ≤ mb) (hv : v.ownBlock ≠ some mb) : Acc w B w1 e s v n xs :=
  ⟨h.own.kept (fun k hk => hg.block k (h.own.lt k hk) (fun e => hv (by rw [hk]; exact e))), h.new, ⟨hg.os.trans h.bel.os, hg.tape.trans h.bel.tape, hg.output.trans h.bel.output, Nat.le_trans h.bel.size hg.size,
    fun k hk => (hg.block k (Nat.lt_of_lt_of_le hk h.lt) (fun e => by have := Option.some.inj e; omega)).trans (h.bel.block k hk)⟩, Nat.le_trans h.lt hg.size⟩
theorem LsSt.put (h : LsSt w wr fv F mb l k) (hz : wr.grownBy w1 (some mb)) {N : DataW Unit} {m : Nat} {e : Nat × Int} (hm : m ≤ k) (hN : IsMap N) (hS : FinM N l k) (he : l[k]? = some e) (h1 : w1.ownsMap Tryd.prog 40 (plainElem Tryd.prog 3) mb (m + 1) (N.put (.int .u64 (e.1 : Int)) (.lit (.int .i64 (k : Int))))) :
    LsSt w w1 fv F mb l (k + 1) :=
  ⟨h.f.beside hz h.new h.nf, ⟨_, m + 1, by omega, h1, hS.put hN he⟩, h.new, h.nf⟩
theorem LsSt.app {F' : List (Nat × Int)} {fv' : Value} {q n : Nat} (h : LsSt w wr fv F mb l k) (hz : Below wr.heap.size wr wz) (o1 : OwnSl w1 67 2 fv' (F.length + n) (flat F ++ flat F')) (hk : F'.length = n) (g1 : wz.grownBy w1 fv.ownBlock)
    (b1 : slAddr fv' = slAddr fv ∨ slAddr fv' = some ⟨q, 0, none⟩) (hq : wr.heap.size ≤ q) : LsSt w w1 fv' (F ++ F') mb l k := by
  have A1 := h.f.next hz o1 g1 b1 hq
  obtain ⟨N, m, h1, h2, h3⟩ := h.m
  have hlt := h2.lt
  have kz : wz.ownsMap Tryd.prog 40 (plainElem Tryd.prog 3) mb m N := h2.kept (row := none) ⟨hz.os, hz.tape, hz.output, hz.size, fun k hk _ => hz.block k hk⟩ (by simp)
  refine ⟨A1.congr (by simp [hk]) (by rw [flat_append]), ⟨N, m, h1, kz.kept g1 (fun e => h.nf e.symm), h3⟩, h.new, fun e => ?_⟩
  rcases b1 with b1 | b1
  · rw [ownBlock_addr, b1, ← ownBlock_addr] at e; exact h.nf e
  · rw [ownBlock_addr, b1] at e
    have : q = mb := by simpa using e
    omega
set_option maxRecDepth 100000 in
set_option maxHeartbeats 4000000 in
theorem rdlast_any (sv : Value) (l : List (Nat × Int)) (hs : RdSl w 2 sv l.length (flat l)) (hl : l.length ≤ 10000) (hb : ∀ e ∈ l, e.1 < 18446744073709551616) :
    Calls Tryd.prog 47 #[sv] w fun r w' => ∃ ov, r = .returned ov ∧ Acc w w.heap.size w' 67 2 ov (lastL l).length (flat (lastL l)) := by
  have hmm := @run_makeMap Tryd.prog
  have HS := Lib.hid hs; have HB := Lib.hid hb; clear hb
  obtain ⟨_, sa, sc, rfl, hsc, _⟩ := hs
  have HF : Hid (∀ (i : Nat) (e : Nat × Int), l[i]? = some e → (finI l l.length e.1 = i ↔ (l.drop (i + 1)).any (fun x => x.1 == e.1) = false)) := fun i e he => finI_any he
  obtain ⟨k0, hi0, hz0, hz1, hz2⟩ := info_parts infoWrite
  have I2 := Lib.hid (And.intro hi0 (And.intro hz0 (And.intro hz1 hz2))); clear hi0 hz0 hz1 hz2
  generalize hm : l.length = m at *
  have HM := Lib.hid hm; clear hm
  go_enter Tryd.func47, Tryd.ntmps47
  have hm0 := World.ownsMap_made (H := Unit) w Tryd.prog 40 (plainElem Tryd.prog 3)
  have M0 : Hid (LsSt w (w.alloc (.map #[] 0)) (.slice none 0 0) [] w.heap.size l 0) := ⟨Acc.nil w _ _ _ _ (below_alloc _ _) (by simp), ⟨_, 0, Nat.le_refl _, hm0, FinM.nil l⟩, Nat.le_refl _, by simp [Value.ownBlock]⟩
  clear hm0
  go_wp2_with fail
  go_loopw [12] (fun y wr => ∃ i : Nat, i ≤ m ∧ y = .int .i64 i ∧ LsSt w wr (.slice none 0 0) [] w.heap.size l i) (fun y _ => m - (intOf y).toNat)
  case atStart => exact ⟨0, by omega, rfl, M0.out⟩
  case round =>
    obtain ⟨i, hi, rfl, hM⟩ := hrel
    have M := Lib.hid hM
    clear M0
    by_cases hlt : i < m
    · have hi' : (i : Int) < m := by omega
      obtain ⟨e, he⟩ : ∃ e, l[i]? = some e := ⟨_, List.getElem?_eq_getElem (by rw [HM.out]; exact hlt)⟩
      obtain ⟨_, a', c', e', _, hE⟩ := HS.out.below hM.f.bel
      cases e'
      have hg := flat_get' l i e he
      obtain ⟨eb, eo, rfl, hE2⟩ := rd_at hE hg.1
      have c1 := hE2 _ _ hg.1; have c2 := hE2 _ _ hg.2
      rw [← Nat.add_assoc] at c2
      have he64 := HB.out e (List.mem_of_getElem? he)
      obtain ⟨N, mm, hmK, hown, hset⟩ := (hM.keep (below_alloc wr (.cells #[.int .u64 e.1, .int .u64 e.2] 67))).m
      have hmlen : mm < maxLen := by unfold maxLen; omega
      have hkey : keyOf Tryd.prog 40 (.int .u64 (e.1 : Int)) = some (.int .u64 (e.1 : Int)) := keyOf_int_mk Tryd.underlying40 (WalkArith.wf_u64 (by omega))
      have HX := Lib.hid (And.intro hmK (And.intro hown hset))
      have HE := Lib.hid he
      have hval : plainElem (H := Unit) Tryd.prog 3 (.int .i64 (i : Int)) = some (.lit (.int .i64 (i : Int)), []) := plainElem_int Tryd.underlying3 (WalkArith.wf_i64 (by omega))
      have HVAL := Lib.hid hval
      clear hE hE2 he hg hM hmK hset hown hval
      obtain ⟨e1, e2⟩ := e
      simp only at c1 c2 he64 hkey HX
      go_wp2_with (at_mapUpdate; refine wpList_mapUpdate_own _ rfl _ _ _ 151 rfl 40 3 lawU64 Tryd.underlying151 _ w.heap.size mm _ rfl HX.out.2.1 hmlen _ _ _ rfl rfl hkey _ [] HVAL.out ?_; intro w3 o3 g3)
      have M3 : Hid (LsSt w w3 (.slice none 0 0) [] w.heap.size l (i + 1)) :=
        (M.out.keep (below_alloc wr _)).put g3 HX.out.1 HX.out.2.1.isMap HX.out.2.2 HE.out o3
      clear o3 g3 HX M
      go_wp2_with fail
      go_roundw
      case rel => exact ⟨i + 1, by omega, by go_num, M3.out⟩
      case measure => simp [intOf]; omega
    · obtain rfl : i = m := by omega
      clear hM
      go_wp2_with fail
      go_loopw [6, 24] (fun fv y wr => ∃ (q : Nat) (F : List (Nat × Int)), q ≤ i ∧ y = .int .i64 q ∧ F.length ≤ q ∧ F ++ lastL (l.drop q) = lastL l ∧ LsSt w wr fv F w.heap.size l i) (fun _ y _ => i - (intOf y).toNat)
      case atStart => exact ⟨0, [], by omega, rfl, by simp, rfl, M.out⟩
      case round =>
        obtain ⟨q, F, hq, rfl, hfl, hFq, hM⟩ := hrel
        have HFQ := Lib.hid hFq; clear hFq
        obtain ⟨fa, fc, hfv⟩ := hM.f.slice
        subst hfv
        clear M
        have M := Lib.hid hM
        by_cases hlt3 : q < i
        · have hq' : (q : Int) < i := by omega
          obtain ⟨e, he⟩ : ∃ e, l[q]? = some e := ⟨_, List.getElem?_eq_getElem (by rw [HM.out]; exact hlt3)⟩
          obtain ⟨_, a', c', e', _, hE⟩ := HS.out.below hM.f.bel
          cases e'
          have hg := flat_get' l q e he
          obtain ⟨eb, eo, rfl, hE2⟩ := rd_at hE hg.1
          have c1 := hE2 _ _ hg.1; have c2 := hE2 _ _ hg.2
          rw [← Nat.add_assoc] at c2
          have he64 := HB.out e (List.mem_of_getElem? he)
          have HD := Lib.hid (lastL_drop he)
          have HFI := Lib.hid (HF.out q e he)
          have MA := Lib.hid (hM.keep (below_alloc wr (.cells #[.int .u64 e.1, .int .u64 e.2] 67)))
          obtain ⟨N, mm, hmK, hown, hset⟩ := MA.out.m
          have hlook := look_fin hown hset e.1 he64
          clear hE hE2 he hg hM hmK hset hown
          obtain ⟨e1, e2⟩ := e
          simp only at c1 c2 he64 hlook
          by_cases hin : (l.drop (q + 1)).any (fun x => x.1 == e1) = false
          · have hf := HFI.out.2 hin
            rw [hf] at hlook
            have HIN := Lib.hid hin; clear hin hf
            go_wp2_with (at_builtin; refine wpList_append_sl _ rfl _ _ 30 rfl 67 k0 _ 2 16 Tryd.underlying30 I2.out.1 I2.out.2.1 I2.out.2.2.1 I2.out.2.2.2 rfl (by decide) _ F.length (flat F) rfl (by exact MA.out.f.own.alloc _) _ 1 (flat [(e1, e2)]) rfl (by exact RdSl.newAt _ _ _ 2 1 _ (by simp) rfl) (flat_one _) (by unfold maxLen; omega) (by omega) ?_)
            intro v1 w4 o1 g1 b1 n1
            have M4 := Lib.hid (MA.out.app (below_alloc _ _) o1 rfl g1 b1 (by simp)); clear o1 g1 b1 n1 MA M
            go_wp2_with fail
            go_roundw
            case rel => exact ⟨q + 1, F ++ [(e1, e2)], by omega, by go_num, by rw [List.length_append]; show F.length + 1 ≤ q + 1; omega, by rw [← HFQ.out, HD.out, if_neg (by rw [HIN.out]; simp), List.append_assoc], M4.out⟩
            case measure => simp [intOf]; omega
          · have hf : ¬ finI l i e1 = (q : Int) := fun h => hin (HFI.out.1 h)
            have hb0 : (finI l i e1 == (q : Int)) = false := by simpa using hf
            have HIN : Hid ((l.drop (q + 1)).any (fun x => x.1 == e1) = true) := by
              cases hh : (l.drop (q + 1)).any (fun x => x.1 == e1)
              · exact absurd hh hin
              · rfl
            clear hin hf
            generalize finI l i e1 = z at *
            go_wp2_with fail
            go_roundw
            case rel => exact ⟨q + 1, F, by omega, by go_num, by omega, by rw [← HFQ.out, HD.out, if_pos HIN.out]; rfl, MA.out⟩
            case measure => simp [intOf]; omega
        · obtain rfl : q = i := by omega
          have hFl : F = lastL l := by have := HFQ.out; rw [List.drop_of_length_le (by rw [HM.out]; omega)] at this; simpa [lastL] using this
          have HFL := Lib.hid hFl; clear hFl hM
          go_wp2_with fail
          go_ret
          exact ⟨_, rfl, by rw [← HFL.out]; exact M.out.f⟩
end
end Go.Proofs.YtfigngoojphffaaDoor
