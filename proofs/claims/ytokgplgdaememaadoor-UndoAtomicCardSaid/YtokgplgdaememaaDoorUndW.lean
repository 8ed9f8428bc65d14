/- The undo log's Save, load, PlanCommit, Commit. -/
import Derived.Test.YtokgplgdaememaaDoorUndQ
namespace Go.Proofs.YtokgplgdaememaaDoor
open Go.RowKit Go.Maps

theorem flushL_ok (offs : List Nat) (h : ∀ o ∈ offs, o < 18446744073709551616) : instrOk (flushL offs) := by
  intro e he
  unfold flushL at he
  split at he
  · simp at he
  · rcases List.mem_append.1 he with h1 | h1
    · obtain ⟨l, hl, rfl⟩ := List.mem_map.1 h1
      have := linesL_bd offs 288230376151711744 (fun o ho => by have := h o ho; omega) l hl
      exact ⟨by simp, by simp, by simp only; omega⟩
    · simp at h1; subst h1; exact ⟨by simp, by simp, by simp⟩
theorem storesL_ok (ws : List (Nat × Int)) (h : ∀ e ∈ ws, e.1 < 18446744073709551616) : instrOk (storesL ws) := by
  intro e he
  unfold storesL at he
  rcases List.mem_append.1 he with h1 | h1
  · obtain ⟨x, hx, rfl⟩ := List.mem_map.1 h1
    exact ⟨by simp, by simp, h x hx⟩
  · exact flushL_ok _ (fun o ho => by obtain ⟨x, hx, rfl⟩ := List.mem_map.1 ho; exact h x hx) e h1
theorem instrOk_append {a b : List (Nat × Nat × Int)} (ha : instrOk a) (hb : instrOk b) : instrOk (a ++ b) := fun e he => by
  rcases List.mem_append.1 he with h | h
  · exact ha e h
  · exact hb e h
theorem storesL_len (ws : List (Nat × Int)) : (storesL ws).length ≤ 2 * ws.length + 1 := by
  have := flushL_len (ws.map (·.1))
  unfold storesL
  rw [List.length_append, List.length_map]
  rw [List.length_map] at this
  omega
theorem planP_ok {off s : Nat} {F : List (Nat × Int)} (h : off + 64 + 16 * s + 16 * F.length < 18446744073709551616) : instrOk (planP off s F) := by
  unfold planP
  split
  · intro e he; simp at he
  · exact instrOk_append (storesL_ok _ (fun e he => by have := planWs_bd F _ e he; omega)) (storesL_ok _ (fun e he => by simp at he; subst he; simp only; omega))
theorem planP_len (off s : Nat) (F : List (Nat × Int)) : (planP off s F).length ≤ 4 * F.length + 4 := by
  unfold planP
  split
  · simp
  · have h1 := storesL_len (planWs (off + 64 + 16 * s) F)
    have h2 := storesL_len [(off, ((s + F.length : Nat) : Int))]
    rw [planWs_len] at h1
    simp only [List.length_cons, List.length_nil] at h2
    rw [List.length_append]; omega

section
variable {w : World} {v : DV} {own : Nat → Option Role} {D : Dev} {lb j off n : Nat}
theorem DPost.past {w1 w2 : World} {D' : Dev} (hb : Below w.heap.size w w1) (h : DPost v own w1 D' w2) : DPost v own w D' w2 := DPost.next (fun _ _ => rfl) (Upd.of_below hb) h
/-- A program that a call has made runs on the log's memory. -/
theorem run_log (h : LogAt w v own D lb j off n) {w1 : World} {pv : Value} {P : List (Nat × Nat × Int)} (ha : Acc w w.heap.size w1 99 3 pv P.length (instrC P)) (hi : instrOk P) (hl : P.length ≤ 100000) (hx : D.exec + 100000 < 4294967296) :
    Calls Tryd.prog 58 #[pv, .iface 32 (.pointer (some ⟨v.tb j, 0, none⟩))] w1 fun r w' => r = .returned (.int .i64 ((D.run j P).err j)) ∧ DPost v own w (D.run j P) w' :=
  (run_any (h.below ha.bel).dev h.hj pv P ha.rd (fun k hk => by
    have := ha.new k hk
    cases ho : own k with
    | none => rfl
    | some r => have := h.dev.lt k (by rw [ho]; simp); omega) hi hl (by omega)).mono fun r w' hp => ⟨hp.1, hp.2.past ha.bel⟩
def SavePost (w : World) (v : DV) (own : Nat → Option Role) (D : Dev) (j off n : Nat) (S F : List (Nat × Int)) (r : Ending) (w' : World) : Prop :=
  (4 * (n - 1) < S.length + F.length ∧ r = .returned (.int .i64 4) ∧ Below w.heap.size w w') ∨
  (¬ 4 * (n - 1) < S.length + F.length ∧ r = .returned (.int .i64 ((D.run j (planP off S.length F)).err j)) ∧ DPost v own w (D.run j (planP off S.length F)) w')
set_option maxRecDepth 100000 in
set_option maxHeartbeats 2000000 in
theorem uSave_err {e : Int} (sv : Value) (he : e ≠ 0) (hP : Calls Tryd.prog 30 #[.pointer (some ⟨lb, 0, none⟩), sv] w (ErrNil w e)) :
    Calls Tryd.prog 21 #[.pointer (some ⟨lb, 0, none⟩), sv] w fun r w' => r = .returned (.int .i64 e) ∧ Below w.heap.size w w' := by
  have HP := Lib.hid hP; clear hP
  have hne : (e != 0) = true := by simpa using he
  clear he
  go_enter Tryd.func21, Tryd.ntmps21
  go_wp2_with fail
  (with_reducible refine HP.out.mono ?_)
  rintro e' w1 ⟨rfl, b1⟩
  have B1 := Lib.hid b1; clear b1
  go_wp2_with fail
  go_ret
  exact ⟨rfl, B1.out⟩
set_option maxRecDepth 100000 in
set_option maxHeartbeats 2000000 in
theorem uSave_live (h : LogAt w v own D lb j off n) (sv : Value) (S F : List (Nat × Int)) (hx : D.exec + 100000 < 4294967296) (hP : Calls Tryd.prog 30 #[.pointer (some ⟨lb, 0, none⟩), sv] w (PlanPost w off n S F)) :
    Calls Tryd.prog 21 #[.pointer (some ⟨lb, 0, none⟩), sv] w (SavePost w v own D j off n S F) := by
  have HP := Lib.hid hP; clear hP
  have H := Lib.hid h
  have hbd := h.bd
  clear h
  go_enter Tryd.func21, Tryd.ntmps21
  go_wp2_with fail
  (with_reducible refine HP.out.mono ?_)
  rintro e' w1 (⟨hf, rfl, b1⟩ | ⟨hf, ov, rfl, a1⟩)
  · have B1 := Lib.hid b1; have HF := Lib.hid hf; clear b1 hf
    go_wp2_with fail
    go_ret
    exact .inl ⟨HF.out, rfl, B1.out⟩
  · have hl := planP_len off S.length F
    have HR := Lib.hid (run_log H.out a1 (planP_ok (by omega)) (by omega) hx)
    have d0 := (H.out.below a1.bel).c0
    obtain ⟨oa, oc, hov⟩ := a1.slice
    have HF := Lib.hid hf
    clear a1 hf
    subst hov
    go_wp2_with fail
    (with_reducible refine HR.out.mono ?_)
    rintro e' w2 ⟨rfl, p2⟩
    have P2 := Lib.hid p2; clear p2
    go_wp2_with fail
    go_ret
    exact .inr ⟨HF.out, rfl, P2.out⟩

/-- The entries that are not skipped. -/
def validL (size off n : Nat) (S : List (Nat × Int)) : List (Nat × Int) := S.filter fun e => allowedB size off n e.1
theorem validL_snoc_yes {size off n : Nat} {S : List (Nat × Int)} {e : Nat × Int} (h : allowedB size off n e.1 = true) : validL size off n (S ++ [e]) = validL size off n S ++ [e] := by simp [validL, h]
theorem validL_snoc_no {size off n : Nat} {S : List (Nat × Int)} {e : Nat × Int} (h : allowedB size off n e.1 = false) : validL size off n (S ++ [e]) = validL size off n S := by simp [validL, h]
theorem validL_len (size off n : Nat) (S : List (Nat × Int)) : (validL size off n S).length ≤ S.length := List.length_filter_le _ _
set_option maxRecDepth 100000 in
set_option maxHeartbeats 4000000 in
theorem uload_any (h : LogAt w v own D lb j off n) (hof : D.off = false) (he : D.err j = 0) (hvb : D.VB) : Calls Tryd.prog 74 #[.pointer (some ⟨lb, 0, none⟩)] w
    fun r w' => ∃ sv, r = .returned (.tuple #[sv, .bool (decide ((savedL D.cur off n).length = 0)), .int .i64 0]) ∧ Acc w w.heap.size w' 102 2 sv (validL (64 * D.n) off n (savedL D.cur off n)).length (flat (validL (64 * D.n) off n (savedL D.cur off n))) := by
  have H := Lib.hid h
  have HE := Lib.hid (uentries_any h hof he hvb)
  have hbd := h.bd
  have HSB : Hid ((savedL D.cur off n).length ≤ 4 * (n - 1)) := by show (savedL D.cur off n).length ≤ _; unfold savedL; rw [entsL_len]; exact cntL_le _ _ _
  have HSV : Hid (∀ e ∈ savedL D.cur off n, e.1 < 18446744073709551616) := fun e he => by
    unfold savedL entsL at he
    obtain ⟨i, _, rfl⟩ := List.mem_map.1 he
    have := hvb.cur (off / 8 + 8 + 2 * i); simp only; omega
  generalize savedL D.cur off n = S at *
  clear h hvb
  obtain ⟨k0, hi0, hz0, hz1, hz2⟩ := info_parts infoWrite
  have I2 := Lib.hid (And.intro hi0 (And.intro hz0 (And.intro hz1 hz2))); clear hi0 hz0 hz1 hz2
  generalize hsl : S.length = s at *
  have HSL := Lib.hid hsl; clear hsl
  have hsb : s ≤ 4 * (n - 1) := HSB.out
  have HVL := Lib.hid (fun k => validL_len (64 * D.n) off n (S.take k))
  go_enter Tryd.func74, Tryd.ntmps74
  go_wp2_with fail
  (with_reducible refine HE.out.mono ?_)
  rintro e w1 ⟨ov, rfl, a1⟩
  obtain ⟨oa, oc, hov⟩ := a1.slice
  subst hov
  have A1 := Lib.hid a1; clear a1 HE
  go_wp2_with fail
  go_loopw [7, 20] (fun vv y wr => ∃ (i : Nat) (V : List (Nat × Int)), i ≤ s ∧ y = .int .i64 i ∧ validL (64 * D.n) off n (S.take i) = V ∧ Acc w1 w1.heap.size wr 102 2 vv V.length (flat V)) (fun _ y _ => s - (intOf y).toNat)
  case atStart => exact ⟨0, [], by omega, rfl, rfl, Acc.nil w1 _ _ _ _ (Below.refl _ _) (Nat.le_refl _)⟩
  case round =>
    obtain ⟨i, V, hi, rfl, hV, ha⟩ := hrel
    obtain ⟨va, vc, hvv⟩ := ha.slice
    subst hvv
    have A := Lib.hid ha; have HV := Lib.hid hV; clear ha hV
    by_cases hlt : i < s
    · have hi' : (i : Int) < s := by omega
      obtain ⟨e, he⟩ : ∃ e, S[i]? = some e := ⟨_, List.getElem?_eq_getElem (by rw [HSL.out]; exact hlt)⟩
      obtain ⟨_, a', c', e', _, hE⟩ := A1.out.rd.below A.out.bel
      cases e'
      have hg := flat_get' S i e he
      obtain ⟨eb, eo, rfl, hE2⟩ := rd_at hE hg.1
      have c1 := hE2 _ _ hg.1; have c2 := hE2 _ _ hg.2
      rw [← Nat.add_assoc] at c2
      have HT := Lib.hid (take_snoc_get S i e he)
      have he64 := HSV.out e (List.mem_of_getElem? he)
      have hvl : V.length ≤ 20000 := by have := HVL.out i; rw [HV.out, List.length_take] at this; omega
      clear hE hE2 he hg
      have LG := Lib.hid (fun o => (H.out.below (A1.out.bel.trans (A.out.bel.mono A1.out.bel.size))).alloc o)
      obtain ⟨e1, e2⟩ := e
      simp only at c1 c2 he64
      have HA := Lib.hid (fun o => uallowed_any (LG.out o) e1 he64)
      cases hok : allowedB (64 * D.n) off n e1
      · rw [hok] at HA
        have HO : Hid (validL (64 * D.n) off n (S.take (i + 1)) = V) := by
          show validL (64 * D.n) off n (S.take (i + 1)) = V
          rw [HT.out, validL_snoc_no hok, HV.out]
        clear hok
        go_wp2_with fail
        (with_reducible refine (HA.out _).mono ?_)
        rintro e w2 ⟨rfl, b2⟩
        have A2 := Lib.hid (A.out.keep ((below_alloc wr _).trans (b2.mono (by simp)))); clear b2
        go_wp2_with fail
        go_roundw
        case rel => exact ⟨i + 1, V, by omega, by go_num, HO.out, A2.out⟩
        case measure => simp [intOf]; omega
      · rw [hok] at HA
        have HO : Hid (validL (64 * D.n) off n (S.take (i + 1)) = V ++ [(e1, e2)]) := by
          show validL (64 * D.n) off n (S.take (i + 1)) = V ++ [(e1, e2)]
          rw [HT.out, validL_snoc_yes (e := (e1, e2)) hok, HV.out]
        clear hok
        go_wp2_with fail
        (with_reducible refine (HA.out _).mono ?_)
        rintro e w2 ⟨rfl, b2⟩
        have f0 : w2.cell? ⟨wr.heap.size, 0, none⟩ = some (.int .u64 e1) := cell_bel b2 ((Blk.new wr _ 102).cell (i := 0) rfl)
        have f1 : w2.cell? ⟨wr.heap.size, 1, none⟩ = some (.int .u64 e2) := cell_bel b2 ((Blk.new wr _ 102).cell (i := 1) rfl)
        have A2 := Lib.hid (A.out.keep ((below_alloc wr _).trans (b2.mono (by simp)))); clear b2
        go_wp2_with (at_builtin; refine wpList_append_sl _ rfl _ _ 30 rfl 102 k0 _ 2 16 Tryd.underlying30 I2.out.1 I2.out.2.1 I2.out.2.2.1 I2.out.2.2.2 rfl (by decide) _ V.length (flat V) rfl (by exact A2.out.own.alloc _) _ 1 (flat [(e1, e2)]) rfl (by exact RdSl.newAt _ _ _ 2 1 _ (by simp) rfl) (flat_one _) (by unfold maxLen; omega) (by omega) ?_)
        intro v1 w3 o1 g1 b1 n1
        have A3 := Lib.hid (A2.out.next (below_alloc w2 _) o1 g1 b1 (by have := A2.out.lt; omega)); clear o1 g1 b1 n1
        go_wp2_with fail
        go_roundw
        case rel => exact ⟨i + 1, V ++ [(e1, e2)], by omega, by go_num, HO.out, A3.out.congr (by simp) (by rw [flat_append])⟩
        case measure => simp [intOf]; omega
    · obtain rfl : i = s := by omega
      have HF : Hid (validL (64 * D.n) off n S = V) := by
        show validL (64 * D.n) off n S = V
        rw [← HV.out, List.take_of_length_le (by rw [HSL.out]; omega)]
      by_cases hi0 : i = 0
      · have hb0 : ((i : Int) == 0) = true := by simp; omega
        have hd0 : Hid (decide (i = 0) = true) := by show decide (i = 0) = true; simpa using hi0
        clear hi0
        go_wp2_with fail
        go_ret3
        exact ⟨_, by rw [hd0.out]; rfl, by rw [HF.out]; exact A.out.deeper A1.out.bel⟩
      · have hb0 : ((i : Int) == 0) = false := by simp; omega
        have hd0 : Hid (decide (i = 0) = false) := by show decide (i = 0) = false; simpa using hi0
        clear hi0
        go_wp2_with fail
        go_ret3
        exact ⟨_, by rw [hd0.out]; rfl, by rw [HF.out]; exact A.out.deeper A1.out.bel⟩
end
end Go.Proofs.YtokgplgdaememaaDoor
