/- The undo log's PlanCommit, Commit, Recover, Rollback. -/
import Derived.Test.YtokgplgdaememaaDoorUndW
import Derived.Deep.RegionHeld3
namespace Go.Proofs.YtokgplgdaememaaDoor
open Go.RowKit Go.Maps

def commitP (off : Nat) (S V : List (Nat × Int)) : List (Nat × Nat × Int) := if S = [] then [] else flushL (V.map (·.1)) ++ storesL [(off, 0)]
def restoreP (off : Nat) (V : List (Nat × Int)) : List (Nat × Nat × Int) := storesL V ++ storesL [(off, 0)]
theorem stores_drop (V : List (Nat × Int)) : (instrC (storesL V)).drop (V.length * 3) = instrC (flushL (V.map (·.1))) := by
  unfold storesL
  rw [instrC_append]
  have e : V.length * 3 = (instrC (V.map fun e => ((1, e.1, e.2) : Nat × Nat × Int))).length := by rw [instrC_length, List.length_map]
  rw [e, List.drop_left]
theorem stores_gt (V : List (Nat × Int)) (h : V ≠ []) : V.length < (storesL V).length ∧ (storesL V).length - V.length = (flushL (V.map (·.1))).length := by
  have h1 : linesL (V.map (·.1)) ≠ [] := flC_pos _ (by
    rw [List.length_map]
    exact List.length_pos_iff.2 h)
  unfold storesL
  rw [List.length_append, List.length_map]
  have h2 : 0 < (flushL (V.map (·.1))).length := by unfold flushL; rw [if_neg h1]; simp
  omega
theorem store1_len (off : Nat) (x : Int) : (storesL [(off, x)]).length ≤ 3 := by have := storesL_len [(off, x)]; simpa using this

section
variable {w : World} {v : DV} {own : Nat → Option Role} {D : Dev} {lb j off n : Nat}
/-- What load says of the log. -/
def LoadIs (w : World) (lb : Nat) (S V : List (Nat × Int)) : Prop := Calls Tryd.prog 74 #[.pointer (some ⟨lb, 0, none⟩)] w
    fun r w' => ∃ sv, r = .returned (.tuple #[sv, .bool (decide (S.length = 0)), .int .i64 0]) ∧ Acc w w.heap.size w' 102 2 sv V.length (flat V)
def LoadErr (w : World) (lb : Nat) (e : Int) : Prop := Calls Tryd.prog 74 #[.pointer (some ⟨lb, 0, none⟩)] w
    fun r w' => r = .returned (.tuple #[.slice none 0 0, .bool false, .int .i64 e]) ∧ Below w.heap.size w w'
set_option maxRecDepth 100000 in
set_option maxHeartbeats 2000000 in
theorem uload_err (h : LogAt w v own D lb j off n) (he : D.err j ≠ 0) : LoadErr w lb (D.err j) := by
  have HE := Lib.hid (uentries_err h he)
  have hne : (D.err j != 0) = true := by simpa using he
  generalize D.err j = e at *
  clear h he
  unfold LoadErr
  go_enter Tryd.func74, Tryd.ntmps74
  go_wp2_with fail
  (with_reducible refine HE.out.mono ?_)
  rintro e' w1 ⟨rfl, b1⟩
  have B1 := Lib.hid b1; clear b1
  go_wp2_with fail
  go_ret3
  exact ⟨rfl, B1.out⟩
set_option maxRecDepth 100000 in
set_option maxHeartbeats 1000000 in
theorem stores_nil (a : Option Addr) (c : Nat) : Calls Tryd.prog 70 #[.slice a 0 c] w fun r w' => r = .returned (.slice none 0 0) ∧ w = w' := by
  go_enter Tryd.func70, Tryd.ntmps70
  go_wp2_with fail
  go_ret
  exact ⟨rfl, rfl⟩
def VIn (V : List (Nat × Int)) : Prop := V.length ≤ 10000 ∧ ∀ e ∈ V, e.1 < 18446744073709551616
set_option maxRecDepth 100000 in
set_option maxHeartbeats 4000000 in
theorem uPlanCommit_any (h : LogAt w v own D lb j off n) (S V : List (Nat × Int)) (hL : LoadIs w lb S V) (hV : VIn V) (hVS : V.length ≤ S.length) :
    Calls Tryd.prog 38 #[.pointer (some ⟨lb, 0, none⟩)] w fun r w' => ∃ ov, r = .returned (.tuple #[ov, .int .i64 0]) ∧ Acc w w.heap.size w' 99 3 ov (commitP off S V).length (instrC (commitP off S V)) := by
  have HL := Lib.hid hL; have H := Lib.hid h; have HV := Lib.hid hV
  have hbd := h.bd
  have hvl := hV.1
  clear h hL hV
  unfold LoadIs at HL
  by_cases hs0 : S = []
  · have HC : Hid (commitP off S V = []) := by show commitP off S V = []; unfold commitP; rw [if_pos hs0]
    have hd : decide (S.length = 0) = true := by simp [hs0]
    rw [hd] at HL
    clear hs0 hd
    go_enter Tryd.func38, Tryd.ntmps38
    go_wp2_with fail
    (with_reducible refine HL.out.mono ?_)
    rintro e w1 ⟨sv, rfl, a1⟩
    obtain ⟨sa, sc, hsv⟩ := a1.slice
    subst hsv
    have B1 := Lib.hid a1.bel; clear a1
    go_wp2_with fail
    go_ret2
    exact ⟨_, rfl, by rw [HC.out]; exact Acc.nil w _ _ _ _ B1.out B1.out.size⟩
  · have HC : Hid (commitP off S V = flushL (V.map (·.1)) ++ storesL [(off, 0)]) := by show commitP off S V = _; unfold commitP; rw [if_neg hs0]
    have hd : decide (S.length = 0) = false := by simpa using hs0
    rw [hd] at HL
    clear hs0 hd
    have HSC := Lib.hid (fun wx (hx : LogAt wx v own D lb j off n) => usetCount_any hx 0 (by omega))
    rw [show ((0 : Nat) : Int) = 0 from rfl] at HSC
    have h1 := store1_len off 0
    have hfl := flushL_len (V.map (·.1))
    rw [List.length_map] at hfl
    by_cases hv0 : V = []
    · have HF : Hid (flushL (V.map (·.1)) = []) := by show flushL (V.map (·.1)) = []; subst hv0; rfl
      rw [hv0] at HL
      clear hv0
      generalize storesL [(off, (0 : Int))] = P2 at *
      go_enter Tryd.func38, Tryd.ntmps38
      go_wp2_with fail
      (with_reducible refine HL.out.mono ?_)
      rintro e w1 ⟨sv, rfl, a1⟩
      obtain ⟨sa, sc, hsv⟩ := a1.slice
      subst hsv
      have A1 := Lib.hid a1; clear a1
      rw [show ([] : List (Nat × Int)).length = 0 from rfl] at A1
      rw [show ([] : List (Nat × Int)).length = 0 from rfl]
      have LG := Lib.hid (H.out.below A1.out.bel)
      go_wp2_with fail
      (with_reducible refine (stores_nil sa sc).mono ?_)
      rintro e w' ⟨rfl, rfl⟩
      go_wp2_with fail
      (with_reducible refine (HSC.out _ LG.out).mono ?_)
      rintro e w2 ⟨pv, rfl, a2⟩
      obtain ⟨pa, pc, hpv⟩ := a2.slice
      subst hpv
      have HT := Lib.hid (then_any (w := w2) (.slice none 0 0) _ [] P2 (OwnSl.nil w2 99 3).rd a2.rd (by simp; omega))
      have B2 := Lib.hid (A1.out.bel.trans (a2.bel.mono A1.out.bel.size))
      clear a2 HSC
      go_wp2_with fail
      (with_reducible refine HT.out.mono ?_)
      rintro e w3 ⟨ov, rfl, a3⟩
      have A3 := Lib.hid (a3.deeper B2.out); clear a3 HT
      go_wp2_with fail
      go_ret2
      exact ⟨_, rfl, by rw [HC.out, HF.out]; exact A3.out⟩
    · have HG := Lib.hid (stores_gt V hv0)
      have HDR := Lib.hid (stores_drop V)
      have hgt := HG.out.1
      have hge := HG.out.2
      have HST := Lib.hid (fun wx sv hx => stores_any (w := wx) sv V hx (by have := HV.out.1; omega) HV.out.2)
      have hsl := storesL_len V
      generalize storesL [(off, (0 : Int))] = P2 at *
      generalize flushL (V.map (·.1)) = P1 at *
      generalize storesL V = P0 at *
      generalize hm : V.length = m at *
      have HM := Lib.hid hm; clear hm hv0
      generalize hN : P0.length = N at *
      have HN := Lib.hid hN; clear hN
      go_enter Tryd.func38, Tryd.ntmps38
      go_wp2_with fail
      (with_reducible refine HL.out.mono ?_)
      rintro e w1 ⟨sv, rfl, a1⟩
      obtain ⟨sa, sc, hsv⟩ := a1.slice
      subst hsv
      have A1 := Lib.hid a1; clear a1
      have HS1 := Lib.hid (HST.out _ _ A1.out.rd)
      clear HST
      go_wp2_with fail
      (with_reducible refine HS1.out.mono ?_)
      rintro e w2 ⟨pv, rfl, a2⟩
      have A2 := Lib.hid a2
      obtain ⟨b, o, c, hpv, hcap, _⟩ := rd_some a2.rd (by
        intro e
        have := congrArg List.length e
        rw [instrC_length, HN.out] at this
        simp at this; omega)
      clear a2 HS1
      subst hpv
      have hmN : (m : Int) ≤ N := by omega
      have hNc : (N : Int) ≤ c := by omega
      have hcm : ¬ c = m := by omega
      have hcm' : ¬ (c : Int) = (m : Int) := by omega
      have hmc : (m : Int) ≤ c := by omega
      have R2 : Hid (RdSl w2 3 (.slice (some ⟨b, o + m * 3, none⟩) (N - m) (c - m)) (N - m) (instrC P1)) := by
        have := A2.out.rd.dropG m (by omega)
        rw [if_neg hcm, Option.map_some, Addr.add_lit, HDR.out] at this
        exact this
      have B12 := Lib.hid (A1.out.bel.trans (A2.out.bel.mono A1.out.bel.size))
      have LG := Lib.hid (H.out.below B12.out)
      go_wp2_with fail
      (with_reducible refine (HSC.out _ LG.out).mono ?_)
      rintro e w3 ⟨qv, rfl, a3⟩
      obtain ⟨qa, qc, hqv⟩ := a3.slice
      subst hqv
      have hr := R2.out.below a3.bel
      rw [hge] at hr
      have HT := Lib.hid (then_any (w := w3) _ _ P1 P2 hr a3.rd (by omega))
      have B3 := Lib.hid (B12.out.trans (a3.bel.mono B12.out.size))
      clear a3 HSC hr
      go_wp2_with fail
      (with_reducible refine HT.out.mono ?_)
      rintro e w4 ⟨ov, rfl, a4⟩
      have A4 := Lib.hid (a4.deeper B3.out); clear a4 HT
      go_wp2_with fail
      go_ret2
      exact ⟨_, rfl, by rw [HC.out]; exact A4.out⟩
theorem commitP_ok {S V : List (Nat × Int)} (ho : off < 18446744073709551616) (hV : VIn V) : instrOk (commitP off S V) := by
  unfold commitP
  split
  · intro e he; simp at he
  · exact instrOk_append (flushL_ok _ (fun o ho => by obtain ⟨x, hx, rfl⟩ := List.mem_map.1 ho; exact hV.2 x hx)) (storesL_ok _ (fun e he => by simp at he; subst he; exact ho))
theorem commitP_len (S V : List (Nat × Int)) (hV : VIn V) : (commitP off S V).length ≤ 100000 := by
  have h1 := store1_len off 0
  have hfl := flushL_len (V.map (·.1))
  rw [List.length_map] at hfl
  have := hV.1
  unfold commitP
  split
  · simp
  · rw [List.length_append]; omega
theorem restoreP_ok {V : List (Nat × Int)} (ho : off < 18446744073709551616) (hV : VIn V) : instrOk (restoreP off V) := instrOk_append (storesL_ok _ hV.2) (storesL_ok _ (fun e he => by simp at he; subst he; exact ho))
theorem restoreP_len (V : List (Nat × Int)) (hV : VIn V) : (restoreP off V).length ≤ 100000 := by
  have h1 := store1_len off 0
  have h2 := storesL_len V
  have := hV.1
  unfold restoreP
  rw [List.length_append]; omega
set_option maxRecDepth 100000 in
set_option maxHeartbeats 2000000 in
theorem uPlanCommit_err {e : Int} (he : e ≠ 0) (hL : LoadErr w lb e) : Calls Tryd.prog 38 #[.pointer (some ⟨lb, 0, none⟩)] w (ErrNil w e) := by
  have HL := Lib.hid hL
  have hne : (e != 0) = true := by simpa using he
  clear hL he
  unfold LoadErr at HL
  go_enter Tryd.func38, Tryd.ntmps38
  go_wp2_with fail
  (with_reducible refine HL.out.mono ?_)
  rintro e' w1 ⟨rfl, b1⟩
  have B1 := Lib.hid b1; clear b1
  go_wp2_with fail
  go_ret2
  exact ⟨rfl, B1.out⟩
set_option maxRecDepth 100000 in
set_option maxHeartbeats 2000000 in
theorem uCommit_err {e : Int} (he : e ≠ 0) (hP : Calls Tryd.prog 38 #[.pointer (some ⟨lb, 0, none⟩)] w (ErrNil w e)) :
    Calls Tryd.prog 40 #[.pointer (some ⟨lb, 0, none⟩)] w fun r w' => r = .returned (.int .i64 e) ∧ Below w.heap.size w w' := by
  have HP := Lib.hid hP; clear hP
  have hne : (e != 0) = true := by simpa using he
  clear he
  go_enter Tryd.func40, Tryd.ntmps40
  go_wp2_with fail
  (with_reducible refine HP.out.mono ?_)
  rintro e' w1 ⟨rfl, b1⟩
  have B1 := Lib.hid b1; clear b1
  go_wp2_with fail
  go_ret
  exact ⟨rfl, B1.out⟩
set_option maxRecDepth 100000 in
set_option maxHeartbeats 2000000 in
theorem uCommit_any (h : LogAt w v own D lb j off n) (S V : List (Nat × Int)) (hL : LoadIs w lb S V) (hV : VIn V) (hVS : V.length ≤ S.length) (hx : D.exec + 100000 < 4294967296) :
    Calls Tryd.prog 40 #[.pointer (some ⟨lb, 0, none⟩)] w fun r w' => r = .returned (.int .i64 ((D.run j (commitP off S V)).err j)) ∧ DPost v own w (D.run j (commitP off S V)) w' := by
  have HP := Lib.hid (uPlanCommit_any h S V hL hV hVS)
  have H := Lib.hid h
  have hbd := h.bd
  clear h hL
  go_enter Tryd.func40, Tryd.ntmps40
  go_wp2_with fail
  (with_reducible refine HP.out.mono ?_)
  rintro e' w1 ⟨ov, rfl, a1⟩
  have HR := Lib.hid (run_log H.out a1 (commitP_ok (S := S) (by omega) hV) (commitP_len S V hV) hx)
  have d0 := (H.out.below a1.bel).c0
  obtain ⟨oa, oc, hov⟩ := a1.slice
  clear a1
  subst hov
  go_wp2_with fail
  (with_reducible refine HR.out.mono ?_)
  rintro e' w2 ⟨rfl, p2⟩
  have P2 := Lib.hid p2; clear p2
  go_wp2_with fail
  go_ret
  exact ⟨rfl, P2.out⟩

/-- What Recover answers. -/
def RecPost (w : World) (v : DV) (own : Nat → Option Role) (D : Dev) (j off : Nat) (S V : List (Nat × Int)) (r : Ending) (w' : World) : Prop :=
  (S = [] ∧ r = .returned (.tuple #[.int .i64 0, .int .i64 0]) ∧ Below w.heap.size w w') ∨
  (S ≠ [] ∧ DPost v own w (D.run j (restoreP off V)) w' ∧
    (((D.run j (restoreP off V)).err j = 0 ∧ r = .returned (.tuple #[.int .i64 V.length, .int .i64 0])) ∨ ((D.run j (restoreP off V)).err j ≠ 0 ∧ r = .returned (.tuple #[.int .i64 0, .int .i64 ((D.run j (restoreP off V)).err j)]))))
set_option maxRecDepth 100000 in
set_option maxHeartbeats 2000000 in
theorem uRecover_err {e : Int} (he : e ≠ 0) (hL : LoadErr w lb e) : Calls Tryd.prog 39 #[.pointer (some ⟨lb, 0, none⟩)] w fun r w' => r = .returned (.tuple #[.int .i64 0, .int .i64 e]) ∧ Below w.heap.size w w' := by
  have HL := Lib.hid hL
  have hne : (e != 0) = true := by simpa using he
  clear hL he
  unfold LoadErr at HL
  go_enter Tryd.func39, Tryd.ntmps39
  go_wp2_with fail
  (with_reducible refine HL.out.mono ?_)
  rintro e' w1 ⟨rfl, b1⟩
  have B1 := Lib.hid b1; clear b1
  go_wp2_with fail
  go_ret2
  exact ⟨rfl, B1.out⟩
set_option maxRecDepth 100000 in
set_option maxHeartbeats 4000000 in
theorem uRecover_any (h : LogAt w v own D lb j off n) (S V : List (Nat × Int)) (hL : LoadIs w lb S V) (hV : VIn V) (hx : D.exec + 100000 < 4294967296) :
    Calls Tryd.prog 39 #[.pointer (some ⟨lb, 0, none⟩)] w (RecPost w v own D j off S V) := by
  have HL := Lib.hid hL; have H := Lib.hid h; have HV := Lib.hid hV
  have hbd := h.bd
  have hvl := hV.1
  clear h hL hV
  unfold LoadIs at HL
  by_cases hs0 : S = []
  · have HC := Lib.hid hs0
    have hd : decide (S.length = 0) = true := by simp [hs0]
    rw [hd] at HL
    clear hs0 hd
    go_enter Tryd.func39, Tryd.ntmps39
    go_wp2_with fail
    (with_reducible refine HL.out.mono ?_)
    rintro e w1 ⟨sv, rfl, a1⟩
    obtain ⟨sa, sc, hsv⟩ := a1.slice
    subst hsv
    have B1 := Lib.hid a1.bel; clear a1
    go_wp2_with fail
    go_ret2
    exact .inl ⟨HC.out, rfl, B1.out⟩
  · have HC : Hid (S ≠ []) := hs0
    have hd : decide (S.length = 0) = false := by simpa using hs0
    rw [hd] at HL
    clear hs0 hd
    have HSC := Lib.hid (fun wx (hx : LogAt wx v own D lb j off n) => usetCount_any hx 0 (by omega))
    rw [show ((0 : Nat) : Int) = 0 from rfl] at HSC
    have HST := Lib.hid (fun wx sv hx => stores_any (w := wx) sv V hx hvl HV.out.2)
    have HR := Lib.hid (fun w1 pv ha => run_log H.out (w1 := w1) (pv := pv) (P := restoreP off V) ha (restoreP_ok (by omega) HV.out) (restoreP_len V HV.out) hx)
    have HRP : Hid (restoreP off V = storesL V ++ storesL [(off, 0)]) := rfl
    have h1 := store1_len off 0
    have hsl := storesL_len V
    generalize storesL [(off, (0 : Int))] = P2 at *
    generalize storesL V = P0 at *
    go_enter Tryd.func39, Tryd.ntmps39
    go_wp2_with fail
    (with_reducible refine HL.out.mono ?_)
    rintro e w1 ⟨sv, rfl, a1⟩
    obtain ⟨sa, sc, hsv⟩ := a1.slice
    subst hsv
    have A1 := Lib.hid a1
    have HS1 := Lib.hid (HST.out _ _ a1.rd.drew)
    have d0 := (H.out.below a1.bel).c0
    have B1 := Lib.hid a1.bel
    clear a1 HST
    generalize hm : V.length = m at *
    go_upto_region 4 with fail
    go_cut [7] from 20 to 29 (fun x wx => x = .int .i64 ((D.run j (restoreP off V)).err j) ∧ DPost v own w (D.run j (restoreP off V)) wx)
    case first =>
      go_region_with (first | (go_at_call 70; (with_reducible refine HS1.out.mono ?_); rintro e w2 ⟨pv, rfl, a2⟩; obtain ⟨pa, pc, hpv⟩ := a2.slice; subst hpv; have A2 := Lib.hid a2; have B2 : Hid (Below w.heap.size w w2) := B1.out.trans ((bdrew a2.bel).mono B1.out.size); have L2 := Lib.hid (H.out.below B2.out); have d2 := L2.out.c0; clear a2) | (go_at_call 72; (with_reducible refine (HSC.out _ L2.out).mono ?_); rintro e w3 ⟨qv, rfl, a3⟩; obtain ⟨qa, qc, hqv⟩ := a3.slice; subst hqv; have HT := Lib.hid (then_any (w := w3) _ _ P0 P2 (A2.out.keep a3.bel).rd a3.rd (by omega)); have B3 : Hid (Below w.heap.size w w3) := B2.out.trans (a3.bel.mono B2.out.size); have d3 := (H.out.below B3.out).c0; clear a3) | (go_at_call 71; (with_reducible refine HT.out.mono ?_); rintro e w4 ⟨ov, rfl, a4⟩; obtain ⟨oa, oc, hov⟩ := a4.slice; rw [List.length_append] at hov; have HR4 := Lib.hid (HR.out w4 _ (by rw [HRP.out]; exact a4.deeper B3.out)); have d4 := (H.out.below (B3.out.trans (a4.bel.mono B3.out.size))).c0; clear a4; subst hov) | (go_at_call 58; (with_reducible refine HR4.out.mono ?_); rintro e w5 ⟨rfl, p5⟩; have P5 := Lib.hid p5; clear p5))
      all_goals go_wp2_with fail
      all_goals go_meet
      all_goals exact ⟨rfl, P5.out⟩
    case rest =>
      obtain ⟨rfl, hp⟩ := hcut
      have P := Lib.hid hp; clear hp
      generalize hD : D.run j (restoreP off V) = D' at *
      by_cases he : D'.err j = 0
      · have hb : (D'.err j != 0) = false := by simpa using he
        have HE := Lib.hid he; clear he
        go_wp2_with fail
        go_ret2
        refine .inr ⟨HC.out, by rw [hD]; exact P.out, .inl ⟨by rw [hD]; exact HE.out, ?_⟩⟩
        rw [hm]; rfl
      · have hb : (D'.err j != 0) = true := by simpa using he
        have HE := Lib.hid he; clear he
        go_wp2_with fail
        go_ret2
        exact .inr ⟨HC.out, by rw [hD]; exact P.out, .inr ⟨by rw [hD]; exact HE.out, by rw [hD]; rfl⟩⟩
end
end Go.Proofs.YtokgplgdaememaaDoor
