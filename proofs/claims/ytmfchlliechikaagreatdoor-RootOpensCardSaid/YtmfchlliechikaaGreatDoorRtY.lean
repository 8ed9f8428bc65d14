/- The reference's Name; the laws RootNames and RootNil. -/
import Derived.Test.YtmfchlliechikaaGreatDoorRtX
namespace Go.Proofs.YtmfchlliechikaaGreatDoor
open Go.RowKit Go.Maps
attribute [local go_sem ↓] Go.wp_at_zero Go.wp_at_succ

section
variable {w : World}
set_option maxRecDepth 100000 in
set_option maxHeartbeats 4000000 in
theorem r14Name_any (s : ByteArray) : Calls Tryz.prog 12 #[.string s] w fun r w' => r = .returned (.bool (nameB s.toList)) ∧ w = w' := by
  have hlen := str_len s
  by_cases h0 : s.size < 1
  · have hn : s.toList = [] := List.eq_nil_of_length_eq_zero (by omega)
    rw [show nameB s.toList = false by rw [hn]; rfl]
    have h0' : (s.size : Int) < 1 := by omega
    clear hlen h0 hn
    go_enter Tryz.func12, Tryz.ntmps12
    go_wp2_with fail
    go_ret
    exact ⟨rfl, rfl⟩
  · have h0' : ¬ (s.size : Int) < 1 := by omega
    by_cases h16 : s.size ≤ 16
    · have h16' : ¬ (16 : Int) < s.size := by omega
      have KEY : Hid (∀ b : Bool, (b = true ↔ NmOk s.toList s.size ∧ letB (s.toList.getD 0 0).toNat = true) → b = nameB s.toList) := fun b hb => by
        unfold nameB
        rw [Bool.eq_iff_iff, hb]
        simp only [Bool.and_eq_true, decide_eq_true_eq, List.all_eq_true]
        constructor
        · rintro ⟨h, hl⟩
          refine ⟨⟨by omega, hl⟩, fun x hx => ?_⟩
          obtain ⟨j, hj, rfl⟩ := List.getElem_of_mem hx
          have := h j (by omega)
          rw [List.getD_eq_getElem?_getD, List.getElem?_eq_getElem hj] at this
          exact this
        · rintro ⟨⟨_, hl⟩, h⟩
          refine ⟨fun j hj => ?_, hl⟩
          rw [List.getD_eq_getElem?_getD, List.getElem?_eq_getElem (by omega)]
          exact h _ (List.getElem_mem _)
      have HG := Lib.hid (fun k h => str_get s k h)
      have H0 := Lib.hid h0
      clear hlen h0
      go_enter Tryz.func12, Tryz.ntmps12
      go_wp2_with fail
      go_loopw [3, 4, 5] (fun y _ _ wr => ∃ k : Nat, k ≤ s.size ∧ y = .int .i64 k ∧ w = wr ∧ NmOk s.toList k ∧ (0 < k → letB (s.toList.getD 0 0).toNat = true)) (fun y _ _ _ => s.size - (intOf y).toNat)
      case atStart => exact ⟨0, by omega, rfl, rfl, fun j hj => by omega, fun h => by omega⟩
      case round =>
        obtain ⟨k, hk, rfl, rfl, ho⟩ := hrel
        have HO := Lib.hid ho
        clear ho
        by_cases hlt : k < s.size
        · have hk' : (k : Int) < s.size := by omega
          obtain ⟨c, hc⟩ : ∃ c : Nat, (s[k]'hlt).toNat = c := ⟨_, rfl⟩
          have hcl : (s.toList.getD k 0).toNat = c := by rw [← HG.out k hlt]; exact hc
          have HR : Hid (restB c = true → (k = 0 → letB c = true) → NmOk s.toList (k + 1) ∧ letB (s.toList.getD 0 0).toNat = true) := fun h hz => ⟨fun j hj => by
            by_cases e : j = k
            · subst e; rw [hcl]; exact h
            · exact HO.out.1 j (by omega), by
            by_cases e : k = 0
            · subst e; rw [hcl]; exact hz rfl
            · exact HO.out.2 (by omega)⟩
          have HF : Hid ((restB c = false ∨ (k = 0 ∧ letB c = false)) → nameB s.toList = false) := fun h => by
            symm
            refine KEY.out false ⟨fun h2 => by simp at h2, fun h2 => ?_⟩
            rcases h with h | ⟨rfl, h⟩
            · have := h2.1 k hlt
              rw [hcl, h] at this
              exact this
            · have := h2.2
              rw [hcl, h] at this
              exact this
          unfold restB letB at HR HF
          obtain ⟨z, hz⟩ : ∃ z : Bool, ((k : Int) == 0) = z := ⟨_, rfl⟩
          obtain ⟨q, hq⟩ : ∃ q : Bool, ((c : Int) != 95) = q := ⟨_, rfl⟩
          have HZ : Hid (((k : Int) == 0) = z) := hz
          have HQ : Hid (((c : Int) != 95) = q) := hq
          clear hcl HO
          by_cases f97 : (97 : Int) ≤ c <;> by_cases f122 : (c : Int) ≤ 122 <;> by_cases f65 : (65 : Int) ≤ c <;> by_cases f90 : (c : Int) ≤ 90 <;> by_cases f48 : (c : Int) < 48 <;> by_cases f57 : (57 : Int) < c <;> cases z <;> cases q <;>
            first
            | (exfalso; omega)
            | (exfalso; have := HQ.out; simp at this; omega)
            | (have HF2 : Hid (nameB s.toList = false) := HF.out (by
                have h1 := HZ.out; have h2 := HQ.out
                simp only [beq_iff_eq, bne_iff_ne, beq_eq_false_iff_ne, bne_eq_false_iff_eq, ne_eq] at h1 h2
                simp only [Bool.or_eq_false_iff, Bool.and_eq_false_iff, decide_eq_false_iff_not, beq_eq_false_iff_ne]
                omega)
               clear HR HF HZ HQ
               go_wp2_with fail
               go_ret
               exact ⟨retB HF2.out.symm, rfl⟩)
            | (have HR2 := Lib.hid (HR.out (by
                have h1 := HZ.out; have h2 := HQ.out
                simp only [beq_iff_eq, bne_iff_ne, beq_eq_false_iff_ne, bne_eq_false_iff_eq, ne_eq] at h1 h2
                simp only [Bool.or_eq_true, Bool.and_eq_true, decide_eq_true_eq, beq_iff_eq]
                omega) (by
                have h1 := HZ.out; have h2 := HQ.out
                simp only [beq_iff_eq, bne_iff_ne, beq_eq_false_iff_ne, bne_eq_false_iff_eq, ne_eq] at h1 h2
                simp only [Bool.or_eq_true, Bool.and_eq_true, decide_eq_true_eq]
                omega))
               clear HR HF HZ HQ
               go_wp2_with fail
               go_roundw
               case rel => exact ⟨k + 1, by omega, by go_num, trivial, HR2.out.1, fun _ => HR2.out.2⟩
               case measure => simp [intOf]; omega)
        · have hk' : ¬ (k : Int) < s.size := by omega
          have HT : Hid (nameB s.toList = true) := (KEY.out true ⟨fun _ => ⟨fun j hj => HO.out.1 j (by omega), HO.out.2 (by have := H0.out; omega)⟩, fun _ => rfl⟩).symm
          go_wp2_with fail
          go_ret
          exact ⟨retB HT.out.symm, rfl⟩
    · have h16' : (16 : Int) < s.size := by omega
      have HF : Hid (nameB s.toList = false) := by
        unfold nameB
        rw [show decide (1 ≤ s.toList.length ∧ s.toList.length ≤ 16) = false by simp; omega]
        rfl
      clear hlen h0 h16
      go_enter Tryz.func12, Tryz.ntmps12
      go_wp2_with fail
      go_ret
      exact ⟨retB HF.out.symm, rfl⟩
set_option maxRecDepth 100000 in
set_option maxHeartbeats 2000000 in
theorem rootNames_any (hN : Nib w) (s : ByteArray) : Calls Tryz.prog 3 #[.string s] w fun r w' => r = .returned (.bool true) ∧ Below w.heap.size w w' := by
  have HA := Lib.hid (awake14 hN)
  have H1 := Lib.hid (fun wx : World => rtName_any (w := wx) s)
  have H2 := Lib.hid (fun wx : World => r14Name_any (w := wx) s)
  clear hN
  obtain ⟨b, hb⟩ : ∃ b, nameB s.toList = b := ⟨_, rfl⟩
  rw [hb] at H1 H2
  have q : (b == b) = true := by simp
  clear hb
  go_enter Tryz.func3, Tryz.ntmps3
  go_wp2_with fail
  (with_reducible refine HA.out.mono ?_)
  rintro r w1 ⟨rfl, b1⟩
  have B1 := Lib.hid b1
  clear b1 HA
  go_wp2_with fail
  (with_reducible refine (H1.out _).mono ?_)
  rintro r w' ⟨rfl, rfl⟩
  go_wp2_with fail
  (with_reducible refine (H2.out _).mono ?_)
  rintro r w' ⟨rfl, rfl⟩
  go_wp2_with fail
  go_ret
  exact ⟨rfl, B1.out⟩
set_option maxRecDepth 100000 in
set_option maxHeartbeats 2000000 in
theorem rootNil_any (hN : Nib w) (s : ByteArray) (p : Int) : Calls Tryz.prog 6 #[.string s, .int .u64 p] w fun r w' => r = .returned (.bool true) ∧ Below w.heap.size w w' := by
  have HA := Lib.hid (awake14 hN)
  clear hN
  have I1 := Lib.hid (fun wx : World => rtGet_nil (w := wx) s)
  have I2 := Lib.hid (fun wx : World => rtSlot_nil (w := wx) s)
  have I3 := Lib.hid (fun wx : World => rtActions_nil (w := wx) s p)
  have I4 := Lib.hid (fun wx : World => rtPlan_nil (w := wx) s p)
  have I5 := Lib.hid (fun wx : World => rtList_nil (w := wx))
  have I6 := Lib.hid (fun wx : World => rtSet_nil (w := wx) s p)
  have I7 := Lib.hid (fun wx : World => rtRemove_nil (w := wx) s)
  go_enter Tryz.func6, Tryz.ntmps6
  go_wp2_with fail
  (with_reducible refine HA.out.mono ?_)
  rintro r w1 ⟨rfl, b1⟩
  have B1 := Lib.hid b1
  clear b1 HA
  go_wp2_with fail
  (with_reducible refine (I1.out _).mono ?_)
  rintro r w2 ⟨rfl, b2⟩
  have B2 := Lib.hid (B1.out.trans (b2.mono B1.out.size))
  clear b2 B1
  go_wp2_with fail
  (with_reducible refine (I2.out _).mono ?_)
  rintro r w3 ⟨rfl, b3⟩
  have B3 := Lib.hid (B2.out.trans (b3.mono B2.out.size))
  clear b3 B2
  go_wp2_with fail
  (with_reducible refine (I3.out _).mono ?_)
  rintro r w' ⟨rfl, rfl⟩
  go_wp2_with fail
  (with_reducible refine (I4.out _).mono ?_)
  rintro r w' ⟨rfl, rfl⟩
  go_wp2_with fail
  (with_reducible refine (I5.out _).mono ?_)
  rintro r w' ⟨rfl, rfl⟩
  go_wp2_with fail
  (with_reducible refine (I6.out _).mono ?_)
  rintro r w' ⟨rfl, rfl⟩
  go_wp2_with fail
  (with_reducible refine (I7.out _).mono ?_)
  rintro r w' ⟨rfl, rfl⟩
  go_wp2_with fail
  go_ret
  exact ⟨rfl, B3.out⟩
end
end Go.Proofs.YtmfchlliechikaaGreatDoor
