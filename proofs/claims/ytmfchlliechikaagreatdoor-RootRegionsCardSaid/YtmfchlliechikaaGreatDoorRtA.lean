/- The walks of a name's test, of a pointer's test and of cmp.Compare at strings. -/
import Derived.Test.YtmfchlliechikaaGreatDoorBase
import Derived.Test.YtmfchlliechikaaGreatDoorRtM
import Derived.Test.YtmfchlliechikaaGreatDoorRows
import Derived.StillTailTactics
import Derived.Deep.QuietTactic
import Derived.BigQuiet
namespace Go.Proofs.YtmfchlliechikaaGreatDoor
open Go.RowKit

theorem retB {a b : Bool} (h : a = b) : Ending.returned (.bool a) = .returned (.bool b) := by rw [h]
theorem str_get (s : ByteArray) (k : Nat) (h : k < s.size) : (s[k]'h).toNat = (s.toList.getD k 0).toNat := by
  rw [ByteArray.toList_eq, List.getD_eq_getElem?_getD, List.getElem?_eq_getElem (by rw [← Lib.size_eq]; exact h)]
  rfl
theorem str_len (s : ByteArray) : s.toList.length = s.size := by rw [ByteArray.toList_eq, ← Lib.size_eq]
section
variable {w : World}
set_option maxRecDepth 100000 in
set_option maxHeartbeats 1000000 in
theorem rtletter_any (b : Nat) : Calls Tryz.prog 40 #[.int .u8 b] w fun r w' => r = .returned (.bool (letB b)) ∧ w = w' := by
  have hl : letB b = (((decide ((65 : Int) ≤ b)) && (decide ((b : Int) ≤ 90))) || ((decide ((97 : Int) ≤ b)) && (decide ((b : Int) ≤ 122)))) := by
    unfold letB
    rw [Bool.eq_iff_iff]
    simp
    omega
  rw [hl]
  clear hl
  by_cases h1 : (65 : Int) ≤ b
  · by_cases h2 : (b : Int) ≤ 90
    · go_enter Tryz.func40, Tryz.ntmps40
      go_wp2_with fail
      go_ret
      exact ⟨retB (by simp [h1, h2]), rfl⟩
    · by_cases h3 : (97 : Int) ≤ b
      · by_cases h4 : (b : Int) ≤ 122
        · go_enter Tryz.func40, Tryz.ntmps40
          go_wp2_with fail
          go_ret
          exact ⟨retB (by simp), rfl⟩
        · go_enter Tryz.func40, Tryz.ntmps40
          go_wp2_with fail
          go_ret
          exact ⟨retB (by simp [h2, h4]), rfl⟩
      · go_enter Tryz.func40, Tryz.ntmps40
        go_wp2_with fail
        go_ret
        exact ⟨retB (by simp [h2]; omega), rfl⟩
  · have h3 : ¬ (97 : Int) ≤ b := by omega
    go_enter Tryz.func40, Tryz.ntmps40
    go_wp2_with fail
    go_ret
    exact ⟨retB (by simp; omega), rfl⟩
set_option maxRecDepth 100000 in
set_option maxHeartbeats 1000000 in
theorem PtrNil_any (p : Nat) : Calls Tryz.prog 59 #[.int .u64 p] w fun r w' => r = .returned (.bool (p == 0)) ∧ w = w' := by
  have hl : (p == 0) = ((p : Int) == 0) := by rw [Bool.eq_iff_iff]; simp
  rw [hl]
  clear hl
  go_enter Tryz.func59, Tryz.ntmps59
  go_wp2_with fail
  go_ret
  exact ⟨rfl, rfl⟩
set_option maxRecDepth 100000 in
set_option maxHeartbeats 1000000 in
theorem isNaNS_any (s : ByteArray) : Calls Tryz.prog 91 #[.string s] w fun r w' => r = .returned (.bool false) ∧ w = w' := by
  have h : (s.toList == s.toList) = true := beq_self_eq_true _
  go_enter Tryz.func91, Tryz.ntmps91
  go_wp2_with fail
  go_ret
  exact ⟨rfl, rfl⟩
def NmOk (l : List UInt8) (k : Nat) : Prop := ∀ j, j < k → restB (l.getD j 0).toNat = true
/-- The answer of cmp.Compare at strings. -/
def cmpS (a b : List UInt8) : Int := if Op.bytesLess a b then -1 else if a == b then 0 else 1
set_option maxRecDepth 100000 in
set_option maxHeartbeats 1000000 in
theorem cmpS_any (s t : ByteArray) : Calls Tryz.prog 65 #[.string s, .string t] w fun r w' => r = .returned (.int .i64 (cmpS s.toList t.toList)) ∧ w = w' := by
  have HN := Lib.hid (fun (wx : World) x => isNaNS_any (w := wx) x)
  unfold cmpS
  cases h1 : Op.bytesLess s.toList t.toList
  · cases h2 : s.toList == t.toList
    · go_enter Tryz.func65, Tryz.ntmps65
      go_wp2_with (go_at_call 91; (with_reducible refine (HN.out _ _).mono ?_); rintro e w' ⟨rfl, rfl⟩)
      go_ret
      exact ⟨rfl, rfl⟩
    · go_enter Tryz.func65, Tryz.ntmps65
      go_wp2_with (go_at_call 91; (with_reducible refine (HN.out _ _).mono ?_); rintro e w' ⟨rfl, rfl⟩)
      go_ret
      exact ⟨rfl, rfl⟩
  · go_enter Tryz.func65, Tryz.ntmps65
    go_wp2_with (go_at_call 91; (with_reducible refine (HN.out _ _).mono ?_); rintro e w' ⟨rfl, rfl⟩)
    go_ret
    exact ⟨rfl, rfl⟩
theorem rest_not (l : List UInt8) (j : Nat) (hj : j < l.length) (h : restB (l.getD j 0).toNat = false) : (l.all fun b => restB b.toNat) = false := by
  rw [List.all_eq_false]
  refine ⟨l[j], List.getElem_mem hj, ?_⟩
  rw [List.getD_eq_getElem?_getD, List.getElem?_eq_getElem hj] at h
  simpa using h
set_option maxRecDepth 100000 in
set_option maxHeartbeats 2000000 in
theorem rtName_any (s : ByteArray) : Calls Tryz.prog 11 #[.string s] w fun r w' => r = .returned (.bool (nameB s.toList)) ∧ w = w' := by
  have HL := Lib.hid (fun (wx : World) b => rtletter_any (w := wx) b)
  have hlen := str_len s
  by_cases h0 : s.size = 0
  · have hn : s.toList = [] := List.eq_nil_of_length_eq_zero (by omega)
    have hq : s.toList.isEmpty = true := by rw [hn]; rfl
    rw [show nameB s.toList = false by rw [hn]; rfl]
    clear hlen h0 hn
    go_enter Tryz.func11, Tryz.ntmps11
    go_wp2_with fail
    go_ret
    exact ⟨rfl, rfl⟩
  · have hq : s.toList.isEmpty = false := by
      rw [Bool.eq_false_iff]
      intro h
      rw [List.isEmpty_iff] at h
      rw [h] at hlen
      simp at hlen
      omega
    by_cases h16 : s.size ≤ 16
    · have h16' : ¬ (16 : Int) < s.size := by omega
      have p0 : 0 < s.size := by omega
      have hg := fun k h => str_get s k h
      have HG := Lib.hid hg
      cases hb0 : letB (s[0]'p0).toNat
      · rw [show nameB s.toList = false by unfold nameB; rw [← hg 0 p0, hb0]; simp]
        clear hlen h16 hg
        go_enter Tryz.func11, Tryz.ntmps11
        go_wp2_with fail
        (with_reducible refine (HL.out _ _).mono ?_)
        rintro e w' ⟨rfl, rfl⟩
        go_wp2_with fail
        go_ret
        exact ⟨rfl, rfl⟩
      · have KEY : Hid (∀ b : Bool, (b = true ↔ NmOk s.toList s.size) → b = nameB s.toList) := fun b hb => by
          unfold nameB
          rw [← hg 0 p0, hb0, Bool.eq_iff_iff, hb]
          simp only [Bool.and_true, Bool.and_eq_true, decide_eq_true_eq, List.all_eq_true]
          constructor
          · intro h
            refine ⟨by omega, fun x hx => ?_⟩
            obtain ⟨j, hj, rfl⟩ := List.getElem_of_mem hx
            have := h j (by omega)
            rw [List.getD_eq_getElem?_getD, List.getElem?_eq_getElem hj] at this
            exact this
          · intro h j hj
            rw [List.getD_eq_getElem?_getD, List.getElem?_eq_getElem (by omega)]
            exact h.2 _ (List.getElem_mem _)
        clear hlen hg
        go_enter Tryz.func11, Tryz.ntmps11
        go_wp2_with fail
        (with_reducible refine (HL.out _ _).mono ?_)
        rintro e w' ⟨rfl, rfl⟩
        go_wp2_with fail
        go_loopw [19] (fun y wr => ∃ k : Nat, k ≤ s.size ∧ y = .int .i64 k ∧ w = wr ∧ NmOk s.toList k) (fun y _ => s.size - (intOf y).toNat)
        case atStart => exact ⟨0, by omega, rfl, rfl, fun j hj => by omega⟩
        case round =>
          obtain ⟨k, hk, rfl, rfl, ho⟩ := hrel
          have HO := Lib.hid ho
          clear ho
          by_cases hlt : k < s.size
          · have hk' : (k : Int) < s.size := by omega
            obtain ⟨c, hc⟩ : ∃ c : Nat, (s[k]'hlt).toNat = c := ⟨_, rfl⟩
            have hcl : (s.toList.getD k 0).toNat = c := by rw [← HG.out k hlt]; exact hc
            have HR : Hid (restB c = true → NmOk s.toList (k + 1)) := fun h j hj => by
              by_cases e : j = k
              · subst e; rw [hcl]; exact h
              · exact HO.out j (by omega)
            have HF : Hid (restB c = false → nameB s.toList = false) := fun h => by
              symm
              refine KEY.out false ⟨fun h2 => by simp at h2, fun h2 => ?_⟩
              have := h2 k hlt
              rw [hcl, h] at this
              exact this
            unfold restB at HR HF
            clear hcl
            cases hlc : letB c
            · by_cases h95 : (c : Int) = 95
              · have q95 : ((c : Int) != 95) = false := by simpa using h95
                have HR2 : Hid (NmOk s.toList (k + 1)) := HR.out (by rw [hlc, show c = 95 by omega]; rfl)
                clear h95 HR HF
                go_wp2_with fail
                (with_reducible refine (HL.out _ _).mono ?_)
                rintro e w' ⟨rfl, rfl⟩
                go_wp2_with fail
                go_roundw
                case rel => exact ⟨k + 1, by omega, by go_num, trivial, HR2.out⟩
                case measure => simp [intOf]; omega
              · have q95 : ((c : Int) != 95) = true := by simpa using h95
                by_cases h48 : (c : Int) < 48
                · have HF2 : Hid (nameB s.toList = false) := HF.out (by rw [hlc]; simp; omega)
                  clear h95 HR HF
                  go_wp2_with fail
                  (with_reducible refine (HL.out _ _).mono ?_)
                  rintro e w' ⟨rfl, rfl⟩
                  go_wp2_with fail
                  go_ret
                  exact ⟨retB HF2.out.symm, rfl⟩
                · by_cases h57 : (57 : Int) < (c : Int)
                  · have HF2 : Hid (nameB s.toList = false) := HF.out (by rw [hlc]; simp; omega)
                    clear h95 HR HF
                    go_wp2_with fail
                    (with_reducible refine (HL.out _ _).mono ?_)
                    rintro e w' ⟨rfl, rfl⟩
                    go_wp2_with fail
                    go_ret
                    exact ⟨retB HF2.out.symm, rfl⟩
                  · have HR2 : Hid (NmOk s.toList (k + 1)) := HR.out (by rw [hlc]; simp; omega)
                    clear h95 HR HF
                    go_wp2_with fail
                    (with_reducible refine (HL.out _ _).mono ?_)
                    rintro e w' ⟨rfl, rfl⟩
                    go_wp2_with fail
                    go_roundw
                    case rel => exact ⟨k + 1, by omega, by go_num, trivial, HR2.out⟩
                    case measure => simp [intOf]; omega
            · have HR2 : Hid (NmOk s.toList (k + 1)) := HR.out (by rw [hlc]; rfl)
              clear HR HF
              go_wp2_with fail
              (with_reducible refine (HL.out _ _).mono ?_)
              rintro e w' ⟨rfl, rfl⟩
              go_wp2_with fail
              go_roundw
              case rel => exact ⟨k + 1, by omega, by go_num, trivial, HR2.out⟩
              case measure => simp [intOf]; omega
          · have hke : k = s.size := by omega
            have hnk : ¬ (k : Int) < s.size := by omega
            have HT : Hid (true = nameB s.toList) := KEY.out true ⟨fun _ => by rw [← hke]; exact HO.out, fun _ => rfl⟩
            clear hke hlt
            go_wp2_with fail
            go_ret
            exact ⟨retB HT.out, rfl⟩
    · have h16' : (16 : Int) < s.size := by omega
      rw [show nameB s.toList = false by unfold nameB; simp [hlen]; omega]
      clear hlen h0 h16
      go_enter Tryz.func11, Tryz.ntmps11
      go_wp2_with fail
      go_ret
      exact ⟨rfl, rfl⟩
end
end Go.Proofs.YtmfchlliechikaaGreatDoor
