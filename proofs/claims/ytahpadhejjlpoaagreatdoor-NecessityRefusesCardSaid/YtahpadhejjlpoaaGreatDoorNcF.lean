/- Fences of a program, and a program without one of them. -/
import Derived.Test.YtahpadhejjlpoaaGreatDoorMemA
import Derived.Test.YtahpadhejjlpoaaGreatDoorNecM
namespace Go.Proofs.YtahpadhejjlpoaaGreatDoor
open Go.RowKit Go.Maps
attribute [local go_sem ↓] Go.wp_at_zero Go.wp_at_succ

def fenN (l : List (Nat × Nat × Int)) : Nat := (l.filter fun e => e.1 == 3).length
theorem fenN_snoc (l : List (Nat × Nat × Int)) (e : Nat × Nat × Int) : fenN (l ++ [e]) = fenN l + (if e.1 = 3 then 1 else 0) := by
  unfold fenN
  rw [List.filter_append, List.length_append]
  by_cases h : e.1 = 3
  · simp [h]
  · simp [h]
section
variable {w : World}
set_option maxRecDepth 100000 in
set_option maxHeartbeats 2000000 in
theorem fences_any (sv : Value) (l : List (Nat × Nat × Int)) (h : RdSl w 3 sv l.length (instrC l)) (hl : l.length ≤ 100000) :
    Calls Tryz.prog 23 #[sv] w fun r w' => r = .returned (.int .i64 (fenN l)) ∧ Below w.heap.size w w' := by
  have HS := Lib.hid h
  have HE : Hid (fenN l = fenN (l.take l.length)) := by show fenN l = _; rw [List.take_length]
  obtain ⟨_, sa, sc, rfl, hsc, _⟩ := h
  generalize fenN l = res at *
  generalize hm : l.length = m at *
  have HM := Lib.hid hm; clear hm
  go_enter Tryz.func23, Tryz.ntmps23
  go_wp2_with fail
  go_loopw [3, 8] (fun n y wr => ∃ k : Nat, k ≤ m ∧ y = .int .i64 k ∧ n = .int .i64 (fenN (l.take k) : Nat) ∧ fenN (l.take k) ≤ k ∧ Below w.heap.size w wr) (fun _ y _ => m - (intOf y).toNat)
  case atStart => exact ⟨0, by omega, rfl, rfl, by simp [fenN], Below.refl _ _⟩
  case round =>
    obtain ⟨k, hk, rfl, rfl, hfk, hb⟩ := hrel
    have B := Lib.hid hb; clear hb
    by_cases hlt : k < m
    · have hk' : (k : Int) < m := by omega
      obtain ⟨e, he⟩ : ∃ e, l[k]? = some e := ⟨_, List.getElem?_eq_getElem (by rw [HM.out]; exact hlt)⟩
      obtain ⟨_, a', c', e', _, hE⟩ := HS.out.below B.out
      cases e'
      have hg := instrC_get l k e he
      obtain ⟨fb, fo, rfl, hE2⟩ := rd_at hE hg.1
      have c1 := hE2 _ _ hg.1; have c2 := hE2 _ _ hg.2.1; have c3 := hE2 _ _ hg.2.2
      rw [← Nat.add_assoc] at c2 c3
      have HT : Hid (fenN (l.take (k + 1)) = fenN (l.take k) + (if e.1 = 3 then 1 else 0)) := by show fenN (l.take (k + 1)) = _; rw [List.take_add_one, he]; exact fenN_snoc _ _
      clear hE hE2 he hg
      obtain ⟨e1, e2, e3⟩ := e
      simp only at c1 c2 c3 HT
      have BA := Lib.hid (B.out.alloc B.out.size (.cells #[.int .u8 (e1 : Int), .int .u64 (e2 : Int), .int .u64 e3] 87))
      generalize fenN (l.take k) = f at *
      by_cases h3 : e1 = 3
      · have hb3 : ((e1 : Int) == 3) = true := by simp; omega
        rw [if_pos h3] at HT
        clear h3
        go_wp2_with fail
        go_roundw
        case rel => exact ⟨k + 1, by omega, by go_num, by rw [HT.out]; go_num, by rw [HT.out]; omega, BA.out⟩
        case measure => simp [intOf]; omega
      · have hb3 : ((e1 : Int) == 3) = false := by simp; omega
        rw [if_neg h3] at HT
        clear h3
        go_wp2_with fail
        go_roundw
        case rel => exact ⟨k + 1, by omega, by go_num, by rw [HT.out]; go_num, by rw [HT.out]; omega, BA.out⟩
        case measure => simp [intOf]; omega
    · obtain rfl : k = m := by omega
      go_wp2_with fail
      go_ret
      exact ⟨ret_int (by rw [HE.out]), B.out⟩
end
end Go.Proofs.YtahpadhejjlpoaaGreatDoor
