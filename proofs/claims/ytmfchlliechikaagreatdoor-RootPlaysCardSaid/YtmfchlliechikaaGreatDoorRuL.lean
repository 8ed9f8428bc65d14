/- The walk of RootPlays. -/
import Derived.Test.YtmfchlliechikaaGreatDoorRuK
namespace Go.Proofs.YtmfchlliechikaaGreatDoor
open Go.RowKit Go.Maps
attribute [local go_sem ↓] Go.wp_at_zero Go.wp_at_succ

theorem zero38 : rfA 192 (nmR W0) (ptR W0) W0 = Tryz.zeroCells38.setIfInBounds 0 (.int .u64 192) := by kernel_rfl
section
variable {w : World}
set_option maxRecDepth 100000 in
set_option maxHeartbeats 8000000 in
theorem rootPlays_any (hN : Nib w) (n : Nat) (sv : Value) (xs : List Value) (hs : RdSl w 3 sv n xs) (hn : n ≤ maxLen) (hop : ∀ i, i < n → OpR xs i) (nm : ByteArray) :
    Calls Tryz.prog 7 #[sv, .string nm] w fun r w' => r = .returned (.bool true) ∧ Below w.heap.size w w' := by
  unfold maxLen at hn
  obtain ⟨_, a, ca, rfl, hca, ha⟩ := hs
  have HAA := Lib.hid ha; have HOP := Lib.hid hop
  have HNB := Lib.hid hN
  clear ha hop hN
  have HAW := Lib.hid (fun (wx : World) (h : Nib wx) => awake14 h)
  have HMD := Lib.hid (fun (wx : World) (h : Nib wx) => made14 h)
  go_enter Tryz.func7, Tryz.ntmps7
  go_wp2_with fail
  (with_reducible refine (HAW.out _ HNB.out).mono ?_)
  rintro e w1 ⟨rfl, b1⟩
  have B1 := Lib.hid b1
  have N1 := Lib.hid (HNB.out.below b1)
  clear b1 HAW
  go_wp2_with fail
  (with_reducible refine (HMD.out _ N1.out).mono ?_)
  rintro e w2 ⟨v, own, D, b, rfl, h2, hb⟩
  have S2 := Lib.hid (lws_start h2)
  clear h2 hb HMD
  go_wp2_with fail
  rw [zero38] at S2
  generalize World.alloc w2 _ = w3 at *
  generalize w2.heap.size = rb at *
  go_loopw [8, 9, 25] (fun _ _ z wr => ∃ i : Nat, i ≤ n ∧ i ≤ 40 ∧ z = .int .i64 i ∧ ∃ own D W, LwS w1 v own D b rb W (33 + 9 * i) wr) (fun _ _ z _ => n - (intOf z).toNat)
  case atStart => exact ⟨0, by omega, by omega, rfl, _, _, _, S2.out⟩
  case round =>
    clear S2
    obtain ⟨i, hi, hi4, rfl, own, D, W, hs⟩ := hrel
    have R := Lib.hid hs
    clear hs
    rename World => wr
    have HEND : Hid (∀ (wy : World) (own : Nat → Option Role) (D : Dev) (W : Nat → Nat) (x : Nat), LwS w1 v own D b rb W x wy → Below w.heap.size w wy) := fun wy own D W x h => B1.out.trans (h.bel.mono B1.out.size)
    by_cases hlt : i < n ∧ i < 40
    · obtain ⟨hlt, hl4⟩ := hlt
      have hi1 : (i : Int) < n := by omega
      obtain ⟨ab, aq, o, s, p, rfl, c0, c1, c2, b0, b2⟩ := opR_now HAA.out (HOP.out i hlt) (HEND.out _ _ _ _ _ R.out)
      have hq : ((i : Int) == 40) = false := by simp; omega
      have R4 := Lib.hid (R.out.next (below_alloc wr (.cells #[.int .u8 o, .string s, .int .u64 p] 40)))
      have N4 := Lib.hid (N1.out.below R4.out.bel)
      have HAP := Lib.hid (apply14_any R4.out N1.out o s p b2 (by omega))
      have HAL := Lib.hid (fun (own : Nat → Option Role) (D : Dev) (W : Nat → Nat) (x : Nat) (wy : World) (h : LwS w1 v own D b rb W x wy) => alike_any h.pl h.d)
      clear R
      go_wp2_with fail
      (with_reducible refine HAP.out.mono ?_)
      rintro e w5 ⟨rfl, own5, D5, h5⟩
      have R5 := Lib.hid h5
      clear h5 HAP R4 N4
      go_wp2_with fail
      (with_reducible refine (HAL.out _ _ _ _ _ R5.out).mono ?_)
      rintro e w6 ⟨rfl, b6⟩
      have R6 := Lib.hid (R5.out.next b6)
      clear b6 R5 HAL
      go_wp2_with fail
      go_roundw
      case rel => exact ⟨i + 1, by omega, by omega, by go_num, _, _, _, R6.out.at (by omega)⟩
      case measure => simp [intOf]; omega
    · by_cases hin : i < n
      · obtain rfl : i = 40 := by omega
        have hi1 : ((40 : Nat) : Int) < n := by omega
        obtain ⟨ab, aq, o, s, p, rfl, c0, c1, c2, _, _⟩ := opR_now HAA.out (HOP.out 40 hin) (HEND.out _ _ _ _ _ R.out)
        obtain ⟨x, hx⟩ : ∃ x, 33 + 9 * 40 = x := ⟨_, rfl⟩
        have RT := Lib.hid ((R.out.next (below_alloc wr (.cells #[.int .u8 o, .string s, .int .u64 p] 40))).at hx)
        clear hx R hlt hin hi4 hi HOP HAA HNB N1
        have HG := Lib.hid (rtGet_any RT.out.pl.st.don nm)
        have HSL := Lib.hid (fun (wy : World) (h : LwS w1 v own D b rb W x wy) => rtSlot_any h.pl.st.don nm)
        have HFI := Lib.hid (fun (wy : World) (h : LwS w1 v own D b rb W x wy) => r14Find_any h.pl.rf h.pl.inv nm)
        go_wp2_with fail
        (with_reducible refine HG.out.mono ?_)
        rintro r w7 (⟨e, he16, he, rfl, b7⟩ | ⟨he, rfl, b7⟩)
        · have R7 := Lib.hid (RT.out.next b7)
          have hf : fndV W nm.toList = (e : Nat) := by unfold fndV; rw [he, if_pos he16]
          obtain ⟨hu, hnm⟩ := findE_hit (W := W) (l := nm.toList) (by rw [he]; exact he16)
          rw [he] at hu hnm
          have hne : nm.toList.isEmpty = false := by
            have := (nameB_ok (RT.out.pl.inv e he16 hu)).pos
            rw [hnm] at this
            cases hl : nm.toList with
            | nil => rw [hl] at this; simp at this
            | cons a l => rfl
          have HPT : Hid (∀ wy, LwS w1 v own D b rb W x wy → wy.cell? ⟨rb, 1 + e * 6 + 1, none⟩ = some (.int .u64 (W (4 * e + 2) : Nat))) := fun wy h => h.pl.rf.blk.cell (by
            rw [show 1 + e * 6 + 1 = 1 + 6 * e + 1 by omega, rfA_get _ _ _ _ e 1 he16 (by omega)]
            show some (Value.int .u64 (ptR W e : Nat)) = _
            unfold ptR
            rw [if_neg hu])
          have HFE := Lib.hid he
          rw [hf] at HFI
          have he6 : (e : Int) < 16 := by omega
          have he0 : ¬ (e : Int) < 0 := by omega
          clear b7 RT HG hf hu hnm he
          go_wp2_with fail
          (with_reducible refine (HSL.out _ R7.out).mono ?_)
          rintro r w8 (⟨e', _, he', rfl, b8⟩ | ⟨he', _⟩)
          · have R8 := Lib.hid (R7.out.next b8)
            clear b8 R7 HSL he' HFE
            go_wp2_with fail
            (with_reducible refine (HFI.out _ R8.out).mono ?_)
            rintro r w9 ⟨rfl, b9⟩
            have R9 := Lib.hid (R8.out.next b9)
            have c9 := HPT.out _ R9.out
            clear b9 R8 HFI HPT
            go_wp2_with fail
            go_ret
            exact ⟨rfl, HEND.out _ _ _ _ _ R9.out⟩
          · have := HFE.out; omega
        · have R7 := Lib.hid (RT.out.next b7)
          have hf : fndV W nm.toList = -1 := by unfold fndV; rw [he, if_neg (by omega)]
          have HFE := Lib.hid he
          rw [hf] at HFI
          clear b7 RT HG hf he
          go_wp2_with fail
          (with_reducible refine (HSL.out _ R7.out).mono ?_)
          rintro r w8 (⟨e', h16', he', _⟩ | ⟨he', rfl, b8⟩)
          · have := HFE.out; omega
          · have R8 := Lib.hid (R7.out.next b8)
            clear b8 R7 HSL he' HFE
            go_wp2_with fail
            (with_reducible refine (HFI.out _ R8.out).mono ?_)
            rintro r w9 ⟨rfl, b9⟩
            have R9 := Lib.hid (R8.out.next b9)
            clear b9 R8 HFI
            go_wp2_with fail
            go_ret
            exact ⟨rfl, HEND.out _ _ _ _ _ R9.out⟩
      · obtain rfl : i = n := by omega
        obtain ⟨x, hx⟩ : ∃ x, 33 + 9 * i = x := ⟨_, rfl⟩
        have RT := Lib.hid (R.out.at hx)
        clear hx R hlt hin hi4 HOP HAA HNB N1
        have HG := Lib.hid (rtGet_any RT.out.pl.st.don nm)
        have HSL := Lib.hid (fun (wy : World) (h : LwS w1 v own D b rb W x wy) => rtSlot_any h.pl.st.don nm)
        have HFI := Lib.hid (fun (wy : World) (h : LwS w1 v own D b rb W x wy) => r14Find_any h.pl.rf h.pl.inv nm)
        go_wp2_with fail
        (with_reducible refine HG.out.mono ?_)
        rintro r w7 (⟨e, he16, he, rfl, b7⟩ | ⟨he, rfl, b7⟩)
        · have R7 := Lib.hid (RT.out.next b7)
          have hf : fndV W nm.toList = (e : Nat) := by unfold fndV; rw [he, if_pos he16]
          obtain ⟨hu, hnm⟩ := findE_hit (W := W) (l := nm.toList) (by rw [he]; exact he16)
          rw [he] at hu hnm
          have hne : nm.toList.isEmpty = false := by
            have := (nameB_ok (RT.out.pl.inv e he16 hu)).pos
            rw [hnm] at this
            cases hl : nm.toList with
            | nil => rw [hl] at this; simp at this
            | cons a l => rfl
          have HPT : Hid (∀ wy, LwS w1 v own D b rb W x wy → wy.cell? ⟨rb, 1 + e * 6 + 1, none⟩ = some (.int .u64 (W (4 * e + 2) : Nat))) := fun wy h => h.pl.rf.blk.cell (by
            rw [show 1 + e * 6 + 1 = 1 + 6 * e + 1 by omega, rfA_get _ _ _ _ e 1 he16 (by omega)]
            show some (Value.int .u64 (ptR W e : Nat)) = _
            unfold ptR
            rw [if_neg hu])
          have HFE := Lib.hid he
          rw [hf] at HFI
          have he6 : (e : Int) < 16 := by omega
          have he0 : ¬ (e : Int) < 0 := by omega
          clear b7 RT HG hf hu hnm he
          go_wp2_with fail
          (with_reducible refine (HSL.out _ R7.out).mono ?_)
          rintro r w8 (⟨e', _, he', rfl, b8⟩ | ⟨he', _⟩)
          · have R8 := Lib.hid (R7.out.next b8)
            clear b8 R7 HSL he' HFE
            go_wp2_with fail
            (with_reducible refine (HFI.out _ R8.out).mono ?_)
            rintro r w9 ⟨rfl, b9⟩
            have R9 := Lib.hid (R8.out.next b9)
            have c9 := HPT.out _ R9.out
            clear b9 R8 HFI HPT
            go_wp2_with fail
            go_ret
            exact ⟨rfl, HEND.out _ _ _ _ _ R9.out⟩
          · have := HFE.out; omega
        · have R7 := Lib.hid (RT.out.next b7)
          have hf : fndV W nm.toList = -1 := by unfold fndV; rw [he, if_neg (by omega)]
          have HFE := Lib.hid he
          rw [hf] at HFI
          clear b7 RT HG hf he
          go_wp2_with fail
          (with_reducible refine (HSL.out _ R7.out).mono ?_)
          rintro r w8 (⟨e', h16', he', _⟩ | ⟨he', rfl, b8⟩)
          · have := HFE.out; omega
          · have R8 := Lib.hid (R7.out.next b8)
            clear b8 R7 HSL he' HFE
            go_wp2_with fail
            (with_reducible refine (HFI.out _ R8.out).mono ?_)
            rintro r w9 ⟨rfl, b9⟩
            have R9 := Lib.hid (R8.out.next b9)
            clear b9 R8 HFI
            go_wp2_with fail
            go_ret
            exact ⟨rfl, HEND.out _ _ _ _ _ R9.out⟩
end
end Go.Proofs.YtmfchlliechikaaGreatDoor
