/- The reference of layer 14: Sum (bit by bit), Pointer; a directory of the reference in memory; Find. -/
import Derived.Test.YtmfchlliechikaaGreatDoorRtE
import Derived.Test.YtmfchlliechikaaGreatDoorCrcM
import Derived.Test.YtmfchlliechikaaGreatDoorCrcW
import Derived.Test.YtmfchlliechikaaGreatDoorBase
import Derived.Deep.RegionHeld3
import Derived.Deep.MidRow
namespace Go.Proofs.YtmfchlliechikaaGreatDoor
open Go.RowKit Go.Maps

theorem shr_nat (x i : Nat) : (x : Int) / 2 ^ i = ((x / 2 ^ i : Nat) : Int) := by
  rw [show ((2 : Int) ^ i) = ((2 ^ i : Nat) : Int) by simp]; exact (Int.natCast_ediv x (2 ^ i)).symm
theorem and1_u64 (x : Nat) (h : x < 18446744073709551616) : bits .and .u64 (x : Int) 1 = ((x % 2 : Nat) : Int) := by
  have := u64_and_nat x 1 h (by omega)
  rw [nat_mask1] at this; exact this
section
variable {w : World}
set_option maxRecDepth 100000 in
set_option maxHeartbeats 2000000 in
theorem sum13_any (sv : Value) (l : List Nat) (hs : RdSl w 1 sv l.length (natsU l)) (hl : l.length ≤ 1000) (h64 : ∀ x ∈ l, x < 18446744073709551616) :
    Calls Tryz.prog 84 #[sv] w fun e w' => e = .returned (.int .u64 (crcN l : Nat)) ∧ w = w' := by
  obtain ⟨_, a, c, rfl, hc, ha⟩ := hs
  have HA := Lib.hid ha; have H64 := Lib.hid h64; clear ha h64
  have HE : Hid (crcN l = 4294967295 - crcReg (l.take l.length)) := by show crcN l = _; rw [List.take_length]; rfl
  generalize crcN l = res at *
  generalize hn : l.length = n at *
  have HN := Lib.hid hn; clear hn
  go_enter Tryz.func84, Tryz.ntmps84
  go_wp2_with fail
  go_loop [3, 10] (fun r y => ∃ k : Nat, k ≤ n ∧ y = .int .i64 k ∧ r = .int .u64 (crcReg (l.take k) : Nat)) (fun _ y => n - (intOf y).toNat)
  case atStart => exact ⟨0, by omega, rfl, rfl⟩
  case round =>
    obtain ⟨k, hk, rfl, rfl⟩ := hrel
    have hrl := crcReg_lt (l.take k)
    by_cases hlt : k < n
    · have hk' : (k : Int) < n := by omega
      obtain ⟨x, hx⟩ : ∃ x, l[k]? = some x := ⟨_, List.getElem?_eq_getElem (by rw [HN.out]; exact hlt)⟩
      obtain ⟨eb, eo, rfl, hE⟩ := rd_at HA.out (show (natsU l)[k]? = some (.int .u64 x) by simp [natsU, hx])
      have c1 := hE k _ (show (natsU l)[k]? = some (.int .u64 x) by simp [natsU, hx])
      have hx64 := H64.out x (List.mem_of_getElem? hx)
      have HT : Hid (crcReg (l.take (k + 1)) = bitW (crcReg (l.take k)) x 64) := by show crcReg (l.take (k + 1)) = _; rw [List.take_add_one, hx, show bitW (crcReg (l.take k)) x 64 = bitW (crcReg (l.take k)) x (8 * 8) from rfl, ← crcWord_bit]; exact crcReg_snoc _ _
      clear hE hx
      generalize crcReg (l.take k) = r0 at *
      go_wp2_with fail
      go_loop [3, 6] (fun r y => ∃ i : Nat, i ≤ 64 ∧ y = .int .i64 i ∧ r = .int .u64 (bitW r0 x i : Nat)) (fun _ y => 64 - (intOf y).toNat)
      case atStart => exact ⟨0, by omega, rfl, rfl⟩
      case round =>
        obtain ⟨i, hi, rfl, rfl⟩ := hrel
        have hrw := bitW_lt r0 x i hrl
        by_cases hi8 : i < 64
        · have hi' : (i : Int) < 64 := by omega
          have HS1 := Lib.hid (bitW_succ r0 x i)
          have hv : x / 2 ^ i ≤ x := Nat.div_le_self _ _
          have q0 := shr_nat x i
          generalize bitW r0 x i = r1 at *
          generalize x / 2 ^ i = v1 at *
          have q1 := u64_xor_nat r1 v1 (by omega) (by omega)
          have hxv : r1 ^^^ v1 < 18446744073709551616 := Nat.xor_lt_two_pow (n := 64) (by omega) (by omega)
          have q4 := u64_xor_nat (r1 / 2) 2197175160 (by omega) (by omega)
          rw [show ((r1 / 2 : Nat) : Int) = (r1 : Int) / 2 by omega, show ((2197175160 : Nat) : Int) = 2197175160 from rfl] at q4
          generalize r1 ^^^ v1 = y at *
          have q2 := and1_u64 y hxv
          by_cases hm : y % 2 = 1
          · rw [hm] at q2
            rw [if_pos hm] at HS1
            clear hm
            go_wp2_with fail
            go_round
            case rel => exact ⟨i + 1, by omega, by go_num, by exact congrArg (fun z : Nat => Value.int .u64 (z : Int)) HS1.out.symm⟩
            case measure => simp [intOf]; omega
          · have hm0 : y % 2 = 0 := by omega
            rw [hm0, show ((0 : Nat) : Int) = 0 from rfl] at q2
            rw [if_neg hm, Nat.xor_zero] at HS1
            clear hm hm0 q4
            go_wp2_with fail
            go_round
            case rel => exact ⟨i + 1, by omega, by go_num, by rw [HS1.out]; exact congrArg (Value.int .u64) (by omega)⟩
            case measure => simp [intOf]; omega
        · obtain rfl : i = 64 := by omega
          generalize hr2 : bitW r0 x 64 = r1 at *
          have HR := Lib.hid hr2; clear hr2
          go_wp2_with fail
          go_round
          case rel => exact ⟨k + 1, by omega, by go_num, by rw [HT.out]⟩
          case measure => simp [intOf]; omega
    · obtain rfl : k = n := by omega
      generalize crcReg (l.take k) = r0 at *
      have q1 := u64_xor_nat r0 4294967295 (by omega) (by omega)
      rw [Nat.xor_comm, xor_ones r0 hrl, show ((4294967295 : Nat) : Int) = 4294967295 from rfl] at q1
      go_wp2_with fail
      go_ret
      exact ⟨ret_int (by rw [HE.out]), rfl⟩
end
section
variable {w : World}
set_option maxRecDepth 100000 in
set_option maxHeartbeats 4000000 in
theorem r14Pointer_any (p : Nat) (hp : p < 18446744073709551616) : Calls Tryz.prog 69 #[.int .u64 p, .int .u64 1280] w fun r w' => r = .returned (.bool (ptrB p 1280)) ∧ w = w' := by
  have g1 : IntKind.u64.wrap ((p : Int) % 4294967296 * 8) = (p : Int) % 4294967296 * 8 := IntWalk.u64_in _ (by omega)
  have HK : Hid (ptrB p 1280 = (decide (0 < (p : Int) % 4294967296 * 8) && decide ((p : Int) % 4294967296 * 8 < 1280) && decide (0 < (p : Int) / 4294967296 % 65536) && decide (0 < (p : Int) / 281474976710656) && decide ((p : Int) / 281474976710656 < 128))) := by
    show _ = _
    unfold ptrB
    congr 1
    · congr 1
      · congr 1
        · congr 1
          · exact decide_eq_decide.2 (by omega)
          · exact decide_eq_decide.2 (by omega)
        · exact decide_eq_decide.2 (by omega)
      · exact decide_eq_decide.2 (by omega)
    · exact decide_eq_decide.2 (by omega)
  by_cases f1 : (0 : Int) < (p : Int) % 4294967296 * 8 <;> by_cases f2 : (p : Int) % 4294967296 * 8 < 1280 <;> by_cases f3 : (0 : Int) < (p : Int) / 4294967296 % 65536 <;> by_cases f4 : (0 : Int) < (p : Int) / 281474976710656 <;> by_cases f5 : (p : Int) / 281474976710656 < 128 <;>
    (go_enter Tryz.func69, Tryz.ntmps69
     go_wp2_with fail
     go_ret
     exact ⟨retB (by rw [HK.out]; simp [f1, f2, f3, f4, f5]), rfl⟩)
end
/-- The name and the pointer of an entry of the reference whose words are these. -/
def nmR (W : Nat → Nat) (e : Nat) : ByteArray := if W (4 * e + 3) = 0 then { data := #[] } else nmS (W (4 * e)) (W (4 * e + 1))
def ptR (W : Nat → Nat) (e : Nat) : Nat := if W (4 * e + 3) = 0 then 0 else W (4 * e + 2)
/-- The cells of 16 entries of the reference. -/
def rfE (nm : Nat → ByteArray) (pt W : Nat → Nat) (e : Nat) : List Value := [.string (nm e), .int .u64 (pt e), .int .u64 (W (4 * e)), .int .u64 (W (4 * e + 1)), .int .u64 (W (4 * e + 2)), .int .u64 (W (4 * e + 3))]
def rfL (nm : Nat → ByteArray) (pt W : Nat → Nat) : List Value := (List.range 16).flatMap (rfE nm pt W)
def rfA (at' : Nat) (nm : Nat → ByteArray) (pt W : Nat → Nat) : Array Value := (.int .u64 at' :: rfL nm pt W).toArray
theorem rfA_size (a : Nat) (nm : Nat → ByteArray) (pt W : Nat → Nat) : (rfA a nm pt W).size = 97 := by kernel_rfl
theorem idxR (nm : Nat → ByteArray) (pt W : Nat → Nat) (e : Nat) (he : e < 16) (wx : World) : (Instr.index 36 (.agg (rfL nm pt W).toArray) (.int .i64 (e : Nat))).run Tryz.prog wx = .ok (.agg (rfE nm pt W e).toArray) wx := by
  obtain rfl | rfl | rfl | rfl | rfl | rfl | rfl | rfl | rfl | rfl | rfl | rfl | rfl | rfl | rfl | rfl : e = 0 ∨ e = 1 ∨ e = 2 ∨ e = 3 ∨ e = 4 ∨ e = 5 ∨ e = 6 ∨ e = 7 ∨ e = 8 ∨ e = 9 ∨ e = 10 ∨ e = 11 ∨ e = 12 ∨ e = 13 ∨ e = 14 ∨ e = 15 := by omega
  all_goals kernel_rfl
theorem rfA_get (a : Nat) (nm : Nat → ByteArray) (pt W : Nat → Nat) (e k : Nat) (he : e < 16) (hk : k < 6) : (rfA a nm pt W)[1 + 6 * e + k]? = (rfE nm pt W e)[k]? := by
  obtain rfl | rfl | rfl | rfl | rfl | rfl | rfl | rfl | rfl | rfl | rfl | rfl | rfl | rfl | rfl | rfl : e = 0 ∨ e = 1 ∨ e = 2 ∨ e = 3 ∨ e = 4 ∨ e = 5 ∨ e = 6 ∨ e = 7 ∨ e = 8 ∨ e = 9 ∨ e = 10 ∨ e = 11 ∨ e = 12 ∨ e = 13 ∨ e = 14 ∨ e = 15 := by omega
  all_goals (obtain rfl | rfl | rfl | rfl | rfl | rfl : k = 0 ∨ k = 1 ∨ k = 2 ∨ k = 3 ∨ k = 4 ∨ k = 5 := by omega) <;> rfl
end Go.Proofs.YtmfchlliechikaaGreatDoor

/- The reference's Find over a directory in memory. -/
namespace Go.Proofs.YtmfchlliechikaaGreatDoor
open Go.RowKit Go.Maps
attribute [local go_sem ↓] Go.wp_at_zero Go.wp_at_succ

/-- A directory of the reference in memory. -/
structure RfAt (w : World) (b a : Nat) (W : Nat → Nat) : Prop where
  blk : Blk w b (rfA a (nmR W) (ptR W) W) 38
section
variable {w wx : World} {b a : Nat} {W : Nat → Nat}
theorem RfAt.next (h : RfAt w b a W) (hb : Below w.heap.size w wx) : RfAt wx b a W := ⟨h.blk.below hb⟩
theorem RfAt.range (h : RfAt w b a W) : w.rangeAt b 1 (rfL (nmR W) (ptR W) W) := fun j v hv => h.blk.cell (by
  unfold rfA
  rw [Nat.add_comm]
  simpa using hv)
theorem rfL_len (nm : Nat → ByteArray) (pt W : Nat → Nat) : (rfL nm pt W).length = 96 := by kernel_rfl
theorem infoR (nm : Nat → ByteArray) (pt W : Nat → Nat) : (Tryz.prog.info? 36).map (·.size) = some (rfL nm pt W).length := by rw [rfL_len]; kernel_rfl
/-- The entries in use have names. -/
def InvW (W : Nat → Nat) : Prop := ∀ e, e < 16 → W (4 * e + 3) ≠ 0 → nameB (nameE W e) = true
theorem nmR_list (W : Nat → Nat) (e : Nat) : (nmR W e).toList = if W (4 * e + 3) = 0 then [] else nameE W e := by
  unfold nmR
  split
  · kernel_rfl
  · exact nmS_list _ _
theorem nmR_find (h : InvW W) (e : Nat) (he : e < 16) (l : List UInt8) : ((nmR W e).toList.isEmpty = true → (usedE W e && nameE W e == l) = false) ∧ ((nmR W e).toList.isEmpty = false → (usedE W e && nameE W e == l) = ((nmR W e).toList == l)) := by
  rw [nmR_list]
  by_cases h3 : W (4 * e + 3) = 0
  · rw [if_pos h3]
    refine ⟨fun _ => by unfold usedE; rw [h3]; rfl, fun hx => by simp at hx⟩
  · rw [if_neg h3]
    have hu : usedE W e = true := by unfold usedE; simp [h3]
    rw [hu]
    refine ⟨fun hx => ?_, fun _ => by simp⟩
    have := (nameB_ok (h e he h3)).pos
    rw [List.isEmpty_iff] at hx
    rw [hx] at this
    simp at this
/-- A box behind w. -/
structure BxR (w : World) (b : Nat) (A : Array Value) (wx : World) : Prop where
  blk : Blk wx b A 38
  bel : Below w.heap.size w wx
theorem BxR.next {A : Array Value} {wx wy : World} (h : BxR w b A wx) (hb : Below wx.heap.size wx wy) : BxR w b A wy := ⟨h.blk.below hb, h.bel.trans (hb.mono h.bel.size)⟩
set_option maxRecDepth 100000 in
set_option maxHeartbeats 4000000 in
theorem r14Find_any (h : RfAt w b a W) (hI : InvW W) (s : ByteArray) : Calls Tryz.prog 33 #[.pointer (some ⟨b, 0, none⟩), .string s] w fun r w' => r = .returned (.int .i64 (fndV W s.toList)) ∧ Below w.heap.size w w' := by
  have HRG := Lib.hid h.range
  have HIF := Lib.hid (infoR (nmR W) (ptR W) W)
  have HIX := Lib.hid (fun (e : Nat) (he : e < 16) (wx : World) => idxR (nmR W) (ptR W) W e he wx)
  have HFD := Lib.hid (fun (e : Nat) (he : e < 16) => nmR_find hI e he s.toList)
  have HHIT : Hid (∀ e, e < 16 → (usedE W e && nameE W e == s.toList) = true → (∀ j, j < e → (usedE W j && nameE W j == s.toList) = false) → findE W s.toList = e) := fun e he hp hn => firstI_hit he hp hn
  have HNO : Hid ((∀ e, e < 16 → (usedE W e && nameE W e == s.toList) = false) → findE W s.toList = 16) := fun h => firstI_none h
  obtain ⟨p, hp⟩ : ∃ p : Nat → Bool, (fun e => usedE W e && nameE W e == s.toList) = p := ⟨_, rfl⟩
  have hp2 : ∀ e, (usedE W e && nameE W e == s.toList) = p e := fun e => congrFun hp e
  simp only [hp2] at HHIT HNO HFD
  have HRV : Hid (fndV W s.toList = if findE W s.toList < 16 then (findE W s.toList : Int) else -1) := rfl
  have HA : Hid (∃ L, rfL (nmR W) (ptR W) W = L) := ⟨_, rfl⟩
  obtain ⟨L, hL⟩ := HA.out
  rw [hL] at HRG HIF HIX
  generalize fndV W s.toList = rv at *
  generalize findE W s.toList = res at *
  clear hp hp2 hL HA h hI
  go_enter Tryz.func33, Tryz.ntmps33
  go_wp2_with (refine wpList_load_mid rfl 36 (.tmp 9) rfl b 1 rfl L _ HRG.out Tryz.underlying36 rfl HIF.out ?_)
  go_loopw [5, 6, 11] (fun _ _ y wr => ∃ e : Nat, e ≤ 16 ∧ y = .int .i64 e ∧ Below w.heap.size w wr ∧ NoneB p e) (fun _ _ y _ => 16 - (intOf y).toNat)
  case atStart => exact ⟨0, by omega, rfl, Below.refl _ _, fun j hj => by omega⟩
  case round =>
    obtain ⟨e, he, rfl, hx, hno⟩ := hrel
    have X := Lib.hid hx; have NO := Lib.hid hno
    clear hx hno
    by_cases hlt : e < 16
    · have he' : (e : Int) < 16 := by omega
      have hix := fun wx => HIX.out e hlt wx
      have hfd := HFD.out e hlt
      have HHE := Lib.hid (HHIT.out e hlt)
      unfold rfE at hix
      generalize nmR W e = es at *
      generalize ptR W e = pe at *
      obtain ⟨x0, hx0⟩ : ∃ x, W (4 * e) = x := ⟨_, rfl⟩
      obtain ⟨x1, hx1⟩ : ∃ x, W (4 * e + 1) = x := ⟨_, rfl⟩
      obtain ⟨x2, hx2⟩ : ∃ x, W (4 * e + 2) = x := ⟨_, rfl⟩
      obtain ⟨x3, hx3⟩ : ∃ x, W (4 * e + 3) = x := ⟨_, rfl⟩
      rw [hx0, hx1, hx2, hx3] at hix
      have FD := Lib.hid hfd
      have X1 := Lib.hid (X.out.trans ((below_alloc wr (.cells #[.string es, .int .u64 pe, .int .u64 x0, .int .u64 x1, .int .u64 x2, .int .u64 x3] 35)).mono X.out.size))
      clear hx0 hx1 hx2 hx3 hfd
      cases hq0 : es.toList.isEmpty
      · have hpe := FD.out.2 hq0
        cases hcmp : (es.toList == s.toList)
        · have NO2 : Hid (NoneB p (e + 1)) := fun j hj => by
            by_cases ej : j = e
            · subst ej; rw [hpe]; exact hcmp
            · exact NO.out j (by omega)
          clear hpe FD
          go_wp2_with fail
          go_roundw
          case rel => exact ⟨e + 1, by omega, by go_num, X1.out, NO2.out⟩
          case measure => simp [intOf]; omega
        · have HR : Hid (rv = e) := by show _ = _; rw [HRV.out, HHE.out (by rw [hpe]; exact hcmp) NO.out, if_pos hlt]
          clear hpe FD
          go_wp2_with fail
          go_ret
          exact ⟨(by rw [HR.out]; first | done | rfl), X1.out⟩
      · have hpe := FD.out.1 hq0
        have NO2 : Hid (NoneB p (e + 1)) := fun j hj => by
          by_cases ej : j = e
          · subst ej; exact hpe
          · exact NO.out j (by omega)
        clear hpe FD
        go_wp2_with fail
        go_roundw
        case rel => exact ⟨e + 1, by omega, by go_num, X1.out, NO2.out⟩
        case measure => simp [intOf]; omega
    · obtain rfl : e = 16 := by omega
      have HR : Hid (rv = -1) := by show _ = _; rw [HRV.out, HNO.out NO.out, if_neg (by omega)]
      go_wp2_with fail
      go_ret
      exact ⟨(by rw [HR.out]; first | done | rfl), X.out⟩
end
end Go.Proofs.YtmfchlliechikaaGreatDoor
