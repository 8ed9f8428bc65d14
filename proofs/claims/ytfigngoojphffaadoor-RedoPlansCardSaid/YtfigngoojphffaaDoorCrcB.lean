/- The reference's checksum, bit by bit: plain, and the walk. -/
import Derived.Test.YtfigngoojphffaaDoorCrcW
import Derived.Laws.BitsAllLaws
namespace Go.Proofs.YtfigngoojphffaaDoor
open Go.RowKit
attribute [local go_sem ↓] Go.wp_at_zero Go.wp_at_succ

def crcP : Nat := 2197175160
def bitB (r : Nat) : Nat := (r / 2) ^^^ (r % 2 * crcP)
def bitN : Nat → Nat → Nat
  | 0, r => r
  | k + 1, r => bitB (bitN k r)
/-- k bits of a word. -/
def bitW (r x : Nat) : Nat → Nat
  | 0 => r
  | k + 1 => bitB (bitW r x k ^^^ (x / 2 ^ k % 2))
theorem xor_mod2 (a b : Nat) : (a ^^^ b) % 2 = (a + b) % 2 := by
  have h : decide ((a ^^^ b) % 2 = 1) = (decide (a % 2 = 1) ^^ decide (b % 2 = 1)) := by
    rw [← Nat.testBit_zero, ← Nat.testBit_zero, ← Nat.testBit_zero, Nat.testBit_xor]
  rcases Nat.mod_two_eq_zero_or_one a with ha | ha <;> rcases Nat.mod_two_eq_zero_or_one b with hb | hb <;> rw [ha, hb] at h
  · have := of_decide_eq_false (h.trans (by decide)); omega
  · have := of_decide_eq_true (h.trans (by decide)); omega
  · have := of_decide_eq_true (h.trans (by decide)); omega
  · have := of_decide_eq_false (h.trans (by decide)); omega
theorem bitB_xor (a b : Nat) : bitB (a ^^^ b) = bitB a ^^^ bitB b := by
  unfold bitB
  have h1 : (a ^^^ b) / 2 = a / 2 ^^^ b / 2 := by
    refine Nat.eq_of_testBit_eq fun i => ?_
    simp [Nat.testBit_div_two, Nat.testBit_xor]
  rw [h1, xor_mod2]
  have h3 : (a + b) % 2 * crcP = (a % 2 * crcP) ^^^ (b % 2 * crcP) := by
    rcases Nat.mod_two_eq_zero_or_one a with ha | ha <;> rcases Nat.mod_two_eq_zero_or_one b with hb | hb
    · rw [ha, hb, show (a + b) % 2 = 0 by omega]; simp
    · rw [ha, hb, show (a + b) % 2 = 1 by omega]; simp
    · rw [ha, hb, show (a + b) % 2 = 1 by omega]; simp
    · rw [ha, hb, show (a + b) % 2 = 0 by omega]; simp
  rw [h3, Nat.xor_assoc, Nat.xor_assoc]
  congr 1
  rw [← Nat.xor_assoc, Nat.xor_comm (b / 2), Nat.xor_assoc]
theorem bitB_two (b : Nat) : bitB (2 * b) = b := by
  unfold bitB
  rw [show 2 * b / 2 = b by omega, show 2 * b % 2 = 0 by omega]; simp
theorem bitB_step (r b : Nat) (hb : b < 2) : bitB (r ^^^ b) = (r / 2) ^^^ ((r + b) % 2 * crcP) := by
  rw [bitB_xor]
  have : b = 0 ∨ b = 1 := by omega
  rcases this with rfl | rfl
  · show bitB r ^^^ bitB 0 = _
    rw [show bitB 0 = 0 by decide, Nat.xor_zero, Nat.add_zero]; rfl
  · rw [show bitB 1 = crcP by decide]
    unfold bitB
    rw [Nat.xor_assoc]
    congr 1
    rcases Nat.mod_two_eq_zero_or_one r with h | h
    · rw [h, show (r + 1) % 2 = 1 by omega]; simp
    · rw [h, show (r + 1) % 2 = 0 by omega]; simp
theorem bitN_xor (k a b : Nat) : bitN k (a ^^^ b) = bitN k a ^^^ bitN k b := by
  induction k with
  | zero => rfl
  | succ k ih => show bitB _ = bitB _ ^^^ bitB _; rw [ih, bitB_xor]
theorem bitN_in (k : Nat) : ∀ r, bitN (k + 1) r = bitN k (bitB r) := by
  induction k with
  | zero => intro r; rfl
  | succ k ih => intro r; show bitB (bitN (k + 1) r) = bitB (bitN k (bitB r)); rw [ih]
theorem bitN_pow (k : Nat) : ∀ b, bitN k (2 ^ k * b) = b := by
  induction k with
  | zero => intro b; show 1 * b = b; omega
  | succ k ih => intro b; rw [bitN_in, show 2 ^ (k + 1) * b = 2 * (2 ^ k * b) by rw [Nat.pow_succ, Nat.mul_comm (2 ^ k) 2, Nat.mul_assoc], bitB_two, ih]
theorem xor_high (a k b : Nat) (h : a < 2 ^ k) : a ^^^ 2 ^ k * b = a + 2 ^ k * b := by
  refine Nat.eq_of_testBit_eq fun i => ?_
  rw [Nat.add_comm, Nat.testBit_two_pow_mul_add b h, Nat.testBit_xor, Nat.testBit_two_pow_mul]
  by_cases hi : i < k
  · simp [hi, show ¬ k ≤ i by omega]
  · have : a < 2 ^ i := Nat.lt_of_lt_of_le h (Nat.pow_le_pow_right (by omega) (by omega))
    simp [hi, show k ≤ i by omega, Nat.testBit_lt_two_pow this]
theorem bitW_eq (r x k : Nat) : bitW r x k = bitN k (r ^^^ (x % 2 ^ k)) := by
  induction k with
  | zero => show r = r ^^^ (x % 1); rw [show x % 1 = 0 by omega, Nat.xor_zero]
  | succ k ih =>
    show bitB (bitW r x k ^^^ (x / 2 ^ k % 2)) = bitB (bitN k _)
    rw [ih, Nat.mod_pow_succ, ← xor_high _ _ _ (Nat.mod_lt _ (Nat.two_pow_pos k)), ← Nat.xor_assoc, bitN_xor k (r ^^^ _), bitN_pow]
theorem bitN_add (m k r : Nat) : bitN (m + k) r = bitN k (bitN m r) := by
  induction k with
  | zero => rfl
  | succ k ih => show bitB (bitN (m + k) r) = bitB _; rw [ih]
theorem bitN4 (r : Nat) : bitN 4 r = crcHalf r := by
  have h : r = (r % 16) ^^^ 2 ^ 4 * (r / 16) := by rw [xor_high _ _ _ (by omega)]; omega
  have e : bitN 4 r = bitN 4 (r % 16) ^^^ r / 16 := by
    conv => lhs; rw [h]
    rw [bitN_xor, bitN_pow]
  have key : ∀ n, n < 16 → bitN 4 n = nibA n := by decide
  rw [e, key _ (by omega), Nat.xor_comm]; rfl
theorem bitW_add (r x m k : Nat) : bitW r x (m + k) = bitW (bitW r x m) (x / 2 ^ m) k := by
  induction k with
  | zero => rfl
  | succ k ih =>
    show bitB (bitW r x (m + k) ^^^ (x / 2 ^ (m + k) % 2)) = bitB (bitW (bitW r x m) (x / 2 ^ m) k ^^^ (x / 2 ^ m / 2 ^ k % 2))
    rw [ih, Nat.div_div_eq_div_mul, Nat.pow_add]
theorem crcWord_bits (r x k : Nat) : crcWord r x k = bitW r x (8 * k) := by
  induction k with
  | zero => rfl
  | succ k ih =>
    show crcStep (crcWord r x k) (x / 256 ^ k % 256) = _
    rw [ih, show 8 * (k + 1) = 8 * k + 8 by omega, bitW_add, bitW_eq _ _ 8, show (8 : Nat) = 4 + 4 from rfl, bitN_add, bitN4, bitN4]
    unfold crcStep
    rw [show (256 : Nat) ^ k = 2 ^ (8 * k) by rw [Nat.pow_mul]]
theorem bitW_lt (r x k : Nat) (h : r < 4294967296) : bitW r x k < 4294967296 := by
  induction k with
  | zero => exact h
  | succ k ih =>
    show bitB _ < _
    rw [bitB_step _ _ (by omega)]
    refine xor32 (by omega) ?_
    have : (bitW r x k + x / 2 ^ k % 2) % 2 < 2 := Nat.mod_lt _ (by omega)
    unfold crcP
    omega
section
variable {w : World}
set_option maxRecDepth 100000 in
set_option maxHeartbeats 4000000 in
theorem r13Sum_any (sv : Value) (l : List Nat) (hs : RdSl w 1 sv l.length (natsU l)) (hb : ∀ x ∈ l, x < 18446744073709551616) (hl : l.length ≤ 10000) :
    Calls Tryd.prog 81 #[sv] w fun r w' => r = .returned (.int .u64 (crcN l : Nat)) ∧ w = w' := by
  have HS := Lib.hid hs; have HB := Lib.hid hb; clear hb
  obtain ⟨_, sa, sc, rfl, hsc, _⟩ := hs
  generalize hm : l.length = m at *
  have HM := Lib.hid hm; clear hm
  go_enter Tryd.func81, Tryd.ntmps81
  go_wp2_with fail
  go_loopw [3, 10] (fun c y wr => ∃ k : Nat, k ≤ m ∧ y = .int .i64 k ∧ c = .int .u64 (crcReg (l.take k) : Nat) ∧ w = wr) (fun _ y _ => m - (intOf y).toNat)
  case atStart => exact ⟨0, by omega, rfl, rfl, rfl⟩
  case round =>
    obtain ⟨k, hk, rfl, rfl, rfl⟩ := hrel
    by_cases hlt : k < m
    · have hk' : (k : Int) < m := by omega
      obtain ⟨x, hx⟩ : ∃ x, l[k]? = some x := ⟨_, List.getElem?_eq_getElem (by rw [HM.out]; exact hlt)⟩
      have hxl := HB.out x (List.mem_of_getElem? hx)
      obtain ⟨_, a', c', e', _, hE⟩ := HS.out
      cases e'
      have hg : (natsU l)[k]? = some (.int .u64 (x : Nat)) := by simp [natsU, hx]
      obtain ⟨eb, eo, rfl, hE2⟩ := rd_at hE hg
      have d1 := hE2 _ _ hg
      have HT : Hid (crcReg (l.take (k + 1)) = bitW (crcReg (l.take k)) x 64) := by
        show crcReg (l.take (k + 1)) = _
        rw [take_snoc_get l k x hx, crcReg_snoc, crcWord_bits]
      have hrl := crcReg_lt (l.take k)
      generalize crcReg (l.take k) = R at *
      clear hE hE2 hg hx
      go_wp2_with fail
      go_loopw [3, 6] (fun c y wr => ∃ q : Nat, q ≤ 64 ∧ y = .int .i64 q ∧ c = .int .u64 (bitW R x q : Nat) ∧ w = wr) (fun _ y _ => 64 - (intOf y).toNat)
      case atStart => exact ⟨0, by omega, rfl, rfl, rfl⟩
      case round =>
        obtain ⟨q, hq, rfl, rfl, rfl⟩ := hrel
        by_cases hlt2 : q < 64
        · have hq' : (q : Int) < 64 := by omega
          have hcl := bitW_lt R x q hrl
          have HN : Hid (bitW R x (q + 1) = (bitW R x q / 2) ^^^ ((bitW R x q + x / 2 ^ q % 2) % 2 * crcP)) := bitB_step _ _ (by omega)
          have y1 : bits .xor .u64 (bitW R x q : Nat) ((x : Int) / 2 ^ q) = ((bitW R x q ^^^ (x / 2 ^ q) : Nat) : Int) := by
            have := u64_xor_nat (bitW R x q) (x / 2 ^ q) (by omega) (Nat.lt_of_le_of_lt (Nat.div_le_self _ _) hxl)
            rw [show ((x / 2 ^ q : Nat) : Int) = (x : Int) / 2 ^ q by push_cast; rfl] at this
            exact this
          have hV : (bitW R x q ^^^ (x / 2 ^ q)) % 2 = (bitW R x q + x / 2 ^ q % 2) % 2 := by rw [xor_mod2]; omega
          have hVl : bitW R x q ^^^ (x / 2 ^ q) < 18446744073709551616 := Nat.xor_lt_two_pow (n := 64) (by omega) (Nat.lt_of_le_of_lt (Nat.div_le_self _ _) hxl)
          have y2 : bits .and .u64 ((bitW R x q ^^^ (x / 2 ^ q) : Nat) : Int) 1 = (((bitW R x q ^^^ (x / 2 ^ q)) % 2 : Nat) : Int) := by
            have := u64_and_nat (bitW R x q ^^^ (x / 2 ^ q)) 1 hVl (by omega)
            rw [Nat.and_one_is_mod] at this
            exact this
          rw [← hV] at HN
          have y3 : bits .xor .u64 ((bitW R x q : Int) / 2) 2197175160 = ((bitW R x q / 2 ^^^ crcP : Nat) : Int) := by
            have := u64_xor_nat (bitW R x q / 2) crcP (by omega) (by decide)
            rw [show ((bitW R x q / 2 : Nat) : Int) = (bitW R x q : Int) / 2 by omega] at this
            exact this
          generalize bitW R x q ^^^ (x / 2 ^ q) = V at *
          have hbit : V % 2 = 0 ∨ V % 2 = 1 := by omega
          generalize V % 2 = bt at *
          clear hV
          generalize bitW R x q = c at *
          rcases hbit with hb | hb
          · subst hb
            go_wp2_with fail
            go_roundw
            case rel => exact ⟨q + 1, by omega, by go_num, by rw [HN.out]; simp, by first | rfl | trivial⟩
            case measure => simp [intOf]; omega
          · subst hb
            go_wp2_with fail
            go_roundw
            case rel => exact ⟨q + 1, by omega, by go_num, by rw [HN.out]; simp, by first | rfl | trivial⟩
            case measure => simp [intOf]; omega
        · obtain rfl : q = 64 := by omega
          go_wp2_with fail
          go_roundw
          case rel => exact ⟨k + 1, by omega, by go_num, by rw [HT.out], by first | rfl | trivial⟩
          case measure => simp [intOf]; omega
    · obtain rfl : k = m := by omega
      have hQ : l.take k = l := List.take_of_length_le (by rw [HM.out]; omega)
      rw [hQ]
      have hcl := crcReg_lt l
      have y1 : bits .xor .u64 (crcReg l : Nat) 4294967295 = ((crcN l : Nat) : Int) := by
        have := u64_xor_nat (crcReg l) 4294967295 (by omega) (by omega)
        rw [Nat.xor_comm, xor_ones _ hcl] at this
        exact this
      clear hQ
      go_wp2_with fail
      go_ret
      exact ⟨rfl, rfl⟩
end
end Go.Proofs.YtfigngoojphffaaDoor
