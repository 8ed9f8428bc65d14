/- The reference's checksum, bit by bit: plain, and the walk. -/
import Derived.Test.YtfigngoojphffaaDoorCrcW
import Derived.Laws.BitsAllLaws
import Derived.Test.YtfigngoojphffaaDoorRdoK
import Derived.Test.YtfigngoojphffaaDoorR11
namespace Go.Proofs.YtfigngoojphffaaDoor
open Go.RowKit
attribute [local go_sem ↓] Go.wp_at_zero Go.wp_at_succ

def crcP : Nat := 2197175160
def bitB (r : Nat) : Nat := (r / 2) ^^^ (r % 2 * crcP)
def bitN : Nat → Nat → Nat
  | 0, r => r
  | k + 1, r => bitB (bitN k r)
/-- k bits of a word. -/
def bitW (r x : Nat) : Nat → Nat
  | 0 => r
  | k + 1 => bitB (bitW r x k ^^^ (x / 2 ^ k % 2))
theorem xor_mod2 (a b : Nat) : (a ^^^ b) % 2 = (a + b) % 2 := by
  have h : decide ((a ^^^ b) % 2 = 1) = (decide (a % 2 = 1) ^^ decide (b % 2 = 1)) := by
    rw [← Nat.testBit_zero, ← Nat.testBit_zero, ← Nat.testBit_zero, Nat.testBit_xor]
  rcases Nat.mod_two_eq_zero_or_one a with ha | ha <;> rcases Nat.mod_two_eq_zero_or_one b with hb | hb <;> rw [ha, hb] at h
  · have := of_decide_eq_false (h.trans (by decide)); omega
  · have := of_decide_eq_true (h.trans (by decide)); omega
  · have := of_decide_eq_true (h.trans (by decide)); omega
  · have := of_decide_eq_false (h.trans (by decide)); omega
theorem bitB_xor (a b : Nat) : bitB (a ^^^ b) = bitB a ^^^ bitB b := by
  unfold bitB
  have h1 : (a ^^^ b) / 2 = a / 2 ^^^ b / 2 := by
    refine Nat.eq_of_testBit_eq fun i => ?_
    simp [Nat.testBit_div_two, Nat.testBit_xor]
  rw [h1, xor_mod2]
  have h3 : (a + b) % 2 * crcP = (a % 2 * crcP) ^^^ (b % 2 * crcP) := by
    rcases Nat.mod_two_eq_zero_or_one a with ha | ha <;> rcases Nat.mod_two_eq_zero_or_one b with hb | hb
    · rw [ha, hb, show (a + b) % 2 = 0 by omega]; simp
    · rw [ha, hb, show (a + b) % 2 = 1 by omega]; simp
    · rw [ha, hb, show (a + b) % 2 = 1 by omega]; simp
    · rw [ha, hb, show (a + b) % 2 = 0 by omega]; simp
  rw [h3, Nat.xor_assoc, Nat.xor_assoc]
  congr 1
  rw [← Nat.xor_assoc, Nat.xor_comm (b / 2), Nat.xor_assoc]
theorem bitB_two (b : Nat) : bitB (2 * b) = b := by
  unfold bitB
  rw [show 2 * b / 2 = b by omega, show 2 * b % 2 = 0 by omega]; simp
theorem bitB_step (r b : Nat) (hb : b < 2) : bitB (r ^^^ b) = (r / 2) ^^^ ((r + b) % 2 * crcP) := by
  rw [bitB_xor]
  have : b = 0 ∨ b = 1 := by omega
  rcases this with rfl | rfl
  · show bitB r ^^^ bitB 0 = _
    rw [show bitB 0 = 0 by decide, Nat.xor_zero, Nat.add_zero]; rfl
  · rw [show bitB 1 = crcP by decide]
    unfold bitB
    rw [Nat.xor_assoc]
    congr 1
    rcases Nat.mod_two_eq_zero_or_one r with h | h
    · rw [h, show (r + 1) % 2 = 1 by omega]; simp
    · rw [h, show (r + 1) % 2 = 0 by omega]; simp
theorem bitN_xor (k a b : Nat) : bitN k (a ^^^ b) = bitN k a ^^^ bitN k b := by
  induction k with
  | zero => rfl
  | succ k ih => show bitB _ = bitB _ ^^^ bitB _; rw [ih, bitB_xor]
theorem bitN_in (k : Nat) : ∀ r, bitN (k + 1) r = bitN k (bitB r) := by
  induction k with
  | zero => intro r; rfl
  | succ k ih => intro r; show bitB (bitN (k + 1) r) = bitB (bitN k (bitB r)); rw [ih]
theorem bitN_pow (k : Nat) : ∀ b, bitN k (2 ^ k * b) = b := by
  induction k with
  | zero => intro b; show 1 * b = b; omega
  | succ k ih => intro b; rw [bitN_in, show 2 ^ (k + 1) * b = 2 * (2 ^ k * b) by rw [Nat.pow_succ, Nat.mul_comm (2 ^ k) 2, Nat.mul_assoc], bitB_two, ih]
theorem xor_high (a k b : Nat) (h : a < 2 ^ k) : a ^^^ 2 ^ k * b = a + 2 ^ k * b := by
  refine Nat.eq_of_testBit_eq fun i => ?_
  rw [Nat.add_comm, Nat.testBit_two_pow_mul_add b h, Nat.testBit_xor, Nat.testBit_two_pow_mul]
  by_cases hi : i < k
  · simp [hi, show ¬ k ≤ i by omega]
  · have : a < 2 ^ i := Nat.lt_of_lt_of_le h (Nat.pow_le_pow_right (by omega) (by omega))
    simp [hi, show k ≤ i by omega, Nat.testBit_lt_two_pow this]
theorem bitW_eq (r x k : Nat) : bitW r x k = bitN k (r ^^^ (x % 2 ^ k)) := by
  induction k with
  | zero => show r = r ^^^ (x % 1); rw [show x % 1 = 0 by omega, Nat.xor_zero]
  | succ k ih =>
    show bitB (bitW r x k ^^^ (x / 2 ^ k % 2)) = bitB (bitN k _)
    rw [ih, Nat.mod_pow_succ, ← xor_high _ _ _ (Nat.mod_lt _ (Nat.two_pow_pos k)), ← Nat.xor_assoc, bitN_xor k (r ^^^ _), bitN_pow]
theorem bitN_add (m k r : Nat) : bitN (m + k) r = bitN k (bitN m r) := by
  induction k with
  | zero => rfl
  | succ k ih => show bitB (bitN (m + k) r) = bitB _; rw [ih]
theorem bitN4 (r : Nat) : bitN 4 r = crcHalf r := by
  have h : r = (r % 16) ^^^ 2 ^ 4 * (r / 16) := by rw [xor_high _ _ _ (by omega)]; omega
  have e : bitN 4 r = bitN 4 (r % 16) ^^^ r / 16 := by
    conv => lhs; rw [h]
    rw [bitN_xor, bitN_pow]
  have key : ∀ n, n < 16 → bitN 4 n = nibA n := by decide
  rw [e, key _ (by omega), Nat.xor_comm]; rfl
theorem bitW_add (r x m k : Nat) : bitW r x (m + k) = bitW (bitW r x m) (x / 2 ^ m) k := by
  induction k with
  | zero => rfl
  | succ k ih =>
    show bitB (bitW r x (m + k) ^^^ (x / 2 ^ (m + k) % 2)) = bitB (bitW (bitW r x m) (x / 2 ^ m) k ^^^ (x / 2 ^ m / 2 ^ k % 2))
    rw [ih, Nat.div_div_eq_div_mul, Nat.pow_add]
theorem crcWord_bits (r x k : Nat) : crcWord r x k = bitW r x (8 * k) := by
  induction k with
  | zero => rfl
  | succ k ih =>
    show crcStep (crcWord r x k) (x / 256 ^ k % 256) = _
    rw [ih, show 8 * (k + 1) = 8 * k + 8 by omega, bitW_add, bitW_eq _ _ 8, show (8 : Nat) = 4 + 4 from rfl, bitN_add, bitN4, bitN4]
    unfold crcStep
    rw [show (256 : Nat) ^ k = 2 ^ (8 * k) by rw [Nat.pow_mul]]
theorem bitW_lt (r x k : Nat) (h : r < 4294967296) : bitW r x k < 4294967296 := by
  induction k with
  | zero => exact h
  | succ k ih =>
    show bitB _ < _
    rw [bitB_step _ _ (by omega)]
    refine xor32 (by omega) ?_
    have : (bitW r x k + x / 2 ^ k % 2) % 2 < 2 := Nat.mod_lt _ (by omega)
    unfold crcP
    omega
section
variable {w : World}
set_option maxRecDepth 100000 in
set_option maxHeartbeats 4000000 in
theorem r13Sum_any (sv : Value) (l : List Nat) (hs : RdSl w 1 sv l.length (natsU l)) (hb : ∀ x ∈ l, x < 18446744073709551616) (hl : l.length ≤ 10000) :
    Calls Tryd.prog 81 #[sv] w fun r w' => r = .returned (.int .u64 (crcN l : Nat)) ∧ w = w' := by
  have HS := Lib.hid hs; have HB := Lib.hid hb; clear hb
  obtain ⟨_, sa, sc, rfl, hsc, _⟩ := hs
  generalize hm : l.length = m at *
  have HM := Lib.hid hm; clear hm
  go_enter Tryd.func81, Tryd.ntmps81
  go_wp2_with fail
  go_loopw [3, 10] (fun c y wr => ∃ k : Nat, k ≤ m ∧ y = .int .i64 k ∧ c = .int .u64 (crcReg (l.take k) : Nat) ∧ w = wr) (fun _ y _ => m - (intOf y).toNat)
  case atStart => exact ⟨0, by omega, rfl, rfl, rfl⟩
  case round =>
    obtain ⟨k, hk, rfl, rfl, rfl⟩ := hrel
    by_cases hlt : k < m
    · have hk' : (k : Int) < m := by omega
      obtain ⟨x, hx⟩ : ∃ x, l[k]? = some x := ⟨_, List.getElem?_eq_getElem (by rw [HM.out]; exact hlt)⟩
      have hxl := HB.out x (List.mem_of_getElem? hx)
      obtain ⟨_, a', c', e', _, hE⟩ := HS.out
      cases e'
      have hg : (natsU l)[k]? = some (.int .u64 (x : Nat)) := by simp [natsU, hx]
      obtain ⟨eb, eo, rfl, hE2⟩ := rd_at hE hg
      have d1 := hE2 _ _ hg
      have HT : Hid (crcReg (l.take (k + 1)) = bitW (crcReg (l.take k)) x 64) := by
        show crcReg (l.take (k + 1)) = _
        rw [take_snoc_get l k x hx, crcReg_snoc, crcWord_bits]
      have hrl := crcReg_lt (l.take k)
      generalize crcReg (l.take k) = R at *
      clear hE hE2 hg hx
      go_wp2_with fail
      go_loopw [3, 6] (fun c y wr => ∃ q : Nat, q ≤ 64 ∧ y = .int .i64 q ∧ c = .int .u64 (bitW R x q : Nat) ∧ w = wr) (fun _ y _ => 64 - (intOf y).toNat)
      case atStart => exact ⟨0, by omega, rfl, rfl, rfl⟩
      case round =>
        obtain ⟨q, hq, rfl, rfl, rfl⟩ := hrel
        by_cases hlt2 : q < 64
        · have hq' : (q : Int) < 64 := by omega
          have hcl := bitW_lt R x q hrl
          have HN : Hid (bitW R x (q + 1) = (bitW R x q / 2) ^^^ ((bitW R x q + x / 2 ^ q % 2) % 2 * crcP)) := bitB_step _ _ (by omega)
          have y1 : bits .xor .u64 (bitW R x q : Nat) ((x : Int) / 2 ^ q) = ((bitW R x q ^^^ (x / 2 ^ q) : Nat) : Int) := by
            have := u64_xor_nat (bitW R x q) (x / 2 ^ q) (by omega) (Nat.lt_of_le_of_lt (Nat.div_le_self _ _) hxl)
            rw [show ((x / 2 ^ q : Nat) : Int) = (x : Int) / 2 ^ q by push_cast; rfl] at this
            exact this
          have hV : (bitW R x q ^^^ (x / 2 ^ q)) % 2 = (bitW R x q + x / 2 ^ q % 2) % 2 := by rw [xor_mod2]; omega
          have hVl : bitW R x q ^^^ (x / 2 ^ q) < 18446744073709551616 := Nat.xor_lt_two_pow (n := 64) (by omega) (Nat.lt_of_le_of_lt (Nat.div_le_self _ _) hxl)
          have y2 : bits .and .u64 ((bitW R x q ^^^ (x / 2 ^ q) : Nat) : Int) 1 = (((bitW R x q ^^^ (x / 2 ^ q)) % 2 : Nat) : Int) := by
            have := u64_and_nat (bitW R x q ^^^ (x / 2 ^ q)) 1 hVl (by omega)
            rw [Nat.and_one_is_mod] at this
            exact this
          rw [← hV] at HN
          have y3 : bits .xor .u64 ((bitW R x q : Int) / 2) 2197175160 = ((bitW R x q / 2 ^^^ crcP : Nat) : Int) := by
            have := u64_xor_nat (bitW R x q / 2) crcP (by omega) (by decide)
            rw [show ((bitW R x q / 2 : Nat) : Int) = (bitW R x q : Int) / 2 by omega] at this
            exact this
          generalize bitW R x q ^^^ (x / 2 ^ q) = V at *
          have hbit : V % 2 = 0 ∨ V % 2 = 1 := by omega
          generalize V % 2 = bt at *
          clear hV
          generalize bitW R x q = c at *
          rcases hbit with hb | hb
          · subst hb
            go_wp2_with fail
            go_roundw
            case rel => exact ⟨q + 1, by omega, by go_num, by rw [HN.out]; simp, by first | rfl | trivial⟩
            case measure => simp [intOf]; omega
          · subst hb
            go_wp2_with fail
            go_roundw
            case rel => exact ⟨q + 1, by omega, by go_num, by rw [HN.out]; simp, by first | rfl | trivial⟩
            case measure => simp [intOf]; omega
        · obtain rfl : q = 64 := by omega
          go_wp2_with fail
          go_roundw
          case rel => exact ⟨k + 1, by omega, by go_num, by rw [HT.out], by first | rfl | trivial⟩
          case measure => simp [intOf]; omega
    · obtain rfl : k = m := by omega
      have hQ : l.take k = l := List.take_of_length_le (by rw [HM.out]; omega)
      rw [hQ]
      have hcl := crcReg_lt l
      have y1 : bits .xor .u64 (crcReg l : Nat) 4294967295 = ((crcN l : Nat) : Int) := by
        have := u64_xor_nat (crcReg l) 4294967295 (by omega) (by omega)
        rw [Nat.xor_comm, xor_ones _ hcl] at this
        exact this
      clear hQ
      go_wp2_with fail
      go_ret
      exact ⟨rfl, rfl⟩
end
end Go.Proofs.YtfigngoojphffaaDoor

/- The reference of layer 15: Word, Check, entries, Commit. -/
namespace Go.Proofs.YtfigngoojphffaaDoor
open Go.RowKit Go.Maps
attribute [local go_sem ↓] Go.wp_at_zero Go.wp_at_succ

/-- What the reference's Check tells. -/
def chkR (l : List (Nat × Int)) : Int := if l.all (fun e => rAllowB 2560 320 1664 e.1) then (if 96 < (lastL l).length then 9 else 0) else 1
theorem chkR_bad {l : List (Nat × Int)} {e : Nat × Int} (he : e ∈ l) (h : rAllowB 2560 320 1664 e.1 = false) : chkR l = 1 := by
  unfold chkR
  rw [if_neg]
  intro hc
  have := List.all_eq_true.1 hc e he
  rw [h] at this; cases this
theorem chkR_good {l : List (Nat × Int)} (h : ∀ e ∈ l, rAllowB 2560 320 1664 e.1 = true) : chkR l = if 96 < (lastL l).length then 9 else 0 := by
  unfold chkR
  rw [if_pos (List.all_eq_true.2 h)]
theorem all_snoc {l : List (Nat × Int)} {k : Nat} {e : Nat × Int} {p : Nat × Int → Prop} (he : l[k]? = some e) (h : ∀ x ∈ l.take k, p x) (hp : p e) : ∀ x ∈ l.take (k + 1), p x := fun x hx => by
  rw [take_snoc_get l k e he] at hx
  rcases List.mem_append.1 hx with hx | hx
  · exact h x hx
  · simp at hx; subst hx; exact hp
section
variable {w : World}
set_option maxRecDepth 100000 in
set_option maxHeartbeats 2000000 in
theorem r15Word_any (o : Nat) : Calls Tryd.prog 53 #[.agg #[.int .u64 320, .int .u64 1984, .int .u64 2560], .int .u64 o] w fun r w' => r = .returned (.bool (rAllowB 2560 320 1664 o)) ∧ Below w.heap.size w w' := by
  have hres : ∀ b, b = rAllowB 2560 320 1664 o → Ending.returned (.bool b) = .returned (.bool (rAllowB 2560 320 1664 o)) := fun b e => by rw [e]
  have HR := Lib.hid hres; clear hres
  by_cases h8 : o % 8 = 0
  · have b8 : (((o : Int) % 8) == 0) = true := by simp; omega
    by_cases hs : o < 2560
    · have hs' : (o : Int) < 2560 := by omega
      by_cases hl : o < 320
      · have hl' : (o : Int) < 320 := by omega
        go_enter Tryd.func53, Tryd.ntmps53
        go_wp2_with fail
        go_ret
        exact ⟨HR.out _ (by unfold rAllowB; symm; simp; omega), below_alloc _ _⟩
      · have hl' : ¬ (o : Int) < 320 := by omega
        by_cases h5 : 1984 ≤ o
        · have h5' : (1984 : Int) ≤ o := by omega
          go_enter Tryd.func53, Tryd.ntmps53
          go_wp2_with fail
          go_ret
          exact ⟨HR.out _ (by unfold rAllowB; symm; simp; omega), below_alloc _ _⟩
        · have h5' : ¬ (1984 : Int) ≤ o := by omega
          go_enter Tryd.func53, Tryd.ntmps53
          go_wp2_with fail
          go_ret
          exact ⟨HR.out _ (by unfold rAllowB; symm; simp; omega), below_alloc _ _⟩
    · have hs' : ¬ (o : Int) < 2560 := by omega
      go_enter Tryd.func53, Tryd.ntmps53
      go_wp2_with fail
      go_ret
      exact ⟨HR.out _ (by unfold rAllowB; simp [hs]), below_alloc _ _⟩
  · have b8 : (((o : Int) % 8) == 0) = false := by simp; omega
    go_enter Tryd.func53, Tryd.ntmps53
    go_wp2_with fail
    go_ret
    exact ⟨HR.out _ (by unfold rAllowB; simp [h8]), below_alloc _ _⟩
set_option maxRecDepth 100000 in
set_option maxHeartbeats 4000000 in
theorem r15Check_any (sv : Value) (l : List (Nat × Int)) (hs : RdSl w 2 sv l.length (flat l)) (hl : l.length ≤ 10000) (hb : ∀ e ∈ l, e.1 < 18446744073709551616) :
    Calls Tryd.prog 15 #[.agg #[.int .u64 320, .int .u64 1984, .int .u64 2560], sv] w fun r w' => r = .returned (.int .i64 (chkR l)) ∧ Below w.heap.size w w' := by
  have HS := Lib.hid hs; have HB := Lib.hid hb; clear hb
  obtain ⟨_, sa, sc, rfl, hsc, _⟩ := hs
  generalize hm : l.length = m at *
  have HM := Lib.hid hm; clear hm
  have B0 := Lib.hid (below_alloc w (.cells #[.int .u64 320, .int .u64 1984, .int .u64 2560] 42))
  have Z0 : Hid ((w.alloc (.cells #[.int .u64 320, .int .u64 1984, .int .u64 2560] 42)).cell? ⟨w.heap.size, 0, none⟩ = some (.int .u64 320) ∧ (w.alloc (.cells #[.int .u64 320, .int .u64 1984, .int .u64 2560] 42)).cell? ⟨w.heap.size, 1, none⟩ = some (.int .u64 1984) ∧ (w.alloc (.cells #[.int .u64 320, .int .u64 1984, .int .u64 2560] 42)).cell? ⟨w.heap.size, 2, none⟩ = some (.int .u64 2560)) := ⟨(Blk.new w _ _).cell rfl, (Blk.new w _ _).cell rfl, (Blk.new w _ _).cell rfl⟩
  go_enter Tryd.func15, Tryd.ntmps15
  go_wp2_with fail
  go_loopw [9] (fun y wr => ∃ k : Nat, k ≤ m ∧ y = .int .i64 k ∧ (∀ e ∈ l.take k, rAllowB 2560 320 1664 e.1 = true) ∧ Below (w.heap.size + 1) (w.alloc (.cells #[.int .u64 320, .int .u64 1984, .int .u64 2560] 42)) wr) (fun y _ => m - (intOf y).toNat)
  case atStart => exact ⟨0, by omega, rfl, by simp, Below.refl _ _⟩
  case round =>
    obtain ⟨k, hk, rfl, hall, hbr⟩ := hrel
    have B := Lib.hid hbr; have HA := Lib.hid hall; clear hbr hall
    have BW : Hid (Below w.heap.size w wr) := B0.out.trans (B.out.mono (by omega))
    by_cases hlt : k < m
    · have hk' : (k : Int) < m := by omega
      obtain ⟨e, he⟩ : ∃ e, l[k]? = some e := ⟨_, List.getElem?_eq_getElem (by rw [HM.out]; exact hlt)⟩
      obtain ⟨_, a', c', e', _, hE⟩ := HS.out.below BW.out
      cases e'
      have hg := flat_get' l k e he
      obtain ⟨eb, eo, rfl, hE2⟩ := rd_at hE hg.1
      have c1 := hE2 _ _ hg.1; have c2 := hE2 _ _ hg.2
      rw [← Nat.add_assoc] at c2
      have HE := Lib.hid (fun h => all_snoc (p := fun e => rAllowB 2560 320 1664 e.1 = true) he HA.out h)
      have HM2 := Lib.hid (List.mem_of_getElem? he)
      clear hE hE2 he hg
      obtain ⟨e1, e2⟩ := e
      simp only at c1 c2 HE
      have hbs : (w.alloc (.cells #[.int .u64 320, .int .u64 1984, .int .u64 2560] 42)).heap.size = w.heap.size + 1 := by simp
      have hsz := B.out.size
      rw [hbs] at hsz
      have B2 : Hid (Below (w.heap.size + 1) (w.alloc (.cells #[.int .u64 320, .int .u64 1984, .int .u64 2560] 42)) (wr.alloc (.cells #[.int .u64 (e1 : Int), .int .u64 e2] 68))) := B.out.alloc hsz _
      have z0 : (wr.alloc (.cells #[.int .u64 (e1 : Int), .int .u64 e2] 68)).cell? ⟨w.heap.size, 0, none⟩ = some (.int .u64 320) := (World.cell?_of_block (B2.out.block w.heap.size (by omega))).trans Z0.out.1
      have z1 : (wr.alloc (.cells #[.int .u64 (e1 : Int), .int .u64 e2] 68)).cell? ⟨w.heap.size, 1, none⟩ = some (.int .u64 1984) := (World.cell?_of_block (B2.out.block w.heap.size (by omega))).trans Z0.out.2.1
      have z2 : (wr.alloc (.cells #[.int .u64 (e1 : Int), .int .u64 e2] 68)).cell? ⟨w.heap.size, 2, none⟩ = some (.int .u64 2560) := (World.cell?_of_block (B2.out.block w.heap.size (by omega))).trans Z0.out.2.2
      clear hbs
      have HW := Lib.hid (r15Word_any (w := wr.alloc (.cells #[.int .u64 (e1 : Int), .int .u64 e2] 68)) e1)
      cases hal : rAllowB 2560 320 1664 e1
      · rw [hal] at HW
        have HC : Hid (chkR l = 1) := chkR_bad HM2.out hal
        clear hal
        go_wp2_with fail
        (with_reducible refine HW.out.mono ?_)
        rintro e w4 ⟨rfl, b4⟩
        have B4 := Lib.hid b4; clear b4
        go_wp2_with fail
        go_ret
        exact ⟨by rw [HC.out]; rfl, BW.out.trans (((below_alloc wr _).trans (B4.out.mono (by simp))).mono BW.out.size)⟩
      · rw [hal] at HW
        have HE2 := Lib.hid (HE.out hal)
        clear hal
        go_wp2_with fail
        (with_reducible refine HW.out.mono ?_)
        rintro e w4 ⟨rfl, b4⟩
        have B4 : Hid (Below (w.heap.size + 1) (w.alloc (.cells #[.int .u64 320, .int .u64 1984, .int .u64 2560] 42)) w4) := B2.out.trans (b4.mono (by simp; omega))
        clear b4
        go_wp2_with fail
        go_roundw
        case rel => exact ⟨k + 1, by omega, by go_num, HE2.out, B4.out⟩
        case measure => simp [intOf]; omega
    · obtain rfl : k = m := by omega
      have hQ : l.take k = l := List.take_of_length_le (by rw [HM.out]; omega)
      rw [hQ] at HA
      have HC := Lib.hid (chkR_good HA.out)
      clear hQ
      have HWR := Lib.hid (r15Writes_any (w := wr) (.slice sa k sc) l (by rw [HM.out]; exact HS.out.below BW.out) (by rw [HM.out]; omega))
      generalize hwl : (lastL l).length = wl at *
      have HWL := Lib.hid hwl; clear hwl
      go_wp2_with fail
      (with_reducible refine HWR.out.mono ?_)
      rintro e w4 ⟨ov, rfl, a4⟩
      obtain ⟨za, zc, hz⟩ := a4.slice
      subst hz
      have B4 : Hid (Below w.heap.size w w4) := BW.out.trans (a4.bel.mono BW.out.size)
      clear a4
      by_cases h96 : 96 < wl
      · have h96' : (96 : Int) < wl := by omega
        rw [if_pos h96] at HC
        go_wp2_with fail
        go_ret
        exact ⟨by rw [HC.out]; rfl, B4.out⟩
      · have h96' : ¬ (96 : Int) < wl := by omega
        rw [if_neg h96] at HC
        go_wp2_with fail
        go_ret
        exact ⟨by rw [HC.out]; rfl, B4.out⟩
set_option maxRecDepth 100000 in
set_option maxHeartbeats 4000000 in
theorem r15entries_any (sv : Value) (l : List (Nat × Int)) (hs : RdSl w 2 sv l.length (flat l)) (hl : l.length ≤ 10000) (hb : ∀ e ∈ l, 0 ≤ e.2) :
    Calls Tryd.prog 54 #[sv] w fun r w' => ∃ ov, r = .returned ov ∧ Acc w w.heap.size w' 40 1 ov (2 * l.length) (natsU (entW l)) := by
  have HS := Lib.hid hs; have HB := Lib.hid hb; clear hb
  obtain ⟨_, sa, sc, rfl, hsc, _⟩ := hs
  obtain ⟨i0, hi0, hz0, hz1, hz2⟩ := info_parts infoU64
  have I := Lib.hid (And.intro hi0 (And.intro hz0 (And.intro hz1 hz2))); clear hi0 hz0 hz1 hz2
  generalize hm : l.length = m at *
  have HM := Lib.hid hm; clear hm
  go_enter Tryd.func54, Tryd.ntmps54
  go_wp2_with fail
  go_loopw [3, 8] (fun ov y wr => ∃ k : Nat, k ≤ m ∧ y = .int .i64 k ∧ Acc w w.heap.size wr 40 1 ov (2 * k) (natsU (entW (l.take k)))) (fun _ y _ => m - (intOf y).toNat)
  case atStart => exact ⟨0, by omega, rfl, Acc.nil w _ _ _ _ (Below.refl _ _) (Nat.le_refl _)⟩
  case round =>
    obtain ⟨k, hk, rfl, ha⟩ := hrel
    obtain ⟨oa, oc, hov⟩ := ha.slice
    subst hov
    have A := Lib.hid ha; clear ha
    by_cases hlt : k < m
    · have hk' : (k : Int) < m := by omega
      obtain ⟨e, he⟩ : ∃ e, l[k]? = some e := ⟨_, List.getElem?_eq_getElem (by rw [HM.out]; exact hlt)⟩
      obtain ⟨_, a', c', e', _, hE⟩ := HS.out.below A.out.bel
      cases e'
      have hg := flat_get' l k e he
      obtain ⟨eb, eo, rfl, hE2⟩ := rd_at hE hg.1
      have c1 := hE2 _ _ hg.1; have c2 := hE2 _ _ hg.2
      rw [← Nat.add_assoc] at c2
      have HT : Hid (natsU (entW (l.take (k + 1))) = natsU (entW (l.take k)) ++ [.int .u64 (e.1 : Int), .int .u64 e.2]) := by
        show _ = _
        rw [take_snoc_get l k e he, entW_snoc]
        have := HB.out e (List.mem_of_getElem? he)
        simp [natsU, Int.toNat_of_nonneg this]
      clear hE hE2 he hg
      obtain ⟨e1, e2⟩ := e
      simp only at c1 c2 HT
      go_wp2_with (at_builtin; refine wpList_append_sl _ rfl _ _ 56 rfl 40 i0 _ 1 8 Tryd.underlying56 I.out.1 I.out.2.1 I.out.2.2.1 I.out.2.2.2 rfl (by decide) _ (2 * k) (natsU (entW (l.take k))) rfl (by exact (A.out.own.alloc _).alloc _) _ 2 [.int .u64 (e1 : Int), .int .u64 e2] rfl (by exact RdSl.newAt _ _ _ 1 2 _ (by simp) rfl) (by simp [Value.oneCell']) (by unfold maxLen; omega) (by omega) ?_)
      intro v1 w1 o1 g1 b1 n1
      have A1 := Lib.hid (A.out.next (below_twice wr _ _) o1 g1 b1 (by omega)); clear o1 g1 b1 n1
      go_wp2_with fail
      go_roundw
      case rel => exact ⟨k + 1, by omega, by go_num, A1.out.congr (by omega) HT.out.symm⟩
      case measure => simp [intOf]; omega
    · obtain rfl : k = m := by omega
      have hF : l.take k = l := List.take_of_length_le (by rw [HM.out]; omega)
      rw [hF] at A
      clear hF
      go_wp2_with fail
      go_ret
      exact ⟨_, rfl, A.out⟩
set_option maxRecDepth 100000 in
set_option maxHeartbeats 4000000 in
theorem r15Commit_any (sv : Value) (l : List (Nat × Int)) (hs : RdSl w 2 sv l.length (flat l)) (hl : l.length ≤ 1000) (hb : ∀ e ∈ l, e.1 < 18446744073709551616 ∧ 0 ≤ e.2 ∧ e.2 < 18446744073709551616) :
    Calls Tryd.prog 56 #[sv] w fun r w' => r = .returned (.int .u64 (cmtN l : Nat)) ∧ Below w.heap.size w w' := by
  have HE := Lib.hid (r15entries_any sv l hs (by omega) (fun e he => (hb e he).2.1))
  have hW := entW_bd hb
  have HSM := Lib.hid (fun (wx : World) (v : Value) (h : RdSl wx 1 v (2 * l.length) (natsU (entW l))) => r13Sum_any v (entW l) (by rw [entW_len]; exact h) hW (by rw [entW_len]; omega))
  obtain ⟨_, sa, sc, rfl, hsc, _⟩ := hs
  have hcb := crcN_lt (entW l)
  have HC : Hid (cmtN l = l.length + crcN (entW l) * 4294967296) := rfl
  generalize cmtN l = cm at *
  generalize crcN (entW l) = c at *
  generalize hm : l.length = m at *
  clear hb hW hm
  go_enter Tryd.func56, Tryd.ntmps56
  go_wp2_with fail
  (with_reducible refine HE.out.mono ?_)
  rintro e w1 ⟨ov, rfl, a1⟩
  obtain ⟨oa, oc, hov⟩ := a1.slice
  subst hov
  have HS1 := Lib.hid (HSM.out _ _ a1.rd)
  have B1 := Lib.hid a1.bel; clear a1
  go_wp2_with fail
  (with_reducible refine HS1.out.mono ?_)
  rintro e w' ⟨rfl, rfl⟩
  go_wp2_with fail
  go_ret
  exact ⟨by rw [HC.out, Int.natCast_add, Int.natCast_mul]; rfl, B1.out⟩
end
end Go.Proofs.YtfigngoojphffaaDoor

/- The reference of layer 15: Program. -/
namespace Go.Proofs.YtfigngoojphffaaDoor
open Go.RowKit Go.Maps
attribute [local go_sem ↓] Go.wp_at_zero Go.wp_at_succ

/-- Words as writes, from base on. -/
def planI (b : Nat) : List Nat → List (Nat × Int)
  | [] => []
  | x :: l => (b, (x : Int)) :: planI (b + 8) l
theorem planI_snoc (l : List Nat) (x : Nat) : ∀ b, planI b (l ++ [x]) = planI b l ++ [(b + 8 * l.length, (x : Int))] := by
  induction l with
  | nil => intro b; rfl
  | cons y l ih => intro b; simp only [List.cons_append, planI, ih, List.length_cons]; rw [show b + 8 + 8 * l.length = b + 8 * (l.length + 1) by omega]
theorem planI_len (l : List Nat) : ∀ b, (planI b l).length = l.length := by
  induction l with
  | nil => intro b; rfl
  | cons y l ih => intro b; simp [planI, ih]
theorem planI_ent (W : List (Nat × Int)) (h : ∀ e ∈ W, 0 ≤ e.2) : ∀ b, planI b (entW W) = planWs b W := by
  induction W with
  | nil => intro b; rfl
  | cons e l ih =>
    intro b
    have he := h e (by simp)
    show planI b (e.1 :: e.2.toNat :: entW l) = _
    simp only [planI, planWs]
    rw [ih (fun e he => h e (List.mem_cons_of_mem _ he)), Int.toNat_of_nonneg he]
/-- The box of a log lies where it was laid. -/
structure Lg (w : World) (b : Nat) : Prop where
  c0 : w.cell? ⟨b, 0, none⟩ = some (.int .u64 320)
  c1 : w.cell? ⟨b, 1, none⟩ = some (.int .u64 1984)
  c2 : w.cell? ⟨b, 2, none⟩ = some (.int .u64 2560)
theorem Lg.lt {w : World} {b : Nat} (h : Lg w b) : b < w.heap.size := World.block_lt_of_cell? w _ h.c0
theorem Lg.acc {w0 w : World} {b : Nat} (h : Lg w0 b) (hb : Below w0.heap.size w0 w) : Lg w b := ⟨cell_bel hb h.c0, cell_bel hb h.c1, cell_bel hb h.c2⟩
theorem Lg.new (w : World) : Lg (w.alloc (.cells #[.int .u64 320, .int .u64 1984, .int .u64 2560] 42)) w.heap.size := ⟨(Blk.new w _ _).cell rfl, (Blk.new w _ _).cell rfl, (Blk.new w _ _).cell rfl⟩
section
variable {w : World}
set_option maxRecDepth 100000 in
set_option maxHeartbeats 8000000 in
theorem r15Program_any (sv : Value) (l : List (Nat × Int)) (hs : RdSl w 2 sv l.length (flat l)) (hl : l.length ≤ 1000) (hb : ∀ e ∈ l, e.1 < 18446744073709551616 ∧ 0 ≤ e.2 ∧ e.2 < 18446744073709551616) :
    Calls Tryd.prog 18 #[.agg #[.int .u64 320, .int .u64 1984, .int .u64 2560], sv] w fun r w' => ∃ ov, r = .returned ov ∧ Acc w w.heap.size w' 49 3 ov (rPlanP 320 (lastL l)).length (instrC (rPlanP 320 (lastL l))) := by
  obtain ⟨k0, hi0, hz0, hz1, hz2⟩ := info_parts infoRI
  have I2 := Lib.hid (And.intro hi0 (And.intro hz0 (And.intro hz1 hz2))); clear hi0 hz0 hz1 hz2
  obtain ⟨k1, hi0, hz0, hz1, hz2⟩ := info_parts infoRW
  have I3 := Lib.hid (And.intro hi0 (And.intro hz0 (And.intro hz1 hz2))); clear hi0 hz0 hz1 hz2
  have L0 := Lib.hid (Lg.new w)
  have BX := Lib.hid (below_alloc w (.cells #[.int .u64 320, .int .u64 1984, .int .u64 2560] 42))
  have HWR := Lib.hid (r15Writes_any (w := (w.alloc (.cells #[.int .u64 320, .int .u64 1984, .int .u64 2560] 42))) sv l (hs.alloc _) (by omega))
  obtain ⟨_, sa, sc, rfl, hsc, _⟩ := hs
  have hWb : ∀ e ∈ lastL l, e.1 < 18446744073709551616 ∧ 0 ≤ e.2 ∧ e.2 < 18446744073709551616 := fun e he => hb e (lastL_mem _ e he)
  have hWl := lastL_len l
  generalize lastL l = W at *
  have HEN := Lib.hid (fun (wx : World) (u : Value) (h : RdSl wx 2 u W.length (flat W)) => r15entries_any u W h (by omega) (fun e he => (hWb e he).2.1))
  have HCM := Lib.hid (fun (wx : World) (u : Value) (h : RdSl wx 2 u W.length (flat W)) => r15Commit_any u W h (by omega) hWb)
  have HSW := Lib.hid (fun (wx : World) (u : Value) (h : RdSl wx 2 u W.length (flat W)) => r10Stores_any u W h (by omega) (fun e he => (hWb e he).1))
  have HPI := Lib.hid (planI_ent W (fun e he => (hWb e he).2.1) 384)
  have hpw := planWs_bd W 384
  have HSP := Lib.hid (fun (wx : World) (u : Value) (h : RdSl wx 2 u (planWs 384 W).length (flat (planWs 384 W))) => r10Stores_any u (planWs 384 W) h (by rw [planWs_len]; omega) (fun e he => by have := hpw e he; omega))
  have HSC := Lib.hid (fun (wx : World) (x : Int) => r10Stores_any (w := wx.alloc (.cells #[.int .u64 320, .int .u64 x] 68)) (.slice (some ⟨wx.heap.size, 0, none⟩) 1 1) [(320, x)] (RdSl.new wx #[.int .u64 320, .int .u64 x] 68 2 1 rfl) (by simp) (fun e he => by simp at he; subst he; simp))
  have HLE := Lib.hid (entW_len W)
  have HS1 := Lib.hid (storesL_len W); have HS2 := Lib.hid (storesL_len (planWs 384 W)); have HS3 := Lib.hid (planWs_len W 384); have HS4 := Lib.hid (fun x => storesL_len [(320, x)])
  generalize hcm : cmtN W = cm at *
  have HCN := Lib.hid hcm
  generalize hn : l.length = n at *
  generalize hm : W.length = m at *
  have HM := Lib.hid hm
  clear hb hWb hpw hcm hn hm
  go_enter Tryd.func18, Tryd.ntmps18
  go_wp2_with fail
  (with_reducible refine HWR.out.mono ?_)
  rintro e w1 ⟨ov, rfl, a1⟩
  obtain ⟨wa, wc, hov⟩ := a1.slice
  subst hov
  have B1 := Lib.hid (BX.out.trans (a1.bel.mono BX.out.size))
  have L1 := Lib.hid (L0.out.acc a1.bel)
  have R1 := Lib.hid a1.rd
  clear a1 HWR L0 BX
  by_cases h0 : m = 0
  · have hb0 : ((m : Int) == 0) = true := by simp; omega
    have HW : Hid (W = []) := List.length_eq_zero_iff.1 (by rw [HM.out]; exact h0)
    clear h0
    go_wp2_with fail
    go_ret
    exact ⟨_, rfl, by rw [HW.out]; exact Acc.nil w _ _ _ _ B1.out B1.out.size⟩
  have hb0 : ((m : Int) == 0) = false := by simp; omega
  have HNE : Hid (W ≠ []) := fun h => h0 (by rw [← HM.out, h]; rfl)
  clear h0
  go_wp2_with fail
  (with_reducible refine (HEN.out _ _ R1.out).mono ?_)
  rintro e w2 ⟨ov, rfl, a2⟩
  obtain ⟨ea, ec, hov⟩ := a2.slice
  subst hov
  have B2 := Lib.hid (B1.out.trans (a2.bel.mono B1.out.size))
  have L2 := Lib.hid (L1.out.acc a2.bel)
  have R2 := Lib.hid (R1.out.below a2.bel)
  have E2 := Lib.hid a2.rd
  clear a2 B1 L1 R1
  go_wp2_with fail
  go_loopw [5, 17] (fun ov y wr => ∃ k : Nat, k ≤ 2 * m ∧ y = .int .i64 k ∧ Acc w2 w2.heap.size wr 68 2 ov k (flat (planI 384 ((entW W).take k)))) (fun _ y _ => 2 * m - (intOf y).toNat)
  case atStart => exact ⟨0, by omega, rfl, Acc.nil w2 _ _ _ _ (Below.refl _ _) (Nat.le_refl _)⟩
  case round =>
    obtain ⟨k, hk, rfl, ha⟩ := hrel
    obtain ⟨oa, oc, hov⟩ := ha.slice
    subst hov
    have A := Lib.hid ha; clear ha
    have L3 := Lib.hid (L2.out.acc A.out.bel)
    have c0 := L3.out.c0
    by_cases hlt : k < 2 * m
    · have hk' : (k : Int) < ((2 * m : Nat) : Int) := by omega
      obtain ⟨x, hx⟩ : ∃ x, (entW W)[k]? = some x := ⟨_, List.getElem?_eq_getElem (by rw [HLE.out]; exact hlt)⟩
      obtain ⟨_, a', c', e', _, hE⟩ := E2.out.below A.out.bel
      cases e'
      have hg : (natsU (entW W))[k]? = some (.int .u64 (x : Nat)) := by simp [natsU, hx]
      obtain ⟨eb, eo, rfl, hE2⟩ := rd_at hE hg
      have d1 := hE2 _ _ hg
      obtain ⟨t, ht⟩ : ∃ t, 384 + 8 * k = t := ⟨_, rfl⟩
      have htI : (384 : Int) + 8 * (k : Int) = (t : Int) := by omega
      have htb : t < 18446744073709551616 := by omega
      have HT : Hid (planI 384 ((entW W).take (k + 1)) = planI 384 ((entW W).take k) ++ [(t, (x : Int))]) := by
        show _ = _
        have hl : ((entW W).take k).length = k := by rw [List.length_take, HLE.out]; omega
        rw [take_snoc_get (entW W) k x hx, planI_snoc, hl, ht]
      clear hE hE2 hg hx ht
      go_wp2_with (at_builtin; refine wpList_append_sl _ rfl _ _ 31 rfl 68 k1 _ 2 16 Tryd.underlying31 I3.out.1 I3.out.2.1 I3.out.2.2.1 I3.out.2.2.2 rfl (by decide) _ k (flat (planI 384 ((entW W).take k))) rfl (by exact A.out.own.alloc _) _ 1 (flat [(t, (x : Int))]) rfl (by exact RdSl.newAt _ _ _ 2 1 _ (by simp) rfl) (flat_one _) (by unfold maxLen; omega) (by omega) ?_)
      intro v1 w4 o1 g1 b1 n1
      have A4 := Lib.hid (A.out.next (below_alloc _ _) o1 g1 b1 (by simp)); clear o1 g1 b1 n1
      go_wp2_with fail
      go_roundw
      case rel => exact ⟨k + 1, by omega, by go_num, A4.out.congr rfl (by rw [HT.out, flat_append])⟩
      case measure => simp [intOf]; omega
    · obtain rfl : k = 2 * m := by omega
      have hF : (entW W).take (2 * m) = entW W := List.take_of_length_le (by rw [HLE.out]; omega)
      rw [hF, HPI.out] at A
      clear hF
      have A' := Lib.hid (A.out.congr HS3.out.symm rfl)
      have B3 := Lib.hid (B2.out.trans (A.out.bel.mono B2.out.size))
      have R3 := Lib.hid (R2.out.below A.out.bel)
      have HST := Lib.hid (HSP.out wr _ A'.out.rd)
      have hp1 := HS2.out
      have hs1 := HS4.out (cm : Int)
      have hs2 := HS1.out
      have hs3 := HS4.out 0
      rw [HS3.out] at hp1
      have hpa : (storesL (planWs 384 W)).length ≤ 5000 := by omega
      have hpb : (storesL [(320, (cm : Int))]).length ≤ 5000 := by simp only [List.length_singleton] at hs1; omega
      have hpc : (storesL W).length ≤ 5000 := by omega
      have hpd : (storesL [(320, (0 : Int))]).length ≤ 5000 := by simp only [List.length_singleton] at hs3; omega
      clear hp1 hs1 hs2 hs3
      have HPL : Hid (rPlanP 320 W = (storesL (planWs 384 W) ++ storesL [(320, (cm : Int))]) ++ (storesL W ++ storesL [(320, 0)])) := by
        show _ = _
        unfold rPlanP rFinP
        rw [if_neg HNE.out, HCN.out]
      have HSB := Lib.hid (HSC.out · (cm : Int)); have HS0 := Lib.hid (HSC.out · 0)
      clear A' A HSC HS4 HS1 HS2 HS3 HSP c0 L2 R2 B2 E2
      generalize storesL (planWs 384 W) = P1 at *
      generalize storesL [(320, (cm : Int))] = P2 at *
      generalize storesL W = P3 at *
      generalize storesL [(320, (0 : Int))] = P4 at *
      go_wp2_with fail
      (with_reducible refine HST.out.mono ?_)
      rintro e w5 ⟨ov, rfl, a5⟩
      obtain ⟨pa, pc, hov⟩ := a5.slice
      subst hov
      have A5 := Lib.hid a5
      have L5 := Lib.hid (L3.out.acc a5.bel)
      have R5 := Lib.hid (R3.out.below a5.bel)
      clear a5 HST
      have c0 : w5.drew.cell? ⟨w.heap.size, 0, none⟩ = some (.int .u64 320) := L5.out.c0
      generalize hp : P1.length = p1 at *
      generalize hq : P2.length = p2 at *
      generalize hr : P3.length = p3 at *
      generalize ht : P4.length = p4 at *
      have HLN : Hid (((P1 ++ P2) ++ (P3 ++ P4)).length = p1 + p2 + p3 + p4) := by show _ = _; simp only [List.length_append]; omega
      clear hp hq hr ht
      go_upto_region 11 with fail
      go_cut [8] from 37 to 45 (fun ov wx => Acc wr wr.heap.size wx 49 3 ov (p1 + p2) (instrC (P1 ++ P2)))
      case first =>
        go_region_law (first | (go_simp; go_at_call 56; (with_reducible refine (HCM.out _ _ R5.out.drew).mono ?_); rintro e w6 ⟨rfl, b6⟩; have B6 := Lib.hid (bdrew b6); have A6 := Lib.hid (A5.out.keep B6.out); have z6 := (L5.out.acc B6.out).c0; clear b6) | (go_simp; go_at_call 55; (with_reducible refine (HSB.out w6).mono ?_); rintro e w7 ⟨sv7, rfl, a7⟩; obtain ⟨sa7, sc7, hsv7⟩ := a7.slice; subst hsv7; have B7 := Lib.hid ((below_alloc w6 _).trans (a7.bel.mono (by simp))); have A7 := Lib.hid (A6.out.keep B7.out); have S7 := Lib.hid a7.rd; clear a7) | (refine step_append_sl rfl (.tmp 37) (.tmp 44) 44 rfl 49 k0 _ 3 24 Tryd.underlying44 I2.out.1 I2.out.2.1 I2.out.2.2.1 I2.out.2.2.2 rfl (by decide) (.slice pa p1 pc) p1 (instrC P1) rfl (by exact A7.out.own) _ p2 (instrC P2) rfl (by exact S7.out) (instrC_one _) (by unfold maxLen; omega) (by omega) ?_; intro v8 w8 o8 g8 b8; have A8 := Lib.hid (A7.out.next (Below.refl _ _) o8 g8 b8 (Nat.le_refl _)); clear o8 g8 b8))
        all_goals go_wp2_with fail
        all_goals go_meet
        all_goals exact A8.out.congr rfl (by rw [instrC_append])
      case rest =>
        rename World => w8
        obtain ⟨ga, gc, hgv⟩ := hcut.slice
        subst hgv
        have A8 := Lib.hid hcut; clear hcut
        have R8 := Lib.hid (R3.out.below A8.out.bel)
        clear c0 A5 L5 R5
        go_wp2_with fail
        (with_reducible refine (HSW.out _ _ R8.out).mono ?_)
        rintro e w9 ⟨ov9, rfl, a9⟩
        obtain ⟨ha, hc, hov⟩ := a9.slice
        subst hov
        have A9 := Lib.hid (A8.out.keep a9.bel); have S9 := Lib.hid a9.rd
        clear a9 A8 R8
        go_wp2_with (at_builtin; refine wpList_append_sl _ rfl _ _ 44 rfl 49 k0 _ 3 24 Tryd.underlying44 I2.out.1 I2.out.2.1 I2.out.2.2.1 I2.out.2.2.2 rfl (by decide) _ (p1 + p2) (instrC (P1 ++ P2)) rfl (by exact A9.out.own) _ p3 (instrC P3) rfl (by exact S9.out) (instrC_one _) (by unfold maxLen; omega) (by omega) ?_)
        intro v10 w10 o1 g1 b1 n1
        have A10 := Lib.hid (A9.out.next (Below.refl _ _) o1 g1 b1 (Nat.le_refl _)); clear o1 g1 b1 n1 A9 S9
        obtain ⟨ia, ic, hiv⟩ := A10.out.slice
        subst hiv
        have L10 := Lib.hid (L3.out.acc A10.out.bel)
        have c0 := L10.out.c0
        go_wp2_with fail
        (with_reducible refine (HS0.out _).mono ?_)
        rintro e w11 ⟨ov11, rfl, a11⟩
        obtain ⟨ja, jc, hov⟩ := a11.slice
        subst hov
        have A11 := Lib.hid (A10.out.keep ((below_alloc w10 _).trans (a11.bel.mono (by simp)))); have S11 := Lib.hid a11.rd
        clear a11 A10 c0 L10
        go_wp2_with (at_builtin; refine wpList_append_sl _ rfl _ _ 44 rfl 49 k0 _ 3 24 Tryd.underlying44 I2.out.1 I2.out.2.1 I2.out.2.2.1 I2.out.2.2.2 rfl (by decide) _ (p1 + p2 + p3) (instrC (P1 ++ P2) ++ instrC P3) rfl (by exact A11.out.own) _ p4 (instrC P4) rfl (by exact S11.out) (instrC_one _) (by unfold maxLen; omega) (by omega) ?_)
        intro v12 w12 o1 g1 b1 n1
        have o1' : OwnSl w12 49 3 v12 (p1 + p2 + p3 + p4) ((instrC (P1 ++ P2) ++ instrC P3) ++ instrC P4) := by rw [List.append_assoc]; exact o1
        have A12 := Lib.hid (A11.out.next (Below.refl _ _) o1' g1 b1 (Nat.le_refl _)); clear o1'; clear o1 g1 b1 n1 A11 S11
        go_wp2_with fail
        go_ret
        exact ⟨_, rfl, by rw [HPL.out, HLN.out]; exact (A12.out.congr rfl (by rw [← instrC_append, ← instrC_append, List.append_assoc])).deeper B3.out⟩
end
end Go.Proofs.YtfigngoojphffaaDoor
