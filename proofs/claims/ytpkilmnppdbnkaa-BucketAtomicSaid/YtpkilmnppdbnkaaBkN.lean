/- The reference of layer 31: fields of a word bit by bit, Used, Find, Free, at, header. -/
import Derived.Test.YtpkilmnppdbnkaaBkJ
namespace Go.Proofs.Ytpkilmnppdbnkaa
open Go.RowKit

theorem half_bit (t i : Nat) : t / 2 ^ i = 2 * (t / 2 ^ (i + 1)) + (t.testBit i).toNat := by
  rw [Nat.toNat_testBit, Nat.pow_succ, ← Nat.div_div_eq_div_mul]
  omega
section
variable {w : World}
theorem r01Bit_any (x i : Nat) (hx : x < 18446744073709551616) (hi : i ≤ 63) : Calls Try.prog 88 #[.int .u64 x, .int .i64 i] w fun r w' => r = .returned (.int .u64 ((x.testBit i).toNat : Nat)) ∧ w = w' := by
  go_enter Try.func88, Try.ntmps88
  go_wp2_with fail
  go_ret
  refine ⟨?_, rfl⟩
  have hb : x / 2 ^ i < 18446744073709551616 := Nat.lt_of_le_of_lt (Nat.div_le_self _ _) hx
  have e := bits_and_u64_nat (x / 2 ^ i) 1 hb (by omega)
  rw [Nat.and_one_is_mod, ← Nat.toNat_testBit] at e
  rw [show (x : Int) / 2 ^ i = ((x / 2 ^ i : Nat) : Int) by simp]
  rw [show ((1 : Nat) : Int) = 1 from rfl] at e
  rw [e]
  rfl
theorem r01Valid_any (sh wd : Nat) (h1 : 1 ≤ wd) (h2 : sh + wd ≤ 64) : Calls Try.prog 87 #[.int .i64 sh, .int .i64 wd] w fun r w' => r = .returned (.bool true) ∧ w = w' := by
  have e1 : (0 : Int) ≤ sh := by omega
  have e2 : (1 : Int) ≤ wd := by omega
  have e3 : (sh : Int) ≤ 63 := by omega
  have e4 : (wd : Int) ≤ 64 - sh := by omega
  go_enter Try.func87, Try.ntmps87
  go_wp2_with fail
  go_ret
  exact ⟨rfl, rfl⟩
set_option maxRecDepth 100000 in
set_option maxHeartbeats 4000000 in
theorem r01SetField_any (x sh wd y : Nat) (hx : x < 18446744073709551616) (hy : y < 18446744073709551616) (h1 : 1 ≤ wd) (h2 : sh + wd ≤ 64) :
    Calls Try.prog 60 #[.int .u64 x, .int .i64 sh, .int .i64 wd, .int .u64 y] w fun r w' => r = .returned (.int .u64 (setF x sh wd y : Nat)) ∧ w = w' := by
  have HV := Lib.hid (fun wx => r01Valid_any (w := wx) sh wd h1 h2)
  have HX := Lib.hid (fun wx i (hi : i ≤ 63) => r01Bit_any (w := wx) x i hx hi)
  have HY := Lib.hid (fun wx i (hi : i ≤ 63) => r01Bit_any (w := wx) y i hy hi)
  have HB := Lib.hid (setF_testBit x sh wd y)
  have htl : setF x sh wd y < 18446744073709551616 := setF_lt (n := 64) hx h2
  have HL : Hid (∀ i, setF x sh wd y / 2 ^ i < 18446744073709551616) := fun i => Nat.lt_of_le_of_lt (Nat.div_le_self _ _) htl
  have HS := Lib.hid (half_bit (setF x sh wd y))
  have H0 : Hid (setF x sh wd y / 2 ^ 64 = 0) := Nat.div_eq_of_lt htl
  have HZ : Hid (setF x sh wd y / 2 ^ 0 = setF x sh wd y) := (show setF x sh wd y / 2 ^ 0 = setF x sh wd y by simp)
  generalize setF x sh wd y = t at *
  clear htl
  go_enter Try.func60, Try.ntmps60
  go_wp2_with fail
  (with_reducible refine (HV.out _).mono ?_)
  rintro e w' ⟨rfl, rfl⟩
  go_wp2_with fail
  go_loop [9, 10] (fun o c => ∃ m : Nat, m ≤ 64 ∧ o = .int .u64 (t / 2 ^ m : Nat) ∧ c = .int .i64 ((m : Int) - 1)) (fun _ c => (intOf c + 1).toNat)
  case atStart => exact ⟨64, by omega, by rw [H0.out]; rfl, rfl⟩
  case round =>
    obtain ⟨m, hm, rfl, rfl⟩ := hrel
    cases m with
    | zero =>
      have hz : ((0 : Nat) : Int) - 1 = -1 := by omega
      rw [hz, HZ.out]
      go_wp2_with fail
      go_ret
      exact ⟨rfl, rfl⟩
    | succ i =>
      have hy1 : ((i + 1 : Nat) : Int) - 1 = (i : Int) := by omega
      rw [hy1]
      obtain ⟨r, hr⟩ : ∃ r, r = t / 2 ^ i := ⟨_, rfl⟩
      obtain ⟨q, hq⟩ : ∃ q, q = t / 2 ^ (i + 1) := ⟨_, rfl⟩
      obtain ⟨b, hbe⟩ : ∃ b, b = (t.testBit i).toNat := ⟨_, rfl⟩
      have hs : r = 2 * q + b := by rw [hr, hq, hbe]; exact HS.out i
      have hl : r < 18446744073709551616 := by rw [hr]; exact HL.out i
      have hb := HB.out i
      have HRR := Lib.hid hr
      rw [← hq]
      clear hr hq
      have HX1 := Lib.hid (fun wx => HX.out wx i (by omega))
      have h0 : (0 : Int) ≤ i := by omega
      clear HX HS HL hy1
      go_wp2_with fail
      (with_reducible refine (HX1.out _).mono ?_)
      rintro e w' ⟨rfl, rfl⟩
      obtain ⟨bx, hbx⟩ : ∃ b, b = (x.testBit i).toNat := ⟨_, rfl⟩
      rw [← hbx]
      by_cases hin : sh ≤ i ∧ i < sh + wd
      · rw [if_pos hin] at hb
        have HY1 := Lib.hid (fun wx => HY.out wx (i - sh) (by omega))
        rw [show ((i - sh : Nat) : Int) = (i : Int) - sh by omega, ← hb, ← hbe] at HY1
        have k1 : (sh : Int) ≤ i := by omega
        have k2 : (i : Int) - sh < wd := by omega
        have g1 : IntKind.u64.wrap (2 * (q : Int)) = 2 * (q : Int) := IntWalk.u64_in _ (by omega)
        have g2 : IntKind.u64.wrap (2 * (q : Int) + (b : Int)) = (r : Int) := (IntWalk.u64_in _ (by omega)).trans (by omega)
        clear hb hin hbe hbx
        go_wp2_with fail
        (with_reducible refine (HY1.out _).mono ?_)
        rintro e w' ⟨rfl, rfl⟩
        go_wp2_with fail
        go_round
        case rel => exact ⟨i, by omega, by rw [← HRR.out]; congr 1; omega, by go_num⟩
        case measure => first | (simp [intOf]; done) | (simp [intOf]; omega)
      · rw [if_neg hin] at hb
        obtain rfl : b = bx := by rw [hbe, hbx, hb]
        have g1 : IntKind.u64.wrap (2 * (q : Int)) = 2 * (q : Int) := IntWalk.u64_in _ (by omega)
        have g2 : IntKind.u64.wrap (2 * (q : Int) + (b : Int)) = (r : Int) := (IntWalk.u64_in _ (by omega)).trans (by omega)
        by_cases k : sh ≤ i
        · have k1 : (sh : Int) ≤ i := by omega
          have k2 : ¬ (i : Int) - sh < wd := by omega
          clear hb hin k hbe hbx
          go_wp2_with fail
          go_round
          case rel => exact ⟨i, by omega, by rw [← HRR.out]; congr 1; omega, by go_num⟩
          case measure => first | (simp [intOf]; done) | (simp [intOf]; omega)
        · have k1 : ¬ (sh : Int) ≤ i := by omega
          clear hb hin k hbe hbx
          go_wp2_with fail
          go_round
          case rel => exact ⟨i, by omega, by rw [← HRR.out]; congr 1; omega, by go_num⟩
          case measure => first | (simp [intOf]; done) | (simp [intOf]; omega)
set_option maxRecDepth 100000 in
theorem r01Mix_any (x : Nat) (hx : x < 18446744073709551616) : Calls Try.prog 61 #[.int .u64 x] w fun r w' => r = .returned (.int .u64 (mixN x : Nat)) ∧ w = w' := by
  go_enter Try.func61, Try.ntmps61
  go_wp2_with fail
  go_ret
  refine ⟨?_, rfl⟩
  have m1 : ∀ a : Nat, a < 18446744073709551616 → ∀ b : Nat, bits .xor .u64 (a : Int) ((a : Int) / ((2 ^ b : Nat) : Int)) = ((a ^^^ a / 2 ^ b : Nat) : Int) := fun a ha b => by
    rw [← Int.natCast_ediv, bits_xor_u64_nat _ _ ha (Nat.lt_of_le_of_lt (Nat.div_le_self _ _) ha)]
  have e1 := m1 x hx 30
  rw [show ((2 ^ 30 : Nat) : Int) = 1073741824 from rfl] at e1
  obtain ⟨y, hy⟩ : ∃ y, y = ((x ^^^ x / 2 ^ 30) * 13787848793156543929) % 18446744073709551616 := ⟨_, rfl⟩
  have e2 : IntKind.u64.wrap (((x ^^^ x / 2 ^ 30 : Nat) : Int) * 13787848793156543929) = (y : Int) := by
    rw [hy, ← wrap_u64_nat]; simp
  have hyb : y < 18446744073709551616 := by rw [hy]; exact Nat.mod_lt _ (by decide)
  have e3 := m1 y hyb 27
  rw [show ((2 ^ 27 : Nat) : Int) = 134217728 from rfl] at e3
  obtain ⟨z, hz⟩ : ∃ z, z = ((y ^^^ y / 2 ^ 27) * 10723151780598845931) % 18446744073709551616 := ⟨_, rfl⟩
  have e4 : IntKind.u64.wrap (((y ^^^ y / 2 ^ 27 : Nat) : Int) * 10723151780598845931) = (z : Int) := by
    rw [hz, ← wrap_u64_nat]; simp
  have hzb : z < 18446744073709551616 := by rw [hz]; exact Nat.mod_lt _ (by decide)
  have e5 := m1 z hzb 31
  rw [show ((2 ^ 31 : Nat) : Int) = 2147483648 from rfl] at e5
  have e6 : mixN x = z ^^^ z / 2 ^ 31 := by rw [hz, hy]; rfl
  rw [e1, e2, e3, e4, e5, e6]
  rfl
end
/-- A reference's bucket, its cells kept closed. -/
structure RefB (A : Array Value) (C : Nat → Int) (off : Nat) : Prop where
  size : A.size = 17
  a0 : A[0]? = some (.int .u64 off)
  wd : ∀ i, i < 16 → A[1 + i]? = some (.int .u64 (C (off / 8 + i)))
  one : A.all (·.oneCell') = true
  bd : ∀ i, 0 ≤ C i ∧ C i < 18446744073709551616
  hl : off + 128 ≤ 18446744073709551615
theorem RefB.hd {A : Array Value} {C : Nat → Int} {off : Nat} (h : RefB A C off) : C (off / 8) = ((bkH C off : Nat) : Int) := by have := h.bd (off / 8); unfold bkH; omega
theorem RefB.hb {A : Array Value} {C : Nat → Int} {off : Nat} (h : RefB A C off) : bkH C off < 18446744073709551616 := by have := h.bd (off / 8); unfold bkH; omega
theorem RefB.info {A : Array Value} {C : Nat → Int} {off : Nat} (h : RefB A C off) : (Try.prog.info? 32).map (·.size) = some A.size := by rw [h.size]; kernel_rfl
theorem fstK_hit {p : Nat → Bool} {s n : Nat} (hs : s < n) (h : p s = true) (h0 : ∀ t, t < s → p t = false) : fstK p n = s := by
  rcases fstK_spec p n with ⟨_, h2⟩ | ⟨u, h1, h2, h3, h4⟩
  · rw [h2 s hs] at h; cases h
  · rcases Nat.lt_trichotomy u s with l | l | l
    · rw [h0 u l] at h3; cases h3
    · rw [h1, l]
    · rw [h4 s l] at h; cases h
theorem fstK_miss {p : Nat → Bool} {n : Nat} (h : ∀ t, t < n → p t = false) : fstK p n = -1 := by
  rcases fstK_spec p n with ⟨h1, _⟩ | ⟨u, _, h2, h3, _⟩
  · exact h1
  · rw [h u h2] at h3; cases h3
section
variable {w : World} {A : Array Value} {C : Nat → Int} {off : Nat}
theorem r31Used_any (h : RefB A C off) (s : Nat) (hs : s < 7) : Calls Try.prog 54 #[.agg A, .int .i64 s] w fun r w' => r = .returned (.bool (usedB (bkH C off) s)) ∧ Below w.heap.size w w' := by
  have X0 := Lib.hid (Bx1.start w A 32)
  have c1 := X0.out.blk.cell (i := 1) (v := .int .u64 (bkH C off : Nat)) (by have := h.wd 0 (by omega); rw [← h.hd]; exact this)
  have hb := h.hb
  generalize bkH C off = hdr at *
  clear h
  go_enter Try.func54, Try.ntmps54
  go_wp2_with fail
  go_ret
  refine ⟨congrArg (fun b => Ending.returned (.bool b)) (show (((hdr : Int) / 2 ^ s).tmod 2 == 1) = usedB hdr s from ?_), X0.out.bel⟩
  unfold usedB fld
  rw [show (hdr : Int) / 2 ^ s = ((hdr / 2 ^ s : Nat) : Int) by simp]
  generalize hdr / 2 ^ s = m
  rw [Int.tmod_eq_emod_of_nonneg (by omega), Bool.eq_iff_iff]
  simp
  omega
set_option maxRecDepth 100000 in
set_option maxHeartbeats 4000000 in
theorem r31Find_any (h : RefB A C off) (k : Nat) : Calls Try.prog 51 #[.agg A, .int .u64 k] w fun r w' => r = .returned (.int .i64 (fstK (rfB C off k) 7)) ∧ Below w.heap.size w w' := by
  have HUS := Lib.hid (fun wx s (hs : s < 7) => r31Used_any (w := wx) h s hs)
  have X0 := Lib.hid (Bx1.start w A 32)
  have HIN := Lib.hid h.info
  have HCL : Hid (∀ wx s, s < 7 → Bx1 w A 32 wx → wx.cell? ⟨w.heap.size, 1 + (2 + 2 * s), none⟩ = some (.int .u64 (bkK C off s))) := fun wx s hs hx => by
    have := hx.blk.cell (i := 1 + (2 + 2 * s)) (h.wd (2 + 2 * s) (by omega))
    rw [show off / 8 + (2 + 2 * s) = off / 8 + 2 + 2 * s by omega] at this
    exact this
  have HP : Hid (∀ s, rfB C off k s = (usedB (bkH C off) s && bkK C off s == (k : Int))) := fun s => rfl
  generalize bkH C off = hdr at *
  generalize bkK C off = kk at *
  generalize rfB C off k = pp at *
  clear h
  go_enter Try.func51, Try.ntmps51
  go_wp2_with fail
  go_loopw [5] (fun y wr => ∃ s : Nat, s ≤ 7 ∧ y = .int .i64 s ∧ (∀ t, t < s → pp t = false) ∧ Bx1 w A 32 wr) (fun y _ => 7 - (intOf y).toNat)
  case atStart => exact ⟨0, by omega, rfl, fun t ht => by omega, X0.out⟩
  case round =>
    obtain ⟨s, hs, rfl, hno, hx⟩ := hrel
    have X := Lib.hid hx; have HNO := Lib.hid hno
    clear hx hno X0
    by_cases hlt : s < 7
    · have h1 : (s : Int) < 7 := by omega
      have HU1 := Lib.hid (HUS.out wr s hlt)
      have hp := HP.out s
      obtain ⟨ub, hub⟩ : ∃ b, usedB hdr s = b := ⟨_, rfl⟩
      rw [hub] at HU1 hp
      go_wp2_with (refine wpList_load_row rfl 32 (.tmp 2) rfl w.heap.size rfl 32 A (0, 0) _ X.out.blk Try.underlying32 rfl HIN.out ?_)
      (with_reducible refine HU1.out.mono ?_)
      rintro e w1 ⟨rfl, b1⟩
      have X1 := Lib.hid (X.out.next b1)
      clear b1 X HU1
      cases ub
      · have HN2 : Hid (∀ t, t < s + 1 → pp t = false) := fun t ht => by
          rcases Nat.lt_or_ge t s with l | l
          · exact HNO.out t l
          · obtain rfl : t = s := by omega
            simpa using hp
        clear HNO hp hub
        go_wp2_with fail
        go_roundw
        case rel => exact ⟨s + 1, by omega, by go_num, HN2.out, X1.out⟩
        case measure => simp [intOf]; omega
      · have cW := HCL.out w1 s hlt X1.out
        have g1 : (2 : Int) + 2 * (s : Int) < 16 := by omega
        obtain ⟨kv, hkv⟩ : ∃ v, kk s = v := ⟨_, rfl⟩
        rw [hkv] at cW hp
        by_cases he : kv = (k : Int)
        · have hb : (kv == (k : Int)) = true := by simpa using he
          rw [hb] at hp
          have HR := Lib.hid (fstK_hit hlt (by simpa using hp) HNO.out)
          clear HNO hp hub hkv he
          go_wp2_with fail
          go_ret
          exact ⟨by rw [HR.out]; rfl, X1.out.bel⟩
        · have hb : (kv == (k : Int)) = false := by simpa using he
          rw [hb] at hp
          have HN2 : Hid (∀ t, t < s + 1 → pp t = false) := fun t ht => by
            rcases Nat.lt_or_ge t s with l | l
            · exact HNO.out t l
            · obtain rfl : t = s := by omega
              simpa using hp
          clear HNO hp hub hkv he
          go_wp2_with fail
          go_roundw
          case rel => exact ⟨s + 1, by omega, by go_num, HN2.out, X1.out⟩
          case measure => simp [intOf]; omega
    · obtain rfl : s = 7 := by omega
      have HR := Lib.hid (fstK_miss HNO.out)
      go_wp2_with fail
      go_ret
      exact ⟨by rw [HR.out]; rfl, X.out.bel⟩
end
end Go.Proofs.Ytpkilmnppdbnkaa
