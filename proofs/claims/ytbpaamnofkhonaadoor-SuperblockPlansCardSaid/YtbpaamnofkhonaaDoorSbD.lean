/- The copy of a superblock: encode. -/
import Derived.Test.YtbpaamnofkhonaaDoorSbA
import Derived.Test.YtbpaamnofkhonaaDoorCrcW
import Derived.Laws.StructEq
import Derived.ChangeKeysEq
namespace Go.Proofs.YtbpaamnofkhonaaDoor
open Go.RowKit

theorem or_join (i : Nat) (a b : Int) (ha : 0 ≤ a) (ha2 : a < 2 ^ i) (hb : 0 ≤ b) (hs : b * 2 ^ i < 18446744073709551616) (ha3 : a < 18446744073709551616) : bits .or .u64 a (b * 2 ^ i) = a + b * 2 ^ i := by
  obtain ⟨x, rfl⟩ := Int.eq_ofNat_of_zero_le ha
  obtain ⟨y, rfl⟩ := Int.eq_ofNat_of_zero_le hb
  have e : ((y : Int) * 2 ^ i) = ((y * 2 ^ i : Nat) : Int) := by rw [Int.natCast_mul, Int.natCast_pow]; rfl
  rw [e] at hs ⊢
  have hx : x < 2 ^ i := by have : ((2 ^ i : Nat) : Int) = (2 : Int) ^ i := by rw [Int.natCast_pow]; rfl
                            rw [← this] at ha2; omega
  rw [u64_or_nat x _ (by omega) (by omega), Nat.or_comm, nat_join i (y * 2 ^ i) x (Nat.mul_mod_left _ _) hx]
  omega
theorem or16 (a b : Int) (ha : 0 ≤ a) (ha2 : a < 65536) (hb : 0 ≤ b) (hs : b < 281474976710656) : bits .or .u64 a (b * 65536) = a + b * 65536 := or_join 16 a b ha ha2 hb (by omega) (by omega)
theorem or32 (a b : Int) (ha : 0 ≤ a) (ha2 : a < 4294967296) (hb : 0 ≤ b) (hs : b < 4294967296) : bits .or .u64 a (b * 4294967296) = a + b * 4294967296 := or_join 32 a b ha ha2 hb (by omega) (by omega)
theorem or48 (a b : Int) (ha : 0 ≤ a) (ha2 : a < 281474976710656) (hb : 0 ≤ b) (hs : b < 65536) : bits .or .u64 a (b * 281474976710656) = a + b * 281474976710656 := or_join 48 a b ha ha2 hb (by omega) (by omega)
def wordsA (l : List Nat) : Array Value := (natsU l).toArray
theorem rd_part (w : World) (c : Array Value) (t : TypeId) (b n cap : Nat) (hb : b = w.heap.size) (hn : n ≤ cap) (hc : n ≤ c.size) (xs : List Value) (hx : c.toList.take n = xs) : RdSl (w.alloc (.cells c t)) 1 (.slice (some ⟨b, 0, none⟩) n cap) n xs := by
  subst hb hx
  refine ⟨by simp; omega, _, _, rfl, hn, .inr ⟨_, 0, rfl, fun j u hu => (Blk.new w c t).cell ?_⟩⟩
  rw [List.getElem?_take] at hu
  split at hu
  · simpa using hu
  · cases hu
theorem below3 (w : World) (o1 o2 o3 : Obj) : Below w.heap.size w (((w.alloc o1).alloc o2).alloc o3) := (below_twice w o1 o2).trans ((below_alloc _ o3).mono (by simp; omega))
/-- A superblock whose numbers fit into its copy. -/
structure Sup.Fits (s : Sup) : Prop where
  g1 : 0 ≤ s.gen
  g2 : s.gen < 18446744073709551616
  v1 : 0 ≤ s.ver
  v2 : s.ver ≤ 65535
  l1 : 0 ≤ s.lin
  l2 : s.lin ≤ 65535
  r1 : 0 ≤ s.redo
  r2 : s.redo ≤ 65535
  u1 : 0 ≤ s.und
  u2 : s.und ≤ 65535
  d1 : 0 ≤ s.desc
  d2 : s.desc ≤ 65535
  q1 : 0 ≤ s.que
  q2 : s.que ≤ 65535
  t1 : 0 ≤ s.tab
  t2 : s.tab ≤ 65535
section
variable {w : World}
set_option maxRecDepth 100000 in
set_option maxHeartbeats 1000000 in
theorem encode_any (h : Nib w) (s : Sup) (hf : s.Fits) : Calls Tryd.prog 68 #[.agg s.cells] w fun r w' => r = .returned (.agg (wordsA s.words)) ∧ Below w.heap.size w w' := by
  have H := Lib.hid h; clear h
  have HF := Lib.hid hf
  obtain ⟨g1, g2, v1, v2, l1, l2, r1, r2, u1, u2, d1, d2, q1, q2, t1, t2⟩ := hf
  have e2 : s.ver + s.lin * 65536 + s.redo * 4294967296 + s.und * 281474976710656 = (s.w2 : Int) := by unfold Sup.w2; omega
  have e3 : s.desc + s.que * 65536 + s.tab * 4294967296 = (s.w3 : Int) := by unfold Sup.w3; omega
  have l64 : s.w2 < 18446744073709551616 := by omega
  have l64' : s.w3 < 18446744073709551616 := by omega
  obtain ⟨gn, hgn⟩ := Int.eq_ofNat_of_zero_le g1
  have E : s.words = [7738151121853964849, gn, s.w2, s.w3, 0, 0, 0, 4294967296 + crcN [7738151121853964849, gn, s.w2, s.w3, 0, 0, 0]] := by
    have : s.gen.toNat = gn := by omega
    unfold Sup.words Sup.first; rw [this]; rfl
  have z1 := or16 s.ver s.lin v1 (by omega) l1 (by omega)
  have z2 := or32 (s.ver + s.lin * 65536) s.redo (by omega) (by omega) r1 (by omega)
  have z3 := or48 (s.ver + s.lin * 65536 + s.redo * 4294967296) s.und (by omega) (by omega) u1 (by omega)
  have z4 := or16 s.desc s.que d1 (by omega) q1 (by omega)
  have z5 := or32 (s.desc + s.que * 65536) s.tab (by omega) (by omega) t1 (by omega)
  rw [e2] at z3; rw [e3] at z5
  have hgl : gn < 18446744073709551616 := by omega
  have HE := Lib.hid E; clear E
  generalize s.words = res at *
  generalize s.w2 = n2 at *
  generalize s.w3 = n3 at *
  have hcl := crcN_lt [7738151121853964849, gn, n2, n3, 0, 0, 0]
  have HC := Lib.hid (fun wx (hx : Nib wx) sv (hr : RdSl wx 1 sv 7 (natsU [7738151121853964849, gn, n2, n3, 0, 0, 0])) => crcWords_any hx sv [7738151121853964849, gn, n2, n3, 0, 0, 0] hr (by simp) (by simp; omega))
  generalize crcN [7738151121853964849, gn, n2, n3, 0, 0, 0] = cr at *
  obtain ⟨ver, lin, redo, und, desc, que, tab, gen⟩ := s
  simp only at *
  subst hgn
  clear e2 e3 HF
  unfold Sup.cells
  go_enter Tryd.func68, Tryd.ntmps68
  go_wp2_with fail
  (with_reducible refine (HC.out _ (H.out.below (below3 _ _ _ _)) _ (rd_part _ _ _ _ 7 8 (by simp) (by omega) (by simp) _ rfl)).mono ?_)
  rintro e w' ⟨rfl, rfl⟩
  go_wp2_with fail
  refine bodyPost_ret (v := .agg #[.int .u64 7738151121853964849, .int .u64 gn, .int .u64 n2, .int .u64 n3, .int .u64 0, .int .u64 0, .int .u64 0, .int .u64 (4294967296 + (cr : Int))]) (by simp [results, Tryd.results68, go_sem]) rfl ⟨?_, below3 _ _ _ _⟩
  rw [HE.out]
  rfl
end
end Go.Proofs.YtbpaamnofkhonaaDoor

/- The copy of a superblock: decode. -/
namespace Go.Proofs.YtbpaamnofkhonaaDoor
open Go.RowKit
attribute [local go_sem ↓] Go.wp_at_zero Go.wp_at_succ

/-- The superblock of these words. -/
def Sup.dec (a1 a2 a3 : Nat) : Sup := ⟨(a2 % 65536 : Nat), (a2 / 65536 % 65536 : Nat), (a2 / 4294967296 % 65536 : Nat), (a2 / 281474976710656 : Nat), (a3 % 65536 : Nat), (a3 / 65536 % 65536 : Nat), (a3 / 4294967296 % 65536 : Nat), (a1 : Nat)⟩
def Sup.of (W : List Nat) : Sup := Sup.dec (W.getD 1 0) (W.getD 2 0) (W.getD 3 0)
def Sup.zero : Sup := ⟨0, 0, 0, 0, 0, 0, 0, 0⟩
/-- The copy is good in a memory of that many lines. -/
def goodB (W : List Nat) (n : Nat) : Bool := (Sup.of W).okB && decide ((Sup.of W).lin ≤ n) && decide ((Sup.of W).words = W)
def decoded (W : List Nat) (n : Nat) : Sup := if goodB W n then Sup.of W else Sup.zero
theorem Sup.dec_fits (a1 a2 a3 : Nat) (h1 : a1 < 18446744073709551616) (h2 : a2 < 18446744073709551616) : (Sup.dec a1 a2 a3).Fits := by
  constructor <;> simp only [Sup.dec] <;> omega
theorem and16 (x : Nat) (h : x < 18446744073709551616) : bits .and .u64 (x : Int) 65535 = ((x % 65536 : Nat) : Int) := by
  have := u64_and_nat x 65535 h (by omega)
  rw [show 65535 = 2 ^ 16 - 1 from rfl, Nat.and_two_pow_sub_one_eq_mod] at this
  exact this
theorem and16a (x : Nat) (h : x < 18446744073709551616) : bits .and .u64 ((x : Int) / 65536) 65535 = ((x / 65536 % 65536 : Nat) : Int) := by
  rw [show ((x : Int) / 65536) = ((x / 65536 : Nat) : Int) by omega]
  exact and16 _ (by omega)
theorem and16b (x : Nat) (h : x < 18446744073709551616) : bits .and .u64 ((x : Int) / 4294967296) 65535 = ((x / 4294967296 % 65536 : Nat) : Int) := by
  rw [show ((x : Int) / 4294967296) = ((x / 4294967296 : Nat) : Int) by omega]
  exact and16 _ (by omega)
theorem run_eqItems_u64 (d : Nat) (fa fb : Nat → Int) (xs ys : Array Value) (w : World) : ∀ is : List Nat, (∀ i ∈ is, xs[i]? = some (.int .u64 (fa i)) ∧ ys[i]? = some (.int .u64 (fb i))) → (Op.eqItems (d + 1) 22 1 xs ys is).run Tryd.prog w = .ok (is.all fun i => fa i == fb i) w
  | [], _ => by simp [Op.eqItems]
  | i :: is, h => by
    have h0 := h i (by simp)
    have ih := run_eqItems_u64 d fa fb xs ys w is (fun j hj => h j (by simp [hj]))
    have hp : Tryd.prog.plainKey 22 = true := by kernel_rfl
    simp only [Op.eqItems, Sem.run_bind, Nat.mul_one, run_part_plain w hp h0.1, run_part_plain w hp h0.2, run_equalIn_int w d 22 .u64 .u64 (fa i) (fb i) Tryd.underlying22, Result.andThen_ok]
    cases hb : fa i == fb i
    · simp [hb]
    · simp [hb, ih]
set_option maxRecDepth 100000 in
theorem run_neq8 (w : World) (a0 a1 a2 a3 a4 a5 a6 a7 b0 b1 b2 b3 b4 b5 b6 b7 : Int) :
    (binOp .neq 139 (.agg #[.int .u64 b0, .int .u64 b1, .int .u64 b2, .int .u64 b3, .int .u64 b4, .int .u64 b5, .int .u64 b6, .int .u64 b7]) (.agg #[.int .u64 a0, .int .u64 a1, .int .u64 a2, .int .u64 a3, .int .u64 a4, .int .u64 a5, .int .u64 a6, .int .u64 a7])).run Tryd.prog w =
      .ok (.bool (!(decide (b0 = a0 ∧ b1 = a1 ∧ b2 = a2 ∧ b3 = a3 ∧ b4 = a4 ∧ b5 = a5 ∧ b6 = a6 ∧ b7 = a7)))) w := by
  obtain ⟨i0, hi0, _⟩ := info_parts infoU64
  have hc : Tryd.prog.cellsOf 22 = 1 := by kernel_rfl
  have e : (Op.eqItems 9999 22 1 #[.int .u64 b0, .int .u64 b1, .int .u64 b2, .int .u64 b3, .int .u64 b4, .int .u64 b5, .int .u64 b6, .int .u64 b7] #[.int .u64 a0, .int .u64 a1, .int .u64 a2, .int .u64 a3, .int .u64 a4, .int .u64 a5, .int .u64 a6, .int .u64 a7] (List.range 8)).run Tryd.prog w =
      .ok ((List.range 8).all fun i => [b0, b1, b2, b3, b4, b5, b6, b7].getD i 0 == [a0, a1, a2, a3, a4, a5, a6, a7].getD i 0) w :=
    run_eqItems_u64 9998 (fun i => [b0, b1, b2, b3, b4, b5, b6, b7].getD i 0) (fun i => [a0, a1, a2, a3, a4, a5, a6, a7].getD i 0) _ _ w (List.range 8) (fun i hi => by
      have := List.mem_range.1 hi
      obtain rfl | rfl | rfl | rfl | rfl | rfl | rfl | rfl : i = 0 ∨ i = 1 ∨ i = 2 ∨ i = 3 ∨ i = 4 ∨ i = 5 ∨ i = 6 ∨ i = 7 := by omega
      all_goals exact ⟨rfl, rfl⟩)
  rw [run_neq_struct, run_equalIn_array w 9999 _ _ Tryd.underlying139 hi0, hc, e, Result.andThen_ok]
  congr 3
  rw [Bool.eq_iff_iff]
  simp [List.range, List.range.loop]
/-- decode's three boxes. -/
structure DecSt (w : World) (c0 c1 c2 : Array Value) (wx : World) : Prop where
  wds : Blk wx w.heap.size c0 139
  res : Blk wx (w.heap.size + 1) c1 29
  sup : Blk wx (w.heap.size + 1 + 1) c2 29
  bel : Below w.heap.size w wx
theorem DecSt.next {w wx w1 : World} {c0 c1 c2 : Array Value} (h : DecSt w c0 c1 c2 wx) (hb : Below wx.heap.size wx w1) : DecSt w c0 c1 c2 w1 := ⟨h.wds.below hb, h.res.below hb, h.sup.below hb, h.bel.trans (hb.mono h.bel.size)⟩
theorem DecSt.start (w : World) (c0 c1 c2 : Array Value) : DecSt w c0 c1 c2 (((w.alloc (.cells c0 139)).alloc (.cells c1 29)).alloc (.cells c2 29)) := by
  have h1 := Blk.new (w.alloc (.cells c0 139)) c1 29
  have h2 := Blk.new ((w.alloc (.cells c0 139)).alloc (.cells c1 29)) c2 29
  simp only [World.size_alloc] at h1 h2
  exact ⟨((Blk.new w _ _).alloc _).alloc _, h1.alloc _, h2, below3 w _ _ _⟩
section
variable {w : World}
theorem DecSt.cells {w wx : World} {x1 x2 x3 x4 x5 x6 x7 a0 a1 a2 a3 a4 a5 a6 a7 : Int} {c1 : Array Value} (h : DecSt w #[.int .u64 a0, .int .u64 a1, .int .u64 a2, .int .u64 a3, .int .u64 a4, .int .u64 a5, .int .u64 a6, .int .u64 a7] c1 #[.int .i64 x1, .int .i64 x2, .int .i64 x3, .int .i64 x7, .int .i64 x4, .int .i64 x5, .int .i64 x6, .int .u64 a1] wx) :
    wx.cell? ⟨w.heap.size + 1 + 1, 0, none⟩ = some (.int .i64 (x1)) ∧ wx.cell? ⟨w.heap.size + 1 + 1, 1, none⟩ = some (.int .i64 (x2)) ∧ wx.cell? ⟨w.heap.size + 1 + 1, 2, none⟩ = some (.int .i64 (x3)) ∧ wx.cell? ⟨w.heap.size + 1 + 1, 3, none⟩ = some (.int .i64 (x7)) ∧ wx.cell? ⟨w.heap.size + 1 + 1, 4, none⟩ = some (.int .i64 (x4)) ∧ wx.cell? ⟨w.heap.size + 1 + 1, 5, none⟩ = some (.int .i64 (x5)) ∧ wx.cell? ⟨w.heap.size + 1 + 1, 6, none⟩ = some (.int .i64 (x6)) ∧ wx.cell? ⟨w.heap.size + 1 + 1, 7, none⟩ = some (.int .u64 (a1)) ∧ wx.cell? ⟨w.heap.size, 0, none⟩ = some (.int .u64 (a0)) ∧ wx.cell? ⟨w.heap.size, 1, none⟩ = some (.int .u64 (a1)) ∧ wx.cell? ⟨w.heap.size, 2, none⟩ = some (.int .u64 (a2)) ∧ wx.cell? ⟨w.heap.size, 3, none⟩ = some (.int .u64 (a3)) ∧ wx.cell? ⟨w.heap.size, 4, none⟩ = some (.int .u64 (a4)) ∧ wx.cell? ⟨w.heap.size, 5, none⟩ = some (.int .u64 (a5)) ∧ wx.cell? ⟨w.heap.size, 6, none⟩ = some (.int .u64 (a6)) ∧ wx.cell? ⟨w.heap.size, 7, none⟩ = some (.int .u64 (a7)) :=
  ⟨h.sup.cell rfl, h.sup.cell rfl, h.sup.cell rfl, h.sup.cell rfl, h.sup.cell rfl, h.sup.cell rfl, h.sup.cell rfl, h.sup.cell rfl, h.wds.cell rfl, h.wds.cell rfl, h.wds.cell rfl, h.wds.cell rfl, h.wds.cell rfl, h.wds.cell rfl, h.wds.cell rfl, h.wds.cell rfl⟩
theorem DecSt.drew {w wx : World} {c0 c1 c2 : Array Value} (h : DecSt w c0 c1 c2 wx) : DecSt w c0 c1 c2 wx.drew := h.next ((Below.refl _ _).drew)
theorem below_set8 {wx : World} {b B : Nat} (h : Below B w wx) (hb : B ≤ b) (o : Nat) (v0 v1 v2 v3 v4 v5 v6 v7 : Value) :
    Below B w ((((((((wx.setCell ⟨b, o, none⟩ v0).setCell ⟨b, o + 1, none⟩ v1).setCell ⟨b, o + 2, none⟩ v2).setCell ⟨b, o + 3, none⟩ v3).setCell ⟨b, o + 4, none⟩ v4).setCell ⟨b, o + 5, none⟩ v5).setCell ⟨b, o + 6, none⟩ v6).setCell ⟨b, o + 7, none⟩ v7) :=
  (((((((h.setCell hb _).setCell hb _).setCell hb _).setCell hb _).setCell hb _).setCell hb _).setCell hb _).setCell hb _
/-- What decode answers. -/
def DecPost (w : World) (cs : Array Value) (g : Bool) (r : Ending) (w' : World) : Prop := r = .returned (.tuple #[.agg (if g then cs else #[.int .i64 0, .int .i64 0, .int .i64 0, .int .i64 0, .int .i64 0, .int .i64 0, .int .i64 0, .int .u64 0]), .bool g]) ∧ Below w.heap.size w w'
set_option maxRecDepth 100000 in
set_option maxHeartbeats 4000000 in
theorem decode_core (h : Nib w) (a0 a1 a2 a3 a4 a5 a6 a7 n x1 x2 x3 x4 x5 x6 x7 b0 b1 b2 b3 b4 b5 b6 b7 : Nat) (ob g : Bool) (_ : a1 < 18446744073709551616) (_ : a2 < 18446744073709551616) (_ : a3 < 18446744073709551616) (_ : n < 18446744073709551616)
    (z1 : bits .and .u64 (a2 : Int) 65535 = (x1 : Nat)) (z2 : bits .and .u64 ((a2 : Int) / 65536) 65535 = (x2 : Nat)) (z3 : bits .and .u64 ((a2 : Int) / 4294967296) 65535 = (x3 : Nat)) (e7 : (a2 : Int) / 281474976710656 = (x7 : Nat))
    (z4 : bits .and .u64 (a3 : Int) 65535 = (x4 : Nat)) (z5 : bits .and .u64 ((a3 : Int) / 65536) 65535 = (x5 : Nat)) (z6 : bits .and .u64 ((a3 : Int) / 4294967296) 65535 = (x6 : Nat))
    (m1 : x1 < 65536) (m2 : x2 < 65536) (m3 : x3 < 65536) (m4 : x4 < 65536) (m5 : x5 < 65536) (m6 : x6 < 65536) (m7 : x7 < 65536)
    (hV : ∀ wx, Calls Tryd.prog 15 #[.agg #[.int .i64 (x1 : Int), .int .i64 (x2 : Int), .int .i64 (x3 : Int), .int .i64 (x7 : Int), .int .i64 (x4 : Int), .int .i64 (x5 : Int), .int .i64 (x6 : Int), .int .u64 (a1 : Int)]] wx fun r w' => r = .returned (.bool ob) ∧ Below wx.heap.size wx w')
    (hE : ∀ wx, Nib wx → Calls Tryd.prog 68 #[.agg #[.int .i64 (x1 : Int), .int .i64 (x2 : Int), .int .i64 (x3 : Int), .int .i64 (x7 : Int), .int .i64 (x4 : Int), .int .i64 (x5 : Int), .int .i64 (x6 : Int), .int .u64 (a1 : Int)]] wx fun r w' => r = .returned (.agg #[.int .u64 (b0 : Int), .int .u64 (b1 : Int), .int .u64 (b2 : Int), .int .u64 (b3 : Int), .int .u64 (b4 : Int), .int .u64 (b5 : Int), .int .u64 (b6 : Int), .int .u64 (b7 : Int)]) ∧ Below wx.heap.size wx w')
    (hg : g = (ob && decide (x2 ≤ n) && decide (b0 = a0 ∧ b1 = a1 ∧ b2 = a2 ∧ b3 = a3 ∧ b4 = a4 ∧ b5 = a5 ∧ b6 = a6 ∧ b7 = a7))) :
    Calls Tryd.prog 67 #[.agg #[.int .u64 (a0 : Int), .int .u64 (a1 : Int), .int .u64 (a2 : Int), .int .u64 (a3 : Int), .int .u64 (a4 : Int), .int .u64 (a5 : Int), .int .u64 (a6 : Int), .int .u64 (a7 : Int)], .int .u64 n] w (DecPost w #[.int .i64 (x1 : Int), .int .i64 (x2 : Int), .int .i64 (x3 : Int), .int .i64 (x7 : Int), .int .i64 (x4 : Int), .int .i64 (x5 : Int), .int .i64 (x6 : Int), .int .u64 (a1 : Int)] g) := by
  have H := Lib.hid h; have HV := Lib.hid hV; have HEN := Lib.hid hE; have HG := Lib.hid hg; clear h hV hE hg
  go_enter Tryd.func67, Tryd.ntmps67
  go_upto_region 2 with fail
  have Dw3 := Lib.hid (DecSt.start w #[.int .u64 (a0 : Int), .int .u64 (a1 : Int), .int .u64 (a2 : Int), .int .u64 (a3 : Int), .int .u64 (a4 : Int), .int .u64 (a5 : Int), .int .u64 (a6 : Int), .int .u64 (a7 : Int)] #[.int .i64 0, .int .i64 0, .int .i64 0, .int .i64 0, .int .i64 0, .int .i64 0, .int .i64 0, .int .u64 0] #[.int .i64 (x1 : Int), .int .i64 (x2 : Int), .int .i64 (x3 : Int), .int .i64 (x7 : Int), .int .i64 (x4 : Int), .int .i64 (x5 : Int), .int .i64 (x6 : Int), .int .u64 (a1 : Int)])
  generalize (((w.alloc (.cells #[.int .u64 (a0 : Int), .int .u64 (a1 : Int), .int .u64 (a2 : Int), .int .u64 (a3 : Int), .int .u64 (a4 : Int), .int .u64 (a5 : Int), .int .u64 (a6 : Int), .int .u64 (a7 : Int)] 139)).alloc (.cells #[.int .i64 0, .int .i64 0, .int .i64 0, .int .i64 0, .int .i64 0, .int .i64 0, .int .i64 0, .int .u64 0] 29)).alloc (.cells #[.int .i64 (x1 : Int), .int .i64 (x2 : Int), .int .i64 (x3 : Int), .int .i64 (x7 : Int), .int .i64 (x4 : Int), .int .i64 (x5 : Int), .int .i64 (x6 : Int), .int .u64 (a1 : Int)] 29)) = w3 at *
  have N3 := Lib.hid (H.out.below Dw3.out.bel)
  clear z1 z2 z3 z4 z5 z6 e7
  go_cut [57] (fun u wx => u = .bool (!g) ∧ DecSt w #[.int .u64 (a0 : Int), .int .u64 (a1 : Int), .int .u64 (a2 : Int), .int .u64 (a3 : Int), .int .u64 (a4 : Int), .int .u64 (a5 : Int), .int .u64 (a6 : Int), .int .u64 (a7 : Int)] #[.int .i64 0, .int .i64 0, .int .i64 0, .int .i64 0, .int .i64 0, .int .i64 0, .int .i64 0, .int .u64 0] #[.int .i64 (x1 : Int), .int .i64 (x2 : Int), .int .i64 (x3 : Int), .int .i64 (x7 : Int), .int .i64 (x4 : Int), .int .i64 (x5 : Int), .int .i64 (x6 : Int), .int .u64 (a1 : Int)] wx)
  case first =>
    have s0w3 : w3.cell? ⟨w.heap.size + 1 + 1, 0, none⟩ = some (.int .i64 (x1 : Int)) := Dw3.out.sup.cell rfl
    have s1w3 : w3.cell? ⟨w.heap.size + 1 + 1, 1, none⟩ = some (.int .i64 (x2 : Int)) := Dw3.out.sup.cell rfl
    have s2w3 : w3.cell? ⟨w.heap.size + 1 + 1, 2, none⟩ = some (.int .i64 (x3 : Int)) := Dw3.out.sup.cell rfl
    have s3w3 : w3.cell? ⟨w.heap.size + 1 + 1, 3, none⟩ = some (.int .i64 (x7 : Int)) := Dw3.out.sup.cell rfl
    have s4w3 : w3.cell? ⟨w.heap.size + 1 + 1, 4, none⟩ = some (.int .i64 (x4 : Int)) := Dw3.out.sup.cell rfl
    have s5w3 : w3.cell? ⟨w.heap.size + 1 + 1, 5, none⟩ = some (.int .i64 (x5 : Int)) := Dw3.out.sup.cell rfl
    have s6w3 : w3.cell? ⟨w.heap.size + 1 + 1, 6, none⟩ = some (.int .i64 (x6 : Int)) := Dw3.out.sup.cell rfl
    have s7w3 : w3.cell? ⟨w.heap.size + 1 + 1, 7, none⟩ = some (.int .u64 (a1 : Int)) := Dw3.out.sup.cell rfl
    have a0w3 : w3.cell? ⟨w.heap.size, 0, none⟩ = some (.int .u64 (a0 : Int)) := Dw3.out.wds.cell rfl
    have a1w3 : w3.cell? ⟨w.heap.size, 1, none⟩ = some (.int .u64 (a1 : Int)) := Dw3.out.wds.cell rfl
    have a2w3 : w3.cell? ⟨w.heap.size, 2, none⟩ = some (.int .u64 (a2 : Int)) := Dw3.out.wds.cell rfl
    have a3w3 : w3.cell? ⟨w.heap.size, 3, none⟩ = some (.int .u64 (a3 : Int)) := Dw3.out.wds.cell rfl
    have a4w3 : w3.cell? ⟨w.heap.size, 4, none⟩ = some (.int .u64 (a4 : Int)) := Dw3.out.wds.cell rfl
    have a5w3 : w3.cell? ⟨w.heap.size, 5, none⟩ = some (.int .u64 (a5 : Int)) := Dw3.out.wds.cell rfl
    have a6w3 : w3.cell? ⟨w.heap.size, 6, none⟩ = some (.int .u64 (a6 : Int)) := Dw3.out.wds.cell rfl
    have a7w3 : w3.cell? ⟨w.heap.size, 7, none⟩ = some (.int .u64 (a7 : Int)) := Dw3.out.wds.cell rfl
    have yw : IntKind.u64.wrap (x2 : Int) = (x2 : Int) := IntWalk.u64_in _ (by omega)
    by_cases hok : ob = true
    · subst hok
      by_cases hlin : x2 ≤ n
      · have d1 : decide ((n : Int) < (x2 : Int)) = false := by simp; omega
        have d1' : decide (n < x2) = false := by simp; omega
        have d1'' : ¬ n < x2 := by omega
        obtain ⟨nb, hnb⟩ : ∃ nb, (!(decide ((b0 : Int) = a0 ∧ (b1 : Int) = a1 ∧ (b2 : Int) = a2 ∧ (b3 : Int) = a3 ∧ (b4 : Int) = a4 ∧ (b5 : Int) = a5 ∧ (b6 : Int) = a6 ∧ (b7 : Int) = a7))) = nb := ⟨_, rfl⟩
        have hneq := fun wx => run_neq8 wx (a0 : Int) a1 a2 a3 a4 a5 a6 a7 (b0 : Int) b1 b2 b3 b4 b5 b6 b7
        rw [hnb] at hneq
        have HNB8 : Hid (nb = !g) := by
          show nb = !g
          rw [← hnb, HG.out]
          simp only [hlin, decide_true, Bool.true_and]
          congr 1
          rw [decide_eq_decide]
          omega
        have hgu : Tryd.prog.eqGuardType Tryd.prog.depth 139 = false := by kernel_rfl
        clear hnb
        go_region_held3 (fun wx => wx.cell? ⟨w.heap.size + 1 + 1, 0, none⟩ = some (.int .i64 (x1 : Int)) ∧ wx.cell? ⟨w.heap.size + 1 + 1, 1, none⟩ = some (.int .i64 (x2 : Int)) ∧ wx.cell? ⟨w.heap.size + 1 + 1, 2, none⟩ = some (.int .i64 (x3 : Int)) ∧ wx.cell? ⟨w.heap.size + 1 + 1, 3, none⟩ = some (.int .i64 (x7 : Int)) ∧ wx.cell? ⟨w.heap.size + 1 + 1, 4, none⟩ = some (.int .i64 (x4 : Int)) ∧ wx.cell? ⟨w.heap.size + 1 + 1, 5, none⟩ = some (.int .i64 (x5 : Int)) ∧ wx.cell? ⟨w.heap.size + 1 + 1, 6, none⟩ = some (.int .i64 (x6 : Int)) ∧ wx.cell? ⟨w.heap.size + 1 + 1, 7, none⟩ = some (.int .u64 (a1 : Int)) ∧ wx.cell? ⟨w.heap.size, 0, none⟩ = some (.int .u64 (a0 : Int)) ∧ wx.cell? ⟨w.heap.size, 1, none⟩ = some (.int .u64 (a1 : Int)) ∧ wx.cell? ⟨w.heap.size, 2, none⟩ = some (.int .u64 (a2 : Int)) ∧ wx.cell? ⟨w.heap.size, 3, none⟩ = some (.int .u64 (a3 : Int)) ∧ wx.cell? ⟨w.heap.size, 4, none⟩ = some (.int .u64 (a4 : Int)) ∧ wx.cell? ⟨w.heap.size, 5, none⟩ = some (.int .u64 (a5 : Int)) ∧ wx.cell? ⟨w.heap.size, 6, none⟩ = some (.int .u64 (a6 : Int)) ∧ wx.cell? ⟨w.heap.size, 7, none⟩ = some (.int .u64 (a7 : Int))) (first | (with_reducible exact D5.out.cells) | (with_reducible exact D4.out.cells) | (with_reducible exact Dw3.out.drew.cells) | (with_reducible exact Dw3.out.cells)) (first | (go_at_call 15; (with_reducible refine (HV.out _).mono ?_); rintro e w4 ⟨rfl, bb4⟩; have D4 := Lib.hid (Dw3.out.next (bdrew bb4)); have N4 := Lib.hid (N3.out.below (bdrew bb4)); clear bb4) | (go_at_call 68; (with_reducible refine (HEN.out _ N4.out).mono ?_); rintro e w5 ⟨rfl, bb5⟩; have D5 := Lib.hid (D4.out.next bb5); clear bb5))
        all_goals go_wp2_with fail
        all_goals go_meet
        all_goals exact ⟨by rw [HNB8.out], D5.out⟩
      · have d1 : decide ((n : Int) < (x2 : Int)) = true := by simp; omega
        have d1' : decide (n < x2) = true := by simp; omega
        have d1'' : n < x2 := by omega
        refine wp_region_any (by kernel_rfl) ?_
        change wpAny _ _ _ _ _ _ _ (World.drew _)
        refine wpAny_ready (rs := [0]) (by kernel_rfl) (by simp) ?_
        refine AllReady.cons rfl (fun K hK => ?_) AllReady.nil
        go_simp
        refine hK _ _ ?_
        clear hK K
        refine wpAny_ready (rs := [1]) (by kernel_rfl) (by simp) ?_
        refine AllReady.cons rfl (fun K hK => ?_) AllReady.nil
        go_simp
        (with_reducible refine (HV.out _).mono ?_)
        rintro e w4 ⟨rfl, bb4⟩
        have Dw4 := Lib.hid (Dw3.out.next (bdrew bb4)); clear bb4
        have s1w4 : w4.cell? ⟨w.heap.size + 1 + 1, 1, none⟩ = some (.int .i64 (x2 : Int)) := Dw4.out.sup.cell rfl
        go_simp
        refine hK _ _ ?_
        clear hK K
        refine wpAny_ready (rs := [2]) (by kernel_rfl) (by simp) ?_
        refine AllReady.cons rfl (fun K hK => ?_) AllReady.nil
        go_simp
        refine hK _ _ ?_
        clear hK K
        refine wpAny_ready (rs := [3]) (by kernel_rfl) (by simp) ?_
        refine AllReady.cons rfl (fun K hK => ?_) AllReady.nil
        go_simp
        refine hK _ _ ?_
        clear hK K
        refine wpAny_take (i := 4) (v := .pointer (some ⟨w.heap.size + 1 + 1, 1, none⟩)) rfl (by kernel_rfl) (by kernel_rfl) (by kernel_rfl) (fun _ _ _ h => h) (Or.inl ⟨?_, ?_⟩) ?_
        · rfl
        · intro w; go_simp
        refine wpAny_take (i := 7) (v := .int .u64 (n : Int)) rfl (by kernel_rfl) (by kernel_rfl) (by kernel_rfl) (fun _ _ _ h => h) (Or.inl ⟨?_, ?_⟩) ?_
        · rfl
        · intro w; go_simp
        refine wpAny_ready (rs := [5]) (by kernel_rfl) (by simp) ?_
        refine AllReady.cons rfl (fun K hK => ?_) AllReady.nil
        go_simp
        refine hK _ _ ?_
        clear hK K
        refine wpAny_ready (rs := [6]) (by kernel_rfl) (by simp) ?_
        refine AllReady.cons rfl (fun K hK => ?_) AllReady.nil
        go_simp
        refine hK _ _ ?_
        clear hK K
        refine wpAny_ready (rs := [8]) (by kernel_rfl) (by simp) ?_
        refine AllReady.cons rfl (fun K hK => ?_) AllReady.nil
        go_simp
        refine hK _ _ ?_
        clear hK K
        refine wpAny_ready (rs := [9]) (by kernel_rfl) (by simp) ?_
        refine AllReady.cons rfl (fun K hK => ?_) AllReady.nil
        go_simp
        refine hK _ _ ?_
        clear hK K
        refine wpAny_ready (rs := [10]) (by kernel_rfl) (by simp) ?_
        refine AllReady.cons rfl (fun K hK => ?_) AllReady.nil
        go_simp
        refine hK _ _ ?_
        clear hK K
        refine wpAny_take (i := 11) (v := undef) rfl (by kernel_rfl) (by kernel_rfl) (by kernel_rfl) (fun _ _ _ h => h) (Or.inr ⟨?_, rfl⟩) ?_
        · rfl
        refine wpAny_take (i := 12) (v := undef) rfl (by kernel_rfl) (by kernel_rfl) (by kernel_rfl) (fun _ _ _ h => h) (Or.inr ⟨?_, rfl⟩) ?_
        · rfl
        refine wpAny_take (i := 13) (v := undef) rfl (by kernel_rfl) (by kernel_rfl) (by kernel_rfl) (fun _ _ _ h => h) (Or.inr ⟨?_, rfl⟩) ?_
        · rfl
        refine wpAny_take (i := 14) (v := undef) rfl (by kernel_rfl) (by kernel_rfl) (by kernel_rfl) (fun _ _ _ h => h) (Or.inr ⟨?_, rfl⟩) ?_
        · rfl
        refine wpAny_ready (rs := [15]) (by kernel_rfl) (by simp) ?_
        refine AllReady.cons rfl (fun K hK => ?_) AllReady.nil
        go_simp
        refine hK _ _ ?_
        clear hK K
        refine wpAny_done (by kernel_rfl) ?_ _
        go_wp2_with fail
        go_meet
        exact ⟨by rw [HG.out]; simp [hlin], Dw4.out⟩
    · obtain rfl : ob = false := by simpa using hok
      refine wp_region_any (by kernel_rfl) ?_
      change wpAny _ _ _ _ _ _ _ (World.drew _)
      refine wpAny_ready (rs := [0]) (by kernel_rfl) (by simp) ?_
      refine AllReady.cons rfl (fun K hK => ?_) AllReady.nil
      go_simp
      refine hK _ _ ?_
      clear hK K
      refine wpAny_ready (rs := [1]) (by kernel_rfl) (by simp) ?_
      refine AllReady.cons rfl (fun K hK => ?_) AllReady.nil
      go_simp
      (with_reducible refine (HV.out _).mono ?_)
      rintro e w4 ⟨rfl, bb4⟩
      have Dw4 := Lib.hid (Dw3.out.next (bdrew bb4)); clear bb4
      go_simp
      refine hK _ _ ?_
      clear hK K
      refine wpAny_ready (rs := [2]) (by kernel_rfl) (by simp) ?_
      refine AllReady.cons rfl (fun K hK => ?_) AllReady.nil
      go_simp
      refine hK _ _ ?_
      clear hK K
      refine wpAny_ready (rs := [3]) (by kernel_rfl) (by simp) ?_
      refine AllReady.cons rfl (fun K hK => ?_) AllReady.nil
      go_simp
      refine hK _ _ ?_
      clear hK K
      refine wpAny_take (i := 4) (v := undef) rfl (by kernel_rfl) (by kernel_rfl) (by kernel_rfl) (fun _ _ _ h => h) (Or.inr ⟨?_, rfl⟩) ?_
      · rfl
      refine wpAny_take (i := 5) (v := undef) rfl (by kernel_rfl) (by kernel_rfl) (by kernel_rfl) (fun _ _ _ h => h) (Or.inr ⟨?_, rfl⟩) ?_
      · rfl
      refine wpAny_take (i := 6) (v := undef) rfl (by kernel_rfl) (by kernel_rfl) (by kernel_rfl) (fun _ _ _ h => h) (Or.inr ⟨?_, rfl⟩) ?_
      · rfl
      refine wpAny_take (i := 7) (v := undef) rfl (by kernel_rfl) (by kernel_rfl) (by kernel_rfl) (fun _ _ _ h => h) (Or.inr ⟨?_, rfl⟩) ?_
      · rfl
      refine wpAny_take (i := 8) (v := undef) rfl (by kernel_rfl) (by kernel_rfl) (by kernel_rfl) (fun _ _ _ h => h) (Or.inr ⟨?_, rfl⟩) ?_
      · rfl
      refine wpAny_ready (rs := [9]) (by kernel_rfl) (by simp) ?_
      refine AllReady.cons rfl (fun K hK => ?_) AllReady.nil
      go_simp
      refine hK _ _ ?_
      clear hK K
      refine wpAny_ready (rs := [10]) (by kernel_rfl) (by simp) ?_
      refine AllReady.cons rfl (fun K hK => ?_) AllReady.nil
      go_simp
      refine hK _ _ ?_
      clear hK K
      refine wpAny_take (i := 11) (v := undef) rfl (by kernel_rfl) (by kernel_rfl) (by kernel_rfl) (fun _ _ _ h => h) (Or.inr ⟨?_, rfl⟩) ?_
      · rfl
      refine wpAny_take (i := 12) (v := undef) rfl (by kernel_rfl) (by kernel_rfl) (by kernel_rfl) (fun _ _ _ h => h) (Or.inr ⟨?_, rfl⟩) ?_
      · rfl
      refine wpAny_take (i := 13) (v := undef) rfl (by kernel_rfl) (by kernel_rfl) (by kernel_rfl) (fun _ _ _ h => h) (Or.inr ⟨?_, rfl⟩) ?_
      · rfl
      refine wpAny_take (i := 14) (v := undef) rfl (by kernel_rfl) (by kernel_rfl) (by kernel_rfl) (fun _ _ _ h => h) (Or.inr ⟨?_, rfl⟩) ?_
      · rfl
      refine wpAny_ready (rs := [15]) (by kernel_rfl) (by simp) ?_
      refine AllReady.cons rfl (fun K hK => ?_) AllReady.nil
      go_simp
      refine hK _ _ ?_
      clear hK K
      refine wpAny_done (by kernel_rfl) ?_ _
      go_wp2_with fail
      go_meet
      exact ⟨by rw [HG.out]; simp, Dw4.out⟩
  case rest =>
    obtain ⟨rfl, hst⟩ := hcut
    rename World => wx
    have ST := Lib.hid hst
    have q0 := hst.cells.1; have q1 := hst.cells.2.1; have q2 := hst.cells.2.2.1; have q3 := hst.cells.2.2.2.1
    have q4 := hst.cells.2.2.2.2.1; have q5 := hst.cells.2.2.2.2.2.1; have q6 := hst.cells.2.2.2.2.2.2.1; have q7 := hst.cells.2.2.2.2.2.2.2.1
    have f0 := hst.res.frozen 0; have f1 := hst.res.frozen 1; have f2 := hst.res.frozen 2; have f3 := hst.res.frozen 3
    have f4 := hst.res.frozen 4; have f5 := hst.res.frozen 5; have f6 := hst.res.frozen 6; have f7 := hst.res.frozen 7
    have r0 := hst.res.cell (i := 0) rfl; have r1 := hst.res.cell (i := 1) rfl; have r2 := hst.res.cell (i := 2) rfl; have r3 := hst.res.cell (i := 3) rfl
    have r4 := hst.res.cell (i := 4) rfl; have r5 := hst.res.cell (i := 5) rfl; have r6 := hst.res.cell (i := 6) rfl; have r7 := hst.res.cell (i := 7) rfl
    clear hst N3 HV HEN H Dw3 HG
    cases g
    · go_wp2_with fail
      refine bodyPost_ret (v := .tuple #[.agg #[.int .i64 0, .int .i64 0, .int .i64 0, .int .i64 0, .int .i64 0, .int .i64 0, .int .i64 0, .int .u64 0], .bool false]) (by simp [results, Tryd.results67, go_sem, r0, r1, r2, r3, r4, r5, r6, r7]) rfl ⟨rfl, ?_⟩
      exact below_set8 ST.out.bel (by omega) 0 _ _ _ _ _ _ _ _
    · go_wp2_with fail
      refine bodyPost_ret (v := .tuple #[.agg #[.int .i64 (x1 : Int), .int .i64 (x2 : Int), .int .i64 (x3 : Int), .int .i64 (x7 : Int), .int .i64 (x4 : Int), .int .i64 (x5 : Int), .int .i64 (x6 : Int), .int .u64 (a1 : Int)], .bool true]) (by simp [results, Tryd.results67, go_sem, r0, r1, r2, r3, r4, r5, r6, r7]) rfl ⟨rfl, ?_⟩
      exact below_set8 ST.out.bel (by omega) 0 _ _ _ _ _ _ _ _
set_option maxRecDepth 100000 in
theorem decode_any (h : Nib w) (a0 a1 a2 a3 a4 a5 a6 a7 n : Nat) (h1 : a1 < 18446744073709551616) (h2 : a2 < 18446744073709551616) (h3 : a3 < 18446744073709551616) (hn : n < 18446744073709551616) :
    Calls Tryd.prog 67 #[.agg (wordsA [a0, a1, a2, a3, a4, a5, a6, a7]), .int .u64 n] w fun r w' => r = .returned (.tuple #[.agg (decoded [a0, a1, a2, a3, a4, a5, a6, a7] n).cells, .bool (goodB [a0, a1, a2, a3, a4, a5, a6, a7] n)]) ∧ Below w.heap.size w w' := by
  have hf := Sup.dec_fits a1 a2 a3 h1 h2
  have hE := fun wx (hx : Nib wx) => encode_any hx (Sup.dec a1 a2 a3) hf
  have hV := fun wx => valid_any (w := wx) (Sup.dec a1 a2 a3)
  have hw : (Sup.dec a1 a2 a3).words = [7738151121853964849, a1, (Sup.dec a1 a2 a3).w2, (Sup.dec a1 a2 a3).w3, 0, 0, 0, 4294967296 + crcN (Sup.dec a1 a2 a3).first] := by
    unfold Sup.words Sup.first
    rw [show (Sup.dec a1 a2 a3).gen.toNat = a1 from Int.toNat_natCast _]; rfl
  rw [hw] at hE
  have hg : goodB [a0, a1, a2, a3, a4, a5, a6, a7] n = ((Sup.dec a1 a2 a3).okB && decide (a2 / 65536 % 65536 ≤ n) && decide (7738151121853964849 = a0 ∧ a1 = a1 ∧ (Sup.dec a1 a2 a3).w2 = a2 ∧ (Sup.dec a1 a2 a3).w3 = a3 ∧ 0 = a4 ∧ 0 = a5 ∧ 0 = a6 ∧ 4294967296 + crcN (Sup.dec a1 a2 a3).first = a7)) := by
    unfold goodB
    rw [show Sup.of [a0, a1, a2, a3, a4, a5, a6, a7] = Sup.dec a1 a2 a3 from rfl, hw]
    congr 1
    · congr 1
      rw [decide_eq_decide]
      show ((a2 / 65536 % 65536 : Nat) : Int) ≤ (n : Int) ↔ _
      omega
    · rw [decide_eq_decide]; simp
  have hc := decode_core h a0 a1 a2 a3 a4 a5 a6 a7 n (a2 % 65536) (a2 / 65536 % 65536) (a2 / 4294967296 % 65536) (a3 % 65536) (a3 / 65536 % 65536) (a3 / 4294967296 % 65536) (a2 / 281474976710656) _ _ _ _ _ _ _ _ _ _ h1 h2 h3 hn
    (and16 a2 h2) (and16a a2 h2) (and16b a2 h2) (by omega) (and16 a3 h3) (and16a a3 h3) (and16b a3 h3) (by omega) (by omega) (by omega) (by omega) (by omega) (by omega) (by omega) hV hE hg
  refine hc.mono fun r w' hp => ?_
  obtain ⟨hr, hb⟩ := hp
  refine ⟨?_, hb⟩
  rw [hr]
  unfold decoded
  cases goodB [a0, a1, a2, a3, a4, a5, a6, a7] n
  · rfl
  · rfl
end
end Go.Proofs.YtbpaamnofkhonaaDoor
