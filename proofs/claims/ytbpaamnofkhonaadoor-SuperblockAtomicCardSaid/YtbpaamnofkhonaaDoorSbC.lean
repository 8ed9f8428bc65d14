/- The copy of a superblock: encode. -/
import Derived.Test.YtbpaamnofkhonaaDoorSbA
import Derived.Test.YtbpaamnofkhonaaDoorCrcW
namespace Go.Proofs.YtbpaamnofkhonaaDoor
open Go.RowKit

theorem or_join (i : Nat) (a b : Int) (ha : 0 ≤ a) (ha2 : a < 2 ^ i) (hb : 0 ≤ b) (hs : b * 2 ^ i < 18446744073709551616) (ha3 : a < 18446744073709551616) : bits .or .u64 a (b * 2 ^ i) = a + b * 2 ^ i := by
  obtain ⟨x, rfl⟩ := Int.eq_ofNat_of_zero_le ha
  obtain ⟨y, rfl⟩ := Int.eq_ofNat_of_zero_le hb
  have e : ((y : Int) * 2 ^ i) = ((y * 2 ^ i : Nat) : Int) := by rw [Int.natCast_mul, Int.natCast_pow]; rfl
  rw [e] at hs ⊢
  have hx : x < 2 ^ i := by have : ((2 ^ i : Nat) : Int) = (2 : Int) ^ i := by rw [Int.natCast_pow]; rfl
                            rw [← this] at ha2; omega
  rw [u64_or_nat x _ (by omega) (by omega), Nat.or_comm, nat_join i (y * 2 ^ i) x (Nat.mul_mod_left _ _) hx]
  omega
theorem or16 (a b : Int) (ha : 0 ≤ a) (ha2 : a < 65536) (hb : 0 ≤ b) (hs : b < 281474976710656) : bits .or .u64 a (b * 65536) = a + b * 65536 := or_join 16 a b ha ha2 hb (by omega) (by omega)
theorem or32 (a b : Int) (ha : 0 ≤ a) (ha2 : a < 4294967296) (hb : 0 ≤ b) (hs : b < 4294967296) : bits .or .u64 a (b * 4294967296) = a + b * 4294967296 := or_join 32 a b ha ha2 hb (by omega) (by omega)
theorem or48 (a b : Int) (ha : 0 ≤ a) (ha2 : a < 281474976710656) (hb : 0 ≤ b) (hs : b < 65536) : bits .or .u64 a (b * 281474976710656) = a + b * 281474976710656 := or_join 48 a b ha ha2 hb (by omega) (by omega)
def wordsA (l : List Nat) : Array Value := (natsU l).toArray
theorem rd_part (w : World) (c : Array Value) (t : TypeId) (b n cap : Nat) (hb : b = w.heap.size) (hn : n ≤ cap) (hc : n ≤ c.size) (xs : List Value) (hx : c.toList.take n = xs) : RdSl (w.alloc (.cells c t)) 1 (.slice (some ⟨b, 0, none⟩) n cap) n xs := by
  subst hb hx
  refine ⟨by simp; omega, _, _, rfl, hn, .inr ⟨_, 0, rfl, fun j u hu => (Blk.new w c t).cell ?_⟩⟩
  rw [List.getElem?_take] at hu
  split at hu
  · simpa using hu
  · cases hu
theorem below3 (w : World) (o1 o2 o3 : Obj) : Below w.heap.size w (((w.alloc o1).alloc o2).alloc o3) := (below_twice w o1 o2).trans ((below_alloc _ o3).mono (by simp; omega))
/-- A superblock whose numbers fit into its copy. -/
structure Sup.Fits (s : Sup) : Prop where
  g1 : 0 ≤ s.gen
  g2 : s.gen < 18446744073709551616
  v1 : 0 ≤ s.ver
  v2 : s.ver ≤ 65535
  l1 : 0 ≤ s.lin
  l2 : s.lin ≤ 65535
  r1 : 0 ≤ s.redo
  r2 : s.redo ≤ 65535
  u1 : 0 ≤ s.und
  u2 : s.und ≤ 65535
  d1 : 0 ≤ s.desc
  d2 : s.desc ≤ 65535
  q1 : 0 ≤ s.que
  q2 : s.que ≤ 65535
  t1 : 0 ≤ s.tab
  t2 : s.tab ≤ 65535
section
variable {w : World}
set_option maxRecDepth 100000 in
set_option maxHeartbeats 1000000 in
theorem encode_any (h : Nib w) (s : Sup) (hf : s.Fits) : Calls Tryd.prog 68 #[.agg s.cells] w fun r w' => r = .returned (.agg (wordsA s.words)) ∧ Below w.heap.size w w' := by
  have H := Lib.hid h; clear h
  have HF := Lib.hid hf
  obtain ⟨g1, g2, v1, v2, l1, l2, r1, r2, u1, u2, d1, d2, q1, q2, t1, t2⟩ := hf
  have e2 : s.ver + s.lin * 65536 + s.redo * 4294967296 + s.und * 281474976710656 = (s.w2 : Int) := by unfold Sup.w2; omega
  have e3 : s.desc + s.que * 65536 + s.tab * 4294967296 = (s.w3 : Int) := by unfold Sup.w3; omega
  have l64 : s.w2 < 18446744073709551616 := by omega
  have l64' : s.w3 < 18446744073709551616 := by omega
  obtain ⟨gn, hgn⟩ := Int.eq_ofNat_of_zero_le g1
  have E : s.words = [7738151121853964849, gn, s.w2, s.w3, 0, 0, 0, 4294967296 + crcN [7738151121853964849, gn, s.w2, s.w3, 0, 0, 0]] := by
    have : s.gen.toNat = gn := by omega
    unfold Sup.words Sup.first; rw [this]; rfl
  have z1 := or16 s.ver s.lin v1 (by omega) l1 (by omega)
  have z2 := or32 (s.ver + s.lin * 65536) s.redo (by omega) (by omega) r1 (by omega)
  have z3 := or48 (s.ver + s.lin * 65536 + s.redo * 4294967296) s.und (by omega) (by omega) u1 (by omega)
  have z4 := or16 s.desc s.que d1 (by omega) q1 (by omega)
  have z5 := or32 (s.desc + s.que * 65536) s.tab (by omega) (by omega) t1 (by omega)
  rw [e2] at z3; rw [e3] at z5
  have hgl : gn < 18446744073709551616 := by omega
  have HE := Lib.hid E; clear E
  generalize s.words = res at *
  generalize s.w2 = n2 at *
  generalize s.w3 = n3 at *
  have hcl := crcN_lt [7738151121853964849, gn, n2, n3, 0, 0, 0]
  have HC := Lib.hid (fun wx (hx : Nib wx) sv (hr : RdSl wx 1 sv 7 (natsU [7738151121853964849, gn, n2, n3, 0, 0, 0])) => crcWords_any hx sv [7738151121853964849, gn, n2, n3, 0, 0, 0] hr (by simp) (by simp; omega))
  generalize crcN [7738151121853964849, gn, n2, n3, 0, 0, 0] = cr at *
  obtain ⟨ver, lin, redo, und, desc, que, tab, gen⟩ := s
  simp only at *
  subst hgn
  clear e2 e3 HF
  unfold Sup.cells
  go_enter Tryd.func68, Tryd.ntmps68
  go_wp2_with fail
  (with_reducible refine (HC.out _ (H.out.below (below3 _ _ _ _)) _ (rd_part _ _ _ _ 7 8 (by simp) (by omega) (by simp) _ rfl)).mono ?_)
  rintro e w' ⟨rfl, rfl⟩
  go_wp2_with fail
  refine bodyPost_ret (v := .agg #[.int .u64 7738151121853964849, .int .u64 gn, .int .u64 n2, .int .u64 n3, .int .u64 0, .int .u64 0, .int .u64 0, .int .u64 (4294967296 + (cr : Int))]) (by simp [results, Tryd.results68, go_sem]) rfl ⟨?_, below3 _ _ _ _⟩
  rw [HE.out]
  rfl
end
end Go.Proofs.YtbpaamnofkhonaaDoor
