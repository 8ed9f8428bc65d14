/- slices.Repeat of one word, 28 times. -/
import Derived.Test.YtkoijmoendepgaaNodeC
import Derived.Test.YtkoijmoendepgaaLeafL
import Derived.Laws.CopyOwn
import Derived.RegionTactic
import Derived.BigRegion
namespace Go.Proofs.Ytkoijmoendepgaa
open Go.RowKit

def rep28 (y : Int) (k : Nat) : List Value := List.replicate k (.int .u64 y) ++ List.replicate (28 - k) (.int .u64 0)
theorem rep28_len (y : Int) (k : Nat) (hk : k ≤ 28) : (rep28 y k).length = 28 := by simp [rep28]; omega
theorem rep28_splice (y : Int) (k m : Nat) (hm : k + m ≤ 28) : splice (rep28 y k) k (List.replicate m (.int .u64 y)) = rep28 y (k + m) := by
  unfold splice rep28
  rw [List.take_left' (by simp), List.length_replicate, ← List.append_assoc]
  have e1 : List.drop (k + m) (List.replicate k (Value.int .u64 y) ++ List.replicate (28 - k) (.int .u64 0)) = List.replicate (28 - (k + m)) (.int .u64 0) := by
    rw [List.drop_append, List.drop_of_length_le (by simp), List.length_replicate, List.drop_replicate, List.nil_append]; congr 1; omega
  rw [List.append_assoc, e1, ← List.append_assoc, List.replicate_append_replicate]
theorem rep28_made (y : Int) : (madeCells #[.int .u64 0] 28) = (rep28 y 0).toArray := by
  refine Array.ext' (List.ext_getElem? fun i => ?_)
  by_cases h : i < 28
  · have e : (madeCells #[Value.int .u64 0] 28).toList[i]? = some (.int .u64 0) := by simp [madeCells, h, Nat.mod_one]
    have e2 : (rep28 y 0).toArray.toList[i]? = some (.int .u64 0) := by
      show (List.replicate 0 (Value.int .u64 y) ++ List.replicate (28 - 0) (Value.int .u64 0))[i]? = _
      rw [List.replicate_zero, List.nil_append, List.getElem?_replicate, if_pos h]
    rw [e, e2]
  · simp [madeCells, rep28, h]
theorem sizeU64 : (Try.prog.info? 23).map (·.size) = some 1 := by kernel_rfl
theorem rep28_at (y : Int) (k j : Nat) (hj : j < k) (_hk : k ≤ 28) : (rep28 y k)[j]? = some (.int .u64 y) := by simp [rep28, List.getElem?_append, hj]
theorem rep_one (y : Int) (m : Nat) : ∀ v ∈ List.replicate m (Value.int .u64 y), v.oneCell' = true := fun v hv => by rw [List.eq_of_mem_replicate hv]; rfl

section
variable {w : World}
def RepMid (w : World) (y : Int) (g k : Nat) (wr : World) : Prop := Blk wr g (rep28 y k).toArray 23 ∧ Below w.heap.size w wr
/-- copy into a row that the call made. -/
theorem copy_eq (W : World) (g o dLen dCap : Nat) (ad : Addr) (sLen sCap : Nat) (cur : List Value) (cs : List Value) (hg : Blk W g cur.toArray 23) (hn : cs.length = Nat.min sLen dLen) (hsrc : ∀ j v, cs[j]? = some v → W.cell? (ad.add j) = some v)
    (hfit : o + cs.length ≤ cur.length) (h1 : ∀ v ∈ cs, v.oneCell' = true) :
    ∃ w1, (Builtin.copy_ #[22, 22] 3 #[.slice (some ⟨g, o, none⟩) dLen dCap, .slice (some ad) sLen sCap]).run Try.prog W = .ok (.int .i64 cs.length) w1 ∧ Blk w1 g (splice cur o cs).toArray 23 ∧ ∀ B w0, Below B w0 W → B ≤ g → Below B w0 w1 := by
  refine ⟨_, run_copy_row (P := Try.prog) W 22 22 3 23 g o dLen dCap ad sLen sCap cur.toArray 23 cs Try.underlying22 sizeU64 hg hn hsrc (by simpa using hfit) h1, ?_, fun B w0 hb hB => below_setRow hb hB _⟩
  have := setRow_heap W g _ (cur.take o ++ cs ++ cur.drop (o + cs.length)).toArray 23 _ hg
  unfold splice; rw [← List.append_assoc]; exact this

set_option maxRecDepth 100000 in
set_option maxHeartbeats 2000000 in
theorem repeat_any (b : Nat) (y : Int) (hb : w.cell? ⟨b, 0, none⟩ = some (.int .u64 y)) :
    Calls Try.prog 60 #[.slice (some ⟨b, 0, none⟩) 1 1, .int .i64 28] w fun r w' => r = .returned (.slice (some ⟨w.heap.size, 0, none⟩) 28 28) ∧ RepMid w y w.heap.size 28 w' := by
  have hbl := World.block_lt_of_cell? w _ hb
  have hmk := mk28
  have hM : Calls Try.prog 85 #[.int .u64 1, .int .u64 28] w fun e w' => e = .returned (.tuple #[.int .u64 0, .int .u64 28]) ∧ w = w' := (Try.bits_Mul 1 28 (by omega) (by omega) w).mono fun _ _ h => ⟨h.1, h.2.symm⟩
  have HM := Lib.hid hM; clear hM
  go_enter Try.func60, Try.ntmps60
  go_wp2_with fail
  (with_reducible refine HM.out.mono ?_)
  rintro e w' ⟨rfl, rfl⟩
  have B0 : Blk (w.alloc (.cells (madeCells #[.int .u64 0] 28) 23)) w.heap.size (rep28 y 0).toArray 23 := by have := Blk.new w (madeCells #[.int .u64 0] 28) 23; rw [rep28_made y] at this ⊢; exact this
  have C0 : (w.alloc (.cells (madeCells #[.int .u64 0] 28) 23)).cell? ⟨b, 0, none⟩ = some (.int .u64 y) := cell_bel (below_alloc w _) hb
  obtain ⟨w1, hc1, k1, b1⟩ := copy_eq (w.alloc (.cells (madeCells #[.int .u64 0] 28) 23)) w.heap.size 0 28 28 ⟨b, 0, none⟩ 1 1 (rep28 y 0) (List.replicate 1 (.int .u64 y)) B0 rfl
    (fun j v hj => by
      have : j = 0 := by rcases Nat.eq_zero_or_pos j with h | h; exact h; rw [List.getElem?_eq_none (by simp; omega)] at hj; cases hj
      subst this; simp at hj; subst hj; exact C0) (by rw [rep28_len _ _ (by omega), List.length_replicate]; omega) (rep_one y 1)
  rw [rep28_splice y 0 1 (by omega)] at k1
  rw [List.length_replicate, show ((1 : Nat) : Int) = 1 from rfl] at hc1
  have K1 := Lib.hid (And.intro k1 (b1 _ _ (below_alloc w _) (Nat.le_refl _)))
  clear hb HM B0 C0 k1 b1
  go_wp2_with fail
  clear hc1
  go_loopw [8] (fun x wr => ∃ k : Nat, 1 ≤ k ∧ k ≤ 28 ∧ x = .int .i64 k ∧ RepMid w y w.heap.size k wr) (fun x _ => 28 - (intOf x).toNat)
  case atStart => exact ⟨1, by omega, by omega, rfl, K1.out⟩
  case round =>
    obtain ⟨k, h1, h2, rfl, hm1, hm2⟩ := hrel
    have M := Lib.hid (And.intro hm1 hm2)
    clear K1
    by_cases hlt : k < 28
    · have i1 : (0 : Int) ≤ k := by omega
      have i2 : (k : Int) ≤ 28 := by omega
      have i3 : ¬ 28 = k := by omega
      clear hm1 hm2
      go_wp2_with fail
      obtain ⟨mm, hmd⟩ : ∃ mm, mm = min k (28 - k) := ⟨_, rfl⟩
      have hm1 : mm ≤ k := by omega
      have hm2 : k + mm ≤ 28 := by omega
      have hm3 : 0 < mm := by omega
      obtain ⟨w2, hc2, k2, b2⟩ := copy_eq wr.drew w.heap.size k (28 - k) (28 - k) ⟨w.heap.size, 0, none⟩ k 28 (rep28 y k) (List.replicate mm (.int .u64 y)) M.out.1 (by rw [List.length_replicate, hmd])
        (fun j v hj => by
          have hj' : j < mm := by
            rcases Nat.lt_or_ge j mm with h | h
            · exact h
            · rw [List.getElem?_eq_none (by simpa using h)] at hj; cases hj
          have : v = .int .u64 y := List.eq_of_mem_replicate (List.mem_of_getElem? hj)
          subst this
          rw [Addr.add_lit, Nat.zero_add]
          exact M.out.1.cell (by simpa using rep28_at y k j (by omega) (by omega))) (by rw [rep28_len _ _ (by omega), List.length_replicate]; omega) (rep_one y _)
      rw [rep28_splice y k _ (by omega)] at k2
      rw [List.length_replicate] at hc2
      clear hmd
      have K2 := Lib.hid (And.intro k2 (b2 w.heap.size w ⟨M.out.2.os, M.out.2.tape, M.out.2.output, M.out.2.size, M.out.2.block⟩ (Nat.le_refl _)))
      clear k2 b2
      have i4 : IntKind.i64.wrap ((k : Int) + (mm : Int)) = (k : Int) + (mm : Int) := IntWalk.i64_in _ (by omega)
      go_region
      all_goals go_wp2_with fail
      go_roundw
      case rel => exact ⟨k + mm, by omega, by omega, by go_num, K2.out⟩
      case measure => simp [intOf]; omega
    · obtain rfl : k = 28 := by omega
      clear hm1 hm2
      rw [show ((28 : Nat) : Int) = 28 from rfl]
      go_wp2_with fail
      go_ret
      exact ⟨rfl, M.out⟩
end
end Go.Proofs.Ytkoijmoendepgaa
