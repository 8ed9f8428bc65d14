/- The reference's Pack at names, and Tag. -/
import Derived.Test.YtmfchlliechikaaGreatDoorRtO
import Derived.Test.YtmfchlliechikaaGreatDoorRtU
namespace Go.Proofs.YtmfchlliechikaaGreatDoor
open Go.RowKit Go.Maps
attribute [local go_sem ↓] Go.wp_at_zero Go.wp_at_succ

/-- The words of the first k bytes. -/
def pw (l : List UInt8) (k : Nat) : List Nat := (List.range ((k + 7) / 8)).map fun i => pkN (((l.take k).drop (8 * i)).take 8)
theorem pw_len (l : List UInt8) (k : Nat) : (pw l k).length = (k + 7) / 8 := by simp [pw]
theorem pw_get (l : List UInt8) (k j : Nat) (hj : j < (k + 7) / 8) : (pw l k)[j]? = some (pkN (((l.take k).drop (8 * j)).take 8)) := by
  unfold pw
  rw [List.getElem?_map, List.getElem?_range hj]; rfl
/-- The words ahead of byte k. -/
def pd (l : List UInt8) (k : Nat) : List Nat := if k % 8 = 0 then pw l k ++ [0] else pw l k
theorem pd_len (l : List UInt8) (k : Nat) : (pd l k).length = k / 8 + 1 := by
  unfold pd
  split
  · rw [List.length_append, pw_len]; simp; omega
  · rw [pw_len]; omega
theorem take_eq (l : List UInt8) (k j : Nat) (h : 8 * j + 8 ≤ k) : ((l.take (k + 1)).drop (8 * j)).take 8 = ((l.take k).drop (8 * j)).take 8 := by
  rw [List.drop_take, List.drop_take, List.take_take, List.take_take, Nat.min_eq_left (by omega), Nat.min_eq_left (by omega)]
theorem pd_at (l : List UInt8) (k : Nat) : (pd l k)[k / 8]? = some (pkN ((l.take k).drop (8 * (k / 8)))) := by
  unfold pd
  split
  · rw [List.getElem?_append_right (by rw [pw_len]; omega), pw_len, show k / 8 - (k + 7) / 8 = 0 by omega]
    rw [List.drop_eq_nil_of_le (by rw [List.length_take]; omega)]
    rfl
  · rw [pw_get _ _ _ (by omega), List.take_of_length_le (by rw [List.length_drop, List.length_take]; omega)]
theorem pd_step (l : List UInt8) (k : Nat) (hk : k < l.length) : (pd l k).set (k / 8) (pkN ((l.take k).drop (8 * (k / 8))) + (l.getD k 0).toNat * 256 ^ (k % 8)) = pw l (k + 1) := by
  apply List.ext_getElem?
  intro j
  rw [List.getElem?_set]
  by_cases hj : k / 8 = j
  · rw [if_pos hj, if_pos (by rw [pd_len]; omega), pw_get _ _ _ (by omega)]
    rw [← hj]
    congr 1
    have e1 : l.take (k + 1) = l.take k ++ [l.getD k 0] := by
      rw [List.take_add_one, List.getElem?_eq_getElem hk, List.getD_eq_getElem?_getD, List.getElem?_eq_getElem hk]; rfl
    have e2 : (l.take k).length = k := by rw [List.length_take]; omega
    have e3 : ((l.take k ++ [l.getD k 0]).drop (8 * (k / 8))).take 8 = (l.take k).drop (8 * (k / 8)) ++ [l.getD k 0] := by
      rw [List.drop_append_of_le_length (by omega)]
      exact List.take_of_length_le (by rw [List.length_append, List.length_drop, e2, List.length_singleton]; omega)
    rw [e1, e3, pkN_snoc, List.length_drop, e2, show k - 8 * (k / 8) = k % 8 by omega]
  · rw [if_neg hj]
    rcases Nat.lt_or_ge j (k / 8) with h | h
    · rw [pw_get _ _ _ (by omega), take_eq _ _ _ (by omega)]
      unfold pd
      split
      · rw [List.getElem?_append_left (by rw [pw_len]; omega), pw_get _ _ _ (by omega)]
      · rw [pw_get _ _ _ (by omega)]
    · rw [List.getElem?_eq_none (by rw [pd_len]; omega), List.getElem?_eq_none (by rw [pw_len]; omega)]
theorem pd_lt (l : List UInt8) (k : Nat) : pkN ((l.take k).drop (8 * (k / 8))) < 256 ^ (k % 8) := by
  refine Nat.lt_of_lt_of_le (pkN_lt _) (Nat.pow_le_pow_right (by omega) ?_)
  rw [List.length_drop, List.length_take]
  omega
theorem pw_last (l : List UInt8) : ∀ x ∈ pw l l.length, x < 18446744073709551616 := by
  intro x hx
  unfold pw at hx
  obtain ⟨i, _, rfl⟩ := List.mem_map.1 hx
  exact pkN_lt8 (by rw [List.length_take]; omega)
theorem byte_shl (x c r : Nat) (hx : x < 256 ^ r) (hc : c < 256) (hr : r < 8) : x + c * 256 ^ r < 18446744073709551616 ∧ c * 256 ^ r < 18446744073709551616 := by
  have h1 : x + c * 256 ^ r < 256 ^ (r + 1) := by
    rw [Nat.pow_succ, Nat.mul_comm (256 ^ r) 256]
    have : c * 256 ^ r ≤ 255 * 256 ^ r := Nat.mul_le_mul_right _ (by omega)
    omega
  have h2 : 256 ^ (r + 1) ≤ 256 ^ 8 := Nat.pow_le_pow_right (by omega) (by omega)
  have h3 : (256 : Nat) ^ 8 = 18446744073709551616 := by decide
  omega
section
variable {w wr : World} {B : Nat} {e : TypeId} {size n c i : Nat} {a : Option Addr} {xs : List Value}
theorem Acc.setQ (h : Acc w B wr e size (.slice a n c) n xs) (hi : i < n * size) (u : Value) :
    ∃ g o, a = some ⟨g, o, none⟩ ∧ wr.cell? ⟨g, o + i, none⟩ = xs[i]? ∧ wr.frozen? ⟨g, o + i, none⟩ = false ∧ Acc w B (wr.setCell ⟨g, o + i, none⟩ u) e size (.slice a n c) n (xs.set i u) := by
  obtain ⟨g, o, rfl, c1, f1, _, own⟩ := h.own.setQ hi u
  exact ⟨g, o, rfl, c1, f1, own, h.new, h.bel.setCell (h.new g rfl) _, by have := h.lt; simpa using this⟩
end
section
variable {w : World}
set_option maxRecDepth 100000 in
set_option maxHeartbeats 4000000 in
theorem r01Pack_any (sv : Value) (l : List UInt8) (h : RdSl w 1 sv l.length ((List.range l.length).map fun i => .int .u8 (bI l i))) (hl : l.length ≤ 16) :
    Calls Tryz.prog 83 #[sv] w fun r w' => ∃ ov, r = .returned ov ∧ Acc w w.heap.size w' 32 1 ov ((l.length + 7) / 8) (natsU (pw l l.length)) := by
  obtain ⟨_, sa, sc, rfl, hsc, h2⟩ := h
  have HR := Lib.hid h2
  obtain ⟨i0, hi0, hz0, hz1, hz2⟩ := info_parts infoU64
  have I := Lib.hid (And.intro hi0 (And.intro hz0 (And.intro hz1 hz2))); clear hi0 hz0 hz1 hz2
  have A0 : Hid (Acc w w.heap.size w 32 1 (.slice none 0 0) ((0 + 7) / 8) (natsU (pw l 0))) := Acc.nil _ _ _ _ _ (Below.refl _ _) (Nat.le_refl _)
  have HST := Lib.hid (fun k h => pd_step l k h)
  obtain ⟨N, hN⟩ : ∃ N, l.length = N := ⟨_, rfl⟩
  rw [hN] at HR HST ⊢
  have HN := Lib.hid hN
  have hN16 : N ≤ 16 := by omega
  clear h2 hN hl
  go_enter Tryz.func83, Tryz.ntmps83
  go_wp2_with fail
  go_loopw [3, 4] (fun ov y wr => ∃ k : Nat, k ≤ N ∧ y = .int .i64 k ∧ Acc w w.heap.size wr 32 1 ov ((k + 7) / 8) (natsU (pw l k))) (fun _ y _ => N - (intOf y).toNat)
  case atStart => exact ⟨0, by omega, rfl, A0.out⟩
  case round =>
    clear A0
    obtain ⟨k, hk, rfl, hA⟩ := hrel
    have A := Lib.hid hA
    clear hA
    by_cases hlt : k < N
    · have hlt' : (k : Int) < N := by omega
      obtain ⟨oa, oc, rfl⟩ := A.out.slice
      by_cases hm : k % 8 = 0
      · have hm' : ((k : Int) % 8 == 0) = true := by simp; omega
        have HPD : Hid (natsU (pw l k) ++ natsU [0] = natsU (pd l k)) := by
          show _ = _
          unfold pd
          rw [if_pos hm]
          unfold natsU
          rw [List.map_append]
        have HK8 : Hid ((k + 7) / 8 + 1 = k / 8 + 1) := by show _ = _; omega
        clear hm
        go_wp2_with (at_builtin; refine wpList_append_sl _ rfl _ _ 44 rfl 32 i0 _ 1 8 Tryz.underlying44 I.out.1 I.out.2.1 I.out.2.2.1 I.out.2.2.2 rfl (by decide) _ ((k + 7) / 8) (natsU (pw l k)) rfl (by exact A.out.own.alloc _) _ 1 (natsU [0]) rfl (by exact RdSl.newAt _ _ _ 1 1 _ (by simp) rfl) (natsU_one _) (by unfold maxLen; omega) (by omega) ?_)
        intro v1 w6 o1 g1 n1 m1
        have A4 := A.out.next (m := 1) (below_alloc wr _) o1 g1 n1 (by simp)
        have A3' := A4.congr HK8.out HPD.out
        obtain ⟨a1, cc1, rfl⟩ := A3'.slice
        have A3 := Lib.hid A3'
        clear o1 g1 n1 m1 A4 A3' A HPD HK8
        obtain ⟨g, o, rfl, c1, f1, _⟩ := A3.out.setQ (i := k / 8) (by omega) (.int .u8 0)
        have hpd := pd_at l k
        rw [show (natsU (pd l k))[k / 8]? = some (.int .u64 (pkN ((l.take k).drop (8 * (k / 8))) : Nat)) by unfold natsU; rw [List.getElem?_map, hpd]; rfl] at c1
        have hx : ((List.range N).map fun i => Value.int .u8 (bI l i))[k]? = some (.int .u8 (bI l k)) := by rw [List.getElem?_map, List.getElem?_range hlt]; rfl
        obtain ⟨bb, bo, rfl, h3⟩ := rd_at HR.out hx
        have c2 := (A3.out.bel.cell (p := ⟨bb, bo + k, none⟩) (World.block_lt_of_cell? _ _ (h3 k _ hx))).trans (h3 k _ hx)
        have hxb := pd_lt l k
        have hst := HST.out k hlt
        unfold bI at c2
        generalize pkN ((l.take k).drop (8 * (k / 8))) = x at *
        have hcb := (l.getD k 0).toNat_lt
        generalize (l.getD k 0).toNat = c at *
        have HFIN : Hid (Acc w w.heap.size (w6.setCell ⟨g, o + k / 8, none⟩ (.int .u64 ((x : Int) + ((c * 256 ^ (k % 8) : Nat) : Int)))) 32 1 (.slice (some ⟨g, o, none⟩) (k / 8 + 1) cc1) (k / 8 + 1) (natsU (pw l (k + 1)))) := by
          obtain ⟨g1, o1, e1, _, _, hf⟩ := A3.out.setQ (i := k / 8) (by omega) (.int .u64 ((x : Int) + ((c * 256 ^ (k % 8) : Nat) : Int)))
          cases e1
          refine hf.congr rfl ?_
          rw [← hst]
          unfold natsU
          rw [List.map_set, Int.natCast_add]
        obtain ⟨d, hd⟩ : ∃ d, k / 8 = d := ⟨_, rfl⟩
        obtain ⟨r, hr⟩ : ∃ r, k % 8 = r := ⟨_, rfl⟩
        have q6 : (k : Int) / 8 = d := by omega
        have q7 : (k : Int) % 8 = r := by omega
        have hr8 : r < 8 := by omega
        have hd8 : d ≤ 2 := by omega
        have HKD : Hid (k / 8 = d) := hd
        rw [hd] at c1 f1 HFIN ⊢
        rw [hr] at hxb HFIN
        obtain ⟨hs1, hs2⟩ := byte_shl x c r hxb (by omega) hr8
        have w1 : IntKind.i64.wrap (8 * (r : Int)) = 8 * (r : Int) := IntWalk.i64_in _ (by omega)
        have w2 : IntKind.u64.wrap ((c : Int) * 2 ^ (8 * r)) = ((c * 256 ^ r : Nat) : Int) := by
          have e : (c : Int) * 2 ^ (8 * r) = ((c * 256 ^ r : Nat) : Int) := by
            rw [Int.natCast_mul, show (256 : Nat) = 2 ^ 8 from rfl, ← Nat.pow_mul]; simp
          rw [e]
          exact IntWalk.u64_in _ (by omega)
        obtain ⟨y, hy⟩ : ∃ y, c * 256 ^ r = y := ⟨_, rfl⟩
        rw [hy] at w2 hs1 hs2 HFIN
        have q8 : (0 : Int) ≤ d := by omega
        have q9 : (d : Int) < ((d + 1 : Nat) : Int) := by omega
        clear hpd hx h3 hst hxb hd hr hy A3
        go_wp2_with fail
        go_region
        go_wp2_with fail
        go_roundw
        case rel => exact ⟨k + 1, by omega, by go_num, by rw [show (k + 1 + 7) / 8 = d + 1 by have := HKD.out; omega]; exact HFIN.out.drew⟩
        case measure => simp [intOf]; omega
      · have hm' : ((k : Int) % 8 == 0) = false := by simp; omega
        have A3 : Hid (Acc w w.heap.size wr 32 1 (.slice oa ((k + 7) / 8) oc) (k / 8 + 1) (natsU (pd l k))) := by
          have := A.out
          exact this.congr (by omega) (by unfold pd; rw [if_neg hm])
        rw [show (k + 7) / 8 = k / 8 + 1 by omega] at A3 ⊢
        clear hm
        obtain ⟨g, o, rfl, c1, f1, _⟩ := A3.out.setQ (i := k / 8) (by omega) (.int .u8 0)
        have hpd := pd_at l k
        rw [show (natsU (pd l k))[k / 8]? = some (.int .u64 (pkN ((l.take k).drop (8 * (k / 8))) : Nat)) by unfold natsU; rw [List.getElem?_map, hpd]; rfl] at c1
        have hx : ((List.range N).map fun i => Value.int .u8 (bI l i))[k]? = some (.int .u8 (bI l k)) := by rw [List.getElem?_map, List.getElem?_range hlt]; rfl
        obtain ⟨bb, bo, rfl, h3⟩ := rd_at HR.out hx
        have c2 := (A3.out.bel.cell (p := ⟨bb, bo + k, none⟩) (World.block_lt_of_cell? _ _ (h3 k _ hx))).trans (h3 k _ hx)
        have hxb := pd_lt l k
        have hst := HST.out k hlt
        unfold bI at c2
        generalize pkN ((l.take k).drop (8 * (k / 8))) = x at *
        have hcb := (l.getD k 0).toNat_lt
        generalize (l.getD k 0).toNat = c at *
        have HFIN : Hid (Acc w w.heap.size (wr.setCell ⟨g, o + k / 8, none⟩ (.int .u64 ((x : Int) + ((c * 256 ^ (k % 8) : Nat) : Int)))) 32 1 (.slice (some ⟨g, o, none⟩) (k / 8 + 1) oc) (k / 8 + 1) (natsU (pw l (k + 1)))) := by
          obtain ⟨g1, o1, e1, _, _, hf⟩ := A3.out.setQ (i := k / 8) (by omega) (.int .u64 ((x : Int) + ((c * 256 ^ (k % 8) : Nat) : Int)))
          cases e1
          refine hf.congr rfl ?_
          rw [← hst]
          unfold natsU
          rw [List.map_set, Int.natCast_add]
        obtain ⟨d, hd⟩ : ∃ d, k / 8 = d := ⟨_, rfl⟩
        obtain ⟨r, hr⟩ : ∃ r, k % 8 = r := ⟨_, rfl⟩
        have q6 : (k : Int) / 8 = d := by omega
        have q7 : (k : Int) % 8 = r := by omega
        have hr8 : r < 8 := by omega
        have hd8 : d ≤ 2 := by omega
        have HKD : Hid (k / 8 = d) := hd
        rw [hd] at c1 f1 HFIN ⊢
        rw [hr] at hxb HFIN
        obtain ⟨hs1, hs2⟩ := byte_shl x c r hxb (by omega) hr8
        have w1 : IntKind.i64.wrap (8 * (r : Int)) = 8 * (r : Int) := IntWalk.i64_in _ (by omega)
        have w2 : IntKind.u64.wrap ((c : Int) * 2 ^ (8 * r)) = ((c * 256 ^ r : Nat) : Int) := by
          have e : (c : Int) * 2 ^ (8 * r) = ((c * 256 ^ r : Nat) : Int) := by
            rw [Int.natCast_mul, show (256 : Nat) = 2 ^ 8 from rfl, ← Nat.pow_mul]; simp
          rw [e]
          exact IntWalk.u64_in _ (by omega)
        obtain ⟨y, hy⟩ : ∃ y, c * 256 ^ r = y := ⟨_, rfl⟩
        rw [hy] at w2 hs1 hs2 HFIN
        have q8 : (0 : Int) ≤ d := by omega
        have q9 : (d : Int) < ((d + 1 : Nat) : Int) := by omega
        clear hpd hx h3 hst hxb hd hr hy A A3
        go_wp2_with fail
        go_region
        go_wp2_with fail
        go_roundw
        case rel => exact ⟨k + 1, by omega, by go_num, by rw [show (k + 1 + 7) / 8 = d + 1 by have := HKD.out; omega]; exact HFIN.out.drew⟩
        case measure => simp [intOf]; omega
    · obtain rfl : k = N := by omega
      go_wp2_with fail
      go_ret
      exact ⟨_, rfl, A.out⟩
end
end Go.Proofs.YtmfchlliechikaaGreatDoor

/- The reference's Tag. -/
namespace Go.Proofs.YtmfchlliechikaaGreatDoor
open Go.RowKit Go.Maps
attribute [local go_sem ↓] Go.wp_at_zero Go.wp_at_succ

def slLen : Value → Nat | .slice _ n _ => n | _ => 0
theorem pw_name (l : List UInt8) (h1 : 1 ≤ l.length) (h2 : l.length ≤ 16) : ((l.length + 7) / 8 = 1 ∧ pw l l.length = [pk0 l] ∧ pk1 l = 0) ∨ ((l.length + 7) / 8 = 2 ∧ pw l l.length = [pk0 l, pk1 l]) := by
  have ht : l.take l.length = l := List.take_length
  by_cases h : l.length ≤ 8
  · left
    have e : (l.length + 7) / 8 = 1 := by omega
    refine ⟨e, ?_, ?_⟩
    · unfold pw
      rw [e, ht]
      rfl
    · unfold pk1
      rw [List.drop_eq_nil_of_le h]
      rfl
  · right
    have e : (l.length + 7) / 8 = 2 := by omega
    refine ⟨e, ?_⟩
    unfold pw
    rw [e, ht]
    rfl
section
variable {w : World}
set_option maxRecDepth 100000 in
set_option maxHeartbeats 8000000 in
theorem r14Tag_any (s : ByteArray) (h1 : 1 ≤ s.toList.length) (h2 : s.toList.length ≤ 16) (p : Int) : Calls Tryz.prog 52 #[.string s, .int .u64 p] w fun r w' => r = .returned (.agg #[.int .u64 (pk0 s.toList : Nat), .int .u64 (pk1 s.toList : Nat), .int .u64 p, .int .u64 (tagN (pk0 s.toList) (pk1 s.toList) : Nat)]) ∧ Below w.heap.size w w' := by
  have HPK := Lib.hid (fun (wx : World) sv h => r01Pack_any (w := wx) sv s.toList h h2)
  have HRD := Lib.hid (fun wx => bytes_rd wx 5 s)
  have hcv := fun (wx : World) => Lib.run_convert_string_bytes (P := Tryz.prog) wx 9 95 5 s Tryz.underlying9 Tryz.underlying95 Tryz.underlying5
  have hz0 := pk0_lt s.toList
  have hz1 := pk1_lt s.toList
  have HSM := Lib.hid (fun (wx : World) sv hr => sum13_any (w := wx) sv [pk0 s.toList, pk1 s.toList] hr (by simp) (by simp; omega))
  have HPW := Lib.hid (pw_name s.toList h1 h2)
  have HTG : Hid (((tagN (pk0 s.toList) (pk1 s.toList) : Nat) : Int) = 4294967296 + ((crcN [pk0 s.toList, pk1 s.toList] : Nat) : Int)) := by show _ = _; unfold tagN; omega
  have htl := tagN_lt (pk0 s.toList) (pk1 s.toList)
  obtain ⟨i0, hi0, hz0', hz1', hz2'⟩ := info_parts infoU64
  have I := Lib.hid (And.intro hi0 (And.intro hz0' (And.intro hz1' hz2'))); clear hi0 hz0' hz1' hz2'
  have K0 := Lib.hid (Blk.new w #[.int .u64 0, .int .u64 0, .int .u64 0, .int .u64 0] 33)
  have B0 := Lib.hid (below_alloc w (.cells #[.int .u64 0, .int .u64 0, .int .u64 0, .int .u64 0] 33))
  have HCV := Lib.hid hcv
  rw [← str_len] at HCV HRD
  generalize pw s.toList s.toList.length = pwl at *
  generalize hnn : (s.toList.length + 7) / 8 = nn at *
  generalize pk0 s.toList = x0 at *
  generalize pk1 s.toList = x1 at *
  generalize tagN x0 x1 = tg at *
  clear hcv h1 h2 hnn
  go_enter Tryz.func52, Tryz.ntmps52
  have hcv := HCV.out (w.alloc (.cells #[.int .u64 0, .int .u64 0, .int .u64 0, .int .u64 0] 33))
  have r1 := HRD.out (w.alloc (.cells #[.int .u64 0, .int .u64 0, .int .u64 0, .int .u64 0] 33))
  simp only [World.size_alloc] at r1
  have R1 := Lib.hid r1
  clear r1
  have B1 := Lib.hid (B0.out.trans ((below_bytes (w.alloc (.cells #[.int .u64 0, .int .u64 0, .int .u64 0, .int .u64 0] 33)) 5 s).mono B0.out.size))
  have K1 := Lib.hid (K0.out.below (below_bytes (w.alloc (.cells #[.int .u64 0, .int .u64 0, .int .u64 0, .int .u64 0] 33)) 5 s))
  generalize Lib.bytesWorld (w.alloc (.cells #[.int .u64 0, .int .u64 0, .int .u64 0, .int .u64 0] 33)) 5 s = w1 at *
  clear HCV HRD
  go_wp2_with fail
  clear hcv
  (with_reducible refine (HPK.out _ _ R1.out).mono ?_)
  rintro r w2 ⟨ov, rfl, a2⟩
  have A2 := Lib.hid a2
  clear a2 R1 HPK
  have C2 : Hid (∃ q : Nat, slLen ov = q ∧ Acc w1 w1.heap.size w2 32 1 ov q (natsU ([x0, x1].take q)) ∧ 1 ≤ q ∧ q ≤ 2 ∧ (q = 1 → x1 = 0)) := by
    obtain ⟨a, c, hov⟩ := A2.out.slice
    rcases HPW.out with ⟨e, ep, ez⟩ | ⟨e, ep⟩
    · exact ⟨1, by rw [hov, e]; rfl, A2.out.congr e (by rw [ep]; rfl), by omega, by omega, fun _ => ez⟩
    · exact ⟨2, by rw [hov, e]; rfl, A2.out.congr e (by rw [ep]; rfl), by omega, by omega, fun h => by omega⟩
  clear A2 HPW
  have K1' := Lib.hid K1.out.lt
  go_wp2_with fail
  go_loopw [5] (fun ov wr => ∃ q : Nat, slLen ov = q ∧ Acc w1 w1.heap.size wr 32 1 ov q (natsU ([x0, x1].take q)) ∧ 1 ≤ q ∧ q ≤ 2 ∧ (q = 1 → x1 = 0)) (fun ov _ => 2 - slLen ov)
  case atStart => exact C2.out
  case round =>
    obtain ⟨q, hq, ha, hq1, hq2, hqz⟩ := hrel
    have A := Lib.hid ha
    clear ha C2
    obtain ⟨oa, oc, rfl⟩ := A.out.slice
    by_cases hlt : q = 1
    · obtain rfl := hlt
      have HZ := Lib.hid (hqz rfl)
      clear hqz hq1 hq2 hq
      go_wp2_with (at_builtin; refine wpList_append_sl _ rfl _ _ 44 rfl 32 i0 _ 1 8 Tryz.underlying44 I.out.1 I.out.2.1 I.out.2.2.1 I.out.2.2.2 rfl (by decide) _ 1 (natsU ([x0, x1].take 1)) rfl (by exact A.out.own.alloc _) _ 1 (natsU [0]) rfl (by exact RdSl.newAt _ _ _ 1 1 _ (by simp) rfl) (natsU_one _) (by unfold maxLen; omega) (by omega) ?_)
      intro v1 w6 o1 g1 n1 m1
      have a4 := A.out.next (m := 1) (below_alloc wr _) o1 g1 n1 (by simp)
      obtain ⟨a6, c6, rfl⟩ := a4.slice
      have A4 := Lib.hid a4
      clear a4 o1 g1 n1 m1 A
      go_wp2_with fail
      go_roundw
      case rel => exact ⟨2, rfl, A4.out.congr rfl (by rw [HZ.out]; rfl), by omega, by omega, fun h => by omega⟩
      case measure => exact (by decide : (2 : Nat) - 2 < 2 - 1)
    · obtain rfl : q = 2 := by omega
      clear hqz hq1 hq2 hq hlt
      have RD : Hid (RdSl wr 1 (.slice oa 2 oc) 2 (natsU [x0, x1])) := A.out.rd
      obtain ⟨_, _, _, e', _, hE⟩ := A.out.rd
      cases e'
      obtain ⟨g, o, rfl, hE2⟩ := rd_at (k := 0) (u := .int .u64 (x0 : Nat)) hE rfl
      have c0 : wr.cell? ⟨g, o, none⟩ = some (.int .u64 (x0 : Nat)) := hE2 0 _ rfl
      have c1 : wr.cell? ⟨g, o + 1, none⟩ = some (.int .u64 (x1 : Nat)) := hE2 1 _ rfl
      have K := Lib.hid (K1.out.below A.out.bel)
      have k0 := K.out.cell (i := 0) (v := .int .u64 0) rfl
      have k1 := K.out.cell (i := 1) (v := .int .u64 0) rfl
      have k2 := K.out.cell (i := 2) (v := .int .u64 0) rfl
      have k3 := K.out.cell (i := 3) (v := .int .u64 0) rfl
      have f0 := K.out.frozen 0; have f1 := K.out.frozen 1; have f2 := K.out.frozen 2; have f3 := K.out.frozen 3
      have BB := Lib.hid (B1.out.trans (A.out.bel.mono B1.out.size))
      have tgv := HTG.out
      have w9 : IntKind.u64.wrap (4294967296 + ((crcN [x0, x1] : Nat) : Int)) = (tg : Int) := by rw [← tgv]; exact IntWalk.u64_in _ (by omega)
      generalize crcN [x0, x1] = cr at *
      clear hE hE2 tgv
      go_upto_region 4 with fail
      go_region_with (go_at_call 84; (with_reducible refine (HSM.out _ _ ?hr).mono ?_); (case hr => first | exact RD.out.drew | exact RD.out); rintro e w' ⟨rfl, rfl⟩)
      all_goals
        go_wp2_with fail
        have K5 := (((((K.out.set 0 (.int .u64 (x0 : Nat))).set 1 (.int .u64 (x1 : Nat))).set 2 (.int .u64 p)).set 3 (.int .u64 (tg : Nat))).drew)
        have r0 := K5.cell (i := 0) (v := .int .u64 (x0 : Nat)) rfl
        have r1 := K5.cell (i := 1) (v := .int .u64 (x1 : Nat)) rfl
        have r2 := K5.cell (i := 2) (v := .int .u64 p) rfl
        have r3 := K5.cell (i := 3) (v := .int .u64 (tg : Nat)) rfl
        refine bodyPost_ret (v := .agg #[.int .u64 (x0 : Nat), .int .u64 (x1 : Nat), .int .u64 p, .int .u64 (tg : Nat)]) (by simp [results, Tryz.results52, go_sem, r0, r1, r2, r3]) rfl ⟨rfl, ?_⟩
        exact ((((BB.out.setCell (Nat.le_refl _) _).setCell (Nat.le_refl _) _).setCell (Nat.le_refl _) _).setCell (Nat.le_refl _) _).drew
end
end Go.Proofs.YtmfchlliechikaaGreatDoor
