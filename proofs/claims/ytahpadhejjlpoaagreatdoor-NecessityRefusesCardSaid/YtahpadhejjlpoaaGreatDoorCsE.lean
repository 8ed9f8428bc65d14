/- Package image: New, Lines, Bytes, Device. -/
import Derived.Test.YtahpadhejjlpoaaGreatDoorDevI
import Derived.Test.YtahpadhejjlpoaaGreatDoorShelf
import Derived.Laws.BytesArg
import Derived.Lib.ConvBytes
namespace Go.Proofs.YtahpadhejjlpoaaGreatDoor
open Go.RowKit
attribute [local go_sem ↓] Go.wp_at_zero Go.wp_at_succ

theorem strLen2 (s : ByteArray) : s.toList.length = s.size := by rw [ByteArray.toList_eq]; exact Array.length_toList
theorem below_bytes2 (w : World) (e : TypeId) (s : ByteArray) : Below w.heap.size w (Lib.bytesWorld w e s) :=
  ⟨rfl, rfl, rfl, by rw [Lib.bytesWorld_size]; omega, fun k hk => Lib.bytesWorld_at_old w e s k hk⟩
/-- The bytes of a string are those of some words. -/
def ImgS (s : ByteArray) (n : Nat) (F : Nat → Int) : Prop := s.size = 64 * n ∧ ∀ j, j < 64 * n → (((s.toList.getD j 0).toNat : Nat) : Int) = byteAt F j
theorem byteAt_bdC (F : Nat → Int) (i : Nat) : 0 ≤ byteAt F i ∧ byteAt F i < 256 := by
  unfold byteAt
  exact ⟨Int.emod_nonneg _ (by omega), Int.emod_lt_of_pos _ (by omega)⟩
theorem imgS_made (n : Nat) (F : Nat → Int) : ImgS (strOfNums ((List.range (64 * n)).map fun i => byteAt F i)) n F := by
  refine ⟨by rw [strOfNums_size]; simp, fun j hj => ?_⟩
  have h : ((strOfNums ((List.range (64 * n)).map fun i => byteAt F i)).toList)[j]? = some (UInt8.ofNat (byteAt F j).toNat) := by
    rw [ByteArray.toList_eq, strOfNums_data, List.getElem?_map, List.getElem?_map, List.getElem?_range hj]
    rfl
  obtain ⟨b0, b1⟩ := byteAt_bdC F j
  rw [List.getD_eq_getElem?_getD, h, Option.getD_some, UInt8.toNat_ofNat']
  omega
theorem imgS_rd {s : ByteArray} {n : Nat} {F : Nat → Int} (h : ImgS s n F) (w : World) : RdSl (Lib.bytesWorld w 5 s) 1 (.slice (some ⟨w.heap.size, 0, none⟩) s.size (grownCap w s.size 0 5)) (64 * n) ((List.range (64 * n)).map fun i => .int .u8 (byteAt F i)) := by
  refine ⟨by simp, _, _, by rw [h.1], by rw [← h.1]; exact grownCap_ge _ _ _ _, .inr ⟨_, _, rfl, fun j u hu => ?_⟩⟩
  rw [List.getElem?_map] at hu
  have hj : j < 64 * n := by
    rcases Nat.lt_or_ge j (64 * n) with h | h
    · exact h
    · rw [List.getElem?_eq_none (by simpa using h)] at hu; cases hu
  rw [List.getElem?_range hj] at hu
  cases hu
  show _ = some (Value.int .u8 (byteAt F j))
  rw [← h.2 j hj, Nat.zero_add, Lib.bytesWorld_cell w 5 s j (by rw [h.1]; exact hj), ← ByteArray.toList_eq]
section
variable {w : World}
set_option maxRecDepth 100000 in
set_option maxHeartbeats 2000000 in
theorem imNew_any {g n : Nat} {F : Nat → Int} (h : Row w g (64 * n) 5 (fun i => .int .u8 (byteAt F i))) (hn : n ≤ 4096) :
    Calls Tryz.prog 166 #[.slice (some ⟨g, 0, none⟩) (64 * n) (64 * n)] w fun r w' => ∃ s, r = .returned (.tuple #[.agg #[.string s], .int .i64 0]) ∧ ImgS s n F ∧ Below w.heap.size w w' := by
  have B0 := Lib.hid (below_alloc w (.cells #[.string ⟨#[]⟩] 71))
  have h1 := h.below B0.out
  have hcv := run_convert_bytes_arg (P := Tryz.prog) (w.alloc (.cells #[.string ⟨#[]⟩] 71)) 26 5 Tryz.underlying26 Tryz.underlying5 g 0 (64 * n) (64 * n) ((List.range (64 * n)).map fun i => byteAt F i) (by simp) (fun i hi => by
    rw [h1.cell (i := 0 + i) (by omega)]
    simp [List.getD, List.getElem?_map, List.getElem?_range hi]) 9 Tryz.underlying9
  have hs := imgS_made n F
  generalize strOfNums ((List.range (64 * n)).map fun i => byteAt F i) = s at hcv hs
  have HS := Lib.hid hs
  have K0 := Lib.hid (Blk.new w #[.string ⟨#[]⟩] 71)
  have q1 : ((64 * n : Nat) : Int) % 64 = 0 := by omega
  have q2 : ((64 * n : Nat) : Int) / 64 = n := by omega
  have q3 : ((64 * n : Nat) : Int).tmod 64 = 0 := by rw [Int.tmod_eq_emod_of_nonneg (by omega)]; exact q1
  have q4 : ((64 * n : Nat) : Int).tdiv 64 = n := by rw [Int.tdiv_eq_ediv_of_nonneg (by omega)]; exact q2
  have q5 : ¬ (4096 : Int) < n := by omega
  obtain ⟨N, hN⟩ : ∃ N, 64 * n = N := ⟨_, rfl⟩
  have hN2 : N ≤ 262144 := by omega
  rw [hN] at hcv q1 q2 q3 q4 ⊢
  clear h h1 hs hN
  go_enter Tryz.func166, Tryz.ntmps166
  go_wp2_with fail
  refine bodyPost_ret (v := .tuple #[.agg #[.string s], .int .i64 0]) (by simp [results, Tryz.results166, go_sem]) rfl ⟨s, rfl, HS.out, ?_⟩
  exact below_alloc _ _
set_option maxRecDepth 100000 in
set_option maxHeartbeats 2000000 in
theorem imLines_any {s : ByteArray} {n : Nat} {F : Nat → Int} (h : ImgS s n F) (hn : n ≤ 4096) :
    Calls Tryz.prog 105 #[.agg #[.string s]] w fun r w' => r = .returned (.int .i64 n) ∧ Below w.heap.size w w' := by
  have B0 := Lib.hid (below_alloc w (.cells #[.string s] 71))
  have K0 := Lib.hid (Blk.new w #[.string s] 71)
  have hsz := h.1
  have q2 : ((64 * n : Nat) : Int) / 64 = n := by omega
  have q4 : ((64 * n : Nat) : Int).tdiv 64 = n := by rw [Int.tdiv_eq_ediv_of_nonneg (by omega)]; exact q2
  rw [← hsz] at q2 q4
  clear h hsz
  go_enter Tryz.func105, Tryz.ntmps105
  go_wp2_with fail
  go_ret
  exact ⟨rfl, B0.out⟩
set_option maxRecDepth 100000 in
set_option maxHeartbeats 2000000 in
theorem imBytes_any {s : ByteArray} {n : Nat} {F : Nat → Int} (h : ImgS s n F) (_ : n ≤ 4096) :
    Calls Tryz.prog 106 #[.agg #[.string s]] w fun r w' => ∃ sv, r = .returned sv ∧ RdSl w' 1 sv (64 * n) ((List.range (64 * n)).map fun i => .int .u8 (byteAt F i)) ∧ Below w.heap.size w w' := by
  have B0 := Lib.hid (below_alloc w (.cells #[.string s] 71))
  have K0 := Lib.hid (Blk.new w #[.string s] 71)
  have hcv := fun (wx : World) => Lib.run_convert_string_bytes (P := Tryz.prog) wx 9 26 5 s Tryz.underlying9 Tryz.underlying26 Tryz.underlying5
  have HRD := Lib.hid (fun wx => imgS_rd h wx)
  have HB := Lib.hid (fun wx => below_bytes2 wx 5 s)
  clear h
  go_enter Tryz.func106, Tryz.ntmps106
  go_wp2_with fail
  go_ret
  have R := HRD.out (w.alloc (.cells #[.string s] 71))
  rw [World.size_alloc] at R
  exact ⟨_, rfl, R, B0.out.trans ((HB.out _).mono B0.out.size)⟩
set_option maxRecDepth 100000 in
set_option maxHeartbeats 2000000 in
theorem imDevice_any {s : ByteArray} {n : Nat} {F : Nat → Int} (h : ImgS s n F) (hn0 : 0 < n) (hn : n ≤ 4096) (hF : ∀ i, 0 ≤ F i ∧ F i < 18446744073709551616) :
    Calls Tryz.prog 27 #[.agg #[.string s]] w fun r w' => ∃ (v' : DV) (own' : Nat → Option Role), r = .returned (.tuple #[.pointer (some ⟨v'.db, 0, none⟩), .int .i64 0]) ∧
      (∃ f, (∀ i, i < 8 * n → f i = F i) ∧ IsDev w' v' own' (Dev.fresh n f)) ∧ (∀ k, own' k ≠ none → w.heap.size ≤ k) ∧ Below w.heap.size w w' := by
  have B0 := Lib.hid (below_alloc w (.cells #[.string s] 71))
  have K0 := Lib.hid (Blk.new w #[.string s] 71)
  have HL := Lib.hid (fun wx => imLines_any (w := wx) h hn)
  have HB := Lib.hid (fun wx => imBytes_any (w := wx) h hn)
  have HF := Lib.hid (fun wx sv hr => devFrom_any (w := wx) sv n (byteAt F) hr hn0 hn (fun i _ => byteAt_bdC F i))
  have HFF := Lib.hid hF
  have hn1 : ¬ (n : Int) = 0 := by omega
  clear h hF
  go_enter Tryz.func27, Tryz.ntmps27
  go_wp2_with fail
  (with_reducible refine (HL.out _).mono ?_)
  rintro r w1 ⟨rfl, b1⟩
  have B1 := Lib.hid (B0.out.trans (b1.mono B0.out.size))
  have c1 := (K0.out.below b1).cell (i := 0) rfl
  clear b1 K0
  go_wp2_with fail
  (with_reducible refine (HB.out _).mono ?_)
  rintro r w2 ⟨sv, rfl, r2, b2⟩
  have B2 := Lib.hid (B1.out.trans (b2.mono B1.out.size))
  have R2 := Lib.hid r2
  clear b2 r2
  go_wp2_with fail
  (with_reducible refine (HF.out _ _ R2.out).mono ?_)
  rintro r w3 ⟨v', own', rfl, h1, h2, h3⟩
  have R := Lib.hid (And.intro h1 (And.intro h2 h3)); clear h1 h2 h3
  go_wp2_with fail
  go_ret2
  exact ⟨v', own', rfl, ⟨_, fun i hi => by
    have := wordsOf_bytes F (8 * n) i hi (HFF.out i)
    rwa [show 8 * (8 * n) = 64 * n by omega] at this, R.out.1⟩, fun k hk => Nat.le_trans B2.out.size (R.out.2.1 k hk), B2.out.trans (R.out.2.2.mono B2.out.size)⟩
end
end Go.Proofs.YtahpadhejjlpoaaGreatDoor
