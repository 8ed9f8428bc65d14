/- The walks of an entry's name, of none, at, load and find of package root. -/
import Derived.Test.YtmfchlliechikaaGreatDoorRtB
namespace Go.Proofs.YtmfchlliechikaaGreatDoor
open Go.RowKit Go.Maps
attribute [local go_sem ↓] Go.wp_at_zero Go.wp_at_succ

/-- A name of two words as a string. -/
def nmS (x y : Nat) : ByteArray := ⟨(nmL x y).toArray⟩
theorem nmS_list (x y : Nat) : (nmS x y).toList = nmL x y := ByteArray.toList_mk _
/-- The string of an entry, empty for a free one. -/
def enS (x y t : Nat) : ByteArray := if t = 0 then ⟨#[]⟩ else nmS x y
section
variable {w : World}
set_option maxRecDepth 100000 in
set_option maxHeartbeats 2000000 in
theorem rtname_any (x y p t : Nat) (hx : x < 18446744073709551616) (hy : y < 18446744073709551616) : Calls Tryz.prog 49 #[.agg #[.int .u64 x, .int .u64 y, .int .u64 p, .int .u64 t]] w fun r w' => r = .returned (.tuple #[.string (enS x y t), .bool (t != 0)]) ∧ Below w.heap.size w w' := by
  have B0 := Lib.hid (below_alloc w (.cells #[.int .u64 x, .int .u64 y, .int .u64 p, .int .u64 t] 121))
  have HU := Lib.hid (wUnpack_any (.slice (some ⟨w.heap.size, 0, none⟩) 2 4) x y (words_rd (Blk.new w #[.int .u64 x, .int .u64 y, .int .u64 p, .int .u64 t] 121)) hx hy)
  have K0 := Lib.hid (Blk.new w #[.int .u64 x, .int .u64 y, .int .u64 p, .int .u64 t] 121)
  have hcv := fun (wx : World) (g : Nat) (h : Row wx g 16 5 (fun i => .int .u8 (byteAt (pairF x y) i))) => run_convert_bytes_arg (P := Tryz.prog) wx 95 5 Tryz.underlying95 Tryz.underlying5 g 0 16 16 ((List.range 16).map fun i => byteAt (pairF x y) i) (by simp) (fun i hi => by
    rw [h.cell (i := 0 + i) (by omega)]
    simp [List.getD, List.getElem?_map, List.getElem?_range hi]) 9 Tryz.underlying9
  have htr := fun (wx : World) => Tryz.strings_TrimRight_one (strOfNums ((List.range 16).map fun i => byteAt (pairF x y) i)) 0 (by decide) wx (by rw [strOfNums_size]; simp)
  rw [raw_bytes] at htr
  generalize strOfNums ((List.range 16).map fun i => byteAt (pairF x y) i) = rs at hcv htr
  have HTR : Hid (∀ wx : World, Calls Tryz.prog 81 #[.string rs, .string ⟨#[0]⟩] wx fun e w' => e = .returned (.string (nmS x y)) ∧ w' = wx) := htr
  have HCV := Lib.hid hcv
  have HEN : Hid (enS x y t = if t = 0 then ⟨#[]⟩ else nmS x y) := rfl
  generalize enS x y t = es at *
  generalize nmS x y = ns at *
  have hb : ((t : Int) != 0) = (t != 0) := by rw [Bool.eq_iff_iff]; simp
  have hb2 : ((t : Int) == 0) = !(t != 0) := by rw [Bool.eq_iff_iff]; simp
  rw [← hb]
  clear hcv htr hx hy
  by_cases h0 : t = 0
  · obtain rfl : es = ⟨#[]⟩ := by have := HEN.out; rw [if_pos h0] at this; exact this
    have hz : ((t : Int) == 0) = true := by simp; omega
    have hz2 : ((t : Int) != 0) = false := by simp; omega
    clear h0 hb hb2 HEN
    rw [hz2]
    go_enter Tryz.func49, Tryz.ntmps49
    go_wp2_with fail
    (with_reducible refine HU.out.mono ?_)
    rintro e w1 ⟨rfl, r1, b1⟩
    have B1 := Lib.hid (B0.out.trans (b1.mono B0.out.size))
    have c3 := (K0.out.below b1).cell (i := 3) rfl
    clear r1 b1 K0 B0
    go_wp2_with fail
    go_ret2
    exact ⟨rfl, B1.out⟩
  · obtain rfl : es = ns := by have := HEN.out; rw [if_neg h0] at this; exact this
    have hz : ((t : Int) == 0) = false := by simp; omega
    have hz2 : ((t : Int) != 0) = true := by simp; omega
    clear h0 hb hb2 HEN
    rw [hz2]
    go_enter Tryz.func49, Tryz.ntmps49
    go_wp2_with fail
    (with_reducible refine HU.out.mono ?_)
    rintro e w1 ⟨rfl, r1, b1⟩
    have B1 := Lib.hid (B0.out.trans (b1.mono B0.out.size))
    have c3 := (K0.out.below b1).cell (i := 3) rfl
    have hcv1 := HCV.out _ _ r1
    simp only [World.size_alloc] at hcv1
    clear r1 b1 K0 B0 HCV
    go_wp2_with fail
    (with_reducible refine (HTR.out _).mono ?_)
    rintro e w2 ⟨rfl, rfl⟩
    go_wp2_with fail
    go_ret2
    exact ⟨rfl, B1.out⟩
/-- A handle of a directory on thread j of a device. -/
structure DirAt (w : World) (b off : Nat) (m : Value) : Prop where
  blk : Blk w b #[m, .int .u64 off] 120
theorem DirAt.next {wx : World} {b off : Nat} {m : Value} (h : DirAt w b off m) (hb : Below w.heap.size w wx) : DirAt wx b off m := ⟨h.blk.below hb⟩
set_option maxRecDepth 100000 in
set_option maxHeartbeats 1000000 in
theorem rtnone_nil : Calls Tryz.prog 58 #[.pointer none] w fun r w' => r = .returned (.bool true) ∧ w = w' := by
  go_enter Tryz.func58, Tryz.ntmps58
  go_wp2_with fail
  go_ret
  exact ⟨rfl, rfl⟩
set_option maxRecDepth 100000 in
set_option maxHeartbeats 1000000 in
theorem rtnone_any {b off : Nat} {a : Addr} (h : DirAt w b off (.iface 42 (.pointer (some a)))) : Calls Tryz.prog 58 #[.pointer (some ⟨b, 0, none⟩)] w fun r w' => r = .returned (.bool false) ∧ w = w' := by
  have c0 := h.blk.cell (i := 0) rfl
  go_enter Tryz.func58, Tryz.ntmps58
  go_wp2_with fail
  go_ret
  exact ⟨rfl, rfl⟩
set_option maxRecDepth 100000 in
set_option maxHeartbeats 1000000 in
theorem rtat_any {b off : Nat} {m : Value} (h : DirAt w b off m) (e k : Nat) (he : e < 16) (hk : k < 4) (ho : off ≤ 262144) : Calls Tryz.prog 54 #[.pointer (some ⟨b, 0, none⟩), .int .i64 e, .int .i64 k] w fun r w' => r = .returned (.int .u64 ((off + 32 * e + 8 * k : Nat) : Int)) ∧ w = w' := by
  have c1 := h.blk.cell (i := 1) rfl
  obtain ⟨q, hq⟩ : ∃ q, off + 32 * e + 8 * k = q := ⟨_, rfl⟩
  have hq2 : (off : Int) + ((e : Int) * 4 + (k : Int)) * 8 = (q : Int) := by omega
  rw [hq]
  go_enter Tryz.func54, Tryz.ntmps54
  go_wp2_with fail
  go_ret
  first | exact ⟨rfl, rfl⟩ | exact ⟨ret_int (by omega), rfl⟩
end
end Go.Proofs.YtmfchlliechikaaGreatDoor
