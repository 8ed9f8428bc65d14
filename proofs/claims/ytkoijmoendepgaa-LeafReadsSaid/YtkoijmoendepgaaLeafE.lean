/- Pointers, and the entries of a node's content. -/
import Derived.Test.YtkoijmoendepgaaLeafC
import Derived.Test.YtkoijmoendepgaaTup
namespace Go.Proofs.Ytkoijmoendepgaa
open Go.RowKit

/-- Nothing but the count of draws has moved. -/
def Qt (w w' : World) : Prop := ∃ n, w' = w.drewN n
theorem Qt.refl (w : World) : Qt w w := ⟨0, rfl⟩
theorem Qt.below {w w' : World} (h : Qt w w') : Below w.heap.size w w' := by obtain ⟨n, rfl⟩ := h; exact ⟨rfl, rfl, rfl, Nat.le_refl _, fun _ _ => rfl⟩

structure IsCont (w : World) (cb : Nat) (W : Nat → Int) (slots : List Nat) (ch : Nat) : Prop where
  words : ∀ i, i < 28 → w.cell? ⟨cb, i, none⟩ = some (.int .u64 (W i))
  sl : ∃ sv, w.cell? ⟨cb, 28, none⟩ = some sv ∧ RdSl w 1 sv slots.length (natsI slots)
  ch : w.cell? ⟨cb, 29, none⟩ = some (.int .u64 ch)
  lt12 : ∀ s ∈ slots, s < 12
  len : slots.length ≤ 12
  ty : ∃ c, Blk w cb c 128
  ty2 : ∀ sv, w.cell? ⟨cb, 28, none⟩ = some sv → ∀ g, sv.ownBlock = some g → ∃ c, Blk w g c 3

theorem RdSl.drewN {w : World} {size : Nat} {v : Value} {n : Nat} {xs : List Value} (h : RdSl w size v n xs) (q : Nat) : RdSl (w.drewN q) size v n xs := h.kept (fun _ _ _ => rfl)
theorem IsCont.drewN {w : World} {cb : Nat} {W : Nat → Int} {slots : List Nat} {ch : Nat} (h : IsCont w cb W slots ch) (q : Nat) : IsCont (w.drewN q) cb W slots ch :=
  ⟨h.words, by obtain ⟨sv, h1, h2⟩ := h.sl; exact ⟨sv, h1, h2.drewN q⟩, h.ch, h.lt12, h.len, h.ty, h.ty2⟩

theorem Qt.trans {a b c : World} (h : Qt a b) (k : Qt b c) : Qt a c := by
  obtain ⟨n, rfl⟩ := h; obtain ⟨m, rfl⟩ := k; exact ⟨n + m, by rw [World.drewN_drewN]⟩
theorem Qt.drewN (w : World) (n : Nat) : Qt w (w.drewN n) := ⟨n, rfl⟩
theorem IsCont.qt {w w' : World} {cb : Nat} {W : Nat → Int} {slots : List Nat} {ch : Nat} (h : IsCont w cb W slots ch) (q : Qt w w') : IsCont w' cb W slots ch := by obtain ⟨n, rfl⟩ := q; exact h.drewN n

def ptrOff (p : Nat) : Nat := p % 4294967296 * 8
def ptrN (off : Nat) : Nat := off / 8 + 4294967296 + 562949953421312

theorem ptr_or (off : Nat) (ho : off ≤ 34359738360) : bits .or .u64 (bits .or .u64 ((off : Int) / 8) 4294967296) 562949953421312 = (ptrN off : Nat) := by
  rw [show ((off : Int) / 8) = ((off / 8 : Nat) : Int) from by omega, show (4294967296 : Int) = ((4294967296 : Nat) : Int) from rfl, show (562949953421312 : Int) = ((562949953421312 : Nat) : Int) from rfl]
  rw [u64_or_nat _ _ (by omega) (by omega), Nat.or_comm, nat_join 32 4294967296 (off / 8) (by decide) (by omega)]
  rw [u64_or_nat _ _ (by omega) (by omega), Nat.or_comm, nat_join 48 562949953421312 (4294967296 + off / 8) (by decide) (by omega)]
  unfold ptrN; congr 1; omega

theorem ret_two {k k' : IntKind} {a b a' b' : Int} (h : a = b) (h' : a' = b') : Ending.returned (.tuple #[.int k a, .int k' a']) = .returned (.tuple #[.int k b, .int k' b']) := by rw [h, h']
theorem ret_ib {k : IntKind} {a b : Int} {x y : Bool} (h : a = b) (h' : x = y) : Ending.returned (.tuple #[.int k a, .bool x]) = .returned (.tuple #[.int k b, .bool y]) := by rw [h, h']

section
variable {w : World}

set_option maxRecDepth 100000 in
set_option maxHeartbeats 1000000 in
theorem ptrOff_any (p : Nat) (_hp : p < 18446744073709551616) : Calls Try.prog 79 #[.int .u64 p] w fun r w' => r = .returned (.int .u64 (ptrOff p)) ∧ w = w' := by
  go_enter Try.func79, Try.ntmps79
  go_wp2
  go_ret
  exact ⟨ret_int (by unfold ptrOff; omega), rfl⟩

set_option maxRecDepth 100000 in
set_option maxHeartbeats 1000000 in
theorem make_any (off : Nat) (h0 : 0 < off) (h8 : off % 8 = 0) (ho : off ≤ 34359738360) :
    Calls Try.prog 16 #[.int .u64 off, .int .u16 1, .int .u8 2] w fun r w' => r = .returned (.tuple #[.int .u64 (ptrN off), .int .i64 0]) ∧ w = w' := by
  have b1 : ((off : Int) == 0) = false := by simp; omega
  have b2 : ((off : Int) % 8 != 0) = false := by simp; omega
  have b3 : ¬ (34359738360 : Int) < off := by omega
  go_enter Try.func16, Try.ntmps16
  go_wp2
  go_ret2
  exact ⟨ret_two (ptr_or off ho) rfl, rfl⟩

set_option maxRecDepth 100000 in
set_option maxHeartbeats 1000000 in
theorem pointer_any (off : Nat) (h0 : 0 < off) (h8 : off % 8 = 0) (ho : off ≤ 34359738360) :
    Calls Try.prog 28 #[.int .u64 off] w fun r w' => r = .returned (.int .u64 (ptrN off)) ∧ w = w' := by
  have HM := Lib.hid (make_any (w := w) off h0 h8 ho)
  go_enter Try.func28, Try.ntmps28
  go_wp2_with (go_at_call 16; (with_reducible refine HM.out.mono ?_); rintro e w' ⟨rfl, rfl⟩)
  go_ret
  exact ⟨rfl, rfl⟩

set_option maxRecDepth 100000 in
set_option maxHeartbeats 1000000 in
theorem at_any (m : Value) (p : Int) (hm : m = .nilIface ∨ ∃ t a, m = .iface t (.pointer (some a))) :
    Calls Try.prog 17 #[m, .int .u64 p] w fun r w' => r = .returned (.agg #[m, .int .u64 p]) ∧ Below w.heap.size w w' := by
  rcases hm with rfl | ⟨t, a, rfl⟩
  all_goals
    go_enter Try.func17, Try.ntmps17
    go_wp2
    refine bodyPost_ret (v := .agg #[_, .int .u64 p]) (by simp [results, Try.results17, go_sem]) rfl ⟨rfl, ?_⟩
    exact (Below.refl _ _).alloc (Nat.le_refl _) _

set_option maxRecDepth 100000 in
set_option maxHeartbeats 1000000 in
theorem key_any {cb : Nat} {W : Nat → Int} {slots : List Nat} {ch : Nat} (h : IsCont w cb W slots ch) (i s : Nat) (hi : slots[i]? = some s) :
    Calls Try.prog 63 #[.pointer (some ⟨cb, 0, none⟩), .int .i64 i] w fun r w' => r = .returned (.int .u64 (W (4 + s))) ∧ Qt w w' := by
  have hs := h.lt12 s (List.mem_of_getElem? hi)
  have hil : i < slots.length := by
    rcases Nat.lt_or_ge i slots.length with h | h
    · exact h
    · rw [List.getElem?_eq_none h] at hi; cases hi
  obtain ⟨sv, c28, hrd⟩ := h.sl
  have hv : (natsI slots)[i]? = some (.int .i64 s) := by simp [natsI, hi]
  obtain ⟨_, a, c, rfl, hc, ha⟩ := hrd
  obtain ⟨sb, so, rfl, hcell⟩ := rd_at ha hv
  have c1 := hcell _ _ hv
  have c2 := h.words (4 + s) (by omega)
  have b1 : (i : Int) < slots.length := by omega
  have b2 : (4 : Int) + s < 28 := by omega
  clear ha hcell hv h hi
  go_enter Try.func63, Try.ntmps63
  go_wp2_with fail
  go_quiet (fail)
  go_wp2_with fail
  go_ret
  exact ⟨rfl, _, rfl⟩

set_option maxRecDepth 100000 in
set_option maxHeartbeats 1000000 in
theorem value_any {cb : Nat} {W : Nat → Int} {slots : List Nat} {ch : Nat} (h : IsCont w cb W slots ch) (i s : Nat) (hi : slots[i]? = some s) :
    Calls Try.prog 52 #[.pointer (some ⟨cb, 0, none⟩), .int .i64 i] w fun r w' => r = .returned (.int .u64 (W (16 + s))) ∧ Qt w w' := by
  have hs := h.lt12 s (List.mem_of_getElem? hi)
  have hil : i < slots.length := by
    rcases Nat.lt_or_ge i slots.length with h | h
    · exact h
    · rw [List.getElem?_eq_none h] at hi; cases hi
  obtain ⟨sv, c28, hrd⟩ := h.sl
  have hv : (natsI slots)[i]? = some (.int .i64 s) := by simp [natsI, hi]
  obtain ⟨_, a, c, rfl, hc, ha⟩ := hrd
  obtain ⟨sb, so, rfl, hcell⟩ := rd_at ha hv
  have c1 := hcell _ _ hv
  have c2 := h.words (16 + s) (by omega)
  have b1 : (i : Int) < slots.length := by omega
  have b2 : (16 : Int) + s < 28 := by omega
  clear ha hcell hv h hi
  go_enter Try.func52, Try.ntmps52
  go_wp2_with fail
  go_quiet (fail)
  go_wp2_with fail
  go_ret
  exact ⟨rfl, _, rfl⟩

/-- The first entry whose key is at least k. -/
def findIdx (W : Nat → Int) (k : Int) : List Nat → Nat
  | [] => 0
  | s :: l => if W (4 + s) < k then findIdx W k l + 1 else 0
theorem findIdx_le (W : Nat → Int) (k : Int) (l : List Nat) : findIdx W k l ≤ l.length := by
  induction l with
  | nil => simp [findIdx]
  | cons s l ih => simp only [findIdx, List.length_cons]; split <;> omega
theorem findIdx_eq (W : Nat → Int) (k : Int) : ∀ (l : List Nat) (i : Nat), i ≤ l.length → (∀ j s, j < i → l[j]? = some s → W (4 + s) < k) → (∀ s, l[i]? = some s → ¬ W (4 + s) < k) → findIdx W k l = i := by
  intro l
  induction l with
  | nil => intro i hi _ _; simp at hi; subst hi; rfl
  | cons s l ih =>
    intro i hi h1 h2
    cases i with
    | zero => simp only [findIdx]; rw [if_neg (h2 s (by simp))]
    | succ i =>
      simp only [findIdx]
      rw [if_pos (h1 0 s (by omega) (by simp)), ih i (by simpa using hi) (fun j t hj ht => h1 (j + 1) t (by omega) (by simpa using ht)) (fun t ht => h2 t (by simpa using ht))]
/-- Does the entry found have that key? -/
def foundB (W : Nat → Int) (k : Int) (l : List Nat) : Bool := match l[findIdx W k l]? with | some s => W (4 + s) == k | none => false

set_option maxRecDepth 100000 in
set_option maxHeartbeats 1000000 in
theorem find_any {cb : Nat} {W : Nat → Int} {slots : List Nat} {ch : Nat} (h : IsCont w cb W slots ch) (k : Int) :
    Calls Try.prog 51 #[.pointer (some ⟨cb, 0, none⟩), .int .u64 k] w fun r w' => r = .returned (.tuple #[.int .i64 (findIdx W k slots), .bool (foundB W k slots)]) ∧ Qt w w' := by
  obtain ⟨sv, c28, hrd⟩ := h.sl
  have hlen := h.len
  obtain ⟨_, a, c, rfl, hc, ha⟩ := hrd
  have H := Lib.hid h; clear h ha
  go_enter Try.func51, Try.ntmps51
  go_wp2_with fail
  go_loopw [6] (fun x wr => ∃ i : Nat, i ≤ slots.length ∧ x = .int .i64 i ∧ (∀ j s, j < i → slots[j]? = some s → W (4 + s) < k) ∧ ∃ q, wr = w.drewN q) (fun x _ => slots.length - (intOf x).toNat)
  case atStart => exact ⟨0, Nat.zero_le _, rfl, fun j _ hj => absurd hj (Nat.not_lt_zero _), 0, rfl⟩
  case round =>
    obtain ⟨i, hi, rfl, hlow, q, rfl⟩ := hrel
    have HL := Lib.hid hlow; clear hlow
    by_cases hlt : i < slots.length
    · obtain ⟨s, hs⟩ : ∃ s, slots[i]? = some s := ⟨_, List.getElem?_eq_getElem hlt⟩
      have b1 : (i : Int) < slots.length := by omega
      have HK := Lib.hid (key_any (H.out.drewN q) i s hs)
      have HS := Lib.hid hs; clear hs
      by_cases hk : W (4 + s) < k
      · go_wp2_with (go_at_call 63; (with_reducible refine HK.out.mono ?_); rintro e w' ⟨rfl, q', rfl⟩)
        go_roundw
        case rel =>
          refine ⟨i + 1, by omega, by go_num, fun j t hj ht => ?_, _, rfl⟩
          rcases Nat.lt_succ_iff_lt_or_eq.1 hj with h' | h'
          · exact HL.out j t h' ht
          · rw [h', HS.out] at ht; cases ht; exact hk
        case measure => simp [intOf]; omega
      · have Hf : Hid (findIdx W k slots = i) := findIdx_eq W k slots i hi HL.out (fun t ht => by rw [HS.out] at ht; cases ht; exact hk)
        have Hb : Hid (foundB W k slots = (W (4 + s) == k)) := by show foundB W k slots = _; unfold foundB; rw [Hf.out, HS.out]
        have HK2 := Lib.hid (fun q => key_any (H.out.drewN q) i s HS.out)
        clear HK
        go_wp2_with (go_at_call 63; (with_reducible refine (HK2.out _).mono ?_); rintro e w' ⟨rfl, q', rfl⟩)
        go_ret2
        exact ⟨ret_ib (by rw [Hf.out]) Hb.out.symm, _, rfl⟩
    · obtain rfl : i = slots.length := by omega
      have Hf : Hid (findIdx W k slots = slots.length) := findIdx_eq W k slots _ (Nat.le_refl _) HL.out (fun t ht => by rw [List.getElem?_eq_none (Nat.le_refl _)] at ht; cases ht)
      have Hb : Hid (foundB W k slots = false) := by show foundB W k slots = _; unfold foundB; rw [Hf.out, List.getElem?_eq_none (Nat.le_refl _)]
      go_wp2_with fail
      go_ret2
      exact ⟨ret_ib (by rw [Hf.out]) Hb.out.symm, _, rfl⟩
end
end Go.Proofs.Ytkoijmoendepgaa
