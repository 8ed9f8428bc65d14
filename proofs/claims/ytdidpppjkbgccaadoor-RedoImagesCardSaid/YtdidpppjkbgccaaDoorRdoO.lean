/- The law's value, applied and outside of layer 15. -/
import Derived.Test.YtdidpppjkbgccaaDoorRdoK
import Derived.Test.YtdidpppjkbgccaaDoorCardR
import Derived.Laws.BytesArg
import Derived.BigQuiet
namespace Go.Proofs.YtdidpppjkbgccaaDoor
open Go.RowKit Go.Maps
attribute [local go_sem ↓] Go.wp_at_zero Go.wp_at_succ

/-- The bytes of 320 words lie at the front of a block. -/
abbrev BRow (w : World) (g : Nat) (f : Nat → Int) : Prop := Row w g 2560 5 (fun i => .int .u8 (byteAt f i))
theorem byteAt_bd (f : Nat → Int) (i : Nat) : 0 ≤ byteAt f i ∧ byteAt f i < 256 := by unfold byteAt; omega
def strB (f : Nat → Int) (a n : Nat) : ByteArray := strOfNums ((List.range n).map fun i => byteAt f (a + i))
/-- The law's outside, on words. -/
def outR (f h : Nat → Int) : Bool := decide (strB f 0 320 = strB h 0 320) && decide (strB f 1984 576 = strB h 1984 576)
theorem strB_congr {f h : Nat → Int} {a n : Nat} (hfh : ∀ i, a / 8 ≤ i → i ≤ (a + n - 1) / 8 → f i = h i) : strB f a n = strB h a n := by
  unfold strB
  congr 1
  refine List.map_congr_left (fun i hi => ?_)
  have hi := List.mem_range.1 hi
  unfold byteAt
  rw [hfh _ (by omega) (by omega)]
theorem outR_of {f h : Nat → Int} (hfh : ∀ i, (i < 40 ∨ 248 ≤ i) → f i = h i) : outR f h = true := by
  unfold outR
  rw [strB_congr (a := 0) (n := 320) (fun i h1 h2 => hfh i (by omega)), strB_congr (a := 1984) (n := 576) (fun i h1 h2 => hfh i (by omega))]
  simp
theorem bl_true {x y : ByteArray} (h : x = y) : (x.toList == y.toList) = true := by rw [h]; exact beq_self_eq_true _
theorem bl_false {x y : ByteArray} (h : ¬ x = y) : (x.toList == y.toList) = false := by
  rw [beq_eq_false_iff_ne]
  intro e
  rw [ByteArray.toList_eq, ByteArray.toList_eq] at e
  apply h
  obtain ⟨⟨a⟩⟩ := x
  obtain ⟨⟨b⟩⟩ := y
  simpa using e
section
variable {w : World}
set_option maxRecDepth 100000 in
theorem conv_row {g c a n : Nat} {f : Nat → Int} (h : BRow w g f) (hn : a + n ≤ 2560) : (Go.convert 23 9 (.slice (some ⟨g, a, none⟩) n c)).run Tryd.prog w = .ok (.string (strB f a n)) w := by
  refine run_convert_bytes_arg (P := Tryd.prog) w 23 5 Tryd.underlying23 Tryd.underlying5 g a n c ((List.range n).map fun i => byteAt f (a + i)) (by simp) (fun i hi => ?_) 9 Tryd.underlying9
  rw [h.cell (i := a + i) (by omega)]
  simp [List.getD, List.getElem?_map, List.getElem?_range hi]
set_option maxRecDepth 100000 in
set_option maxHeartbeats 4000000 in
theorem l15outside_any (h : Wr w) {ga gb ca cb : Nat} {f k : Nat → Int} (ha : BRow w ga f) (hb : BRow w gb k) (hca : 2560 ≤ ca) (hcb : 2560 ≤ cb) :
    Calls Tryd.prog 15 #[.slice (some ⟨ga, 0, none⟩) 2560 ca, .slice (some ⟨gb, 0, none⟩) 2560 cb] w fun r w' => r = .returned (.bool (outR f k)) ∧ ∃ q, w' = w.drewN q := by
  have g0 := h.c0; have g1 := h.c1
  have H1 := fun q => conv_row (w := w.drewN q) (g := ga) (c := ca) (a := 0) (n := 320) (f := f) ha (by omega)
  have H2 := fun q => conv_row (w := w.drewN q) (g := gb) (c := cb) (a := 0) (n := 320) (f := k) hb (by omega)
  have H3 := fun q => conv_row (w := w.drewN q) (g := ga) (c := ca - 1984) (a := 1984) (n := 576) (f := f) ha (by omega)
  have H4 := fun q => conv_row (w := w.drewN q) (g := gb) (c := cb - 1984) (a := 1984) (n := 576) (f := k) hb (by omega)
  have hca' : ¬ ca = 1984 := by omega
  have hcb' : ¬ cb = 1984 := by omega
  have ca1 : (320 : Int) ≤ (ca : Int) := by omega
  have cb1 : (320 : Int) ≤ (cb : Int) := by omega
  have ca0 : ¬ ca = 0 := by omega
  have cb0 : ¬ cb = 0 := by omega
  have HO : Hid (outR f k = (decide (strB f 0 320 = strB k 0 320) && decide (strB f 1984 576 = strB k 1984 576))) := rfl
  clear ha hb h
  generalize outR f k = ob at *
  generalize strB f 0 320 = s1 at *
  generalize strB k 0 320 = s2 at *
  generalize strB f 1984 576 = s3 at *
  generalize strB k 1984 576 = s4 at *
  by_cases e1 : s1 = s2
  · have d1 := bl_true e1
    by_cases e2 : s3 = s4
    · have d2 := bl_true e2
      have HR : Hid (ob = true) := by show ob = true; rw [HO.out]; simp [e1, e2]
      clear HO e1 e2
      go_enter Tryd.func15, Tryd.ntmps15
      go_wp2_with fail
      go_quiet (fail)
      go_wp2_with fail
      go_ret
      exact ⟨by rw [HR.out]; rfl, _, rfl⟩
    · have d2 := bl_false e2
      have HR : Hid (ob = false) := by show ob = false; rw [HO.out]; simp [e2]
      clear HO e1 e2
      go_enter Tryd.func15, Tryd.ntmps15
      go_wp2_with fail
      go_quiet (fail)
      go_wp2_with fail
      go_ret
      exact ⟨by rw [HR.out]; rfl, _, rfl⟩
  · have d1 := bl_false e1
    have HR : Hid (ob = false) := by show ob = false; rw [HO.out]; simp [e1]
    clear HO e1
    go_enter Tryd.func15, Tryd.ntmps15
    go_wp2_with fail
    go_quiet (fail)
    go_wp2_with fail
    go_ret
    exact ⟨by rw [HR.out]; rfl, _, rfl⟩
set_option maxRecDepth 100000 in
set_option maxHeartbeats 4000000 in
theorem l15value_zero {g c : Nat} {f : Nat → Int} (h : BRow w g f) (h0 : f 40 = 0) :
    Calls Tryd.prog 16 #[.slice (some ⟨g, 0, none⟩) 2560 c, .int .u64 320] w fun r w' => r = .returned (.int .u64 0) ∧ Below w.heap.size w w' := by
  have HC : Hid (∀ r, r < 8 → w.cell? ⟨g, 320 + r, none⟩ = some (.int .u8 0)) := fun r hr => by
    rw [h.cell (i := 320 + r) (by omega)]
    have : byteAt f (320 + r) = 0 := by
      unfold byteAt
      rw [show (320 + r) / 8 = 40 by omega, h0]; simp
    rw [this]
  clear h h0
  go_enter Tryd.func16, Tryd.ntmps16
  go_wp2_with fail
  go_loopw [5, 6] (fun v y wr => ∃ k : Nat, k ≤ 8 ∧ y = .int .i64 ((7 : Int) - k) ∧ v = .int .u64 0 ∧ wr = w) (fun _ y _ => (intOf y + 1).toNat)
  case atStart => exact ⟨0, by omega, rfl, rfl, rfl⟩
  case round =>
    obtain ⟨k, hk, rfl, rfl, rfl⟩ := hrel
    by_cases hlt : k < 8
    · obtain ⟨r, hr⟩ : ∃ r, 7 - k = r := ⟨_, rfl⟩
      have hrI : (7 : Int) - (k : Int) = (r : Int) := by omega
      have hr8 : r < 8 := by omega
      have c1 := HC.out r hr8
      have HRK : Hid ((r : Int) - 1 = (7 : Int) - ((k + 1 : Nat) : Int)) := by show (r : Int) - 1 = (7 : Int) - ((k + 1 : Nat) : Int); omega
      rw [hrI]
      clear hr
      go_wp2_with fail
      go_roundw
      case rel => exact ⟨k + 1, by omega, by rw [← HRK.out], by first | rfl | trivial, by first | rfl | trivial⟩
      case measure => simp [intOf] <;> omega
    · obtain rfl : k = 8 := by omega
      have hlt2 : ¬ (0 : Int) ≤ (7 : Int) - ((8 : Nat) : Int) := by omega
      go_wp2_with fail
      go_ret
      exact ⟨rfl, Below.refl _ _⟩
/-- A copy of bytes that is being written. -/
structure Ap (w : World) (g : Nat) (F : Nat → Value) (wr : World) : Prop where
  row : Row wr g 2560 5 F
  lo : w.heap.size ≤ g
  bel : Below w.heap.size w wr
def setW (F : Nat → Int) (d : Nat) (x : Int) (i : Nat) : Int := if i = d then x else F i
theorem byte_new (F : Nat → Int) (d k : Nat) (x : Int) (hk : k < 8) : byteAt (setW F d x) (8 * d + k) = x / 2 ^ (k * 8) % 256 := by
  unfold byteAt setW
  rw [show (8 * d + k) / 8 = d by omega, show (8 * d + k) % 8 = k by omega, if_pos rfl]
def midB (F : Nat → Int) (d : Nat) (x : Int) (k i : Nat) : Value := .int .u8 (if 8 * d ≤ i ∧ i < 8 * d + k then byteAt (setW F d x) i else byteAt F i)
theorem midB_step (F : Nat → Int) (d k : Nat) (x y : Int) (hy : byteAt (setW F d x) (8 * d + k) = y) (i : Nat) : (if i = 8 * d + k then Value.int .u8 y else midB F d x k i) = midB F d x (k + 1) i := by
  unfold midB
  by_cases e : i = 8 * d + k
  · subst e; rw [if_pos rfl, if_pos ⟨by omega, by omega⟩, hy]
  · rw [if_neg e]
    by_cases h : 8 * d ≤ i ∧ i < 8 * d + k
    · rw [if_pos h, if_pos ⟨h.1, by omega⟩]
    · rw [if_neg h, if_neg (by omega)]
theorem midB_end (F : Nat → Int) (d : Nat) (x : Int) (i : Nat) : midB F d x 8 i = .int .u8 (byteAt (setW F d x) i) := by
  unfold midB
  by_cases h : 8 * d ≤ i ∧ i < 8 * d + 8
  · rw [if_pos h]
  · rw [if_neg h]
    unfold byteAt setW
    rw [if_neg (by omega)]
set_option maxRecDepth 100000 in
set_option maxHeartbeats 8000000 in
theorem l15applied_any {g c : Nat} {f : Nat → Int} (h : BRow w g f) (hc : 2560 ≤ c) (_hc2 : c ≤ maxLen) (sv : Value) (l : List (Nat × Int)) (hs : RdSl w 2 sv l.length (flat l)) (hl : l.length ≤ 10000) (hb : ∀ e ∈ l, e.1 % 8 = 0 ∧ e.1 < 2560 ∧ 0 ≤ e.2 ∧ e.2 < 18446744073709551616) :
    Calls Tryd.prog 13 #[.slice (some ⟨g, 0, none⟩) 2560 c, sv] w fun r w' => ∃ g' c', r = .returned (.slice (some ⟨g', 0, none⟩) 2560 c') ∧ 2560 ≤ c' ∧ c' ≤ maxLen ∧ BRow w' g' (fun i => look l (f i) i) ∧ w.heap.size ≤ g' ∧ Below w.heap.size w w' := by
  have HS := Lib.hid hs; have HB := Lib.hid hb; clear hb
  obtain ⟨_, sa, sc, rfl, hsc, _⟩ := hs
  obtain ⟨i0, hi0, hz0, hz1, hz2⟩ := info_parts infoU8
  have I := Lib.hid (And.intro hi0 (And.intro hz0 (And.intro hz1 hz2))); clear hi0 hz0 hz1 hz2
  have HRD := Lib.hid (row_rdF h hc)
  generalize hm : l.length = m at *
  have HM := Lib.hid hm; clear hm h
  go_enter Tryd.func13, Tryd.ntmps13
  go_wp2_with (at_builtin; refine wpList_append_sl _ rfl _ _ 23 rfl 5 i0 _ 1 1 Tryd.underlying23 I.out.1 I.out.2.1 I.out.2.2.1 I.out.2.2.2 rfl (by decide) _ 0 [] rfl (by exact OwnSl.new w #[] 5 1 0 0 rfl (Nat.le_refl _) (by unfold maxLen; omega)) _ 2560 ((List.range 2560).map fun i => Value.int .u8 (byteAt f i)) rfl (by exact HRD.out.alloc _) (fun u hu => by obtain ⟨a, _, rfl⟩ := List.mem_map.1 hu; rfl) (by unfold maxLen; omega) (by omega) ?_)
  intro v1 w1 o1 g1 b1 n1
  have A0 : Acc w w.heap.size (w.alloc (.cells #[] 5)) 5 1 (.slice (some ⟨w.heap.size, 0, none⟩) 0 0) 0 [] :=
    ⟨OwnSl.new w #[] 5 1 0 0 rfl (Nat.le_refl _) (by unfold maxLen; omega), fun g hg => by simp [Value.ownBlock] at hg; omega, below_alloc _ _, by simp⟩
  have A1 := A0.next (m := 2560) (news := (List.range 2560).map fun i => Value.int .u8 (byteAt f i)) (Below.refl _ _) o1 g1 b1 (by simp)
  rw [List.nil_append, Nat.zero_add] at A1
  obtain ⟨g', c', hv1⟩ : ∃ g' c', v1 = .slice (some ⟨g', 0, none⟩) 2560 c' := by
    obtain ⟨a, c', hv⟩ := A1.slice
    rcases b1 with b1 | b1
    · rw [hv] at b1 ⊢
      have b2 : slAddr (.slice a 2560 c') = slAddr (.slice (some ⟨w.heap.size, 0, none⟩) 0 0) := b1
      have : a = some ⟨w.heap.size, 0, none⟩ := by simpa [slAddr] using b2
      exact ⟨_, c', by rw [this]⟩
    · rw [hv] at b1 ⊢
      exact ⟨_, c', by rw [show a = _ by simpa [slAddr] using b1]⟩
  subst hv1
  have hrow := A1.own.row
  have hmax : c' ≤ maxLen := by
    rcases A1.own.2 with ⟨_, h0⟩ | ⟨_, _, cap, _, hg, _, _, h2, _⟩
    · omega
    · cases hg; exact h2
  have AP : Hid (Ap w g' (fun i => .int .u8 (byteAt f i)) w1) := ⟨hrow.1, A1.new g' rfl, A1.bel⟩
  have HC := Lib.hid (And.intro hrow.2 hmax)
  clear A0 A1 o1 g1 b1 n1 hrow hmax HRD
  go_wp2_with fail
  go_loopw [14] (fun y wr => ∃ k : Nat, k ≤ m ∧ y = .int .i64 k ∧ Ap w g' (fun i => .int .u8 (byteAt (fun i => look (l.take k) (f i) i) i)) wr) (fun y _ => m - (intOf y).toNat)
  case atStart => exact ⟨0, by omega, rfl, AP.out⟩
  case round =>
    clear AP
    obtain ⟨k, hk, rfl, hap⟩ := hrel
    have A := Lib.hid hap; clear hap
    by_cases hlt : k < m
    · have hk' : (k : Int) < m := by omega
      obtain ⟨e, he⟩ : ∃ e, l[k]? = some e := ⟨_, List.getElem?_eq_getElem (by rw [HM.out]; exact hlt)⟩
      obtain ⟨_, a', c'', e', _, hE⟩ := HS.out.below A.out.bel
      cases e'
      have hg := flat_get' l k e he
      obtain ⟨eb, eo, rfl, hE2⟩ := rd_at hE hg.1
      have c1 := hE2 _ _ hg.1; have c2 := hE2 _ _ hg.2
      rw [← Nat.add_assoc] at c2
      have hbd := HB.out e (List.mem_of_getElem? he)
      have HT := Lib.hid (take_snoc_get l k e he)
      clear hE hE2 he hg
      obtain ⟨e1, e2⟩ := e
      simp only at c1 c2 hbd
      obtain ⟨d, hd⟩ : ∃ d, e1 / 8 = d := ⟨_, rfl⟩
      have hed : 8 * d = e1 := by omega
      have HN : Hid (∀ i, (fun i => look (l.take (k + 1)) (f i) i) i = setW (fun i => look (l.take k) (f i) i) d e2 i) := fun i => by
        show look (l.take (k + 1)) (f i) i = setW (fun i => look (l.take k) (f i) i) d e2 i
        rw [HT.out, look_snoc]
        unfold setW
        by_cases e : i = d
        · rw [if_pos e, if_pos (by rw [e]; exact hd)]
        · rw [if_neg e, if_neg (fun h => e (by rw [← hd]; exact h.symm))]
      generalize hF : (fun i => look (l.take k) (f i) i) = F at *
      have hgl := A.out.row.lt
      have AA : Hid (Ap w g' (midB F d e2 0) (wr.alloc (.cells #[.int .u64 (e1 : Int), .int .u64 e2] 88))) := ⟨(A.out.row.alloc _).congr (fun i _ => by unfold midB; rw [if_neg (by omega)]), A.out.lo, A.out.bel.alloc A.out.bel.size _⟩
      have z0 : (wr.alloc (.cells #[.int .u64 (e1 : Int), .int .u64 e2] 88)).cell? ⟨wr.heap.size, 0, none⟩ = some (.int .u64 (e1 : Int)) := (Blk.new wr _ _).cell rfl
      have z1 : (wr.alloc (.cells #[.int .u64 (e1 : Int), .int .u64 e2] 88)).cell? ⟨wr.heap.size, 1, none⟩ = some (.int .u64 e2) := (Blk.new wr _ _).cell rfl
      have Z := Lib.hid (And.intro z0 z1)
      have hgp : g' ≠ wr.heap.size := by omega
      clear A hF hd z0 z1
      go_wp2_with fail
      go_loopw [18] (fun y wq => ∃ q : Nat, q ≤ 8 ∧ y = .int .u64 q ∧ Ap w g' (midB F d e2 q) wq ∧ wq.cell? ⟨wr.heap.size, 0, none⟩ = some (.int .u64 (e1 : Int)) ∧ wq.cell? ⟨wr.heap.size, 1, none⟩ = some (.int .u64 e2)) (fun y _ => 8 - (intOf y).toNat)
      case atStart => exact ⟨0, by omega, rfl, AA.out, Z.out.1, Z.out.2⟩
      case round =>
        obtain ⟨q, hq, rfl, hap, z0, z1⟩ := hrel
        have A := Lib.hid hap; clear hap
        rename World => wq
        generalize wr.heap.size = pb at *
        by_cases hlt2 : q < 8
        · have hq' : (q : Int) < 8 := by omega
          have hcell := A.out.row.cell (i := e1 + q) (by omega)
          have hfro := A.out.row.frozen (e1 + q)
          have hix : (e1 : Int) + (q : Int) < 2560 := by omega
          generalize midB F d e2 q (e1 + q) = old at *
          go_wp2_with fail
          go_roundw
          case rel =>
            refine ⟨q + 1, by omega, by go_num, ⟨(A.out.row.set (e1 + q) _).congr (fun i _ => ?_), A.out.lo, A.out.bel.setCell A.out.lo _⟩, ?_, ?_⟩
            · rw [← hed]; exact midB_step F d q e2 _ (by rw [byte_new _ _ _ _ hlt2, Nat.mul_comm]) i
            · exact (World.cell?_of_block (Below.heap_setCell _ _ _ _ (by show pb ≠ g'; omega))).trans z0
            · exact (World.cell?_of_block (Below.heap_setCell _ _ _ _ (by show pb ≠ g'; omega))).trans z1
          case measure => simp [intOf]; omega
        · obtain rfl : q = 8 := by omega
          go_wp2_with fail
          go_roundw
          case rel => exact ⟨k + 1, by omega, by go_num, ⟨A.out.row.congr (fun i _ => by rw [midB_end]; congr 1; unfold byteAt; rw [← HN.out]), A.out.lo, A.out.bel⟩⟩
          case measure => simp [intOf]; omega
    · obtain rfl : k = m := by omega
      have hQ : l.take k = l := List.take_of_length_le (by rw [HM.out]; omega)
      rw [hQ] at A
      clear hQ
      go_wp2_with fail
      go_ret
      exact ⟨g', c', rfl, HC.out.1, HC.out.2, A.out.row, A.out.lo, A.out.bel⟩
end
end Go.Proofs.YtdidpppjkbgccaaDoor
