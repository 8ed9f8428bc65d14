/- The node that the law draws: its words. -/
import Derived.Test.YtgdcjedcinapdaaGreatJ5
import Derived.Test.YtgdcjedcinapdaaGreatJ2
import Derived.RangeFuncNested
import Derived.RangeFuncBound
import Derived.RangeFuncCalls
import Derived.RangeFuncLeaves
import Derived.RangeFuncBox
import Derived.Shelf.Abstract
import Derived.OwnWalkIn
import Derived.TacticsInMore
import Derived.LoopNIn
import Derived.LoopIn
import Derived.Maps.AppendAt
namespace Go.Proofs.YtgdcjedcinapdaaGreat
open Go.RowKit

def nKeys (n : NodeP) : List Int := keysN n.ks
def nSlots (n : NodeP) : List Nat := nodeSlots (nKeys n).length n.ss
def nVal (n : NodeP) (i : Nat) : Int := if i < n.vs.length then n.vs.getD i 0 else i
theorem nSlots_len (n : NodeP) : (nSlots n).length = (nKeys n).length := (nodeSlots_good _ _ (keysN_len _)).2
theorem nSlots_lt (n : NodeP) : ∀ s ∈ nSlots n, s < 12 := (nodeSlots_good _ _ (keysN_len _)).1.2.2
theorem nSlots_nodup (n : NodeP) : (nSlots n).Nodup := (nodeSlots_good _ _ (keysN_len _)).1.2.1
theorem nKeys_len (n : NodeP) : (nKeys n).length ≤ 12 := keysN_len _

/-- The words with k entries. -/
def wdK (n : NodeP) : Nat → Nat → Int
  | 0, i => if i = 0 then ((n.count % 4096 * 4503599627370496 : Nat) : Int) else if i < 4 then 0 else 99
  | k + 1, i => if i = 0 then wdK n k 0 + (1 + ((nSlots n).getD k 0 * 2 ^ (4 + 4 * k) : Nat)) else if i = 16 + (nSlots n).getD k 0 then nVal n k else if i = 4 + (nSlots n).getD k 0 then (nKeys n).getD k 0 else wdK n k i
theorem digs_take (l : List Nat) (k s : Nat) (h : l[k]? = some s) : digs (l.take (k + 1)) = digs (l.take k) + 16 ^ k * s := by
  have hk : k < l.length := by
    rcases Nat.lt_or_ge k l.length with h' | h'
    · exact h'
    · rw [List.getElem?_eq_none h'] at h; cases h
  rw [take_snoc_get l k s h, digs_append]
  simp [digs, List.length_take, Nat.min_eq_left (Nat.le_of_lt hk)]
theorem wdK_zero (n : NodeP) (k : Nat) (hk : k ≤ (nSlots n).length) : wdK n k 0 = ((n.count % 4096 * 4503599627370496 + 16 * digs ((nSlots n).take k) + k : Nat) : Int) := by
  induction k with
  | zero => simp [wdK, digs]
  | succ k ih =>
    have h : (nSlots n)[k]? = some ((nSlots n).getD k 0) := by simp [List.getD, List.getElem?_eq_getElem (show k < (nSlots n).length by omega)]
    show wdK n k 0 + (1 + _) = _
    rw [ih (by omega), digs_take _ _ _ h, show 2 ^ (4 + 4 * k) = 16 * 16 ^ k by rw [Nat.pow_add, pow16]]
    generalize (nSlots n).getD k 0 = s
    have : s * (16 * 16 ^ k) = 16 * (16 ^ k * s) := by rw [Nat.mul_left_comm, Nat.mul_comm s]
    omega
theorem wdK_zero_lt (n : NodeP) (k : Nat) (hk : k ≤ (nSlots n).length) : 0 ≤ wdK n k 0 ∧ wdK n k 0 < 18446744073709551616 := by
  rw [wdK_zero n k hk]
  have := nSlots_len n; have := nKeys_len n
  have h := ord_lt ((nSlots n).take k) k n.count (fun x hx => by have := nSlots_lt n x (List.mem_of_mem_take hx); omega) (by omega) (by rw [List.length_take]; omega)
  omega
theorem wdK_full (n : NodeP) : wdK n (nSlots n).length 0 = (ordN (nSlots n) n.count : Nat) := by
  rw [wdK_zero n _ (Nat.le_refl _), List.take_length]; rfl

/-- The words of the node. -/
def nWords (n : NodeP) (i : Nat) : Int :=
  if i = 1 then (if n.next then (ptrN 8 : Nat) else 0)
  else if i = 2 then (if n.bounded then (n.high : Int) + (if (nKeys n).length = 0 then 0 else (nKeys n).getD ((nKeys n).length - 1) 0 + 1) else 0)
  else if i = 3 then (if n.bounded then 1 else 0) else wdK n (nSlots n).length i

section
variable {w : World}
theorem slice_cell {a : Option Addr} {n c size m : Nat} {xs : List Value} {wr : World} {k : Nat} {u : Value} (h : RdSl wr size (.slice a n c) m xs) (hk : xs[k]? = some u) : ∃ b o, a = some ⟨b, o, none⟩ ∧ wr.cell? ⟨b, o + k, none⟩ = some u := by
  obtain ⟨_, a', c', e, _, h2⟩ := h
  cases e
  obtain ⟨b, o, rfl, h3⟩ := rd_at h2 hk
  exact ⟨b, o, rfl, h3 k u hk⟩
theorem slice_at {b o n c size m : Nat} {xs : List Value} {wr : World} {k : Nat} {u : Value} (h : RdSl wr size (.slice (some ⟨b, o, none⟩) n c) m xs) (hk : xs[k]? = some u) : wr.cell? ⟨b, o + k, none⟩ = some u := by
  obtain ⟨b', o', e, h⟩ := slice_cell h hk
  cases e; exact h
/-- k entries are in. -/
structure WMid (w : World) (n : NodeP) (ka sa va : Option Addr) (kc sc vc : Nat) (g : Nat) (kv sv : Value) (f : Nat → Int) (wr : World) : Prop where
  row : Row wr g 28 28 (fun i => .int .u64 (f i))
  box : Blk wr w.heap.size (nodeAgg n ka sa va kc sc vc) 26
  keys : RdSl wr 1 kv (nKeys n).length (intsU (nKeys n))
  slots : RdSl wr 1 sv (nKeys n).length (natsI (nSlots n))
  kg : ∀ b, kv.ownBlock = some b → b ≠ g
  sg : ∀ b, sv.ownBlock = some b → b ≠ g
  gt : w.heap.size < g
  bel : Below w.heap.size w wr
theorem WMid.set {n : NodeP} {ka sa va : Option Addr} {kc sc vc g : Nat} {kv sv : Value} {f : Nat → Int} {wr : World} (h : WMid w n ka sa va kc sc vc g kv sv f wr) (i : Nat) (x : Int) :
    WMid w n ka sa va kc sc vc g kv sv (fun j => if j = i then x else f j) (wr.setCell ⟨g, i, none⟩ (.int .u64 x)) := by
  have hb : ∀ b, b ≠ g → (wr.setCell ⟨g, i, none⟩ (.int .u64 x)).heap[b]? = wr.heap[b]? := fun b hb => Below.heap_setCell _ _ _ _ hb
  refine ⟨(h.row.set i _).congr (fun j _ => by split <;> rfl), h.box.other (by show w.heap.size ≠ g; have := h.gt; omega) _, h.keys.kept (fun b h1 _ => hb b (h.kg b h1)), h.slots.kept (fun b h1 _ => hb b (h.sg b h1)), h.kg, h.sg, h.gt, h.bel.setCell (p := ⟨g, i, none⟩) (by show w.heap.size ≤ g; have := h.gt; omega) _⟩
theorem WMid.drew {n : NodeP} {ka sa va : Option Addr} {kc sc vc g : Nat} {kv sv : Value} {f : Nat → Int} {wr : World} (h : WMid w n ka sa va kc sc vc g kv sv f wr) : WMid w n ka sa va kc sc vc g kv sv f wr.drew :=
  ⟨h.row.drew, h.box.drew, h.keys.drew, h.slots.drew, h.kg, h.sg, h.gt, ⟨h.bel.os, h.bel.tape, h.bel.output, h.bel.size, h.bel.block⟩⟩
theorem WMid.congr {n : NodeP} {ka sa va : Option Addr} {kc sc vc g : Nat} {kv sv : Value} {f f' : Nat → Int} {wr : World} (h : WMid w n ka sa va kc sc vc g kv sv f wr) (hf : ∀ i, i < 28 → f i = f' i) : WMid w n ka sa va kc sc vc g kv sv f' wr :=
  { h with row := h.row.congr (fun i hi => by rw [hf i hi]) }

theorem row_rep (W : World) (g : Nat) (y : Int) (h : Blk W g (rep28 y 28).toArray 28) : Row W g 28 28 (fun _ => .int .u64 y) := ⟨_, h, fun i hi => by simpa using rep28_at y 28 i hi (by omega)⟩
/-- The row of the words is there, all 99. -/
structure WStart (w : World) (n : NodeP) (ka sa va : Option Addr) (kc sc vc : Nat) (g : Nat) (wr : World) : Prop where
  row : Row wr g 28 28 (fun _ => .int .u64 99)
  box : Blk wr w.heap.size (nodeAgg n ka sa va kc sc vc) 26
  gt : w.heap.size < g
  bel : Below w.heap.size w wr
set_option maxRecDepth 100000 in
theorem words_rep (n : NodeP) (ka sa va : Option Addr) (kc sc vc : Nat) : Calls Tryz.prog 50 #[.slice (some ⟨w.heap.size + 1, 0, none⟩) 1 1, .int .i64 28] ((w.alloc (.cells (nodeAgg n ka sa va kc sc vc) 26)).alloc (.cells #[.int .u64 99] 28))
    fun r w' => ∃ g, r = .returned (.slice (some ⟨g, 0, none⟩) 28 28) ∧ WStart w n ka sa va kc sc vc g w' := by
  have hb : Blk ((w.alloc (.cells (nodeAgg n ka sa va kc sc vc) 26)).alloc (.cells #[.int .u64 99] 28)) (w.heap.size + 1) #[.int .u64 99] 28 := by
    have := Blk.new (w.alloc (.cells (nodeAgg n ka sa va kc sc vc) 26)) #[.int .u64 99] 28
    rwa [World.size_alloc] at this
  refine (repeat_any (w.heap.size + 1) 99 (hb.cell rfl)).mono ?_
  rintro r w' ⟨h1, h2, h3⟩
  refine ⟨_, h1, row_rep _ _ _ h2, ?_, by simp; omega, ?_⟩
  · exact ((Blk.new w (nodeAgg n ka sa va kc sc vc) 26).alloc _).below h3
  · exact ((below_alloc w _).trans ((below_alloc _ _).mono (by simp))).trans (h3.mono (by simp; omega))

/-- The first four words are set. -/
structure WTwo (w : World) (n : NodeP) (ka sa va : Option Addr) (kc sc vc : Nat) (g : Nat) (wr : World) : Prop where
  row : Row wr g 28 28 (fun i => .int .u64 (wdK n 0 i))
  box : Blk wr w.heap.size (nodeAgg n ka sa va kc sc vc) 26
  gt : w.heap.size < g
  bel : Below w.heap.size w wr
theorem words_two {n : NodeP} {ka sa va : Option Addr} {kc sc vc g : Nat} {w1 w2 : World} (h : WStart w n ka sa va kc sc vc g w1)
    (hx : w2 = (((w1.setCell ⟨g, 0, none⟩ (.int .u64 ((n.count : Int) % 4096 * 4503599627370496))).setCell ⟨g, 1, none⟩ (.int .u64 0)).setCell ⟨g, 2, none⟩ (.int .u64 0)).setCell ⟨g, 3, none⟩ (.int .u64 0)) : WTwo w n ka sa va kc sc vc g w2 := by
  subst hx
  have hne : w.heap.size ≠ g := by have := h.gt; omega
  have hle : w.heap.size ≤ g := by have := h.gt; omega
  refine ⟨((((h.row.set 0 _).set 1 _).set 2 _).set 3 _).congr (fun i hi => ?_), (((h.box.other (a := ⟨g, 0, none⟩) hne _).other (a := ⟨g, 1, none⟩) hne _).other (a := ⟨g, 2, none⟩) hne _).other (a := ⟨g, 3, none⟩) hne _, h.gt,
    (((h.bel.setCell (p := ⟨g, 0, none⟩) hle _).setCell (p := ⟨g, 1, none⟩) hle _).setCell (p := ⟨g, 2, none⟩) hle _).setCell (p := ⟨g, 3, none⟩) hle _⟩
  unfold wdK
  by_cases e0 : i = 0
  · subst e0; simp
  · by_cases e1 : i < 4
    · rw [if_neg e0, if_pos e1]
      have : i = 1 ∨ i = 2 ∨ i = 3 := by omega
      rcases this with rfl | rfl | rfl <;> simp
    · rw [if_neg e0, if_neg e1, if_neg (by omega), if_neg (by omega), if_neg (by omega), if_neg e0]
theorem WTwo.below {n : NodeP} {ka sa va : Option Addr} {kc sc vc g : Nat} {w2 w3 : World} (h : WTwo w n ka sa va kc sc vc g w2) (hb : Below w2.heap.size w2 w3) : WTwo w n ka sa va kc sc vc g w3 :=
  ⟨h.row.below hb, h.box.below hb, h.gt, h.bel.trans (hb.mono h.bel.size)⟩
structure WThree (w : World) (n : NodeP) (ka sa va : Option Addr) (kc sc vc : Nat) (g : Nat) (kv : Value) (wr : World) : Prop extends WTwo w n ka sa va kc sc vc g wr where
  keys : RdSl wr 1 kv (nKeys n).length (intsU (nKeys n))
  kg : ∀ b, kv.ownBlock = some b → b ≠ g
theorem words_three {n : NodeP} {ka sa va : Option Addr} {kc sc vc g : Nat} {kv : Value} {w2 w3 : World} (h : WTwo w n ka sa va kc sc vc g w2) (a : Acc w2 w2.heap.size w3 28 1 kv (keysN n.ks).length (intsU (keysN n.ks))) : WThree w n ka sa va kc sc vc g kv w3 :=
  ⟨h.below a.bel, a.rd, fun b hb => by have := a.new b hb; have := h.row.lt; omega⟩
theorem words_four {n : NodeP} {ka sa va : Option Addr} {kc sc vc g : Nat} {kv sv : Value} {w3 w4 : World} (h : WThree w n ka sa va kc sc vc g kv w3)
    (a : Acc w3 w3.heap.size w4 3 1 sv (nodeSlots (nKeys n).length n.ss).length (natsI (nodeSlots (nKeys n).length n.ss))) : WMid w n ka sa va kc sc vc g kv sv (wdK n 0) w4 :=
  ⟨h.row.below a.bel, h.box.below a.bel, h.keys.below a.bel, (by have := a.rd; rw [show (nodeSlots (nKeys n).length n.ss).length = (nKeys n).length from nSlots_len n] at this; exact this), h.kg, fun b hb => by have := a.new b hb; have := h.row.lt; omega, h.gt, h.bel.trans (a.bel.mono h.bel.size)⟩

/-- The words without the successor. -/
def wdB (n : NodeP) (i : Nat) : Int :=
  if i = 2 then (if n.bounded then (n.high : Int) + (if (nKeys n).length = 0 then 0 else (nKeys n).getD ((nKeys n).length - 1) 0 + 1) else 0)
  else if i = 3 then (if n.bounded then 1 else 0) else wdK n (nSlots n).length i
theorem wdK_small (n : NodeP) (k i : Nat) (h0 : 0 < i) (h : i < 4) : wdK n k i = 0 := by
  induction k with
  | zero => unfold wdK; rw [if_neg (by omega), if_pos h]
  | succ k ih => unfold wdK; rw [if_neg (by omega), if_neg (by omega), if_neg (by omega)]; exact ih
theorem wdB_one (n : NodeP) : wdB n 1 = 0 := by unfold wdB; rw [if_neg (by omega), if_neg (by omega)]; exact wdK_small n _ 1 (by omega) (by omega)
theorem nWords_eq (n : NodeP) (i : Nat) : nWords n i = if i = 1 then (if n.next then ((ptrN 8 : Nat) : Int) else 0) else wdB n i := by
  unfold nWords wdB; rfl
theorem wordsB_none {n : NodeP} {ka sa va : Option Addr} {kc sc vc g k : Nat} {kv sv : Value} {wx : World} (h : WMid w n ka sa va kc sc vc g kv sv (wdK n k) wx) (hb : n.bounded = false) (hk : (nKeys n).length = k) : WMid w n ka sa va kc sc vc g kv sv (wdB n) wx := by
  refine h.congr (fun i _ => ?_)
  unfold wdB; rw [hb, nSlots_len, hk]
  by_cases e2 : i = 2
  · subst e2; rw [if_pos rfl, if_neg (by simp)]; exact wdK_small n _ _ (by omega) (by omega)
  · rw [if_neg e2]
    by_cases e3 : i = 3
    · subst e3; rw [if_pos rfl, if_neg (by simp)]; exact wdK_small n _ _ (by omega) (by omega)
    · rw [if_neg e3]
theorem wordsB_empty {n : NodeP} {ka sa va : Option Addr} {kc sc vc g : Nat} {kv sv : Value} {wx : World} (h : WMid w n ka sa va kc sc vc g kv sv (wdK n 0) wx) (hb : n.bounded = true) (hk : (nKeys n).length = 0) :
    WMid w n ka sa va kc sc vc g kv sv (wdB n) ((wx.setCell ⟨g, 2, none⟩ (.int .u64 (n.high : Int))).setCell ⟨g, 3, none⟩ (.int .u64 1)) := by
  refine ((h.set 2 (n.high : Int)).set 3 1).congr (fun i _ => ?_)
  unfold wdB; rw [hb, nSlots_len, hk]
  by_cases e2 : i = 2
  · subst e2; simp
  · by_cases e3 : i = 3
    · subst e3; simp
    · rw [if_neg e2, if_neg e3, if_neg e3, if_neg e2]
theorem wordsB_full {n : NodeP} {ka sa va : Option Addr} {kc sc vc g k : Nat} {kv sv : Value} {wx : World} {key : Int} (h : WMid w n ka sa va kc sc vc g kv sv (fun j => if j = 3 then 1 else (if j = 2 then (n.high : Int) else wdK n k j)) wx) (hb : n.bounded = true) (hk : (nKeys n).length = k) (hk0 : ¬ k = 0)
    (hkey : (nKeys n)[k - 1]? = some key) : WMid w n ka sa va kc sc vc g kv sv (wdB n) (wx.setCell ⟨g, 2, none⟩ (.int .u64 ((n.high : Int) + (key + 1)))).drew := by
  refine ((h.set 2 _).drew).congr (fun i _ => ?_)
  have hg : (nKeys n).getD ((nKeys n).length - 1) 0 = key := by rw [hk]; simp [List.getD, hkey]
  unfold wdB; rw [hb, nSlots_len, hg, hk]
  by_cases e2 : i = 2
  · subst e2; simp [hk0]
  · by_cases e3 : i = 3
    · subst e3; simp
    · rw [if_neg e2, if_neg e3, if_neg e2, if_neg e2, if_neg e3]
theorem words_step {n : NodeP} {ka sa va : Option Addr} {kc sc vc g k s : Nat} {kv sv : Value} {f : Nat → Int} {wx : World} {key sh y : Int} (h : WMid w n ka sa va kc sc vc g kv sv f wx) (hkey : (nKeys n)[k]? = some key)
    (hst : (nSlots n).getD k 0 = s ∧ wdK n (k + 1) 0 = wdK n k 0 + (1 + sh)) (hy : nVal n k = y) (hf : ∀ i, i ≠ 0 → f i = if i = 16 + s then y else if i = 4 + s then key else wdK n k i) :
    WMid w n ka sa va kc sc vc g kv sv (wdK n (k + 1)) (wx.setCell ⟨g, 0, none⟩ (.int .u64 (wdK n k 0 + (1 + sh)))).drew := by
  refine ((h.set 0 (wdK n k 0 + (1 + sh))).drew).congr (fun i _ => ?_)
  by_cases e0 : i = 0
  · subst e0; rw [if_pos rfl, hst.2]
  · rw [if_neg e0, hf i e0]
    show _ = if i = 0 then _ else _
    rw [if_neg e0, hst.1, hy]
    have : (nKeys n).getD k 0 = key := by simp [List.getD, hkey]
    rw [this]

set_option maxRecDepth 100000 in
set_option maxHeartbeats 4000000 in
theorem words_any {n : NodeP} {ka sa va : Option Addr} {kc sc vc : Nat} (h : NodeIn w n ka sa va kc sc vc) :
    Calls Tryz.prog 10 #[.agg (nodeAgg n ka sa va kc sc vc)] w fun r w' => ∃ g, r = .returned (.slice (some ⟨g, 0, none⟩) 28 28) ∧ Row w' g 28 28 (fun i => .int .u64 (nWords n i)) ∧ w.heap.size ≤ g ∧ Below w.heap.size w w' := by
  have hc16 := h.c16
  have H := Lib.hid h; clear h
  unfold nodeAgg
  go_enter Tryz.func10, Tryz.ntmps10
  go_wp2_with fail
  have HR := Lib.hid (words_rep (w := w) n ka sa va kc sc vc)
  (with_reducible refine HR.out.mono ?_)
  rintro e w1 ⟨g, rfl, m1⟩
  have hgs := m1.row.lt
  have l0 : w1.cell? ⟨w.heap.size, 0, none⟩ = some (.int .u8 n.pos) := m1.box.cell rfl
  have l1 : w1.cell? ⟨w.heap.size, 1, none⟩ = some (.slice ka n.ks.length kc) := m1.box.cell rfl
  have l2 : w1.cell? ⟨w.heap.size, 2, none⟩ = some (.slice sa n.ss.length sc) := m1.box.cell rfl
  have l3 : w1.cell? ⟨w.heap.size, 3, none⟩ = some (.slice va n.vs.length vc) := m1.box.cell rfl
  have l4 : w1.cell? ⟨w.heap.size, 4, none⟩ = some (.int .u8 n.high) := m1.box.cell rfl
  have l5 : w1.cell? ⟨w.heap.size, 5, none⟩ = some (.bool n.bounded) := m1.box.cell rfl
  have l6 : w1.cell? ⟨w.heap.size, 6, none⟩ = some (.bool n.next) := m1.box.cell rfl
  have l7 : w1.cell? ⟨w.heap.size, 7, none⟩ = some (.int .u16 n.count) := m1.box.cell rfl
  have hgt := m1.gt
  have hne : ¬ w.heap.size = g := by omega
  have hne2 : ¬ g = w.heap.size := by omega
  have c0 : w1.cell? ⟨g, 0, none⟩ = some (.int .u64 99) := m1.row.cell (by omega)
  have c1 : w1.cell? ⟨g, 1, none⟩ = some (.int .u64 99) := m1.row.cell (by omega)
  have c2 : w1.cell? ⟨g, 2, none⟩ = some (.int .u64 99) := m1.row.cell (by omega)
  have c3 : w1.cell? ⟨g, 3, none⟩ = some (.int .u64 99) := m1.row.cell (by omega)
  have f0 := m1.row.frozen 0; have f1 := m1.row.frozen 1; have f2 := m1.row.frozen 2; have f3 := m1.row.frozen 3
  have M1 := Lib.hid m1
  clear HR m1
  go_wp2_with fail
  obtain ⟨w2, hw2⟩ : ∃ w2, w2 = (((w1.setCell ⟨g, 0, none⟩ (.int .u64 ((n.count : Int) % 4096 * 4503599627370496))).setCell ⟨g, 1, none⟩ (.int .u64 0)).setCell ⟨g, 2, none⟩ (.int .u64 0)).setCell ⟨g, 3, none⟩ (.int .u64 0) := ⟨_, rfl⟩
  rw [← hw2]
  have m2 := words_two M1.out hw2
  have M2 := Lib.hid m2
  clear l0 l1 l2 l3 l4 l5 l6 l7 c0 c1 c2 c3 f0 f1 f2 f3 M1 hgs hw2
  have HK := Lib.hid (keys_any (H.out.below m2.bel))
  clear m2
  (with_reducible refine HK.out.mono ?_)
  rintro e w3 ⟨kv, rfl, a3⟩
  obtain ⟨ka3, kc3, hkv⟩ := a3.slice
  have hkl := nKeys_len n
  have m3 := words_three M2.out a3
  rw [hkv] at m3 ⊢
  rw [show (keysN n.ks).length = (nKeys n).length from rfl] at m3 ⊢
  have l0 : w3.cell? ⟨w.heap.size, 0, none⟩ = some (.int .u8 n.pos) := m3.box.cell rfl
  have l1 : w3.cell? ⟨w.heap.size, 1, none⟩ = some (.slice ka n.ks.length kc) := m3.box.cell rfl
  have l2 : w3.cell? ⟨w.heap.size, 2, none⟩ = some (.slice sa n.ss.length sc) := m3.box.cell rfl
  have l3 : w3.cell? ⟨w.heap.size, 3, none⟩ = some (.slice va n.vs.length vc) := m3.box.cell rfl
  have l4 : w3.cell? ⟨w.heap.size, 4, none⟩ = some (.int .u8 n.high) := m3.box.cell rfl
  have l5 : w3.cell? ⟨w.heap.size, 5, none⟩ = some (.bool n.bounded) := m3.box.cell rfl
  have l6 : w3.cell? ⟨w.heap.size, 6, none⟩ = some (.bool n.next) := m3.box.cell rfl
  have l7 : w3.cell? ⟨w.heap.size, 7, none⟩ = some (.int .u16 n.count) := m3.box.cell rfl
  have M3 := Lib.hid m3
  have HS := Lib.hid (slots_any (H.out.below m3.bel) (nKeys n).length hkl)
  clear m3 a3 hkv HK M2
  go_wp2_with fail
  (with_reducible refine HS.out.mono ?_)
  rintro e w4 ⟨sv, rfl, a4⟩
  obtain ⟨sa4, sc4, hsv⟩ := a4.slice
  have m4 := words_four M3.out a4
  have hsl := nSlots_len n
  have hns : (nodeSlots (nKeys n).length n.ss).length = (nKeys n).length := hsl
  rw [hsv] at m4 ⊢
  rw [hns] at m4 ⊢
  have M4 := Lib.hid m4
  clear l0 l1 l2 l3 l4 l5 l6 l7 HS M3 a4 hsv m4 hns hsl
  generalize hkn : (nKeys n).length = kn at *
  have HKN := Lib.hid hkn; clear hkn
  go_wp2_with fail
  go_loopw [31] (fun x wr => ∃ k : Nat, k ≤ kn ∧ x = .int .i64 k ∧ WMid w n ka sa va kc sc vc g (.slice ka3 kn kc3) (.slice sa4 kn sc4) (wdK n k) wr) (fun x _ => kn - (intOf x).toNat)
  case atStart => exact ⟨0, by omega, rfl, M4.out⟩
  case round =>
    obtain ⟨k, hk, rfl, hm⟩ := hrel
    have M := Lib.hid hm
    clear M4
    by_cases hlt : k < kn
    · obtain ⟨key, hkey⟩ : ∃ x, (nKeys n)[k]? = some x := ⟨_, List.getElem?_eq_getElem (by rw [HKN.out]; exact hlt)⟩
      obtain ⟨s, hs⟩ : ∃ x, (nSlots n)[k]? = some x := ⟨_, List.getElem?_eq_getElem (by rw [nSlots_len, HKN.out]; exact hlt)⟩
      have hs12 := nSlots_lt n s (List.mem_of_getElem? hs)
      obtain ⟨b1, o1, hb1, hc1⟩ := slice_cell hm.keys (intsU_get (nKeys n) k key hkey)
      obtain ⟨b2, o2, hb2, hc2⟩ := slice_cell hm.slots (show (natsI (nSlots n))[k]? = some (.int .i64 s) by simp [natsI, hs])
      subst hb1 hb2
      have cg4 : wr.cell? ⟨g, 4 + s, none⟩ = some (.int .u64 (wdK n k (4 + s))) := hm.row.cell (by omega)
      have cg16 : wr.cell? ⟨g, 16 + s, none⟩ = some (.int .u64 (wdK n k (16 + s))) := hm.row.cell (by omega)
      have fg4 := hm.row.frozen (4 + s); have fg16 := hm.row.frozen (16 + s)
      have nb1 : ¬ b1 = g := hm.kg b1 rfl
      have nb2 : ¬ b2 = g := hm.sg b2 rfl
      have l3 : wr.cell? ⟨w.heap.size, 3, none⟩ = some (.slice va n.vs.length vc) := hm.box.cell rfl
      have hgs := hm.row.lt
      have ns : ¬ 4 + s = 16 + s := by omega
      have ns2 : ¬ 16 + s = 4 + s := by omega
      have hsi : (4 + (s : Int)).toNat = 4 + s := by omega
      have hsi2 : (16 + (s : Int)).toNat = 16 + s := by omega
      have HKEY := Lib.hid hkey; have HSL := Lib.hid hs
      clear hm hkey hs
      by_cases hvl : k < n.vs.length
      · obtain ⟨vx, hvx⟩ : ∃ x, n.vs[k]? = some x := ⟨_, List.getElem?_eq_getElem hvl⟩
        obtain ⟨b3, o3, hb3, hc3⟩ := slice_cell (H.out.below M.out.bel).vs (intsK_get .u64 n.vs k vx hvx)
        subst hb3
        have nb3' : b3 < w.heap.size := World.block_lt_of_cell? w _ (slice_at H.out.vs (intsK_get .u64 n.vs k vx hvx))
        have nb3 : ¬ b3 = g := by omega
        have hvl' : (k : Int) < n.vs.length := by omega
        have HVX := Lib.hid hvx; clear hvx
        go_upto_region 11 with fail
        obtain ⟨wx, hwx⟩ : ∃ wx, wx = (((wr.setCell ⟨g, 4 + s, none⟩ (.int .u64 key)).setCell ⟨g, 16 + s, none⟩ (.int .u64 (k : Int))).setCell ⟨g, 16 + s, none⟩ (.int .u64 vx)) := ⟨_, rfl⟩
        rw [← hwx]
        have mx := ((M.out.set (4 + s) key).set (16 + s) (k : Int)).set (16 + s) vx
        rw [← hwx] at mx
        have MX := Lib.hid mx
        have c0 : wx.cell? ⟨g, 0, none⟩ = some (.int .u64 (wdK n k 0)) := by have := mx.row.cell (i := 0) (by omega); rw [this]; simp; omega
        have f0 := mx.row.frozen 0
        have hgx := mx.row.lt
        clear hwx mx cg4 cg16 fg4 fg16 l3 hc1 hc2 M hgs nb1 nb2
        have hw0 := wdK_zero_lt n k (by rw [nSlots_len, HKN.out]; omega)
        have hw1 := wdK_zero_lt n (k + 1) (by rw [nSlots_len, HKN.out]; omega)
        have hgd : (nSlots n).getD k 0 = s := by simp [List.getD, HSL.out]
        have hstep : wdK n (k + 1) 0 = wdK n k 0 + (1 + ((s * 2 ^ (4 + 4 * k) : Nat) : Int)) := by rw [← hgd]; rfl
        have hsh0 : s * 2 ^ (4 + 4 * k) < 18446744073709551616 := by omega
        have hsc : ((s : Int) * 2 ^ (4 + 4 * k)) = ((s * 2 ^ (4 + 4 * k) : Nat) : Int) := by simp
        have hsh : IntKind.u64.wrap ((s : Int) * 2 ^ (4 + 4 * k)) = ((s * 2 ^ (4 + 4 * k) : Nat) : Int) := by rw [hsc]; exact IntWalk.u64_in _ (by omega)
        clear hsc
        generalize s * 2 ^ (4 + 4 * k) = sh at *
        have hx1 : IntKind.u64.wrap (1 + (sh : Int)) = 1 + (sh : Int) := IntWalk.u64_in _ (by omega)
        have hx2 : IntKind.u64.wrap (wdK n k 0 + (1 + (sh : Int))) = wdK n k 0 + (1 + (sh : Int)) := IntWalk.u64_in _ (by omega)
        have HST := Lib.hid (And.intro hgd hstep)
        clear hstep hgd hw0 hw1
        go_region
        all_goals go_wp2_with fail
        go_roundw
        case rel => exact ⟨k + 1, by omega, by go_num, words_step MX.out HKEY.out HST.out (y := vx) (by unfold nVal; rw [if_pos hvl, List.getD, HVX.out, Option.getD_some]) (fun i _ => by by_cases e : i = 16 + s <;> simp [e])⟩
        case measure => simp [intOf]; omega
      · have hvl' : ¬ (k : Int) < n.vs.length := by omega
        go_upto_region 11 with fail
        obtain ⟨wx, hwx⟩ : ∃ wx, wx = ((wr.setCell ⟨g, 4 + s, none⟩ (.int .u64 key)).setCell ⟨g, 16 + s, none⟩ (.int .u64 (k : Int))) := ⟨_, rfl⟩
        rw [← hwx]
        have mx := (M.out.set (4 + s) key).set (16 + s) (k : Int)
        rw [← hwx] at mx
        have MX := Lib.hid mx
        have c0 : wx.cell? ⟨g, 0, none⟩ = some (.int .u64 (wdK n k 0)) := by have := mx.row.cell (i := 0) (by omega); rw [this]; simp; omega
        have f0 := mx.row.frozen 0
        have hgx := mx.row.lt
        clear hwx mx cg4 cg16 fg4 fg16 l3 hc1 hc2 M hgs nb1 nb2
        have hw0 := wdK_zero_lt n k (by rw [nSlots_len, HKN.out]; omega)
        have hw1 := wdK_zero_lt n (k + 1) (by rw [nSlots_len, HKN.out]; omega)
        have hgd : (nSlots n).getD k 0 = s := by simp [List.getD, HSL.out]
        have hstep : wdK n (k + 1) 0 = wdK n k 0 + (1 + ((s * 2 ^ (4 + 4 * k) : Nat) : Int)) := by rw [← hgd]; rfl
        have hsh0 : s * 2 ^ (4 + 4 * k) < 18446744073709551616 := by omega
        have hsc : ((s : Int) * 2 ^ (4 + 4 * k)) = ((s * 2 ^ (4 + 4 * k) : Nat) : Int) := by simp
        have hsh : IntKind.u64.wrap ((s : Int) * 2 ^ (4 + 4 * k)) = ((s * 2 ^ (4 + 4 * k) : Nat) : Int) := by rw [hsc]; exact IntWalk.u64_in _ (by omega)
        clear hsc
        generalize s * 2 ^ (4 + 4 * k) = sh at *
        have hx1 : IntKind.u64.wrap (1 + (sh : Int)) = 1 + (sh : Int) := IntWalk.u64_in _ (by omega)
        have hx2 : IntKind.u64.wrap (wdK n k 0 + (1 + (sh : Int))) = wdK n k 0 + (1 + (sh : Int)) := IntWalk.u64_in _ (by omega)
        have HST := Lib.hid (And.intro hgd hstep)
        clear hstep hgd hw0 hw1
        go_region
        all_goals go_wp2_with fail
        go_roundw
        case rel => exact ⟨k + 1, by omega, by go_num, words_step MX.out HKEY.out HST.out (by unfold nVal; rw [if_neg hvl]) (fun i _ => rfl)⟩
        case measure => simp [intOf]; omega
    · obtain rfl : k = kn := by omega
      obtain ⟨bd, hbd⟩ : ∃ b, n.bounded = b := ⟨_, rfl⟩
      have l5 : wr.cell? ⟨w.heap.size, 5, none⟩ = some (.bool bd) := by rw [← hbd]; exact hm.box.cell rfl
      have HBB := Lib.hid hbd; clear hbd
      have l4 : wr.cell? ⟨w.heap.size, 4, none⟩ = some (.int .u8 n.high) := hm.box.cell rfl
      have c2 : wr.cell? ⟨g, 2, none⟩ = some (.int .u64 (wdK n k 2)) := hm.row.cell (by omega)
      have c3 : wr.cell? ⟨g, 3, none⟩ = some (.int .u64 (wdK n k 3)) := hm.row.cell (by omega)
      have f2 := hm.row.frozen 2; have f3 := hm.row.frozen 3
      have hgs := hm.row.lt
      have hh8 := H.out.h8
      clear hm
      go_upto_if 78 with fail
      go_cut [] (fun wx => WMid w n ka sa va kc sc vc g (.slice ka3 k kc3) (.slice sa4 k sc4) (wdB n) wx)
      case first =>
        have hbb : bd = true ∨ bd = false := by cases bd <;> simp
        rcases hbb with rfl | rfl
        · by_cases hk0 : k = 0
          · subst hk0
            rw [show ((0 : Nat) : Int) = 0 from rfl]
            go_wp2_with fail
            go_meet
            exact wordsB_empty M.out HBB.out HKN.out
          · have hk0' : (0 : Int) < k := by omega
            have hk0n : 0 < k := by omega
            obtain ⟨key, hkey⟩ : ∃ x, (nKeys n)[k - 1]? = some x := ⟨_, List.getElem?_eq_getElem (by rw [HKN.out]; omega)⟩
            obtain ⟨b1, o1, hb1, hc1⟩ := slice_cell M.out.keys (intsU_get (nKeys n) (k - 1) key hkey)
            subst hb1
            have hkb := keysN_mem n.ks H.out.k8 key (List.mem_of_getElem? hkey)
            have nb1 : ¬ b1 = g := M.out.kg b1 rfl
            have HKEY := Lib.hid hkey; clear hkey
            go_upto_region 16 with fail
            obtain ⟨wx, hwx⟩ : ∃ wx, wx = (wr.setCell ⟨g, 2, none⟩ (.int .u64 (n.high : Int))).setCell ⟨g, 3, none⟩ (.int .u64 1) := ⟨_, rfl⟩
            rw [← hwx]
            have mx := (M.out.set 2 (n.high : Int)).set 3 1
            rw [← hwx] at mx
            have MX := Lib.hid mx
            have d2 : wx.cell? ⟨g, 2, none⟩ = some (.int .u64 (n.high : Int)) := by have := mx.row.cell (i := 2) (by omega); rw [this]; simp
            have e2 := mx.row.frozen 2
            have hgx := mx.row.lt
            have hc1x : wx.cell? ⟨b1, o1 + (k - 1), none⟩ = some (.int .u64 key) := slice_at mx.keys (intsU_get (nKeys n) (k - 1) key HKEY.out)
            have hi1 : IntKind.i64.wrap ((k : Int) - 1) = (k : Int) - 1 := IntWalk.i64_in _ (by omega)
            have hi2 : ((k : Int) - 1).toNat = k - 1 := by omega
            have hi3 : (0 : Int) ≤ (k : Int) - 1 := by omega
            have hi4 : (1 : Int) ≤ (k : Int) := by omega
            have hx1 : IntKind.u64.wrap (key + 1) = key + 1 := IntWalk.u64_in _ (by omega)
            have hx2 : IntKind.u64.wrap ((n.high : Int) + (key + 1)) = (n.high : Int) + (key + 1) := IntWalk.u64_in _ (by omega)
            clear hwx mx c2 c3 f2 f3 l4 l5 hc1 hgs
            go_region
            all_goals go_wp2_with fail
            go_meet
            exact wordsB_full MX.out HBB.out HKN.out hk0 HKEY.out
        · go_wp2_with fail
          go_meet
          exact wordsB_none M.out HBB.out HKN.out
      case rest =>
        have MB := Lib.hid hcut
        obtain ⟨wb, hwb⟩ : ∃ x, x = wc := ⟨_, rfl⟩
        subst hwb
        obtain ⟨nx, hnx⟩ : ∃ b, n.next = b := ⟨_, rfl⟩
        have l6 : wb.cell? ⟨w.heap.size, 6, none⟩ = some (.bool nx) := by rw [← hnx]; exact hcut.box.cell rfl
        have HNN := Lib.hid hnx; clear hnx
        have d1 : wb.cell? ⟨g, 1, none⟩ = some (.int .u64 (wdB n 1)) := hcut.row.cell (by omega)
        have e1 := hcut.row.frozen 1
        have hgb := hcut.row.lt
        clear hcut l5 l4 c2 c3 f2 f3 M hgs
        have hnn : nx = true ∨ nx = false := by cases nx <;> simp
        rcases hnn with rfl | rfl
        · have hM := make_any (w := wb) 8 (by omega) (by decide) (by omega)
          rw [show ((8 : Nat) : Int) = 8 from rfl] at hM
          have HM := Lib.hid hM; clear hM
          go_wp2_with fail
          (with_reducible refine HM.out.mono ?_)
          rintro e w' ⟨rfl, rfl⟩
          go_wp2_with fail
          go_ret
          refine ⟨g, rfl, ((MB.out.set 1 (ptrN 8 : Nat)).row.congr (fun i _ => ?_)), Nat.le_of_lt hgt, (MB.out.set 1 (ptrN 8 : Nat)).bel⟩
          rw [nWords_eq, HNN.out, if_pos rfl]
        · go_wp2_with fail
          go_ret
          refine ⟨g, rfl, (MB.out.row.congr (fun i _ => ?_)), Nat.le_of_lt hgt, MB.out.bel⟩
          rw [nWords_eq, HNN.out]
          by_cases e : i = 1
          · subst e; rw [if_pos rfl, wdB_one]; rfl
          · rw [if_neg e]
end
end Go.Proofs.YtgdcjedcinapdaaGreat

/- The walk of device.New. -/
namespace Go.Proofs.YtgdcjedcinapdaaGreat
open Go.RowKit

section
variable {w : World}
set_option maxRecDepth 100000 in
set_option maxHeartbeats 1000000 in
theorem new_any (n : Nat) (h0 : 0 < n) (hn : n ≤ 4096) :
    Calls Tryz.prog 49 #[.int .i64 n] w fun r w' => ∃ v own, r = .returned (.tuple #[.pointer (some ⟨v.db, 0, none⟩), .int .i64 0]) ∧ IsDev w' v own (Dev.fresh n (fun _ => 0)) ∧ (∀ k, own k ≠ none → w.heap.size ≤ k) ∧ Below w.heap.size w w' := by
  obtain ⟨i0, hi, hz0, hz1, hz2⟩ := info_parts infoU64
  have hmk := fun (wx : World) => run_make (P := Tryz.prog) wx 23 28 i0 _ Tryz.underlying23 hi hz0 .i64 .i64 ((n : Int) * 8) ((n : Int) * 8) (by omega) (by omega) (by rw [hz2]; omega) (by omega)
  simp only [hz1] at hmk
  rw [show ((n : Int) * 8).toNat = 8 * n from by omega] at hmk
  clear hi hz0 hz1 hz2
  have h1 : ¬ (n : Int) < 1 := by omega
  have h2 : ¬ (4096 : Int) < n := by omega
  have hrow : Row (w.alloc (.cells (madeCells #[.int .u64 0] (8 * n)) 28)) w.heap.size (8 * n) 28 (fun i => .int .u64 0) := by
    refine Row.new w _ _ _ _ (fun i hi => ?_)
    simp [madeCells, hi, Nat.mod_one]
  have HR := Lib.hid (of_any w.heap.size (8 * n) n (fun _ => 0) hrow h0 hn (Nat.le_refl _))
  clear hrow
  go_enter Tryz.func49, Tryz.ntmps49
  go_wp2_with fail
  (with_reducible refine HR.out.mono ?_)
  rintro e w1 ⟨v, own, rfl, e1, e2, d, o, b⟩
  have X := Lib.hid (And.intro e1 (And.intro d (And.intro o b)))
  clear e1 e2 d o b
  go_wp2_with fail
  go_ret2
  refine ⟨v, own, rfl, X.out.2.1, fun k hk => ?_, ?_⟩
  · rcases X.out.2.2.1 k hk with h | h
    · omega
    · simp at h; omega
  · refine Below.trans ((Below.refl _ _).alloc (Nat.le_refl _) _) (X.out.2.2.2.mono (by simp))
end
end Go.Proofs.YtgdcjedcinapdaaGreat

/- A device that is on and not armed; the law's put. -/
namespace Go.Proofs.YtgdcjedcinapdaaGreat
open Go.RowKit

/-- On, not armed, no error; its words are C. -/
structure Live (D : Dev) (n x : Nat) (C : Nat → Int) : Prop where
  n : D.n = n
  off : D.off = false
  armed : D.armed = false
  exec : D.exec ≤ x
  err : ∀ j, D.err j = 0
  cur : ∀ i, D.cur i = C i

namespace Live
variable {D : Dev} {n x : Nat} {C : Nat → Int}
theorem counted (h : Live D n x C) : D.countedB true = true := by simp [Dev.countedB, Dev.onB, Dev.cut, h.off, h.armed]
theorem ticked (h : Live D n x C) (j : Nat) : D.countedD j true = D.tick := by simp [Dev.countedD, Dev.onB, Dev.cut, h.off, h.armed]
theorem tick (h : Live D n x C) : Live D.tick n (x + 1) C := ⟨h.n, h.off, h.armed, Nat.succ_le_succ h.exec, h.err, h.cur⟩
theorem store (h : Live D n x C) (j off : Nat) (u : Int) (h8 : off % 8 = 0) (hl : off < 64 * n) : Live (D.store j off u) n (x + 1) (fun i => if i = off / 8 then u else C i) := by
  have hw : D.wordB off = true := by simp [Dev.wordB, h.n, h8, hl]
  have e : D.store j off u = D.tick.put off u := by unfold Dev.store; rw [hw, h.counted, h.ticked]; rfl
  have t := h.tick
  rw [e]
  exact ⟨t.n, t.off, t.armed, t.exec, t.err, fun i => by rw [Dev.put_cur]; split; rfl; exact t.cur i⟩
theorem flush (h : Live D n x C) (j off : Nat) (hl : off < 64 * n) : Live (D.flush j off) n (x + 1) C := by
  have hw : D.inB off = true := by simp [Dev.inB, h.n, hl]
  have e : D.flush j off = D.tick.jot j (off / 64) := by unfold Dev.flush; rw [hw, h.counted, h.ticked]; rfl
  have t := h.tick
  rw [e]
  exact ⟨t.n, t.off, t.armed, t.exec, t.err, t.cur⟩
theorem sync_cur (D : Dev) (j i : Nat) : (D.sync j).cur i = D.cur i := by
  show look ((D.hist (i / 8)).drop _) (look ((D.hist (i / 8)).take _) (D.pers i) i) i = look (D.hist (i / 8)) (D.pers i) i
  rw [← look_append, List.take_append_drop]
theorem fence (h : Live D n x C) (j : Nat) : Live (D.fence j) n (x + 1) C := by
  have e : D.fence j = D.tick.sync j := by unfold Dev.fence; rw [h.counted, h.ticked]; rfl
  have t := h.tick
  rw [e]
  exact ⟨t.n, t.off, t.armed, t.exec, t.err, fun i => by rw [sync_cur]; exact t.cur i⟩
theorem fresh (n : Nat) (f : Nat → Int) : Live (Dev.fresh n f) n 0 f := ⟨rfl, rfl, rfl, Nat.le_refl _, fun _ => rfl, fun _ => rfl⟩
theorem congr (h : Live D n x C) {C' : Nat → Int} {x' : Nat} (hx : x ≤ x') (hC : ∀ i, C i = C' i) : Live D n x' C' := ⟨h.n, h.off, h.armed, Nat.le_trans h.exec hx, h.err, fun i => by rw [h.cur, hC]⟩
end Live

/-- C, with the words l from word o on. -/
def laid (C : Nat → Int) (o : Nat) (l : List Int) (i : Nat) : Int := if o ≤ i ∧ i < o + l.length then l.getD (i - o) 0 else C i

def intsV (l : List Int) : List Value := l.map (.int .u64 ·)
/-- The device is live with the words C, and nothing but its own blocks has changed since w. -/
def LPost (v : DV) (own : Nat → Option Role) (w : World) (n x : Nat) (C : Nat → Int) (w' : World) : Prop := ∃ D', DPost v own w D' w' ∧ Live D' n x C

theorem LPost.start {v : DV} {own : Nat → Option Role} {w : World} {D : Dev} {n x : Nat} {C : Nat → Int} (h : IsDev w v own D) (hl : Live D n x C) : LPost v own w n x C w := ⟨D, DPost.refl h, hl⟩
/-- One step more, from the device as it stands. -/
theorem LPost.next {v : DV} {own own1 : Nat → Option Role} {w w1 w2 : World} {D2 : Dev} {n x2 : Nat} {C2 : Nat → Int}
    (ho : ∀ k, k < w.heap.size → own1 k = own k) (hu : Upd (fun k => own k ≠ none) w w1) (h2 : DPost v own1 w1 D2 w2) (hl : Live D2 n x2 C2) : LPost v own w n x2 C2 w2 :=
  ⟨D2, DPost.trans hu.size ho hu h2, hl⟩

section
variable {w : World} {v : DV} {own : Nat → Option Role} {D : Dev}

theorem laid_step (C : Nat → Int) (o : Nat) (l : List Int) (k : Nat) (hk : k < l.length) (off : Nat) (ho : off = 8 * o) (i : Nat) :
    (if i = (off + 8 * k) / 8 then l.getD k 0 else laid C o (l.take k) i) = laid C o (l.take (k + 1)) i := by
  subst ho
  have e : (8 * o + 8 * k) / 8 = o + k := by omega
  rw [e]
  unfold laid
  have h1 : (l.take k).length = k := by rw [List.length_take]; omega
  have h2 : (l.take (k + 1)).length = k + 1 := by rw [List.length_take]; omega
  rw [h1, h2]
  by_cases e1 : i = o + k
  · subst e1
    rw [if_pos rfl, if_pos (by omega), show o + k - o = k by omega]
    simp [List.getD, hk]
  · rw [if_neg e1]
    by_cases e2 : o ≤ i ∧ i < o + k
    · rw [if_pos e2, if_pos (by omega)]
      simp only [List.getD, List.getElem?_take]
      rw [if_pos (by omega), if_pos (by omega)]
    · rw [if_neg e2, if_neg (by omega)]

theorem put_zero {n x : Nat} {C : Nat → Int} {o : Nat} {l : List Int} (h : LPost v own w n x C w) : LPost v own w n (x + 2 * 0) (laid C o (l.take 0)) w := by
  obtain ⟨D1, p, q⟩ := h
  refine ⟨D1, p, q.congr (Nat.le_refl _) (fun i => ?_)⟩
  unfold laid; rw [if_neg (by simp)]

theorem put_step {own1 own2 : Nat → Option Role} {w1 w2 w3 : World} {D3 : Dev} {n x3 : Nat} {C3 C4 : Nat → Int}
    (o1 : ∀ k, k < w.heap.size → own1 k = own k) (u1 : Upd (fun k => own k ≠ none) w w1) (o2 : ∀ k, k < w1.heap.size → own2 k = own1 k) (u2 : Upd (fun k => own1 k ≠ none) w1 w2)
    (h : DPost v own2 w2 D3 w3) (hl : Live D3 n x3 C3) (hC : ∀ i, C3 i = C4 i) : LPost v own w n x3 C4 w3 :=
  ⟨D3, DPost.trans u1.size o1 u1 (DPost.trans u2.size o2 u2 h), hl.congr (Nat.le_refl _) hC⟩

set_option maxRecDepth 100000 in
set_option maxHeartbeats 2000000 in
theorem put_any {n x : Nat} {C : Nat → Int} (h : IsDev w v own D) (hl : Live D n x C) (off : Nat) (sv : Value) (l : List Int) (h8 : off % 8 = 0) (hb : off + 8 * l.length ≤ 64 * n) (hx : x + 2 * l.length < 4294967295)
    (hs : RdSl w 1 sv l.length (intsV l)) (hown : ∀ k, sv.ownBlock = some k → own k = none) :
    Calls Tryz.prog 11 #[.pointer (some ⟨v.db, 0, none⟩), .int .u64 off, sv] w fun r w' => r = .returned (.tuple #[]) ∧ LPost v own w n (x + 2 * l.length + 1) (laid C (off / 8) l) w' := by
  have hn := h.wf.le
  rw [hl.n] at hn
  have hll : l.length ≤ 32768 := by omega
  obtain ⟨_, a, c, rfl, hc, ha⟩ := hs
  have hT := thread_any h (j := 0) (by omega)
  rw [show ((0 : Nat) : Int) = 0 from rfl] at hT
  have HT := Lib.hid hT; clear hT
  have HM : Hid (LPost v own w n x C w) := Lib.hid (LPost.start h hl)
  go_enter Tryz.func11, Tryz.ntmps11
  go_wp2_with (go_at_call 34; (with_reducible refine HT.out.mono ?_); rintro e w' ⟨rfl, rfl⟩)
  have HA := Lib.hid ha; have HOWN := Lib.hid hown; clear ha hown HT
  go_loopw [13] (fun i wr => ∃ k : Nat, k ≤ l.length ∧ i = .int .i64 k ∧ LPost v own w n (x + 2 * k) (laid C (off / 8) (l.take k)) wr) (fun i _ => l.length - (intOf i).toNat)
  case atStart => exact ⟨0, Nat.zero_le _, rfl, put_zero HM.out⟩
  case round =>
    obtain ⟨k, hk, rfl, D1, ⟨own1, d1, o1, u1⟩, l1⟩ := hrel
    have U := Lib.hid (And.intro o1 u1); clear o1 u1
    by_cases hlt : k < l.length
    · obtain ⟨y, hy⟩ : ∃ y, l[k]? = some y := ⟨_, List.getElem?_eq_getElem hlt⟩
      have hyv : (intsV l)[k]? = some (.int .u64 y) := by simp [intsV, hy]
      obtain ⟨sb, so, rfl, hcl⟩ := rd_at HA.out hyv
      have e1 : wr.cell? ⟨sb, so + k, none⟩ = some (.int .u64 y) := by
        have hlt' := World.block_lt_of_cell? w _ (hcl _ _ hyv)
        exact (World.cell?_of_block (U.out.2.block sb hlt' (by simp [HOWN.out sb rfl]))).trans (hcl _ _ hyv)
      have HD := Lib.hid d1; have HL := Lib.hid l1; have HY := Lib.hid hy
      have hex := l1.exec
      have hS := store_any d1 (j := 0) (by omega) (off + 8 * k) y (by omega)
      have hcast : ((off + 8 * k : Nat) : Int) = (off : Int) + 8 * (k : Int) := by omega
      rw [hcast] at hS
      have HS := Lib.hid hS; have HC := Lib.hid hcast; clear hcast
      clear hcl hyv hy d1 l1 hS hex
      go_wp2_with fail
      (with_reducible refine HS.out.mono ?_)
      rintro e w2 ⟨rfl, own2, d2, o2, u2⟩
      have l2 := HL.out.store 0 (off + 8 * k) y (by omega) (by omega)
      have U2 := Lib.hid (And.intro o2 u2); clear o2 u2 HS
      have hex := l2.exec
      have hF := flush_any d2 (j := 0) (by omega) (off + 8 * k) (by omega) (by omega)
      rw [HC.out] at hF
      have HF := Lib.hid hF; clear hF
      have HL2 := Lib.hid l2
      clear d2 l2 hex HD
      go_wp2_with fail
      (with_reducible refine HF.out.mono ?_)
      rintro e w3 ⟨rfl, hp3⟩
      have l3 := HL2.out.flush 0 (off + 8 * k) (by omega)
      have H3 := Lib.hid (And.intro hp3 l3)
      clear hp3 l3 HF
      go_wp2_with fail
      go_roundw
      case rel =>
        refine ⟨k + 1, by omega, by go_num, ?_⟩
        refine put_step U.out.1 U.out.2 U2.out.1 U2.out.2 H3.out.1 H3.out.2 (fun i => ?_)
        have := laid_step C (off / 8) l k hlt off (by omega) i
        rw [← this]; simp only [List.getD, HY.out, Option.getD_some]
      case measure => simp [intOf]; omega
    · have hkl : k = l.length := by omega
      have hex := l1.exec
      have HF := Lib.hid (fence_any d1 (j := 0) (by omega) (by omega))
      have HL := Lib.hid l1
      clear d1 l1 hex
      go_wp2_with fail
      (with_reducible refine HF.out.mono ?_)
      rintro e w3 ⟨rfl, hp3⟩
      have l3 := HL.out.fence 0
      have H3 := Lib.hid (And.intro hp3 l3)
      clear hp3 l3 HF
      go_wp2_with fail
      go_end0
      refine ⟨rfl, ?_⟩
      have := LPost.next U.out.1 U.out.2 H3.out.1 H3.out.2
      rw [hkl, List.take_length] at this
      exact this
end
end Go.Proofs.YtgdcjedcinapdaaGreat

/- The chapter's example: its plain facts, and the walk of awake. -/
namespace Go.Proofs.YtgdcjedcinapdaaGreat
open Go.RowKit

def exW : Nat → Int := encW [5, 9] [1, 2] 0 0 false
def exL : List Int := (List.range 28).map exW

theorem ex0 : (exW 0).toNat = 258 := by decide
theorem ex_slots : slotsW exW = [0, 1] := by decide
theorem ex_parse : parseOk 258 := by
  refine ⟨by decide, fun i hi => ⟨fun h => ?_, fun h => ⟨?_, fun j hj => ?_⟩⟩⟩
  · have : ∀ i, i < 12 → 258 % 16 ≤ i → nib 258 i = 0 := by decide
    exact this i hi h
  · have : ∀ i, i < 12 → nib 258 i < 12 := by decide
    exact this i hi
  · have : ∀ i, i < 2 → ∀ j, j < i → nib 258 j ≠ nib 258 i := by decide
    exact this i h j hj
theorem ex_valid : validC exW [0, 1] 768 := by
  refine ⟨fun i h0 h1 => ?_, .inl ⟨by decide, by decide⟩, .inl (by decide)⟩
  have e : i = 1 := by simp at h1; omega
  subst e; decide
theorem ex_ok : nodeOk exW 768 := by
  unfold nodeOk; rw [ex_slots, ex0]; exact ⟨ex_parse, ex_valid⟩
theorem ex_get : getV exW 9 = .tuple #[.int .u64 2, .int .i64 0] := by
  unfold getV; rw [ex_slots, if_pos (by decide), show findIdx exW 9 [0, 1] = 1 by decide, show exW (16 + [0, 1].getD 1 0) = 2 by decide]
theorem ex_find : findIdx exW 7 [0, 1] = 1 := by decide
theorem ex_found : foundB exW 7 [0, 1] = false := by decide
theorem ex_unused : unusedN [0, 1] = 2 := by decide
theorem ex_put : putNew exW 8 7 1 1 2 = [(1, 56, 7), (1, 152, 1), (2, 0, 0), (2, 128, 0), (3, 0, 0), (1, 8, 4503599627375107), (2, 8, 0), (3, 0, 0)] := by
  unfold putNew; rw [ex_slots, ex0]; decide
theorem ex_node (D : Dev) (n x : Nat) (h : Live D n x (laid (fun _ => 0) 1 exL)) : nodeW D (ptrN 8) = exW := by
  funext i
  unfold nodeW
  rw [h.cur, show ptrOff (ptrN 8) / 8 = 1 by decide]
  unfold laid
  have hl : exL.length = 28 := by simp [exL]
  rw [hl]
  by_cases hi : i < 28
  · rw [if_pos (by omega), show 1 + i - 1 = i by omega]
    simp [exL, List.getD, hi]
  · rw [if_neg (by omega)]
    unfold exW encW encF
    rw [if_neg (by omega), if_neg (by omega), if_neg (by omega), if_neg (by omega), if_neg (by simp; omega), if_neg (by simp; omega)]
theorem ex_enc {w w' : World} {r : Ending} (h : EncPost w [5, 9] [1, 2] 0 0 false r w') : Encoded w [5, 9] [1, 2] 0 0 false r w' := by
  refine h.1 (fun i hi => ?_)
  have : i = 0 ∨ i = 1 := by simp at hi; omega
  rcases this with rfl | rfl <;> simp [badAt]

section
variable {w : World}
theorem ex_two {w1 w2 : World} {v : DV} {own : Nat → Option Role} {g : Nat} {o1 o2 : Obj} (h : IsDev w1 v own (Dev.fresh 12 fun _ => 0) ∧ (∀ k, own k ≠ none → w.heap.size ≤ k) ∧ Below w.heap.size w w1)
    (r : Row w2 g 28 28 (fun i => .int .u64 (encW [5, 9] [1, 2] 0 0 false i))) (g2 : ((w1.alloc o1).alloc o2).heap.size ≤ g) (b : Below ((w1.alloc o1).alloc o2).heap.size ((w1.alloc o1).alloc o2) w2) :
    IsDev w2 v own (Dev.fresh 12 fun _ => 0) ∧ RdSl w2 1 (.slice (some ⟨g, 0, none⟩) 28 28) exL.length (intsV exL) ∧ (∀ k, (Value.slice (some ⟨g, 0, none⟩) 28 28).ownBlock = some k → own k = none) ∧ (∀ k, own k ≠ none → w.heap.size ≤ k) ∧ Below w.heap.size w w2 := by
  have b1 : Below w1.heap.size w1 w2 := ((below_alloc w1 o1).trans ((below_alloc _ o2).mono (by simp))).trans (b.mono (by simp; omega))
  refine ⟨h.1.kept b1.size (fun k hk => b1.block k (h.1.lt k hk)), ?_, ?_, h.2.1, h.2.2.trans (b1.mono h.2.2.size)⟩
  · refine ⟨by simp [intsV], _, _, rfl, by simp [exL], .inr ⟨g, 0, rfl, fun j u hu => ?_⟩⟩
    have hj : j < 28 := by
      rcases Nat.lt_or_ge j 28 with h | h
      · exact h
      · rw [List.getElem?_eq_none (by simp [intsV, exL]; exact h)] at hu; cases hu
    have : u = .int .u64 (exW j) := by simp [intsV, exL, hj] at hu; exact hu.symm
    rw [this, Nat.zero_add]; exact r.cell hj
  · intro k hk
    simp [Value.ownBlock] at hk
    subst hk
    rcases ho : own g with _ | x
    · rfl
    · have := h.1.lt g (by simp [ho]); simp at g2; omega
theorem ex_thread {v : DV} {own : Nat → Option Role} {D : Dev} (h : IsDev w v own D) : Calls Tryz.prog 34 #[.pointer (some ⟨v.db, 0, none⟩), .int .i64 0] w fun r w' => r = .returned (.pointer (some ⟨v.tb 0, 0, none⟩)) ∧ w = w' := by
  have := thread_any h (j := 0) (by omega)
  exact this
theorem ex_three {w2 w3 : World} {v : DV} {own own3 : Nat → Option Role} {D : Dev} {x : Nat} (hl : Live D 12 x (laid (fun _ => 0) (8 / 8) exL)) (hd : IsDev w3 v own3 D) (hu : Upd (fun k => own k ≠ none) w2 w3)
    (h : (∀ k, own k ≠ none → w.heap.size ≤ k) ∧ Below w.heap.size w w2) : (NodeAt w3 v own3 D 0 (ptrN 8) ∧ nodeW D (ptrN 8) = exW ∧ D.n = 12) ∧ Below w.heap.size w w3 := by
  have e := ex_node D 12 x hl
  refine ⟨⟨⟨hd, by omega, by decide, by decide, hl.off, hl.err 0, by rw [hl.n]; decide, fun i hi => ?_⟩, e, hl.n⟩, ?_⟩
  · rw [e]; have : ∀ i, i < 28 → 0 ≤ exW i ∧ exW i < 18446744073709551616 := by decide
    exact this i hi
  · refine h.2.trans ⟨hu.os, hu.tape, hu.output, hu.size, fun k hk => hu.block k (Nat.lt_of_lt_of_le hk h.2.size) (fun hk2 => ?_)⟩
    have := h.1 k hk2; omega
theorem ex_four {w3 w4 : World} {v : DV} {own3 : Nat → Option Role} {D : Dev} (h : (NodeAt w3 v own3 D 0 (ptrN 8) ∧ nodeW D (ptrN 8) = exW ∧ D.n = 12) ∧ Below w.heap.size w w3) (hb : Below w3.heap.size w3 w4) :
    (NodeAt w4 v own3 D 0 (ptrN 8) ∧ nodeW D (ptrN 8) = exW ∧ D.n = 12) ∧ Below w.heap.size w w4 := ⟨⟨h.1.1.below hb, h.1.2⟩, h.2.trans (hb.mono h.2.size)⟩
def ExCells (w : World) (g o : Nat) : Prop := w.cell? ⟨g, o, none⟩ = some (.int .u8 1) ∧ w.cell? ⟨g, o + 1, none⟩ = some (.int .u64 56) ∧ w.cell? ⟨g, o + 2, none⟩ = some (.int .u64 7) ∧ w.cell? ⟨g, o + 15 + 2, none⟩ = some (.int .u64 4503599627375107)
theorem ex_cells {w w' : World} {g o : Nat} (h : ExCells w g o) (hb : Below w.heap.size w w') : ExCells w' g o := ⟨cell_bel hb h.1, cell_bel hb h.2.1, cell_bel hb h.2.2.1, cell_bel hb h.2.2.2⟩
theorem ex_plan {v : DV} {own : Nat → Option Role} {D : Dev} (h : NodeAt w v own D 0 (ptrN 8)) (he : nodeW D (ptrN 8) = exW) (hn : D.n = 12) :
    Calls Tryz.prog 19 #[.agg #[.iface 76 (.pointer (some ⟨v.tb 0, 0, none⟩)), .int .u64 (ptrN 8 : Nat)], .int .u64 7, .int .u64 1] w
    fun r w' => ∃ g o c, r = .returned (.tuple #[.slice (some ⟨g, o, none⟩) 8 c, .int .i64 0]) ∧ ExCells w' g o ∧ Below w.heap.size w w' := by
  refine (planPut_new h 7 1 (by rw [he, hn]; exact ex_ok) (by rw [he]; decide) (by rw [he, ex_slots]; exact ex_found) (by rw [he, ex_slots]; decide)).mono ?_
  rintro r w' ⟨hb, pv, rfl, ho, hg⟩
  rw [he, ex_slots, ex_find, ex_unused, show ptrOff (ptrN 8) = 8 by decide, ex_put] at ho
  obtain ⟨b, o, c, rfl, hc, hx⟩ := rd_some ho.rd (by simp [instrC])
  exact ⟨b, o, c, rfl, ⟨hx 0 _ rfl, hx 1 _ rfl, hx 2 _ rfl, hx 17 _ rfl⟩, hb⟩
theorem ex_getc {v : DV} {own : Nat → Option Role} {D : Dev} (h : NodeAt w v own D 0 (ptrN 8)) (he : nodeW D (ptrN 8) = exW) (hn : D.n = 12) :
    Calls Tryz.prog 18 #[.agg #[.iface 76 (.pointer (some ⟨v.tb 0, 0, none⟩)), .int .u64 (ptrN 8 : Nat)], .int .u64 9] w
    fun r w' => r = .returned (.tuple #[.int .u64 2, .int .i64 0]) ∧ Below w.heap.size w w' := by
  refine (get_any h 9).mono ?_
  rintro r w' ⟨hb, ⟨_, rfl⟩ | ⟨hbad, _⟩⟩
  · rw [he, ex_get]; exact ⟨rfl, hb⟩
  · rw [he, hn] at hbad; exact absurd ex_ok hbad
theorem ex_lenc {v : DV} {own : Nat → Option Role} {D : Dev} (h : NodeAt w v own D 0 (ptrN 8)) (he : nodeW D (ptrN 8) = exW) (hn : D.n = 12) :
    Calls Tryz.prog 26 #[.agg #[.iface 76 (.pointer (some ⟨v.tb 0, 0, none⟩)), .int .u64 (ptrN 8 : Nat)]] w
    fun r w' => r = .returned (.int .i64 2) ∧ Below w.heap.size w w' := by
  refine (len_any h).mono ?_
  rintro r w' ⟨hb, ⟨_, rfl⟩ | ⟨hbad, _⟩⟩
  · rw [he, ex_slots]; exact ⟨rfl, hb⟩
  · rw [he, hn] at hbad; exact absurd ex_ok hbad
set_option maxRecDepth 100000 in
set_option maxHeartbeats 2000000 in
theorem awake_any : Calls Tryz.prog 8 #[] w fun r w' => r = .returned (.bool true) ∧ Below w.heap.size w w' := by
  have hN := new_any (w := w) 12 (by omega) (by omega)
  rw [show ((12 : Nat) : Int) = 12 from rfl] at hN
  have HN := Lib.hid hN; clear hN
  go_enter Tryz.func8, Tryz.ntmps8
  go_wp2_with fail
  (with_reducible refine HN.out.mono ?_)
  rintro e w1 ⟨v, own, rfl, d1, o1, b1⟩
  have D1 := Lib.hid (And.intro d1 (And.intro o1 b1)); clear d1 o1 b1 HN
  go_wp2_with fail
  (with_reducible refine (encode_any _ _ [5, 9] [1, 2] 0 0 false ?_ ?_ rfl (by decide)).mono ?_)
  · exact (RdSl.newAt w1 #[.int .u64 5, .int .u64 9] 28 1 2 _ rfl rfl).alloc _
  · exact RdSl.newAt (w1.alloc _) #[.int .u64 1, .int .u64 2] 28 1 2 _ (by simp) rfl
  rintro e w2 he
  obtain ⟨g, rfl, r2, g2, b2⟩ := ex_enc he
  have c0 : w2.cell? ⟨g, 0, none⟩ = some (.int .u64 258) := r2.cell (i := 0) (by omega)
  have E2 := Lib.hid (ex_two D1.out r2 g2 b2); clear r2 g2 b2 he D1
  go_wp2_with fail
  clear c0
  have hP := put_any E2.out.1 (Live.fresh 12 _) 8 (.slice (some ⟨g, 0, none⟩) 28 28) exL (by decide) (by simp [exL]) (by simp [exL]) E2.out.2.1 E2.out.2.2.1
  rw [show ((8 : Nat) : Int) = 8 from rfl] at hP
  have HP := Lib.hid hP; clear hP
  (with_reducible refine HP.out.mono ?_)
  rintro e w3 ⟨rfl, D3, ⟨own3, d3, o3, u3⟩, l3⟩
  have HT := Lib.hid (ex_thread d3)
  have N3 := Lib.hid (ex_three l3 d3 u3 E2.out.2.2.2)
  clear d3 o3 u3 HP E2
  go_wp2_with (go_at_call 34; (with_reducible refine HT.out.mono ?_); rintro e w' ⟨rfl, rfl⟩)
  have hpt := pointer_any (w := w3) 8 (by omega) (by decide) (by omega)
  rw [show ((8 : Nat) : Int) = 8 from rfl] at hpt
  have HPT := Lib.hid hpt; clear hpt
  (with_reducible refine HPT.out.mono ?_)
  rintro e w' ⟨rfl, rfl⟩
  go_wp2_with fail
  (with_reducible refine (at_any _ _ (.inr ⟨_, _, rfl⟩)).mono ?_)
  rintro e w4 ⟨rfl, b4⟩
  have N4 := Lib.hid (ex_four N3.out b4); clear N3 b4 HT HPT
  go_wp2_with fail
  (with_reducible refine (ex_plan (N4.out.1.1.alloc _) N4.out.1.2.1 N4.out.1.2.2).mono ?_)
  rintro e w5 ⟨g5, o5, c5, rfl, p5, b5⟩
  have l0 := cell_bel b5 ((Blk.new w4 #[.iface 76 (.pointer (some ⟨v.tb 0, 0, none⟩)), .int .u64 (ptrN 8 : Nat)] 35).cell (i := 0) rfl)
  have l1 := cell_bel b5 ((Blk.new w4 #[.iface 76 (.pointer (some ⟨v.tb 0, 0, none⟩)), .int .u64 (ptrN 8 : Nat)] 35).cell (i := 1) rfl)
  have N5 := Lib.hid (ex_four N4.out ((below_alloc _ _).trans (b5.mono (by simp)))); have P5 := Lib.hid p5; clear N4 b5 p5
  go_wp2_with fail
  (with_reducible refine (ex_getc N5.out.1.1 N5.out.1.2.1 N5.out.1.2.2).mono ?_)
  rintro e w6 ⟨rfl, b6⟩
  have l0' := cell_bel b6 l0; have l1' := cell_bel b6 l1
  have N6 := Lib.hid (ex_four N5.out b6); have P6 := Lib.hid (ex_cells P5.out b6); clear N5 b6 l0 l1 P5
  go_wp2_with fail
  (with_reducible refine (ex_lenc N6.out.1.1 N6.out.1.2.1 N6.out.1.2.2).mono ?_)
  rintro e w7 ⟨rfl, b7⟩
  obtain ⟨p0, p1, p2, p17⟩ := ex_cells P6.out b7
  have N7 := Lib.hid (ex_four N6.out b7); clear N6 b7 l0' l1' P6
  go_wp2_with fail
  go_ret
  exact ⟨rfl, N7.out.2⟩
end
end Go.Proofs.YtgdcjedcinapdaaGreat

/- Where a node cannot be read: read, Get, PlanPut, PlanDelete, Check, Len. -/
namespace Go.Proofs.YtgdcjedcinapdaaGreat
open Go.RowKit

def IsMem (m : Value) : Prop := m = .nilIface ∨ ∃ a, m = .iface 76 (.pointer (some a))
/-- Reading this node fails with error e, here and wherever nothing of here has changed. -/
def ReadErr (w : World) (m : Value) (p : Nat) (e : Int) : Prop :=
  ∀ w', Below w.heap.size w w' → Calls Tryz.prog 62 #[.agg #[m, .int .u64 p]] w' fun r w'' => r = .returned (.tuple #[.pointer none, .int .i64 e]) ∧ Below w'.heap.size w' w''

section
variable {w : World} {v : DV} {own : Nat → Option Role} {D : Dev} {j p : Nat}

theorem ReadErr.below {m : Value} {e : Int} {w1 : World} (h : ReadErr w m p e) (hb : Below w.heap.size w w1) : ReadErr w1 m p e := fun w' hw => h w' (hb.trans (hw.mono hb.size))
theorem ReadErr.alloc {m : Value} {e : Int} (h : ReadErr w m p e) (o : Obj) : ReadErr (w.alloc o) m p e := h.below (below_alloc w o)
theorem ReadErr.here {m : Value} {e : Int} (h : ReadErr w m p e) : Calls Tryz.prog 62 #[.agg #[m, .int .u64 p]] w fun r w'' => r = .returned (.tuple #[.pointer none, .int .i64 e]) ∧ Below w.heap.size w w'' := h w (Below.refl _ _)

set_option maxRecDepth 100000 in
set_option maxHeartbeats 1000000 in
theorem read_nil (w : World) (p : Nat) : ReadErr w .nilIface p 1 := by
  intro w' _
  go_enter Tryz.func62, Tryz.ntmps62
  go_wp2_with fail
  go_ret2
  exact ⟨rfl, below_alloc _ _⟩

set_option maxRecDepth 100000 in
set_option maxHeartbeats 1000000 in
theorem read_zero (w : World) (a : Addr) : ReadErr w (.iface 76 (.pointer (some a))) 0 1 := by
  intro w' _
  rw [show ((0 : Nat) : Int) = 0 from rfl]
  go_enter Tryz.func62, Tryz.ntmps62
  go_wp2_with fail
  go_ret2
  exact ⟨rfl, below_alloc _ _⟩

theorem IsDev.below {w' : World} (h : IsDev w v own D) (hb : Below w.heap.size w w') : IsDev w' v own D := h.kept hb.size (fun k hk => hb.block k (h.lt k hk))

set_option maxRecDepth 100000 in
set_option maxHeartbeats 1000000 in
theorem read_range (h : IsDev w v own D) (hj : j < 8) (hp : p < 18446744073709551616) (hp0 : 0 < p) (hr : 64 * D.n < ptrOff p + 224) : ReadErr w (.iface 76 (.pointer (some ⟨v.tb j, 0, none⟩))) p 2 := by
  intro w' hw
  have h := h.below hw
  clear hw
  have hn := h.wf.le
  have hp0' : ((p : Int) == 0) = false := by simp; omega
  have hm1 := meth_Size ⟨v.tb j, 0, none⟩
  have H := Lib.hid h; clear h
  have HP := Lib.hid (fun wx => ptrOff_any (w := wx) p hp)
  by_cases h1 : (D.n : Int) * 64 < 224
  · go_enter Tryz.func62, Tryz.ntmps62
    go_wp2_with fail
    (with_reducible refine (thrSize_any (H.out.alloc _) hj).mono ?_)
    rintro e w' ⟨rfl, rfl⟩
    go_wp2_with fail
    go_ret2
    exact ⟨rfl, below_alloc _ _⟩
  · have h2 : (D.n : Int) * 64 - 224 < (ptrOff p : Int) := by omega
    go_enter Tryz.func62, Tryz.ntmps62
    go_wp2_with fail
    (with_reducible refine (thrSize_any (H.out.alloc _) hj).mono ?_)
    rintro e w' ⟨rfl, rfl⟩
    go_wp2_with fail
    (with_reducible refine (HP.out _).mono ?_)
    rintro e w' ⟨rfl, rfl⟩
    go_wp2_with fail
    go_ret2
    exact ⟨rfl, below_alloc _ _⟩

set_option maxRecDepth 100000 in
set_option maxHeartbeats 1000000 in
theorem read_off (h : IsDev w v own D) (hj : j < 8) (hp : p < 18446744073709551616) (hp0 : 0 < p) (hr : ptrOff p + 224 ≤ 64 * D.n) (x : Int) (he : D.err j = x) (hx : x ≠ 0) : ReadErr w (.iface 76 (.pointer (some ⟨v.tb j, 0, none⟩))) p x := by
  intro w' hw
  have h := h.below hw
  clear hw
  have hn := h.wf.le
  have hp0' : ((p : Int) == 0) = false := by simp; omega
  have hm1 := meth_Size ⟨v.tb j, 0, none⟩; have hm2 := meth_Err ⟨v.tb j, 0, none⟩
  have H := Lib.hid h; clear h
  have HP := Lib.hid (fun wx => ptrOff_any (w := wx) p hp)
  have h1 : ¬ ((D.n : Int) * 64 < 224) := by omega
  have h2 : ¬ ((D.n : Int) * 64 - 224 < (ptrOff p : Int)) := by omega
  have herr : Calls Tryz.prog 163 #[.pointer (some ⟨v.tb j, 0, none⟩)] (w'.alloc (.cells #[.iface 76 (.pointer (some ⟨v.tb j, 0, none⟩)), .int .u64 p] 35)) fun r w2 => r = .returned (.int .i64 x) ∧ (w'.alloc (.cells #[.iface 76 (.pointer (some ⟨v.tb j, 0, none⟩)), .int .u64 p] 35)) = w2 := by
    have := err_any (H.out.alloc (.cells #[.iface 76 (.pointer (some ⟨v.tb j, 0, none⟩)), .int .u64 p] 35)) hj; rw [he] at this; exact this
  have HR := Lib.hid herr; clear herr he
  have hxb : (x != 0) = true := by simpa using hx
  go_enter Tryz.func62, Tryz.ntmps62
  go_wp2_with fail
  (with_reducible refine (thrSize_any (H.out.alloc _) hj).mono ?_)
  rintro e w' ⟨rfl, rfl⟩
  go_wp2_with fail
  (with_reducible refine (HP.out _).mono ?_)
  rintro e w' ⟨rfl, rfl⟩
  go_wp2_with fail
  (with_reducible refine HR.out.mono ?_)
  rintro e w' ⟨rfl, rfl⟩
  go_wp2_with fail
  go_ret2
  exact ⟨rfl, below_alloc _ _⟩

theorem below_err {o : Obj} {w1 : World} (hb : Below (w.alloc o).heap.size (w.alloc o) w1) : Below w.heap.size w w1 := (below_alloc w o).trans (hb.mono (by simp))

set_option maxRecDepth 100000 in
set_option maxHeartbeats 1000000 in
theorem check_err {m : Value} {e : Int} (h : ReadErr w m p e) (hm : IsMem m) (_he : e ≠ 0) : Calls Tryz.prog 14 #[.agg #[m, .int .u64 p]] w fun r w' => r = .returned (.int .i64 e) ∧ Below w.heap.size w w' := by
  have H := Lib.hid h; clear h
  rcases hm with rfl | ⟨a, rfl⟩
  all_goals
    go_enter Tryz.func14, Tryz.ntmps14
    go_wp2_with fail
    (with_reducible refine (H.out.alloc _).here.mono ?_)
    rintro r w1 ⟨rfl, hb⟩
    have HB := Lib.hid hb; clear hb
    go_wp2_with fail
    go_ret
    exact ⟨rfl, below_err HB.out⟩

set_option maxRecDepth 100000 in
set_option maxHeartbeats 1000000 in
theorem len_err {m : Value} {e : Int} (h : ReadErr w m p e) (hm : IsMem m) (he : e ≠ 0) : Calls Tryz.prog 26 #[.agg #[m, .int .u64 p]] w fun r w' => r = .returned (.int .i64 0) ∧ Below w.heap.size w w' := by
  have H := Lib.hid h; clear h
  have hb : (e != 0) = true := by simpa using he
  rcases hm with rfl | ⟨a, rfl⟩
  all_goals
    go_enter Tryz.func26, Tryz.ntmps26
    go_wp2_with fail
    (with_reducible refine (H.out.alloc _).here.mono ?_)
    rintro r w1 ⟨rfl, hb⟩
    have HB := Lib.hid hb; clear hb
    go_wp2_with fail
    go_ret
    exact ⟨rfl, below_err HB.out⟩

set_option maxRecDepth 100000 in
set_option maxHeartbeats 1000000 in
theorem get_err {m : Value} {e : Int} (h : ReadErr w m p e) (hm : IsMem m) (he : e ≠ 0) (k : Int) : Calls Tryz.prog 18 #[.agg #[m, .int .u64 p], .int .u64 k] w fun r w' => r = .returned (.tuple #[.int .u64 0, .int .i64 e]) ∧ Below w.heap.size w w' := by
  have H := Lib.hid h; clear h
  have hb : (e != 0) = true := by simpa using he
  rcases hm with rfl | ⟨a, rfl⟩
  all_goals
    go_enter Tryz.func18, Tryz.ntmps18
    go_wp2_with fail
    (with_reducible refine (H.out.alloc _).here.mono ?_)
    rintro r w1 ⟨rfl, hb⟩
    have HB := Lib.hid hb; clear hb
    go_wp2_with fail
    go_ret2
    exact ⟨rfl, below_err HB.out⟩

set_option maxRecDepth 100000 in
set_option maxHeartbeats 1000000 in
theorem planPut_err {m : Value} {e : Int} (h : ReadErr w m p e) (hm : IsMem m) (he : e ≠ 0) (k x : Int) : Calls Tryz.prog 19 #[.agg #[m, .int .u64 p], .int .u64 k, .int .u64 x] w fun r w' => r = .returned (.tuple #[.slice none 0 0, .int .i64 e]) ∧ Below w.heap.size w w' := by
  have H := Lib.hid h; clear h
  have hb : (e != 0) = true := by simpa using he
  rcases hm with rfl | ⟨a, rfl⟩
  all_goals
    go_enter Tryz.func19, Tryz.ntmps19
    go_wp2_with fail
    (with_reducible refine (H.out.alloc _).here.mono ?_)
    rintro r w1 ⟨rfl, hb⟩
    have HB := Lib.hid hb; clear hb
    go_wp2_with fail
    go_ret2
    exact ⟨rfl, below_err HB.out⟩

set_option maxRecDepth 100000 in
set_option maxHeartbeats 1000000 in
theorem planDelete_err {m : Value} {e : Int} (h : ReadErr w m p e) (hm : IsMem m) (he : e ≠ 0) (k : Int) : Calls Tryz.prog 20 #[.agg #[m, .int .u64 p], .int .u64 k] w fun r w' => r = .returned (.tuple #[.slice none 0 0, .int .i64 e]) ∧ Below w.heap.size w w' := by
  have H := Lib.hid h; clear h
  have hb : (e != 0) = true := by simpa using he
  rcases hm with rfl | ⟨a, rfl⟩
  all_goals
    go_enter Tryz.func20, Tryz.ntmps20
    go_wp2_with fail
    (with_reducible refine (H.out.alloc _).here.mono ?_)
    rintro r w1 ⟨rfl, hb⟩
    have HB := Lib.hid hb; clear hb
    go_wp2_with fail
    go_ret2
    exact ⟨rfl, below_err HB.out⟩
end
end Go.Proofs.YtgdcjedcinapdaaGreat

/- The iterator of a node's entries. -/
namespace Go.Proofs.YtgdcjedcinapdaaGreat
open Go.RowKit Go.Shelf
attribute [local go_sem] Oper.semAt_some

/-- What a round must keep: every block of cells but those of entries and of the variable that collects them. -/
def KpT (W W' : World) : Prop := W.heap.size ≤ W'.heap.size ∧ ∀ (k : Nat) (c : Array Value) (t : TypeId) (f : Nat × Nat), W.heap[k]? = some (.cells c t f) → t ≠ 94 → t ≠ 47 → W'.heap[k]? = some (.cells c t f)
theorem KpT.trans {A B C : World} (h : KpT A B) (k : KpT B C) : KpT A C := ⟨Nat.le_trans h.1 k.1, fun i c t f hi h1 h2 => k.2 i c t f (h.2 i c t f hi h1 h2) h1 h2⟩
theorem KpT.refl (W : World) : KpT W W := ⟨Nat.le_refl _, fun _ _ _ _ h _ _ => h⟩
theorem kpT_b {w : World} (W : World) (l : Nat) (o o' : Obj) (_ : w.heap.size ≤ l) (h : W.heap[l]? = some o) (hc : o.isCells = false) (_ : o.isWalk = false) : KpT W (W.putObj l o') := by
  have hg := grownBy_putObj' W l o'
  refine ⟨hg.size, fun k c t f hk _ _ => ?_⟩
  rw [hg.block k (lt_of_block hk) (fun e => ?_)]
  · exact hk
  · cases e; rw [h] at hk; cases hk; cases hc
theorem KpT.blk {W W' : World} (h : KpT W W') {b : Nat} {c : Array Value} {t : TypeId} (hb : Blk W b c t) (h1 : t ≠ 94) (h2 : t ≠ 47) : Blk W' b c t := h.2 b c t _ hb h1 h2
theorem KpT.cell {W W' : World} (h : KpT W W') {b o : Nat} {c : Array Value} {t : TypeId} {u : Value} (hb : Blk W b c t) (h1 : t ≠ 94) (h2 : t ≠ 47) (hu : W.cell? ⟨b, o, none⟩ = some u) : W'.cell? ⟨b, o, none⟩ = some u :=
  (World.cell?_of_block (w := W) (a := ⟨b, o, none⟩) ((h.blk hb h1 h2).trans hb.symm)).trans hu
theorem IsCont.kp {W W' : World} {cb : Nat} {Wd : Nat → Int} {slots : List Nat} {ch : Nat} (h : IsCont W cb Wd slots ch) (hk : KpT W W') : IsCont W' cb Wd slots ch := by
  obtain ⟨c, hc⟩ := h.ty
  have hcell : ∀ o u, W.cell? ⟨cb, o, none⟩ = some u → W'.cell? ⟨cb, o, none⟩ = some u := fun o u hu => hk.cell hc (by decide) (by decide) hu
  obtain ⟨sv, h1, h2⟩ := h.sl
  have h3 := h.ty2 sv h1
  refine ⟨fun i hi => hcell _ _ (h.words i hi), ⟨sv, hcell _ _ h1, h2.kept (fun k hk' _ => ?_)⟩, hcell _ _ h.ch, h.lt12, h.len, ⟨c, hk.blk hc (by decide) (by decide)⟩, fun sv' hsv g hg => ?_⟩
  · obtain ⟨c', hc'⟩ := h3 k hk'
    exact (hk.blk hc' (by decide) (by decide)).trans hc'.symm
  · rw [hcell _ _ h1] at hsv; cases hsv
    obtain ⟨c', hc'⟩ := h3 g hg
    exact ⟨c', hk.blk hc' (by decide) (by decide)⟩

/-- The entries in these slots. -/
def entsW (W : Nat → Int) (slots : List Nat) : List (Int × Int) := slots.map fun s => (W (4 + s), W (16 + s))
theorem entsW_get (W : Nat → Int) (slots : List Nat) (i s : Nat) (h : slots[i]? = some s) : (entsW W slots)[i]? = some (W (4 + s), W (16 + s)) := by simp [entsW, h]
abbrev encE (x : Int × Int) : Array Value := #[.int .u64 x.1, .int .u64 x.2]

/-- Reading this node, here and wherever nothing of here has changed, leads to the entries es from the key on. -/
def Yields (W : World) (m : Value) (p : Nat) (from' : Int) (es : List (Int × Int)) : Prop :=
  ∀ W', Below W.heap.size W W' → Calls Tryz.prog 62 #[.agg #[m, .int .u64 p]] W' fun r w'' => Below W'.heap.size W' w'' ∧
    ((∃ e : Int, e ≠ 0 ∧ r = .returned (.tuple #[.pointer none, .int .i64 e]) ∧ es = []) ∨
     ∃ cb Wd slots ch, r = .returned (.tuple #[.pointer (some ⟨cb, 0, none⟩), .int .i64 0]) ∧ IsCont w'' cb Wd slots ch ∧ es = (entsW Wd slots).drop (findIdx Wd from' slots))

theorem Yields.below {W W1 : World} {m : Value} {p : Nat} {from' : Int} {es : List (Int × Int)} (h : Yields W m p from' es) (hb : Below W.heap.size W W1) : Yields W1 m p from' es := fun w' hw => h w' (hb.trans (hw.mono hb.size))

theorem take_snoc_at {α : Type} (l : List α) (k : Nat) (x : α) (h : l[k]? = some x) : l.take (k + 1) = l.take k ++ [x] := by rw [List.take_add_one, h]; rfl

theorem grownBy_below {W W' : World} (h : Below W.heap.size W W') : W.grownBy W' none := ⟨h.os, h.tape, h.output, h.size, fun k hk _ => h.block k hk⟩
theorem abides_below {β : Type} {B : Nat} {J : β → World → Prop} (hJ : AbidesFrom B J) {s : β} {W W' : World} (h : J s W) (hb : Below W.heap.size W W') : J s W' := hJ s W W' none h (grownBy_below hb) (fun r e => by cases e)

set_option maxRecDepth 100000 in
set_option maxHeartbeats 2000000 in
theorem all1_in (n : Nat) (hn : 1 ≤ n) (l bl bf : Nat) (m : Value) (p : Nat) (from' : Int) (es : List (Int × Int)) (J Jx : List (Int × Int) → World → Prop) (W : World) (hJ : AbidesFrom W.heap.size J) (hm : IsMem m)
    (hY : ∀ pre x W1, J pre W1 → pre.length < es.length → YieldAt Fence.wide (n - 1) Tryz.prog l (encE x) W1 fun e W' => (e = .returned (.bool true) ∧ J (pre ++ [x]) W' ∧ KpT W1 W') ∨ (e = .returned (.bool false) ∧ Jx (pre ++ [x]) W'))
    (hbl : Blk W bl #[m, .int .u64 p] 35) (hbf : Blk W bf #[.int .u64 from'] 28) (hR : Yields W m p from' es) (h0 : J [] W) :
    CallsIn Fence.wide n Tryz.prog 106 (#[.func (.yield l) #[] #[]] ++ #[.pointer (some ⟨bl, 0, none⟩), .pointer (some ⟨bf, 0, none⟩)]) W fun e W' => (∃ v, e = .returned v) ∧ ((∃ xs, xs = es ∧ J xs W') ∨ (∃ pre, pre <+: es ∧ Jx pre W')) := by
  have hl0 : W.cell? ⟨bl, 0, none⟩ = some m := hbl.cell rfl
  have hl1 : W.cell? ⟨bl, 1, none⟩ = some (.int .u64 p) := hbl.cell rfl
  have hf0 : W.cell? ⟨bf, 0, none⟩ = some (.int .u64 from') := hbf.cell rfl
  have HR := Lib.hid (hR W (Below.refl _ _)); have HY := Lib.hid hY; have HJ := Lib.hid hJ; have H0 := Lib.hid h0; have HF := Lib.hid hbf
  clear hY hJ h0 hbl hbf hR
  rcases hm with rfl | ⟨a, rfl⟩
  all_goals
    refine callsIn_of_wp Tryz.func106 rfl trivial ?_ rfl
    simp only [Tryz.ntmps106, List.size_toArray, List.length_cons, List.length_nil, Nat.reduceAdd, Nat.reduceSub, Array.replicate_succ, Array.replicate_zero, List.push_toArray, List.append_toArray, List.nil_append, List.cons_append]
    gi_wp2
    refine ⟨trivial, ?_⟩
    (with_reducible refine (callsIn_wide.2 HR.out).mono ?_)
    rintro r w1 ⟨hb, ⟨e, he, rfl, rfl⟩ | ⟨cb, Wd, slots, ch, rfl, hc, he⟩⟩
    · have hb1 : (e != 0) = true := by simpa using he
      have H1 := Lib.hid (abides_below HJ.out H0.out hb)
      clear hb he
      gi_wp2
      refine bodyPost_ret (results_none rfl _ _ _) rfl ?_
      exact ⟨⟨_, rfl⟩, .inl ⟨[], rfl, H1.out⟩⟩
    · have hf1 := cell_bel hb hf0
      have H1 := Lib.hid (abides_below HJ.out H0.out hb); have HC := Lib.hid hc; have HE := Lib.hid he
      have HB := Lib.hid hb.size
      clear hb hc he
      gi_wp2
      refine ⟨trivial, ?_⟩
      (with_reducible refine (callsIn_wide.2 (find_any HC.out from')).mono ?_)
      rintro r w2 ⟨rfl, q2⟩
      have HC2 := Lib.hid (HC.out.qt q2)
      have H2 := Lib.hid (abides_below HJ.out H1.out q2.below)
      have hidx := findIdx_le Wd from' slots
      have h12 := HC.out.len
      clear HC H1 q2 hf1
      generalize hix : findIdx Wd from' slots = idx at *
      have HIX := Lib.hid hix; clear hix
      gi_wp2
      gi_loopw [6] (fun i wr => ∃ k : Nat, idx ≤ k ∧ k ≤ slots.length ∧ i = .int .i64 k ∧ IsCont wr cb Wd slots ch ∧ J (es.take (k - idx)) wr) (fun i _ => slots.length - (intOf i).toNat)
      case atStart => exact ⟨idx, Nat.le_refl _, hidx, rfl, HC2.out, by rw [Nat.sub_self, List.take_zero]; exact H2.out⟩
      case round =>
        obtain ⟨k, hk1, hk2, rfl, hc, hj⟩ := hrel
        obtain ⟨sv, c28, hsv⟩ := hc.sl
        obtain ⟨sa, sc, rfl⟩ : ∃ a c, sv = .slice a slots.length c := by obtain ⟨_, a, c, e, _⟩ := hsv; exact ⟨a, c, e⟩
        have HC3 := Lib.hid hc; have H3 := Lib.hid hj
        clear hsv hc hj
        by_cases hlt : k < slots.length
        · obtain ⟨s, hs⟩ : ∃ s, slots[k]? = some s := ⟨_, List.getElem?_eq_getElem hlt⟩
          have hes : es[k - idx]? = some (Wd (4 + s), Wd (16 + s)) := by
            rw [HE.out, List.getElem?_drop, show idx + (k - idx) = k by omega]; exact entsW_get Wd slots k s hs
          have hlen : (es.take (k - idx)).length < es.length := by
            have : k - idx < es.length := by
              rcases Nat.lt_or_ge (k - idx) es.length with h | h
              · exact h
              · rw [List.getElem?_eq_none h] at hes; cases hes
            rw [List.length_take]; omega
          have HT := Lib.hid (take_snoc_at es (k - idx) _ hes)
          have HK := Lib.hid (fun wx (hx : IsCont wx cb Wd slots ch) => key_any hx k s hs)
          have HV := Lib.hid (fun wx (hx : IsCont wx cb Wd slots ch) => value_any hx k s hs)
          have HYY := Lib.hid (fun wx (hx : J (es.take (k - idx)) wx) => HY.out (es.take (k - idx)) (Wd (4 + s), Wd (16 + s)) wx hx hlen)
          clear hes hs hlen
          gi_wp2
          refine ⟨trivial, ?_⟩
          (with_reducible refine (callsIn_wide.2 (HK.out _ HC3.out)).mono ?_)
          rintro r w3 ⟨rfl, q3⟩
          have HC4 := Lib.hid (HC3.out.qt q3); have H4 := Lib.hid (abides_below HJ.out H3.out q3.below)
          clear q3 c28 HC3 H3
          gi_wp2
          refine ⟨trivial, ?_⟩
          (with_reducible refine (callsIn_wide.2 (HV.out _ HC4.out)).mono ?_)
          rintro r w4 ⟨rfl, q4⟩
          have HC5 := Lib.hid (HC4.out.qt q4); have H5 := Lib.hid (abides_below HJ.out H4.out q4.below)
          clear q4 HC4 H4
          obtain ⟨fn, tmps, assign, body, hy, hR⟩ := HYY.out _ H5.out
          have HRR := Lib.hid hR
          dsimp only [encE] at hy
          clear hR
          gi_wp2
          refine HRR.out.mono ?_
          rintro e W3 (⟨rfl, hJ3, hk3⟩ | ⟨rfl, hJx3⟩)
          · have HC6 := Lib.hid (HC5.out.kp hk3); have H6 := Lib.hid hJ3
            clear hk3 hJ3 HRR hy
            gi_wp2
            go_roundw
            case rel => exact ⟨k + 1, by omega, by omega, by go_num, HC6.out, by rw [show k + 1 - idx = k - idx + 1 by omega, HT.out]; exact H6.out⟩
            case measure => simp [intOf]; omega
          · have H6 := Lib.hid hJx3
            clear hJx3 HRR hy
            gi_wp2
            refine bodyPost_ret (results_none rfl _ _ _) rfl ?_
            exact ⟨⟨_, rfl⟩, .inr ⟨_, by rw [← HT.out]; exact List.take_prefix _ _, H6.out⟩⟩
        · gi_wp2
          go_end0
          refine ⟨⟨_, rfl⟩, .inl ⟨es, rfl, ?_⟩⟩
          have := H3.out
          rw [List.take_of_length_le (by rw [HE.out]; simp [entsW]; omega)] at this
          exact this
end Go.Proofs.YtgdcjedcinapdaaGreat

/- entries of the law: a node's entries as the program tells them. -/
namespace Go.Proofs.YtgdcjedcinapdaaGreat
open Go.RowKit Go.Shelf
attribute [local go_sem] Oper.semAt_some

/-- Entries as cells. -/
def entC (l : List (Int × Int)) : List Value := l.flatMap fun e => [.int .u64 e.1, .int .u64 e.2]
theorem entC_append (a b : List (Int × Int)) : entC (a ++ b) = entC a ++ entC b := by simp [entC]
theorem infoEntry : (Tryz.prog.info? 94).map (fun i => (i.zero, i.size, i.bytes)) = some (some (.agg #[.int .u64 0, .int .u64 0]), 2, 16) := by kernel_rfl

section
variable {w : World}
set_option maxHeartbeats 1000000 in
theorem all_any {m : Value} (hm : IsMem m) (p : Nat) (from' : Int) : Calls Tryz.prog 63 #[.agg #[m, .int .u64 p], .int .u64 from'] w fun e w' =>
    e = .returned (.func (.func 106) #[] #[.pointer (some ⟨w.heap.size, 0, none⟩), .pointer (some ⟨w.heap.size + 1, 0, none⟩)]) ∧ w' = (w.alloc (.cells #[m, .int .u64 p] 35)).alloc (.cells #[.int .u64 from'] 28) := by
  rcases hm with rfl | ⟨a, rfl⟩
  all_goals
    go_enter Tryz.func63, Tryz.ntmps63
    go_wp2
    go_ret
    exact ⟨rfl, rfl⟩

/-- The iterator's value keeps its word, for every loop body that keeps KpT. -/
theorem all_stops (n : Nat) (hn : 1 ≤ n) (bl bf : Nat) (m : Value) (p : Nat) (from' : Int) (es : List (Int × Int)) (hm : IsMem m) (hbl : Blk w bl #[m, .int .u64 p] 35) (hbf : Blk w bf #[.int .u64 from'] 28) (hR : Yields w m p from' es) :
    SeqStopsK Fence.wide n Tryz.prog 106 #[.pointer (some ⟨bl, 0, none⟩), .pointer (some ⟨bf, 0, none⟩)] encE KpT (fun xs => xs = es) (fun pre => pre <+: es) es.length w := fun l J Jx W hW hJ _ hY h0 =>
  all1_in n hn l bl bf m p from' es J Jx W hJ hm hY (hbl.below hW) (hbf.below hW) (hR.below hW) h0

theorem kpT_append {W w1 : World} {B base : Nat} {v v' : Value} {k : Nat} {xs : List Value} {tmp : Array Value} (hv : Boxed W B 47 v) (hrow : W.ownsRow base 94 2 v k xs) (hg : (W.alloc (.cells tmp 94)).grownBy w1 v.ownBlock) :
    KpT W (w1.setCell ⟨B, 0, none⟩ v') := by
  refine ⟨Nat.le_trans (by simp) (Nat.le_trans hg.size (by simp [World.setCell])), fun j c t f hj h1 h2 => ?_⟩
  have hlt := lt_of_block hj
  rw [Below.heap_setCell _ _ _ _ (fun e => ?_)]
  · rw [hg.block j (by simp; omega) (fun e => ?_)]
    · exact (Below.heap_alloc _ _ _ hlt).trans hj
    · rcases hrow.2 with ⟨rfl, _⟩ | ⟨g, cap, cur, rfl, _, hgb, _⟩
      · simp [Value.ownBlock] at e
      · obtain rfl : j = g := by simpa [Value.ownBlock] using e
        rw [hgb] at hj; cases hj; exact h1 rfl
  · have e' : j = B := e
    subst e'
    have := (show W.heap[j]? = _ from hv).symm.trans hj
    cases this; exact h2 rfl

theorem cell_two_new (w : World) (x y : Value) (t : TypeId) : ∀ j u, [x, y][j]? = some u → (w.alloc (.cells #[x, y] t)).cell? ((⟨w.heap.size, 0, none⟩ : Addr).add j) = some u := by
  intro j u hu
  rw [Addr.add_lit]
  refine (Blk.new w #[x, y] t).cell ?_
  simpa using hu

/-- The entries came out. -/
def EntsPost (w : World) (es : List (Int × Int)) (r : Ending) (w' : World) : Prop :=
  ∃ v, r = .returned v ∧ w'.ownsRow w.heap.size 94 2 v es.length (entC es) ∧ Below w.heap.size w w'

set_option maxRecDepth 100000 in
set_option maxHeartbeats 2000000 in
theorem entries_in1 (n : Nat) (hn : 3 ≤ n) (_a a : Addr) (_e : a = a) (p : Nat) (es : List (Int × Int)) (hm : IsMem Value.nilIface) (hR : Yields w Value.nilIface p 0 es) (hl : es.length ≤ 100000) :
    CallsIn Fence.wide n Tryz.prog 16 #[.agg #[Value.nilIface, .int .u64 p]] w (EntsPost w es) := by
  have h1 : 1 ≤ n := by omega
  obtain ⟨i0, hi, hz0, hz1, hz2⟩ := info_parts infoEntry
  refine callsIn_of_wp_marks Tryz.func16 rfl trivial ?_ rfl
  simp only [Tryz.ntmps16, List.size_toArray, List.length_cons, List.length_nil, Nat.reduceAdd, Nat.reduceSub, Array.replicate_succ, Array.replicate_zero, List.push_toArray, List.append_toArray, List.nil_append, List.cons_append]
  have HA := Lib.hid (fun wx => all_any (w := wx) hm p 0)
  gi_wp2
  refine ⟨trivial, ?_⟩
  (with_reducible refine (callsIn_wide.2 (HA.out _)).mono ?_)
  rintro e w' ⟨rfl, rfl⟩
  gi_wp2
  have bO : Boxed (w.alloc (.cells #[Value.nilIface, .int .u64 p] 35) |>.alloc (.cells #[.slice none 0 0] 47)) (w.heap.size + 1) 47 (.slice none 0 0) := by
    have := Boxed.new (w.alloc (.cells #[Value.nilIface, .int .u64 p] 35)) 47 (.slice none 0 0); rwa [World.size_alloc] at this
  have bL : Blk (w.alloc (.cells #[Value.nilIface, .int .u64 p] 35) |>.alloc (.cells #[.slice none 0 0] 47) |>.alloc (.cells #[Value.nilIface, .int .u64 p] 35)) (w.heap.size + 1 + 1) #[Value.nilIface, .int .u64 p] 35 := by
    have := Blk.new (w.alloc (.cells #[Value.nilIface, .int .u64 p] 35) |>.alloc (.cells #[.slice none 0 0] 47)) #[Value.nilIface, .int .u64 p] 35; rwa [World.size_alloc, World.size_alloc] at this
  have bF : Blk (w.alloc (.cells #[Value.nilIface, .int .u64 p] 35) |>.alloc (.cells #[.slice none 0 0] 47) |>.alloc (.cells #[Value.nilIface, .int .u64 p] 35) |>.alloc (.cells #[.int .u64 0] 28)) (w.heap.size + 1 + 1 + 1) #[.int .u64 0] 28 := by
    have := Blk.new (w.alloc (.cells #[Value.nilIface, .int .u64 p] 35) |>.alloc (.cells #[.slice none 0 0] 47) |>.alloc (.cells #[Value.nilIface, .int .u64 p] 35)) #[.int .u64 0] 28; rwa [World.size_alloc, World.size_alloc, World.size_alloc] at this
  have hB0 : Below w.heap.size w (w.alloc (.cells #[Value.nilIface, .int .u64 p] 35) |>.alloc (.cells #[.slice none 0 0] 47) |>.alloc (.cells #[Value.nilIface, .int .u64 p] 35) |>.alloc (.cells #[.int .u64 0] 28)) :=
    ((((Below.refl _ w).alloc (Nat.le_refl _) _).alloc (by simp) _).alloc (by simp; omega) _).alloc (by simp; omega) _
  refine wpIn_rangeFunc_ownG rfl h1 (gf := 106) (lb := #[.pointer (some ⟨w.heap.size + 1 + 1, 0, none⟩), .pointer (some ⟨w.heap.size + 1 + 1 + 1, 0, none⟩)]) rfl trivial (enters_of Tryz.func106 (by kernel_rfl) rfl)
    (all_stops (n - 1) (by omega) (w.heap.size + 1 + 1) (w.heap.size + 1 + 1 + 1) Value.nilIface p 0 es hm (bL.alloc _) bF (hR.below hB0)) KpT.trans kpT_b (Below.refl _ _) (fun _ => rfl)
    (fun pre W => (∃ v, Boxed W (w.heap.size + 1) 47 v ∧ W.ownsRow w.heap.size 94 2 v pre.length (entC pre) ∧ True) ∧ Below w.heap.size w W)
    (fun _ _ _ => False)
    (OwnFrom.and (Own.from (holdsRow_own w.heap.size (w.heap.size + 1) 47 94 2 (fun pre => pre.length) (fun pre => entC pre) (fun _ _ => True)) _) (ownFrom_below (Nat.le_refl _) (by simp; omega)))
    (fun _ _ _ _ _ hs _ _ => hs)
    ⟨⟨_, (bO.alloc _).alloc _, World.ownsRow_nil _ _ _ _, trivial⟩, hB0⟩
    (fun x => { tmps := #[.agg #[Value.nilIface, .int .u64 p], .pointer (some ⟨w.heap.size, 0, none⟩), .slice none 0 0, .pointer (some ⟨w.heap.size + 1, 0, none⟩), .int .u64 x.1, .int .u64 x.2, .agg #[Value.nilIface, .int .u64 p], .func (.func 106) #[] #[.pointer (some ⟨w.heap.size + 1 + 1, 0, none⟩), .pointer (some ⟨w.heap.size + 1 + 1 + 1, 0, none⟩)], .int .u64 x.1, .int .u64 x.2, undef, undef, undef, undef, undef, undef, undef], defers := [] }) ?assign ?body ?done ?stop
  case assign =>
    intro l x W K hK
    gi_wp2
    exact hK
  case body =>
    rintro l pre x W ⟨⟨v, hv, hrow, _⟩, hB⟩ hlt
    have hc := hv.cell
    gi_wp2_with (gi_at_builtin; refine wpListIn_append_own _ rfl _ _ 47 rfl w.heap.size 94 i0 (.agg #[.int .u64 0, .int .u64 0]) 2 16 Tryz.underlying47 hi hz0 hz1 hz2 rfl (by decide) _ _ _ rfl (hrow.alloc _) ⟨W.heap.size, 0, none⟩ 1 1 [.int .u64 x.1, .int .u64 x.2] rfl rfl (cell_two_new _ _ _ _) (by simp [Value.oneCell']) (by unfold maxLen; omega) (by omega) (by have := hB.size; simp; omega) ?_; intro v' w1 hown' hgrow _; obtain ⟨g', cap', rfl⟩ := ownsRow_succ hown'; obtain ⟨hv1, hv2, hr2, hk2, hb2⟩ := hv.appended (by decide) hrow hB.size (by omega) hown' hgrow; have hkp := kpT_append (v' := .slice (some ⟨g', 0, none⟩) (pre.length + 1) cap') hv hrow hgrow; have hc1 := hv1.cell; have hf1 := hv1.frozen)
    exact ⟨hk2.from _, hkp, ⟨_, hv2, by rw [entC_append, List.length_append]; exact hr2, trivial⟩, hB.trans hb2⟩
  case done =>
    rintro D ys W hD rfl ⟨⟨v, hv, hrow, _⟩, hB⟩ hK
    have hc := hv.cell
    gi_wp2
    refine ⟨by simp, .inl ⟨_, _, rfl, run_takeDeferred hK, ?_⟩⟩
    exact ⟨_, results_tmp rfl _ _ _, v, rfl, ownsRow_putObj hrow _ hK rfl, hB.trans (belowK_b (w := w) (Nat.le_refl _) W D _ _ (by simp at hD; omega) hK rfl rfl)⟩
  case stop =>
    rintro D c pre W _ _ h _
    exact h.elim

set_option maxRecDepth 100000 in
set_option maxHeartbeats 2000000 in
theorem entries_in2 (n : Nat) (hn : 3 ≤ n) (_a a : Addr) (_e : a = a) (p : Nat) (es : List (Int × Int)) (hm : IsMem (Value.iface 76 (.pointer (some a)))) (hR : Yields w (Value.iface 76 (.pointer (some a))) p 0 es) (hl : es.length ≤ 100000) :
    CallsIn Fence.wide n Tryz.prog 16 #[.agg #[(Value.iface 76 (.pointer (some a))), .int .u64 p]] w (EntsPost w es) := by
  have h1 : 1 ≤ n := by omega
  obtain ⟨i0, hi, hz0, hz1, hz2⟩ := info_parts infoEntry
  refine callsIn_of_wp_marks Tryz.func16 rfl trivial ?_ rfl
  simp only [Tryz.ntmps16, List.size_toArray, List.length_cons, List.length_nil, Nat.reduceAdd, Nat.reduceSub, Array.replicate_succ, Array.replicate_zero, List.push_toArray, List.append_toArray, List.nil_append, List.cons_append]
  have HA := Lib.hid (fun wx => all_any (w := wx) hm p 0)
  gi_wp2
  refine ⟨trivial, ?_⟩
  (with_reducible refine (callsIn_wide.2 (HA.out _)).mono ?_)
  rintro e w' ⟨rfl, rfl⟩
  gi_wp2
  have bO : Boxed (w.alloc (.cells #[(Value.iface 76 (.pointer (some a))), .int .u64 p] 35) |>.alloc (.cells #[.slice none 0 0] 47)) (w.heap.size + 1) 47 (.slice none 0 0) := by
    have := Boxed.new (w.alloc (.cells #[(Value.iface 76 (.pointer (some a))), .int .u64 p] 35)) 47 (.slice none 0 0); rwa [World.size_alloc] at this
  have bL : Blk (w.alloc (.cells #[(Value.iface 76 (.pointer (some a))), .int .u64 p] 35) |>.alloc (.cells #[.slice none 0 0] 47) |>.alloc (.cells #[(Value.iface 76 (.pointer (some a))), .int .u64 p] 35)) (w.heap.size + 1 + 1) #[(Value.iface 76 (.pointer (some a))), .int .u64 p] 35 := by
    have := Blk.new (w.alloc (.cells #[(Value.iface 76 (.pointer (some a))), .int .u64 p] 35) |>.alloc (.cells #[.slice none 0 0] 47)) #[(Value.iface 76 (.pointer (some a))), .int .u64 p] 35; rwa [World.size_alloc, World.size_alloc] at this
  have bF : Blk (w.alloc (.cells #[(Value.iface 76 (.pointer (some a))), .int .u64 p] 35) |>.alloc (.cells #[.slice none 0 0] 47) |>.alloc (.cells #[(Value.iface 76 (.pointer (some a))), .int .u64 p] 35) |>.alloc (.cells #[.int .u64 0] 28)) (w.heap.size + 1 + 1 + 1) #[.int .u64 0] 28 := by
    have := Blk.new (w.alloc (.cells #[(Value.iface 76 (.pointer (some a))), .int .u64 p] 35) |>.alloc (.cells #[.slice none 0 0] 47) |>.alloc (.cells #[(Value.iface 76 (.pointer (some a))), .int .u64 p] 35)) #[.int .u64 0] 28; rwa [World.size_alloc, World.size_alloc, World.size_alloc] at this
  have hB0 : Below w.heap.size w (w.alloc (.cells #[(Value.iface 76 (.pointer (some a))), .int .u64 p] 35) |>.alloc (.cells #[.slice none 0 0] 47) |>.alloc (.cells #[(Value.iface 76 (.pointer (some a))), .int .u64 p] 35) |>.alloc (.cells #[.int .u64 0] 28)) :=
    ((((Below.refl _ w).alloc (Nat.le_refl _) _).alloc (by simp) _).alloc (by simp; omega) _).alloc (by simp; omega) _
  refine wpIn_rangeFunc_ownG rfl h1 (gf := 106) (lb := #[.pointer (some ⟨w.heap.size + 1 + 1, 0, none⟩), .pointer (some ⟨w.heap.size + 1 + 1 + 1, 0, none⟩)]) rfl trivial (enters_of Tryz.func106 (by kernel_rfl) rfl)
    (all_stops (n - 1) (by omega) (w.heap.size + 1 + 1) (w.heap.size + 1 + 1 + 1) (Value.iface 76 (.pointer (some a))) p 0 es hm (bL.alloc _) bF (hR.below hB0)) KpT.trans kpT_b (Below.refl _ _) (fun _ => rfl)
    (fun pre W => (∃ v, Boxed W (w.heap.size + 1) 47 v ∧ W.ownsRow w.heap.size 94 2 v pre.length (entC pre) ∧ True) ∧ Below w.heap.size w W)
    (fun _ _ _ => False)
    (OwnFrom.and (Own.from (holdsRow_own w.heap.size (w.heap.size + 1) 47 94 2 (fun pre => pre.length) (fun pre => entC pre) (fun _ _ => True)) _) (ownFrom_below (Nat.le_refl _) (by simp; omega)))
    (fun _ _ _ _ _ hs _ _ => hs)
    ⟨⟨_, (bO.alloc _).alloc _, World.ownsRow_nil _ _ _ _, trivial⟩, hB0⟩
    (fun x => { tmps := #[.agg #[(Value.iface 76 (.pointer (some a))), .int .u64 p], .pointer (some ⟨w.heap.size, 0, none⟩), .slice none 0 0, .pointer (some ⟨w.heap.size + 1, 0, none⟩), .int .u64 x.1, .int .u64 x.2, .agg #[(Value.iface 76 (.pointer (some a))), .int .u64 p], .func (.func 106) #[] #[.pointer (some ⟨w.heap.size + 1 + 1, 0, none⟩), .pointer (some ⟨w.heap.size + 1 + 1 + 1, 0, none⟩)], .int .u64 x.1, .int .u64 x.2, undef, undef, undef, undef, undef, undef, undef], defers := [] }) ?assign ?body ?done ?stop
  case assign =>
    intro l x W K hK
    gi_wp2
    exact hK
  case body =>
    rintro l pre x W ⟨⟨v, hv, hrow, _⟩, hB⟩ hlt
    have hc := hv.cell
    gi_wp2_with (gi_at_builtin; refine wpListIn_append_own _ rfl _ _ 47 rfl w.heap.size 94 i0 (.agg #[.int .u64 0, .int .u64 0]) 2 16 Tryz.underlying47 hi hz0 hz1 hz2 rfl (by decide) _ _ _ rfl (hrow.alloc _) ⟨W.heap.size, 0, none⟩ 1 1 [.int .u64 x.1, .int .u64 x.2] rfl rfl (cell_two_new _ _ _ _) (by simp [Value.oneCell']) (by unfold maxLen; omega) (by omega) (by have := hB.size; simp; omega) ?_; intro v' w1 hown' hgrow _; obtain ⟨g', cap', rfl⟩ := ownsRow_succ hown'; obtain ⟨hv1, hv2, hr2, hk2, hb2⟩ := hv.appended (by decide) hrow hB.size (by omega) hown' hgrow; have hkp := kpT_append (v' := .slice (some ⟨g', 0, none⟩) (pre.length + 1) cap') hv hrow hgrow; have hc1 := hv1.cell; have hf1 := hv1.frozen)
    exact ⟨hk2.from _, hkp, ⟨_, hv2, by rw [entC_append, List.length_append]; exact hr2, trivial⟩, hB.trans hb2⟩
  case done =>
    rintro D ys W hD rfl ⟨⟨v, hv, hrow, _⟩, hB⟩ hK
    have hc := hv.cell
    gi_wp2
    refine ⟨by simp, .inl ⟨_, _, rfl, run_takeDeferred hK, ?_⟩⟩
    exact ⟨_, results_tmp rfl _ _ _, v, rfl, ownsRow_putObj hrow _ hK rfl, hB.trans (belowK_b (w := w) (Nat.le_refl _) W D _ _ (by simp at hD; omega) hK rfl rfl)⟩
  case stop =>
    rintro D c pre W _ _ h _
    exact h.elim

theorem entries_any (m : Value) (p : Nat) (es : List (Int × Int)) (hm : IsMem m) (hR : Yields w m p 0 es) (hl : es.length ≤ 100000) : Calls Tryz.prog 16 #[.agg #[m, .int .u64 p]] w (EntsPost w es) := by
  refine (callsIn_wide (n := 3)).1 ?_
  rcases hm with rfl | ⟨a, rfl⟩
  · exact entries_in1 3 (by omega) ⟨0, 0, none⟩ ⟨0, 0, none⟩ rfl p es (.inl rfl) hR hl
  · exact entries_in2 3 (by omega) a a rfl p es (.inr ⟨a, rfl⟩) hR hl
end
end Go.Proofs.YtgdcjedcinapdaaGreat

/- The words of the node that the law draws are those of a valid node with its entries. -/
namespace Go.Proofs.YtgdcjedcinapdaaGreat
open Go.RowKit

theorem digs_div (l : List Nat) (h : ∀ s ∈ l, s < 16) : ∀ i, digs l / 16 ^ i % 16 = l.getD i 0 := by
  induction l with
  | nil => intro i; simp [digs]
  | cons s l ih =>
    intro i
    have hs := h s (by simp)
    cases i with
    | zero => simp only [Nat.pow_zero, Nat.div_one, digs, List.getD_cons_zero]; omega
    | succ i =>
      have := ih (fun x hx => h x (by simp [hx])) i
      rw [List.getD_cons_succ, ← this, digs, Nat.pow_succ, Nat.mul_comm (16 ^ i) 16, ← Nat.div_div_eq_div_mul]
      congr 2; omega
theorem nib_ord (l : List Nat) (c i : Nat) (h : ∀ s ∈ l, s < 16) (hl : l.length ≤ 12) (hi : i < 12) : nib (ordN l c) i = l.getD i 0 := by
  unfold nib ordN
  rw [Nat.pow_add, Nat.pow_mul, show 2 ^ 4 = 16 from rfl, ← Nat.div_div_eq_div_mul]
  have e1 : (c % 4096 * 4503599627370496 + 16 * digs l + l.length) / 16 = c % 4096 * 281474976710656 + digs l := by omega
  rw [e1, ← digs_div l h i]
  have e2 : (281474976710656 : Nat) = 16 ^ i * 16 ^ (12 - i) := by rw [← Nat.pow_add, show i + (12 - i) = 12 by omega]
  rw [e2, Nat.mul_left_comm, Nat.mul_add_div (Nat.pow_pos (by omega))]
  obtain ⟨q, hq⟩ : ∃ q, 16 ^ (12 - i) = 16 * q := ⟨16 ^ (11 - i), by rw [← Nat.pow_succ']; congr 1; omega⟩
  rw [hq, Nat.mul_left_comm]; omega
theorem ord_mod (l : List Nat) (c : Nat) (hl : l.length ≤ 12) : ordN l c % 16 = l.length := by unfold ordN; omega
theorem ord_div (l : List Nat) (c : Nat) (h : ∀ s ∈ l, s < 16) (hl : l.length ≤ 12) : ordN l c / 4503599627370496 = c % 4096 := by
  have h1 := digs_lt l h
  have h2 : (16 : Nat) ^ l.length ≤ 16 ^ 12 := Nat.pow_le_pow_right (by omega) hl
  have h3 : (16 : Nat) ^ 12 = 281474976710656 := by decide
  unfold ordN; omega
theorem slotsN_ord (l : List Nat) (c : Nat) (h : ∀ s ∈ l, s < 16) (hl : l.length ≤ 12) : slotsN (ordN l c) l.length = l := by
  unfold slotsN
  refine List.ext_getElem? fun i => ?_
  by_cases hi : i < l.length
  · rw [List.getElem?_map, List.getElem?_range hi, Option.map_some, nib_ord l c i h hl (by omega)]; simp [List.getD, hi]
  · rw [List.getElem?_eq_none (by simp; omega), List.getElem?_eq_none (by omega)]
theorem parse_ord (l : List Nat) (c : Nat) (h : ∀ s ∈ l, s < 12) (hl : l.length ≤ 12) (hn : l.Nodup) : parseOk (ordN l c) := by
  have h16 : ∀ s ∈ l, s < 16 := fun s hs => by have := h s hs; omega
  unfold parseOk
  rw [ord_mod l c hl]
  refine ⟨hl, fun i hi => ⟨fun h1 => ?_, fun h1 => ⟨?_, fun j hj => ?_⟩⟩⟩
  · rw [nib_ord l c i h16 hl hi, getD_none _ _ h1]
  · rw [nib_ord l c i h16 hl hi]; simp [List.getD, h1]; exact h _ (List.getElem_mem _)
  · rw [nib_ord l c i h16 hl hi, nib_ord l c j h16 hl (by omega)]
    simp only [List.getD, List.getElem?_eq_getElem h1, List.getElem?_eq_getElem (show j < l.length by omega), Option.getD_some]
    exact fun e => by have := (List.getElem_inj hn).1 e; omega

/-- The words of memory are those of the node. -/
def IsNode (W : Nat → Int) (n : NodeP) : Prop := ∀ i, i < 28 → W i = nWords n i
theorem nWords_zero (n : NodeP) : nWords n 0 = (ordN (nSlots n) n.count : Nat) := by
  unfold nWords; rw [if_neg (by omega), if_neg (by omega), if_neg (by omega)]; exact wdK_full n
theorem nSlots_len12 (n : NodeP) : (nSlots n).length ≤ 12 := by rw [nSlots_len]; exact nKeys_len n
theorem nSlots_16 (n : NodeP) : ∀ s ∈ nSlots n, s < 16 := fun s hs => by have := nSlots_lt n s hs; omega
/-- The words of entry i, when all k entries are in. -/
theorem wdK_entry (n : NodeP) (k i s : Nat) (hi : i < k) (hk : k ≤ (nSlots n).length) (hs : (nSlots n)[i]? = some s) : wdK n k (4 + s) = (nKeys n).getD i 0 ∧ wdK n k (16 + s) = nVal n i := by
  have hs12 := nSlots_lt n s (List.mem_of_getElem? hs)
  induction k with
  | zero => omega
  | succ k ih =>
    have hk' : (nSlots n)[k]? = some ((nSlots n).getD k 0) := by simp [List.getD, List.getElem?_eq_getElem (show k < (nSlots n).length by omega)]
    have ht12 := nSlots_lt n _ (List.mem_of_getElem? hk')
    have step : ∀ x, x ≠ 0 → wdK n (k + 1) x = if x = 16 + (nSlots n).getD k 0 then nVal n k else if x = 4 + (nSlots n).getD k 0 then (nKeys n).getD k 0 else wdK n k x := fun x hx => by
      show (if x = 0 then _ else _) = _
      rw [if_neg hx]
    rw [step _ (by omega), step _ (by omega)]
    generalize ht : (nSlots n).getD k 0 = t at *
    by_cases e : i = k
    · subst e
      rw [hs] at hk'
      have e2 : s = t := Option.some.inj hk'
      subst e2
      rw [if_neg (by omega), if_pos rfl, if_pos rfl]; exact ⟨rfl, rfl⟩
    · have hne : t ≠ s := fun h => by
        subst h
        have a := List.getElem?_eq_some_iff.1 hs; have b := List.getElem?_eq_some_iff.1 hk'
        exact e ((List.getElem_inj (nSlots_nodup n)).1 (a.2.trans b.2.symm))
      rw [if_neg (by omega), if_neg (by omega), if_neg (by omega), if_neg (by omega)]
      exact ih (by omega) (by omega)

section
variable {W : Nat → Int} {n : NodeP}
theorem IsNode.w0 (h : IsNode W n) : W 0 = (ordN (nSlots n) n.count : Nat) := by rw [h 0 (by omega), nWords_zero]
theorem IsNode.slots (h : IsNode W n) : slotsW W = nSlots n := by
  unfold slotsW; rw [h.w0, Int.toNat_natCast, ord_mod _ _ (nSlots_len12 n)]; exact slotsN_ord _ _ (nSlots_16 n) (nSlots_len12 n)
theorem IsNode.count (h : IsNode W n) : (W 0).toNat / 4503599627370496 = n.count % 4096 := by rw [h.w0, Int.toNat_natCast]; exact ord_div _ _ (nSlots_16 n) (nSlots_len12 n)
theorem IsNode.entry (h : IsNode W n) (i s : Nat) (hs : (nSlots n)[i]? = some s) : W (4 + s) = (nKeys n).getD i 0 ∧ W (16 + s) = nVal n i := by
  have hs12 := nSlots_lt n s (List.mem_of_getElem? hs)
  have hi : i < (nSlots n).length := (List.getElem?_eq_some_iff.1 hs).1
  rw [h _ (by omega), h _ (by omega)]
  unfold nWords
  rw [if_neg (by omega), if_neg (by omega), if_neg (by omega), if_neg (by omega), if_neg (by omega), if_neg (by omega)]
  exact wdK_entry n _ i s hi (Nat.le_refl _) hs
theorem IsNode.w1 (h : IsNode W n) : W 1 = if n.next then ((ptrN 8 : Nat) : Int) else 0 := h 1 (by omega)
theorem IsNode.w3 (h : IsNode W n) : W 3 = if n.bounded then 1 else 0 := h 3 (by omega)
theorem IsNode.w2 (h : IsNode W n) : W 2 = if n.bounded then (n.high : Int) + (if (nKeys n).length = 0 then 0 else (nKeys n).getD ((nKeys n).length - 1) 0 + 1) else 0 := h 2 (by omega)
/-- The node's entries. -/
def nEnts (n : NodeP) : List (Int × Int) := (List.range (nKeys n).length).map fun i => ((nKeys n).getD i 0, nVal n i)
theorem IsNode.ents (h : IsNode W n) : entsW W (nSlots n) = nEnts n := by
  unfold entsW nEnts
  refine List.ext_getElem? fun i => ?_
  by_cases hi : i < (nSlots n).length
  · have hs : (nSlots n)[i]? = some (nSlots n)[i] := List.getElem?_eq_getElem hi
    rw [List.getElem?_map, hs, Option.map_some, List.getElem?_map, List.getElem?_range (by rw [← nSlots_len]; exact hi), Option.map_some, (h.entry i _ hs).1, (h.entry i _ hs).2]
  · rw [List.getElem?_eq_none (by simp; omega), List.getElem?_eq_none (by simp; rw [← nSlots_len]; omega)]
theorem nKeys_asc (n : NodeP) (i j : Nat) (hij : i < j) (hj : j < (nKeys n).length) : (nKeys n).getD i 0 < (nKeys n).getD j 0 := by
  have := List.pairwise_iff_getElem.1 (keysN_asc n.ks) i j (by show i < (nKeys n).length; omega) hj hij
  have e1 : (nKeys n).getD i 0 = (keysN n.ks)[i]'(by show i < (nKeys n).length; omega) := by simp [List.getD, nKeys, show i < (keysN n.ks).length by show i < (nKeys n).length; omega]
  have hj' : j < (keysN n.ks).length := hj
  have e2 : (nKeys n).getD j 0 = (keysN n.ks)[j]'hj' := by simp [List.getD, nKeys, hj']
  rw [e1, e2]; exact this
theorem IsNode.keyAt (h : IsNode W n) (i : Nat) (hi : i < (nSlots n).length) : keyAt W (nSlots n) i = (nKeys n).getD i 0 := by
  have hs : (nSlots n)[i]? = some (nSlots n)[i] := List.getElem?_eq_getElem hi
  unfold Go.Proofs.YtgdcjedcinapdaaGreat.keyAt
  rw [show (nSlots n).getD i 0 = (nSlots n)[i] by simp [List.getD, hi]]
  exact (h.entry i _ hs).1
theorem IsNode.ok (h : IsNode W n) (size : Nat) (hsz : 8 < size) : nodeOk W size := by
  unfold nodeOk
  rw [h.slots, h.w0, Int.toNat_natCast]
  refine ⟨parse_ord _ _ (nSlots_lt n) (nSlots_len12 n) (nSlots_nodup n), fun i h0 hi => ?_, ?_, ?_⟩
  · rw [h.keyAt _ (by omega), h.keyAt _ hi]
    exact nKeys_asc n (i - 1) i (by omega) (by rw [← nSlots_len]; exact hi)
  · rw [h.w3, h.w2]
    cases hb : n.bounded with
    | false => left; simp
    | true =>
      right
      refine ⟨by simp, fun hl => ?_⟩
      rw [h.keyAt _ (by omega), nSlots_len]
      rw [nSlots_len] at hl
      rw [if_pos rfl, if_neg (by omega)]
      omega
  · rw [h.w1]
    cases hn : n.next with
    | false => left; simp
    | true =>
      right
      rw [if_pos rfl, Int.toNat_natCast]
      unfold ptrValid
      rw [show ptrFormed (ptrN 8) = true by decide, show ptrOff (ptrN 8) = 8 by decide]
      simpa using hsz
end
end Go.Proofs.YtgdcjedcinapdaaGreat
