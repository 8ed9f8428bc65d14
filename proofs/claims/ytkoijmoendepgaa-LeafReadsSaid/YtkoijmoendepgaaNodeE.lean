/- The node that the law draws: its words. -/
import Derived.Test.YtkoijmoendepgaaNodeD
namespace Go.Proofs.Ytkoijmoendepgaa
open Go.RowKit

def nKeys (n : NodeP) : List Int := keysN n.ks
def nSlots (n : NodeP) : List Nat := nodeSlots (nKeys n).length n.ss
def nVal (n : NodeP) (i : Nat) : Int := if i < n.vs.length then n.vs.getD i 0 else i
theorem nSlots_len (n : NodeP) : (nSlots n).length = (nKeys n).length := (nodeSlots_good _ _ (keysN_len _)).2
theorem nSlots_lt (n : NodeP) : ∀ s ∈ nSlots n, s < 12 := (nodeSlots_good _ _ (keysN_len _)).1.2.2
theorem nSlots_nodup (n : NodeP) : (nSlots n).Nodup := (nodeSlots_good _ _ (keysN_len _)).1.2.1
theorem nKeys_len (n : NodeP) : (nKeys n).length ≤ 12 := keysN_len _

/-- The words with k entries. -/
def wdK (n : NodeP) : Nat → Nat → Int
  | 0, i => if i = 0 then ((n.count % 4096 * 4503599627370496 : Nat) : Int) else if i < 4 then 0 else 99
  | k + 1, i => if i = 0 then wdK n k 0 + (1 + ((nSlots n).getD k 0 * 2 ^ (4 + 4 * k) : Nat)) else if i = 16 + (nSlots n).getD k 0 then nVal n k else if i = 4 + (nSlots n).getD k 0 then (nKeys n).getD k 0 else wdK n k i
theorem digs_take (l : List Nat) (k s : Nat) (h : l[k]? = some s) : digs (l.take (k + 1)) = digs (l.take k) + 16 ^ k * s := by
  have hk : k < l.length := by
    rcases Nat.lt_or_ge k l.length with h' | h'
    · exact h'
    · rw [List.getElem?_eq_none h'] at h; cases h
  rw [take_snoc_get l k s h, digs_append]
  simp [digs, List.length_take, Nat.min_eq_left (Nat.le_of_lt hk)]
theorem wdK_zero (n : NodeP) (k : Nat) (hk : k ≤ (nSlots n).length) : wdK n k 0 = ((n.count % 4096 * 4503599627370496 + 16 * digs ((nSlots n).take k) + k : Nat) : Int) := by
  induction k with
  | zero => simp [wdK, digs]
  | succ k ih =>
    have h : (nSlots n)[k]? = some ((nSlots n).getD k 0) := by simp [List.getD, List.getElem?_eq_getElem (show k < (nSlots n).length by omega)]
    show wdK n k 0 + (1 + _) = _
    rw [ih (by omega), digs_take _ _ _ h, show 2 ^ (4 + 4 * k) = 16 * 16 ^ k by rw [Nat.pow_add, pow16]]
    generalize (nSlots n).getD k 0 = s
    have : s * (16 * 16 ^ k) = 16 * (16 ^ k * s) := by rw [Nat.mul_left_comm, Nat.mul_comm s]
    omega
theorem wdK_zero_lt (n : NodeP) (k : Nat) (hk : k ≤ (nSlots n).length) : 0 ≤ wdK n k 0 ∧ wdK n k 0 < 18446744073709551616 := by
  rw [wdK_zero n k hk]
  have := nSlots_len n; have := nKeys_len n
  have h := ord_lt ((nSlots n).take k) k n.count (fun x hx => by have := nSlots_lt n x (List.mem_of_mem_take hx); omega) (by omega) (by rw [List.length_take]; omega)
  omega
theorem wdK_full (n : NodeP) : wdK n (nSlots n).length 0 = (ordN (nSlots n) n.count : Nat) := by
  rw [wdK_zero n _ (Nat.le_refl _), List.take_length]; rfl

/-- The words of the node. -/
def nWords (n : NodeP) (i : Nat) : Int :=
  if i = 1 then (if n.next then (ptrN 8 : Nat) else 0)
  else if i = 2 then (if n.bounded then (n.high : Int) + (if (nKeys n).length = 0 then 0 else (nKeys n).getD ((nKeys n).length - 1) 0 + 1) else 0)
  else if i = 3 then (if n.bounded then 1 else 0) else wdK n (nSlots n).length i

section
variable {w : World}
theorem slice_cell {a : Option Addr} {n c size m : Nat} {xs : List Value} {wr : World} {k : Nat} {u : Value} (h : RdSl wr size (.slice a n c) m xs) (hk : xs[k]? = some u) : ∃ b o, a = some ⟨b, o, none⟩ ∧ wr.cell? ⟨b, o + k, none⟩ = some u := by
  obtain ⟨_, a', c', e, _, h2⟩ := h
  cases e
  obtain ⟨b, o, rfl, h3⟩ := rd_at h2 hk
  exact ⟨b, o, rfl, h3 k u hk⟩
theorem slice_at {b o n c size m : Nat} {xs : List Value} {wr : World} {k : Nat} {u : Value} (h : RdSl wr size (.slice (some ⟨b, o, none⟩) n c) m xs) (hk : xs[k]? = some u) : wr.cell? ⟨b, o + k, none⟩ = some u := by
  obtain ⟨b', o', e, h⟩ := slice_cell h hk
  cases e; exact h
/-- k entries are in. -/
structure WMid (w : World) (n : NodeP) (ka sa va : Option Addr) (kc sc vc : Nat) (g : Nat) (kv sv : Value) (f : Nat → Int) (wr : World) : Prop where
  row : Row wr g 28 23 (fun i => .int .u64 (f i))
  box : Blk wr w.heap.size (nodeAgg n ka sa va kc sc vc) 63
  keys : RdSl wr 1 kv (nKeys n).length (intsU (nKeys n))
  slots : RdSl wr 1 sv (nKeys n).length (natsI (nSlots n))
  kg : ∀ b, kv.ownBlock = some b → b ≠ g
  sg : ∀ b, sv.ownBlock = some b → b ≠ g
  gt : w.heap.size < g
  bel : Below w.heap.size w wr
theorem WMid.set {n : NodeP} {ka sa va : Option Addr} {kc sc vc g : Nat} {kv sv : Value} {f : Nat → Int} {wr : World} (h : WMid w n ka sa va kc sc vc g kv sv f wr) (i : Nat) (x : Int) :
    WMid w n ka sa va kc sc vc g kv sv (fun j => if j = i then x else f j) (wr.setCell ⟨g, i, none⟩ (.int .u64 x)) := by
  have hb : ∀ b, b ≠ g → (wr.setCell ⟨g, i, none⟩ (.int .u64 x)).heap[b]? = wr.heap[b]? := fun b hb => Below.heap_setCell _ _ _ _ hb
  refine ⟨(h.row.set i _).congr (fun j _ => by split <;> rfl), h.box.other (by show w.heap.size ≠ g; have := h.gt; omega) _, h.keys.kept (fun b h1 _ => hb b (h.kg b h1)), h.slots.kept (fun b h1 _ => hb b (h.sg b h1)), h.kg, h.sg, h.gt, h.bel.setCell (p := ⟨g, i, none⟩) (by show w.heap.size ≤ g; have := h.gt; omega) _⟩
theorem WMid.drew {n : NodeP} {ka sa va : Option Addr} {kc sc vc g : Nat} {kv sv : Value} {f : Nat → Int} {wr : World} (h : WMid w n ka sa va kc sc vc g kv sv f wr) : WMid w n ka sa va kc sc vc g kv sv f wr.drew :=
  ⟨h.row.drew, h.box.drew, h.keys.drew, h.slots.drew, h.kg, h.sg, h.gt, ⟨h.bel.os, h.bel.tape, h.bel.output, h.bel.size, h.bel.block⟩⟩
theorem WMid.congr {n : NodeP} {ka sa va : Option Addr} {kc sc vc g : Nat} {kv sv : Value} {f f' : Nat → Int} {wr : World} (h : WMid w n ka sa va kc sc vc g kv sv f wr) (hf : ∀ i, i < 28 → f i = f' i) : WMid w n ka sa va kc sc vc g kv sv f' wr :=
  { h with row := h.row.congr (fun i hi => by rw [hf i hi]) }

theorem row_rep (W : World) (g : Nat) (y : Int) (h : Blk W g (rep28 y 28).toArray 23) : Row W g 28 23 (fun _ => .int .u64 y) := ⟨_, h, fun i hi => by simpa using rep28_at y 28 i hi (by omega)⟩
/-- The row of the words is there, all 99. -/
structure WStart (w : World) (n : NodeP) (ka sa va : Option Addr) (kc sc vc : Nat) (g : Nat) (wr : World) : Prop where
  row : Row wr g 28 23 (fun _ => .int .u64 99)
  box : Blk wr w.heap.size (nodeAgg n ka sa va kc sc vc) 63
  gt : w.heap.size < g
  bel : Below w.heap.size w wr
set_option maxRecDepth 100000 in
theorem words_rep (n : NodeP) (ka sa va : Option Addr) (kc sc vc : Nat) : Calls Try.prog 60 #[.slice (some ⟨w.heap.size + 1, 0, none⟩) 1 1, .int .i64 28] ((w.alloc (.cells (nodeAgg n ka sa va kc sc vc) 63)).alloc (.cells #[.int .u64 99] 23))
    fun r w' => ∃ g, r = .returned (.slice (some ⟨g, 0, none⟩) 28 28) ∧ WStart w n ka sa va kc sc vc g w' := by
  have hb : Blk ((w.alloc (.cells (nodeAgg n ka sa va kc sc vc) 63)).alloc (.cells #[.int .u64 99] 23)) (w.heap.size + 1) #[.int .u64 99] 23 := by
    have := Blk.new (w.alloc (.cells (nodeAgg n ka sa va kc sc vc) 63)) #[.int .u64 99] 23
    rwa [World.size_alloc] at this
  refine (repeat_any (w.heap.size + 1) 99 (hb.cell rfl)).mono ?_
  rintro r w' ⟨h1, h2, h3⟩
  refine ⟨_, h1, row_rep _ _ _ h2, ?_, by simp; omega, ?_⟩
  · exact ((Blk.new w (nodeAgg n ka sa va kc sc vc) 63).alloc _).below h3
  · exact ((below_alloc w _).trans ((below_alloc _ _).mono (by simp))).trans (h3.mono (by simp; omega))

/-- The first four words are set. -/
structure WTwo (w : World) (n : NodeP) (ka sa va : Option Addr) (kc sc vc : Nat) (g : Nat) (wr : World) : Prop where
  row : Row wr g 28 23 (fun i => .int .u64 (wdK n 0 i))
  box : Blk wr w.heap.size (nodeAgg n ka sa va kc sc vc) 63
  gt : w.heap.size < g
  bel : Below w.heap.size w wr
theorem words_two {n : NodeP} {ka sa va : Option Addr} {kc sc vc g : Nat} {w1 w2 : World} (h : WStart w n ka sa va kc sc vc g w1)
    (hx : w2 = (((w1.setCell ⟨g, 0, none⟩ (.int .u64 ((n.count : Int) % 4096 * 4503599627370496))).setCell ⟨g, 1, none⟩ (.int .u64 0)).setCell ⟨g, 2, none⟩ (.int .u64 0)).setCell ⟨g, 3, none⟩ (.int .u64 0)) : WTwo w n ka sa va kc sc vc g w2 := by
  subst hx
  have hne : w.heap.size ≠ g := by have := h.gt; omega
  have hle : w.heap.size ≤ g := by have := h.gt; omega
  refine ⟨((((h.row.set 0 _).set 1 _).set 2 _).set 3 _).congr (fun i hi => ?_), (((h.box.other (a := ⟨g, 0, none⟩) hne _).other (a := ⟨g, 1, none⟩) hne _).other (a := ⟨g, 2, none⟩) hne _).other (a := ⟨g, 3, none⟩) hne _, h.gt,
    (((h.bel.setCell (p := ⟨g, 0, none⟩) hle _).setCell (p := ⟨g, 1, none⟩) hle _).setCell (p := ⟨g, 2, none⟩) hle _).setCell (p := ⟨g, 3, none⟩) hle _⟩
  unfold wdK
  by_cases e0 : i = 0
  · subst e0; simp
  · by_cases e1 : i < 4
    · rw [if_neg e0, if_pos e1]
      have : i = 1 ∨ i = 2 ∨ i = 3 := by omega
      rcases this with rfl | rfl | rfl <;> simp
    · rw [if_neg e0, if_neg e1, if_neg (by omega), if_neg (by omega), if_neg (by omega), if_neg e0]
theorem WTwo.below {n : NodeP} {ka sa va : Option Addr} {kc sc vc g : Nat} {w2 w3 : World} (h : WTwo w n ka sa va kc sc vc g w2) (hb : Below w2.heap.size w2 w3) : WTwo w n ka sa va kc sc vc g w3 :=
  ⟨h.row.below hb, h.box.below hb, h.gt, h.bel.trans (hb.mono h.bel.size)⟩
structure WThree (w : World) (n : NodeP) (ka sa va : Option Addr) (kc sc vc : Nat) (g : Nat) (kv : Value) (wr : World) : Prop extends WTwo w n ka sa va kc sc vc g wr where
  keys : RdSl wr 1 kv (nKeys n).length (intsU (nKeys n))
  kg : ∀ b, kv.ownBlock = some b → b ≠ g
theorem words_three {n : NodeP} {ka sa va : Option Addr} {kc sc vc g : Nat} {kv : Value} {w2 w3 : World} (h : WTwo w n ka sa va kc sc vc g w2) (a : Acc w2 w2.heap.size w3 23 1 kv (keysN n.ks).length (intsU (keysN n.ks))) : WThree w n ka sa va kc sc vc g kv w3 :=
  ⟨h.below a.bel, a.rd, fun b hb => by have := a.new b hb; have := h.row.lt; omega⟩
theorem words_four {n : NodeP} {ka sa va : Option Addr} {kc sc vc g : Nat} {kv sv : Value} {w3 w4 : World} (h : WThree w n ka sa va kc sc vc g kv w3)
    (a : Acc w3 w3.heap.size w4 3 1 sv (nodeSlots (nKeys n).length n.ss).length (natsI (nodeSlots (nKeys n).length n.ss))) : WMid w n ka sa va kc sc vc g kv sv (wdK n 0) w4 :=
  ⟨h.row.below a.bel, h.box.below a.bel, h.keys.below a.bel, (by have := a.rd; rw [show (nodeSlots (nKeys n).length n.ss).length = (nKeys n).length from nSlots_len n] at this; exact this), h.kg, fun b hb => by have := a.new b hb; have := h.row.lt; omega, h.gt, h.bel.trans (a.bel.mono h.bel.size)⟩

/-- The words without the successor. -/
def wdB (n : NodeP) (i : Nat) : Int :=
  if i = 2 then (if n.bounded then (n.high : Int) + (if (nKeys n).length = 0 then 0 else (nKeys n).getD ((nKeys n).length - 1) 0 + 1) else 0)
  else if i = 3 then (if n.bounded then 1 else 0) else wdK n (nSlots n).length i
theorem wdK_small (n : NodeP) (k i : Nat) (h0 : 0 < i) (h : i < 4) : wdK n k i = 0 := by
  induction k with
  | zero => unfold wdK; rw [if_neg (by omega), if_pos h]
  | succ k ih => unfold wdK; rw [if_neg (by omega), if_neg (by omega), if_neg (by omega)]; exact ih
theorem wdB_one (n : NodeP) : wdB n 1 = 0 := by unfold wdB; rw [if_neg (by omega), if_neg (by omega)]; exact wdK_small n _ 1 (by omega) (by omega)
theorem nWords_eq (n : NodeP) (i : Nat) : nWords n i = if i = 1 then (if n.next then ((ptrN 8 : Nat) : Int) else 0) else wdB n i := by
  unfold nWords wdB; rfl
theorem wordsB_none {n : NodeP} {ka sa va : Option Addr} {kc sc vc g k : Nat} {kv sv : Value} {wx : World} (h : WMid w n ka sa va kc sc vc g kv sv (wdK n k) wx) (hb : n.bounded = false) (hk : (nKeys n).length = k) : WMid w n ka sa va kc sc vc g kv sv (wdB n) wx := by
  refine h.congr (fun i _ => ?_)
  unfold wdB; rw [hb, nSlots_len, hk]
  by_cases e2 : i = 2
  · subst e2; rw [if_pos rfl, if_neg (by simp)]; exact wdK_small n _ _ (by omega) (by omega)
  · rw [if_neg e2]
    by_cases e3 : i = 3
    · subst e3; rw [if_pos rfl, if_neg (by simp)]; exact wdK_small n _ _ (by omega) (by omega)
    · rw [if_neg e3]
theorem wordsB_empty {n : NodeP} {ka sa va : Option Addr} {kc sc vc g : Nat} {kv sv : Value} {wx : World} (h : WMid w n ka sa va kc sc vc g kv sv (wdK n 0) wx) (hb : n.bounded = true) (hk : (nKeys n).length = 0) :
    WMid w n ka sa va kc sc vc g kv sv (wdB n) ((wx.setCell ⟨g, 2, none⟩ (.int .u64 (n.high : Int))).setCell ⟨g, 3, none⟩ (.int .u64 1)) := by
  refine ((h.set 2 (n.high : Int)).set 3 1).congr (fun i _ => ?_)
  unfold wdB; rw [hb, nSlots_len, hk]
  by_cases e2 : i = 2
  · subst e2; simp
  · by_cases e3 : i = 3
    · subst e3; simp
    · rw [if_neg e2, if_neg e3, if_neg e3, if_neg e2]
theorem wordsB_full {n : NodeP} {ka sa va : Option Addr} {kc sc vc g k : Nat} {kv sv : Value} {wx : World} {key : Int} (h : WMid w n ka sa va kc sc vc g kv sv (fun j => if j = 3 then 1 else (if j = 2 then (n.high : Int) else wdK n k j)) wx) (hb : n.bounded = true) (hk : (nKeys n).length = k) (hk0 : ¬ k = 0)
    (hkey : (nKeys n)[k - 1]? = some key) : WMid w n ka sa va kc sc vc g kv sv (wdB n) (wx.setCell ⟨g, 2, none⟩ (.int .u64 ((n.high : Int) + (key + 1)))).drew := by
  refine ((h.set 2 _).drew).congr (fun i _ => ?_)
  have hg : (nKeys n).getD ((nKeys n).length - 1) 0 = key := by rw [hk]; simp [List.getD, hkey]
  unfold wdB; rw [hb, nSlots_len, hg, hk]
  by_cases e2 : i = 2
  · subst e2; simp [hk0]
  · by_cases e3 : i = 3
    · subst e3; simp
    · rw [if_neg e2, if_neg e3, if_neg e2, if_neg e2, if_neg e3]
theorem words_step {n : NodeP} {ka sa va : Option Addr} {kc sc vc g k s : Nat} {kv sv : Value} {f : Nat → Int} {wx : World} {key sh y : Int} (h : WMid w n ka sa va kc sc vc g kv sv f wx) (hkey : (nKeys n)[k]? = some key)
    (hst : (nSlots n).getD k 0 = s ∧ wdK n (k + 1) 0 = wdK n k 0 + (1 + sh)) (hy : nVal n k = y) (hf : ∀ i, i ≠ 0 → f i = if i = 16 + s then y else if i = 4 + s then key else wdK n k i) :
    WMid w n ka sa va kc sc vc g kv sv (wdK n (k + 1)) (wx.setCell ⟨g, 0, none⟩ (.int .u64 (wdK n k 0 + (1 + sh)))).drew := by
  refine ((h.set 0 (wdK n k 0 + (1 + sh))).drew).congr (fun i _ => ?_)
  by_cases e0 : i = 0
  · subst e0; rw [if_pos rfl, hst.2]
  · rw [if_neg e0, hf i e0]
    show _ = if i = 0 then _ else _
    rw [if_neg e0, hst.1, hy]
    have : (nKeys n).getD k 0 = key := by simp [List.getD, hkey]
    rw [this]

set_option maxRecDepth 100000 in
set_option maxHeartbeats 4000000 in
theorem words_any {n : NodeP} {ka sa va : Option Addr} {kc sc vc : Nat} (h : NodeIn w n ka sa va kc sc vc) :
    Calls Try.prog 27 #[.agg (nodeAgg n ka sa va kc sc vc)] w fun r w' => ∃ g, r = .returned (.slice (some ⟨g, 0, none⟩) 28 28) ∧ Row w' g 28 23 (fun i => .int .u64 (nWords n i)) ∧ w.heap.size ≤ g ∧ Below w.heap.size w w' := by
  have hc16 := h.c16
  have H := Lib.hid h; clear h
  unfold nodeAgg
  go_enter Try.func27, Try.ntmps27
  go_wp2_with fail
  have HR := Lib.hid (words_rep (w := w) n ka sa va kc sc vc)
  (with_reducible refine HR.out.mono ?_)
  rintro e w1 ⟨g, rfl, m1⟩
  have hgs := m1.row.lt
  have l0 : w1.cell? ⟨w.heap.size, 0, none⟩ = some (.int .u8 n.pos) := m1.box.cell rfl
  have l1 : w1.cell? ⟨w.heap.size, 1, none⟩ = some (.slice ka n.ks.length kc) := m1.box.cell rfl
  have l2 : w1.cell? ⟨w.heap.size, 2, none⟩ = some (.slice sa n.ss.length sc) := m1.box.cell rfl
  have l3 : w1.cell? ⟨w.heap.size, 3, none⟩ = some (.slice va n.vs.length vc) := m1.box.cell rfl
  have l4 : w1.cell? ⟨w.heap.size, 4, none⟩ = some (.int .u8 n.high) := m1.box.cell rfl
  have l5 : w1.cell? ⟨w.heap.size, 5, none⟩ = some (.bool n.bounded) := m1.box.cell rfl
  have l6 : w1.cell? ⟨w.heap.size, 6, none⟩ = some (.bool n.next) := m1.box.cell rfl
  have l7 : w1.cell? ⟨w.heap.size, 7, none⟩ = some (.int .u16 n.count) := m1.box.cell rfl
  have hgt := m1.gt
  have hne : ¬ w.heap.size = g := by omega
  have hne2 : ¬ g = w.heap.size := by omega
  have c0 : w1.cell? ⟨g, 0, none⟩ = some (.int .u64 99) := m1.row.cell (by omega)
  have c1 : w1.cell? ⟨g, 1, none⟩ = some (.int .u64 99) := m1.row.cell (by omega)
  have c2 : w1.cell? ⟨g, 2, none⟩ = some (.int .u64 99) := m1.row.cell (by omega)
  have c3 : w1.cell? ⟨g, 3, none⟩ = some (.int .u64 99) := m1.row.cell (by omega)
  have f0 := m1.row.frozen 0; have f1 := m1.row.frozen 1; have f2 := m1.row.frozen 2; have f3 := m1.row.frozen 3
  have M1 := Lib.hid m1
  clear HR m1
  go_wp2_with fail
  obtain ⟨w2, hw2⟩ : ∃ w2, w2 = (((w1.setCell ⟨g, 0, none⟩ (.int .u64 ((n.count : Int) % 4096 * 4503599627370496))).setCell ⟨g, 1, none⟩ (.int .u64 0)).setCell ⟨g, 2, none⟩ (.int .u64 0)).setCell ⟨g, 3, none⟩ (.int .u64 0) := ⟨_, rfl⟩
  rw [← hw2]
  have m2 := words_two M1.out hw2
  have M2 := Lib.hid m2
  clear l0 l1 l2 l3 l4 l5 l6 l7 c0 c1 c2 c3 f0 f1 f2 f3 M1 hgs hw2
  have HK := Lib.hid (keys_any (H.out.below m2.bel))
  clear m2
  (with_reducible refine HK.out.mono ?_)
  rintro e w3 ⟨kv, rfl, a3⟩
  obtain ⟨ka3, kc3, hkv⟩ := a3.slice
  have hkl := nKeys_len n
  have m3 := words_three M2.out a3
  rw [hkv] at m3 ⊢
  rw [show (keysN n.ks).length = (nKeys n).length from rfl] at m3 ⊢
  have l0 : w3.cell? ⟨w.heap.size, 0, none⟩ = some (.int .u8 n.pos) := m3.box.cell rfl
  have l1 : w3.cell? ⟨w.heap.size, 1, none⟩ = some (.slice ka n.ks.length kc) := m3.box.cell rfl
  have l2 : w3.cell? ⟨w.heap.size, 2, none⟩ = some (.slice sa n.ss.length sc) := m3.box.cell rfl
  have l3 : w3.cell? ⟨w.heap.size, 3, none⟩ = some (.slice va n.vs.length vc) := m3.box.cell rfl
  have l4 : w3.cell? ⟨w.heap.size, 4, none⟩ = some (.int .u8 n.high) := m3.box.cell rfl
  have l5 : w3.cell? ⟨w.heap.size, 5, none⟩ = some (.bool n.bounded) := m3.box.cell rfl
  have l6 : w3.cell? ⟨w.heap.size, 6, none⟩ = some (.bool n.next) := m3.box.cell rfl
  have l7 : w3.cell? ⟨w.heap.size, 7, none⟩ = some (.int .u16 n.count) := m3.box.cell rfl
  have M3 := Lib.hid m3
  have HS := Lib.hid (slots_any (H.out.below m3.bel) (nKeys n).length hkl)
  clear m3 a3 hkv HK M2
  go_wp2_with fail
  (with_reducible refine HS.out.mono ?_)
  rintro e w4 ⟨sv, rfl, a4⟩
  obtain ⟨sa4, sc4, hsv⟩ := a4.slice
  have m4 := words_four M3.out a4
  have hsl := nSlots_len n
  have hns : (nodeSlots (nKeys n).length n.ss).length = (nKeys n).length := hsl
  rw [hsv] at m4 ⊢
  rw [hns] at m4 ⊢
  have M4 := Lib.hid m4
  clear l0 l1 l2 l3 l4 l5 l6 l7 HS M3 a4 hsv m4 hns hsl
  generalize hkn : (nKeys n).length = kn at *
  have HKN := Lib.hid hkn; clear hkn
  go_wp2_with fail
  go_loopw [31] (fun x wr => ∃ k : Nat, k ≤ kn ∧ x = .int .i64 k ∧ WMid w n ka sa va kc sc vc g (.slice ka3 kn kc3) (.slice sa4 kn sc4) (wdK n k) wr) (fun x _ => kn - (intOf x).toNat)
  case atStart => exact ⟨0, by omega, rfl, M4.out⟩
  case round =>
    obtain ⟨k, hk, rfl, hm⟩ := hrel
    have M := Lib.hid hm
    clear M4
    by_cases hlt : k < kn
    · obtain ⟨key, hkey⟩ : ∃ x, (nKeys n)[k]? = some x := ⟨_, List.getElem?_eq_getElem (by rw [HKN.out]; exact hlt)⟩
      obtain ⟨s, hs⟩ : ∃ x, (nSlots n)[k]? = some x := ⟨_, List.getElem?_eq_getElem (by rw [nSlots_len, HKN.out]; exact hlt)⟩
      have hs12 := nSlots_lt n s (List.mem_of_getElem? hs)
      obtain ⟨b1, o1, hb1, hc1⟩ := slice_cell hm.keys (intsU_get (nKeys n) k key hkey)
      obtain ⟨b2, o2, hb2, hc2⟩ := slice_cell hm.slots (show (natsI (nSlots n))[k]? = some (.int .i64 s) by simp [natsI, hs])
      subst hb1 hb2
      have cg4 : wr.cell? ⟨g, 4 + s, none⟩ = some (.int .u64 (wdK n k (4 + s))) := hm.row.cell (by omega)
      have cg16 : wr.cell? ⟨g, 16 + s, none⟩ = some (.int .u64 (wdK n k (16 + s))) := hm.row.cell (by omega)
      have fg4 := hm.row.frozen (4 + s); have fg16 := hm.row.frozen (16 + s)
      have nb1 : ¬ b1 = g := hm.kg b1 rfl
      have nb2 : ¬ b2 = g := hm.sg b2 rfl
      have l3 : wr.cell? ⟨w.heap.size, 3, none⟩ = some (.slice va n.vs.length vc) := hm.box.cell rfl
      have hgs := hm.row.lt
      have ns : ¬ 4 + s = 16 + s := by omega
      have ns2 : ¬ 16 + s = 4 + s := by omega
      have hsi : (4 + (s : Int)).toNat = 4 + s := by omega
      have hsi2 : (16 + (s : Int)).toNat = 16 + s := by omega
      have HKEY := Lib.hid hkey; have HSL := Lib.hid hs
      clear hm hkey hs
      by_cases hvl : k < n.vs.length
      · obtain ⟨vx, hvx⟩ : ∃ x, n.vs[k]? = some x := ⟨_, List.getElem?_eq_getElem hvl⟩
        obtain ⟨b3, o3, hb3, hc3⟩ := slice_cell (H.out.below M.out.bel).vs (intsK_get .u64 n.vs k vx hvx)
        subst hb3
        have nb3' : b3 < w.heap.size := World.block_lt_of_cell? w _ (slice_at H.out.vs (intsK_get .u64 n.vs k vx hvx))
        have nb3 : ¬ b3 = g := by omega
        have hvl' : (k : Int) < n.vs.length := by omega
        have HVX := Lib.hid hvx; clear hvx
        go_upto_region 11 with fail
        obtain ⟨wx, hwx⟩ : ∃ wx, wx = (((wr.setCell ⟨g, 4 + s, none⟩ (.int .u64 key)).setCell ⟨g, 16 + s, none⟩ (.int .u64 (k : Int))).setCell ⟨g, 16 + s, none⟩ (.int .u64 vx)) := ⟨_, rfl⟩
        rw [← hwx]
        have mx := ((M.out.set (4 + s) key).set (16 + s) (k : Int)).set (16 + s) vx
        rw [← hwx] at mx
        have MX := Lib.hid mx
        have c0 : wx.cell? ⟨g, 0, none⟩ = some (.int .u64 (wdK n k 0)) := by have := mx.row.cell (i := 0) (by omega); rw [this]; simp; omega
        have f0 := mx.row.frozen 0
        have hgx := mx.row.lt
        clear hwx mx cg4 cg16 fg4 fg16 l3 hc1 hc2 M hgs nb1 nb2
        have hw0 := wdK_zero_lt n k (by rw [nSlots_len, HKN.out]; omega)
        have hw1 := wdK_zero_lt n (k + 1) (by rw [nSlots_len, HKN.out]; omega)
        have hgd : (nSlots n).getD k 0 = s := by simp [List.getD, HSL.out]
        have hstep : wdK n (k + 1) 0 = wdK n k 0 + (1 + ((s * 2 ^ (4 + 4 * k) : Nat) : Int)) := by rw [← hgd]; rfl
        have hsh0 : s * 2 ^ (4 + 4 * k) < 18446744073709551616 := by omega
        have hsc : ((s : Int) * 2 ^ (4 + 4 * k)) = ((s * 2 ^ (4 + 4 * k) : Nat) : Int) := by simp
        have hsh : IntKind.u64.wrap ((s : Int) * 2 ^ (4 + 4 * k)) = ((s * 2 ^ (4 + 4 * k) : Nat) : Int) := by rw [hsc]; exact IntWalk.u64_in _ (by omega)
        clear hsc
        generalize s * 2 ^ (4 + 4 * k) = sh at *
        have hx1 : IntKind.u64.wrap (1 + (sh : Int)) = 1 + (sh : Int) := IntWalk.u64_in _ (by omega)
        have hx2 : IntKind.u64.wrap (wdK n k 0 + (1 + (sh : Int))) = wdK n k 0 + (1 + (sh : Int)) := IntWalk.u64_in _ (by omega)
        have HST := Lib.hid (And.intro hgd hstep)
        clear hstep hgd hw0 hw1
        go_region
        all_goals go_wp2_with fail
        go_roundw
        case rel => exact ⟨k + 1, by omega, by go_num, words_step MX.out HKEY.out HST.out (y := vx) (by unfold nVal; rw [if_pos hvl, List.getD, HVX.out, Option.getD_some]) (fun i _ => by by_cases e : i = 16 + s <;> simp [e])⟩
        case measure => simp [intOf]; omega
      · have hvl' : ¬ (k : Int) < n.vs.length := by omega
        go_upto_region 11 with fail
        obtain ⟨wx, hwx⟩ : ∃ wx, wx = ((wr.setCell ⟨g, 4 + s, none⟩ (.int .u64 key)).setCell ⟨g, 16 + s, none⟩ (.int .u64 (k : Int))) := ⟨_, rfl⟩
        rw [← hwx]
        have mx := (M.out.set (4 + s) key).set (16 + s) (k : Int)
        rw [← hwx] at mx
        have MX := Lib.hid mx
        have c0 : wx.cell? ⟨g, 0, none⟩ = some (.int .u64 (wdK n k 0)) := by have := mx.row.cell (i := 0) (by omega); rw [this]; simp; omega
        have f0 := mx.row.frozen 0
        have hgx := mx.row.lt
        clear hwx mx cg4 cg16 fg4 fg16 l3 hc1 hc2 M hgs nb1 nb2
        have hw0 := wdK_zero_lt n k (by rw [nSlots_len, HKN.out]; omega)
        have hw1 := wdK_zero_lt n (k + 1) (by rw [nSlots_len, HKN.out]; omega)
        have hgd : (nSlots n).getD k 0 = s := by simp [List.getD, HSL.out]
        have hstep : wdK n (k + 1) 0 = wdK n k 0 + (1 + ((s * 2 ^ (4 + 4 * k) : Nat) : Int)) := by rw [← hgd]; rfl
        have hsh0 : s * 2 ^ (4 + 4 * k) < 18446744073709551616 := by omega
        have hsc : ((s : Int) * 2 ^ (4 + 4 * k)) = ((s * 2 ^ (4 + 4 * k) : Nat) : Int) := by simp
        have hsh : IntKind.u64.wrap ((s : Int) * 2 ^ (4 + 4 * k)) = ((s * 2 ^ (4 + 4 * k) : Nat) : Int) := by rw [hsc]; exact IntWalk.u64_in _ (by omega)
        clear hsc
        generalize s * 2 ^ (4 + 4 * k) = sh at *
        have hx1 : IntKind.u64.wrap (1 + (sh : Int)) = 1 + (sh : Int) := IntWalk.u64_in _ (by omega)
        have hx2 : IntKind.u64.wrap (wdK n k 0 + (1 + (sh : Int))) = wdK n k 0 + (1 + (sh : Int)) := IntWalk.u64_in _ (by omega)
        have HST := Lib.hid (And.intro hgd hstep)
        clear hstep hgd hw0 hw1
        go_region
        all_goals go_wp2_with fail
        go_roundw
        case rel => exact ⟨k + 1, by omega, by go_num, words_step MX.out HKEY.out HST.out (by unfold nVal; rw [if_neg hvl]) (fun i _ => rfl)⟩
        case measure => simp [intOf]; omega
    · obtain rfl : k = kn := by omega
      obtain ⟨bd, hbd⟩ : ∃ b, n.bounded = b := ⟨_, rfl⟩
      have l5 : wr.cell? ⟨w.heap.size, 5, none⟩ = some (.bool bd) := by rw [← hbd]; exact hm.box.cell rfl
      have HBB := Lib.hid hbd; clear hbd
      have l4 : wr.cell? ⟨w.heap.size, 4, none⟩ = some (.int .u8 n.high) := hm.box.cell rfl
      have c2 : wr.cell? ⟨g, 2, none⟩ = some (.int .u64 (wdK n k 2)) := hm.row.cell (by omega)
      have c3 : wr.cell? ⟨g, 3, none⟩ = some (.int .u64 (wdK n k 3)) := hm.row.cell (by omega)
      have f2 := hm.row.frozen 2; have f3 := hm.row.frozen 3
      have hgs := hm.row.lt
      have hh8 := H.out.h8
      clear hm
      go_upto_if 78 with fail
      go_cut [] (fun wx => WMid w n ka sa va kc sc vc g (.slice ka3 k kc3) (.slice sa4 k sc4) (wdB n) wx)
      case first =>
        have hbb : bd = true ∨ bd = false := by cases bd <;> simp
        rcases hbb with rfl | rfl
        · by_cases hk0 : k = 0
          · subst hk0
            rw [show ((0 : Nat) : Int) = 0 from rfl]
            go_wp2_with fail
            go_meet
            exact wordsB_empty M.out HBB.out HKN.out
          · have hk0' : (0 : Int) < k := by omega
            have hk0n : 0 < k := by omega
            obtain ⟨key, hkey⟩ : ∃ x, (nKeys n)[k - 1]? = some x := ⟨_, List.getElem?_eq_getElem (by rw [HKN.out]; omega)⟩
            obtain ⟨b1, o1, hb1, hc1⟩ := slice_cell M.out.keys (intsU_get (nKeys n) (k - 1) key hkey)
            subst hb1
            have hkb := keysN_mem n.ks H.out.k8 key (List.mem_of_getElem? hkey)
            have nb1 : ¬ b1 = g := M.out.kg b1 rfl
            have HKEY := Lib.hid hkey; clear hkey
            go_upto_region 16 with fail
            obtain ⟨wx, hwx⟩ : ∃ wx, wx = (wr.setCell ⟨g, 2, none⟩ (.int .u64 (n.high : Int))).setCell ⟨g, 3, none⟩ (.int .u64 1) := ⟨_, rfl⟩
            rw [← hwx]
            have mx := (M.out.set 2 (n.high : Int)).set 3 1
            rw [← hwx] at mx
            have MX := Lib.hid mx
            have d2 : wx.cell? ⟨g, 2, none⟩ = some (.int .u64 (n.high : Int)) := by have := mx.row.cell (i := 2) (by omega); rw [this]; simp
            have e2 := mx.row.frozen 2
            have hgx := mx.row.lt
            have hc1x : wx.cell? ⟨b1, o1 + (k - 1), none⟩ = some (.int .u64 key) := slice_at mx.keys (intsU_get (nKeys n) (k - 1) key HKEY.out)
            have hi1 : IntKind.i64.wrap ((k : Int) - 1) = (k : Int) - 1 := IntWalk.i64_in _ (by omega)
            have hi2 : ((k : Int) - 1).toNat = k - 1 := by omega
            have hi3 : (0 : Int) ≤ (k : Int) - 1 := by omega
            have hi4 : (1 : Int) ≤ (k : Int) := by omega
            have hx1 : IntKind.u64.wrap (key + 1) = key + 1 := IntWalk.u64_in _ (by omega)
            have hx2 : IntKind.u64.wrap ((n.high : Int) + (key + 1)) = (n.high : Int) + (key + 1) := IntWalk.u64_in _ (by omega)
            clear hwx mx c2 c3 f2 f3 l4 l5 hc1 hgs
            go_region
            all_goals go_wp2_with fail
            go_meet
            exact wordsB_full MX.out HBB.out HKN.out hk0 HKEY.out
        · go_wp2_with fail
          go_meet
          exact wordsB_none M.out HBB.out HKN.out
      case rest =>
        have MB := Lib.hid hcut
        obtain ⟨wb, hwb⟩ : ∃ x, x = wc := ⟨_, rfl⟩
        subst hwb
        obtain ⟨nx, hnx⟩ : ∃ b, n.next = b := ⟨_, rfl⟩
        have l6 : wb.cell? ⟨w.heap.size, 6, none⟩ = some (.bool nx) := by rw [← hnx]; exact hcut.box.cell rfl
        have HNN := Lib.hid hnx; clear hnx
        have d1 : wb.cell? ⟨g, 1, none⟩ = some (.int .u64 (wdB n 1)) := hcut.row.cell (by omega)
        have e1 := hcut.row.frozen 1
        have hgb := hcut.row.lt
        clear hcut l5 l4 c2 c3 f2 f3 M hgs
        have hnn : nx = true ∨ nx = false := by cases nx <;> simp
        rcases hnn with rfl | rfl
        · have hM := make_any (w := wb) 8 (by omega) (by decide) (by omega)
          rw [show ((8 : Nat) : Int) = 8 from rfl] at hM
          have HM := Lib.hid hM; clear hM
          go_wp2_with fail
          (with_reducible refine HM.out.mono ?_)
          rintro e w' ⟨rfl, rfl⟩
          go_wp2_with fail
          go_ret
          refine ⟨g, rfl, ((MB.out.set 1 (ptrN 8 : Nat)).row.congr (fun i _ => ?_)), Nat.le_of_lt hgt, (MB.out.set 1 (ptrN 8 : Nat)).bel⟩
          rw [nWords_eq, HNN.out, if_pos rfl]
        · go_wp2_with fail
          go_ret
          refine ⟨g, rfl, (MB.out.row.congr (fun i _ => ?_)), Nat.le_of_lt hgt, MB.out.bel⟩
          rw [nWords_eq, HNN.out]
          by_cases e : i = 1
          · subst e; rw [if_pos rfl, wdB_one]; rfl
          · rw [if_neg e]
end
end Go.Proofs.Ytkoijmoendepgaa
