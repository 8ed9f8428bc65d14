/- What the walks of the leaf laws share. -/
import Derived.Test.YtkoijmoendepgaaRefD
import Derived.Test.YtkoijmoendepgaaLeafW
import Derived.Test.YtkoijmoendepgaaNodeH
import Derived.Test.YtkoijmoendepgaaNodeI
namespace Go.Proofs.Ytkoijmoendepgaa
open Go.RowKit
attribute [local go_sem ↓] Go.wp_at_zero Go.wp_at_succ

section
variable {w : World} {a b : NodeP} {ka sa va kb sb vb : Option Addr} {kc sc vc kd sd vd : Nat}
/-- The two nodes' boxes. -/
structure JBox (w : World) (a b : NodeP) (ka sa va : Option Addr) (kc sc vc : Nat) (kb sb vb : Option Addr) (kd sd vd : Nat) (wc : World) : Prop where
  boxA : Blk wc w.heap.size (nodeAgg a ka sa va kc sc vc) 63
  boxB : Blk wc (w.heap.size + 1) (nodeAgg b kb sb vb kd sd vd) 63
  bel : Below w.heap.size w wc
theorem JBox.next {wc w1 : World} (h : JBox w a b ka sa va kc sc vc kb sb vb kd sd vd wc) (hb : Below wc.heap.size wc w1) : JBox w a b ka sa va kc sc vc kb sb vb kd sd vd w1 :=
  ⟨h.boxA.below hb, h.boxB.below hb, h.bel.trans (hb.mono h.bel.size)⟩
theorem JBox.drew {wc : World} (h : JBox w a b ka sa va kc sc vc kb sb vb kd sd vd wc) : JBox w a b ka sa va kc sc vc kb sb vb kd sd vd wc.drew := ⟨h.boxA, h.boxB, h.bel.drew⟩
theorem JBox.cells {wx : World} (h : JBox w a b ka sa va kc sc vc kb sb vb kd sd vd wx) : wx.cell? ⟨w.heap.size, 0, none⟩ = some (.int .u8 a.pos) ∧ wx.cell? ⟨w.heap.size, 1, none⟩ = some (.slice ka a.ks.length kc) ∧ wx.cell? ⟨w.heap.size, 2, none⟩ = some (.slice sa a.ss.length sc) ∧ wx.cell? ⟨w.heap.size, 3, none⟩ = some (.slice va a.vs.length vc) ∧ wx.cell? ⟨w.heap.size, 4, none⟩ = some (.int .u8 a.high) ∧ wx.cell? ⟨w.heap.size, 5, none⟩ = some (.bool a.bounded) ∧ wx.cell? ⟨w.heap.size, 6, none⟩ = some (.bool a.next) ∧ wx.cell? ⟨w.heap.size, 7, none⟩ = some (.int .u16 a.count) ∧ wx.cell? ⟨w.heap.size + 1, 0, none⟩ = some (.int .u8 b.pos) ∧ wx.cell? ⟨w.heap.size + 1, 1, none⟩ = some (.slice kb b.ks.length kd) ∧ wx.cell? ⟨w.heap.size + 1, 2, none⟩ = some (.slice sb b.ss.length sd) ∧ wx.cell? ⟨w.heap.size + 1, 3, none⟩ = some (.slice vb b.vs.length vd) ∧ wx.cell? ⟨w.heap.size + 1, 4, none⟩ = some (.int .u8 b.high) ∧ wx.cell? ⟨w.heap.size + 1, 5, none⟩ = some (.bool b.bounded) ∧ wx.cell? ⟨w.heap.size + 1, 6, none⟩ = some (.bool b.next) ∧ wx.cell? ⟨w.heap.size + 1, 7, none⟩ = some (.int .u16 b.count) :=
  ⟨h.boxA.cell rfl, h.boxA.cell rfl, h.boxA.cell rfl, h.boxA.cell rfl, h.boxA.cell rfl, h.boxA.cell rfl, h.boxA.cell rfl, h.boxA.cell rfl, h.boxB.cell rfl, h.boxB.cell rfl, h.boxB.cell rfl, h.boxB.cell rfl, h.boxB.cell rfl, h.boxB.cell rfl, h.boxB.cell rfl, h.boxB.cell rfl⟩
theorem JBox.start (w : World) (a b : NodeP) (ka sa va : Option Addr) (kc sc vc : Nat) (kb sb vb : Option Addr) (kd sd vd : Nat) :
    JBox w a b ka sa va kc sc vc kb sb vb kd sd vd ((w.alloc (.cells (nodeAgg a ka sa va kc sc vc) 63)).alloc (.cells (nodeAgg b kb sb vb kd sd vd) 63)) := by
  have h2 := Blk.new (w.alloc (.cells (nodeAgg a ka sa va kc sc vc) 63)) (nodeAgg b kb sb vb kd sd vd) 63
  rw [World.size_alloc] at h2
  exact ⟨(Blk.new w _ _).alloc _, h2, below_twice w _ _⟩
/-- The device with both nodes on it, and the two leaves' boxes. -/
structure JDev (w : World) (v : DV) (own : Nat → Option Role) (D : Dev) (x : Nat) (C : Nat → Int) (wc : World) : Prop where
  live : LiveSt w v own D x C wc
  oA : own w.heap.size = none
  oB : own (w.heap.size + 1) = none
theorem JDev.next {v : DV} {own : Nat → Option Role} {D : Dev} {x : Nat} {C : Nat → Int} {wc w1 : World} (h : JDev w v own D x C wc) (hb : Below wc.heap.size wc w1) : JDev w v own D x C w1 := ⟨h.live.next hb, h.oA, h.oB⟩

def cA (a : NodeP) : Nat → Int := withNode (fun _ => 0) (nodeOff a) a
def cAB (a b : NodeP) : Nat → Int := withNode (cA a) 488 b
theorem cAB_a (a b : NodeP) (i : Nat) (hi : i < 28) : cAB a b (nodeOff a / 8 + i) = nWords a i := by
  have := nodeOff_le a
  have e : cAB a b (nodeOff a / 8 + i) = cA a (nodeOff a / 8 + i) := by
    unfold cAB withNode laid
    rw [if_neg (by omega)]
  rw [e]; exact withNode_at _ _ _ _ hi
theorem cAB_b (a b : NodeP) (i : Nat) (hi : i < 28) : cAB a b (61 + i) = nWords b i := withNode_at (cA a) 488 b i hi

theorem nKeys_bd {n : NodeP} (h : NodeIn w n ka sa va kc sc vc) (i : Nat) : 0 ≤ (nKeys n).getD i 0 ∧ (nKeys n).getD i 0 ≤ 510 := by
  rcases hx : (nKeys n)[i]? with _ | x
  · simp [List.getD, hx]
  · have := keysN_mem n.ks h.k8 x (List.mem_of_getElem? hx)
    simpa [List.getD, hx] using this
theorem nVal_bd {n : NodeP} (h : NodeIn w n ka sa va kc sc vc) (i : Nat) (hi : i < 100) : 0 ≤ nVal n i ∧ nVal n i < 18446744073709551616 := by
  unfold nVal
  split
  · rcases hx : n.vs[i]? with _ | x
    · simp [List.getD, hx]
    · have := h.v64 x (List.mem_of_getElem? hx)
      simpa [List.getD, hx] using this
  · omega
theorem wdK_bd {n : NodeP} (h : NodeIn w n ka sa va kc sc vc) (k i : Nat) (hi : 0 < i) (hk : k ≤ 12) : 0 ≤ wdK n k i ∧ wdK n k i < 18446744073709551616 := by
  induction k with
  | zero => unfold wdK; rw [if_neg (by omega)]; split <;> omega
  | succ k ih =>
    have h1 := ih (by omega); have h2 := nVal_bd h k (by omega); have h3 := nKeys_bd h k
    unfold wdK
    rw [if_neg (by omega)]
    split
    · exact h2
    · split
      · omega
      · exact h1
theorem ordN_lt (n : NodeP) : ordN (nSlots n) n.count < 18446744073709551616 := by
  have := ord_div (nSlots n) n.count (nSlots_16 n) (nSlots_len12 n); omega
theorem nWords_bd {n : NodeP} (h : NodeIn w n ka sa va kc sc vc) (i : Nat) : 0 ≤ nWords n i ∧ nWords n i < 18446744073709551616 := by
  rcases Nat.eq_zero_or_pos i with rfl | hi
  · rw [nWords_zero]; have := ordN_lt n; omega
  · rw [nWords_eq]
    split
    · split
      · exact ⟨by omega, by decide⟩
      · omega
    · unfold wdB
      have h8 := h.h8
      have hk := nKeys_bd h ((nKeys n).length - 1)
      split
      · split
        · split <;> omega
        · omega
      · split
        · split <;> omega
        · exact wdK_bd h _ _ hi (nSlots_len12 n)
theorem IsNode.refIn {n : NodeP} {W : Nat → Int} (h : IsNode W n) {g : Nat} {wx : World} (hr : Row wx g 28 23 (fun i => .int .u64 (nWords n i))) : RefIn wx (.slice (some ⟨g, 0, none⟩) 28 28) W (ordN (nSlots n) n.count) := by
  refine ⟨⟨by simp [intsU, listW], _, _, rfl, Nat.le_refl _, .inr ⟨g, 0, rfl, fun j u hu => ?_⟩⟩, h.w0, ordN_lt n, parse_ord _ _ (nSlots_lt n) (nSlots_len12 n) (nSlots_nodup n)⟩
  have hj : j < 28 := by
    rcases Nat.lt_or_ge j 28 with h | h
    · exact h
    · rw [List.getElem?_eq_none (by simp [intsU, listW]; exact h)] at hu; cases hu
  have : u = .int .u64 (nWords n j) := by simp [intsU, listW, hj] at hu; rw [← hu, h j hj]
  rw [this, Nat.zero_add]; exact hr.cell hj

theorem joinP_len (W V : Nat → Int) (off : Nat) : (joinP W off V).1.length ≤ 100 := by
  unfold joinP
  simp only
  split
  · simp
  · split
    · simp
    · have h1 := (joinSt_len off V (slotsW V) (slotsW W) (slotsW V).length).2
      have h2 : (slotsW V).length < 16 := by simp [slotsW, slotsN]; omega
      simp only [List.length_append, h1, List.length_cons, List.length_nil]; omega
/-- Boxes, device and the writes that Join returned. -/
structure JAll (w : World) (a b : NodeP) (ka sa va : Option Addr) (kc sc vc : Nat) (kb sb vb : Option Addr) (kd sd vd : Nat) (v : DV) (own : Nat → Option Role) (D : Dev) (x : Nat) (C : Nat → Int) (wv : Value) (l : List (Nat × Int)) (wc : World) : Prop where
  box : JBox w a b ka sa va kc sc vc kb sb vb kd sd vd wc
  live : LiveSt w v own D x C wc
  acc : Acc w w.heap.size wc 137 2 wv l.length (flat l)
section
variable {v : DV} {own : Nat → Option Role} {D : Dev} {x : Nat} {C : Nat → Int} {wv : Value} {l : List (Nat × Int)} {wc w1 : World}
theorem JAll.next (h : JAll w a b ka sa va kc sc vc kb sb vb kd sd vd v own D x C wv l wc) (hb : Below wc.heap.size wc w1) : JAll w a b ka sa va kc sc vc kb sb vb kd sd vd v own D x C wv l w1 := ⟨h.box.next hb, h.live.next hb, h.acc.keep hb⟩
theorem JAll.drew (h : JAll w a b ka sa va kc sc vc kb sb vb kd sd vd v own D x C wv l wc) : JAll w a b ka sa va kc sc vc kb sb vb kd sd vd v own D x C wv l wc.drew := h.next ((Below.refl _ _).drew)
theorem JAll.below (h : JAll w a b ka sa va kc sc vc kb sb vb kd sd vd v own D x C wv l wc) : Below w.heap.size w wc := h.box.bel
end
theorem Acc.deeper {w w0 wc : World} {e : TypeId} {s n : Nat} {u : Value} {xs : List Value} (h : Acc w0 w0.heap.size wc e s u n xs) (hb : Below w.heap.size w w0) : Acc w w.heap.size wc e s u n xs :=
  ⟨h.own, fun g hg => Nat.le_trans hb.size (h.new g hg), hb.trans (h.bel.mono hb.size), Nat.le_trans hb.size h.lt⟩
theorem equalRW_same (u v : Value) (xs : List (Nat × Int)) (hx : RdSl w 2 u xs.length (flat xs)) (hy : RdSl w 2 v xs.length (flat xs)) (hl : xs.length ≤ 100000) :
    Calls Try.prog 32 #[u, v] w fun r w' => r = .returned (.bool true) ∧ Below w.heap.size w w' := by
  have := equalRW_any u v xs xs hx hy hl hl
  rwa [show decide (xs = xs) = true by simp] at this
theorem equalU_same (u v : Value) (xs ys : List Int) (he : xs = ys) (hx : RdSl w 1 u xs.length (intsU xs)) (hy : RdSl w 1 v ys.length (intsU ys)) (hl : xs.length ≤ 100000) :
    Calls Try.prog 11 #[u, v] w fun r w' => r = .returned (.bool true) ∧ Below w.heap.size w w' := by
  subst he
  have := equalU_any u v xs xs hx hy (by omega) (by omega)
  rwa [show decide (xs = xs) = true by simp] at this
end
end Go.Proofs.Ytkoijmoendepgaa
