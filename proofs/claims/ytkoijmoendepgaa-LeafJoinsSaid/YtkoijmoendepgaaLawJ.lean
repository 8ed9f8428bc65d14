/- LeafJoins: the walk of the law. -/
import Derived.Test.YtkoijmoendepgaaRefD
import Derived.Test.YtkoijmoendepgaaNodeH
import Derived.Test.YtkoijmoendepgaaNodeI
namespace Go.Proofs.Ytkoijmoendepgaa
open Go.RowKit
attribute [local go_sem ↓] Go.wp_at_zero Go.wp_at_succ

section
variable {w : World} {a b : NodeP} {ka sa va kb sb vb : Option Addr} {kc sc vc kd sd vd : Nat}
/-- The two nodes' boxes. -/
structure JBox (w : World) (a b : NodeP) (ka sa va : Option Addr) (kc sc vc : Nat) (kb sb vb : Option Addr) (kd sd vd : Nat) (wc : World) : Prop where
  boxA : Blk wc w.heap.size (nodeAgg a ka sa va kc sc vc) 63
  boxB : Blk wc (w.heap.size + 1) (nodeAgg b kb sb vb kd sd vd) 63
  bel : Below w.heap.size w wc
theorem JBox.next {wc w1 : World} (h : JBox w a b ka sa va kc sc vc kb sb vb kd sd vd wc) (hb : Below wc.heap.size wc w1) : JBox w a b ka sa va kc sc vc kb sb vb kd sd vd w1 :=
  ⟨h.boxA.below hb, h.boxB.below hb, h.bel.trans (hb.mono h.bel.size)⟩
theorem JBox.drew {wc : World} (h : JBox w a b ka sa va kc sc vc kb sb vb kd sd vd wc) : JBox w a b ka sa va kc sc vc kb sb vb kd sd vd wc.drew := ⟨h.boxA, h.boxB, h.bel.drew⟩
theorem JBox.cells {wx : World} (h : JBox w a b ka sa va kc sc vc kb sb vb kd sd vd wx) : wx.cell? ⟨w.heap.size, 0, none⟩ = some (.int .u8 a.pos) ∧ wx.cell? ⟨w.heap.size, 1, none⟩ = some (.slice ka a.ks.length kc) ∧ wx.cell? ⟨w.heap.size, 2, none⟩ = some (.slice sa a.ss.length sc) ∧ wx.cell? ⟨w.heap.size, 3, none⟩ = some (.slice va a.vs.length vc) ∧ wx.cell? ⟨w.heap.size, 4, none⟩ = some (.int .u8 a.high) ∧ wx.cell? ⟨w.heap.size, 5, none⟩ = some (.bool a.bounded) ∧ wx.cell? ⟨w.heap.size, 6, none⟩ = some (.bool a.next) ∧ wx.cell? ⟨w.heap.size, 7, none⟩ = some (.int .u16 a.count) ∧ wx.cell? ⟨w.heap.size + 1, 0, none⟩ = some (.int .u8 b.pos) ∧ wx.cell? ⟨w.heap.size + 1, 1, none⟩ = some (.slice kb b.ks.length kd) ∧ wx.cell? ⟨w.heap.size + 1, 2, none⟩ = some (.slice sb b.ss.length sd) ∧ wx.cell? ⟨w.heap.size + 1, 3, none⟩ = some (.slice vb b.vs.length vd) ∧ wx.cell? ⟨w.heap.size + 1, 4, none⟩ = some (.int .u8 b.high) ∧ wx.cell? ⟨w.heap.size + 1, 5, none⟩ = some (.bool b.bounded) ∧ wx.cell? ⟨w.heap.size + 1, 6, none⟩ = some (.bool b.next) ∧ wx.cell? ⟨w.heap.size + 1, 7, none⟩ = some (.int .u16 b.count) :=
  ⟨h.boxA.cell rfl, h.boxA.cell rfl, h.boxA.cell rfl, h.boxA.cell rfl, h.boxA.cell rfl, h.boxA.cell rfl, h.boxA.cell rfl, h.boxA.cell rfl, h.boxB.cell rfl, h.boxB.cell rfl, h.boxB.cell rfl, h.boxB.cell rfl, h.boxB.cell rfl, h.boxB.cell rfl, h.boxB.cell rfl, h.boxB.cell rfl⟩
theorem JBox.start (w : World) (a b : NodeP) (ka sa va : Option Addr) (kc sc vc : Nat) (kb sb vb : Option Addr) (kd sd vd : Nat) :
    JBox w a b ka sa va kc sc vc kb sb vb kd sd vd ((w.alloc (.cells (nodeAgg a ka sa va kc sc vc) 63)).alloc (.cells (nodeAgg b kb sb vb kd sd vd) 63)) := by
  have h2 := Blk.new (w.alloc (.cells (nodeAgg a ka sa va kc sc vc) 63)) (nodeAgg b kb sb vb kd sd vd) 63
  rw [World.size_alloc] at h2
  exact ⟨(Blk.new w _ _).alloc _, h2, below_twice w _ _⟩
/-- The device with both nodes on it, and the two leaves' boxes. -/
structure JDev (w : World) (v : DV) (own : Nat → Option Role) (D : Dev) (x : Nat) (C : Nat → Int) (wc : World) : Prop where
  live : LiveSt w v own D x C wc
  oA : own w.heap.size = none
  oB : own (w.heap.size + 1) = none
theorem JDev.next {v : DV} {own : Nat → Option Role} {D : Dev} {x : Nat} {C : Nat → Int} {wc w1 : World} (h : JDev w v own D x C wc) (hb : Below wc.heap.size wc w1) : JDev w v own D x C w1 := ⟨h.live.next hb, h.oA, h.oB⟩

def cA (a : NodeP) : Nat → Int := withNode (fun _ => 0) (nodeOff a) a
def cAB (a b : NodeP) : Nat → Int := withNode (cA a) 488 b
theorem cAB_a (a b : NodeP) (i : Nat) (hi : i < 28) : cAB a b (nodeOff a / 8 + i) = nWords a i := by
  have := nodeOff_le a
  have e : cAB a b (nodeOff a / 8 + i) = cA a (nodeOff a / 8 + i) := by
    unfold cAB withNode laid
    rw [if_neg (by omega)]
  rw [e]; exact withNode_at _ _ _ _ hi
theorem cAB_b (a b : NodeP) (i : Nat) (hi : i < 28) : cAB a b (61 + i) = nWords b i := withNode_at (cA a) 488 b i hi

theorem nKeys_bd {n : NodeP} (h : NodeIn w n ka sa va kc sc vc) (i : Nat) : 0 ≤ (nKeys n).getD i 0 ∧ (nKeys n).getD i 0 ≤ 510 := by
  rcases hx : (nKeys n)[i]? with _ | x
  · simp [List.getD, hx]
  · have := keysN_mem n.ks h.k8 x (List.mem_of_getElem? hx)
    simpa [List.getD, hx] using this
theorem nVal_bd {n : NodeP} (h : NodeIn w n ka sa va kc sc vc) (i : Nat) (hi : i < 100) : 0 ≤ nVal n i ∧ nVal n i < 18446744073709551616 := by
  unfold nVal
  split
  · rcases hx : n.vs[i]? with _ | x
    · simp [List.getD, hx]
    · have := h.v64 x (List.mem_of_getElem? hx)
      simpa [List.getD, hx] using this
  · omega
theorem wdK_bd {n : NodeP} (h : NodeIn w n ka sa va kc sc vc) (k i : Nat) (hi : 0 < i) (hk : k ≤ 12) : 0 ≤ wdK n k i ∧ wdK n k i < 18446744073709551616 := by
  induction k with
  | zero => unfold wdK; rw [if_neg (by omega)]; split <;> omega
  | succ k ih =>
    have h1 := ih (by omega); have h2 := nVal_bd h k (by omega); have h3 := nKeys_bd h k
    unfold wdK
    rw [if_neg (by omega)]
    split
    · exact h2
    · split
      · omega
      · exact h1
theorem ordN_lt (n : NodeP) : ordN (nSlots n) n.count < 18446744073709551616 := by
  have := ord_div (nSlots n) n.count (nSlots_16 n) (nSlots_len12 n); omega
theorem nWords_bd {n : NodeP} (h : NodeIn w n ka sa va kc sc vc) (i : Nat) : 0 ≤ nWords n i ∧ nWords n i < 18446744073709551616 := by
  rcases Nat.eq_zero_or_pos i with rfl | hi
  · rw [nWords_zero]; have := ordN_lt n; omega
  · rw [nWords_eq]
    split
    · split
      · exact ⟨by omega, by decide⟩
      · omega
    · unfold wdB
      have h8 := h.h8
      have hk := nKeys_bd h ((nKeys n).length - 1)
      split
      · split
        · split <;> omega
        · omega
      · split
        · split <;> omega
        · exact wdK_bd h _ _ hi (nSlots_len12 n)
theorem IsNode.refIn {n : NodeP} {W : Nat → Int} (h : IsNode W n) {g : Nat} {wx : World} (hr : Row wx g 28 23 (fun i => .int .u64 (nWords n i))) : RefIn wx (.slice (some ⟨g, 0, none⟩) 28 28) W (ordN (nSlots n) n.count) := by
  refine ⟨⟨by simp [intsU, listW], _, _, rfl, Nat.le_refl _, .inr ⟨g, 0, rfl, fun j u hu => ?_⟩⟩, h.w0, ordN_lt n, parse_ord _ _ (nSlots_lt n) (nSlots_len12 n) (nSlots_nodup n)⟩
  have hj : j < 28 := by
    rcases Nat.lt_or_ge j 28 with h | h
    · exact h
    · rw [List.getElem?_eq_none (by simp [intsU, listW]; exact h)] at hu; cases hu
  have : u = .int .u64 (nWords n j) := by simp [intsU, listW, hj] at hu; rw [← hu, h j hj]
  rw [this, Nat.zero_add]; exact hr.cell hj

theorem joinP_len (W V : Nat → Int) (off : Nat) : (joinP W off V).1.length ≤ 100 := by
  unfold joinP
  simp only
  split
  · simp
  · split
    · simp
    · have h1 := (joinSt_len off V (slotsW V) (slotsW W) (slotsW V).length).2
      have h2 : (slotsW V).length < 16 := by simp [slotsW, slotsN]; omega
      simp only [List.length_append, h1, List.length_cons, List.length_nil]; omega
/-- Boxes, device and the writes that Join returned. -/
structure JAll (w : World) (a b : NodeP) (ka sa va : Option Addr) (kc sc vc : Nat) (kb sb vb : Option Addr) (kd sd vd : Nat) (v : DV) (own : Nat → Option Role) (D : Dev) (x : Nat) (C : Nat → Int) (wv : Value) (l : List (Nat × Int)) (wc : World) : Prop where
  box : JBox w a b ka sa va kc sc vc kb sb vb kd sd vd wc
  live : LiveSt w v own D x C wc
  acc : Acc w w.heap.size wc 137 2 wv l.length (flat l)
section
variable {v : DV} {own : Nat → Option Role} {D : Dev} {x : Nat} {C : Nat → Int} {wv : Value} {l : List (Nat × Int)} {wc w1 : World}
theorem JAll.next (h : JAll w a b ka sa va kc sc vc kb sb vb kd sd vd v own D x C wv l wc) (hb : Below wc.heap.size wc w1) : JAll w a b ka sa va kc sc vc kb sb vb kd sd vd v own D x C wv l w1 := ⟨h.box.next hb, h.live.next hb, h.acc.keep hb⟩
theorem JAll.drew (h : JAll w a b ka sa va kc sc vc kb sb vb kd sd vd v own D x C wv l wc) : JAll w a b ka sa va kc sc vc kb sb vb kd sd vd v own D x C wv l wc.drew := h.next ((Below.refl _ _).drew)
theorem JAll.below (h : JAll w a b ka sa va kc sc vc kb sb vb kd sd vd v own D x C wv l wc) : Below w.heap.size w wc := h.box.bel
end
theorem Acc.deeper {w w0 wc : World} {e : TypeId} {s n : Nat} {u : Value} {xs : List Value} (h : Acc w0 w0.heap.size wc e s u n xs) (hb : Below w.heap.size w w0) : Acc w w.heap.size wc e s u n xs :=
  ⟨h.own, fun g hg => Nat.le_trans hb.size (h.new g hg), hb.trans (h.bel.mono hb.size), Nat.le_trans hb.size h.lt⟩
theorem equalRW_same (u v : Value) (xs : List (Nat × Int)) (hx : RdSl w 2 u xs.length (flat xs)) (hy : RdSl w 2 v xs.length (flat xs)) (hl : xs.length ≤ 100000) :
    Calls Try.prog 32 #[u, v] w fun r w' => r = .returned (.bool true) ∧ Below w.heap.size w w' := by
  have := equalRW_any u v xs xs hx hy hl hl
  rwa [show decide (xs = xs) = true by simp] at this
theorem equalU_same (u v : Value) (xs ys : List Int) (he : xs = ys) (hx : RdSl w 1 u xs.length (intsU xs)) (hy : RdSl w 1 v ys.length (intsU ys)) (hl : xs.length ≤ 100000) :
    Calls Try.prog 11 #[u, v] w fun r w' => r = .returned (.bool true) ∧ Below w.heap.size w w' := by
  subst he
  have := equalU_any u v xs xs hx hy (by omega) (by omega)
  rwa [show decide (xs = xs) = true by simp] at this

set_option maxRecDepth 100000 in
set_option maxHeartbeats 4000000 in
theorem leafJoins_any (ha : NodeIn w a ka sa va kc sc vc) (hb : NodeIn w b kb sb vb kd sd vd) :
    Calls Try.prog 5 #[.agg (nodeAgg a ka sa va kc sc vc), .agg (nodeAgg b kb sb vb kd sd vd)] w fun r w' => r = .returned (.bool true) ∧ Below w.heap.size w w' := by
  have HMA := Lib.hid (fun wx (hx : Below w.heap.size w wx) => made_any (ha.below hx))
  have HWA := Lib.hid (fun wx (hx : Below w.heap.size w wx) => words_any (ha.below hx))
  have HWB := Lib.hid (fun wx (hx : Below w.heap.size w wx) => words_any (hb.below hx))
  have HO := Lib.hid (fun wx => nodeAt_any (w := wx) a ka sa va kc sc vc ha.p8)
  have BA := Lib.hid (fun i => nWords_bd ha i); have BB := Lib.hid (fun i => nWords_bd hb i)
  clear ha hb
  have hJ0 := Lib.hid (JBox.start w a b ka sa va kc sc vc kb sb vb kd sd vd)
  unfold nodeAgg at *
  go_enter Try.func5, Try.ntmps5
  go_wp2_with fail
  (with_reducible refine awake_any.mono ?_)
  rintro e w1 ⟨rfl, b1⟩
  have J1 := Lib.hid (hJ0.out.next b1)
  have hz1 : w.heap.size + 1 < w1.heap.size := J1.out.boxB.lt
  obtain ⟨a0, a1, a2, a3, a4, a5, a6, a7, b0, b1', b2, b3, b4, b5, b6, b7⟩ := J1.out.cells
  clear b1 hJ0
  go_wp2_with fail
  (with_reducible refine (HMA.out _ J1.out.bel).mono ?_)
  rintro e w2 ⟨v, own, D, rfl, l2⟩
  have J2 := Lib.hid (J1.out.next l2.bel)
  have D2 : Hid (JDev w v own D 57 (cA a) w2) :=
    ⟨⟨⟨l2.dev, fun k hk => Nat.le_trans J1.out.bel.size (l2.ob k hk), J2.out.bel⟩, l2.live⟩, Classical.byContradiction (fun h => by have := l2.ob _ h; omega), Classical.byContradiction (fun h => by have := l2.ob _ h; omega)⟩
  clear l2 J1 hz1 a0 a1 a2 a3 a4 a5 a6 a7 b0 b1' b2 b3 b4 b5 b6 b7
  have hz2 : w.heap.size + 1 < w2.heap.size := J2.out.boxB.lt
  obtain ⟨a0, a1, a2, a3, a4, a5, a6, a7, b0, b1', b2, b3, b4, b5, b6, b7⟩ := J2.out.cells
  go_wp2_with fail
  (with_reducible refine (HWB.out _ (J2.out.next (below_alloc w2 _)).bel).mono ?_)
  rintro e w3 ⟨g, rfl, r3, g3, bb3⟩
  have hb3 : Below w2.heap.size w2 w3 := (below_alloc w2 _).trans (bb3.mono (by simp))
  have J3 := Lib.hid (J2.out.next hb3); have D3 := Lib.hid (D2.out.next hb3)
  have L3 : Hid (Blk w3 w2.heap.size #[.iface 39 (.pointer (some ⟨v.tb 0, 0, none⟩)), .int .u64 (ptrN (nodeOff a) : Nat)] 47) := (Blk.new w2 _ _).below bb3
  have O3 : Hid (own w2.heap.size = none) := Classical.byContradiction (fun h => by have := D2.out.live.dev.lt _ h; omega)
  have hP := D3.out.live.put 488 (.slice (some ⟨g, 0, none⟩) 28 28) (nList b) (by omega) (by simp [nList]) (by simp [nList]) (row_list b r3) (fun k hk => by
    simp [Value.ownBlock] at hk; subst hk
    refine Classical.byContradiction (fun h => ?_)
    have := D2.out.live.dev.lt _ h; simp at g3; omega)
  rw [show ((488 : Nat) : Int) = 488 from rfl] at hP
  have HP := Lib.hid hP
  clear hP r3 g3 bb3 hb3 J2 D2 hz2 a0 a1 a2 a3 a4 a5 a6 a7 b0 b1' b2 b3 b4 b5 b6 b7
  go_wp2_with fail
  (with_reducible refine HP.out.mono ?_)
  rintro e w4 ⟨rfl, own4, D4, l4, o4, u4⟩
  have J4 : Hid (JBox w a b ka sa va kc sc vc kb sb vb kd sd vd w4) := ⟨J3.out.boxA.upd u4 (by simpa using D3.out.oA), J3.out.boxB.upd u4 (by simpa using D3.out.oB), l4.bel⟩
  have L4 : Hid (Blk w4 w2.heap.size #[.iface 39 (.pointer (some ⟨v.tb 0, 0, none⟩)), .int .u64 (ptrN (nodeOff a) : Nat)] 47) := L3.out.upd u4 (by simpa using O3.out)
  have E4 : Hid (LiveSt w v own4 D4 114 (cAB a b) w4) := l4
  clear l4 o4 u4 HP L3 O3 J3 D3
  go_wp2_with fail
  (with_reducible refine (thread1_any E4.out.dev).mono ?_)
  rintro e w' ⟨rfl, rfl⟩
  have hPt := pointerN_any (w := w4) 488 (by omega) (by omega) (by omega)
  rw [show ((488 : Nat) : Int) = 488 from rfl] at hPt
  have HPt := Lib.hid hPt; clear hPt
  go_wp2_with fail
  (with_reducible refine HPt.out.mono ?_)
  rintro e w' ⟨rfl, rfl⟩
  go_wp2_with fail
  (with_reducible refine (at_any _ _ (.inr ⟨_, _, rfl⟩)).mono ?_)
  rintro e w5 ⟨rfl, bb5⟩
  have J5 := Lib.hid (J4.out.next bb5); have E5 := Lib.hid (E4.out.next bb5)
  have hn1 := nodeOff_le a
  have N6 := Lib.hid ((E5.out.next (below_alloc w5 (.cells #[.iface 39 (.pointer (some ⟨v.tb 1, 0, none⟩)), .int .u64 (ptrN 488 : Nat)] 47))).node 0 (nodeOff a) (by omega) (by omega) hn1.2.2 (by omega) (fun i hi => by rw [cAB_a a b i hi]; exact BA.out i))
  have N7 := Lib.hid ((E5.out.next (below_alloc w5 (.cells #[.iface 39 (.pointer (some ⟨v.tb 1, 0, none⟩)), .int .u64 (ptrN 488 : Nat)] 47))).node 1 488 (by omega) (by omega) (by omega) (by omega) (fun i hi => by rw [show 488 / 8 = 61 from rfl, cAB_b a b i hi]; exact BB.out i))
  have IA : Hid (IsNode (nodeW D4 (ptrN (nodeOff a))) a) := fun i hi => by rw [N6.out.2 i, cAB_a a b i hi]
  have IB : Hid (IsNode (nodeW D4 (ptrN 488)) b) := fun i hi => by rw [N7.out.2 i, show 488 / 8 = 61 from rfl, cAB_b a b i hi]
  have c0 : w5.cell? ⟨w2.heap.size, 0, none⟩ = some (.iface 39 (.pointer (some ⟨v.tb 0, 0, none⟩))) := cell_bel bb5 (L4.out.cell rfl)
  have c1 : w5.cell? ⟨w2.heap.size, 1, none⟩ = some (.int .u64 (ptrN (nodeOff a) : Nat)) := cell_bel bb5 (L4.out.cell rfl)
  have hz5 : w2.heap.size < w5.heap.size := Nat.lt_of_lt_of_le L4.out.lt bb5.size
  have HJo := Lib.hid (join_ok N6.out.1 N7.out.1 (IA.out.ok _ (by rw [E5.out.live.n]; omega)) (IB.out.ok _ (by rw [E5.out.live.n]; omega)))
  clear bb5 J4 E4 L4 N6 N7
  go_wp2_with fail
  (with_reducible refine HJo.out.mono ?_)
  rintro e w6 ⟨wv, rfl, a6⟩
  have hpo : ptrOff (ptrN (nodeOff a)) = nodeOff a := refD_ptr _ hn1.2.2 (by omega)
  rw [hpo] at a6 ⊢
  have hJlen := joinP_len (nodeW D4 (ptrN (nodeOff a))) (nodeW D4 (ptrN 488)) (nodeOff a)
  have HRJ := Lib.hid (fun wx g g' (h1 : Row wx g 28 23 (fun i => .int .u64 (nWords a i))) (h2 : Row wx g' 28 23 (fun i => .int .u64 (nWords b i))) => refJoin_any (IA.out.refIn h1) (IB.out.refIn h2) (nodeOff a) (by omega))
  have hb6 : Below w5.heap.size w5 w6 := (below_alloc w5 _).trans (a6.bel.mono (by simp))
  have HG : Hid (getL (fun i => D4.cur (nodeOff a / 8 + i)) 28 = nList a) := by
    show getL _ _ = _
    unfold getL nList
    refine List.map_congr_left (fun i hi => ?_)
    rw [E5.out.live.cur]; exact cAB_a a b i (by simpa using hi)
  clear HJo c0 c1 hz5 hpo
  generalize joinP (nodeW D4 (ptrN (nodeOff a))) (nodeOff a) (nodeW D4 (ptrN 488)) = J at *
  obtain ⟨l, er⟩ := J
  have S6 : Hid (JAll w a b ka sa va kc sc vc kb sb vb kd sd vd v own4 D4 114 (cAB a b) wv l w6) := ⟨J5.out.next hb6, E5.out.next hb6, a6.deeper (J5.out.next (below_alloc w5 _)).bel⟩
  clear a6 hb6 J5 E5 IA IB
  go_wp2_with fail
  go_region_held3 (fun wx => wx.cell? ⟨w.heap.size, 0, none⟩ = some (.int .u8 a.pos) ∧ wx.cell? ⟨w.heap.size, 1, none⟩ = some (.slice ka a.ks.length kc) ∧ wx.cell? ⟨w.heap.size, 2, none⟩ = some (.slice sa a.ss.length sc) ∧ wx.cell? ⟨w.heap.size, 3, none⟩ = some (.slice va a.vs.length vc) ∧ wx.cell? ⟨w.heap.size, 4, none⟩ = some (.int .u8 a.high) ∧ wx.cell? ⟨w.heap.size, 5, none⟩ = some (.bool a.bounded) ∧ wx.cell? ⟨w.heap.size, 6, none⟩ = some (.bool a.next) ∧ wx.cell? ⟨w.heap.size, 7, none⟩ = some (.int .u16 a.count) ∧ wx.cell? ⟨w.heap.size + 1, 0, none⟩ = some (.int .u8 b.pos) ∧ wx.cell? ⟨w.heap.size + 1, 1, none⟩ = some (.slice kb b.ks.length kd) ∧ wx.cell? ⟨w.heap.size + 1, 2, none⟩ = some (.slice sb b.ss.length sd) ∧ wx.cell? ⟨w.heap.size + 1, 3, none⟩ = some (.slice vb b.vs.length vd) ∧ wx.cell? ⟨w.heap.size + 1, 4, none⟩ = some (.int .u8 b.high) ∧ wx.cell? ⟨w.heap.size + 1, 5, none⟩ = some (.bool b.bounded) ∧ wx.cell? ⟨w.heap.size + 1, 6, none⟩ = some (.bool b.next) ∧ wx.cell? ⟨w.heap.size + 1, 7, none⟩ = some (.int .u16 b.count)) (first | (with_reducible exact S10.out.box.cells) | (with_reducible exact S9.out.box.cells) | (with_reducible exact S8.out.box.cells) | (with_reducible exact S7.out.box.cells) | (with_reducible exact S6.out.drew.box.cells) | (with_reducible exact S6.out.box.cells)) (first | (go_at_call 27; (with_reducible refine (HWA.out _ (by exact S6.out.drew.below)).mono ?_); rintro e w7 ⟨g7, rfl, r7, _, b7⟩; have S7 := Lib.hid (S6.out.next (bdrew b7)); have R7 := Lib.hid r7; clear r7 b7) | (go_at_call 31; (with_reducible refine (HO.out _).mono ?_); rintro e w8 ⟨rfl, b8⟩; have S8 := Lib.hid (S7.out.next b8); have R8 := Lib.hid (R7.out.below b8); clear b8) | (go_at_call 27; (with_reducible refine (HWB.out _ S8.out.below).mono ?_); rintro e w9 ⟨g9, rfl, r9, _, b9⟩; have S9 := Lib.hid (S8.out.next b9); have R9 := Lib.hid (R8.out.below b9); have Q9 := Lib.hid r9; clear r9 b9) | (go_at_call 30; (with_reducible refine (HRJ.out _ _ _ R9.out Q9.out).mono ?_); rintro e w10 ⟨ov, rfl, a10⟩; have S10 := Lib.hid (S9.out.next a10.bel); have A10 := Lib.hid (a10.deeper S9.out.below); clear a10))
  all_goals go_wp2_with fail
  have hee : ((er : Int) == (er : Int)) = true := by simp
  have HEQ := Lib.hid (fun wx u u' (h1 : RdSl wx 2 u l.length (flat l)) (h2 : RdSl wx 2 u' l.length (flat l)) => equalRW_same (w := wx) u u' l h1 h2 (by omega))
  have HWR := Lib.hid (fun wx (h1 : RdSl wx 2 wv l.length (flat l)) (h2 : ∀ k, wv.ownBlock = some k → k < wx.heap.size) => writes_any (w := wx) wv l h1 (by omega) h2)
  have HGT := Lib.hid (fun wx (h : IsDev wx v own4 D4) (h1 : D4.off = false) (h2 : nodeOff a + 224 ≤ 64 * D4.n) => getW_any h (nodeOff a) h1 hn1.2.2 h2)
  clear S6 S7 S8 S9 R7 R8 R9 Q9 HRJ
  go_region_held3 (fun wx => wx.cell? ⟨w.heap.size, 0, none⟩ = some (.int .u8 a.pos) ∧ wx.cell? ⟨w.heap.size, 1, none⟩ = some (.slice ka a.ks.length kc) ∧ wx.cell? ⟨w.heap.size, 2, none⟩ = some (.slice sa a.ss.length sc) ∧ wx.cell? ⟨w.heap.size, 3, none⟩ = some (.slice va a.vs.length vc) ∧ wx.cell? ⟨w.heap.size, 4, none⟩ = some (.int .u8 a.high) ∧ wx.cell? ⟨w.heap.size, 5, none⟩ = some (.bool a.bounded) ∧ wx.cell? ⟨w.heap.size, 6, none⟩ = some (.bool a.next) ∧ wx.cell? ⟨w.heap.size, 7, none⟩ = some (.int .u16 a.count) ∧ wx.cell? ⟨w.heap.size + 1, 0, none⟩ = some (.int .u8 b.pos) ∧ wx.cell? ⟨w.heap.size + 1, 1, none⟩ = some (.slice kb b.ks.length kd) ∧ wx.cell? ⟨w.heap.size + 1, 2, none⟩ = some (.slice sb b.ss.length sd) ∧ wx.cell? ⟨w.heap.size + 1, 3, none⟩ = some (.slice vb b.vs.length vd) ∧ wx.cell? ⟨w.heap.size + 1, 4, none⟩ = some (.int .u8 b.high) ∧ wx.cell? ⟨w.heap.size + 1, 5, none⟩ = some (.bool b.bounded) ∧ wx.cell? ⟨w.heap.size + 1, 6, none⟩ = some (.bool b.next) ∧ wx.cell? ⟨w.heap.size + 1, 7, none⟩ = some (.int .u16 b.count)) (first | (with_reducible exact S16.out.box.cells) | (with_reducible exact S15.out.box.cells) | (with_reducible exact S14.out.box.cells) | (with_reducible exact S13.out.box.cells) | (with_reducible exact S12.out.box.cells) | (with_reducible exact S11.out.box.cells) | (with_reducible exact S10.out.drew.box.cells) | (with_reducible exact S10.out.box.cells)) (first | (go_at_call 33; (with_reducible refine (HWR.out _ (by exact S10.out.drew.acc.rd) (by exact S10.out.drew.acc.own.lt)).mono ?_); rintro e w11 ⟨uv, rfl, a11⟩; have S11 := Lib.hid (S10.out.next (bdrew a11.bel)); have A11 := Lib.hid (A10.out.keep (bdrew a11.bel)); have U11 := Lib.hid a11.rd; clear a11) | (go_at_call 32; (with_reducible refine (HEQ.out _ _ _ U11.out A11.out.rd).mono ?_); rintro e w12 ⟨rfl, b12⟩; have S12 := Lib.hid (S11.out.next b12); clear b12) | (go_at_call 31; (with_reducible refine (HO.out _).mono ?_); rintro e w13 ⟨rfl, b13⟩; have S13 := Lib.hid (S12.out.next b13); clear b13) | (go_at_call 34; (with_reducible refine (HGT.out _ S13.out.live.dev S13.out.live.live.off (by rw [S13.out.live.live.n]; omega)).mono ?_); rintro e w14 ⟨gv, rfl, a14⟩; have S14 := Lib.hid (S13.out.next a14.bel); have A14 := Lib.hid (a14.deeper S13.out.below); clear a14) | (go_at_call 27; (with_reducible refine (HWA.out _ S14.out.below).mono ?_); rintro e w15 ⟨g15, rfl, r15, _, b15⟩; have S15 := Lib.hid (S14.out.next b15); have A15 := Lib.hid (A14.out.keep b15); have R15 := Lib.hid (row_list a r15); clear r15 b15) | (go_at_call 11; (with_reducible refine (equalU_same _ _ _ _ HG.out A15.out.rd R15.out (by simp [getL])).mono ?_); rintro e w16 ⟨rfl, b16⟩; have S16 := Lib.hid (S15.out.next b16); clear b16))
  all_goals go_wp2_with fail
  all_goals go_ret
  all_goals exact ⟨rfl, S16.out.below⟩
end
end Go.Proofs.Ytkoijmoendepgaa
