/- What the walks of the leaf laws share. -/
import Derived.Test.YtgdcjedcinapdaaGreatJ8
import Derived.Test.YtgdcjedcinapdaaGreatJ7
import Derived.BigQuiet
import Derived.Deep.QuietTactic
import Derived.Test.YtgdcjedcinapdaaGreatJ1
namespace Go.Proofs.YtgdcjedcinapdaaGreat
open Go.RowKit
attribute [local go_sem ↓] Go.wp_at_zero Go.wp_at_succ

section
variable {w : World} {a b : NodeP} {ka sa va kb sb vb : Option Addr} {kc sc vc kd sd vd : Nat}
/-- The two nodes' boxes. -/
structure JBox (w : World) (a b : NodeP) (ka sa va : Option Addr) (kc sc vc : Nat) (kb sb vb : Option Addr) (kd sd vd : Nat) (wc : World) : Prop where
  boxA : Blk wc w.heap.size (nodeAgg a ka sa va kc sc vc) 26
  boxB : Blk wc (w.heap.size + 1) (nodeAgg b kb sb vb kd sd vd) 26
  bel : Below w.heap.size w wc
theorem JBox.next {wc w1 : World} (h : JBox w a b ka sa va kc sc vc kb sb vb kd sd vd wc) (hb : Below wc.heap.size wc w1) : JBox w a b ka sa va kc sc vc kb sb vb kd sd vd w1 :=
  ⟨h.boxA.below hb, h.boxB.below hb, h.bel.trans (hb.mono h.bel.size)⟩
theorem JBox.drew {wc : World} (h : JBox w a b ka sa va kc sc vc kb sb vb kd sd vd wc) : JBox w a b ka sa va kc sc vc kb sb vb kd sd vd wc.drew := ⟨h.boxA, h.boxB, h.bel.drew⟩
theorem JBox.cells {wx : World} (h : JBox w a b ka sa va kc sc vc kb sb vb kd sd vd wx) : wx.cell? ⟨w.heap.size, 0, none⟩ = some (.int .u8 a.pos) ∧ wx.cell? ⟨w.heap.size, 1, none⟩ = some (.slice ka a.ks.length kc) ∧ wx.cell? ⟨w.heap.size, 2, none⟩ = some (.slice sa a.ss.length sc) ∧ wx.cell? ⟨w.heap.size, 3, none⟩ = some (.slice va a.vs.length vc) ∧ wx.cell? ⟨w.heap.size, 4, none⟩ = some (.int .u8 a.high) ∧ wx.cell? ⟨w.heap.size, 5, none⟩ = some (.bool a.bounded) ∧ wx.cell? ⟨w.heap.size, 6, none⟩ = some (.bool a.next) ∧ wx.cell? ⟨w.heap.size, 7, none⟩ = some (.int .u16 a.count) ∧ wx.cell? ⟨w.heap.size + 1, 0, none⟩ = some (.int .u8 b.pos) ∧ wx.cell? ⟨w.heap.size + 1, 1, none⟩ = some (.slice kb b.ks.length kd) ∧ wx.cell? ⟨w.heap.size + 1, 2, none⟩ = some (.slice sb b.ss.length sd) ∧ wx.cell? ⟨w.heap.size + 1, 3, none⟩ = some (.slice vb b.vs.length vd) ∧ wx.cell? ⟨w.heap.size + 1, 4, none⟩ = some (.int .u8 b.high) ∧ wx.cell? ⟨w.heap.size + 1, 5, none⟩ = some (.bool b.bounded) ∧ wx.cell? ⟨w.heap.size + 1, 6, none⟩ = some (.bool b.next) ∧ wx.cell? ⟨w.heap.size + 1, 7, none⟩ = some (.int .u16 b.count) :=
  ⟨h.boxA.cell rfl, h.boxA.cell rfl, h.boxA.cell rfl, h.boxA.cell rfl, h.boxA.cell rfl, h.boxA.cell rfl, h.boxA.cell rfl, h.boxA.cell rfl, h.boxB.cell rfl, h.boxB.cell rfl, h.boxB.cell rfl, h.boxB.cell rfl, h.boxB.cell rfl, h.boxB.cell rfl, h.boxB.cell rfl, h.boxB.cell rfl⟩
theorem JBox.start (w : World) (a b : NodeP) (ka sa va : Option Addr) (kc sc vc : Nat) (kb sb vb : Option Addr) (kd sd vd : Nat) :
    JBox w a b ka sa va kc sc vc kb sb vb kd sd vd ((w.alloc (.cells (nodeAgg a ka sa va kc sc vc) 26)).alloc (.cells (nodeAgg b kb sb vb kd sd vd) 26)) := by
  have h2 := Blk.new (w.alloc (.cells (nodeAgg a ka sa va kc sc vc) 26)) (nodeAgg b kb sb vb kd sd vd) 26
  rw [World.size_alloc] at h2
  exact ⟨(Blk.new w _ _).alloc _, h2, below_twice w _ _⟩
/-- The device with both nodes on it, and the two leaves' boxes. -/
structure JDev (w : World) (v : DV) (own : Nat → Option Role) (D : Dev) (x : Nat) (C : Nat → Int) (wc : World) : Prop where
  live : LiveSt w v own D x C wc
  oA : own w.heap.size = none
  oB : own (w.heap.size + 1) = none
theorem JDev.next {v : DV} {own : Nat → Option Role} {D : Dev} {x : Nat} {C : Nat → Int} {wc w1 : World} (h : JDev w v own D x C wc) (hb : Below wc.heap.size wc w1) : JDev w v own D x C w1 := ⟨h.live.next hb, h.oA, h.oB⟩

def cA (a : NodeP) : Nat → Int := withNode (fun _ => 0) (nodeOff a) a
def cAB (a b : NodeP) : Nat → Int := withNode (cA a) 488 b
theorem cAB_a (a b : NodeP) (i : Nat) (hi : i < 28) : cAB a b (nodeOff a / 8 + i) = nWords a i := by
  have := nodeOff_le a
  have e : cAB a b (nodeOff a / 8 + i) = cA a (nodeOff a / 8 + i) := by
    unfold cAB withNode laid
    rw [if_neg (by omega)]
  rw [e]; exact withNode_at _ _ _ _ hi
theorem cAB_b (a b : NodeP) (i : Nat) (hi : i < 28) : cAB a b (61 + i) = nWords b i := withNode_at (cA a) 488 b i hi

theorem nKeys_bd {n : NodeP} (h : NodeIn w n ka sa va kc sc vc) (i : Nat) : 0 ≤ (nKeys n).getD i 0 ∧ (nKeys n).getD i 0 ≤ 510 := by
  rcases hx : (nKeys n)[i]? with _ | x
  · simp [List.getD, hx]
  · have := keysN_mem n.ks h.k8 x (List.mem_of_getElem? hx)
    simpa [List.getD, hx] using this
theorem nVal_bd {n : NodeP} (h : NodeIn w n ka sa va kc sc vc) (i : Nat) (hi : i < 100) : 0 ≤ nVal n i ∧ nVal n i < 18446744073709551616 := by
  unfold nVal
  split
  · rcases hx : n.vs[i]? with _ | x
    · simp [List.getD, hx]
    · have := h.v64 x (List.mem_of_getElem? hx)
      simpa [List.getD, hx] using this
  · omega
theorem wdK_bd {n : NodeP} (h : NodeIn w n ka sa va kc sc vc) (k i : Nat) (hi : 0 < i) (hk : k ≤ 12) : 0 ≤ wdK n k i ∧ wdK n k i < 18446744073709551616 := by
  induction k with
  | zero => unfold wdK; rw [if_neg (by omega)]; split <;> omega
  | succ k ih =>
    have h1 := ih (by omega); have h2 := nVal_bd h k (by omega); have h3 := nKeys_bd h k
    unfold wdK
    rw [if_neg (by omega)]
    split
    · exact h2
    · split
      · omega
      · exact h1
theorem ordN_lt (n : NodeP) : ordN (nSlots n) n.count < 18446744073709551616 := by
  have := ord_div (nSlots n) n.count (nSlots_16 n) (nSlots_len12 n); omega
theorem nWords_bd {n : NodeP} (h : NodeIn w n ka sa va kc sc vc) (i : Nat) : 0 ≤ nWords n i ∧ nWords n i < 18446744073709551616 := by
  rcases Nat.eq_zero_or_pos i with rfl | hi
  · rw [nWords_zero]; have := ordN_lt n; omega
  · rw [nWords_eq]
    split
    · split
      · exact ⟨by omega, by decide⟩
      · omega
    · unfold wdB
      have h8 := h.h8
      have hk := nKeys_bd h ((nKeys n).length - 1)
      split
      · split
        · split <;> omega
        · omega
      · split
        · split <;> omega
        · exact wdK_bd h _ _ hi (nSlots_len12 n)
theorem IsNode.refIn {n : NodeP} {W : Nat → Int} (h : IsNode W n) {g : Nat} {wx : World} (hr : Row wx g 28 28 (fun i => .int .u64 (nWords n i))) : RefIn wx (.slice (some ⟨g, 0, none⟩) 28 28) W (ordN (nSlots n) n.count) := by
  refine ⟨⟨by simp [intsU, listW], _, _, rfl, Nat.le_refl _, .inr ⟨g, 0, rfl, fun j u hu => ?_⟩⟩, h.w0, ordN_lt n, parse_ord _ _ (nSlots_lt n) (nSlots_len12 n) (nSlots_nodup n)⟩
  have hj : j < 28 := by
    rcases Nat.lt_or_ge j 28 with h | h
    · exact h
    · rw [List.getElem?_eq_none (by simp [intsU, listW]; exact h)] at hu; cases hu
  have : u = .int .u64 (nWords n j) := by simp [intsU, listW, hj] at hu; rw [← hu, h j hj]
  rw [this, Nat.zero_add]; exact hr.cell hj

theorem joinP_len (W V : Nat → Int) (off : Nat) : (joinP W off V).1.length ≤ 100 := by
  unfold joinP
  simp only
  split
  · simp
  · split
    · simp
    · have h1 := (joinSt_len off V (slotsW V) (slotsW W) (slotsW V).length).2
      have h2 : (slotsW V).length < 16 := by simp [slotsW, slotsN]; omega
      simp only [List.length_append, h1, List.length_cons, List.length_nil]; omega
/-- Boxes, device and the writes that Join returned. -/
structure JAll (w : World) (a b : NodeP) (ka sa va : Option Addr) (kc sc vc : Nat) (kb sb vb : Option Addr) (kd sd vd : Nat) (v : DV) (own : Nat → Option Role) (D : Dev) (x : Nat) (C : Nat → Int) (wv : Value) (l : List (Nat × Int)) (wc : World) : Prop where
  box : JBox w a b ka sa va kc sc vc kb sb vb kd sd vd wc
  live : LiveSt w v own D x C wc
  acc : Acc w w.heap.size wc 141 2 wv l.length (flat l)
section
variable {v : DV} {own : Nat → Option Role} {D : Dev} {x : Nat} {C : Nat → Int} {wv : Value} {l : List (Nat × Int)} {wc w1 : World}
theorem JAll.next (h : JAll w a b ka sa va kc sc vc kb sb vb kd sd vd v own D x C wv l wc) (hb : Below wc.heap.size wc w1) : JAll w a b ka sa va kc sc vc kb sb vb kd sd vd v own D x C wv l w1 := ⟨h.box.next hb, h.live.next hb, h.acc.keep hb⟩
theorem JAll.drew (h : JAll w a b ka sa va kc sc vc kb sb vb kd sd vd v own D x C wv l wc) : JAll w a b ka sa va kc sc vc kb sb vb kd sd vd v own D x C wv l wc.drew := h.next ((Below.refl _ _).drew)
theorem JAll.below (h : JAll w a b ka sa va kc sc vc kb sb vb kd sd vd v own D x C wv l wc) : Below w.heap.size w wc := h.box.bel
end
theorem Acc.deeper {w w0 wc : World} {e : TypeId} {s n : Nat} {u : Value} {xs : List Value} (h : Acc w0 w0.heap.size wc e s u n xs) (hb : Below w.heap.size w w0) : Acc w w.heap.size wc e s u n xs :=
  ⟨h.own, fun g hg => Nat.le_trans hb.size (h.new g hg), hb.trans (h.bel.mono hb.size), Nat.le_trans hb.size h.lt⟩
theorem equalRW_same (u v : Value) (xs : List (Nat × Int)) (hx : RdSl w 2 u xs.length (flat xs)) (hy : RdSl w 2 v xs.length (flat xs)) (hl : xs.length ≤ 100000) :
    Calls Tryz.prog 45 #[u, v] w fun r w' => r = .returned (.bool true) ∧ Below w.heap.size w w' := by
  have := equalRW_any u v xs xs hx hy hl hl
  rwa [show decide (xs = xs) = true by simp] at this
theorem equalU_same (u v : Value) (xs ys : List Int) (he : xs = ys) (hx : RdSl w 1 u xs.length (intsU xs)) (hy : RdSl w 1 v ys.length (intsU ys)) (hl : xs.length ≤ 100000) :
    Calls Tryz.prog 31 #[u, v] w fun r w' => r = .returned (.bool true) ∧ Below w.heap.size w w' := by
  subst he
  have := equalU_any u v xs xs hx hy (by omega) (by omega)
  rwa [show decide (xs = xs) = true by simp] at this
end
end Go.Proofs.YtgdcjedcinapdaaGreat

/- Small facts that several laws of the leaf use. -/
namespace Go.Proofs.YtgdcjedcinapdaaGreat
open Go.RowKit Go.Shelf

section
variable {w wr wz w1 : World} {B : Nat} {e : TypeId} {size n : Nat} {v : Value} {xs : List Value}
theorem Acc.other (h : Acc w B wr e size v n xs) {a : Addr} (hb : B ≤ a.block) (hne : v.ownBlock ≠ some a.block) (u : Value) : Acc w B (wr.setCell a u) e size v n xs :=
  ⟨h.own.other (fun k hk e => hne (e ▸ hk)) u, h.new, ⟨h.bel.os, h.bel.tape, h.bel.output, Nat.le_trans h.bel.size (by simp [World.setCell]), fun k hk => (Below.heap_setCell _ _ _ _ (by omega)).trans (h.bel.block k hk)⟩, Nat.le_trans h.lt (by simp [World.setCell])⟩
end

theorem rd_of_row {W : World} {base e size : Nat} {v : Value} {k : Nat} {xs : List Value} (h : W.ownsRow base e size v k xs) : RdSl W size v k xs := by
  refine OwnSl.rd (e := e) ⟨h.1, ?_⟩
  rcases h.2 with h | ⟨g, cap, cur, hv, _, hb, hn, hm, hs, ht⟩
  · exact .inl h
  · exact .inr ⟨g, 0, cap, cur, hv, hb, hn, hm, by omega, by simpa using ht⟩
theorem cell_setOther (w : World) (a b : Addr) (h : a.block ≠ b.block) (u : Value) : (w.setCell b u).cell? a = w.cell? a := World.cell?_of_block (Below.heap_setCell _ _ _ _ h)
theorem refSame_same {w : World} (u v : Value) (xs : List (Int × Int)) (hx : RdSl w 2 u xs.length (entC xs)) (hy : RdSl w 2 v xs.length (entC xs)) (hl : xs.length ≤ 100000) :
    Calls Tryz.prog 15 #[u, v] w fun r w' => r = .returned (.bool true) ∧ Below w.heap.size w w' := by
  have := refSame_any u v xs xs hx hy hl hl
  simpa using this

/-- A valid node yields its entries from a key on. -/
theorem yields_ok {W : World} {v : DV} {own : Nat → Option Role} {D : Dev} {j p : Nat} (h : NodeAt W v own D j p) (hok : nodeOk (nodeW D p) (D.n * 64)) (from' : Int) :
    Yields W (.iface 76 (.pointer (some ⟨v.tb j, 0, none⟩))) p from' ((entsW (nodeW D p) (slotsW (nodeW D p))).drop (findIdx (nodeW D p) from' (slotsW (nodeW D p)))) := by
  intro W' hb
  refine (h.below hb).read.mono ?_
  rintro r w1 ⟨hb1, ⟨_, cb, rfl, _, hc⟩ | ⟨hbad, _⟩⟩
  · exact ⟨hb1, .inr ⟨cb, _, _, _, rfl, hc, rfl⟩⟩
  · exact absurd hok hbad
end Go.Proofs.YtgdcjedcinapdaaGreat

/- The reference's Unset and Set of entries; the law's plan. -/
namespace Go.Proofs.YtgdcjedcinapdaaGreat
open Go.RowKit

theorem unsetL_snoc (k : Int) (E : List (Int × Int)) (e : Int × Int) : unsetL k (E ++ [e]) = if e.1 = k then unsetL k E else unsetL k E ++ [e] := by
  unfold unsetL; rw [List.filter_append]; by_cases h : e.1 = k <;> simp [h]
theorem hasL_snoc (k : Int) (E : List (Int × Int)) (e : Int × Int) : hasL k (E ++ [e]) = if e.1 = k then true else hasL k E := by
  unfold hasL; rw [List.any_append]; by_cases h : e.1 = k <;> simp [h]
theorem unsetL_len (k : Int) (E : List (Int × Int)) : (unsetL k E).length ≤ E.length := List.length_filter_le _ _
theorem setS_snoc (k v : Int) (E : List (Int × Int)) (e : Int × Int) : setS k v (E ++ [e]) = setStep k v (setS k v E) e := by simp [setS, List.foldl_append]
theorem setF_len (k v : Int) (E : List (Int × Int)) : ∀ s : List (Int × Int) × Bool, (E.foldl (setStep k v) s).1.length ≤ s.1.length + 2 * E.length := by
  induction E with
  | nil => intro s; simp
  | cons e E ih =>
    intro s
    have h1 := ih (setStep k v s e)
    have h2 : (setStep k v s e).1.length ≤ s.1.length + 2 := by unfold setStep; split <;> split <;> simp
    rw [List.foldl_cons, List.length_cons]; omega
theorem setS_len (k v : Int) (E : List (Int × Int)) : (setS k v E).1.length ≤ 2 * E.length := by have := setF_len k v E ([], false); simpa [setS] using this

section
variable {w : World}
set_option maxRecDepth 100000 in
set_option maxHeartbeats 2000000 in
theorem refUnset_any (sv : Value) (E : List (Int × Int)) (key : Int) (h : RdSl w 2 sv E.length (entC E)) (hl : E.length ≤ 100000) :
    Calls Tryz.prog 37 #[sv, .int .u64 key] w fun r w' => ∃ ov, r = .returned (.tuple #[ov, .bool (hasL key E)]) ∧ Acc w w.heap.size w' 94 2 ov (unsetL key E).length (entC (unsetL key E)) := by
  have H := Lib.hid h
  obtain ⟨_, a, c, rfl, hc, _⟩ := h
  obtain ⟨k0, hi0, hz0, hz1, hz2⟩ := info_parts infoEntry
  have I2 := Lib.hid (And.intro hi0 (And.intro hz0 (And.intro hz1 hz2))); clear hi0 hz0 hz1 hz2
  generalize hn : E.length = n at *
  have HN := Lib.hid hn; clear hn
  go_enter Tryz.func37, Tryz.ntmps37
  go_wp2_with fail
  go_loopw [6, 7, 12] (fun ov hv y wr => ∃ k : Nat, k ≤ n ∧ y = .int .i64 k ∧ hv = .bool (hasL key (E.take k)) ∧ Acc w w.heap.size wr 94 2 ov (unsetL key (E.take k)).length (entC (unsetL key (E.take k)))) (fun _ _ y _ => n - (intOf y).toNat)
  case atStart => exact ⟨0, by omega, rfl, rfl, Acc.nil w _ _ _ _ (Below.refl _ _) (Nat.le_refl _)⟩
  case round =>
    obtain ⟨k, hk, rfl, rfl, ha⟩ := hrel
    obtain ⟨oa, oc, rfl⟩ := ha.slice
    have A := Lib.hid ha; clear ha
    by_cases hlt2 : k < n
    · have hk' : (k : Int) < n := by omega
      obtain ⟨e, he⟩ : ∃ e, E[k]? = some e := ⟨_, List.getElem?_eq_getElem (by rw [HN.out]; exact hlt2)⟩
      obtain ⟨_, a', c', e', _, hE⟩ := H.out.below A.out.bel
      cases e'
      obtain ⟨eb, eo, rfl, hE2⟩ := rd_at hE (entC_get E k e he).1
      have c1 := hE2 _ _ (entC_get E k e he).1; have c2 := hE2 _ _ (entC_get E k e he).2
      rw [← Nat.add_assoc] at c2
      have HT : Hid (E.take (k + 1) = E.take k ++ [e]) := take_snoc_at E k e he
      have HU := Lib.hid (unsetL_snoc key (E.take k) e); have HS := Lib.hid (hasL_snoc key (E.take k) e)
      have hlen := unsetL_len key (E.take k)
      have hlen2 := List.length_take_le k E
      clear hE hE2 he
      obtain ⟨e1, e2⟩ := e
      generalize hU : unsetL key (E.take k) = U at *
      generalize hB : hasL key (E.take k) = hb at *
      generalize hu : U.length = u at *
      have Hu := Lib.hid hu; clear hu hU hB
      by_cases hke : e1 = key
      · have hke' : (e1 == key) = true := by simp [hke]
        have HK := Lib.hid hke; clear hke
        go_wp2_with fail
        go_roundw
        case rel => exact ⟨k + 1, by omega, by go_num, by rw [HT.out, HS.out, if_pos HK.out], by rw [HT.out, HU.out, if_pos HK.out, Hu.out]; exact A.out.keep (below_alloc _ _)⟩
        case measure => simp [intOf]; omega
      · have hke' : (e1 == key) = false := by simp [hke]
        have HK := Lib.hid hke; clear hke
        go_wp2_with (at_builtin; refine wpList_append_sl _ rfl _ _ 47 rfl 94 k0 _ 2 16 Tryz.underlying47 I2.out.1 I2.out.2.1 I2.out.2.2.1 I2.out.2.2.2 rfl (by decide) _ u (entC U) rfl (by exact (A.out.own.alloc _).alloc _) _ 1 (entC [(e1, e2)]) rfl (by exact RdSl.newAt _ _ _ 2 1 _ (by simp) rfl) (entC_one _) (by unfold maxLen; omega) (by omega) ?_)
        intro v1 w1 o1 g1 b1 n1
        have A1 := Lib.hid (A.out.next (below_twice wr _ _) o1 g1 b1 (by omega)); clear o1 g1 b1 n1
        go_wp2_with fail
        go_roundw
        case rel => exact ⟨k + 1, by omega, by go_num, by rw [HT.out, HS.out, if_neg HK.out], by rw [HT.out, HU.out, if_neg HK.out]; exact A1.out.congr (by simp [Hu.out]) (by rw [entC_append])⟩
        case measure => simp [intOf]; omega
    · obtain rfl : k = n := by omega
      have HF : Hid (E.take k = E) := List.take_of_length_le (by rw [HN.out]; omega)
      rw [HF.out] at A ⊢
      go_wp2_with fail
      go_ret2
      exact ⟨_, rfl, A.out⟩

set_option maxRecDepth 100000 in
set_option maxHeartbeats 4000000 in
theorem refSet_any (sv : Value) (E : List (Int × Int)) (key value : Int) (h : RdSl w 2 sv E.length (entC E)) (hl : E.length ≤ 100000) :
    Calls Tryz.prog 35 #[sv, .int .u64 key, .int .u64 value] w fun r w' => ∃ ov, r = .returned ov ∧ Acc w w.heap.size w' 94 2 ov (setL key value E).length (entC (setL key value E)) := by
  have H := Lib.hid h
  obtain ⟨_, a, c, rfl, hc, _⟩ := h
  obtain ⟨k0, hi0, hz0, hz1, hz2⟩ := info_parts infoEntry
  have I2 := Lib.hid (And.intro hi0 (And.intro hz0 (And.intro hz1 hz2))); clear hi0 hz0 hz1 hz2
  generalize hn : E.length = n at *
  have HN := Lib.hid hn; clear hn
  go_enter Tryz.func35, Tryz.ntmps35
  go_wp2_with fail
  go_loopw [7, 8, 13] (fun ov hv y wr => ∃ k : Nat, k ≤ n ∧ y = .int .i64 k ∧ hv = .bool (setS key value (E.take k)).2 ∧ Acc w w.heap.size wr 94 2 ov (setS key value (E.take k)).1.length (entC (setS key value (E.take k)).1)) (fun _ _ y _ => n - (intOf y).toNat)
  case atStart => exact ⟨0, by omega, rfl, rfl, Acc.nil w _ _ _ _ (Below.refl _ _) (Nat.le_refl _)⟩
  case round =>
    obtain ⟨k, hk, rfl, rfl, ha⟩ := hrel
    obtain ⟨oa, oc, rfl⟩ := ha.slice
    have A := Lib.hid ha; clear ha
    have hlen := setS_len key value (E.take k)
    have hlen2 := List.length_take_le k E
    by_cases hlt2 : k < n
    · have hk' : (k : Int) < n := by omega
      obtain ⟨e, he⟩ : ∃ e, E[k]? = some e := ⟨_, List.getElem?_eq_getElem (by rw [HN.out]; exact hlt2)⟩
      obtain ⟨_, a', c', e', _, hE⟩ := H.out.below A.out.bel
      cases e'
      obtain ⟨eb, eo, rfl, hE2⟩ := rd_at hE (entC_get E k e he).1
      have c1 := hE2 _ _ (entC_get E k e he).1; have c2 := hE2 _ _ (entC_get E k e he).2
      rw [← Nat.add_assoc] at c2
      have HT : Hid (E.take (k + 1) = E.take k ++ [e]) := take_snoc_at E k e he
      have HU := Lib.hid (setS_snoc key value (E.take k) e)
      rw [← HT.out] at HU
      clear hE hE2 he HT
      obtain ⟨e1, e2⟩ := e
      generalize hS : setS key value (E.take k) = S at *
      obtain ⟨U, d⟩ := S
      simp only at A hlen
      generalize hu : U.length = u at *
      have Hu := Lib.hid hu; clear hu hS
      obtain ⟨bx, hbx⟩ : ∃ b : Obj, b = .cells #[.int .u64 e1, .int .u64 e2] 94 := ⟨_, rfl⟩
      have hbox : ∀ (o : Obj) (w1 : World), ((wr.alloc (.cells #[.int .u64 e1, .int .u64 e2] 94)).alloc o).grownBy w1 (Value.slice oa u oc).ownBlock → w1.cell? ⟨wr.heap.size, 0, none⟩ = some (.int .u64 e1) ∧ w1.cell? ⟨wr.heap.size, 1, none⟩ = some (.int .u64 e2) := fun o w1 g1 => by
        have hne : (Value.slice oa u oc).ownBlock ≠ some wr.heap.size := fun hh => by have := A.out.own.lt _ hh; omega
        exact ⟨(kept_cell (below_alloc _ o) g1 (by simp) hne 0).trans ((Blk.new wr _ _).cell rfl), (kept_cell (below_alloc _ o) g1 (by simp) hne 1).trans ((Blk.new wr _ _).cell rfl)⟩
      have HBX := Lib.hid hbox
      clear hbx hbox
      by_cases hd : d = false ∧ key ≤ e1
      · obtain ⟨rfl, hke⟩ := hd
        have hU1 : setStep key value (U, false) (e1, e2) = if e1 = key then (U ++ [(key, value)], true) else (U ++ [(key, value)] ++ [(e1, e2)], true) := by unfold setStep; rw [if_pos ⟨rfl, hke⟩]
        have HU1 := Lib.hid hU1; clear hU1
        by_cases hk2 : e1 = key
        · have hke' : (e1 == key) = true := by simp [hk2]
          have HK := Lib.hid hk2; clear hk2
          go_wp2_with (at_builtin; refine wpList_append_sl _ rfl _ _ 47 rfl 94 k0 _ 2 16 Tryz.underlying47 I2.out.1 I2.out.2.1 I2.out.2.2.1 I2.out.2.2.2 rfl (by decide) _ u (entC U) rfl (by exact (A.out.own.alloc _).alloc _) _ 1 (entC [(key, value)]) rfl (by exact RdSl.newAt _ _ _ 2 1 _ (by simp) rfl) (entC_one _) (by unfold maxLen; omega) (by omega) ?_)
          intro v1 w1 o1 g1 b1 n1
          obtain ⟨d1, d2⟩ := HBX.out _ _ g1
          have A1 := Lib.hid (A.out.next (below_twice wr _ _) o1 g1 b1 (by omega)); clear o1 g1 b1 n1 HBX
          go_wp2_with fail
          go_roundw
          case rel => exact ⟨k + 1, by omega, by go_num, by rw [HU.out, HU1.out, if_pos HK.out], by rw [HU.out, HU1.out, if_pos HK.out]; exact A1.out.congr (by simp [Hu.out]) (by rw [entC_append])⟩
          case measure => simp [intOf]; omega
        · have hke' : (e1 == key) = false := by simp [hk2]
          have HK := Lib.hid hk2; clear hk2
          go_wp2_with (at_builtin; refine wpList_append_sl _ rfl _ _ 47 rfl 94 k0 _ 2 16 Tryz.underlying47 I2.out.1 I2.out.2.1 I2.out.2.2.1 I2.out.2.2.2 rfl (by decide) _ u (entC U) rfl (by exact (A.out.own.alloc _).alloc _) _ 1 (entC [(key, value)]) rfl (by exact RdSl.newAt _ _ _ 2 1 _ (by simp) rfl) (entC_one _) (by unfold maxLen; omega) (by omega) ?_)
          intro v1 w1 o1 g1 b1 n1
          obtain ⟨d1, d2⟩ := HBX.out _ _ g1
          have A1 := Lib.hid (A.out.next (below_twice wr _ _) o1 g1 b1 (by omega)); clear o1 g1 b1 n1 HBX
          have A1' := Lib.hid (A1.out.congr rfl (entC_append U [(key, value)]).symm)
          clear A1
          generalize hU2 : U ++ [(key, value)] = U2 at *
          have HU2 := Lib.hid hU2; clear hU2
          obtain ⟨va, vc, rfl⟩ := A1'.out.slice
          go_wp2_with (at_builtin; refine wpList_append_sl _ rfl _ _ 47 rfl 94 k0 _ 2 16 Tryz.underlying47 I2.out.1 I2.out.2.1 I2.out.2.2.1 I2.out.2.2.2 rfl (by decide) _ (u + 1) (entC U2) rfl (by exact A1'.out.own.alloc _) _ 1 (entC [(e1, e2)]) rfl (by exact RdSl.newAt _ _ _ 2 1 _ (by simp) rfl) (entC_one _) (by unfold maxLen; omega) (by omega) ?_)
          intro v2 w2 o2 g2 b2 n2
          have A2 := Lib.hid (A1'.out.next (below_alloc w1 _) o2 g2 b2 (by omega)); clear o2 g2 b2 n2
          go_wp2_with fail
          go_roundw
          case rel => exact ⟨k + 1, by omega, by go_num, by rw [HU.out, HU1.out, if_neg HK.out], by rw [HU.out, HU1.out, if_neg HK.out]; exact A2.out.congr (by rw [← HU2.out]; simp [Hu.out]) (by rw [entC_append])⟩
          case measure => simp [intOf]; omega
      · have hU1 : setStep key value (U, d) (e1, e2) = if e1 = key then (U, d) else (U ++ [(e1, e2)], d) := by unfold setStep; rw [if_neg hd]
        have HU1 := Lib.hid hU1; clear hU1
        have hcase : d = true ∨ (d = false ∧ ¬ key ≤ e1) := by
          cases d
          · exact .inr ⟨rfl, fun h => hd ⟨rfl, h⟩⟩
          · exact .inl rfl
        clear hd HBX
        by_cases hk2 : e1 = key
        · have hke' : (e1 == key) = true := by simp [hk2]
          have HK := Lib.hid hk2; clear hk2
          rcases hcase with rfl | ⟨rfl, hge⟩
          · go_wp2_with fail
            go_roundw
            case rel => exact ⟨k + 1, by omega, by go_num, by rw [HU.out, HU1.out, if_pos HK.out], by rw [HU.out, HU1.out, if_pos HK.out]; exact (A.out.keep (below_alloc _ _)).congr (by simp [Hu.out]) rfl⟩
            case measure => simp [intOf]; omega
          · have := HK.out; omega
        · have hke' : (e1 == key) = false := by simp [hk2]
          have HK := Lib.hid hk2; clear hk2
          rcases hcase with rfl | ⟨rfl, hge⟩
          all_goals
            go_wp2_with (at_builtin; refine wpList_append_sl _ rfl _ _ 47 rfl 94 k0 _ 2 16 Tryz.underlying47 I2.out.1 I2.out.2.1 I2.out.2.2.1 I2.out.2.2.2 rfl (by decide) _ u (entC U) rfl (by exact (A.out.own.alloc _).alloc _) _ 1 (entC [(e1, e2)]) rfl (by exact RdSl.newAt _ _ _ 2 1 _ (by simp) rfl) (entC_one _) (by unfold maxLen; omega) (by omega) ?_)
            intro v1 w1 o1 g1 b1 n1
            have A1 := Lib.hid (A.out.next (below_twice wr _ _) o1 g1 b1 (by omega)); clear o1 g1 b1 n1
            go_wp2_with fail
            go_roundw
            case rel => exact ⟨k + 1, by omega, by go_num, by rw [HU.out, HU1.out, if_neg HK.out], by rw [HU.out, HU1.out, if_neg HK.out]; exact A1.out.congr (by simp [Hu.out]) (by rw [entC_append])⟩
            case measure => simp [intOf]; omega
    · obtain rfl : k = n := by omega
      have HF : Hid (E.take k = E) := List.take_of_length_le (by rw [HN.out]; omega)
      rw [HF.out] at A hlen ⊢
      have HL : Hid (setL key value E = if (setS key value E).2 then (setS key value E).1 else (setS key value E).1 ++ [(key, value)]) := rfl
      generalize hS : setS key value E = S at *
      obtain ⟨U, d⟩ := S
      simp only at A hlen ⊢
      generalize hu : U.length = u at *
      have Hu := Lib.hid hu; clear hu hS
      have hub : u ≤ 200000 := by have := HN.out; omega
      clear hlen
      cases d
      · go_wp2_with (at_builtin; refine wpList_append_sl _ rfl _ _ 47 rfl 94 k0 _ 2 16 Tryz.underlying47 I2.out.1 I2.out.2.1 I2.out.2.2.1 I2.out.2.2.2 rfl (by decide) _ u (entC U) rfl (by exact A.out.own.alloc _) _ 1 (entC [(key, value)]) rfl (by exact RdSl.newAt _ _ _ 2 1 _ (by simp) rfl) (entC_one _) (by unfold maxLen; omega) (by omega) ?_)
        intro v1 w1 o1 g1 b1 n1
        have A1 := Lib.hid (A.out.next (below_alloc wr _) o1 g1 b1 (by omega)); clear o1 g1 b1 n1
        go_wp2_with fail
        go_ret
        exact ⟨_, rfl, by rw [HL.out]; exact A1.out.congr (by simp [Hu.out]) (by simp [entC_append])⟩
      · go_wp2_with fail
        go_ret
        exact ⟨_, rfl, by rw [HL.out]; exact A.out.congr (by simp [Hu.out]) (by simp)⟩

/-- The program of an act and its error. -/
def planP (W : Nat → Int) (off : Nat) (d : Bool) (key value : Int) : List (Nat × Nat × Int) × Nat := if d then delP W off key else putP W off key value
theorem PlanPost.start {w w1 w' : World} {W : Nat → Int} {size e : Nat} {l : List (Nat × Nat × Int)} {r : Ending} (hb : Below w.heap.size w w1) (h : PlanPost w1 W size l e r w') : PlanPost w W size l e r w' := by
  obtain ⟨h1, h2⟩ := h
  refine ⟨hb.trans (h1.mono hb.size), ?_⟩
  rcases h2 with ⟨h3, pv, h4, h5, h6⟩ | h2
  · exact .inl ⟨h3, pv, h4, h5, fun g hg => Nat.le_trans hb.size (h6 g hg)⟩
  · exact .inr h2
theorem PlanPost.tuple {w w' : World} {W : Nat → Int} {size e : Nat} {l : List (Nat × Nat × Int)} {r : Ending} (h : PlanPost w W size l e r w') : ∃ a n c u, r = .returned (.tuple #[.slice a n c, .int .i64 u]) := by
  rcases h.2 with ⟨_, pv, h4, h5, _⟩ | h2
  · obtain ⟨a, c, rfl⟩ := h5.slice; exact ⟨_, _, _, _, h4⟩
  · exact ⟨_, _, _, _, h2.2⟩
set_option maxRecDepth 100000 in
set_option maxHeartbeats 2000000 in
theorem plan_any {v : DV} {own : Nat → Option Role} {D : Dev} {j p : Nat} (h : NodeAt w v own D j p) (d : Bool) (key value : Int) :
    Calls Tryz.prog 38 #[.agg #[.iface 76 (.pointer (some ⟨v.tb j, 0, none⟩)), .int .u64 p], .agg #[.bool d, .int .u64 key, .int .u64 value]] w
    (PlanPost w (nodeW D p) (D.n * 64) (planP (nodeW D p) (ptrOff p) d key value).1 (planP (nodeW D p) (ptrOff p) d key value).2) := by
  have HD := Lib.hid (fun o o' => planDelete_any ((h.alloc o).alloc o') key)
  have HP := Lib.hid (fun o o' => planPut_any ((h.alloc o).alloc o') key value)
  clear h
  cases d
  · have e : planP (nodeW D p) (ptrOff p) false key value = putP (nodeW D p) (ptrOff p) key value := rfl
    rw [e]
    clear e HD
    go_enter Tryz.func38, Tryz.ntmps38
    go_wp2_with fail
    (with_reducible refine (HP.out _ _).mono ?_)
    rintro r w1 q1
    obtain ⟨a, n, c, u, rfl⟩ := q1.tuple
    have Q1 := Lib.hid (q1.start (below_twice w _ _)); clear q1
    go_wp2_with fail
    go_ret2
    exact Q1.out
  · have e : planP (nodeW D p) (ptrOff p) true key value = delP (nodeW D p) (ptrOff p) key := rfl
    rw [e]
    clear e HP
    go_enter Tryz.func38, Tryz.ntmps38
    go_wp2_with fail
    (with_reducible refine (HD.out _ _).mono ?_)
    rintro r w1 q1
    obtain ⟨a, n, c, u, rfl⟩ := q1.tuple
    have Q1 := Lib.hid (q1.start (below_twice w _ _)); clear q1
    go_wp2_with fail
    go_ret2
    exact Q1.out
end
end Go.Proofs.YtgdcjedcinapdaaGreat

/- The reference's pointers, and its Valid. -/
namespace Go.Proofs.YtgdcjedcinapdaaGreat
open Go.RowKit

section
variable {w : World}
set_option maxRecDepth 100000 in
theorem r09Off_any (p : Nat) (hp : p < 18446744073709551616) : Calls Tryz.prog 59 #[.int .u64 p] w fun r w' => r = .returned (.int .u64 (ptrOff p)) ∧ w = w' := by
  go_enter Tryz.func59, Tryz.ntmps59
  go_wp2
  go_ret
  exact ⟨ret_int (by unfold ptrOff; omega), rfl⟩
set_option maxRecDepth 100000 in
theorem r09Gen_any (p : Nat) (_hp : p < 18446744073709551616) : Calls Tryz.prog 101 #[.int .u64 p] w fun r w' => r = .returned (.int .u16 (ptrGen p)) ∧ w = w' := by
  go_enter Tryz.func101, Tryz.ntmps101
  go_wp2
  go_ret
  exact ⟨ret_int (by unfold ptrGen; first | omega | (rw [IntKind.wrap_u16]; omega)), rfl⟩
set_option maxRecDepth 100000 in
theorem r09Kind_any (p : Nat) (_hp : p < 18446744073709551616) : Calls Tryz.prog 102 #[.int .u64 p] w fun r w' => r = .returned (.int .u8 (ptrKind p)) ∧ w = w' := by
  go_enter Tryz.func102, Tryz.ntmps102
  go_wp2
  go_ret
  exact ⟨ret_int (by unfold ptrKind; first | omega | (rw [IntKind.wrap_u8]; omega)), rfl⟩
/-- Make's answer. -/
def r09P (o g k : Nat) : Nat × Nat := if o = 0 ∨ g = 0 ∨ k = 0 ∨ 127 < k then (0, 1) else (o / 8 + g * 4294967296 + k * 281474976710656, 0)
set_option maxRecDepth 100000 in
set_option maxHeartbeats 1000000 in
theorem r09Make_any (o g k : Nat) (h8 : o % 8 = 0) (ho : o < 34359738368) (hg : g < 65536) (hk : k < 256) :
    Calls Tryz.prog 100 #[.int .u64 o, .int .u16 g, .int .u8 k] w fun r w' => r = .returned (.tuple #[.int .u64 (r09P o g k).1, .int .i64 (r09P o g k).2]) ∧ w = w' := by
  have b8 : (((o : Int) % 8) != 0) = false := by simp; omega
  have hb : ¬ (4294967296 : Int) ≤ (o : Int) / 8 := by omega
  by_cases h1 : o = 0
  · have e : r09P o g k = (0, 1) := by unfold r09P; rw [if_pos (.inl h1)]
    have b1 : ((o : Int) == 0) = true := by simp; omega
    rw [e]; clear e h1
    go_enter Tryz.func100, Tryz.ntmps100
    go_wp2
    go_ret2
    exact ⟨rfl, rfl⟩
  have b1 : ((o : Int) == 0) = false := by simp; omega
  by_cases h2 : g = 0
  · have e : r09P o g k = (0, 1) := by unfold r09P; rw [if_pos (.inr (.inl h2))]
    have b2 : ((g : Int) == 0) = true := by simp; omega
    rw [e]; clear e h1 h2
    go_enter Tryz.func100, Tryz.ntmps100
    go_wp2
    go_ret2
    exact ⟨rfl, rfl⟩
  have b2 : ((g : Int) == 0) = false := by simp; omega
  by_cases h3 : k = 0
  · have e : r09P o g k = (0, 1) := by unfold r09P; rw [if_pos (.inr (.inr (.inl h3)))]
    have b3 : ((k : Int) == 0) = true := by simp; omega
    rw [e]; clear e h1 h2 h3
    go_enter Tryz.func100, Tryz.ntmps100
    go_wp2
    go_ret2
    exact ⟨rfl, rfl⟩
  have b3 : ((k : Int) == 0) = false := by simp; omega
  by_cases h4 : 127 < k
  · have e : r09P o g k = (0, 1) := by unfold r09P; rw [if_pos (.inr (.inr (.inr h4)))]
    have b4 : (127 : Int) < k := by omega
    rw [e]; clear e h1 h2 h3 h4
    go_enter Tryz.func100, Tryz.ntmps100
    go_wp2
    go_ret2
    exact ⟨rfl, rfl⟩
  · have e : r09P o g k = (o / 8 + g * 4294967296 + k * 281474976710656, 0) := by unfold r09P; rw [if_neg (by omega)]
    have b4 : ¬ (127 : Int) < k := by omega
    rw [e]; clear e h1 h2 h3 h4
    go_enter Tryz.func100, Tryz.ntmps100
    go_wp2
    go_ret2
    exact ⟨by congr 3, rfl⟩
set_option maxRecDepth 100000 in
set_option maxHeartbeats 1000000 in
theorem r09Formed_any (p : Nat) (hp : p < 18446744073709551616) : Calls Tryz.prog 58 #[.int .u64 p] w fun r w' => r = .returned (.bool (ptrFormed p)) ∧ w = w' := by
  have HO := Lib.hid (r09Off_any (w := w) p hp); have HG := Lib.hid (r09Gen_any (w := w) p hp); have HK := Lib.hid (r09Kind_any (w := w) p hp)
  have h1 : ptrOff p = p % 4294967296 * 8 := rfl
  have h2 : ptrGen p = p / 4294967296 % 65536 := rfl
  have h3 : ptrKind p = p / 281474976710656 % 256 := rfl
  have HM := Lib.hid (r09Make_any (w := w) (ptrOff p) (ptrGen p) (ptrKind p) (by omega) (by omega) (by omega) (by omega))
  by_cases hb : ptrOff p = 0 ∨ ptrGen p = 0 ∨ ptrKind p = 0 ∨ 127 < ptrKind p
  · have e : r09P (ptrOff p) (ptrGen p) (ptrKind p) = (0, 1) := by unfold r09P; rw [if_pos hb]
    have HF : Hid (ptrFormed p = false) := by show ptrFormed p = false; unfold ptrFormed; rw [decide_eq_false_iff_not]; omega
    rw [e] at HM; clear e hb h1 h2 h3
    generalize ptrOff p = o at *
    generalize ptrGen p = g at *
    generalize ptrKind p = k at *
    rw [HF.out]
    go_enter Tryz.func58, Tryz.ntmps58
    go_wp2_with (first | (go_at_call 59; (with_reducible refine HO.out.mono ?_); rintro e w' ⟨rfl, rfl⟩) | (go_at_call 101; (with_reducible refine HG.out.mono ?_); rintro e w' ⟨rfl, rfl⟩) | (go_at_call 102; (with_reducible refine HK.out.mono ?_); rintro e w' ⟨rfl, rfl⟩) | (go_at_call 100; (with_reducible refine HM.out.mono ?_); rintro e w' ⟨rfl, rfl⟩))
    go_ret
    exact ⟨rfl, rfl⟩
  · have e : r09P (ptrOff p) (ptrGen p) (ptrKind p) = (p % 72057594037927936, 0) := by
      unfold r09P; rw [if_neg hb]
      have : ptrOff p / 8 + ptrGen p * 4294967296 + ptrKind p * 281474976710656 = p % 72057594037927936 := by omega
      rw [this]
    have HF : Hid (ptrFormed p = decide (p = p % 72057594037927936)) := by show ptrFormed p = _; unfold ptrFormed; rw [decide_eq_decide]; omega
    rw [e] at HM; clear e hb h1 h2 h3
    generalize ptrOff p = o at *
    generalize ptrGen p = g at *
    generalize ptrKind p = k at *
    rw [HF.out]
    by_cases hq : p = p % 72057594037927936
    · have bq : ((p : Int) == ((p % 72057594037927936 : Nat) : Int)) = true := by simp; omega
      have HD : Hid (decide (p = p % 72057594037927936) = true) := decide_eq_true hq
      rw [HD.out]
      clear hq
      generalize p % 72057594037927936 = q at *
      go_enter Tryz.func58, Tryz.ntmps58
      go_wp2_with (first | (go_at_call 59; (with_reducible refine HO.out.mono ?_); rintro e w' ⟨rfl, rfl⟩) | (go_at_call 101; (with_reducible refine HG.out.mono ?_); rintro e w' ⟨rfl, rfl⟩) | (go_at_call 102; (with_reducible refine HK.out.mono ?_); rintro e w' ⟨rfl, rfl⟩) | (go_at_call 100; (with_reducible refine HM.out.mono ?_); rintro e w' ⟨rfl, rfl⟩))
      go_ret
      exact ⟨rfl, rfl⟩
    · have bq : ((p : Int) == ((p % 72057594037927936 : Nat) : Int)) = false := by simp; omega
      have HD : Hid (decide (p = p % 72057594037927936) = false) := decide_eq_false hq
      rw [HD.out]
      clear hq
      generalize p % 72057594037927936 = q at *
      go_enter Tryz.func58, Tryz.ntmps58
      go_wp2_with (first | (go_at_call 59; (with_reducible refine HO.out.mono ?_); rintro e w' ⟨rfl, rfl⟩) | (go_at_call 101; (with_reducible refine HG.out.mono ?_); rintro e w' ⟨rfl, rfl⟩) | (go_at_call 102; (with_reducible refine HK.out.mono ?_); rintro e w' ⟨rfl, rfl⟩) | (go_at_call 100; (with_reducible refine HM.out.mono ?_); rintro e w' ⟨rfl, rfl⟩))
      go_ret
      exact ⟨rfl, rfl⟩
end
end Go.Proofs.YtgdcjedcinapdaaGreat

/- The reference's Valid. -/
namespace Go.Proofs.YtgdcjedcinapdaaGreat
open Go.RowKit

/-- The slice value sv reads as the words W of a node, whatever they are. -/
structure RefW (w : World) (sv : Value) (W : Nat → Int) : Prop where
  rd : RdSl w 1 sv 28 (intsU (listW W))
  bd : ∀ i, i < 28 → 0 ≤ W i ∧ W i < 18446744073709551616
section
variable {w : World} {sv : Value} {W : Nat → Int}
theorem RefW.below {w' : World} (h : RefW w sv W) (hb : Below w.heap.size w w') : RefW w' sv W := ⟨h.rd.below hb, h.bd⟩
theorem RefW.drewN (h : RefW w sv W) (n : Nat) : RefW (w.drewN n) sv W := ⟨h.rd.drewN n, h.bd⟩
theorem RefW.qt {w' : World} (h : RefW w sv W) (q : Qt w w') : RefW w' sv W := by obtain ⟨n, rfl⟩ := q; exact h.drewN n
theorem RefW.slice (h : RefW w sv W) : ∃ b o c, sv = .slice (some ⟨b, o, none⟩) 28 c ∧ 28 ≤ c ∧ ∀ i, i < 28 → w.cell? ⟨b, o + i, none⟩ = some (.int .u64 (W i)) := by
  obtain ⟨b, o, c, rfl, hc, hx⟩ := rd_some h.rd (by simp [intsU, listW])
  exact ⟨b, o, c, rfl, hc, fun i hi => hx i _ (by simp [intsU, listW, hi])⟩
theorem RefW.x (h : RefW w sv W) : W 0 = ((W 0).toNat : Nat) ∧ (W 0).toNat < 18446744073709551616 := by have := h.bd 0 (by omega); omega
set_option maxRecDepth 100000 in
set_option maxHeartbeats 1000000 in
theorem refLenW (h : RefW w sv W) : Calls Tryz.prog 57 #[sv] w fun r w' => r = .returned (.int .i64 ((W 0).toNat % 16 : Nat)) ∧ w = w' := by
  obtain ⟨b, o, c, rfl, hc, hx⟩ := h.slice
  have c0 := hx 0 (by omega)
  have hX := h.x
  rw [Nat.add_zero] at c0
  generalize (W 0).toNat = x at *
  rw [hX.1] at c0
  have hl := hX.2
  clear hx h hX
  go_enter Tryz.func57, Tryz.ntmps57
  go_wp2_with fail
  go_ret
  exact ⟨ret_int (by omega), rfl⟩
set_option maxRecDepth 100000 in
set_option maxHeartbeats 1000000 in
theorem refSlotW (h : RefW w sv W) (i : Nat) (hi : i < 1000) : Calls Tryz.prog 60 #[sv, .int .i64 i] w fun r w' => r = .returned (.int .i64 (Go.Proofs.YtgdcjedcinapdaaGreat.nib (W 0).toNat i : Nat)) ∧ w = w' := by
  obtain ⟨b, o, c, rfl, hc, hx⟩ := h.slice
  have c0 := hx 0 (by omega)
  have hX := h.x
  rw [Nat.add_zero] at c0
  generalize (W 0).toNat = x at *
  rw [hX.1] at c0
  have hl := hX.2
  clear hx h hX
  go_enter Tryz.func60, Tryz.ntmps60
  go_wp2_with fail
  go_loop [5, 6] (fun y k => ∃ m : Nat, m ≤ i + 1 ∧ k = .int .i64 m ∧ y = .int .u64 (x / 16 ^ m : Nat)) (fun _ k => i + 1 - (intOf k).toNat)
  case atStart => exact ⟨0, by omega, rfl, by simp⟩
  case round =>
    obtain ⟨m, hm, rfl, rfl⟩ := hrel
    have hxm : x / 16 ^ m ≤ x := Nat.div_le_self _ _
    have hsucc : x / 16 ^ (m + 1) = x / 16 ^ m / 16 := by rw [Nat.pow_succ, Nat.div_div_eq_div_mul]
    have HS := Lib.hid hsucc; clear hsucc
    have HE := Lib.hid (nib_div x i)
    by_cases hlt : m ≤ i
    · have hlt' : (m : Int) ≤ i := by omega
      generalize x / 16 ^ m = y at *
      go_wp2_with fail
      go_round
      case rel => exact ⟨m + 1, by omega, by go_num, by rw [HS.out]; congr 1⟩
      case measure => simp [intOf]; omega
    · obtain rfl : m = i + 1 := by omega
      have hlt' : ¬ ((i + 1 : Nat) : Int) ≤ i := by omega
      generalize x / 16 ^ (i + 1) = y at *
      go_wp2_with fail
      go_ret
      exact ⟨ret_int (by rw [← HE.out]; omega), rfl⟩
set_option maxRecDepth 100000 in
set_option maxHeartbeats 1000000 in
theorem refKeyW (h : RefW w sv W) (i : Nat) (hi : i < 1000) (hn : Go.Proofs.YtgdcjedcinapdaaGreat.nib (W 0).toNat i < 12) : Calls Tryz.prog 61 #[sv, .int .i64 i] w fun r w' => r = .returned (.int .u64 (W (4 + Go.Proofs.YtgdcjedcinapdaaGreat.nib (W 0).toNat i))) ∧ w = w' := by
  have HS := Lib.hid (refSlotW h i hi)
  obtain ⟨b, o, c, rfl, hc, hx⟩ := h.slice
  generalize Go.Proofs.YtgdcjedcinapdaaGreat.nib (W 0).toNat i = s at *
  have c0 := hx (4 + s) (by omega)
  clear hx h
  go_enter Tryz.func61, Tryz.ntmps61
  go_wp2_with (go_at_call 60; (with_reducible refine HS.out.mono ?_); rintro e w' ⟨rfl, rfl⟩)
  go_ret
  exact ⟨rfl, rfl⟩
theorem refKeyW' (h : RefW w sv W) (i : Nat) (ii : Int) (hii : ii = (i : Nat)) (hi : i < 1000) (hn : Go.Proofs.YtgdcjedcinapdaaGreat.nib (W 0).toNat i < 12) : Calls Tryz.prog 61 #[sv, .int .i64 ii] w fun r w' => r = .returned (.int .u64 (W (4 + Go.Proofs.YtgdcjedcinapdaaGreat.nib (W 0).toNat i))) ∧ w = w' := by
  subst hii; exact refKeyW h i hi hn

/-- What the reference's Valid asks for. -/
structure RefOk (W : Nat → Int) (size : Nat) : Prop where
  n : (W 0).toNat % 16 ≤ 12
  w3 : W 3 ≤ 1
  w2 : W 3 = 0 → W 2 = 0
  w1 : W 1 = 0 ∨ ptrValid (W 1).toNat size = true
  nibs : ∀ i, i < 12 → goodNib (W 0).toNat ((W 0).toNat % 16) i
  keys : ∀ i, i < (W 0).toNat % 16 → (0 < i → W (4 + Go.Proofs.YtgdcjedcinapdaaGreat.nib (W 0).toNat (i - 1)) < W (4 + Go.Proofs.YtgdcjedcinapdaaGreat.nib (W 0).toNat i)) ∧ (W 3 = 1 → W (4 + Go.Proofs.YtgdcjedcinapdaaGreat.nib (W 0).toNat i) < W 2)
theorem slotsW_len (W : Nat → Int) : (slotsW W).length = (W 0).toNat % 16 := by simp [slotsW, slotsN]
theorem slotsW_at (W : Nat → Int) (i : Nat) (hi : i < (W 0).toNat % 16) : (slotsW W)[i]? = some (Go.Proofs.YtgdcjedcinapdaaGreat.nib (W 0).toNat i) := by simp [slotsW, slotsN, hi]
theorem keyAt_nib (W : Nat → Int) (i : Nat) (hi : i < (W 0).toNat % 16) : keyAt W (slotsW W) i = W (4 + Go.Proofs.YtgdcjedcinapdaaGreat.nib (W 0).toNat i) := by
  unfold keyAt; rw [List.getD, slotsW_at W i hi]; rfl
theorem refOk_iff (W : Nat → Int) (size : Nat) (hb : ∀ i, i < 28 → 0 ≤ W i ∧ W i < 18446744073709551616) : RefOk W size ↔ nodeOk W size := by
  constructor
  · intro h
    have h3 := (hb 3 (by omega)).1
    refine ⟨⟨h.n, h.nibs⟩, ?_, ?_, h.w1⟩
    · intro i h0 hi
      rw [slotsW_len] at hi
      rw [keyAt_nib W i hi, keyAt_nib W (i - 1) (by omega)]
      exact (h.keys i hi).1 h0
    · have := h.w3
      by_cases h0 : W 3 = 0
      · exact .inl ⟨h0, h.w2 h0⟩
      · refine .inr ⟨by omega, fun hl => ?_⟩
        rw [slotsW_len] at hl ⊢
        rw [keyAt_nib W _ (by omega)]
        exact (h.keys _ (by omega)).2 (by omega)
  · intro h
    have hg := ok_good h
    obtain ⟨⟨h1, h2⟩, h3, h4, h5⟩ := h
    refine ⟨h1, ?_, ?_, h5, h2, fun i hi => ⟨fun h0 => ?_, fun e => ?_⟩⟩
    · rcases h4 with h4 | h4 <;> omega
    · rcases h4 with h4 | h4 <;> omega
    · have := h3 i h0 (by rw [slotsW_len]; exact hi)
      rwa [keyAt_nib W i hi, keyAt_nib W (i - 1) (by omega)] at this
    · rcases hg.bd with hb | ⟨_, hb⟩
      · omega
      · exact hb _ (List.mem_of_getElem? (slotsW_at W i hi))

/-- A bool that tells whether p holds; draws alone. -/
theorem boolNo {p : Prop} {wx : World} (h : ¬ p) (q : Qt w wx) : BoolPost w p (.returned (.bool false)) wx := ⟨false, rfl, by simp [h], q⟩
theorem boolYes {p : Prop} {wx : World} (h : p) (q : Qt w wx) : BoolPost w p (.returned (.bool true)) wx := ⟨true, rfl, by simp [h], q⟩
end
end Go.Proofs.YtgdcjedcinapdaaGreat

/- The walk of the reference's Valid. -/
namespace Go.Proofs.YtgdcjedcinapdaaGreat
open Go.RowKit

section
variable {w : World} {sv : Value} {W : Nat → Int}
def NibsTo (x n i : Nat) : Prop := ∀ j, j < i → goodNib x n j
def KeysTo (W : Nat → Int) (x i : Nat) : Prop := ∀ j, j < i → (0 < j → W (4 + Go.Proofs.YtgdcjedcinapdaaGreat.nib x (j - 1)) < W (4 + Go.Proofs.YtgdcjedcinapdaaGreat.nib x j)) ∧ (W 3 = 1 → W (4 + Go.Proofs.YtgdcjedcinapdaaGreat.nib x j) < W 2)
def NoTwin (x i k : Nat) : Prop := ∀ j, j < k → Go.Proofs.YtgdcjedcinapdaaGreat.nib x j ≠ Go.Proofs.YtgdcjedcinapdaaGreat.nib x i
set_option maxRecDepth 100000 in
set_option maxHeartbeats 8000000 in
theorem refValid_any (h : RefW w sv W) (size : Nat) : Calls Tryz.prog 13 #[sv, .int .u64 size] w (BoolPost w (RefOk W size)) := by
  have HS := Lib.hid (fun i (hi : i < 1000) => refSlotW h i hi)
  have HKY := Lib.hid (fun wx (hx : Qt w wx) (i : Nat) (ii : Int) (hii : ii = (i : Nat)) (hi : i < 1000) => refKeyW' (h.qt hx) i ii hii hi)
  have HCL := Lib.hid (fun wx (hx : Qt w wx) => h.qt hx)
  have HL := Lib.hid (refLenW h)
  have B := Lib.hid h.bd
  obtain ⟨b, o, c, rfl, hc, hx⟩ := h.slice
  have c1 := hx 1 (by omega); have c2 := hx 2 (by omega); have c3 := hx 3 (by omega)
  have hb1 := h.bd 1 (by omega); have hb2 := h.bd 2 (by omega); have hb3 := h.bd 3 (by omega)
  clear hx h
  obtain ⟨p1, hp1⟩ : ∃ p : Nat, W 1 = p := ⟨(W 1).toNat, by omega⟩
  have hp1' : (W 1).toNat = p1 := by omega
  have HF := Lib.hid (r09Formed_any (w := w) p1 (by omega)); have HO := Lib.hid (r09Off_any (w := w) p1 (by omega))
  have HP1 := Lib.hid (And.intro hp1 hp1')
  rw [hp1] at c1
  clear hp1 hp1' hb1
  have HX : Hid (∀ i, Go.Proofs.YtgdcjedcinapdaaGreat.nib (W 0).toNat i < 16) := fun i => nib_lt _ _
  by_cases hA : 12 < (W 0).toNat % 16
  · have HN : Hid (¬ RefOk W size) := fun h => by have := h.n; omega
    generalize (W 0).toNat % 16 = n at *
    have hA' : (12 : Int) < n := by omega
    go_enter Tryz.func13, Tryz.ntmps13
    go_wp2_with (go_at_call 57; (with_reducible refine HL.out.mono ?_); rintro e w' ⟨rfl, rfl⟩)
    go_ret
    exact boolNo HN.out (Qt.refl _)
  by_cases hB : 1 < W 3
  · have HN : Hid (¬ RefOk W size) := fun h => by have := h.w3; omega
    generalize (W 0).toNat % 16 = n at *
    have hA' : ¬ (12 : Int) < n := by omega
    go_enter Tryz.func13, Tryz.ntmps13
    go_wp2_with (go_at_call 57; (with_reducible refine HL.out.mono ?_); rintro e w' ⟨rfl, rfl⟩)
    go_ret
    exact boolNo HN.out (Qt.refl _)
  by_cases hC : W 3 = 0 ∧ W 2 ≠ 0
  · have HN : Hid (¬ RefOk W size) := fun h => hC.2 (h.w2 hC.1)
    generalize (W 0).toNat % 16 = n at *
    have hA' : ¬ (12 : Int) < n := by omega
    have e3 : (W 3 == 0) = true := by simp [hC.1]
    have e2 : (W 2 != 0) = true := by simp [hC.2]
    clear hC
    go_enter Tryz.func13, Tryz.ntmps13
    go_wp2_with (go_at_call 57; (with_reducible refine HL.out.mono ?_); rintro e w' ⟨rfl, rfl⟩)
    go_ret
    exact boolNo HN.out (Qt.refl _)
  have hC' : (W 3 == 0) = true ∧ (W 2 != 0) = false ∨ (W 3 == 0) = false := by
    by_cases h : W 3 = 0
    · exact .inl ⟨by simp [h], by simpa using fun h2 => hC ⟨h, h2⟩⟩
    · exact .inr (by simp [h])
  have HC : Hid (W 3 = 0 → W 2 = 0) := fun h => Classical.byContradiction (fun h2 => hC ⟨h, h2⟩)
  clear hC
  by_cases hD : p1 ≠ 0 ∧ ptrValid p1 size = false
  · have HN : Hid (¬ RefOk W size) := fun h => by
      rcases h.w1 with h | h
      · rw [HP1.out.1] at h; omega
      · rw [HP1.out.2, hD.2] at h; cases h
    have e1 : ((p1 : Int) != 0) = true := by simp; omega
    have hV := hD.2
    unfold ptrValid at hV
    clear hD HX
    generalize (W 0).toNat % 16 = n at *
    have hA' : ¬ (12 : Int) < n := by omega
    generalize ptrFormed p1 = f1 at *
    generalize ptrOff p1 = o1 at *
    cases f1
    · clear hV
      rcases hC' with ⟨e3, e2⟩ | e3
      all_goals
        go_enter Tryz.func13, Tryz.ntmps13
        go_wp2_with (first | (go_at_call 57; (with_reducible refine HL.out.mono ?_); rintro e w' ⟨rfl, rfl⟩) | (go_at_call 58; (with_reducible refine HF.out.mono ?_); rintro e w' ⟨rfl, rfl⟩))
        go_ret
        exact boolNo HN.out (Qt.refl _)
    · have ho : (size : Int) ≤ o1 := by simpa using hV
      clear hV
      rcases hC' with ⟨e3, e2⟩ | e3
      all_goals
        go_enter Tryz.func13, Tryz.ntmps13
        go_wp2_with (first | (go_at_call 57; (with_reducible refine HL.out.mono ?_); rintro e w' ⟨rfl, rfl⟩) | (go_at_call 58; (with_reducible refine HF.out.mono ?_); rintro e w' ⟨rfl, rfl⟩) | (go_at_call 59; (with_reducible refine HO.out.mono ?_); rintro e w' ⟨rfl, rfl⟩))
        go_ret
        exact boolNo HN.out (Qt.refl _)
  have HD : Hid (W 1 = 0 ∨ ptrValid (W 1).toNat size = true) := by
    show W 1 = 0 ∨ ptrValid (W 1).toNat size = true
    rw [HP1.out.2, HP1.out.1]
    by_cases h : p1 = 0
    · exact .inl (by omega)
    · refine .inr ?_
      cases h2 : ptrValid p1 size
      · exact absurd ⟨h, h2⟩ hD
      · rfl
  have hD' : ((p1 : Int) != 0) = false ∨ ((p1 : Int) != 0) = true ∧ ptrFormed p1 = true ∧ ¬ (size : Int) ≤ ptrOff p1 := by
    by_cases h : p1 = 0
    · exact .inl (by simp [h])
    · refine .inr ⟨by simp [h], ?_⟩
      have : ptrValid p1 size = true := by
        cases h2 : ptrValid p1 size
        · exact absurd ⟨h, h2⟩ hD
        · rfl
      unfold ptrValid at this
      simp only [Bool.and_eq_true, decide_eq_true_eq] at this
      exact ⟨this.1, by omega⟩
  clear hD
  have HQ : Hid ((∀ i, i < 12 → goodNib (W 0).toNat ((W 0).toNat % 16) i) → KeysTo W (W 0).toNat ((W 0).toNat % 16) → RefOk W size) := fun h1 h2 => ⟨by omega, by omega, HC.out, HD.out, h1, h2⟩
  have HNO : Hid (∀ i, i < 12 → ¬ goodNib (W 0).toNat ((W 0).toNat % 16) i → ¬ RefOk W size) := fun i hi h1 h2 => h1 (h2.nibs i hi)
  have HNK : Hid (∀ i, i < (W 0).toNat % 16 → ¬ ((0 < i → W (4 + Go.Proofs.YtgdcjedcinapdaaGreat.nib (W 0).toNat (i - 1)) < W (4 + Go.Proofs.YtgdcjedcinapdaaGreat.nib (W 0).toNat i)) ∧ (W 3 = 1 → W (4 + Go.Proofs.YtgdcjedcinapdaaGreat.nib (W 0).toNat i) < W 2)) → ¬ RefOk W size) := fun i hi h1 h2 => h1 (h2.keys i hi)
  clear HC HD
  have hn16 : (W 0).toNat % 16 < 16 := Nat.mod_lt _ (by omega)
  generalize (W 0).toNat = x at *
  generalize hn : x % 16 = n at *
  clear hn
  have hA' : ¬ (12 : Int) < n := by omega
  generalize ptrFormed p1 = f1 at *
  generalize ptrOff p1 = o1 at *
  go_enter Tryz.func13, Tryz.ntmps13
  go_upto_region 2 with (go_at_call 57; (with_reducible refine HL.out.mono ?_); rintro e w' ⟨rfl, rfl⟩)
  go_cut [51] (fun t wx => t = .bool false ∧ w = wx)
  case first =>
    rcases hC' with ⟨e3, e2⟩ | e3
    all_goals rcases hD' with e1 | ⟨e1, rfl, ho⟩
    all_goals
      go_wp2_with (first | (go_at_call 58; (with_reducible refine HF.out.mono ?_); rintro e w' ⟨rfl, rfl⟩) | (go_at_call 59; (with_reducible refine HO.out.mono ?_); rintro e w' ⟨rfl, rfl⟩))
      go_meet
      exact ⟨by simp; omega, rfl⟩
  case rest =>
  obtain ⟨rfl, rfl⟩ := hcut
  clear HF HO HL hC' hD' HP1
  go_wp2_with fail
  go_loop [6] (fun y => ∃ i : Nat, i ≤ 12 ∧ y = .int .i64 i ∧ NibsTo x n i) (fun y => 12 - (intOf y).toNat)
  case atStart => exact ⟨0, by omega, rfl, fun j hj => by omega⟩
  case round =>
    obtain ⟨i, hi, rfl, hto⟩ := hrel
    have HTO := Lib.hid hto; clear hto
    by_cases hlt : i < 12
    · have hlt' : (i : Int) < 12 := by omega
      have hs16 := HX.out i
      have HSi := Lib.hid (HS.out i (by omega))
      by_cases hin : n ≤ i
      · have hin' : (n : Int) ≤ i := by omega
        by_cases hz : Go.Proofs.YtgdcjedcinapdaaGreat.nib x i = 0
        · have HZ : Hid (NibsTo x n (i + 1)) := fun j hj => by
            by_cases e : j = i
            · subst e; exact ⟨fun _ => hz, fun h => by omega⟩
            · exact HTO.out j (by omega)
          rw [hz] at HSi
          clear hz
          go_wp2_with (go_at_call 60; (with_reducible refine HSi.out.mono ?_); rintro e w' ⟨rfl, rfl⟩)
          go_round
          case rel => exact ⟨i + 1, by omega, by go_num, HZ.out⟩
          case measure => simp [intOf]; omega
        · have HN : Hid (¬ RefOk W size) := HNO.out i hlt (fun h => hz (h.1 hin))
          generalize Go.Proofs.YtgdcjedcinapdaaGreat.nib x i = s at *
          have hz' : ((s : Int) != 0) = true := by simp; omega
          clear hz
          go_wp2_with (go_at_call 60; (with_reducible refine HSi.out.mono ?_); rintro e w' ⟨rfl, rfl⟩)
          go_ret
          exact boolNo HN.out (Qt.refl _)
      · have hin' : ¬ (n : Int) ≤ i := by omega
        by_cases h12 : 12 ≤ Go.Proofs.YtgdcjedcinapdaaGreat.nib x i
        · have HN : Hid (¬ RefOk W size) := HNO.out i hlt (fun h => by have := (h.2 (by omega)).1; omega)
          generalize Go.Proofs.YtgdcjedcinapdaaGreat.nib x i = s at *
          have h12' : (12 : Int) ≤ s := by omega
          go_wp2_with (go_at_call 60; (with_reducible refine HSi.out.mono ?_); rintro e w' ⟨rfl, rfl⟩)
          go_ret
          exact boolNo HN.out (Qt.refl _)
        · have HNT : Hid (NoTwin x i i → NibsTo x n (i + 1)) := fun h j hj => by
            by_cases e : j = i
            · subst e; exact ⟨fun h => by omega, fun _ => ⟨by omega, h⟩⟩
            · exact HTO.out j (by omega)
          have HNX : Hid (∀ k, k < i → Go.Proofs.YtgdcjedcinapdaaGreat.nib x k = Go.Proofs.YtgdcjedcinapdaaGreat.nib x i → ¬ RefOk W size) := fun k hk e => HNO.out i hlt (fun h => (h.2 (by omega)).2 k hk e)
          have HNW : Hid (∀ k, NoTwin x i k → Go.Proofs.YtgdcjedcinapdaaGreat.nib x k ≠ Go.Proofs.YtgdcjedcinapdaaGreat.nib x i → NoTwin x i (k + 1)) := fun k h1 h2 j hj => by
            by_cases e : j = k
            · subst e; exact h2
            · exact h1 j (by omega)
          generalize hsi : Go.Proofs.YtgdcjedcinapdaaGreat.nib x i = s at *
          clear hsi
          have h12' : ¬ (12 : Int) ≤ s := by omega
          go_wp2_with (go_at_call 60; (with_reducible refine HSi.out.mono ?_); rintro e w' ⟨rfl, rfl⟩)
          go_loop [7] (fun y => ∃ k : Nat, k ≤ i ∧ y = .int .i64 k ∧ NoTwin x i k) (fun y => i - (intOf y).toNat)
          case atStart => exact ⟨0, by omega, rfl, fun j hj => by omega⟩
          case round =>
            obtain ⟨k, hk, rfl, htw⟩ := hrel
            have HTW := Lib.hid htw; clear htw
            by_cases hki : k < i
            · have hki' : (k : Int) < i := by omega
              have HSk := Lib.hid (HS.out k (by omega))
              by_cases he : Go.Proofs.YtgdcjedcinapdaaGreat.nib x k = s
              · have HN : Hid (¬ RefOk W size) := HNX.out k hki he
                rw [he] at HSk
                clear he
                go_wp2_with (first | (go_at_call 60; (with_reducible refine HSk.out.mono ?_); rintro e w' ⟨rfl, rfl⟩) | (go_at_call 60; (with_reducible refine HSi.out.mono ?_); rintro e w' ⟨rfl, rfl⟩))
                go_ret
                exact boolNo HN.out (Qt.refl _)
              · have HW2 := Lib.hid (HNW.out k HTW.out he)
                generalize Go.Proofs.YtgdcjedcinapdaaGreat.nib x k = t at *
                have he' : ((t : Int) == (s : Int)) = false := by simp; omega
                clear he
                go_wp2_with (first | (go_at_call 60; (with_reducible refine HSk.out.mono ?_); rintro e w' ⟨rfl, rfl⟩) | (go_at_call 60; (with_reducible refine HSi.out.mono ?_); rintro e w' ⟨rfl, rfl⟩))
                go_round
                case rel => exact ⟨k + 1, by omega, by go_num, HW2.out⟩
                case measure => simp [intOf]; omega
            · obtain rfl : k = i := by omega
              have HZ := Lib.hid (HNT.out HTW.out)
              go_wp2_with fail
              go_round
              case rel => exact ⟨k + 1, by omega, by go_num, HZ.out⟩
              case measure => simp [intOf]; omega
    · obtain rfl : i = 12 := by omega
      rw [show ((12 : Nat) : Int) = 12 from rfl]
      clear HNO
      have h12 : Hid (∀ j, j < n → Go.Proofs.YtgdcjedcinapdaaGreat.nib x j < 12) := fun j hj => ((HTO.out j (by omega)).2 hj).1
      have HFIN : Hid (KeysTo W x n → RefOk W size) := fun h => HQ.out HTO.out h
      clear HQ HTO
      go_wp2_with fail
      go_loopw [8] (fun y wr => ∃ i : Nat, i ≤ n ∧ y = .int .i64 i ∧ KeysTo W x i ∧ Qt w wr) (fun y _ => n - (intOf y).toNat)
      case atStart => exact ⟨0, by omega, rfl, fun j hj => by omega, Qt.refl _⟩
      case round =>
        obtain ⟨i, hi, rfl, hto, hq⟩ := hrel
        have HTO := Lib.hid hto; have HQ' := Lib.hid hq; clear hto hq
        obtain ⟨b', o', c', hsl, _, hcl⟩ := (HCL.out wr HQ'.out).slice
        cases hsl
        have d2 := hcl 2 (by omega); have d3 := hcl 3 (by omega)
        clear hcl
        by_cases hin : i < n
        · have hin' : (i : Int) < n := by omega
          have HB := Lib.hid (fun wx (hx : Qt wr wx) => HKY.out wx (HQ'.out.trans hx) i (i : Int) rfl (by omega) (h12.out i hin))
          have HST : Hid ((0 < i → W (4 + Go.Proofs.YtgdcjedcinapdaaGreat.nib x (i - 1)) < W (4 + Go.Proofs.YtgdcjedcinapdaaGreat.nib x i)) → (W 3 = 1 → W (4 + Go.Proofs.YtgdcjedcinapdaaGreat.nib x i) < W 2) → KeysTo W x (i + 1)) := fun h1 h2 j hj => by
            by_cases e : j = i
            · subst e; exact ⟨h1, h2⟩
            · exact HTO.out j (by omega)
          have HNI := Lib.hid (HNK.out i hin)
          by_cases hi0 : 0 < i
          · have hi0' : (0 : Int) < i := by omega
            have y1 : IntKind.i64.wrap ((i : Int) - 1) = (i : Int) - 1 := IntWalk.i64_in _ (by omega)
            have HA := Lib.hid (fun wx (hx : Qt wr wx) => HKY.out wx (HQ'.out.trans hx) (i - 1) ((i : Int) - 1) (by omega) (by omega) (h12.out (i - 1) (by omega)))
            generalize W (4 + Go.Proofs.YtgdcjedcinapdaaGreat.nib x (i - 1)) = ka at *
            generalize W (4 + Go.Proofs.YtgdcjedcinapdaaGreat.nib x i) = kb at *
            by_cases hab : kb ≤ ka
            · have HN : Hid (¬ RefOk W size) := HNI.out (fun h => by have := h.1 hi0; omega)
              have db : decide (kb ≤ ka) = true := decide_eq_true hab
              go_wp2_with fail
              go_quiet (first | (go_at_call 61; (with_reducible exact quiet_eq (HA.out _ (Qt.drewN _ _)))) | (go_at_call 61; (with_reducible exact quiet_eq (HB.out _ (Qt.drewN _ _)))))
              go_wp2_with fail
              go_ret
              exact boolNo HN.out (HQ'.out.trans (Qt.drewN _ _))
            · have db : decide (kb ≤ ka) = false := decide_eq_false hab
              by_cases h3 : W 3 = 1
              · have e3 : (W 3 == 1) = true := by simp [h3]
                by_cases hk2 : W 2 ≤ kb
                · have HN : Hid (¬ RefOk W size) := HNI.out (fun h => by have := h.2 h3; omega)
                  have dk : decide (W 2 ≤ kb) = true := decide_eq_true hk2
                  clear h3
                  go_wp2_with fail
                  go_quiet (first | (go_at_call 61; (with_reducible exact quiet_eq (HA.out _ (Qt.drewN _ _)))) | (go_at_call 61; (with_reducible exact quiet_eq (HB.out _ (Qt.drewN _ _)))))
                  go_wp2_with fail
                  go_ret
                  exact boolNo HN.out (HQ'.out.trans (Qt.drewN _ _))
                · have HZ := Lib.hid (HST.out (fun _ => by omega) (fun _ => by omega))
                  have dk : decide (W 2 ≤ kb) = false := decide_eq_false hk2
                  clear h3
                  go_wp2_with fail
                  go_quiet (first | (go_at_call 61; (with_reducible exact quiet_eq (HA.out _ (Qt.drewN _ _)))) | (go_at_call 61; (with_reducible exact quiet_eq (HB.out _ (Qt.drewN _ _)))))
                  go_wp2_with fail
                  go_roundw
                  case rel => exact ⟨i + 1, by omega, by go_num, HZ.out, HQ'.out.trans (Qt.drewN _ _)⟩
                  case measure => simp [intOf]; omega
              · have e3 : (W 3 == 1) = false := by simp [h3]
                have HZ := Lib.hid (HST.out (fun _ => by omega) (fun h => absurd h h3))
                clear h3
                go_wp2_with fail
                go_quiet (first | (go_at_call 61; (with_reducible exact quiet_eq (HA.out _ (Qt.drewN _ _)))) | (go_at_call 61; (with_reducible exact quiet_eq (HB.out _ (Qt.drewN _ _)))))
                go_wp2_with fail
                go_roundw
                case rel => exact ⟨i + 1, by omega, by go_num, HZ.out, HQ'.out.trans (Qt.drewN _ _)⟩
                case measure => simp [intOf]; omega
          · have hi0' : ¬ (0 : Int) < i := by omega
            have di : decide ((0 : Int) < i) = false := decide_eq_false hi0'
            have dn : decide (0 < i) = false := decide_eq_false hi0
            generalize W (4 + Go.Proofs.YtgdcjedcinapdaaGreat.nib x i) = kb at *
            by_cases h3 : W 3 = 1
            · have e3 : (W 3 == 1) = true := by simp [h3]
              by_cases hk2 : W 2 ≤ kb
              · have HN : Hid (¬ RefOk W size) := HNI.out (fun h => by have := h.2 h3; omega)
                have dk : decide (W 2 ≤ kb) = true := decide_eq_true hk2
                clear h3
                go_wp2_with fail
                go_quiet ((go_at_call 61; (with_reducible exact quiet_eq (HB.out _ (Qt.drewN _ _)))))
                go_wp2_with fail
                go_ret
                exact boolNo HN.out (HQ'.out.trans (Qt.drewN _ _))
              · have HZ := Lib.hid (HST.out (fun h => absurd h hi0) (fun _ => by omega))
                have dk : decide (W 2 ≤ kb) = false := decide_eq_false hk2
                clear h3
                go_wp2_with fail
                go_quiet ((go_at_call 61; (with_reducible exact quiet_eq (HB.out _ (Qt.drewN _ _)))))
                go_wp2_with fail
                go_roundw
                case rel => exact ⟨i + 1, by omega, by go_num, HZ.out, HQ'.out.trans (Qt.drewN _ _)⟩
                case measure => simp [intOf]; omega
            · have e3 : (W 3 == 1) = false := by simp [h3]
              have HZ := Lib.hid (HST.out (fun h => absurd h hi0) (fun h => absurd h h3))
              clear h3
              go_wp2_with fail
              go_quiet ((go_at_call 61; (with_reducible exact quiet_eq (HB.out _ (Qt.drewN _ _)))))
              go_wp2_with fail
              go_roundw
              case rel => exact ⟨i + 1, by omega, by go_num, HZ.out, HQ'.out.trans (Qt.drewN _ _)⟩
              case measure => simp [intOf]; omega
        · have HZ : Hid (RefOk W size) := HFIN.out (by obtain rfl : i = n := by omega
                                                       exact HTO.out)
          go_wp2_with fail
          go_ret
          exact boolYes HZ.out HQ'.out
end
end Go.Proofs.YtgdcjedcinapdaaGreat

/- told, Same of instructions; the reference's find, last and Delete. -/
namespace Go.Proofs.YtgdcjedcinapdaaGreat
open Go.RowKit
attribute [local go_sem ↓] Go.wp_at_zero Go.wp_at_succ

theorem infoRI : (Tryz.prog.info? 148).map (fun i => (i.zero, i.size, i.bytes)) = some (some (.agg #[.int .u8 0, .int .u64 0, .int .u64 0]), 3, 24) := by kernel_rfl
/-- The reference's program and its error. -/
def RIPost (w : World) (l : List (Nat × Nat × Int)) (e : Nat) (r : Ending) (w' : World) : Prop :=
  ∃ ov, r = .returned (.tuple #[ov, .int .i64 e]) ∧ Acc w w.heap.size w' 148 3 ov l.length (instrC l)
section
variable {w : World}
set_option maxRecDepth 100000 in
set_option maxHeartbeats 2000000 in
theorem told_any (sv : Value) (l : List (Nat × Nat × Int)) (h : RdSl w 3 sv l.length (instrC l)) (hl : l.length ≤ 100000) :
    Calls Tryz.prog 30 #[sv] w fun r w' => ∃ ov, r = .returned ov ∧ Acc w w.heap.size w' 148 3 ov l.length (instrC l) := by
  have H := Lib.hid h
  obtain ⟨_, a, c, rfl, hc, _⟩ := h
  obtain ⟨k0, hi0, hz0, hz1, hz2⟩ := info_parts infoRI
  have I2 := Lib.hid (And.intro hi0 (And.intro hz0 (And.intro hz1 hz2))); clear hi0 hz0 hz1 hz2
  generalize hn : l.length = n at *
  have HN := Lib.hid hn; clear hn
  go_enter Tryz.func30, Tryz.ntmps30
  go_wp2_with fail
  go_loopw [3, 8] (fun ov y wr => ∃ k : Nat, k ≤ n ∧ y = .int .i64 k ∧ Acc w w.heap.size wr 148 3 ov k (instrC (l.take k))) (fun _ y _ => n - (intOf y).toNat)
  case atStart => exact ⟨0, by omega, rfl, Acc.nil w _ _ _ _ (Below.refl _ _) (Nat.le_refl _)⟩
  case round =>
    obtain ⟨k, hk, rfl, ha⟩ := hrel
    obtain ⟨oa, oc, rfl⟩ := ha.slice
    have A := Lib.hid ha; clear ha
    by_cases hlt2 : k < n
    · have hk' : (k : Int) < n := by omega
      obtain ⟨e, he⟩ : ∃ e, l[k]? = some e := ⟨_, List.getElem?_eq_getElem (by rw [HN.out]; exact hlt2)⟩
      obtain ⟨_, a', c', e', _, hE⟩ := H.out.below A.out.bel
      cases e'
      have hg := instrC_get l k e he
      obtain ⟨eb, eo, rfl, hE2⟩ := rd_at hE hg.1
      have c1 := hE2 _ _ hg.1; have c2 := hE2 _ _ hg.2.1; have c3 := hE2 _ _ hg.2.2
      rw [← Nat.add_assoc] at c2 c3
      have HT := Lib.hid (take_snocI l k e he)
      clear hE hE2 he hg
      obtain ⟨e1, e2, e3⟩ := e
      go_wp2_with (at_builtin; refine wpList_append_sl _ rfl _ _ 68 rfl 148 k0 _ 3 24 Tryz.underlying68 I2.out.1 I2.out.2.1 I2.out.2.2.1 I2.out.2.2.2 rfl (by decide) _ k (instrC (l.take k)) rfl (by exact (A.out.own.alloc _).alloc _) _ 1 (instrC [(e1, e2, e3)]) rfl (by exact RdSl.newAt _ _ _ 3 1 _ (by simp) rfl) (instrC_one _) (by unfold maxLen; omega) (by omega) ?_)
      intro v1 w1 o1 g1 b1 n1
      have A1 := Lib.hid (A.out.next (below_twice wr _ _) o1 g1 b1 (by omega)); clear o1 g1 b1 n1
      go_wp2_with fail
      go_roundw
      case rel => exact ⟨k + 1, by omega, by go_num, A1.out.congr rfl (by rw [HT.out, instrC_append])⟩
      case measure => simp [intOf]; omega
    · obtain rfl : k = n := by omega
      go_wp2_with fail
      go_ret
      exact ⟨_, rfl, A.out.congr rfl (by rw [List.take_of_length_le (by rw [HN.out]; omega)])⟩
set_option maxRecDepth 100000 in
set_option maxHeartbeats 2000000 in
/-- Same of two programs that are equal. -/
theorem r10Same_same (u v : Value) (l : List (Nat × Nat × Int)) (hx : RdSl w 3 u l.length (instrC l)) (hy : RdSl w 3 v l.length (instrC l)) (hl : l.length ≤ 100000) :
    Calls Tryz.prog 29 #[u, v] w fun r w' => r = .returned (.bool true) ∧ Below w.heap.size w w' := by
  obtain ⟨_, a, ca, rfl, hca, ha⟩ := hx
  obtain ⟨_, b, cb, rfl, hcb, hb⟩ := hy
  have HA := Lib.hid ha; have HB := Lib.hid hb; clear ha hb
  generalize hn1 : l.length = n at *
  have HN := Lib.hid hn1
  clear hn1
  have hbn : ((n : Int) != (n : Int)) = false := by simp
  go_enter Tryz.func29, Tryz.ntmps29
  go_wp2_with fail
  go_loopw [13] (fun i wr => ∃ k : Nat, k ≤ n ∧ i = .int .i64 k ∧ Qt w wr) (fun i _ => n - (intOf i).toNat)
  case atStart => exact ⟨0, by omega, rfl, Qt.refl w⟩
  case round =>
    obtain ⟨k, hk, rfl, q⟩ := hrel
    obtain ⟨nq, rfl⟩ := q
    by_cases hlt : k < n
    · obtain ⟨e, he⟩ : ∃ e, l[k]? = some e := ⟨_, List.getElem?_eq_getElem (by rw [HN.out]; exact hlt)⟩
      have hg := instrC_get l k e he
      obtain ⟨g1, o1, rfl, hc1⟩ := rd_at HA.out hg.1
      obtain ⟨g2, o2, rfl, hc2⟩ := rd_at HB.out hg.1
      have c1 := hc1 _ _ hg.1; have c2 := hc1 _ _ hg.2.1; have c3 := hc1 _ _ hg.2.2
      have d1 := hc2 _ _ hg.1; have d2 := hc2 _ _ hg.2.1; have d3 := hc2 _ _ hg.2.2
      rw [← Nat.add_assoc] at c2 d2 c3 d3
      have hk' : (k : Int) < n := by omega
      clear hc1 hc2 he hg
      obtain ⟨e1, e2, e3⟩ := e
      simp only at c1 c2 c3 d1 d2 d3
      have q1 : ((e1 : Int) == (e1 : Int)) = true := by simp
      have q2 : ((e2 : Int) == (e2 : Int)) = true := by simp
      have q3 : (e3 == e3) = true := by simp
      go_wp2_with fail
      go_quiet (fail)
      go_wp2_with fail
      go_roundw
      case rel => exact ⟨k + 1, by omega, by go_num, ⟨_, rfl⟩⟩
      case measure => simp [intOf]; omega
    · go_wp2_with fail
      go_ret
      exact ⟨rfl, (Qt.drewN w nq).below⟩
set_option maxRecDepth 100000 in
set_option maxHeartbeats 1000000 in
theorem reflast_any (off : Nat) (x : Int) : Calls Tryz.prog 77 #[.int .u64 off, .int .u64 x] w fun r w' => ∃ ov, r = .returned ov ∧ Acc w w.heap.size w' 148 3 ov (lastC off x).length (instrC (lastC off x)) := by
  go_enter Tryz.func77, Tryz.ntmps77
  go_wp2_with fail
  go_ret
  refine ⟨_, rfl, ?_⟩
  have h := OwnSl.new w (instrC (lastC off x)).toArray 148 3 3 3 rfl (Nat.le_refl _) (by unfold maxLen; omega)
  exact ⟨h, fun g hg => by cases hg; exact Nat.le_refl _, below_alloc _ _, by simp⟩
variable {sv : Value} {W : Nat → Int} {x : Nat}
def LowTo (W : Nat → Int) (x : Nat) (key : Int) (i : Nat) : Prop := ∀ j, j < i → W (4 + Go.Proofs.YtgdcjedcinapdaaGreat.nib x j) < key
theorem slotsN_at (x n i : Nat) (h : i < n) : (slotsN x n)[i]? = some (Go.Proofs.YtgdcjedcinapdaaGreat.nib x i) := by simp [slotsN, h]
theorem LowTo.idx {key : Int} {n i : Nat} (h : LowTo W x key i) (hi : i ≤ n) (hs : ∀ s, (slotsN x n)[i]? = some s → ¬ W (4 + s) < key) : findIdx W key (slotsN x n) = i := by
  refine findIdx_eq W key _ i (by simpa [slotsN] using hi) (fun j s hj hs => ?_) hs
  rw [slotsN_at x n j (by omega)] at hs
  cases hs; exact h j hj
set_option maxRecDepth 100000 in
set_option maxHeartbeats 2000000 in
theorem reffind_any (h : RefIn w sv W x) (key : Int) : Calls Tryz.prog 75 #[sv, .int .u64 key] w
    fun r w' => r = .returned (.tuple #[.int .i64 (findIdx W key (slotsN x (x % 16)) : Nat), .bool (foundB W key (slotsN x (x % 16)))]) ∧ w = w' := by
  have HL := Lib.hid (refLen_any h)
  have HK := Lib.hid (fun i (hi : i < x % 16) => refKey_any h i hi)
  obtain ⟨b, o, c, rfl, hc, _⟩ := h.slice
  clear h
  have hn := Nat.mod_lt x (show 16 > 0 by omega)
  generalize x % 16 = n at *
  go_enter Tryz.func75, Tryz.ntmps75
  go_wp2_with fail
  go_loop [6] (fun y => ∃ i : Nat, i ≤ n ∧ y = .int .i64 i ∧ LowTo W x key i) (fun y => n - (intOf y).toNat)
  case atStart => exact ⟨0, by omega, rfl, fun j hj => by omega⟩
  case round =>
    obtain ⟨i, hi, rfl, hlo⟩ := hrel
    have HLO := Lib.hid hlo; clear hlo
    by_cases hlt : i < n
    · have hlt' : (i : Int) < n := by omega
      have HKi := Lib.hid (HK.out i hlt)
      have HSA := Lib.hid (slotsN_at x n i hlt)
      have HNX : Hid (W (4 + Go.Proofs.YtgdcjedcinapdaaGreat.nib x i) < key → LowTo W x key (i + 1)) := fun h j hj => by
        by_cases e : j = i
        · subst e; exact h
        · exact HLO.out j (by omega)
      have HID : Hid (¬ W (4 + Go.Proofs.YtgdcjedcinapdaaGreat.nib x i) < key → findIdx W key (slotsN x n) = i) := fun h => HLO.out.idx (by omega) (fun s hs => by rw [HSA.out] at hs; cases hs; exact h)
      have HFB : Hid (¬ W (4 + Go.Proofs.YtgdcjedcinapdaaGreat.nib x i) < key → foundB W key (slotsN x n) = (W (4 + Go.Proofs.YtgdcjedcinapdaaGreat.nib x i) == key)) := fun h => by unfold foundB; rw [HID.out h, HSA.out]
      generalize W (4 + Go.Proofs.YtgdcjedcinapdaaGreat.nib x i) = ki at *
      by_cases hk : key ≤ ki
      · have HI := Lib.hid (HID.out (by omega)); have HF := Lib.hid (HFB.out (by omega))
        go_wp2_with (first | (go_at_call 57; (with_reducible refine HL.out.mono ?_); rintro e w' ⟨rfl, rfl⟩) | (go_at_call 61; (with_reducible refine HKi.out.mono ?_); rintro e w' ⟨rfl, rfl⟩))
        go_ret2
        exact ⟨by rw [HI.out, HF.out]; rfl, rfl⟩
      · have HZ := Lib.hid (HNX.out (by omega))
        go_wp2_with (first | (go_at_call 57; (with_reducible refine HL.out.mono ?_); rintro e w' ⟨rfl, rfl⟩) | (go_at_call 61; (with_reducible refine HKi.out.mono ?_); rintro e w' ⟨rfl, rfl⟩))
        go_round
        case rel => exact ⟨i + 1, by omega, by go_num, HZ.out⟩
        case measure => simp [intOf]; omega
    · obtain rfl : i = n := by omega
      have hnone : (slotsN x i)[i]? = none := List.getElem?_eq_none (by simp [slotsN])
      have HI : Hid (findIdx W key (slotsN x i) = i) := HLO.out.idx (by omega) (fun s hs => by rw [hnone] at hs; cases hs)
      have HF : Hid (foundB W key (slotsN x i) = false) := by show foundB W key (slotsN x i) = false; unfold foundB; rw [HI.out, hnone]
      clear hnone
      go_wp2_with (go_at_call 57; (with_reducible refine HL.out.mono ?_); rintro e w' ⟨rfl, rfl⟩)
      go_ret2
      exact ⟨by rw [HI.out, HF.out]; rfl, rfl⟩
end
end Go.Proofs.YtgdcjedcinapdaaGreat

/- The reference's Delete. -/
namespace Go.Proofs.YtgdcjedcinapdaaGreat
open Go.RowKit
attribute [local go_sem ↓] Go.wp_at_zero Go.wp_at_succ

section
variable {w : World} {sv : Value} {W : Nat → Int} {x : Nat}
theorem RefIn.slotsW (h : RefIn w sv W x) : Go.Proofs.YtgdcjedcinapdaaGreat.slotsW W = slotsN x (x % 16) := by unfold Go.Proofs.YtgdcjedcinapdaaGreat.slotsW; rw [h.w0, Int.toNat_natCast]
theorem RefIn.lt12 (h : RefIn w sv W x) : ∀ s ∈ slotsN x (x % 16), s < 12 := by
  intro s hs
  simp only [slotsN, List.mem_map, List.mem_range] at hs
  obtain ⟨i, hi, rfl⟩ := hs
  exact h.nib i hi
theorem RefIn.drew (h : RefIn w sv W x) : RefIn w.drew sv W x := h.below ((Below.refl _ _).drew)
set_option maxRecDepth 100000 in
set_option maxHeartbeats 4000000 in
theorem refDelete_any (h : RefIn w sv W x) (at' : Nat) (key : Int) : Calls Tryz.prog 36 #[sv, .int .u64 at', .int .u64 key] w (RIPost w (delP W at' key).1 (delP W at' key).2) := by
  have HF := Lib.hid (reffind_any h key)
  have HS := Lib.hid (refSlots_any h)
  have H := Lib.hid h
  have h12 := h.lt12
  have hl12 : (slotsN x (x % 16)).length ≤ 12 := by simpa [slotsN] using h.ok.1
  have hlt := h.lt
  have HD : Hid (delP W at' key = if foundB W key (slotsN x (x % 16)) then (lastC at' (ordN ((slotsN x (x % 16)).take (findIdx W key (slotsN x (x % 16))) ++ (slotsN x (x % 16)).drop (findIdx W key (slotsN x (x % 16)) + 1)) (x / 4503599627370496 + 1) : Nat), 0) else ([], 5)) := by
    show delP W at' key = _
    unfold delP; rw [h.slotsW, h.w0, Int.toNat_natCast]
  obtain ⟨b, o, c, rfl, hc, _⟩ := h.slice
  clear h
  have HIL : Hid (foundB W key (slotsN x (x % 16)) = true → findIdx W key (slotsN x (x % 16)) < (slotsN x (x % 16)).length) := fun hf => by
    obtain ⟨s, hs, _⟩ := found_at _ _ _ hf
    rcases Nat.lt_or_ge (findIdx W key (slotsN x (x % 16))) (slotsN x (x % 16)).length with h | h
    · exact h
    · rw [List.getElem?_eq_none h] at hs; cases hs
  have HP := Lib.hid (fun wx u l (hu : RdSl wx 1 u l.length (natsI l)) (h1 : l.length ≤ 12) (h2 : ∀ s ∈ l, s < 16) => permutation_any u l (x / 4503599627370496 + 1) hu h1 h2 (by omega))
  have HC := Lib.hid (fun wx (hx : Below w.heap.size w wx) => refCount_any (H.out.below hx))
  generalize slotsN x (x % 16) = S at *
  generalize findIdx W key S = idx at *
  rw [HD.out]
  clear HD H
  generalize hf : foundB W key S = fb at *
  clear hf
  obtain ⟨i0, hi0, hz0, hz1, hz2⟩ := info_parts infoInt
  have I := Lib.hid (And.intro hi0 (And.intro hz0 (And.intro hz1 hz2))); clear hi0 hz0 hz1 hz2
  cases fb
  · rw [if_neg (by simp)]
    go_enter Tryz.func36, Tryz.ntmps36
    go_wp2_with (go_at_call 75; (with_reducible refine HF.out.mono ?_); rintro e w' ⟨rfl, rfl⟩)
    go_ret2
    exact ⟨_, rfl, Acc.nil w _ _ _ _ (Below.refl _ _) (Nat.le_refl _)⟩
  · rw [if_pos rfl]
    have hil := HIL.out rfl
    clear HIL
    go_enter Tryz.func36, Tryz.ntmps36
    go_wp2_with fail
    (with_reducible refine HF.out.mono ?_)
    rintro e w' ⟨rfl, rfl⟩
    go_wp2_with fail
    (with_reducible refine HS.out.mono ?_)
    rintro e w2 ⟨lv, rfl, a2⟩
    obtain ⟨a, cc, rfl⟩ := a2.slice
    have hsv := a2.rd
    have B2 := Lib.hid a2.bel
    clear a2 HS HF
    have hcap : S.length ≤ cc := by obtain ⟨_, _, _, e, hc, _⟩ := hsv; cases e; exact hc
    have t1 : RdSl w2 1 (.slice a idx cc) idx (natsI (S.take idx)) := by have := hsv.takeG idx (by omega); rw [Nat.mul_one, natsI_take] at this; exact this
    have t2 : RdSl w2 1 (.slice (if cc = idx + 1 then a else a.map (·.add (idx + 1))) (S.length - (idx + 1)) (cc - (idx + 1))) (S.length - (idx + 1)) (natsI (S.drop (idx + 1))) := by have := hsv.dropG (idx + 1) (by omega); rw [natsI_drop, Nat.mul_one] at this; exact this
    have T1 := Lib.hid t1; have T2 := Lib.hid t2; clear t1 t2 hsv
    have hic : (idx : Int) ≤ cc := by omega
    have hil' : (idx : Int) ≤ S.length := by omega
    have hic2 : (idx : Int) + 1 ≤ cc := by omega
    have hil2 : (idx : Int) + 1 ≤ S.length := by omega
    have y1 : IntKind.i64.wrap ((idx : Int) + 1) = (idx : Int) + 1 := IntWalk.i64_in _ (by omega)
    have h0 : (0 : Int) ≤ (idx : Int) + 1 := by omega
    go_wp2_with fail
    go_cut [11] (DelAt w2 (S.take idx ++ S.drop (idx + 1)))
    case first =>
      by_cases hci : cc = idx + 1
      · have HX := Lib.hid (show (if cc = idx + 1 then a else a.map (·.add (idx + 1))) = a from if_pos hci)
        rw [HX.out] at T2
        subst hci
        have hz : S.length - (idx + 1) = 0 := by omega
        rw [Nat.sub_self, hz] at T2
        have HZ := Lib.hid hz
        have hic3 : (idx : Int) ≤ (idx : Int) + 1 := by omega
        have hic4 : (idx : Int) ≤ ((idx + 1 : Nat) : Int) := by omega
        clear hz HX hic hic2
        go_region_held3 (fun wx => True) (trivial) (first | (refine step_append_sl rfl (.tmp 22) (.tmp 25) 113 rfl 3 i0 _ 1 8 Tryz.underlying113 I.out.1 I.out.2.1 I.out.2.2.1 I.out.2.2.2 rfl (by decide) (.slice (some ⟨w2.heap.size, 0, none⟩) 0 0) 0 [] rfl (by exact (OwnSl.new w2 #[] 3 1 0 0 rfl (Nat.le_refl _) (Nat.zero_le _)).drew) _ idx (natsI (S.take idx)) rfl (by exact (T1.out.alloc _).drew) (natsI_one _) (by unfold maxLen; omega) (by omega) ?_; intro v3 w3 o3 g3 b3; have hb3 := own_chain (v1 := .slice (some ⟨w2.heap.size, 0, none⟩) 0 0) ⟨below_alloc w2 (.cells #[] 3), fun g hg => by cases hg; exact Nat.le_refl _⟩ ((Below.refl _ _).drew) g3 b3 (by simp [World.drew]); have O3 := Lib.hid (And.intro o3 hb3); have R3 := Lib.hid (T2.out.below hb3.1); clear o3 g3 b3 hb3) | (refine step_append_sl rfl (.tmp 26) (.tmp 30) 113 rfl 3 i0 _ 1 8 Tryz.underlying113 I.out.1 I.out.2.1 I.out.2.2.1 I.out.2.2.2 rfl (by decide) v3 (0 + idx) _ rfl (by exact O3.out.1) _ 0 (natsI (S.drop (idx + 1))) rfl (by exact R3.out) (natsI_one _) (by unfold maxLen; omega) (by omega) ?_; intro v4 w4 o4 g4 b4; have hb4 := own_chain O3.out.2 (Below.refl _ _) g4 b4 (by have := O3.out.2.1.size; omega); have O4 := Lib.hid (And.intro o4 hb4); clear o4 g4 b4 hb4))
        all_goals go_wp2_with fail
        all_goals go_meet
        all_goals exact del_end hil (by rw [HZ.out]; exact O4.out.1) O4.out.2.1
      · have hci' : ¬ (cc : Int) = (idx : Int) + 1 := by omega
        have HX := Lib.hid (show (if cc = idx + 1 then a else a.map (·.add (idx + 1))) = a.map (·.add (idx + 1)) from if_neg hci)
        rw [HX.out] at T2
        go_region_held3 (fun wx => True) (trivial) (first | (refine step_append_sl rfl (.tmp 22) (.tmp 25) 113 rfl 3 i0 _ 1 8 Tryz.underlying113 I.out.1 I.out.2.1 I.out.2.2.1 I.out.2.2.2 rfl (by decide) (.slice (some ⟨w2.heap.size, 0, none⟩) 0 0) 0 [] rfl (by exact (OwnSl.new w2 #[] 3 1 0 0 rfl (Nat.le_refl _) (Nat.zero_le _)).drew) _ idx (natsI (S.take idx)) rfl (by exact (T1.out.alloc _).drew) (natsI_one _) (by unfold maxLen; omega) (by omega) ?_; intro v3 w3 o3 g3 b3; have hb3 := own_chain (v1 := .slice (some ⟨w2.heap.size, 0, none⟩) 0 0) ⟨below_alloc w2 (.cells #[] 3), fun g hg => by cases hg; exact Nat.le_refl _⟩ ((Below.refl _ _).drew) g3 b3 (by simp [World.drew]); have O3 := Lib.hid (And.intro o3 hb3); have R3 := Lib.hid (T2.out.below hb3.1); clear o3 g3 b3 hb3) | (refine step_append_sl rfl (.tmp 26) (.tmp 30) 113 rfl 3 i0 _ 1 8 Tryz.underlying113 I.out.1 I.out.2.1 I.out.2.2.1 I.out.2.2.2 rfl (by decide) v3 (0 + idx) _ rfl (by exact O3.out.1) _ (S.length - (idx + 1)) (natsI (S.drop (idx + 1))) rfl (by exact R3.out) (natsI_one _) (by unfold maxLen; omega) (by omega) ?_; intro v4 w4 o4 g4 b4; have hb4 := own_chain O3.out.2 (Below.refl _ _) g4 b4 (by have := O3.out.2.1.size; omega); have O4 := Lib.hid (And.intro o4 hb4); clear o4 g4 b4 hb4))
        all_goals go_wp2_with fail
        all_goals go_meet
        all_goals exact del_end hil O4.out.1 O4.out.2.1
    case rest =>
      obtain ⟨w3, hw3⟩ : ∃ x, x = wc := ⟨_, rfl⟩
      subst hw3
      have B3 := Lib.hid (B2.out.trans (hcut.2.mono B2.out.size))
      have hrd := hcut.1.rd
      have hd12 : (S.take idx ++ S.drop (idx + 1)).length ≤ 12 := by simp; omega
      have HP3 := Lib.hid (HP.out w3 _ (S.take idx ++ S.drop (idx + 1)) hrd hd12 (fun t ht => by
        rcases List.mem_append.1 ht with h1 | h1
        · have := h12 t (List.mem_of_mem_take h1); omega
        · have := h12 t (List.mem_of_mem_drop h1); omega))
      have HC3 := Lib.hid (HC.out w3 B3.out)
      have z1 : ((x / 4503599627370496 : Nat) : Int) + 1 ≤ 5000 := by omega
      obtain ⟨na, nc, hnv⟩ := hcut.1.slice
      subst hnv
      clear hcut hrd T1 T2 HP HC hic hil' hic2 hil2 y1 h0
      generalize S.take idx ++ S.drop (idx + 1) = L at *
      generalize hch : x / 4503599627370496 = ch at *
      clear hch
      have hcc : ((ch + 1 : Nat) : Int) = (ch : Int) + 1 := by omega
      rw [hcc] at HP3
      clear hcc
      go_wp2_with (first | (go_at_call 81; (with_reducible refine HC3.out.mono ?_); rintro e w' ⟨rfl, rfl⟩) | (go_at_call 80; (with_reducible refine HP3.out.mono ?_); rintro e w' ⟨rfl, rfl⟩) | (go_at_call 77; (with_reducible refine (reflast_any at' _).mono ?_); rintro e w5 ⟨ov, rfl, a5⟩; have A5 := Lib.hid a5; clear a5))
      go_ret2
      exact ⟨_, rfl, A5.out.deeper B3.out⟩
end
end Go.Proofs.YtgdcjedcinapdaaGreat

/- What the laws on a drawn node's programs share. -/
namespace Go.Proofs.YtgdcjedcinapdaaGreat
open Go.RowKit

section
variable {w : World}
theorem refValid_true {sv : Value} {W : Nat → Int} (h : RefW w sv W) (size : Nat) (hok : nodeOk W size) : Calls Tryz.prog 13 #[sv, .int .u64 size] w fun r w' => r = .returned (.bool true) ∧ Below w.heap.size w w' := by
  refine (refValid_any h size).mono ?_
  rintro r w' ⟨b, rfl, hb, q⟩
  rw [hb.2 ((refOk_iff W size h.bd).2 hok)]
  exact ⟨rfl, q.below⟩
theorem find_zero {W : Nat → Int} {size : Nat} (hok : nodeOk W size) (hb : ∀ i, i < 28 → 0 ≤ W i ∧ W i < 18446744073709551616) : findIdx W 0 (slotsW W) = 0 := by
  refine findIdx_eq W 0 _ 0 (by omega) (fun j s hj => by omega) (fun s hs => ?_)
  have h12 := (ok_good hok).lt s (List.mem_of_getElem? hs)
  have := (hb (4 + s) (by omega)).1; omega
/-- The entries of a valid node, as the law asks for them. -/
theorem entries_node {v : DV} {own : Nat → Option Role} {D : Dev} {j p : Nat} (h : NodeAt w v own D j p) (hok : nodeOk (nodeW D p) (D.n * 64)) {E : List (Int × Int)} (hE : entsW (nodeW D p) (slotsW (nodeW D p)) = E) :
    Calls Tryz.prog 16 #[.agg #[.iface 76 (.pointer (some ⟨v.tb j, 0, none⟩)), .int .u64 p]] w fun r w' => ∃ a c, r = .returned (.slice a E.length c) ∧ RdSl w' 2 (.slice a E.length c) E.length (entC E) ∧ Below w.heap.size w w' := by
  have hy := yields_ok h hok 0
  rw [find_zero hok h.hW, List.drop_zero, hE] at hy
  have hl : E.length ≤ 12 := by rw [← hE]; simpa [entsW] using (ok_good hok).len
  refine (entries_any _ _ E (isMem_thr _) hy (by omega)).mono ?_
  rintro r w' ⟨u, rfl, h1, h2⟩
  obtain ⟨a, c, rfl⟩ := ownsRow_slice h1
  exact ⟨a, c, rfl, rd_of_row h1, h2⟩
theorem getL_listW (W : Nat → Int) : getL W 28 = listW W := rfl
theorem getL_congr {f g : Nat → Int} {k : Nat} (h : ∀ i, f i = g i) : getL f k = getL g k := List.map_congr_left (fun i _ => h i)

/-- The device, the boxes of the node and of its leaf, the node's words. -/
structure QSt (w : World) (n : NodeP) (ka sa va : Option Addr) (kc sc vc : Nat) (v : DV) (lb g : Nat) (own : Nat → Option Role) (D : Dev) (x : Nat) (C : Nat → Int) (wc : World) : Prop where
  live : LiveSt w v own D x C wc
  box : Blk wc w.heap.size (nodeAgg n ka sa va kc sc vc) 26
  leaf : Blk wc lb #[.iface 76 (.pointer (some ⟨v.tb 0, 0, none⟩)), .int .u64 (ptrN (nodeOff n) : Nat)] 35
  ws : Row wc g 28 28 (fun i => .int .u64 (nWords n i))
  ob : own w.heap.size = none
  ol : own lb = none
  og : own g = none
variable {n : NodeP} {ka sa va : Option Addr} {kc sc vc : Nat} {v : DV} {lb g : Nat} {own : Nat → Option Role} {D : Dev} {x : Nat} {C : Nat → Int} {wc w1 : World}
theorem QSt.next (h : QSt w n ka sa va kc sc vc v lb g own D x C wc) (hb : Below wc.heap.size wc w1) : QSt w n ka sa va kc sc vc v lb g own D x C w1 := ⟨h.live.next hb, h.box.below hb, h.leaf.below hb, h.ws.below hb, h.ob, h.ol, h.og⟩
theorem QSt.ran (h : QSt w n ka sa va kc sc vc v lb g own D x C wc) {D' : Dev} {x' : Nat} {C' : Nat → Int} (hp : DPost v own wc D' w1) (hl : Live D' 12 x' C') :
    ∃ own', QSt w n ka sa va kc sc vc v lb g own' D' x' C' w1 ∧ (∀ k, k < wc.heap.size → own' k = own k) ∧ Upd (fun k => own k ≠ none) wc w1 := by
  obtain ⟨own', d, o, u⟩ := hp
  obtain ⟨own2, d2, o2, b2⟩ := DPost.from (B := w.heap.size) ⟨own', d, o, u⟩ h.live.ob h.live.bel.size
  refine ⟨own', ⟨⟨⟨d, fun k hk => ?_, h.live.bel.trans b2⟩, hl⟩, h.box.upd u (by simpa using h.ob), h.leaf.upd u (by simpa using h.ol), h.ws.upd u (by simpa using h.og), by rw [o _ h.box.lt]; exact h.ob, by rw [o _ h.leaf.lt]; exact h.ol, by rw [o _ h.ws.lt]; exact h.og⟩, o, u⟩
  rcases Nat.lt_or_ge k wc.heap.size with hlt | hge
  · rw [o k hlt] at hk; exact h.live.ob k hk
  · have := h.live.bel.size; omega
theorem QSt.off (h : QSt w n ka sa va kc sc vc v lb g own D x C wc) {u : Nat} (hu : own u ≠ none) : u < wc.heap.size := h.live.dev.lt u hu
/-- The plan is run. -/
theorem QSt.run (h : QSt w n ka sa va kc sc vc v lb g own D x C wc) (hx : x ≤ 1000) {p : List (Nat × Nat × Int)} (hok : progOk 12 p) (hlen : p.length ≤ 8) {pv : Value} (hp : RdSl wc 3 pv p.length (instrC p)) (ho : ∀ k, pv.ownBlock = some k → own k = none) :
    Calls Tryz.prog 33 #[pv, .iface 76 (.pointer (some ⟨v.tb 0, 0, none⟩))] wc fun r w' => r = .returned (.int .i64 0) ∧ ∃ own' D', QSt w n ka sa va kc sc vc v lb g own' D' (x + 8) (runC C p) w' ∧ (∀ k, k < wc.heap.size → own' k = own k) ∧ Upd (fun k => own k ≠ none) wc w' := by
  refine (run_any h.live.dev (by omega) pv p hp ho hok.instr (by omega) (by have := h.live.live.exec; omega)).mono ?_
  rintro r w' ⟨rfl, hd⟩
  have hl := h.live.live.run 0 p hok
  obtain ⟨own', h2⟩ := h.ran hd (hl.congr (by omega) (fun _ => rfl) : Live _ 12 (x + 8) _)
  exact ⟨by rw [hl.err], own', _, h2⟩
/-- The words that the law draws. -/
def nC (n : NodeP) : Nat → Int := withNode (fun _ => 0) (nodeOff n) n
def nW (n : NodeP) : Nat → Int := fun i => nC n (nodeOff n / 8 + i)
theorem nW_node (n : NodeP) : IsNode (nW n) n := fun i hi => withNode_at (fun _ => 0) (nodeOff n) n i hi
theorem nW_ok (n : NodeP) : nodeOk (nW n) 768 := (nW_node n).ok 768 (by omega)
theorem nW_bd (h : NodeIn w n ka sa va kc sc vc) : ∀ i, i < 28 → 0 ≤ nW n i ∧ nW n i < 18446744073709551616 := fun i hi => by rw [nW_node n i hi]; exact nWords_bd h i
/-- The node as the program sees it, through thread j. -/
theorem QSt.node (h : QSt w n ka sa va kc sc vc v lb g own D x C wc) (j : Nat) (hj : j < 8) (hb : ∀ i, i < 28 → 0 ≤ C (nodeOff n / 8 + i) ∧ C (nodeOff n / 8 + i) < 18446744073709551616) :
    NodeAt wc v own D j (ptrN (nodeOff n)) ∧ nodeW D (ptrN (nodeOff n)) = (fun i => C (nodeOff n / 8 + i)) ∧ D.n * 64 = 768 := by
  have hn := nodeOff_le n
  have := h.live.node j (nodeOff n) hj (by omega) hn.2.2 (by omega) hb
  exact ⟨this.1, funext this.2, by rw [h.live.live.n]⟩
theorem QSt.get (h : QSt w n ka sa va kc sc vc v lb g own D x C wc) :
    Calls Tryz.prog 32 #[.pointer (some ⟨v.db, 0, none⟩), .int .u64 (nodeOff n : Nat)] wc fun r w' => ∃ sv, r = .returned sv ∧ Acc wc wc.heap.size w' 28 1 sv 28 (intsU (listW fun i => C (nodeOff n / 8 + i))) := by
  have hn := nodeOff_le n
  refine (getW_any h.live.dev (nodeOff n) h.live.live.off hn.2.2 (by rw [h.live.live.n]; omega)).mono ?_
  rintro r w' ⟨sv, rfl, a⟩
  refine ⟨sv, rfl, ?_⟩
  rw [getL_congr (fun i => h.live.live.cur (nodeOff n / 8 + i)), getL_listW] at a
  exact a
theorem QSt.refIn (h : QSt w n ka sa va kc sc vc v lb g own D x C wc) : RefIn wc (.slice (some ⟨g, 0, none⟩) 28 28) (nW n) (ordN (nSlots n) n.count) := (nW_node n).refIn h.ws
theorem QSt.list (h : QSt w n ka sa va kc sc vc v lb g own D x C wc) : RdSl wc 1 (.slice (some ⟨g, 0, none⟩) 28 28) 28 (intsU (listW (nW n))) := h.refIn.rd
theorem equalU_list {wx : World} (u u' : Value) (W : Nat → Int) (h1 : RdSl wx 1 u 28 (intsU (listW W))) (h2 : RdSl wx 1 u' 28 (intsU (listW W))) :
    Calls Tryz.prog 31 #[u, u'] wx fun r w' => r = .returned (.bool true) ∧ Below wx.heap.size wx w' :=
  equalU_same u u' (listW W) (listW W) rfl (by rw [show (listW W).length = 28 by simp [listW]]; exact h1) (by rw [show (listW W).length = 28 by simp [listW]]; exact h2) (by simp [listW])
theorem slotsN_ents {wx : World} {sv : Value} (h : RefIn wx sv (nW n) (ordN (nSlots n) n.count)) : slotsN (ordN (nSlots n) n.count) (ordN (nSlots n) n.count % 16) = slotsW (nW n) := h.slotsW.symm
end
end Go.Proofs.YtgdcjedcinapdaaGreat
