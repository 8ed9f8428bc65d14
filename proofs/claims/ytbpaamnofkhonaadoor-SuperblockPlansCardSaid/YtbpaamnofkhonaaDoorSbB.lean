/- The law's Half.words and withCopies of layer 13. -/
import Derived.Test.YtbpaamnofkhonaaDoorSbH
import Derived.Test.YtbpaamnofkhonaaDoorSbY
namespace Go.Proofs.YtbpaamnofkhonaaDoor
open Go.RowKit Go.Maps
attribute [local go_sem ↓] Go.wp_at_zero Go.wp_at_succ

/-- The description of a copy. -/
structure Hf where
  k : Nat
  s0 : Nat
  s1 : Nat
  s2 : Nat
  s3 : Nat
  gen : Nat
  bit : Nat
  V : List Nat
namespace Hf
structure Ok (h : Hf) : Prop where
  k : h.k < 256
  s0 : h.s0 < 256
  s1 : h.s1 < 256
  s2 : h.s2 < 256
  s3 : h.s3 < 256
  gen : h.gen < 18446744073709551616
  bit : h.bit < 65536
  len : h.V.length = 8
  v : ∀ x ∈ h.V, x < 18446744073709551616
def sup (h : Hf) : Sup := (smS h.s0 h.s1 h.s2 h.s3).withGen h.gen
def flip (l : List Nat) (b : Nat) : List Nat := l.set (b / 64 % 8) (l.getD (b / 64 % 8) 0 ^^^ 2 ^ (b % 64))
/-- Its words. -/
def words (h : Hf) : List Nat := if h.k % 4 = 0 then h.V else if h.k % 4 = 2 then flip h.sup.words h.bit else if h.k % 4 = 3 then [0, 0, 0, 0, 0, 0, 0, 0] else h.sup.words
def cells (h : Hf) : Array Value := (([Value.int .u8 h.k, Value.int .u8 h.s0, Value.int .u8 h.s1, Value.int .u8 h.s2, Value.int .u8 h.s3, Value.int .u64 h.gen, Value.int .u16 h.bit] : List Value) ++ natsU h.V).toArray
theorem Ok.fits {h : Hf} (hk : h.Ok) : h.sup.Fits := ((smS_ok h.s0 h.s1 h.s2 h.s3 hk.s0).1.withGen h.gen).fits (by show (0 : Int) ≤ (h.gen : Int); omega) (by have := hk.gen; show (h.gen : Int) < _; omega)
theorem Ok.sup_bd {h : Hf} (hk : h.Ok) : ∀ x ∈ h.sup.words, x < 18446744073709551616 := by
  have hf := hk.fits
  obtain ⟨g1, g2, v1, v2, l1, l2, r1, r2, u1, u2, d1, d2, q1, q2, t1, t2⟩ := hf
  have hc := crcN_lt h.sup.first
  intro x hx
  have hx2 : x = 7738151121853964849 ∨ x = h.sup.gen.toNat ∨ x = h.sup.w2 ∨ x = h.sup.w3 ∨ x = 0 ∨ x = 4294967296 + crcN h.sup.first := by
    unfold Sup.words at hx
    generalize crcN h.sup.first = c at hx ⊢
    unfold Sup.first at hx
    simp only [List.cons_append, List.nil_append, List.mem_cons, List.not_mem_nil, or_false] at hx
    omega
  rcases hx2 with rfl | rfl | rfl | rfl | rfl | rfl
  · omega
  · omega
  · unfold Sup.w2; omega
  · unfold Sup.w3; omega
  · omega
  · omega
theorem flip_len (l : List Nat) (b : Nat) : (flip l b).length = l.length := by unfold flip; simp
theorem words_len {h : Hf} (hk : h.Ok) : h.words.length = 8 := by
  unfold words
  split
  · exact hk.len
  · split
    · rw [flip_len]; rfl
    · split
      · rfl
      · rfl
theorem flip_bd {l : List Nat} (hl : ∀ x ∈ l, x < 18446744073709551616) (b : Nat) : ∀ x ∈ flip l b, x < 18446744073709551616 := by
  intro x hx
  unfold flip at hx
  rcases List.mem_or_eq_of_mem_set hx with h | h
  · exact hl x h
  · rw [h]
    refine Nat.xor_lt_two_pow (n := 64) ?_ ?_
    · rw [List.getD_eq_getElem?_getD]
      cases hg : l[b / 64 % 8]? with
      | none => simp
      | some y => exact hl y (List.mem_of_getElem? hg)
    · exact Nat.pow_lt_pow_right (by omega) (by omega)
theorem words_bd {h : Hf} (hk : h.Ok) : ∀ x ∈ h.words, x < 18446744073709551616 := by
  unfold words
  split
  · exact hk.v
  · split
    · exact flip_bd hk.sup_bd _
    · split
      · intro x hx; simp at hx; omega
      · exact hk.sup_bd
end Hf
/-- An element of an owned slice of one-cell elements, stored. -/
theorem OwnSl.setAt {w : World} {e : TypeId} {a : Option Addr} {n c : Nat} {xs : List Value} (h : OwnSl w e 1 (.slice a n c) n xs) {i : Nat} (hi : i < n) (u : Value) :
    ∃ g o, a = some ⟨g, o, none⟩ ∧ w.cell? ⟨g, o + i, none⟩ = xs[i]? ∧ w.frozen? ⟨g, o + i, none⟩ = false ∧ OwnSl (w.setCell ⟨g, o + i, none⟩ u) e 1 (.slice a n c) n (xs.set i u) := by
  obtain ⟨h1, h2⟩ := h
  rcases h2 with ⟨h2, rfl⟩ | ⟨g, o, cap, cur, hv, hb, hc, hm, hs, ht⟩
  · omega
  · cases hv
    have hlen : cur.toList.length = cur.size := rfl
    have hx : xs[i]? = cur[o + i]? := by
      rw [← ht, List.getElem?_take, if_pos (by omega), List.getElem?_drop]; simp
    refine ⟨g, o, rfl, ?_, hb.frozen _, by rw [List.length_set]; exact h1, .inr ⟨g, o, _, _, rfl, hb.set (o + i) u, hc, hm, by simp; omega, ?_⟩⟩
    · rw [hx, Array.getElem?_eq_getElem (by omega)]
      exact hb.cell (Array.getElem?_eq_getElem (by omega))
    · apply List.ext_getElem?
      intro k
      have hk : ((cur.toList.drop o).take (n * 1))[k]? = xs[k]? := by rw [ht]
      simp only [List.getElem?_take, List.getElem?_drop, Array.toList_setIfInBounds, List.getElem?_set] at hk ⊢
      by_cases e1 : k < n * 1
      · rw [if_pos e1] at hk ⊢
        by_cases e2 : i = k
        · subst e2
          rw [if_pos rfl, if_pos rfl, if_pos (by omega), if_pos (by omega)]
        · rw [if_neg (by omega), if_neg e2]; exact hk
      · rw [if_neg e1] at hk ⊢
        rw [if_neg (by omega)]; exact hk
section
variable {w : World}
theorem rd_words (w : World) (b o n cap : Nat) (l : List Nat) (hn : n = l.length) (hc : n ≤ cap) (h : ∀ j x, l[j]? = some x → w.cell? ⟨b, o + j, none⟩ = some (.int .u64 (x : Nat))) : RdSl w 1 (.slice (some ⟨b, o, none⟩) n cap) n (natsU l) := by
  refine ⟨by simp [natsU, hn], _, _, rfl, hc, .inr ⟨b, o, rfl, fun j u hu => ?_⟩⟩
  unfold natsU at hu
  rw [List.getElem?_map] at hu
  cases hx : l[j]? with
  | none => rw [hx] at hu; cases hu
  | some x => rw [hx] at hu; cases hu; exact h j x hx
set_option maxRecDepth 100000 in
set_option maxHeartbeats 4000000 in
theorem halfWords_any (h : Hf) (hk : h.Ok) : Calls Tryd.prog 18 #[.agg h.cells] w fun r w' => ∃ ov, r = .returned ov ∧ RdSl w' 1 ov 8 (natsU h.words) ∧ Below w.heap.size w w' := by
  have HWD := Lib.hid (fun wx => words13_any (w := wx) h.sup hk.fits)
  have HSM := Lib.hid (fun wx => some_any (w := wx) h.s0 h.s1 h.s2 h.s3 hk.s0 hk.s1 hk.s2 hk.s3)
  have HSP : Hid (h.sup = (smS h.s0 h.s1 h.s2 h.s3).withGen h.gen) := rfl
  have HRS : Hid (h.words = if h.k % 4 = 0 then h.V else if h.k % 4 = 2 then Hf.flip h.sup.words h.bit else if h.k % 4 = 3 then [0, 0, 0, 0, 0, 0, 0, 0] else h.sup.words) := rfl
  have HBD := Lib.hid hk.sup_bd
  have HSL : Hid (h.sup.words.length = 8) := rfl
  generalize h.words = res at *
  generalize h.sup.words = sw at *
  generalize hsp : h.sup = sp at *
  obtain ⟨hk1, hk2, hk3, hk4, hk5, hk6, hk7, hk8, hk9⟩ := hk
  obtain ⟨k, s0, s1, s2, s3, gen, bit, V⟩ := h
  simp only at *
  clear hsp
  have HC : Hid (∃ ca, Hf.cells ⟨k, s0, s1, s2, s3, gen, bit, V⟩ = ca ∧ (∀ j x, V[j]? = some x → ca[7 + j]? = some (.int .u64 (x : Nat))) ∧ ca[0]? = some (.int .u8 k) ∧ ca[1]? = some (.int .u8 s0) ∧ ca[2]? = some (.int .u8 s1) ∧ ca[3]? = some (.int .u8 s2) ∧ ca[4]? = some (.int .u8 s3) ∧ ca[5]? = some (.int .u64 gen) ∧ ca[6]? = some (.int .u16 bit)) := by
    refine ⟨_, rfl, fun j x hx => ?_, rfl, rfl, rfl, rfl, rfl, rfl, rfl⟩
    unfold Hf.cells
    simp only [List.getElem?_toArray]
    rw [List.getElem?_append_right (by simp)]
    simp [natsU, hx]
  obtain ⟨ca, hca, hV, y0, y1, y2, y3, y4, y5, y6⟩ := HC.out
  rw [hca]
  have HV := Lib.hid hV
  obtain ⟨ver, lin, redo, und, desc, que, tab, hsm⟩ : ∃ ver lin redo und desc que tab, smS s0 s1 s2 s3 = ⟨ver, lin, redo, und, desc, que, tab, 0⟩ := ⟨_, _, _, _, _, _, _, rfl⟩
  rw [hsm] at HSM HSP
  unfold Sup.withGen at HSP
  simp only at HSP
  rw [HSP.out] at HWD
  unfold Sup.cells at HSM HWD
  simp only at HSM HWD
  have K0 := Lib.hid (Blk.new w ca 42)
  have B0 := Lib.hid (below_alloc w (.cells ca 42))
  have Y := Lib.hid (And.intro y0 (And.intro y1 (And.intro y2 (And.intro y3 (And.intro y4 (And.intro y5 y6))))))
  have HL := Lib.hid hk8
  clear HC hV hca hsm HSP y0 y1 y2 y3 y4 y5 y6 hk9 hk8
  generalize hw0 : w.alloc (.cells ca 42) = w0 at *
  have c1 : w0.cell? ⟨w.heap.size, 1, none⟩ = some (.int .u8 s0) := K0.out.cell Y.out.2.1
  have c2 : w0.cell? ⟨w.heap.size, 2, none⟩ = some (.int .u8 s1) := K0.out.cell Y.out.2.2.1
  have c3 : w0.cell? ⟨w.heap.size, 3, none⟩ = some (.int .u8 s2) := K0.out.cell Y.out.2.2.2.1
  have c4 : w0.cell? ⟨w.heap.size, 4, none⟩ = some (.int .u8 s3) := K0.out.cell Y.out.2.2.2.2.1
  go_enter Tryd.func18, Tryd.ntmps18
  go_wp2_with fail
  (with_reducible refine (HSM.out _).mono ?_)
  rintro e w1 ⟨rfl, b1⟩
  have K1 := Lib.hid (K0.out.below b1)
  have B1 := Lib.hid (B0.out.trans (b1.mono B0.out.size))
  clear b1 c1 c2 c3 c4 HSM K0 B0
  have K2 : Hid (Blk (w1.alloc (.cells #[.int .i64 ver, .int .i64 lin, .int .i64 redo, .int .i64 und, .int .i64 desc, .int .i64 que, .int .i64 tab, .int .u64 0] 26)) w1.heap.size #[.int .i64 ver, .int .i64 lin, .int .i64 redo, .int .i64 und, .int .i64 desc, .int .i64 que, .int .i64 tab, .int .u64 0] 26) := Blk.new _ _ _
  have c5 : (w1.alloc (.cells #[.int .i64 ver, .int .i64 lin, .int .i64 redo, .int .i64 und, .int .i64 desc, .int .i64 que, .int .i64 tab, .int .u64 0] 26)).cell? ⟨w.heap.size, 5, none⟩ = some (.int .u64 gen) := (K1.out.alloc _).cell Y.out.2.2.2.2.2.1
  have x7 := K2.out.cell (i := 7) (v := .int .u64 0) rfl
  have f7 := K2.out.frozen 7
  have hne : w.heap.size < w1.heap.size := K1.out.lt
  have K3 : Hid (Blk ((w1.alloc (.cells #[.int .i64 ver, .int .i64 lin, .int .i64 redo, .int .i64 und, .int .i64 desc, .int .i64 que, .int .i64 tab, .int .u64 0] 26)).setCell ⟨w1.heap.size, 7, none⟩ (.int .u64 gen)) w1.heap.size #[.int .i64 ver, .int .i64 lin, .int .i64 redo, .int .i64 und, .int .i64 desc, .int .i64 que, .int .i64 tab, .int .u64 gen] 26) := by
    have := K2.out.set 7 (.int .u64 gen)
    show Blk _ _ _ _
    simpa using this
  have H3 : Hid (Blk ((w1.alloc (.cells #[.int .i64 ver, .int .i64 lin, .int .i64 redo, .int .i64 und, .int .i64 desc, .int .i64 que, .int .i64 tab, .int .u64 0] 26)).setCell ⟨w1.heap.size, 7, none⟩ (.int .u64 gen)) w.heap.size ca 42) := (K1.out.alloc _).other (show w.heap.size ≠ w1.heap.size by omega) _
  have B3 : Hid (Below w.heap.size w ((w1.alloc (.cells #[.int .i64 ver, .int .i64 lin, .int .i64 redo, .int .i64 und, .int .i64 desc, .int .i64 que, .int .i64 tab, .int .u64 0] 26)).setCell ⟨w1.heap.size, 7, none⟩ (.int .u64 gen))) := (B1.out.trans ((below_alloc w1 _).mono B1.out.size)).setCell (by show w.heap.size ≤ w1.heap.size; omega) _
  generalize hw3 : (w1.alloc (.cells #[.int .i64 ver, .int .i64 lin, .int .i64 redo, .int .i64 und, .int .i64 desc, .int .i64 que, .int .i64 tab, .int .u64 0] 26)).setCell ⟨w1.heap.size, 7, none⟩ (.int .u64 gen) = w3 at *
  have z0 := K3.out.cell (i := 0) rfl; have z1 := K3.out.cell (i := 1) rfl; have z2 := K3.out.cell (i := 2) rfl; have z3 := K3.out.cell (i := 3) rfl
  have z4 := K3.out.cell (i := 4) rfl; have z5 := K3.out.cell (i := 5) rfl; have z6 := K3.out.cell (i := 6) rfl; have z7 := K3.out.cell (i := 7) rfl
  go_wp2_with fail
  (with_reducible refine (HWD.out _).mono ?_)
  rintro e w4 ⟨ov, rfl, a4⟩
  obtain ⟨oa, oc, hov⟩ := a4.slice
  subst hov
  have H4 := Lib.hid (H3.out.below a4.bel)
  have B4 := Lib.hid (B3.out.trans (a4.bel.mono B3.out.size))
  have A4 := Lib.hid a4
  clear a4 HWD z0 z1 z2 z3 z4 z5 z6 z7 hw3 K3 H3 c5 x7 f7 K2 K1 B1 hw0
  have c0 : w4.cell? ⟨w.heap.size, 0, none⟩ = some (.int .u8 k) := H4.out.cell Y.out.1
  have hm4 : k % 4 = 0 ∨ k % 4 = 1 ∨ k % 4 = 2 ∨ k % 4 = 3 := by omega
  have HRS2 := HRS
  rcases hm4 with hm | hm | hm | hm
  · obtain rfl : res = V := by rw [HRS2.out, if_pos hm]
    have e1 : (k : Int) % 4 = 0 := by omega
    have HRR := Lib.hid (rd_words w4 w.heap.size 7 8 8 res HL.out.symm (Nat.le_refl _) (fun j x hx => H4.out.cell (HV.out j x hx)))
    clear hm HRS HRS2
    go_wp2_with fail
    go_ret
    exact ⟨_, rfl, HRR.out, B4.out⟩
  · obtain rfl : res = sw := by
      have := HRS2.out
      simp only [hm] at this
      exact this
    have e1 : (k : Int) % 4 = 1 := by omega
    clear hm HRS HRS2
    go_wp2_with fail
    go_ret
    exact ⟨_, rfl, A4.out.rd, B4.out⟩
  · have HRES : Hid (res = Hf.flip sw bit) := by show res = _; rw [HRS2.out, if_neg (by omega), if_pos hm]
    have e1 : (k : Int) % 4 = 2 := by omega
    obtain ⟨d, hd⟩ : ∃ d, bit / 64 % 8 = d := ⟨_, rfl⟩
    obtain ⟨r, hr⟩ : ∃ r, bit % 64 = r := ⟨_, rfl⟩
    have hd8 : d < 8 := by omega
    have hr64 : r < 64 := by omega
    have e2 : (bit : Int) / 64 % 8 = (d : Int) := by omega
    have e3 : (bit : Int) % 64 = (r : Int) := by omega
    obtain ⟨x, hx⟩ : ∃ x, sw[d]? = some x := ⟨_, List.getElem?_eq_getElem (by rw [HSL.out]; exact hd8)⟩
    have hxb := HBD.out x (List.mem_of_getElem? hx)
    have hpl : 2 ^ r < 18446744073709551616 := Nat.pow_lt_pow_right (a := 2) (m := r) (n := 64) (by omega) hr64
    have e4 : (2 : Int) ^ r = ((2 ^ r : Nat) : Int) := by simp
    have e5 := u64_xor_nat x (2 ^ r) hxb hpl
    have HF : Hid (Hf.flip sw bit = sw.set d (x ^^^ 2 ^ r)) := by
      show Hf.flip sw bit = _
      unfold Hf.flip
      rw [hd, hr, List.getD_eq_getElem?_getD, hx]; rfl
    generalize hq : 2 ^ r = q at *
    obtain ⟨g, o, rfl, hc, hf, hset⟩ := A4.out.own.setAt (i := d) hd8 (.int .u64 ((x ^^^ q : Nat) : Int))
    rw [natsU_get hx] at hc
    have HSET := Lib.hid hset
    have hg : w.heap.size ≤ g := by have := A4.out.new g rfl; have := B3.out.size; omega
    have B5 : Hid (Below w.heap.size w (w4.setCell ⟨g, o + d, none⟩ (.int .u64 ((x ^^^ q : Nat) : Int)))) := B4.out.setCell (show w.heap.size ≤ g by omega) _
    have c6 : w4.cell? ⟨w.heap.size, 6, none⟩ = some (.int .u16 bit) := H4.out.cell Y.out.2.2.2.2.2.2
    clear hm HRS HRS2 hset hd hr hq hx A4 H4
    go_wp2_with fail
    go_region
    all_goals go_wp2_with fail
    all_goals go_ret
    all_goals exact ⟨_, rfl, by rw [HRES.out, HF.out, show natsU (sw.set d (x ^^^ q)) = (natsU sw).set d (.int .u64 ((x ^^^ q : Nat) : Int)) by simp [natsU, List.map_set]]; exact HSET.out.rd.drew, B5.out.drew⟩
  · obtain rfl : res = [0, 0, 0, 0, 0, 0, 0, 0] := by
      have := HRS2.out
      simp only [hm] at this
      exact this
    have e1 : (k : Int) % 4 = 3 := by omega
    have hmk := fun wx => mkWords wx 8 (by omega)
    rw [show ((8 : Nat) : Int) = 8 from rfl] at hmk
    have R5 : Hid (RdSl (w4.alloc (.cells (madeCells #[.int .u64 0] 8) 22)) 1 (.slice (some ⟨w4.heap.size, 0, none⟩) 8 8) 8 (natsU [0, 0, 0, 0, 0, 0, 0, 0])) := by
      refine rd_words _ _ 0 8 8 [0, 0, 0, 0, 0, 0, 0, 0] rfl (Nat.le_refl _) (fun j x hx => ?_)
      have hj : j < 8 := by have := (List.getElem?_eq_some_iff.1 hx).1; simpa using this
      have h0 : x = 0 := by
        have := List.mem_of_getElem? hx
        simpa using this
      subst h0
      rw [Nat.zero_add]
      exact (row_made w4 22 .u64 8).cell hj
    have B5 := Lib.hid (B4.out.trans ((below_alloc w4 (.cells (madeCells #[.int .u64 0] 8) 22)).mono B4.out.size))
    clear hm HRS HRS2 A4 H4
    go_wp2_with fail
    go_ret
    exact ⟨_, rfl, R5.out, B5.out⟩
end
/-- The words of a device whose first two lines are these copies. -/
def cpF (A B : List Nat) (i : Nat) : Int := if i < 8 then (A.getD i 0 : Nat) else if i < 16 then (B.getD (i - 8) 0 : Nat) else 0
theorem cpF_bd {A B : List Nat} (ha : ∀ x ∈ A, x < 18446744073709551616) (hb : ∀ x ∈ B, x < 18446744073709551616) (i : Nat) : 0 ≤ cpF A B i ∧ cpF A B i < 18446744073709551616 := by
  have h0 : ∀ (l : List Nat) (j : Nat), (∀ x ∈ l, x < 18446744073709551616) → l.getD j 0 < 18446744073709551616 := fun l j hl => by
    rw [List.getD_eq_getElem?_getD]
    cases hg : l[j]? with
    | none => simp
    | some y => exact hl y (List.mem_of_getElem? hg)
  unfold cpF
  split
  · have := h0 A i ha; omega
  · split
    · have := h0 B (i - 8) hb; omega
    · omega
theorem cpF_cp (A B : List Nat) (ha : A.length = 8) (hb : B.length = 8) : cpW (cpF A B) 0 = A ∧ cpW (cpF A B) 1 = B := by
  match A, ha, B, hb with
  | [a0, a1, a2, a3, a4, a5, a6, a7], _, [b0, b1, b2, b3, b4, b5, b6, b7], _ => exact ⟨rfl, rfl⟩
/-- Where the bytes of the copies stand in a round. -/
structure CpMid (w : World) (f : Nat → Int) (N k : Nat) (wr : World) : Prop where
  row : Row wr w.heap.size N 5 (fun i => .int .u8 (if i < k ∨ (64 ≤ i ∧ i < 64 + k) then byteAt f i else 0))
  bel : Below w.heap.size w wr
section
variable {w : World}
theorem CpMid.start (f : Nat → Int) (N : Nat) : CpMid w f N 0 (w.alloc (.cells (madeCells #[.int .u8 0] N) 5)) :=
  ⟨(row_made w 5 .u8 N).congr (fun i _ => by rw [if_neg (by omega)]), (Below.refl _ _).alloc (Nat.le_refl _) _⟩
theorem CpMid.step {f : Nat → Int} {N k : Nat} {wr : World} (h : CpMid w f N k wr) (hk : k < 64) : CpMid w f N (k + 1) ((wr.setCell ⟨w.heap.size, k, none⟩ (.int .u8 (byteAt f k))).setCell ⟨w.heap.size, 64 + k, none⟩ (.int .u8 (byteAt f (64 + k)))) := by
  refine ⟨((h.row.set k (.int .u8 (byteAt f k))).set (64 + k) (.int .u8 (byteAt f (64 + k)))).congr (fun i _ => ?_), (h.bel.setCell (by simp) _).setCell (by simp) _⟩
  by_cases e : i = 64 + k
  · subst e; rw [if_pos rfl, if_pos (by omega)]
  · rw [if_neg e]
    by_cases e2 : i = k
    · subst e2; rw [if_pos rfl, if_pos (by omega)]
    · rw [if_neg e2]
      by_cases e3 : i < k ∨ (64 ≤ i ∧ i < 64 + k)
      · rw [if_pos e3, if_pos (by omega)]
      · rw [if_neg e3, if_neg (by omega)]
set_option maxRecDepth 100000 in
set_option maxHeartbeats 4000000 in
theorem withCopies_any (lines : Nat) (h2 : 2 ≤ lines) (hl : lines ≤ 300) (va vb : Value) (A B : List Nat) (hA : A.length = 8) (hB : B.length = 8) (ha64 : ∀ x ∈ A, x < 18446744073709551616) (hb64 : ∀ x ∈ B, x < 18446744073709551616)
    (ha : RdSl w 1 va 8 (natsU A)) (hb : RdSl w 1 vb 8 (natsU B)) :
    Calls Tryd.prog 17 #[.int .i64 lines, va, vb] w fun r w' => ∃ v own, r = .returned (.pointer (some ⟨v.db, 0, none⟩)) ∧ IsDev w' v own (Dev.fresh lines (cpF A B)) ∧ (∀ k, own k ≠ none → w.heap.size ≤ k) ∧ Below w.heap.size w w' := by
  obtain ⟨_, aa, ac, rfl, hac, ha2⟩ := ha
  obtain ⟨_, ba, bc, rfl, hbc, hb2⟩ := hb
  have HA := Lib.hid ha2; have HB := Lib.hid hb2
  have HL := Lib.hid (And.intro hA hB)
  have HBD := Lib.hid (And.intro ha64 hb64)
  have HFB := Lib.hid (cpF_bd ha64 hb64)
  obtain ⟨f, hf⟩ : ∃ f, cpF A B = f := ⟨_, rfl⟩
  have HFA : Hid (∀ d x, A[d]? = some x → f d = (x : Nat)) := fun d x hx => by
    have hd : d < 8 := by have := (List.getElem?_eq_some_iff.1 hx).1; omega
    rw [← hf]; unfold cpF; rw [if_pos hd, List.getD_eq_getElem?_getD, hx]; rfl
  have HFBB : Hid (∀ d x, B[d]? = some x → f (8 + d) = (x : Nat)) := fun d x hx => by
    have hd : d < 8 := by have := (List.getElem?_eq_some_iff.1 hx).1; omega
    rw [← hf]; unfold cpF; rw [if_neg (by omega), if_pos (by omega), List.getD_eq_getElem?_getD, show 8 + d - 8 = d by omega, hx]; rfl
  have HF0 : Hid (∀ i, 16 ≤ i → f i = 0) := fun i hi => by rw [← hf]; unfold cpF; rw [if_neg (by omega), if_neg (by omega)]
  rw [hf] at HFB ⊢
  obtain ⟨N, hN⟩ : ∃ N, 64 * lines = N := ⟨_, rfl⟩
  have q0 : (64 : Int) * (lines : Int) = (N : Int) := by omega
  have hmk := fun (wx : World) => mkBytes wx N (by omega)
  have hNb : 128 ≤ N := by omega
  have hNc : N ≤ 1000000 := by omega
  have HFR := Lib.hid (fun (wx : World) (hx : RdSl wx 1 (.slice (some ⟨w.heap.size, 0, none⟩) N N) (64 * lines) ((List.range (64 * lines)).map fun i => .int .u8 (byteAt f i))) => devFrom_any (w := wx) _ lines (byteAt f) hx (by omega) (by omega) (fun i _ => by unfold byteAt; omega))
  rw [hN] at HFR
  have M0 := Lib.hid (CpMid.start (w := w) f N)
  have HN := Lib.hid hN
  clear ha2 hb2 hA hB ha64 hb64 hf hN
  go_enter Tryd.func17, Tryd.ntmps17
  go_wp2_with fail
  go_loopw [8, 14] (fun _ y wr => ∃ k : Nat, k ≤ 64 ∧ y = .int .i64 k ∧ CpMid w f N k wr) (fun _ y _ => 64 - (intOf y).toNat)
  case atStart => exact ⟨0, by omega, rfl, M0.out⟩
  case round =>
    obtain ⟨k, hk, rfl, hM⟩ := hrel
    have M := Lib.hid hM
    clear M0
    by_cases hlt : k < 64
    · have hlt' : (k : Int) < 64 := by omega
      obtain ⟨d, hd⟩ : ∃ d, k / 8 = d := ⟨_, rfl⟩
      obtain ⟨r, hr⟩ : ∃ r, k % 8 = r := ⟨_, rfl⟩
      have q1 : (k : Int) / 8 = d := by omega
      have q2 : (k : Int) % 8 = r := by omega
      have hd8 : d < 8 := by omega
      have hr8 : r < 8 := by omega
      obtain ⟨x, hx⟩ : ∃ x, A[d]? = some x := ⟨_, List.getElem?_eq_getElem (by rw [HL.out.1]; exact hd8)⟩
      obtain ⟨y, hy⟩ : ∃ x, B[d]? = some x := ⟨_, List.getElem?_eq_getElem (by rw [HL.out.2]; exact hd8)⟩
      obtain ⟨b1, o1, rfl, e1⟩ := rd_at HA.out (natsU_get hx)
      obtain ⟨b2, o2, rfl, e2⟩ := rd_at HB.out (natsU_get hy)
      have c1 := (hM.bel.cell (p := ⟨b1, o1 + d, none⟩) (World.block_lt_of_cell? _ _ (e1 d _ (natsU_get hx)))).trans (e1 d _ (natsU_get hx))
      have c2 := ((hM.bel.setCell (p := ⟨w.heap.size, k, none⟩) (Nat.le_refl _) (.int .u8 ((x : Int) / 2 ^ (8 * r) % 256))).cell (p := ⟨b2, o2 + d, none⟩) (World.block_lt_of_cell? _ _ (e2 d _ (natsU_get hy)))).trans (e2 d _ (natsU_get hy))
      have hx64 := HBD.out.1 x (List.mem_of_getElem? hx)
      have hy64 := HBD.out.2 y (List.mem_of_getElem? hy)
      have hcell := hM.row.cell (i := k) (by omega)
      obtain ⟨u0, hu0⟩ : ∃ u, wr.cell? ⟨w.heap.size, k, none⟩ = some u := ⟨_, hcell⟩
      have hf1 := hM.row.frozen k
      have hrow2 := hM.row.set k (.int .u8 ((x : Int) / 2 ^ (8 * r) % 256))
      have hcell2 := hrow2.cell (i := 64 + k) (by omega)
      obtain ⟨u2, hu2⟩ : ∃ u, (wr.setCell ⟨w.heap.size, k, none⟩ (.int .u8 ((x : Int) / 2 ^ (8 * r) % 256))).cell? ⟨w.heap.size, 64 + k, none⟩ = some u := ⟨_, hcell2⟩
      have hf2 := hrow2.frozen (64 + k)
      have hst := M.out.step hlt
      have E1 : byteAt f k = (x : Int) / 2 ^ (8 * r) % 256 := by unfold byteAt; rw [hd, hr, HFA.out d x hx, Nat.mul_comm]
      have E2 : byteAt f (64 + k) = (y : Int) / 2 ^ (8 * r) % 256 := by unfold byteAt; rw [show (64 + k) / 8 = 8 + d by omega, show (64 + k) % 8 = r by omega, HFBB.out d y hy, Nat.mul_comm]
      rw [E1, E2] at hst
      have ST := Lib.hid hst
      have hk64 : (64 + k : Nat) < N := by omega
      clear hM hcell hcell2 hrow2 hx hy e1 e2 hd hr hst E1 E2
      go_wp2_with fail
      exact ⟨⟨k + 1, by omega, by go_num, ST.out⟩, by simp [intOf]; omega⟩
    · obtain rfl : k = 64 := by omega
      have hrow := M.out.row
      have HR : Hid (Row wr w.heap.size N 5 (fun i => .int .u8 (byteAt f i))) := hrow.congr (fun i hi => by
        by_cases e : i < 128
        · rw [if_pos (by omega)]
        · rw [if_neg (by omega)]
          have : byteAt f i = 0 := by unfold byteAt; rw [HF0.out (i / 8) (by omega)]; simp
          rw [this])
      have HF2 := Lib.hid (HFR.out wr ⟨by simp, _, _, rfl, Nat.le_refl _, .inr ⟨_, 0, rfl, fun j u hu => by
        have hj : j < N := by have := (List.getElem?_eq_some_iff.1 hu).1; simpa using this
        rw [List.getElem?_map, List.getElem?_range hj] at hu
        cases hu
        rw [Nat.zero_add]
        exact HR.out.cell hj⟩⟩)
      clear hrow HFR
      go_wp2_with fail
      (with_reducible refine HF2.out.mono ?_)
      rintro e w1 ⟨v, own, rfl, hd, ho, hbl⟩
      have HD := Lib.hid (And.intro hd (And.intro ho hbl)); clear hd ho hbl
      go_wp2_with fail
      go_ret
      refine ⟨v, own, rfl, fresh200 HD.out.1 (fun i hi => ?_), fun j hj => Nat.le_trans M.out.bel.size (HD.out.2.1 j hj), M.out.bel.trans (HD.out.2.2.mono M.out.bel.size)⟩
      rw [← HN.out, show 64 * lines = 8 * (8 * lines) by omega]
      exact wordsOf_bytes f (8 * lines) i hi (HFB.out i)
end
end Go.Proofs.YtbpaamnofkhonaaDoor
