/- The walks of the reference's At and Image. -/
import Derived.Test.YtoakngofgkkpnaaR5A
namespace Go.Proofs.Ytoakngofgkkpnaa
open Go.RowKit
attribute [local go_sem ↓] Go.wp_at_zero Go.wp_at_succ

section
variable {w : World} {D : Dev} {rb lb : Nat} {hv : Nat → Value} {nv : Value} {ns : List (Nat × Nat)}
theorem below_alloc_drew' (w : World) (o : Obj) : Below w.heap.size w (w.drew.alloc o) := ((Below.refl _ _).drew).alloc (Nat.le_refl _) _
theorem dirty_idxOf (D : Dev) {i l : Nat} (h : D.dirtyL[i]? = some l) : D.dirtyL.idxOf l = i := by
  obtain ⟨hlt, e⟩ := List.getElem?_eq_some_iff.1 h
  rw [← e]
  exact (dirty_nodup D).idxOf_getElem i hlt
theorem natsI_len (l : List Nat) : (natsI l).length = l.length := by simp [natsI]
theorem row_natsI {g n : Nat} {f : Nat → Nat} (h : Row w g n 3 (fun i => .int .i64 (f i))) : RdSl w 1 (.slice (some ⟨g, 0, none⟩) n n) n (natsI ((List.range n).map f)) := by
  refine ⟨by simp [natsI], _, _, rfl, Nat.le_refl _, .inr ⟨g, 0, rfl, fun j u hu => ?_⟩⟩
  have hj : j < n := by
    rcases Nat.lt_or_ge j n with h | h
    · exact h
    · rw [List.getElem?_eq_none (by simpa [natsI] using h)] at hu; cases hu
  rw [Nat.zero_add, h.cell hj]
  simp [natsI, hj] at hu
  rw [hu]
set_option maxRecDepth 100000 in
set_option maxHeartbeats 4000000 in
theorem r5At_any (h : R3 w D rb lb hv nv ns) (he : D.exec < 100000000) (n : Nat) (hn : n < prodN (basesL D)) (hp : prodN (basesL D) ≤ 4611686018427387904) :
    Calls Try.prog 18 #[.pointer (some ⟨rb, 0, none⟩), .int .u64 n] w fun r w' => ∃ sv, r = .returned (.tuple #[sv, .bool true]) ∧ Acc w w.heap.size w' 5 1 sv (64 * D.n) (bytesL (imgN D n) (64 * D.n)) := by
  have HD := Lib.hid (r5Digits_any h he n hn hp)
  have HC := Lib.hid (fun (wx : World) (hb : Below w.heap.size w wx) (g : Nat) (f : Nat → Nat) (hf : Row wx g (basesL D).length 3 (fun i => .int .i64 (f i))) (hd : ∀ (i b : Nat), (basesL D)[i]? = some b → f i < b ∧ f i = digN (basesL D) n i) =>
    r3Content_any (h.keep hb) (.slice (some ⟨g, 0, none⟩) (basesL D).length (basesL D).length) ((List.range (basesL D).length).map f) (by have := row_natsI hf; simpa using this) (by simp [basesL_len]) (ksD D n) (fun i l hl => by
      have hb2 := (bases_at D i l hl).2
      obtain ⟨h1, h2⟩ := hd i _ hb2
      have hlt := (List.getElem?_eq_some_iff.1 hb2).1
      have e : ksD D n l = f i := by unfold ksD; rw [dirty_idxOf D hl, h2]
      refine ⟨?_, by omega⟩
      rw [e]
      simp [hlt]) he)
  obtain ⟨m, hm⟩ : ∃ m, (basesL D).length = m := ⟨_, rfl⟩
  rw [hm] at HD HC
  clear h hn hp hm
  go_enter Try.func18, Try.ntmps18
  go_wp2_with fail
  (with_reducible refine HD.out.mono ?_)
  rintro r w1 ⟨g, f, rfl, f1, f2, f3, b1⟩
  have B1 := Lib.hid b1
  have HC1 := Lib.hid (HC.out w1 b1 g f f1 f2)
  clear f1 f2 f3 b1 HC HD
  go_wp2_with fail
  (with_reducible refine HC1.out.mono ?_)
  rintro r w2 ⟨sv, rfl, a2⟩
  have A2 := Lib.hid (a2.deeper B1.out)
  clear a2 HC1
  go_wp2_with fail
  go_ret2
  exact ⟨_, rfl, A2.out⟩
theorem chD_at (D : Dev) {cs : List Int} {i l : Nat} {x : Int} (h : cs[i % cs.length]? = some x) : chD D cs i l = (x % (((D.hist l).length : Int) + 1)).toNat := by
  unfold chD
  rw [List.getD_eq_getElem?_getD, h]
  rfl
theorem chD_nil (D : Dev) (i l : Nat) : chD D [] i l = 0 := by simp [chD]
theorem chD_le (D : Dev) (cs : List Int) (i l : Nat) : chD D cs i l ≤ (D.hist l).length := by
  unfold chD
  have h1 := Int.emod_nonneg (cs.getD (i % cs.length) 0) (show ((D.hist l).length : Int) + 1 ≠ 0 by omega)
  have h2 := Int.emod_lt_of_pos (cs.getD (i % cs.length) 0) (show (0 : Int) < ((D.hist l).length : Int) + 1 by omega)
  omega
/-- The prefixes that a choice gives. -/
def chK (D : Dev) (cs : List Int) (l : Nat) : Nat := chD D cs (D.dirtyL.idxOf l) l
def chL (D : Dev) (cs : List Int) (k : Nat) : List Nat := (List.range k).map fun i => chD D cs i (D.dirtyL.getD i 0)
theorem chL_succ (D : Dev) (cs : List Int) {k l : Nat} (h : D.dirtyL[k]? = some l) : chL D cs (k + 1) = chL D cs k ++ [chD D cs k l] := by
  unfold chL
  rw [List.range_succ, List.map_append, List.map_cons, List.map_nil, List.getD_eq_getElem?_getD, h]
  rfl
theorem chL_len (D : Dev) (cs : List Int) (k : Nat) : (chL D cs k).length = k := by simp [chL]
set_option maxRecDepth 100000 in
set_option maxHeartbeats 4000000 in
theorem r3Image_any (h : R3 w D rb lb hv nv ns) (he : D.exec < 100000000) (cv : Value) (cs : List Int) (hc : RdSl w 1 cv cs.length (cs.map fun x => .int .u8 x)) (hcb : ∀ x ∈ cs, 0 ≤ x ∧ x < 256) (hcl : cs.length ≤ 1000000) :
    Calls Try.prog 16 #[.pointer (some ⟨rb, 0, none⟩), cv] w fun r w' => ∃ sv, r = .returned sv ∧ Acc w w.heap.size w' 5 1 sv (64 * D.n) (bytesL (D.img (chK D cs)) (64 * D.n)) := by
  have hn := h.up.wf.le
  have hdl : D.dirtyL.length ≤ D.n := by unfold Dev.dirtyL; exact filt_len D D.n
  obtain ⟨i0, hi0, hz0, hz1, hz2⟩ := info_parts infoInt
  have I := Lib.hid (And.intro hi0 (And.intro hz0 (And.intro hz1 hz2))); clear hi0 hz0 hz1 hz2
  have HD := Lib.hid (r3Dirty_any (h.alloc (.cells #[] 3)))
  have HCO := Lib.hid (fun (wx : World) (hb : Below w.heap.size w wx) (kv : Value) (hk : RdSl wx 1 kv (chL D cs D.dirtyL.length).length (natsI (chL D cs D.dirtyL.length))) => r3Content_any (h.keep hb) kv (chL D cs D.dirtyL.length) hk (chL_len D cs _) (chK D cs) (fun i l hl => by
    have hlt := (List.getElem?_eq_some_iff.1 hl).1
    refine ⟨?_, chD_le D cs _ l⟩
    unfold chK
    rw [dirty_idxOf D hl]
    unfold chL
    rw [List.getElem?_map, List.getElem?_range hlt]
    show some (chD D cs i (D.dirtyL.getD i 0)) = _
    rw [List.getD_eq_getElem?_getD, hl]
    rfl) he)
  have H := Lib.hid h
  have HDL := Lib.hid (fun (i l : Nat) => dirty_lt D (i := i) (l := l))
  have HCC := Lib.hid hc; have HCB := Lib.hid hcb
  have HSU := Lib.hid (fun (k l : Nat) => chL_succ D cs (k := k) (l := l))
  have HLE := Lib.hid (fun k => chL_len D cs k)
  have HCH := Lib.hid (fun (i l : Nat) (x : Int) => chD_at D (cs := cs) (i := i) (l := l) (x := x))
  have HC0 : Hid (cs.length = 0 → ∀ i l, chD D cs i l = 0) := fun e i l => by rw [List.eq_nil_of_length_eq_zero e]; exact chD_nil D i l
  have A0 := Lib.hid (acc_empty w 3 1)
  obtain ⟨m, hmm⟩ : ∃ m, D.dirtyL.length = m := ⟨_, rfl⟩
  have HM := Lib.hid hmm
  rw [hmm] at HD hdl HCO
  obtain ⟨_, ca, cc, rfl, hcc, _⟩ := hc
  obtain ⟨c, hcn⟩ : ∃ c, cs.length = c := ⟨_, rfl⟩
  have HCN := Lib.hid hcn
  rw [hcn] at hcl hcc HCC HCH HC0 ⊢
  clear h hmm hcb hcn
  go_enter Try.func16, Try.ntmps16
  go_wp2_with fail
  (with_reducible refine HD.out.mono ?_)
  rintro r w1 ⟨dv, rfl, d1⟩
  obtain ⟨da, dc, hdv⟩ := d1.slice
  subst hdv
  have A1 : Hid (Pair w w.heap.size w1 3 1 (.slice (some ⟨w.heap.size, 0, none⟩) 0 0) 0 (natsI (chL D cs 0)) 3 1 (.slice da m dc) m (natsI D.dirtyL)) := Pair.of A0.out d1
  have hdcap : m ≤ dc := by obtain ⟨_, _, _, e, hc, _⟩ := d1.rd; cases e; exact hc
  clear d1 HD A0
  go_wp2_with fail
  go_loopw [5, 13] (fun sv y wr => ∃ k : Nat, k ≤ m ∧ y = .int .i64 k ∧ Pair w w.heap.size wr 3 1 sv k (natsI (chL D cs k)) 3 1 (.slice da m dc) m (natsI D.dirtyL)) (fun _ y _ => m - (intOf y).toNat)
  case atStart => exact ⟨0, by omega, rfl, A1.out⟩
  case round =>
    clear A1
    obtain ⟨k, hk, rfl, ha⟩ := hrel
    rename World => wr
    obtain ⟨la, lc, hsv⟩ := ha.a.slice
    subst hsv
    have A := Lib.hid ha
    clear ha
    have R := Lib.hid (H.out.keep A.out.a.bel)
    by_cases hlt : k < m
    · have hlt' : (k : Int) < m := by omega
      obtain ⟨l, hl⟩ : ∃ l, D.dirtyL[k]? = some l := ⟨_, List.getElem?_eq_getElem (by rw [HM.out]; exact hlt)⟩
      have hln := HDL.out k l hl
      have hln' : (l : Int) < D.n := by omega
      obtain ⟨_, a', c', e', _, hE⟩ := A.out.b.rd
      cases e'
      have hxl : (natsI D.dirtyL)[k]? = some (.int .i64 l) := by simp [natsI, hl]
      obtain ⟨fb, fo, rfl, hE2⟩ := rd_at hE hxl
      have q1 := hE2 k _ hxl
      have hsu := HSU.out k l hl
      by_cases hc0 : 0 < c
      · have hc0' : (0 : Int) < c := by omega
        have y0 : wr.cell? ⟨rb, 0, none⟩ = some (.slice (some ⟨lb, 0, none⟩) D.n D.n) := R.out.dev.cell rfl
        obtain ⟨_, c8, _⟩ := R.out.at hln
        have hh1 := (H.out.hist l hln).1
        obtain ⟨ha, q, hcp, hve, hqe⟩ : ∃ ha q hc, hv l = .slice ha q hc ∧ q = (D.hist l).length := by obtain ⟨_, a, c, e, _, _⟩ := hh1; exact ⟨a, _, c, e, rfl⟩
        rw [hve] at c8
        have hcn := H.out.up.wf.cnt l hln
        obtain ⟨t, ht⟩ : ∃ t, k % c = t := ⟨_, rfl⟩
        have htc : t < c := by rw [← ht]; exact Nat.mod_lt _ hc0
        obtain ⟨x, hx⟩ : ∃ x, cs[t]? = some x := ⟨_, List.getElem?_eq_getElem (by rw [HCN.out]; exact htc)⟩
        obtain ⟨hx0, hx1⟩ := HCB.out x (List.mem_of_getElem? hx)
        have hxe := HCH.out k l x (by rw [ht]; exact hx)
        rw [← hqe] at hcn hxe
        obtain ⟨_, a', c', e', _, hE⟩ := HCC.out.below A.out.a.bel
        cases e'
        have hxc : (cs.map fun x => Value.int .u8 x)[t]? = some (.int .u8 x) := by simp [hx]
        obtain ⟨gb, go, rfl, hE4⟩ := rd_at hE hxc
        have q2 := hE4 t _ hxc
        have gt1 : (k : Int) % (c : Int) = (t : Int) := by rw [← ht]; rfl
        have gt2 : (k : Int).tmod (c : Int) = (t : Int) := by rw [Int.tmod_eq_emod_of_nonneg (by omega)]; exact gt1
        have gt3 : ¬ (c : Int) = 0 := by omega
        have gt4 : IntKind.i64.wrap (t : Int) = (t : Int) := IntWalk.i64_in _ (by omega)
        have htc' : (t : Int) < c := by omega
        obtain ⟨z, hz⟩ : ∃ z, chD D cs k l = z := ⟨_, rfl⟩
        rw [hz] at hxe hsu
        have gx0 : (0 : Int) ≤ x % ((q : Int) + 1) := Int.emod_nonneg _ (by omega)
        have gx1 := Int.emod_lt_of_pos x (show (0 : Int) < (q : Int) + 1 by omega)
        have ga1 : x % ((q : Int) + 1) = (z : Int) := by omega
        have ga2 : x.tmod ((q : Int) + 1) = (z : Int) := by rw [Int.tmod_eq_emod_of_nonneg hx0]; exact ga1
        have ga3 : IntKind.i64.wrap x = x := IntWalk.i64_in _ (by omega)
        have ga4 : IntKind.i64.wrap (z : Int) = (z : Int) := IntWalk.i64_in _ (by omega)
        have ga5 : IntKind.i64.wrap ((q : Int) + 1) = (q : Int) + 1 := IntWalk.i64_in _ (by omega)
        have ga6 : ¬ (q : Int) + 1 = 0 := by omega
        have HSX := Lib.hid hsu
        clear hE hE2 hE4 hxl hl hxc hx ht hsu hxe hz hve hqe hh1 gx0 gx1
        go_wp2_with fail
        go_region
        go_wp2_with (at_builtin; refine wpList_append_sl _ rfl _ _ 41 rfl 3 i0 _ 1 8 Try.underlying41 I.out.1 I.out.2.1 I.out.2.2.1 I.out.2.2.2 rfl (by decide) _ k (natsI (chL D cs k)) rfl (by exact (A.out.a.own.drew).alloc _) _ 1 _ rfl (by exact RdSl.newAt _ _ _ 1 1 _ rfl rfl) (one_int _ _) (by unfold maxLen; omega) (by omega) ?_)
        intro v1 w3 o1 g1 b1 n1
        have A3 := Lib.hid (A.out.left (below_alloc_drew' _ _) o1 g1 b1 (by first | simp | omega)); clear o1 g1 b1 n1
        go_wp2_with fail
        go_roundw
        case rel => exact ⟨k + 1, by omega, by go_num, by rw [HSX.out]; exact ⟨A3.out.a.congr rfl (by simp [natsI]), A3.out.b, A3.out.ne⟩⟩
        case measure => simp [intOf]; omega
      · have hc0' : ¬ (0 : Int) < c := by omega
        have hz := HC0.out (by omega) k l
        rw [hz] at hsu
        have HSX := Lib.hid hsu
        clear hE hE2 hxl hl hsu hz
        go_wp2_with (at_builtin; refine wpList_append_sl _ rfl _ _ 41 rfl 3 i0 _ 1 8 Try.underlying41 I.out.1 I.out.2.1 I.out.2.2.1 I.out.2.2.2 rfl (by decide) _ k (natsI (chL D cs k)) rfl (by exact A.out.a.own.alloc _) _ 1 _ rfl (by exact RdSl.newAt _ _ _ 1 1 _ rfl rfl) (one_int _ _) (by unfold maxLen; omega) (by omega) ?_)
        intro v1 w3 o1 g1 b1 n1
        have A3 := Lib.hid (A.out.left (below_alloc _ _) o1 g1 b1 (by first | simp | omega)); clear o1 g1 b1 n1
        go_wp2_with fail
        go_roundw
        case rel => exact ⟨k + 1, by omega, by go_num, by rw [HSX.out]; exact ⟨A3.out.a.congr rfl (by simp [natsI]), A3.out.b, A3.out.ne⟩⟩
        case measure => simp [intOf]; omega
    · obtain rfl : k = m := by omega
      have HC1 := Lib.hid (HCO.out wr A.out.a.bel (.slice la k lc) (by rw [HLE.out]; exact A.out.a.rd))
      clear HCO
      go_wp2_with fail
      (with_reducible refine HC1.out.mono ?_)
      rintro r w2 ⟨sv, rfl, a2⟩
      have A2 := Lib.hid (a2.deeper A.out.a.bel)
      clear a2 HC1
      go_wp2_with fail
      go_ret
      exact ⟨_, rfl, A2.out⟩
end
end Go.Proofs.Ytoakngofgkkpnaa
