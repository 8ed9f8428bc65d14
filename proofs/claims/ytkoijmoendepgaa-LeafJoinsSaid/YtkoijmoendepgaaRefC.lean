/- Join of the reference. -/
import Derived.Test.YtkoijmoendepgaaRefB
import Derived.Test.YtkoijmoendepgaaLeafW
namespace Go.Proofs.Ytkoijmoendepgaa
open Go.RowKit
attribute [local go_sem ↓] Go.wp_at_zero Go.wp_at_succ

/-- Three slices that a call collects, in blocks of their own. -/
structure Trip (w : World) (B : Nat) (wr : World) (e1 : TypeId) (s1 : Nat) (a : Value) (n1 : Nat) (al : List Value) (e2 : TypeId) (s2 : Nat) (b : Value) (n2 : Nat) (bl : List Value)
    (e3 : TypeId) (s3 : Nat) (c : Value) (n3 : Nat) (cl : List Value) : Prop where
  ab : Pair w B wr e1 s1 a n1 al e2 s2 b n2 bl
  ac : Pair w B wr e1 s1 a n1 al e3 s3 c n3 cl
  bc : ∀ g, b.ownBlock = some g → c.ownBlock ≠ some g
section
variable {w : World} {B : Nat} {wr wz w1 : World} {a b c a' : Value} {al bl cl news : List Value} {q e1 e2 e3 s1 s2 s3 n1 n2 n3 m : Nat}
theorem Trip.swap (h : Trip w B wr e1 s1 a n1 al e2 s2 b n2 bl e3 s3 c n3 cl) : Trip w B wr e2 s2 b n2 bl e1 s1 a n1 al e3 s3 c n3 cl := ⟨h.ab.swap, ⟨h.ab.b, h.ac.b, h.bc⟩, h.ac.ne⟩
theorem Trip.keep (h : Trip w B wr e1 s1 a n1 al e2 s2 b n2 bl e3 s3 c n3 cl) (hz : Below wr.heap.size wr wz) : Trip w B wz e1 s1 a n1 al e2 s2 b n2 bl e3 s3 c n3 cl := ⟨h.ab.keep hz, h.ac.keep hz, h.bc⟩
theorem Trip.left (h : Trip w B wr e1 s1 a n1 al e2 s2 b n2 bl e3 s3 c n3 cl) (hz : Below wr.heap.size wr wz) (o1 : OwnSl w1 e1 s1 a' (n1 + m) (al ++ news)) (g1 : wz.grownBy w1 a.ownBlock)
    (b1 : slAddr a' = slAddr a ∨ slAddr a' = some ⟨q, 0, none⟩) (hq : wr.heap.size ≤ q) : Trip w B w1 e1 s1 a' (n1 + m) (al ++ news) e2 s2 b n2 bl e3 s3 c n3 cl :=
  ⟨h.ab.left hz o1 g1 b1 hq, h.ac.left hz o1 g1 b1 hq, h.bc⟩
/-- A slice that was collected later lies elsewhere. -/
theorem Pair.of {w wr : World} {B : Nat} {e1 s1 n1 e2 s2 n2 : Nat} {a b : Value} {al bl : List Value} {w3 : World} (h : Acc w B w3 e1 s1 a n1 al) (k : Acc w3 w3.heap.size wr e2 s2 b n2 bl) : Pair w B wr e1 s1 a n1 al e2 s2 b n2 bl :=
  ⟨h.keep k.bel, ⟨k.own, fun g hg => Nat.le_trans h.lt (k.new g hg), h.bel.trans (k.bel.mono h.lt), Nat.le_trans h.lt k.lt⟩, fun g h1 h2 => by have := h.own.lt g h1; have := k.new g h2; omega⟩
end
theorem joinSt_one {off : Nat} {V : Nat → Int} {sV sW : List Nat} {i f : Nat} (hf : unusedN (joinSt off V sV sW i).1 = f) : (joinSt off V sV sW (i + 1)).1 = (joinSt off V sV sW i).1 ++ [f] := by simp only [joinSt, hf]
theorem joinSt_two {off : Nat} {V : Nat → Int} {sV sW : List Nat} {i f t : Nat} (ht : sV[i]? = some t) (hf : unusedN (joinSt off V sV sW i).1 = f) :
    (joinSt off V sV sW (i + 1)).2 = (joinSt off V sV sW i).2 ++ [(off + 8 * (4 + f), V (4 + t)), (off + 8 * (16 + f), V (16 + t))] := by simp only [joinSt, hf, List.getD, ht, Option.getD_some]
theorem infoRW : (Try.prog.info? 78).map (fun i => (i.zero, i.size, i.bytes)) = some (some (.agg #[.int .u64 0, .int .u64 0]), 2, 16) := by kernel_rfl
/-- The reference's writes and its error. -/
def RWPost (w : World) (l : List (Nat × Int)) (e : Nat) (r : Ending) (w' : World) : Prop :=
  ∃ sv, r = .returned (.tuple #[sv, .int .i64 e]) ∧ Acc w w.heap.size w' 78 2 sv l.length (flat l)
/-- The state of the loop. -/
def RJ (w : World) (at' : Nat) (V : Nat → Int) (sV sW : List Nat) (n m : Nat) (ev : Value) (i : Nat) (lv ov : Value) (wr : World) : Prop :=
  Trip w w.heap.size wr 3 1 lv (n + i) (natsI (joinSt at' V sV sW i).1) 78 2 ov (2 * i) (flat (joinSt at' V sV sW i).2) 84 2 ev m (entC (entsW V sV))
theorem RJ.step {w wr : World} {at' n m : Nat} {V : Nat → Int} {sV sW : List Nat} {ev lv ov : Value} {i f t : Nat}
    (h : Trip w w.heap.size wr 3 1 lv (n + i + 1) (natsI (joinSt at' V sV sW i).1 ++ [.int .i64 (f : Int)]) 78 2 ov (2 * i + 2) (flat (joinSt at' V sV sW i).2 ++ flat [(at' + 8 * (4 + f), V (4 + t)), (at' + 8 * (16 + f), V (16 + t))]) 84 2 ev m (entC (entsW V sV)))
    (ht : sV[i]? = some t) (hf : unusedN (joinSt at' V sV sW i).1 = f) : RJ w at' V sV sW n m ev (i + 1) lv ov wr := by
  unfold RJ
  rw [joinSt_one hf, joinSt_two ht hf, flat_append, natsI_snoc]
  exact h

theorem kept_cell {wr wz w1 : World} {k : Value} {g : Nat} (hz : Below wr.heap.size wr wz) (g1 : wz.grownBy w1 k.ownBlock) (hg : g < wr.heap.size) (hne : k.ownBlock ≠ some g) (o : Nat) : w1.cell? ⟨g, o, none⟩ = wr.cell? ⟨g, o, none⟩ :=
  World.cell?_of_block (w := wr) (a := ⟨g, o, none⟩) ((g1.block g (Nat.lt_of_lt_of_le hg hz.size) (fun e => hne e.symm)).trans (hz.block g hg))
theorem quiet_eq {P : Program} {f : FuncId} {args : Array Value} {w : World} {n : Nat} {v : Value} (h : Calls P f args (w.drewN n) fun e w' => e = .returned v ∧ w.drewN n = w') :
    Calls P f args (w.drewN n) fun e w'' => e = .returned v ∧ ∃ m, w'' = w.drewN m := h.mono fun _ _ ⟨he, hm⟩ => ⟨he, n, hm.symm⟩
section
variable {w : World} {av rv : Value} {W V : Nat → Int} {x y : Nat}
set_option maxRecDepth 100000 in
set_option maxHeartbeats 4000000 in
theorem refJoin_any (h : RefIn w av W x) (h2 : RefIn w rv V y) (at' : Nat) (hat : at' ≤ 100000) :
    Calls Try.prog 30 #[av, .int .u64 at', rv] w (RWPost w (joinP W at' V).1 (joinP W at' V).2) := by
  have eW : slotsW W = slotsN x (x % 16) := by unfold slotsW; rw [h.w0]; rfl
  have eV : slotsW V = slotsN y (y % 16) := by unfold slotsW; rw [h2.w0]; rfl
  have lW : (slotsN x (x % 16)).length = x % 16 := by simp [slotsN]
  have lV : (slotsN y (y % 16)).length = y % 16 := by simp [slotsN]
  have hx12 := h.ok.1; have hy12 := h2.ok.1
  have hW12 : ∀ s ∈ slotsN x (x % 16), s < 12 := by
    intro s hs
    simp only [slotsN, List.mem_map, List.mem_range] at hs
    obtain ⟨i, hi, rfl⟩ := hs
    exact h.nib i hi
  have hxc : (W 0).toNat / 4503599627370496 = x / 4503599627370496 := by rw [h.w0]; rfl
  have hxl := h.lt
  have HL1 := Lib.hid (fun wx (hb : Below w.heap.size w wx) => refLen_any (h.below hb))
  have HL2 := Lib.hid (fun wx (hb : Below w.heap.size w wx) => refLen_any (h2.below hb))
  have HK : Hid (∀ wx (_ : Below w.heap.size w wx) (_ : 0 < x % 16), Calls Try.prog 66 #[av, .int .i64 ((x % 16 : Nat) - 1 : Int)] wx fun r w' => r = .returned (.int .u64 (keyAt W (slotsN x (x % 16)) (x % 16 - 1))) ∧ wx = w') := by
    intro wx hb h0
    have := refKey_any (h.below hb) (x % 16 - 1) (by omega)
    rw [show ((x % 16 - 1 : Nat) : Int) = (x % 16 : Nat) - 1 by omega] at this
    have e : keyAt W (slotsN x (x % 16)) (x % 16 - 1) = W (4 + Go.Proofs.Ytkoijmoendepgaa.nib x (x % 16 - 1)) := by
      unfold keyAt; congr 2; unfold slotsN; rw [List.getD, List.getElem?_map, List.getElem?_range (by omega)]; rfl
    rw [e]; exact this
  have HS := Lib.hid (refSlots_any h)
  have HE := Lib.hid (fun wx (hb : Below w.heap.size w wx) => refEntries_any (h2.below hb))
  have HC := Lib.hid (fun wx (hb : Below w.heap.size w wx) => refCount_any (h.below hb))
  have HR2 := Lib.hid (fun wx (hb : Below w.heap.size w wx) => (h2.below hb).slice)
  have HR := Lib.hid h2
  obtain ⟨ab, ao, ac, rfl, _, _⟩ := h.slice
  obtain ⟨rb, ro, rc, rfl, hrc, _⟩ := h2.slice
  clear h h2
  have hJ : joinP W at' V = (if 12 < x % 16 + y % 16 then ([], 4) else if 0 < x % 16 ∧ 0 < y % 16 ∧ keyAt V (slotsN y (y % 16)) 0 ≤ keyAt W (slotsN x (x % 16)) (x % 16 - 1) then ([], 1)
    else ((joinSt at' V (slotsN y (y % 16)) (slotsN x (x % 16)) (y % 16)).2 ++ [(at' + 8, V 1), (at' + 16, V 2), (at' + 24, V 3), (at', (ordN (joinSt at' V (slotsN y (y % 16)) (slotsN x (x % 16)) (y % 16)).1 (x / 4503599627370496 + 1) : Nat))], 0)) := by
    unfold joinP
    simp only [eW, eV, hxc, lW, lV]
  generalize joinP W at' V = J at *
  generalize hsW : slotsN x (x % 16) = sW at *
  generalize hsV : slotsN y (y % 16) = sV at *
  generalize hn : x % 16 = n at *
  generalize hm : y % 16 = m at *
  have hl1 := Lib.hid (And.intro lW lV)
  have HJ := Lib.hid hJ; clear hJ
  clear hsW hsV hn hm eW eV hxc lW lV
  by_cases hfull : 12 < n + m
  · have hfull' : (12 : Int) < (n : Int) + (m : Int) := by omega
    have E : Hid (J = ([], 4)) := by show J = _; rw [HJ.out, if_pos hfull]
    go_enter Try.func30, Try.ntmps30
    go_wp2_with fail
    (with_reducible refine (HL1.out _ (Below.refl _ _)).mono ?_)
    rintro e w' ⟨rfl, rfl⟩
    go_wp2_with fail
    (with_reducible refine (HL2.out _ (Below.refl _ _)).mono ?_)
    rintro e w' ⟨rfl, rfl⟩
    go_wp2_with fail
    go_ret2
    rw [E.out]
    exact ⟨_, rfl, Acc.nil w _ _ _ _ (Below.refl _ _) (Nat.le_refl _)⟩
  · have hfull' : ¬ (12 : Int) < (n : Int) + (m : Int) := by omega
    have E : Hid (J = if 0 < n ∧ 0 < m ∧ keyAt V sV 0 ≤ keyAt W sW (n - 1) then ([], 1) else ((joinSt at' V sV sW m).2 ++ [(at' + 8, V 1), (at' + 16, V 2), (at' + 24, V 3), (at', (ordN (joinSt at' V sV sW m).1 (x / 4503599627370496 + 1) : Nat))], 0)) := by show J = _; rw [HJ.out, if_neg hfull]
    have hord : ∃ bad : Bool, bad = decide (0 < n ∧ 0 < m ∧ keyAt V sV 0 ≤ keyAt W sW (n - 1)) := ⟨_, rfl⟩
    obtain ⟨bad, hbad⟩ := hord
    have HB := Lib.hid hbad; clear hbad
    obtain ⟨i0, hi0, hz0, hz1, hz2⟩ := info_parts infoInt
    have I := Lib.hid (And.intro hi0 (And.intro hz0 (And.intro hz1 hz2))); clear hi0 hz0 hz1 hz2
    obtain ⟨k0, hi0, hz0, hz1, hz2⟩ := info_parts infoRW
    have I2 := Lib.hid (And.intro hi0 (And.intro hz0 (And.intro hz1 hz2))); clear hi0 hz0 hz1 hz2
    have hW12' := Lib.hid hW12; clear hW12
    go_enter Try.func30, Try.ntmps30
    go_wp2_with fail
    (with_reducible refine (HL1.out _ (Below.refl _ _)).mono ?_)
    rintro e w' ⟨rfl, rfl⟩
    go_wp2_with fail
    (with_reducible refine (HL2.out _ (Below.refl _ _)).mono ?_)
    rintro e w' ⟨rfl, rfl⟩
    go_wp2_with fail
    (with_reducible refine HS.out.mono ?_)
    rintro e w1 ⟨lv, rfl, a1⟩
    rw [hl1.out.1] at a1
    obtain ⟨la, lc, rfl⟩ := a1.slice
    have A1 := Lib.hid a1; clear a1
    go_wp2_with fail
    (with_reducible refine (HE.out _ A1.out.bel).mono ?_)
    rintro e w2 ⟨ev, rfl, a2⟩
    rw [hl1.out.2] at a2
    obtain ⟨ea, ec, rfl⟩ := a2.slice
    have T2 : Hid (RJ w at' V sV sW n m (.slice ea m ec) 0 (.slice la n lc) (.slice none 0 0) w2) := by
      have P := Pair.of A1.out a2
      exact ⟨⟨P.a, Acc.nil w _ _ _ _ P.a.bel P.a.lt, fun g _ h => by simp [Value.ownBlock] at h⟩, P, fun g h => by simp [Value.ownBlock] at h⟩
    clear a2 A1
    go_wp2_with fail
    go_loopw [8, 9, 24] (fun lv ov k wr => ∃ i : Nat, i ≤ m ∧ k = .int .i64 i ∧ (bad = true → i = 0) ∧ RJ w at' V sV sW n m (.slice ea m ec) i lv ov wr) (fun _ _ k _ => m - (intOf k).toNat)
    case atStart => exact ⟨0, by omega, rfl, fun _ => rfl, T2.out⟩
    case round =>
      obtain ⟨i, hi, rfl, hb0, hT⟩ := hrel
      obtain ⟨va, vc, rfl⟩ := hT.ab.a.slice
      obtain ⟨oa, oc, rfl⟩ := hT.ab.b.slice
      have T := Lib.hid hT; have HB0 := Lib.hid hb0; clear hT hb0 T2
      by_cases hlt : i < m
      · have hlt' : (i : Int) < (m : Int) := by omega
        obtain ⟨t, ht⟩ : ∃ t, sV[i]? = some t := ⟨_, List.getElem?_eq_getElem (by rw [hl1.out.2]; exact hlt)⟩
        have hent := entC_get _ i _ (entsW_get V sV i t ht)
        obtain ⟨_, a', c', e', _, hE⟩ := T.out.ac.b.rd
        cases e'
        obtain ⟨eb, eo, rfl, hE2⟩ := rd_at hE hent.1
        have c1 := hE2 _ _ hent.1; have c2 := hE2 _ _ hent.2
        rw [← Nat.add_assoc] at c2
        have HT := Lib.hid ht; clear ht hE hE2 hent
        go_upto_region 8 with fail
        have hb8 : Below w.heap.size w (wr.alloc (.cells #[.int .u64 (V (4 + t)), .int .u64 (V (16 + t))] 84)) := T.out.ab.a.bel.trans ((below_alloc _ _).mono T.out.ab.a.lt)
        have d0 : (wr.alloc (.cells #[.int .u64 (V (4 + t)), .int .u64 (V (16 + t))] 84)).cell? ⟨wr.heap.size, 0, none⟩ = some (.int .u64 (V (4 + t))) := (Blk.new _ _ _).cell rfl
        have d1 : (wr.alloc (.cells #[.int .u64 (V (4 + t)), .int .u64 (V (16 + t))] 84)).cell? ⟨wr.heap.size, 1, none⟩ = some (.int .u64 (V (16 + t))) := (Blk.new _ _ _).cell rfl
        have T8 := Lib.hid (T.out.keep (below_alloc wr (.cells #[.int .u64 (V (4 + t)), .int .u64 (V (16 + t))] 84)))
        have hsz : wr.heap.size < (wr.alloc (.cells #[.int .u64 (V (4 + t)), .int .u64 (V (16 + t))] 84)).heap.size := by simp
        generalize hw8 : wr.alloc (.cells #[.int .u64 (V (4 + t)), .int .u64 (V (16 + t))] 84) = w8 at *
        have HQ1 := Lib.hid (fun k => quiet_eq (HL1.out (w8.drewN k) (hb8.trans ((Qt.drewN w8 k).below.mono hb8.size))))
        have HQ2 := Lib.hid (fun k (h0 : 0 < n) => quiet_eq (HK.out (w8.drewN k) (hb8.trans ((Qt.drewN w8 k).below.mono hb8.size)) h0))
        have H8 := Lib.hid hb8; clear hb8 hw8
        go_cut [45] (fun u wx => u = .bool (decide (i = 0) && bad) ∧ Qt w8 wx)
        case first =>
          by_cases hi0 : i = 0
          · subst hi0
            have e0 : keyAt V sV 0 = V (4 + t) := by unfold keyAt; rw [List.getD, HT.out]; rfl
            rw [e0] at HB
            rw [show ((0 : Nat) : Int) = 0 from rfl]
            generalize keyAt W sW (n - 1) = kW at *
            clear e0
            by_cases hn0 : 0 < n
            · have hn0' : (0 : Int) < (n : Int) := by omega
              go_quiet ((first | (go_at_call 64; exact HQ1.out _) | (go_at_call 66; exact HQ2.out _ hn0)))
              go_wp2_with fail
              go_meet
              exact ⟨by rw [HB.out]; simp [hn0, hlt], Qt.drewN _ _⟩
            · have hn0' : ¬ (0 : Int) < (n : Int) := by omega
              have hdd : decide ((0 : Int) < (n : Int)) = false := by simpa using hn0'
              go_quiet ((first | (go_at_call 64; exact HQ1.out _) | (go_at_call 66; exact HQ2.out _ hn0)))
              go_wp2_with fail
              go_meet
              exact ⟨by rw [HB.out]; simp [hn0], Qt.drewN _ _⟩
          · have hbi : ((i : Int) == 0) = false := by simp; omega
            go_quiet (fail)
            go_wp2_with fail
            go_meet
            exact ⟨by simp [hi0], Qt.drewN _ _⟩
        case rest =>
          obtain ⟨rfl, q9⟩ := hcut
          obtain ⟨w9, hw9⟩ : ∃ x, x = wc := ⟨_, rfl⟩
          subst hw9
          have T9 := Lib.hid (T8.out.keep q9.below)
          have B9 := Lib.hid (H8.out.trans (q9.below.mono H8.out.size))
          have c0 : w9.cell? ⟨wr.heap.size, 0, none⟩ = some (.int .u64 (V (4 + t))) := by obtain ⟨k, rfl⟩ := q9; exact d0
          have c1' : w9.cell? ⟨wr.heap.size, 1, none⟩ = some (.int .u64 (V (16 + t))) := by obtain ⟨k, rfl⟩ := q9; exact d1
          have hs9 : wr.heap.size < w9.heap.size := Nat.lt_of_lt_of_le hsz q9.below.size
          have HLT := Lib.hid T.out.ab.a.own.lt
          clear q9 d0 d1 hsz HQ1 HQ2 T8 H8 T c1 c2
          by_cases hstop : i = 0 ∧ bad = true
          · have hd : (decide (i = 0) && bad) = true := by simp [hstop.1, hstop.2]
            rw [hd]
            have E1 : Hid (J = ([], 1)) := by
              show J = _
              have := HB.out; rw [hstop.2] at this
              rw [E.out, if_pos (by simpa using this.symm)]
            clear hd hstop
            go_wp2_with fail
            go_ret2
            rw [E1.out]
            exact ⟨_, rfl, Acc.nil w _ _ _ _ B9.out B9.out.size⟩
          · have hd : (decide (i = 0) && bad) = false := by
              rcases Classical.em (i = 0) with h | h
              · cases bad
                · simp
                · exact absurd ⟨h, rfl⟩ hstop
              · simp [h]
            have HBF : Hid (bad = true → i + 1 = 0) := fun hb => by
              exact absurd ⟨HB0.out hb, hb⟩ hstop
            rw [hd]
            have hjl := (joinSt_len at' V sV sW i).1
            rw [hl1.out.1] at hjl
            have hj12 := joinSt_lt at' V sV sW i hW12'.out (by rw [hl1.out.1]; omega)
            have HF := Lib.hid (refFree_any (w := w9) (.slice va (n + i) vc) (joinSt at' V sV sW i).1 (by rw [hjl]; exact T9.out.ab.a.rd) (by rw [hjl]; omega))
            obtain ⟨f, hf12, _, _, hf⟩ := refFree_spec (joinSt at' V sV sW i).1 (by rw [hjl]; omega)
            rw [hf] at HF
            have HFF := Lib.hid hf; clear hf hjl hj12 hd hstop
            go_wp2_with fail
            (with_reducible refine HF.out.mono ?_)
            rintro e w' ⟨rfl, rfl⟩
            go_wp2_with (at_builtin; refine wpList_append_sl _ rfl _ _ 105 rfl 3 i0 _ 1 8 Try.underlying105 I.out.1 I.out.2.1 I.out.2.2.1 I.out.2.2.2 rfl (by decide) _ (n + i) (natsI (joinSt at' V sV sW i).1) rfl (by exact T9.out.ab.a.own.alloc _) _ 1 _ rfl (by exact RdSl.newAt _ _ _ 1 1 _ rfl rfl) (one_int _ _) (by unfold maxLen; omega) (by omega) ?_)
            intro v10 w10 o10 g10 b10 n10
            have T10 := Lib.hid (T9.out.left (below_alloc _ _) o10 g10 b10 (by simp))
            have hk10 := kept_cell (g := wr.heap.size) (below_alloc w9 _) g10 hs9 (fun e => by have := HLT.out _ e; omega)
            have d0 := (hk10 0).trans c0; have d1 := (hk10 1).trans c1'
            have hs10 : wr.heap.size < w10.heap.size := Nat.lt_of_lt_of_le (by simp; omega) g10.size
            clear o10 g10 b10 n10 T9 hk10 c0 c1' hs9
            obtain ⟨va', vc', rfl⟩ := T10.out.ab.a.slice
            go_wp2_with (at_builtin; refine wpList_append_sl _ rfl _ _ 72 rfl 78 k0 _ 2 16 Try.underlying72 I2.out.1 I2.out.2.1 I2.out.2.2.1 I2.out.2.2.2 rfl (by decide) _ (2 * i) (flat (joinSt at' V sV sW i).2) rfl (by exact T10.out.ab.b.own.alloc _) _ 2 (flat [(at' + 8 * (4 + f), V (4 + t)), (at' + 8 * (16 + f), V (16 + t))]) rfl (by exact RdSl.newAt _ _ _ 2 2 _ (by simp) rfl) (flat_one _) (by unfold maxLen; omega) (by omega) ?_)
            intro v11 w11 o11 g11 b11 n11
            have T11 := Lib.hid (T10.out.swap.left (below_alloc _ _) o11 g11 b11 (by simp))
            clear o11 g11 b11 n11 T10
            obtain ⟨oa', oc', rfl⟩ := T11.out.ab.a.slice
            go_wp2_with fail
            go_roundw
            case rel => exact ⟨i + 1, by omega, by go_num, HBF.out, RJ.step T11.out.swap HT.out HFF.out⟩
            case measure => simp [intOf]; omega
      · obtain rfl : i = m := by omega
        have hbf : ¬ (0 < n ∧ 0 < i ∧ keyAt V sV 0 ≤ keyAt W sW (n - 1)) := by
          intro hc
          have hb : bad = true := by rw [HB.out]; simpa using hc
          have := HB0.out hb; omega
        have E1 : Hid (J = ((joinSt at' V sV sW i).2 ++ [(at' + 8, V 1), (at' + 16, V 2), (at' + 24, V 3), (at', (ordN (joinSt at' V sV sW i).1 (x / 4503599627370496 + 1) : Nat))], 0)) := by
          show J = _; rw [E.out, if_neg hbf]
        clear hbf
        have hjl := joinSt_len at' V sV sW i
        rw [hl1.out.1] at hjl
        have hj12 := joinSt_lt at' V sV sW i hW12'.out (by rw [hl1.out.1]; omega)
        have HCell : Hid (∀ wx, Below w.heap.size w wx → wx.cell? ⟨rb, ro + 1, none⟩ = some (.int .u64 (V 1)) ∧ wx.cell? ⟨rb, ro + 2, none⟩ = some (.int .u64 (V 2)) ∧ wx.cell? ⟨rb, ro + 3, none⟩ = some (.int .u64 (V 3))) := fun wx hb => by
          obtain ⟨b', o', c', e', _, hx⟩ := HR2.out wx hb
          cases e'
          exact ⟨hx 1 (by omega), hx 2 (by omega), hx 3 (by omega)⟩
        have hxc : x / 4503599627370496 < 4096 := by omega
        generalize x / 4503599627370496 = ch at *
        have hP := fun wx (h : RdSl wx 1 (.slice va (n + i) vc) (n + i) (natsI (joinSt at' V sV sW i).1)) => permutation_any (w := wx) (.slice va (n + i) vc) (joinSt at' V sV sW i).1 (ch + 1) (by rw [hjl.1]; exact h) (by rw [hjl.1]; omega) (fun s hs => by have := hj12 s hs; omega) (by omega)
        rw [show ((ch + 1 : Nat) : Int) = (ch : Int) + 1 by omega] at hP
        have HP := Lib.hid hP
        have y1 : IntKind.u64.wrap ((ch : Int) + 1) = (ch : Int) + 1 := IntWalk.u64_in _ (by omega)
        have y2 : IntKind.u64.wrap ((at' : Int) + 8) = (at' : Int) + 8 := IntWalk.u64_in _ (by omega)
        have y3 : IntKind.u64.wrap ((at' : Int) + 16) = (at' : Int) + 16 := IntWalk.u64_in _ (by omega)
        have y4 : IntKind.u64.wrap ((at' : Int) + 24) = (at' : Int) + 24 := IntWalk.u64_in _ (by omega)
        have HJL := Lib.hid hjl
        clear hP hjl hj12
        have hm28 : (28 : Int) ≤ rc := by omega
        go_upto_region 14 with fail
        have BW := Lib.hid (show Below w.heap.size w wr.drew from T.out.ab.a.drew.bel)
        have RD := Lib.hid T.out.ab.a.rd.drew
        have BT := Lib.hid T.out.ab.a.bel
        go_region_held3 (fun wx => wx.cell? ⟨rb, ro + 1, none⟩ = some (.int .u64 (V 1)) ∧ wx.cell? ⟨rb, ro + 2, none⟩ = some (.int .u64 (V 2)) ∧ wx.cell? ⟨rb, ro + 3, none⟩ = some (.int .u64 (V 3))) (first | (with_reducible exact HCell.out _ P10.out.bel) | (with_reducible exact HCell.out _ BW.out) | (with_reducible exact HCell.out _ ((BT.out.trans ((below_alloc _ _).mono BT.out.size)).drew)) | (with_reducible exact HCell.out _ BT.out)) (first | (go_at_call 68; (with_reducible refine (HC.out _ BW.out).mono ?_); rintro e w' ⟨rfl, rfl⟩) | (go_at_call 46; (with_reducible refine (HP.out _ RD.out).mono ?_); rintro e w' ⟨rfl, rfl⟩) | (refine step_append_sl rfl (.tmp 74) (.tmp 100) 72 rfl 78 k0 _ 2 16 Try.underlying72 I2.out.1 I2.out.2.1 I2.out.2.2.1 I2.out.2.2.2 rfl (by decide) _ (2 * i) (flat (joinSt at' V sV sW i).2) rfl (by exact T.out.ab.b.own.drew.alloc _) _ 4 (flat [(at' + 8, V 1), (at' + 16, V 2), (at' + 24, V 3), (at', ((ordN (joinSt at' V sV sW i).1 (ch + 1) : Nat) : Int))]) rfl (by exact RdSl.newAt _ _ _ 2 4 _ (by simp) rfl) (flat_one _) (by unfold maxLen; omega) (by omega) ?_; intro v10 w10 o10 g10 b10; have P10 := Lib.hid (T.out.ab.b.drew.next (below_alloc _ _) o10 g10 b10 (by simp)); clear o10 g10 b10))
        all_goals go_wp2_with fail
        all_goals go_ret2
        all_goals rw [E1.out]
        all_goals exact ⟨_, rfl, P10.out.congr (by rw [List.length_append, HJL.out.2]; rfl) (flat_append _ _).symm⟩
end
end Go.Proofs.Ytkoijmoendepgaa
