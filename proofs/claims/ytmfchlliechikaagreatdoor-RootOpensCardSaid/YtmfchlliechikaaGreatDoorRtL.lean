/- The walk of Open of package root. -/
import Derived.Test.YtmfchlliechikaaGreatDoorRtK
import Derived.StringKeys
namespace Go.Proofs.YtmfchlliechikaaGreatDoor
open Go.RowKit Go.Maps
attribute [local go_sem ↓] Go.wp_at_zero Go.wp_at_succ

/-- A used entry whose tag or name is wrong; one whose name stands ahead of it, too. -/
def badE (W : Nat → Nat) (e : Nat) : Bool := usedE W e && (W (4 * e + 3) != tagN (W (4 * e)) (W (4 * e + 1)) || !nameB (nameE W e))
def keysE (W : Nat → Nat) (e : Nat) : List (List UInt8) := ((List.range e).filter (usedE W)).map (nameE W)
def dupE (W : Nat → Nat) (e : Nat) : Bool := usedE W e && decide (nameE W e ∈ keysE W e)
def twE (W : Nat → Nat) (e : Nat) : Bool := (List.range e).any (dupE W)
/-- The error of Open. -/
def opnE (W : Nat → Nat) : Nat := if (List.range 16).any (badE W) then 10 else if twE W 16 then 11 else 0
theorem keysE_succ (W : Nat → Nat) (e : Nat) : keysE W (e + 1) = if usedE W e then keysE W e ++ [nameE W e] else keysE W e := by
  unfold keysE
  rw [List.range_succ, List.filter_append, List.map_append]
  cases h : usedE W e <;> simp [h]
theorem twE_succ (W : Nat → Nat) (e : Nat) : twE W (e + 1) = (twE W e || dupE W e) := by
  unfold twE
  rw [List.range_succ, List.any_append]
  simp
theorem any_none {p : Nat → Bool} {n : Nat} (h : NoneB p n) : (List.range n).any p = false := by
  rw [List.any_eq_false]
  intro x hx
  rw [h x (List.mem_range.1 hx)]; simp
theorem any_hit {p : Nat → Bool} {n e : Nat} (he : e < n) (h : p e = true) : (List.range n).any p = true := by
  rw [List.any_eq_true]
  exact ⟨e, List.mem_range.2 he, h⟩
/-- The map says which names are in K. -/
def SetN (N : DataW Unit) (K : List (List UInt8)) : Prop := ∀ x : List UInt8, N.atKey (.string x) (.lit (.bool false)) = .lit (.bool (decide (x ∈ K)))
theorem SetN.nil : SetN (.map []) [] := fun x => by simp [DataW.atKey]
theorem SetN.put {N : DataW Unit} {K : List (List UInt8)} (h : SetN N K) (hN : IsMap N) (o : List UInt8) : SetN (N.put (.string o) (.lit (.bool true))) (K ++ [o]) := fun x => by
  by_cases e : x = o
  · subst e
    rw [atKey_put_same hN (show WideAt.IsKeyLit (.string x) from trivial)]
    simp
  · rw [atKey_put_other (by intro h; injection h with h; exact e h), h x]
    simp [e]
theorem elem_bool_inv {P : Program} {e : TypeId} (he : P.underlying e = some .bool) {v : Value} {z : DataW Unit × List MemPlace} (h : plainElem P e v = some z) : ∃ b, v = .bool b ∧ z = (.lit (.bool b), []) := by
  unfold plainElem at h
  rw [he] at h
  cases v <;> simp at h
  exact ⟨_, rfl, h.symm⟩
theorem lawStr : Keyed Tryz.prog 9 := string_keyed Tryz.underlying9
theorem zeroBo (w : World) : (zeroValue 4).run Tryz.prog w = .ok (.bool false) w := by kernel_rfl
section
variable {w : World}
theorem look_name {b m : Nat} {N : DataW Unit} {K : List (List UInt8)} (h : w.ownsMap Tryz.prog 9 (plainElem Tryz.prog 4) b m N) (hK : SetN N K) (s : ByteArray) (hs : s.size ≤ maxLen) :
    (Instr.lookup 125 (.map (some b)) (.string s) false).run Tryz.prog w = .ok (.bool (decide (s.data.toList ∈ K))) w := by
  obtain ⟨v, ps, hrun, hv⟩ := h.lookup lawStr Tryz.underlying125 (zeroBo w) (plainElem_bool Tryz.underlying4 false) (WideMaps.keyOf_string_mk Tryz.underlying9 hs)
  obtain ⟨x, rfl, hx⟩ := elem_bool_inv Tryz.underlying4 hv
  rw [hK] at hx
  simp only [Prod.mk.injEq, DataW.lit.injEq, Lit.bool.injEq] at hx
  rw [hrun, hx.1]
/-- Where Open stands: the handle, the entries, the set of names. -/
structure OpSt (w : World) (h : Nat) (H : Array Value) (g : Nat) (A : Array Value) (mb : Nat) (K : List (List UInt8)) (wr : World) : Prop where
  hb : Blk wr h H 120
  blk : Blk wr g A 122
  m : ∃ (N : DataW Unit) (m : Nat), m ≤ K.length ∧ wr.ownsMap Tryz.prog 9 (plainElem Tryz.prog 4) mb m N ∧ SetN N K
  bel : Below w.heap.size w wr
  new : w.heap.size ≤ mb
  n1 : h ≠ mb
  n2 : g ≠ mb
variable {h g mb : Nat} {H A : Array Value} {K : List (List UInt8)} {wr wz w1 : World}
theorem OpSt.keep (s : OpSt w h H g A mb K wr) (hz : Below wr.heap.size wr wz) : OpSt w h H g A mb K wz := by
  obtain ⟨N, m, h1, h2, h3⟩ := s.m
  exact ⟨s.hb.below hz, s.blk.below hz, ⟨N, m, h1, h2.kept (row := none) ⟨hz.os, hz.tape, hz.output, hz.size, fun k hk _ => hz.block k hk⟩ (by simp), h3⟩, s.bel.trans (hz.mono s.bel.size), s.new, s.n1, s.n2⟩
theorem OpSt.put (s : OpSt w h H g A mb K wr) (hz : wr.grownBy w1 (some mb)) {N : DataW Unit} {m : Nat} {o : List UInt8} (hm : m ≤ K.length) (hN : IsMap N) (hS : SetN N K) (h1 : w1.ownsMap Tryz.prog 9 (plainElem Tryz.prog 4) mb (m + 1) (N.put (.string o) (.lit (.bool true)))) :
    OpSt w h H g A mb (K ++ [o]) w1 :=
  ⟨(hz.block h s.hb.lt (fun e => s.n1 (Option.some.inj e))).trans s.hb, (hz.block g s.blk.lt (fun e => s.n2 (Option.some.inj e))).trans s.blk, ⟨_, m + 1, by simp; omega, h1, hS.put hN o⟩,
    s.bel.grown hz s.bel.size (fun k hk => by cases hk; exact s.new), s.new, s.n1, s.n2⟩
end
section
variable {w : World} {v : DV} {own : Nat → Option Role} {D : Dev} {j : Nat} {W : Nat → Nat}
/-- What Open answers where the memory has the lines and no error. -/
def Op14 (w : World) (v : DV) (j off : Nat) (W : Nat → Nat) (r : Ending) (w' : World) : Prop :=
  (opnE W ≠ 0 ∧ r = .returned (.tuple #[.pointer none, .int .i64 (opnE W : Nat)]) ∧ Below w.heap.size w w') ∨
  (opnE W = 0 ∧ r = .returned (.tuple #[.pointer (some ⟨w.heap.size, 0, none⟩), .int .i64 0]) ∧ DirAt w' w.heap.size off (.iface 42 (.pointer (some ⟨v.tb j, 0, none⟩))) ∧ Below w.heap.size w w')
/-- The box of a round. -/
structure RdB (g : Nat) (c : Array Value) (w wx : World) : Prop where
  blk : Blk wx g c 121
  bel : Below w.heap.size w wx
theorem RdB.next {g : Nat} {c : Array Value} {wx wy : World} (h : RdB g c w wx) (hb : Below wx.heap.size wx wy) : RdB g c w wy := ⟨h.blk.below hb, h.bel.trans (hb.mono h.bel.size)⟩
set_option maxRecDepth 100000 in
set_option maxHeartbeats 16000000 in
theorem rtOpen_any (h : IsDev w v own D) (hN : Nib w) (hj : j < 8) (l : Nat) (hof : D.off = false) (he : D.err j = 0) (hW : WAt D (64 * l) W) :
    Calls Tryz.prog 18 #[.iface 42 (.pointer (some ⟨v.tb j, 0, none⟩)), .int .i64 l] w (Op14 w v j (64 * l) W) := by
  have hwf := h.wf.le
  have hfit := hW.fit
  have hn := rtlacks_any h hj l (by omega)
  rw [show lackB D.n l = false by unfold lackB; simp; omega] at hn
  have HN := Lib.hid hn
  have hmm := @run_makeMap Tryz.prog
  have HNB := Lib.hid hN
  have H := Lib.hid h
  have hlb : l ≤ 4096 := by omega
  have HON := Lib.hid (fun (wx : World) (b : Nat) (hd : IsDev wx v own D) (hx : DirAt wx b (64 * l) (.iface 42 (.pointer (some ⟨v.tb j, 0, none⟩)))) => (show DOn wx v own D j b (64 * l) W from ⟨hd, hj, hx, hof, he, hW⟩).load)
  have HIA := Lib.hid (info16n W); have HSZ : Hid (64 = (wsN W).size) := (wsN_size W).symm
  have HOA2 : Hid ((wsN W).all (·.oneCell') = true) := wsA_one _
  have HIX := Lib.hid (fun (e : Nat) (he : e < 16) (wx : World) => idx16 W e he wx)
  have HNMW := Lib.hid (fun (wx : World) (e : Nat) => rtname_any (w := wx) (W (4 * e)) (W (4 * e + 1)) (W (4 * e + 2)) (W (4 * e + 3)) (hW.bd _) (hW.bd _))
  have HTG := Lib.hid (fun (wx : World) (hx : Nib wx) (e : Nat) => rttag_any (w := wx) hx (W (4 * e)) (W (4 * e + 1)) (W (4 * e + 2)) (W (4 * e + 3)) (hW.bd _) (hW.bd _))
  have HNV := Lib.hid (fun (wx : World) (s : ByteArray) => rtName_any (w := wx) s)
  obtain ⟨o, ho⟩ : ∃ o, 64 * l = o := ⟨_, rfl⟩
  have q1 : (l : Int) * 64 = (o : Int) := by omega
  have hol : o ≤ 262144 := by omega
  rw [ho] at HON ⊢
  have HO1 : Hid ((List.range 16).any (badE W) = true → opnE W = 10) := fun h => by unfold opnE; rw [h]; rfl
  have HO2 : Hid ((List.range 16).any (badE W) = false → opnE W = if twE W 16 then 11 else 0) := fun h => by unfold opnE; rw [h]; rfl
  have HB0 : Hid (DirAt (w.alloc (.cells #[.iface 42 (.pointer (some ⟨v.tb j, 0, none⟩)), .int .u64 o] 120)) w.heap.size o (.iface 42 (.pointer (some ⟨v.tb j, 0, none⟩)))) := ⟨Blk.new w _ _⟩
  have HBB := Lib.hid (below_alloc w (.cells #[.iface 42 (.pointer (some ⟨v.tb j, 0, none⟩)), .int .u64 o] 120))
  generalize wsN W = A at *
  clear h hN hn hof he hW ho hwf hfit
  go_enter Tryz.func18, Tryz.ntmps18
  go_wp2_with fail
  (with_reducible refine HN.out.mono ?_)
  rintro r w' ⟨rfl, rfl⟩
  go_wp2_with fail
  (with_reducible refine (HON.out _ _ (H.out.below HBB.out) HB0.out).mono ?_)
  rintro r w1 ⟨rfl, b1⟩
  have D1 := Lib.hid (HB0.out.next b1)
  have B1 := Lib.hid (HBB.out.trans (b1.mono HBB.out.size))
  clear b1 HON HB0 HBB
  go_wp2_with (first | (refine wpList_store_row rfl 122 (.tmp 7) (.tmp 27) rfl w1.heap.size A rfl rfl 122 _ (Blk.new w1 _ _) HIA.out HSZ.out HOA2.out ?_; obtain ⟨w2, hw2, k2, b2⟩ := wsn_alloc w1 _ A; rw [hw2]; have K2 := Lib.hid k2; have D2 := Lib.hid (D1.out.next b2); have B2 := Lib.hid (B1.out.trans (b2.mono B1.out.size)); have L2 := Lib.hid b2.size; have M0 := Lib.hid (World.ownsMap_made (H := Unit) w2 Tryz.prog 9 (plainElem Tryz.prog 4)); clear hw2 k2 b2 B1 D1) | (refine wpList_load_row rfl 122 (.tmp 7) rfl w1.heap.size rfl 122 A (0, 0) _ ((K2.out.alloc _)) Tryz.underlying122 rfl HIA.out ?_))
  have S0 : Hid (OpSt w w.heap.size #[.iface 42 (.pointer (some ⟨v.tb j, 0, none⟩)), .int .u64 o] w1.heap.size A w2.heap.size (keysE W 0) (w2.alloc (.map #[] 0))) := by
    refine ⟨D2.out.blk.alloc _, K2.out.alloc _, ⟨_, 0, Nat.le_refl _, M0.out, SetN.nil⟩, B2.out.trans ((below_alloc _ _).mono B2.out.size), B2.out.size, ?_, ?_⟩
    · have := D2.out.blk.lt; omega
    · have := K2.out.lt; omega
  clear K2 D2 B2 M0 L2
  have HIW : Hid ((Tryz.prog.info? 121).map (·.size) = some 4) := by show _ = _; kernel_rfl
  go_loopw [10, 12, 13, 14, 34] (fun tv _ _ _ y wr => ∃ e : Nat, e ≤ 16 ∧ y = .int .i64 e ∧ tv = .bool (twE W e) ∧ OpSt w w.heap.size #[.iface 42 (.pointer (some ⟨v.tb j, 0, none⟩)), .int .u64 o] w1.heap.size A w2.heap.size (keysE W e) wr ∧ NoneB (badE W) e) (fun _ _ _ _ y _ => 16 - (intOf y).toNat)
  case atStart => exact ⟨0, by omega, rfl, rfl, S0.out, fun j hj => by omega⟩
  case round =>
    clear S0
    generalize w2.heap.size = mb at *
    generalize w1.heap.size = g at *
    obtain ⟨e, he, rfl, rfl, hs, hno⟩ := hrel
    have S := Lib.hid hs; have NO := Lib.hid hno
    clear hs hno
    by_cases hlt : e < 16
    · have he' : (e : Int) < 16 := by omega
      have hix := fun wx => HIX.out e hlt wx
      have hnmw := fun wx => HNMW.out wx e
      have htg := fun wx hx => HTG.out wx hx e
      have hks := keysE_succ W e
      have htw := twE_succ W e
      have hbad : badE W e = (usedE W e && (W (4 * e + 3) != tagN (W (4 * e)) (W (4 * e + 1)) || !nameB (nameE W e))) := rfl
      have hdup : dupE W e = (usedE W e && decide (nameE W e ∈ keysE W e)) := rfl
      have hus : usedE W e = (W (4 * e + 3) != 0) := rfl
      have hnm : nameE W e = nmL (W (4 * e)) (W (4 * e + 1)) := rfl
      have htl := tagN_lt (W (4 * e)) (W (4 * e + 1))
      rw [hus] at hks hbad hdup
      rw [hnm] at hks hbad hdup
      rw [hdup] at htw
      obtain ⟨x0, hx0⟩ : ∃ x, W (4 * e) = x := ⟨_, rfl⟩
      obtain ⟨x1, hx1⟩ : ∃ x, W (4 * e + 1) = x := ⟨_, rfl⟩
      obtain ⟨x2, hx2⟩ : ∃ x, W (4 * e + 2) = x := ⟨_, rfl⟩
      obtain ⟨x3, hx3⟩ : ∃ x, W (4 * e + 3) = x := ⟨_, rfl⟩
      rw [hx0, hx1, hx2, hx3] at hix hnmw htg
      rw [hx0, hx1, hx3] at hks hbad
      rw [hx0, hx1, hx3] at htw
      rw [hx0, hx1] at htl
      have hes : enS x0 x1 x3 = if x3 = 0 then ⟨#[]⟩ else nmS x0 x1 := rfl
      have hns := nmS_list x0 x1
      generalize tagN x0 x1 = tg at *
      generalize nmL x0 x1 = nl at *
      generalize nmS x0 x1 = ns at *
      have HBAD := Lib.hid hbad; have HKS := Lib.hid hks; have HTW := Lib.hid htw; have HTGE := Lib.hid htg
      have S1 := Lib.hid (S.out.keep (below_alloc wr (.cells #[.int .u64 x0, .int .u64 x1, .int .u64 x2, .int .u64 x3] 121)))
      have R1 : Hid (RdB wr.heap.size #[.int .u64 x0, .int .u64 x1, .int .u64 x2, .int .u64 x3] w (wr.alloc (.cells #[.int .u64 x0, .int .u64 x1, .int .u64 x2, .int .u64 x3] 121))) := ⟨Blk.new wr _ _, S1.out.bel⟩
      clear hx0 hx1 hx2 hx3 hbad hks htw hdup hus hnm htg S
      by_cases h3 : x3 = 0
      · rw [show (x3 != 0) = false by simp [h3]] at hnmw
        have HNE := Lib.hid hnmw
        have HK2 : Hid (keysE W (e + 1) = keysE W e) := by show _ = _; rw [HKS.out]; simp [h3]
        have HT2 : Hid (twE W (e + 1) = twE W e) := by show _ = _; rw [HTW.out]; simp [h3]
        have NO2 : Hid (NoneB (badE W) (e + 1)) := fun j hj => by
          by_cases ej : j = e
          · subst ej; rw [HBAD.out]; simp [h3]
          · exact NO.out j (by omega)
        generalize enS x0 x1 x3 = es at *
        clear h3 hes hnmw
        go_wp2_with fail
        (with_reducible refine (HNE.out _).mono ?_)
        rintro r w' ⟨rfl, b1⟩
        have S2 := Lib.hid (S1.out.keep b1)
        clear b1 R1
        go_wp2_with fail
        go_roundw
        case rel => exact ⟨e + 1, by omega, by go_num, by rw [HT2.out], by rw [HK2.out]; exact S2.out, NO2.out⟩
        case measure => simp [intOf]; omega
      · rw [if_neg h3] at hes
        rw [hes, show (x3 != 0) = true by simp [h3]] at hnmw
        have HNE := Lib.hid hnmw
        have H3 := Lib.hid h3
        clear h3 hes hnmw
        go_wp2_with fail
        (with_reducible refine (HNE.out _).mono ?_)
        rintro r w5 ⟨rfl, b1⟩
        have S2 := Lib.hid (S1.out.keep b1)
        have R2 := Lib.hid (R1.out.next b1)
        clear b1 S1 R1
        generalize wr.heap.size = gw at *
        have R3 := Lib.hid (R2.out.next ((Below.refl _ _).drew))
        have S3 := Lib.hid (S2.out.keep ((Below.refl _ _).drew))
        clear R2 S2
        go_wp2_with fail
        refine wp_region_held (S := (fun wx => RdB gw #[.int .u64 x0, .int .u64 x1, .int .u64 x2, .int .u64 x3] w wx)) (by kernel_rfl) ?_
        change wpAnyH _ _ _ _ _ _ _ _ (World.drew _)
        refine wpAnyH_take (i := 0) (v := .pointer (some ⟨gw, 3, none⟩)) rfl (by kernel_rfl) (by kernel_rfl) (by kernel_rfl) (fun _ _ _ h => h) (Or.inl ⟨by kernel_rfl, fun w _ => by go_simp⟩) R3.out ?_
        refine wpAnyH_take (i := 1) (v := .int .u64 x3) rfl (by kernel_rfl) (by kernel_rfl) (by kernel_rfl) (fun _ _ _ h => h) (Or.inl ⟨by kernel_rfl, fun wx hx => (by have c := hx.blk.cell (i := 3) (v := .int .u64 x3) rfl; go_simp)⟩) R3.out ?_
        refine wpAnyH_take (i := 2) (v := .agg #[.int .u64 x0, .int .u64 x1, .int .u64 x2, .int .u64 x3]) rfl (by kernel_rfl) (by kernel_rfl) (by kernel_rfl) (fun _ _ _ h => h) (Or.inl ⟨by kernel_rfl, fun wx hx => exec_load_row 121 (.tmp 12) rfl gw rfl 121 #[.int .u64 x0, .int .u64 x1, .int .u64 x2, .int .u64 x3] (0, 0) _ hx.blk Tryz.underlying121 rfl HIW.out⟩) R3.out ?_
        refine wpAnyH_one (i := 3) (by kernel_rfl) rfl rfl (fun K hK => ?_)
        go_simp
        (with_reducible refine (HTGE.out _ (HNB.out.below R3.out.bel)).mono ?_)
        rintro r w6 ⟨rfl, b6⟩
        have R4 := Lib.hid (R3.out.next b6)
        have S4 := Lib.hid (S3.out.keep b6)
        clear b6
        go_simp
        refine hK _ _ ⟨R4.out, ?_⟩
        clear hK K
        clear R3 S3
        by_cases ht : x3 = tg
        · have hbt : ((x3 : Int) != (tg : Int)) = false := by simp; omega
          have HT1 : Hid ((x3 != tg) = false) := by show _ = _; simp [ht]
          clear ht
          refine wpAnyH_take (i := 4) (v := .bool false) rfl (by kernel_rfl) (by kernel_rfl) (by kernel_rfl) (fun _ _ _ h => h) (Or.inl ⟨by kernel_rfl, fun w _ => by go_simp⟩) R4.out ?_
          refine wpAnyH_take (i := 5) (v := .bool false) rfl (by kernel_rfl) (by kernel_rfl) (by kernel_rfl) (fun _ _ _ h => h) (Or.inl ⟨by kernel_rfl, fun w _ => by go_simp⟩) R4.out ?_
          refine wpAnyH_take (i := 6) (v := .string ns) rfl (by kernel_rfl) (by kernel_rfl) (by kernel_rfl) (fun _ _ _ h => h) (Or.inl ⟨by kernel_rfl, fun w _ => by go_simp⟩) R4.out ?_
          have hnv := HNV.out w6 ns
          rw [hns] at hnv
          cases hnb : nameB nl
          · rw [hnb] at hnv
            have HNV2 := Lib.hid hnv
            have HE10 : Hid (opnE W = 10) := HO1.out (any_hit hlt (by rw [HBAD.out, hnb, HT1.out]; simp [H3.out]))
            clear hnv hnb
            refine wpAnyH_one (i := 7) (by kernel_rfl) rfl (by kernel_rfl) (fun K hK => ?_)
            go_simp
            (with_reducible refine HNV2.out.mono ?_)
            rintro r w' ⟨rfl, rfl⟩
            go_simp
            refine hK _ _ ⟨R4.out, ?_⟩
            clear hK K
            refine wpAnyH_take (i := 8) (v := .bool true) rfl (by kernel_rfl) (by kernel_rfl) (by kernel_rfl) (fun _ _ _ h => h) (Or.inl ⟨by kernel_rfl, fun w _ => by go_simp⟩) R4.out ?_
            refine wpAnyH_take (i := 9) (v := .bool true) rfl (by kernel_rfl) (by kernel_rfl) (by kernel_rfl) (fun _ _ _ h => h) (Or.inl ⟨by kernel_rfl, fun w _ => by go_simp⟩) R4.out ?_
            refine wpAnyH_done (by kernel_rfl) ?_ _
            go_wp2_with fail
            go_ret2
            exact .inl ⟨by rw [HE10.out]; decide, by rw [HE10.out]; rfl, R4.out.bel⟩
          · rw [hnb] at hnv
            have HNV2 := Lib.hid hnv
            have NO2 : Hid (NoneB (badE W) (e + 1)) := fun j hj => by
              by_cases ej : j = e
              · subst ej; rw [HBAD.out, hnb, HT1.out]; simp
              · exact NO.out j (by omega)
            have HK2 : Hid (keysE W (e + 1) = keysE W e ++ [nl]) := by show _ = _; rw [HKS.out]; simp [H3.out]
            have HT2 : Hid (twE W (e + 1) = (twE W e || decide (nl ∈ keysE W e))) := by show _ = _; rw [HTW.out, show (x3 != 0) = true by simp [H3.out], Bool.true_and]
            have HNL := Lib.hid (nameB_ok hnb)
            clear hnv hnb
            refine wpAnyH_one (i := 7) (by kernel_rfl) rfl (by kernel_rfl) (fun K hK => ?_)
            go_simp
            (with_reducible refine HNV2.out.mono ?_)
            rintro r w' ⟨rfl, rfl⟩
            go_simp
            refine hK _ _ ⟨R4.out, ?_⟩
            clear hK K
            refine wpAnyH_take (i := 8) (v := .bool false) rfl (by kernel_rfl) (by kernel_rfl) (by kernel_rfl) (fun _ _ _ h => h) (Or.inl ⟨by kernel_rfl, fun w _ => by go_simp⟩) R4.out ?_
            refine wpAnyH_take (i := 9) (v := .bool false) rfl (by kernel_rfl) (by kernel_rfl) (by kernel_rfl) (fun _ _ _ h => h) (Or.inl ⟨by kernel_rfl, fun w _ => by go_simp⟩) R4.out ?_
            refine wpAnyH_done (by kernel_rfl) ?_ _
            obtain ⟨N, mm, hmK, hown, hset⟩ := S4.out.m
            have hkl : (keysE W e).length ≤ 16 := by unfold keysE; rw [List.length_map]; have := List.length_filter_le (usedE W) (List.range e); rw [List.length_range] at this; omega
            have hmlen : mm < maxLen := by unfold maxLen; omega
            have hnsz : ns.size ≤ maxLen := by have := HNL.out.le; rw [← hns, str_len] at this; unfold maxLen; omega
            have hkey := WideMaps.keyOf_string_mk (P := Tryz.prog) Tryz.underlying9 hnsz
            have hlk := look_name hown hset ns hnsz
            rw [← ByteArray.toList_eq, hns] at hlk hkey
            have HX := Lib.hid (And.intro hmK (And.intro hown hset))
            have HKEY := Lib.hid hkey
            clear hmK hown hset hkl hnsz hkey hns
            cases htw : twE W e
            · rw [htw, Bool.false_or] at HT2
              generalize decide (nl ∈ keysE W e) = dk at *
              go_wp2_with (at_mapUpdate; refine wpList_mapUpdate_own _ rfl _ _ _ 125 rfl 9 4 lawStr Tryz.underlying125 _ mb mm _ rfl HX.out.2.1 hmlen _ _ _ rfl rfl HKEY.out _ [] (plainElem_bool Tryz.underlying4 true) ?_; intro w7 o7 g7)
              have S7 := Lib.hid (S4.out.put g7 HX.out.1 HX.out.2.1.isMap HX.out.2.2 o7)
              clear o7 g7 HX S4 R4
              go_wp2_with fail
              go_roundw
              case rel => exact ⟨e + 1, by omega, by go_num, by rw [HT2.out], by rw [HK2.out]; exact S7.out, NO2.out⟩
              case measure => simp [intOf]; omega
            · rw [htw, Bool.true_or] at HT2
              go_wp2_with (at_mapUpdate; refine wpList_mapUpdate_own _ rfl _ _ _ 125 rfl 9 4 lawStr Tryz.underlying125 _ mb mm _ rfl HX.out.2.1 hmlen _ _ _ rfl rfl HKEY.out _ [] (plainElem_bool Tryz.underlying4 true) ?_; intro w7 o7 g7)
              have S7 := Lib.hid (S4.out.put g7 HX.out.1 HX.out.2.1.isMap HX.out.2.2 o7)
              clear o7 g7 HX S4 R4
              go_wp2_with fail
              go_roundw
              case rel => exact ⟨e + 1, by omega, by go_num, by rw [HT2.out], by rw [HK2.out]; exact S7.out, NO2.out⟩
              case measure => simp [intOf]; omega
        · have hbt : ((x3 : Int) != (tg : Int)) = true := by simp; omega
          have HE10 : Hid (opnE W = 10) := HO1.out (any_hit hlt (by rw [HBAD.out]; simp [H3.out, ht]))
          clear ht
          refine wpAnyH_take (i := 4) (v := .bool true) rfl (by kernel_rfl) (by kernel_rfl) (by kernel_rfl) (fun _ _ _ h => h) (Or.inl ⟨by kernel_rfl, fun w _ => by go_simp⟩) R4.out ?_
          refine wpAnyH_take (i := 5) (v := .bool true) rfl (by kernel_rfl) (by kernel_rfl) (by kernel_rfl) (fun _ _ _ h => h) (Or.inl ⟨by kernel_rfl, fun w _ => by go_simp⟩) R4.out ?_
          refine wpAnyH_take (i := 6) (v := undef) rfl (by kernel_rfl) (by kernel_rfl) (by kernel_rfl) (fun _ _ _ h => h) (Or.inr ⟨by kernel_rfl, rfl⟩) R4.out ?_
          refine wpAnyH_take (i := 7) (v := undef) rfl (by kernel_rfl) (by kernel_rfl) (by kernel_rfl) (fun _ _ _ h => h) (Or.inr ⟨by kernel_rfl, rfl⟩) R4.out ?_
          refine wpAnyH_take (i := 8) (v := undef) rfl (by kernel_rfl) (by kernel_rfl) (by kernel_rfl) (fun _ _ _ h => h) (Or.inr ⟨by kernel_rfl, rfl⟩) R4.out ?_
          refine wpAnyH_take (i := 9) (v := .bool true) rfl (by kernel_rfl) (by kernel_rfl) (by kernel_rfl) (fun _ _ _ h => h) (Or.inl ⟨by kernel_rfl, fun w _ => by go_simp⟩) R4.out ?_
          refine wpAnyH_done (by kernel_rfl) ?_ _
          go_wp2_with fail
          go_ret2
          exact .inl ⟨by rw [HE10.out]; decide, by rw [HE10.out]; rfl, R4.out.bel⟩
    · obtain rfl : e = 16 := by omega
      have HE := Lib.hid (HO2.out (any_none NO.out))
      cases htw : twE W 16
      · have HE0 : Hid (opnE W = 0) := by show _ = _; rw [HE.out, htw]; rfl
        go_wp2_with fail
        go_ret2
        exact .inr ⟨HE0.out, rfl, ⟨S.out.hb⟩, S.out.bel⟩
      · have HE0 : Hid (opnE W = 11) := by show _ = _; rw [HE.out, htw]; rfl
        go_wp2_with fail
        go_ret2
        exact .inl ⟨by rw [HE0.out]; decide, by rw [HE0.out]; rfl, S.out.bel⟩
end
end Go.Proofs.YtmfchlliechikaaGreatDoor
