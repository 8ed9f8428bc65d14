/- The walks of slices.SortStableFunc at entries and of List of package root. -/
import Derived.Test.YtmfchlliechikaaGreatDoorRtS
namespace Go.Proofs.YtmfchlliechikaaGreatDoor
open Go.RowKit Go.Maps
attribute [local go_sem ↓] Go.wp_at_zero Go.wp_at_succ

theorem infoEnt : (Tryz.prog.info? 100).map (fun i => (i.zero, i.size, i.bytes)) = some (some (.agg #[.string ⟨#[]⟩, .int .u64 0]), 2, 24) := by kernel_rfl
section
variable {w : World}
set_option maxRecDepth 100000 in
set_option maxHeartbeats 2000000 in
theorem insE_nil : Calls Tryz.prog 107 #[.slice none 0 0, .int .i64 0, .int .i64 0, .func (.func 64) #[] #[]] w fun r w' => r = .returned (.tuple #[]) ∧ w = w' := by
  go_enter Tryz.func107, Tryz.ntmps107
  go_wp2_with fail
  go_loopw [8, 9] (fun y _ wr => y = .int .i64 1 ∧ w = wr) (fun _ _ _ => 0)
  case atStart => exact ⟨rfl, rfl⟩
  case round =>
    obtain ⟨rfl, rfl⟩ := hrel
    go_wp2_with fail
    go_end0
    exact ⟨rfl, rfl⟩
set_option maxRecDepth 100000 in
set_option maxHeartbeats 2000000 in
theorem stableE_nil : Calls Tryz.prog 90 #[.slice none 0 0, .int .i64 0, .func (.func 64) #[] #[]] w fun r w' => r = .returned (.tuple #[]) ∧ w = w' := by
  have HI := Lib.hid (insE_nil (w := w))
  go_enter Tryz.func90, Tryz.ntmps90
  go_wp2_with fail
  go_loopw [7, 8] (fun x y wr => x = .int .i64 0 ∧ y = .int .i64 20 ∧ w = wr) (fun _ _ _ => 0)
  case atStart => exact ⟨rfl, rfl, rfl⟩
  case round =>
    obtain ⟨rfl, rfl, rfl⟩ := hrel
    go_wp2_with fail
    (with_reducible refine HI.out.mono ?_)
    rintro r w' ⟨rfl, rfl⟩
    go_wp2_with fail
    go_loopw [6, 7, 8, 9] (fun x _ _ _ wr => x = .int .i64 20 ∧ w = wr) (fun _ _ _ _ _ => 0)
    case atStart => exact ⟨rfl, rfl⟩
    case round =>
      obtain ⟨rfl, rfl⟩ := hrel
      go_wp2_with fail
      go_end0
      exact ⟨rfl, rfl⟩
set_option maxRecDepth 100000 in
set_option maxHeartbeats 2000000 in
theorem stableE_any (g o n c : Nat) (L : List Ent) (w0 : World) (h : EnAt w0 g o n c L w) (hn : n ≤ 16) :
    Calls Tryz.prog 90 #[.slice (some ⟨g, o, none⟩) n c, .int .i64 n, .func (.func 64) #[] #[]] w fun r w' => r = .returned (.tuple #[]) ∧ EnAt w0 g o n c (srtR L) w' ∧ Below w0.heap.size w0 w' := by
  have HI := Lib.hid (insE_any g o n c L w0 h hn)
  have hn20 : (n : Int) < 20 := by omega
  clear h hn
  go_enter Tryz.func90, Tryz.ntmps90
  go_wp2_with fail
  go_loopw [7, 8] (fun x y wr => x = .int .i64 0 ∧ y = .int .i64 20 ∧ w = wr) (fun _ _ _ => 0)
  case atStart => exact ⟨rfl, rfl, rfl⟩
  case round =>
    obtain ⟨rfl, rfl, rfl⟩ := hrel
    go_wp2_with fail
    (with_reducible refine HI.out.mono ?_)
    rintro r w1 ⟨rfl, h1, h2⟩
    have HH := Lib.hid (And.intro h1 h2)
    clear h1 h2
    go_wp2_with fail
    go_loopw [6, 7, 8, 9] (fun x _ _ _ wr => x = .int .i64 20 ∧ w1 = wr) (fun _ _ _ _ _ => 0)
    case atStart => exact ⟨rfl, rfl⟩
    case round =>
      obtain ⟨rfl, rfl⟩ := hrel
      go_wp2_with fail
      go_end0
      exact ⟨rfl, HH.out⟩
set_option maxRecDepth 100000 in
set_option maxHeartbeats 2000000 in
theorem SortStE_nil : Calls Tryz.prog 63 #[.slice none 0 0, .func (.func 64) #[] #[]] w fun r w' => r = .returned (.tuple #[]) ∧ w = w' := by
  have HI := Lib.hid (stableE_nil (w := w))
  go_enter Tryz.func63, Tryz.ntmps63
  go_wp2_with fail
  (with_reducible refine HI.out.mono ?_)
  rintro r w' ⟨rfl, rfl⟩
  go_wp2_with fail
  go_end0
  exact ⟨rfl, rfl⟩
set_option maxRecDepth 100000 in
set_option maxHeartbeats 2000000 in
theorem SortStE_any (g o n c : Nat) (L : List Ent) (w0 : World) (h : EnAt w0 g o n c L w) (hn : n ≤ 16) :
    Calls Tryz.prog 63 #[.slice (some ⟨g, o, none⟩) n c, .func (.func 64) #[] #[]] w fun r w' => r = .returned (.tuple #[]) ∧ EnAt w0 g o n c (srtR L) w' ∧ Below w0.heap.size w0 w' := by
  have HI := Lib.hid (stableE_any g o n c L w0 h hn)
  clear h hn
  go_enter Tryz.func63, Tryz.ntmps63
  go_wp2_with fail
  (with_reducible refine HI.out.mono ?_)
  rintro r w1 ⟨rfl, h1, h2⟩
  have HH := Lib.hid (And.intro h1 h2)
  clear h1 h2
  go_wp2_with fail
  go_end0
  exact ⟨rfl, HH.out⟩
end
/-- The used entries in order. -/
def entL (W : Nat → Nat) (e : Nat) : List Ent := ((List.range e).filter (usedE W)).map fun e => (nmS (W (4 * e)) (W (4 * e + 1)), W (4 * e + 2))
theorem entL_succ (W : Nat → Nat) (e : Nat) : entL W (e + 1) = if W (4 * e + 3) = 0 then entL W e else entL W e ++ [(nmS (W (4 * e)) (W (4 * e + 1)), W (4 * e + 2))] := by
  unfold entL
  rw [List.range_succ, List.filter_append, List.map_append]
  by_cases h : W (4 * e + 3) = 0
  · rw [if_pos h]
    have hu : usedE W e = false := by simp [usedE, h]
    simp [hu]
  · rw [if_neg h]
    have hu : usedE W e = true := by simp [usedE, h]
    simp [hu]
theorem entL_len (W : Nat → Nat) (e : Nat) : (entL W e).length ≤ e := by
  unfold entL
  rw [List.length_map]
  have := List.length_filter_le (usedE W) (List.range e)
  rw [List.length_range] at this
  exact this
section
variable {w : World} {v : DV} {own : Nat → Option Role} {D : Dev} {j b off : Nat} {W : Nat → Nat}
set_option maxRecDepth 100000 in
set_option maxHeartbeats 8000000 in
theorem rtList_any (h : DOn w v own D j b off W) : Calls Tryz.prog 29 #[.pointer (some ⟨b, 0, none⟩)] w fun r w' => ∃ ov, r = .returned ov ∧ Acc w w.heap.size w' 100 2 ov (entL W 16).length (eC (srtR (entL W 16))) := by
  obtain ⟨i0, hi0, hz0, hz1, hz2⟩ := info_parts infoEnt
  have I := Lib.hid (And.intro hi0 (And.intro hz0 (And.intro hz1 hz2))); clear hi0 hz0 hz1 hz2
  have H := Lib.hid h
  have HIA := Lib.hid (info16n W); have HSZ : Hid (64 = (wsN W).size) := (wsN_size W).symm
  have HOA2 : Hid ((wsN W).all (·.oneCell') = true) := wsA_one _
  have HLD := Lib.hid h.load
  have HIX := Lib.hid (fun (e : Nat) (he : e < 16) (wx : World) => idx16 W e he wx)
  have HNMW := Lib.hid (fun (wx : World) (e : Nat) => rtname_any (w := wx) (W (4 * e)) (W (4 * e + 1)) (W (4 * e + 2)) (W (4 * e + 3)) (h.wat.bd _) (h.wat.bd _))
  generalize wsN W = A at *
  clear h
  go_enter Tryz.func29, Tryz.ntmps29
  go_wp2_with fail
  (with_reducible refine (H.out.has).mono ?_)
  rintro r w' ⟨rfl, rfl⟩
  go_wp2_with fail
  (with_reducible refine HLD.out.mono ?_)
  rintro r w1 ⟨rfl, b1⟩
  have B1 := Lib.hid b1
  clear b1
  go_wp2_with (first | (refine wpList_store_row rfl 122 (.tmp 3) (.tmp 15) rfl w1.heap.size A rfl rfl 122 _ (Blk.new w1 _ _) HIA.out HSZ.out HOA2.out ?_; obtain ⟨w2, hw2, k2, b2⟩ := wsn_alloc w1 _ A; rw [hw2]; have X2 : Hid (AxB w w1.heap.size A w2) := ⟨k2, B1.out.trans (b2.mono B1.out.size)⟩; clear hw2 k2 b2) | (refine wpList_load_row rfl 122 (.tmp 3) rfl w1.heap.size rfl 122 A (0, 0) _ X2.out.blk Tryz.underlying122 rfl HIA.out ?_))
  have A0 : Hid (Acc w w.heap.size w2 100 2 (.slice none 0 0) (entL W 0).length (eC (entL W 0))) := Acc.nil _ _ _ _ _ X2.out.bel X2.out.bel.size
  go_loopw [5, 7, 8, 9, 20] (fun sv _ _ _ y wr => ∃ e : Nat, e ≤ 16 ∧ y = .int .i64 e ∧ Acc w w.heap.size wr 100 2 sv (entL W e).length (eC (entL W e))) (fun _ _ _ _ y _ => 16 - (intOf y).toNat)
  case atStart => exact ⟨0, by omega, rfl, A0.out⟩
  case round =>
    clear A0 X2
    obtain ⟨e, he, rfl, ha⟩ := hrel
    obtain ⟨qa, qc, rfl⟩ := ha.slice
    have AA := Lib.hid ha
    clear ha
    by_cases hlt : e < 16
    · have he' : (e : Int) < 16 := by omega
      have hix := fun wx => HIX.out e hlt wx
      have hnmw := fun wx => HNMW.out wx e
      have hsu := entL_succ W e
      have hln := entL_len W e
      obtain ⟨x0, hx0⟩ : ∃ x, W (4 * e) = x := ⟨_, rfl⟩
      obtain ⟨x1, hx1⟩ : ∃ x, W (4 * e + 1) = x := ⟨_, rfl⟩
      obtain ⟨x2, hx2⟩ : ∃ x, W (4 * e + 2) = x := ⟨_, rfl⟩
      obtain ⟨x3, hx3⟩ : ∃ x, W (4 * e + 3) = x := ⟨_, rfl⟩
      rw [hx0, hx1, hx2, hx3] at hix hnmw hsu
      have hes : enS x0 x1 x3 = if x3 = 0 then ⟨#[]⟩ else nmS x0 x1 := rfl
      have HSU := Lib.hid hsu; have HLN := Lib.hid hln
      have A1 := Lib.hid (AA.out.keep (below_alloc wr (.cells #[.int .u64 x0, .int .u64 x1, .int .u64 x2, .int .u64 x3] 121)))
      have K1 := Lib.hid (Blk.new wr #[.int .u64 x0, .int .u64 x1, .int .u64 x2, .int .u64 x3] 121)
      clear hx0 hx1 hx2 hx3 hsu hln AA
      generalize entL W e = le at *
      by_cases h3 : x3 = 0
      · rw [show (x3 != 0) = false by simp [h3]] at hnmw
        have HNE := Lib.hid hnmw
        have HS2 : Hid (entL W (e + 1) = le) := by show _ = _; rw [HSU.out, if_pos h3]
        generalize enS x0 x1 x3 = es at *
        clear h3 hes hnmw
        go_wp2_with fail
        (with_reducible refine (HNE.out _).mono ?_)
        rintro r w' ⟨rfl, b1⟩
        have A2 := Lib.hid (A1.out.keep b1)
        clear b1 A1 K1
        go_wp2_with fail
        go_roundw
        case rel => exact ⟨e + 1, by omega, by go_num, by rw [HS2.out]; exact A2.out⟩
        case measure => simp [intOf]; omega
      · rw [if_neg h3] at hes
        rw [hes, show (x3 != 0) = true by simp [h3]] at hnmw
        have HNE := Lib.hid hnmw
        have HS2 : Hid (entL W (e + 1) = le ++ [(nmS x0 x1, x2)]) := by show _ = _; rw [HSU.out, if_neg h3]
        generalize nmS x0 x1 = ns at *
        clear h3 hes hnmw
        go_wp2_with fail
        (with_reducible refine (HNE.out _).mono ?_)
        rintro r w5 ⟨rfl, b1⟩
        have A2 := Lib.hid (A1.out.keep b1)
        have c2 := (K1.out.below b1).cell (i := 2) (v := .int .u64 x2) rfl
        clear b1 A1 K1
        go_wp2_with (at_builtin; refine wpList_append_sl _ rfl _ _ 73 rfl 100 i0 _ 2 24 Tryz.underlying73 I.out.1 I.out.2.1 I.out.2.2.1 I.out.2.2.2 rfl (by decide) _ le.length (eC le) rfl (by exact A2.out.own.alloc _) _ 1 (eC [(ns, x2)]) rfl (by exact RdSl.newAt _ _ _ 2 1 _ (by simp) rfl) (eC_one _) (by unfold maxLen; have := HLN.out; omega) (by have := HLN.out; omega) ?_)
        intro v1 w6 o1 g1 n1 m1
        have A3 := Lib.hid (A2.out.next (m := 1) (below_alloc w5 _) o1 g1 n1 (by simp)); clear o1 g1 n1 m1 A2 c2
        go_wp2_with fail
        go_roundw
        case rel => exact ⟨e + 1, by omega, by go_num, by rw [HS2.out, eC_append, List.length_append]; exact A3.out⟩
        case measure => simp [intOf]; omega
    · obtain rfl : e = 16 := by omega
      have hln := entL_len W 16
      have hsl := srtR_len (entL W 16)
      generalize hLq : entL W 16 = L at *
      have HLQ := Lib.hid hLq
      clear hLq
      have HL := Lib.hid (And.intro hln hsl)
      clear hln hsl
      rcases AA.out.own.2 with ⟨hv, hz⟩ | ⟨g, o, cap, cur, hv, _⟩
      · have hL : L = [] := List.eq_nil_of_length_eq_zero hz
        subst hL
        cases hv
        have HS := Lib.hid (SortStE_nil (w := wr))
        go_wp2_with fail
        (with_reducible refine HS.out.mono ?_)
        rintro r w' ⟨rfl, rfl⟩
        go_wp2_with fail
        go_ret
        exact ⟨.slice none 0 0, rfl, by rw [HLQ.out]; exact AA.out⟩
      · cases hv
        have E0 : Hid (EnAt w g o L.length qc L wr) := ⟨AA.out.own, rfl, AA.out.bel, AA.out.new g rfl⟩
        have HS := Lib.hid (SortStE_any (w := wr) g o L.length qc L w E0.out HL.out.1)
        clear E0
        go_wp2_with fail
        (with_reducible refine HS.out.mono ?_)
        rintro r w5 ⟨rfl, h1, h2⟩
        have E1 := Lib.hid h1
        clear h1 h2
        go_wp2_with fail
        go_ret
        exact ⟨.slice (some ⟨g, o, none⟩) L.length qc, rfl, by rw [HLQ.out]; exact ⟨E1.out.own, fun k hk => by cases hk; exact E1.out.new, E1.out.bel, E1.out.bel.size⟩⟩
end
end Go.Proofs.YtmfchlliechikaaGreatDoor
