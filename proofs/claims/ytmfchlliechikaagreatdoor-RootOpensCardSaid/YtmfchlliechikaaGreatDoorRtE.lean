/- The walks of load and find of package root. -/
import Derived.Test.YtmfchlliechikaaGreatDoorRtB
namespace Go.Proofs.YtmfchlliechikaaGreatDoor
open Go.RowKit Go.Maps
attribute [local go_sem ↓] Go.wp_at_zero Go.wp_at_succ

/-- Sixty-four words as cells. -/
def wsA (f : Nat → Int) : Array Value := ((List.range 64).map fun i => Value.int .u64 (f i)).toArray
theorem wsA_size (f : Nat → Int) : (wsA f).size = 64 := by simp [wsA]
theorem wsA_get (f : Nat → Int) (i : Nat) (h : i < 64) : (wsA f)[i]? = some (.int .u64 (f i)) := by
  unfold wsA
  rw [List.getElem?_toArray, List.getElem?_map, List.getElem?_range h]; rfl
theorem wsA_one (f : Nat → Int) : (wsA f).all (·.oneCell') = true := by
  rw [Array.all_eq_true]
  intro i hi
  rw [wsA_size] at hi
  have := wsA_get f i hi
  rw [Array.getElem?_eq_getElem (by rw [wsA_size]; exact hi)] at this
  rw [Option.some.inj this]; rfl
theorem wsA_set (f : Nat → Int) (k : Nat) (x : Int) : (wsA f).setIfInBounds k (.int .u64 x) = wsA (fun i => if i = k then x else f i) := by
  apply Array.ext_getElem?
  intro i
  rw [Array.getElem?_setIfInBounds]
  rcases Nat.lt_or_ge i 64 with hi | hi
  · rw [wsA_get _ i hi, wsA_get _ i hi, wsA_size]
    by_cases e : k = i
    · subst e; simp [hi]
    · rw [if_neg e, if_neg (Ne.symm e)]
  · rw [Array.getElem?_eq_none (by rw [wsA_size]; exact hi), Array.getElem?_eq_none (by rw [wsA_size]; exact hi)]
    split
    · rw [wsA_size, if_neg (by omega)]
    · rfl
theorem wsA_congr {f g : Nat → Int} (h : ∀ i, i < 64 → f i = g i) : wsA f = wsA g := by
  apply Array.ext_getElem?
  intro i
  rcases Nat.lt_or_ge i 64 with hi | hi
  · rw [wsA_get _ i hi, wsA_get _ i hi, h i hi]
  · rw [Array.getElem?_eq_none (by rw [wsA_size]; exact hi), Array.getElem?_eq_none (by rw [wsA_size]; exact hi)]
/-- Where load stands: m words have been read. -/
structure RtL (w : World) (f : Nat → Int) (m : Nat) (wr : World) : Prop where
  res : Blk wr w.heap.size (wsA fun _ => 0) 122
  row : Blk wr (w.heap.size + 1) (wsA fun i => if i < m then f i else 0) 122
  bel : Below w.heap.size w wr
section
variable {w wr : World} {f : Nat → Int} {m : Nat}
theorem RtL.start : RtL w f 0 ((w.alloc (.cells (wsA fun _ => 0) 122)).alloc (.cells (wsA fun _ => 0) 122)) := by
  have h2 := Blk.new (w.alloc (.cells (wsA fun _ => 0) 122)) (wsA fun _ => 0) 122
  simp only [World.size_alloc] at h2
  exact ⟨(Blk.new w _ _).alloc _, by rw [wsA_congr (g := fun _ => 0) (fun i _ => if_neg (by omega))]; exact h2, below_twice w _ _⟩
theorem RtL.step (h : RtL w f m wr) {x : Int} (hx : f m = x) : RtL w f (m + 1) (wr.setCell ⟨w.heap.size + 1, m, none⟩ (.int .u64 x)) := by
  refine ⟨h.res.other (by simp) _, ?_, h.bel.setCell (by simp) _⟩
  have := h.row.set m (.int .u64 x)
  rw [wsA_set] at this
  rw [wsA_congr (g := fun i => if i = m then x else if i < m then f i else 0)]
  · exact this
  · intro i _
    by_cases e : i = m
    · subst e; rw [if_pos (by omega), if_pos rfl, hx]
    · rw [if_neg e]
      by_cases e2 : i < m
      · rw [if_pos e2, if_pos (by omega)]
      · rw [if_neg e2, if_neg (by omega)]
theorem RtL.drew (h : RtL w f m wr) : RtL w f m wr.drew := ⟨h.res, h.row, h.bel.drew⟩
theorem RtL.whole (h : RtL w f 64 wr) : Blk wr (w.heap.size + 1) (wsA f) 122 := by
  rw [← wsA_congr (f := fun i => if i < 64 then f i else 0) (fun i hi => if_pos hi)]; exact h.row
end
theorem results_ct14 {P : Program} {fn : Func} {p u : Tmp} {ty : TypeId} (h : fn.results = #[.cell p ty, .tmp u]) (tmps : Array Value) (wx : World) (g : Nat) (t : TypeId) (cs : Array Value) (d : TypeDesc)
    (hp : tmps.getD p undef = .pointer (some ⟨g, 0, none⟩)) (hg : wx.heap[g]? = some (.cells cs t (0, 0))) (hu : P.underlying ty = some d) (hd : (match d with | .struct _ | .array _ _ => true | _ => false) = true) (hi : (P.info? ty).map (·.size) = some cs.size)
    (x : Value) (hx : tmps.getD u undef = x) : (results fn tmps).run P wx = .ok (.tuple #[.agg cs, x]) wx := by
  rw [results_cell_tmp h, hp, hx]
  simp [asAddr, run_loadVar_row wx g t ty cs (0, 0) d hg hu hd hi]
section
variable {w : World} {v : DV} {own : Nat → Option Role} {D : Dev} {j : Nat}
theorem info16w (f : Nat → Int) : (Tryz.prog.info? 122).map (·.size) = some (wsA f).size := by rw [wsA_size]; kernel_rfl
set_option maxRecDepth 100000 in
set_option maxHeartbeats 8000000 in
theorem rtload_any (h : IsDev w v own D) (hj : j < 8) {b off : Nat} (hd : DirAt w b off (.iface 42 (.pointer (some ⟨v.tb j, 0, none⟩)))) (hof : D.off = false) (he : D.err j = 0) (h8 : off % 8 = 0) (hl : off + 512 ≤ 64 * D.n) :
    Calls Tryz.prog 48 #[.pointer (some ⟨b, 0, none⟩)] w fun r w' => r = .returned (.tuple #[.agg (wsA fun i => D.cur (off / 8 + i)), .int .i64 0]) ∧ Below w.heap.size w w' := by
  have hm1 := meth_Load ⟨v.tb j, 0, none⟩; have hm2 := meth_Err ⟨v.tb j, 0, none⟩
  have H := Lib.hid h; have HD := Lib.hid hd
  have hn2 := h.wf.le
  have hER := fun wx (hx : IsDev wx v own D) => err_any hx hj
  rw [he] at hER
  have HER := Lib.hid hER
  have HLD := Lib.hid (fun wx (hx : IsDev wx v own D) (o : Nat) (h8 : o % 8 = 0) (hl : o < 64 * D.n) => load_ok hx hj o hof h8 hl)
  have hob : off ≤ 262144 := by omega
  have HAT := Lib.hid (fun (wx : World) (hx : DirAt wx b off (.iface 42 (.pointer (some ⟨v.tb j, 0, none⟩)))) (e k : Nat) (he : e < 16) (hk : k < 4) => rtat_any hx e k he hk hob)
  have S0 := Lib.hid (RtL.start (w := w) (f := fun i => D.cur (off / 8 + i)))
  clear h hd hER he
  go_enter Tryz.func48, Tryz.ntmps48
  have c0 := HD.out.blk.cell (i := 0) (v := .iface 42 (.pointer (some ⟨v.tb j, 0, none⟩))) rfl
  have hbs : b < w.heap.size := HD.out.blk.lt
  have hb1 : b ≠ w.heap.size := by omega
  have hb2 : b ≠ w.heap.size + 1 := by omega
  go_wp2_with fail
  (with_reducible refine (HER.out _ ((H.out.alloc _).alloc _)).mono ?_)
  rintro e w' ⟨rfl, rfl⟩
  clear c0
  go_wp2_with fail
  go_loopw [6, 17] (fun _ y wr => ∃ e : Nat, e ≤ 16 ∧ y = .int .i64 e ∧ RtL w (fun i => D.cur (off / 8 + i)) (4 * e) wr) (fun _ y _ => 16 - (intOf y).toNat)
  case atStart => exact ⟨0, by omega, rfl, S0.out⟩
  case round =>
    clear S0
    obtain ⟨e, he, rfl, hs⟩ := hrel
    have S := Lib.hid hs; clear hs
    by_cases hlt : e < 16
    · have he' : (e : Int) < 16 := by omega
      go_wp2_with fail
      go_loopw [7, 20] (fun _ y wq => ∃ k : Nat, k ≤ 4 ∧ y = .int .i64 k ∧ RtL w (fun i => D.cur (off / 8 + i)) (4 * e + k) wq) (fun _ y _ => 4 - (intOf y).toNat)
      case atStart => exact ⟨0, by omega, rfl, S.out⟩
      case round =>
        clear S
        obtain ⟨k, hk, rfl, hs⟩ := hrel
        rename World => wq
        have S := Lib.hid hs; clear hs
        by_cases hlt2 : k < 4
        · have hk' : (k : Int) < 4 := by omega
          have hLk := fun wy hy => HLD.out wy hy (off + 32 * e + 8 * k) (by omega) (by omega)
          rw [show (off + 32 * e + 8 * k) / 8 = off / 8 + (4 * e + k) by omega] at hLk
          obtain ⟨x, hx⟩ : ∃ x, D.cur (off / 8 + (4 * e + k)) = x := ⟨_, rfl⟩
          rw [hx] at hLk
          have HX := Lib.hid hx
          have HAK := Lib.hid (fun wy hy => HAT.out wy hy e k hlt hlt2)
          obtain ⟨q, hq⟩ : ∃ q, off + 32 * e + 8 * k = q := ⟨_, rfl⟩
          rw [hq] at hLk HAK
          have HLK := Lib.hid hLk
          have HIDX : Hid (e * 4 + k = 4 * e + k) := (by omega : e * 4 + k = 4 * e + k)
          have S1 := Lib.hid (show Below w.heap.size w wq.drew from S.out.bel.drew)
          have hcell := S.out.row.cell (i := e * 4 + k) (wsA_get _ _ (by omega))
          have hfro := S.out.row.frozen (e * 4 + k)
          generalize (if e * 4 + k < 4 * e + k then D.cur (off / 8 + (e * 4 + k)) else 0) = old at *
          have S2 : Hid (Below w.heap.size w ((wq.setCell ⟨w.heap.size + 1, e * 4 + k, none⟩ (.int .u64 x)).drew)) := (S.out.bel.setCell (p := ⟨w.heap.size + 1, e * 4 + k, none⟩) (Nat.le_succ _) _).drew
          clear hLk hx hq
          go_wp2_with fail
          refine wp_region_held (S := (fun wx => Below w.heap.size w wx)) (by kernel_rfl) ?_
          change wpAnyH _ _ _ _ _ _ _ _ (World.drew _)
          refine wpAnyH_take (i := 0) (v := .int .i64 (e : Int)) rfl (by kernel_rfl) (by kernel_rfl) (by kernel_rfl) (fun _ _ _ h => h) (Or.inl ⟨by kernel_rfl, fun w _ => by go_simp⟩) S1.out ?_
          refine wpAnyH_take (i := 1) (v := .int .i64 (k : Int)) rfl (by kernel_rfl) (by kernel_rfl) (by kernel_rfl) (fun _ _ _ h => h) (Or.inl ⟨by kernel_rfl, fun w _ => by go_simp⟩) S1.out ?_
          refine wpAnyH_take (i := 2) (v := .pointer (some ⟨b, 0, none⟩)) rfl (by kernel_rfl) (by kernel_rfl) (by kernel_rfl) (fun _ _ _ h => h) (Or.inl ⟨by kernel_rfl, fun w _ => by go_simp⟩) S1.out ?_
          refine wpAnyH_take (i := 3) (v := .pointer (some ⟨b, 0, none⟩)) rfl (by kernel_rfl) (by kernel_rfl) (by kernel_rfl) (fun _ _ _ h => h) (Or.inl ⟨by kernel_rfl, fun w _ => by go_simp⟩) S1.out ?_
          refine wpAnyH_take (i := 4) (v := .pointer (some ⟨b, 0, none⟩)) rfl (by kernel_rfl) (by kernel_rfl) (by kernel_rfl) (fun _ _ _ h => h) (Or.inl ⟨by kernel_rfl, fun w _ => by go_simp⟩) S1.out ?_
          refine wpAnyH_take (i := 5) (v := .iface 42 (.pointer (some ⟨v.tb j, 0, none⟩))) rfl (by kernel_rfl) (by kernel_rfl) (by kernel_rfl) (fun _ _ _ h => h) (Or.inl ⟨by kernel_rfl, fun wx hx => (by have c := (HD.out.next hx).blk.cell (i := 0) (v := .iface 42 (.pointer (some ⟨v.tb j, 0, none⟩))) rfl; go_simp)⟩) S1.out ?_
          refine wpAnyH_take (i := 6) (v := .pointer (some ⟨b, 0, none⟩)) rfl (by kernel_rfl) (by kernel_rfl) (by kernel_rfl) (fun _ _ _ h => h) (Or.inl ⟨by kernel_rfl, fun w _ => by go_simp⟩) S1.out ?_
          refine wpAnyH_take (i := 7) (v := .int .i64 (e : Int)) rfl (by kernel_rfl) (by kernel_rfl) (by kernel_rfl) (fun _ _ _ h => h) (Or.inl ⟨by kernel_rfl, fun w _ => by go_simp⟩) S1.out ?_
          refine wpAnyH_take (i := 8) (v := .int .i64 (k : Int)) rfl (by kernel_rfl) (by kernel_rfl) (by kernel_rfl) (fun _ _ _ h => h) (Or.inl ⟨by kernel_rfl, fun w _ => by go_simp⟩) S1.out ?_
          refine wpAnyH_take (i := 10) (v := .iface 42 (.pointer (some ⟨v.tb j, 0, none⟩))) rfl (by kernel_rfl) (by kernel_rfl) (by kernel_rfl) (fun _ _ _ h => h) (Or.inl ⟨by kernel_rfl, fun w _ => by go_simp⟩) S1.out ?_
          refine wpAnyH_take (i := 11) (v := .iface 42 (.pointer (some ⟨v.tb j, 0, none⟩))) rfl (by kernel_rfl) (by kernel_rfl) (by kernel_rfl) (fun _ _ _ h => h) (Or.inl ⟨by kernel_rfl, fun w _ => by go_simp⟩) S1.out ?_
          refine wpAnyH_take (i := 13) (v := .pointer (some ⟨w.heap.size + 1, e * 4, none⟩)) rfl (by kernel_rfl) (by kernel_rfl) (by kernel_rfl) (fun _ _ _ h => h) (Or.inl ⟨by kernel_rfl, fun w _ => by go_simp⟩) S1.out ?_
          refine wpAnyH_one (i := 9) (by kernel_rfl) rfl rfl (fun K hK => ?_)
          go_simp
          (with_reducible refine (HAK.out _ (HD.out.next S1.out)).mono ?_)
          rintro e' w' ⟨rfl, rfl⟩
          go_simp
          refine hK _ _ ⟨S1.out, ?_⟩
          clear hK K
          refine wpAnyH_one (i := 12) (by kernel_rfl) rfl rfl (fun K hK => ?_)
          go_simp
          (with_reducible refine (HLK.out _ (H.out.below S1.out)).mono ?_)
          rintro e' w' ⟨rfl, rfl⟩
          go_simp
          refine hK _ _ ⟨S1.out, ?_⟩
          clear hK K
          refine wpAnyH_take (i := 14) (v := .pointer (some ⟨w.heap.size + 1, e * 4 + k, none⟩)) rfl (by kernel_rfl) (by kernel_rfl) (by kernel_rfl) (fun _ _ _ h => h) (Or.inl ⟨by kernel_rfl, fun w _ => by go_simp⟩) S1.out ?_
          refine wpAnyH_one (i := 15) (by kernel_rfl) rfl rfl (fun K hK => ?_)
          go_simp
          refine hK _ _ ⟨S2.out, ?_⟩
          clear hK K
          refine wpAnyH_done (by kernel_rfl) ?_ _
          go_wp2_with fail
          go_roundw
          case rel => exact ⟨k + 1, by omega, by go_num, by rw [HIDX.out]; exact (S.out.step HX.out).drew⟩
          case measure => simp [intOf]; omega
        · obtain rfl : k = 4 := by omega
          go_wp2_with fail
          go_roundw
          case rel => exact ⟨e + 1, by omega, by go_num, S.out⟩
          case measure => simp [intOf]; omega
    · obtain rfl : e = 16 := by omega
      have HAF : Hid (∃ A, (wsA fun i => D.cur (off / 8 + i)) = A) := ⟨_, rfl⟩
      have HIA := Lib.hid (info16w (fun i => D.cur (off / 8 + i)))
      have HOA := Lib.hid (wsA_one (fun i => D.cur (off / 8 + i)))
      have HSZ : Hid ((wsA fun _ => 0).size = (wsA (fun i => D.cur (off / 8 + i))).size) := by show _ = _; rw [wsA_size, wsA_size]
      have RW := Lib.hid (show Blk wr.drew (w.heap.size + 1) (wsA fun i => D.cur (off / 8 + i)) 122 from S.out.whole)
      have RZ := Lib.hid (show Blk wr.drew w.heap.size (wsA fun _ => 0) 122 from S.out.res)
      have BW := Lib.hid S.out.bel.drew
      obtain ⟨A, hA⟩ := HAF.out
      rw [hA] at HIA HOA HSZ RW
      have HA := Lib.hid hA
      have S1 : Hid (Blk wr.drew (w.heap.size + 1) A 122 ∧ Below w.heap.size w wr.drew) := ⟨RW.out, BW.out⟩
      clear hA HAF S BW
      generalize (wsA fun _ => 0) = Z at *
      go_wp2_with fail
      refine wp_region_held (S := (fun wx => Blk wx (w.heap.size + 1) A 122 ∧ Below w.heap.size w wx)) (by kernel_rfl) ?_
      change wpAnyH _ _ _ _ _ _ _ _ (World.drew _)
      refine wpAnyH_take (i := 0) (v := .agg A) rfl (by kernel_rfl) (by kernel_rfl) (by kernel_rfl) (fun _ _ _ h => h) (Or.inl ⟨by kernel_rfl, fun wx hx => exec_load_row 122 (.tmp 4) rfl (w.heap.size + 1) rfl 122 A (0, 0) _ hx.1 Tryz.underlying122 rfl HIA.out⟩) S1.out ?_
      refine wpAnyH_take (i := 1) (v := .pointer (some ⟨b, 0, none⟩)) rfl (by kernel_rfl) (by kernel_rfl) (by kernel_rfl) (fun _ _ _ h => h) (Or.inl ⟨by kernel_rfl, fun w _ => by go_simp⟩) S1.out ?_
      refine wpAnyH_take (i := 2) (v := .pointer (some ⟨b, 0, none⟩)) rfl (by kernel_rfl) (by kernel_rfl) (by kernel_rfl) (fun _ _ _ h => h) (Or.inl ⟨by kernel_rfl, fun w _ => by go_simp⟩) S1.out ?_
      refine wpAnyH_take (i := 3) (v := .pointer (some ⟨b, 0, none⟩)) rfl (by kernel_rfl) (by kernel_rfl) (by kernel_rfl) (fun _ _ _ h => h) (Or.inl ⟨by kernel_rfl, fun w _ => by go_simp⟩) S1.out ?_
      refine wpAnyH_take (i := 4) (v := .iface 42 (.pointer (some ⟨v.tb j, 0, none⟩))) rfl (by kernel_rfl) (by kernel_rfl) (by kernel_rfl) (fun _ _ _ h => h) (Or.inl ⟨by kernel_rfl, fun wx hx => (by have c := (HD.out.next hx.2).blk.cell (i := 0) (v := .iface 42 (.pointer (some ⟨v.tb j, 0, none⟩))) rfl; go_simp)⟩) S1.out ?_
      refine wpAnyH_one (i := 5) (by kernel_rfl) rfl rfl (fun K hK => ?_)
      go_simp
      (with_reducible refine (HER.out _ (H.out.below S1.out.2)).mono ?_)
      rintro e' w' ⟨rfl, rfl⟩
      go_simp
      refine hK _ _ ⟨S1.out, ?_⟩
      clear hK K
      refine wpAnyH_one (i := 6) (by kernel_rfl) rfl rfl (fun K hK => ?_)
      refine wp_store_row 122 (.tmp 2) (.tmp 40) rfl w.heap.size A rfl rfl 122 Z RZ.out HIA.out HSZ.out HOA.out ?_
      refine hK _ _ ⟨⟨(setRow_other _ _ _ _ (by simp)).trans RW.out, below_setRow S1.out.2 (Nat.le_refl _) _⟩, ?_⟩
      clear hK K
      refine wpAnyH_one (i := 7) (by kernel_rfl) rfl rfl (fun K hK => ?_)
      go_simp
      refine hK _ _ ⟨⟨(setRow_other _ _ _ _ (by simp)).trans RW.out, below_setRow S1.out.2 (Nat.le_refl _) _⟩, ?_⟩
      clear hK K
      refine wpAnyH_done (by kernel_rfl) ?_ _
      go_wp2_with fail
      refine bodyPost_ret (v := .tuple #[.agg A, .int .i64 0]) (results_ct14 Tryz.results48 _ _ _ _ A _ rfl (setRow_heap _ _ _ A 122 (0, 0) RZ.out) Tryz.underlying122 rfl HIA.out _ rfl) rfl ⟨by rw [HA.out], below_setRow S1.out.2 (Nat.le_refl _) _⟩
end
end Go.Proofs.YtmfchlliechikaaGreatDoor

/- The walks of load on a device whose thread has an error, and of find of package root. -/
namespace Go.Proofs.YtmfchlliechikaaGreatDoor
open Go.RowKit Go.Maps
attribute [local go_sem ↓] Go.wp_at_zero Go.wp_at_succ

/-- The words of a directory as cells. -/
def wsN (W : Nat → Nat) : Array Value := wsA fun i => (W i : Nat)
theorem idx16 (W : Nat → Nat) (e : Nat) (he : e < 16) (wx : World) : (Instr.index 122 (.agg (wsN W)) (.int .i64 (e : Nat))).run Tryz.prog wx = .ok (.agg #[.int .u64 (W (4 * e) : Nat), .int .u64 (W (4 * e + 1) : Nat), .int .u64 (W (4 * e + 2) : Nat), .int .u64 (W (4 * e + 3) : Nat)]) wx := by
  obtain rfl | rfl | rfl | rfl | rfl | rfl | rfl | rfl | rfl | rfl | rfl | rfl | rfl | rfl | rfl | rfl : e = 0 ∨ e = 1 ∨ e = 2 ∨ e = 3 ∨ e = 4 ∨ e = 5 ∨ e = 6 ∨ e = 7 ∨ e = 8 ∨ e = 9 ∨ e = 10 ∨ e = 11 ∨ e = 12 ∨ e = 13 ∨ e = 14 ∨ e = 15 := by omega
  all_goals kernel_rfl
section
variable {w : World} {v : DV} {own : Nat → Option Role} {D : Dev} {j : Nat}
theorem info16n (W : Nat → Nat) : (Tryz.prog.info? 122).map (·.size) = some (wsN W).size := info16w _
theorem wsN_size (W : Nat → Nat) : (wsN W).size = 64 := wsA_size _
/-- The words of a directory on a device. -/
structure WAt (D : Dev) (off : Nat) (W : Nat → Nat) : Prop where
  at8 : off % 8 = 0
  fit : off + 512 ≤ 64 * D.n
  cur : ∀ i, i < 64 → D.cur (off / 8 + i) = (W i : Nat)
  bd : ∀ i, W i < 18446744073709551616
theorem rtload_W (h : IsDev w v own D) (hj : j < 8) {b off : Nat} {W : Nat → Nat} (hd : DirAt w b off (.iface 42 (.pointer (some ⟨v.tb j, 0, none⟩)))) (hof : D.off = false) (he : D.err j = 0) (hW : WAt D off W) :
    Calls Tryz.prog 48 #[.pointer (some ⟨b, 0, none⟩)] w fun r w' => r = .returned (.tuple #[.agg (wsN W), .int .i64 0]) ∧ Below w.heap.size w w' := by
  have := rtload_any h hj hd hof he hW.at8 hW.fit
  rw [wsA_congr (g := fun i => ((W i : Nat) : Int)) (fun i hi => hW.cur i hi)] at this
  exact this
set_option maxRecDepth 100000 in
set_option maxHeartbeats 8000000 in
theorem rtload_err (h : IsDev w v own D) (hj : j < 8) {b off : Nat} (hd : DirAt w b off (.iface 42 (.pointer (some ⟨v.tb j, 0, none⟩)))) (he : D.err j ≠ 0) :
    Calls Tryz.prog 48 #[.pointer (some ⟨b, 0, none⟩)] w fun r w' => r = .returned (.tuple #[.agg (wsA fun _ => 0), .int .i64 (D.err j)]) ∧ Below w.heap.size w w' := by
  have hm2 := meth_Err ⟨v.tb j, 0, none⟩
  have H := Lib.hid h; have HD := Lib.hid hd
  have HER := Lib.hid (fun wx (hx : IsDev wx v own D) => err_any hx hj)
  have S0 : Hid (RtL w (fun _ => 0) 0 ((w.alloc (.cells #[.int .u64 0, .int .u64 0, .int .u64 0, .int .u64 0, .int .u64 0, .int .u64 0, .int .u64 0, .int .u64 0, .int .u64 0, .int .u64 0, .int .u64 0, .int .u64 0, .int .u64 0, .int .u64 0, .int .u64 0, .int .u64 0, .int .u64 0, .int .u64 0, .int .u64 0, .int .u64 0, .int .u64 0, .int .u64 0, .int .u64 0, .int .u64 0, .int .u64 0, .int .u64 0, .int .u64 0, .int .u64 0, .int .u64 0, .int .u64 0, .int .u64 0, .int .u64 0, .int .u64 0, .int .u64 0, .int .u64 0, .int .u64 0, .int .u64 0, .int .u64 0, .int .u64 0, .int .u64 0, .int .u64 0, .int .u64 0, .int .u64 0, .int .u64 0, .int .u64 0, .int .u64 0, .int .u64 0, .int .u64 0, .int .u64 0, .int .u64 0, .int .u64 0, .int .u64 0, .int .u64 0, .int .u64 0, .int .u64 0, .int .u64 0, .int .u64 0, .int .u64 0, .int .u64 0, .int .u64 0, .int .u64 0, .int .u64 0, .int .u64 0, .int .u64 0] 122)).alloc (.cells #[.int .u64 0, .int .u64 0, .int .u64 0, .int .u64 0, .int .u64 0, .int .u64 0, .int .u64 0, .int .u64 0, .int .u64 0, .int .u64 0, .int .u64 0, .int .u64 0, .int .u64 0, .int .u64 0, .int .u64 0, .int .u64 0, .int .u64 0, .int .u64 0, .int .u64 0, .int .u64 0, .int .u64 0, .int .u64 0, .int .u64 0, .int .u64 0, .int .u64 0, .int .u64 0, .int .u64 0, .int .u64 0, .int .u64 0, .int .u64 0, .int .u64 0, .int .u64 0, .int .u64 0, .int .u64 0, .int .u64 0, .int .u64 0, .int .u64 0, .int .u64 0, .int .u64 0, .int .u64 0, .int .u64 0, .int .u64 0, .int .u64 0, .int .u64 0, .int .u64 0, .int .u64 0, .int .u64 0, .int .u64 0, .int .u64 0, .int .u64 0, .int .u64 0, .int .u64 0, .int .u64 0, .int .u64 0, .int .u64 0, .int .u64 0, .int .u64 0, .int .u64 0, .int .u64 0, .int .u64 0, .int .u64 0, .int .u64 0, .int .u64 0, .int .u64 0] 122))) := RtL.start
  have hq : (D.err j != 0) = true := by simpa using he
  have HIA := Lib.hid (info16w (fun _ => 0)); have HOA := Lib.hid (wsA_one (fun _ => 0))
  generalize D.err j = e at *
  clear h hd he
  have c0 := HD.out.blk.cell (i := 0) (v := .iface 42 (.pointer (some ⟨v.tb j, 0, none⟩))) rfl
  have hbs : b < w.heap.size := HD.out.blk.lt
  have hb1 : b ≠ w.heap.size := by omega
  have hb2 : b ≠ w.heap.size + 1 := by omega
  go_enter Tryz.func48, Tryz.ntmps48
  go_wp2_with fail
  (with_reducible refine (HER.out _ ((H.out.alloc _).alloc _)).mono ?_)
  rintro e' w' ⟨rfl, rfl⟩
  clear c0
  generalize hw1 : World.alloc (World.alloc w _) _ = w1 at S0 ⊢
  clear hw1
  have RZ := Lib.hid S0.out.res
  have RW : Hid (Blk w1 (w.heap.size + 1) (wsA fun _ => 0) 122) := by
    have := S0.out.row
    rw [wsA_congr (g := fun _ => 0) (fun i _ => if_neg (by omega))] at this
    exact this
  have BW := Lib.hid S0.out.bel
  clear S0
  have HZ : Hid (∃ A, (wsA fun _ => 0) = A) := ⟨_, rfl⟩
  obtain ⟨A, hA⟩ := HZ.out
  rw [hA] at RZ RW HIA HOA
  have HA := Lib.hid hA
  clear hA HZ
  go_wp2_with (first | (refine wpList_load_row rfl 122 (.tmp 4) rfl (w.heap.size + 1) rfl 122 A (0, 0) _ RW.out Tryz.underlying122 rfl HIA.out ?_) | (refine wpList_store_row rfl 122 (.tmp 2) (.tmp 15) rfl w.heap.size A rfl rfl 122 A RZ.out HIA.out rfl HOA.out ?_))
  refine bodyPost_ret (v := .tuple #[.agg A, .int .i64 e]) (results_ct14 Tryz.results48 _ _ _ _ A _ rfl (setRow_heap _ _ _ A 122 (0, 0) RZ.out) Tryz.underlying122 rfl HIA.out _ rfl) rfl ⟨by rw [HA.out], below_setRow BW.out (Nat.le_refl _) _⟩
/-- What find answers. -/
def fndV (W : Nat → Nat) (l : List UInt8) : Int := if findE W l < 16 then (findE W l : Int) else -1
def NoneB (p : Nat → Bool) (e : Nat) : Prop := ∀ j, j < e → p j = false
/-- A box of the words of all entries. -/
structure BxW (w : World) (A : Array Value) (wx : World) : Prop where
  blk : Blk wx w.heap.size A 122
  bel : Below w.heap.size w wx
theorem BxW.next {A : Array Value} {wx wy : World} (h : BxW w A wx) (hb : Below wx.heap.size wx wy) : BxW w A wy := ⟨h.blk.below hb, h.bel.trans (hb.mono h.bel.size)⟩
theorem findE_no {W : Nat → Nat} {l : List UInt8} (h : ∀ e, e < 16 → (usedE W e && nameE W e == l) = false) : findE W l = 16 := firstI_none h
theorem enS_name (W : Nat → Nat) (e : Nat) (l : List UInt8) (h : W (4 * e + 3) ≠ 0) : (usedE W e && nameE W e == l) = ((enS (W (4 * e)) (W (4 * e + 1)) (W (4 * e + 3))).toList == l) := by
  unfold usedE nameE enS
  rw [if_neg h, nmS_list]
  simp [h]
set_option maxRecDepth 100000 in
set_option maxHeartbeats 4000000 in
theorem rtfind_any (W : Nat → Nat) (hW : ∀ i, W i < 18446744073709551616) (s : ByteArray) : Calls Tryz.prog 61 #[.agg (wsN W), .string s] w fun r w' => r = .returned (.int .i64 (fndV W s.toList)) ∧ Below w.heap.size w w' := by
  have HNM := Lib.hid (fun (wx : World) (e : Nat) => rtname_any (w := wx) (W (4 * e)) (W (4 * e + 1)) (W (4 * e + 2)) (W (4 * e + 3)) (hW _) (hW _))
  have HIX := Lib.hid (fun (e : Nat) (he : e < 16) (wx : World) => idx16 W e he wx)
  have HIA := Lib.hid (info16n W)
  have X0 : Hid (BxW w (wsN W) (w.alloc (.cells (wsN W) 122))) := ⟨Blk.new w _ _, below_alloc w _⟩
  have HHIT : Hid (∀ e, e < 16 → (usedE W e && nameE W e == s.toList) = true → (∀ j, j < e → (usedE W j && nameE W j == s.toList) = false) → findE W s.toList = e) := fun e he hp hn => firstI_hit he hp hn
  have HNO : Hid ((∀ e, e < 16 → (usedE W e && nameE W e == s.toList) = false) → findE W s.toList = 16) := fun h => firstI_none h
  have HEN : Hid (∀ e, W (4 * e + 3) ≠ 0 → (usedE W e && nameE W e == s.toList) = ((enS (W (4 * e)) (W (4 * e + 1)) (W (4 * e + 3))).toList == s.toList)) := fun e h => enS_name W e _ h
  have HUS : Hid (∀ e, W (4 * e + 3) = 0 → (usedE W e && nameE W e == s.toList) = false) := fun e h => by unfold usedE; rw [h]; rfl
  obtain ⟨p, hp⟩ : ∃ p : Nat → Bool, (fun e => usedE W e && nameE W e == s.toList) = p := ⟨_, rfl⟩
  have hp2 : ∀ e, (usedE W e && nameE W e == s.toList) = p e := fun e => congrFun hp e
  simp only [hp2] at HHIT HNO HEN HUS
  have HRV : Hid (fndV W s.toList = if findE W s.toList < 16 then (findE W s.toList : Int) else -1) := rfl
  generalize fndV W s.toList = rv at *
  generalize findE W s.toList = res at *
  generalize wsN W = A at *
  clear hp hp2 hW
  go_enter Tryz.func61, Tryz.ntmps61
  go_wp2_with (refine wpList_load_row rfl 122 (.tmp 2) rfl w.heap.size rfl 122 A (0, 0) _ X0.out.blk Tryz.underlying122 rfl HIA.out ?_)
  go_loopw [5, 6, 7, 8, 10] (fun _ _ _ _ y wr => ∃ e : Nat, e ≤ 16 ∧ y = .int .i64 e ∧ BxW w A wr ∧ NoneB p e) (fun _ _ _ _ y _ => 16 - (intOf y).toNat)
  case atStart => exact ⟨0, by omega, rfl, X0.out, fun j hj => by omega⟩
  case round =>
    clear X0
    obtain ⟨e, he, rfl, hx, hno⟩ := hrel
    have X := Lib.hid hx; have NO := Lib.hid hno
    clear hx hno
    by_cases hlt : e < 16
    · have he' : (e : Int) < 16 := by omega
      have hix := fun wx => HIX.out e hlt wx
      have HNE := Lib.hid (fun wx => HNM.out wx e)
      obtain ⟨x0, hx0⟩ : ∃ x, W (4 * e) = x := ⟨_, rfl⟩
      obtain ⟨x1, hx1⟩ : ∃ x, W (4 * e + 1) = x := ⟨_, rfl⟩
      obtain ⟨x2, hx2⟩ : ∃ x, W (4 * e + 2) = x := ⟨_, rfl⟩
      obtain ⟨x3, hx3⟩ : ∃ x, W (4 * e + 3) = x := ⟨_, rfl⟩
      have hen := HEN.out e
      have hus := HUS.out e
      rw [hx0, hx1, hx2, hx3] at hix HNE
      rw [hx0, hx1, hx3] at hen
      rw [hx3] at hus
      have HE := Lib.hid hen
      have HHE := Lib.hid (HHIT.out e hlt)
      generalize enS x0 x1 x3 = es at *
      have X1 := Lib.hid (X.out.next (below_alloc wr (.cells #[.int .u64 x0, .int .u64 x1, .int .u64 x2, .int .u64 x3] 121)))
      clear hx0 hx1 hx2 hx3 hen
      by_cases h3 : x3 = 0
      · have hb3 : (x3 != 0) = false := by simp [h3]
        have NO2 : Hid (NoneB p (e + 1)) := fun j hj => by
          by_cases ej : j = e
          · subst ej; exact hus h3
          · exact NO.out j (by omega)
        rw [hb3] at HNE
        clear h3 hus hb3 HE
        go_wp2_with fail
        (with_reducible refine (HNE.out _).mono ?_)
        rintro e' w' ⟨rfl, b1⟩
        have X2 := Lib.hid (X1.out.next b1)
        clear b1
        go_wp2_with fail
        go_roundw
        case rel => exact ⟨e + 1, by omega, by go_num, X2.out, NO2.out⟩
        case measure => simp [intOf]; omega
      · have hb3 : (x3 != 0) = true := by simp [h3]
        have hpe := HE.out h3
        rw [hb3] at HNE
        clear h3 hus hb3 HE
        cases hcmp : (es.toList == s.toList)
        · have NO2 : Hid (NoneB p (e + 1)) := fun j hj => by
            by_cases ej : j = e
            · subst ej; rw [hpe]; exact hcmp
            · exact NO.out j (by omega)
          clear hpe
          go_wp2_with fail
          (with_reducible refine (HNE.out _).mono ?_)
          rintro e' w' ⟨rfl, b1⟩
          have X2 := Lib.hid (X1.out.next b1)
          clear b1
          go_wp2_with fail
          go_roundw
          case rel => exact ⟨e + 1, by omega, by go_num, X2.out, NO2.out⟩
          case measure => simp [intOf]; omega
        · have HR : Hid (rv = e) := by show _ = _; rw [HRV.out, HHE.out (by rw [hpe]; exact hcmp) NO.out, if_pos hlt]
          clear hpe
          go_wp2_with fail
          (with_reducible refine (HNE.out _).mono ?_)
          rintro e' w' ⟨rfl, b1⟩
          have X2 := Lib.hid (X1.out.next b1)
          clear b1
          go_wp2_with fail
          go_ret
          exact ⟨(by rw [HR.out]; first | done | rfl), X2.out.bel⟩
    · obtain rfl : e = 16 := by omega
      have HR : Hid (rv = -1) := by show _ = _; rw [HRV.out, HNO.out NO.out, if_neg (by omega)]
      go_wp2_with fail
      go_ret
      exact ⟨(by rw [HR.out]; first | done | rfl), X.out.bel⟩
end
end Go.Proofs.YtmfchlliechikaaGreatDoor
