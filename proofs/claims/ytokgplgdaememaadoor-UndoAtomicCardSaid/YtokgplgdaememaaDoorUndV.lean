/- The undo log's entries: Saved, entries, setCount over a device that is on. -/
import Derived.Test.YtokgplgdaememaaDoorUndU
import Derived.Deep.Cut
import Derived.Deep.CutRange
import Derived.Deep.RegionWith
namespace Go.Proofs.YtokgplgdaememaaDoor
open Go.RowKit

def cntL (C : Nat → Int) (off n : Nat) : Nat := if ((4 * (n - 1) : Nat) : Int) < C (off / 8) then 0 else (C (off / 8)).toNat
def entsL (C : Nat → Int) (off k : Nat) : List (Nat × Int) := (List.range k).map fun i => ((C (off / 8 + 8 + 2 * i)).toNat, C (off / 8 + 9 + 2 * i))
def savedL (C : Nat → Int) (off n : Nat) : List (Nat × Int) := entsL C off (cntL C off n)
theorem entsL_snoc (C : Nat → Int) (off k : Nat) : entsL C off (k + 1) = entsL C off k ++ [((C (off / 8 + 8 + 2 * k)).toNat, C (off / 8 + 9 + 2 * k))] := by simp [entsL, List.range_succ]
theorem entsL_len (C : Nat → Int) (off k : Nat) : (entsL C off k).length = k := by simp [entsL]
theorem cntL_le (C : Nat → Int) (off n : Nat) : cntL C off n ≤ 4 * (n - 1) := by
  unfold cntL; split <;> omega
theorem nilA_Load (a : Addr) (w : World) : (nilAhead 293 32 (.pointer (some a)) "Load").run Tryd.prog w = .ok (some false) w := by kernel_rfl

section
variable {w : World} {v : DV} {own : Nat → Option Role} {D : Dev} {lb j off n : Nat}
set_option maxRecDepth 100000 in
set_option maxHeartbeats 1000000 in
theorem usetCount_any (h : LogAt w v own D lb j off n) (k : Nat) (hk : k ≤ 100000) : Calls Tryd.prog 72 #[.pointer (some ⟨lb, 0, none⟩), .int .i64 k] w
    fun r w' => ∃ ov, r = .returned ov ∧ Acc w w.heap.size w' 99 3 ov (storesL [(off, (k : Int))]).length (instrC (storesL [(off, (k : Int))])) := by
  have c1 := h.c1
  have hb := h.bd
  have HS := Lib.hid (stores_any (w := w.alloc (.cells #[.int .u64 off, .int .u64 k] 102)) (.slice (some ⟨w.heap.size, 0, none⟩) 1 1) [(off, (k : Int))] (by exact RdSl.new w _ _ 2 1 rfl) (by simp) (fun e he => by simp at he; subst he; simp only; omega))
  clear h
  go_enter Tryd.func72, Tryd.ntmps72
  go_wp2_with fail
  (with_reducible refine HS.out.mono ?_)
  rintro e w1 ⟨ov, rfl, a1⟩
  have A1 := Lib.hid (a1.deeper (below_alloc _ _)); clear a1 HS
  go_wp2_with fail
  go_ret
  exact ⟨_, rfl, A1.out⟩

theorem lload (h : LogAt w v own D lb j off n) (ho : D.off = false) (hvb : D.VB) (o : Nat) (h8 : o % 8 = 0) (hl : o < 64 * D.n) :
    Calls Tryd.prog 132 #[.pointer (some ⟨v.tb j, 0, none⟩), .int .u64 o] w fun r w' => r = .returned (.int .u64 (((D.cur (o / 8)).toNat : Nat) : Int)) ∧ w = w' := by
  have := load_ok h.dev h.hj o ho h8 hl
  rw [Int.toNat_of_nonneg (hvb.cur (o / 8)).1]
  exact this
set_option maxRecDepth 100000 in
set_option maxHeartbeats 4000000 in
theorem uSaved_any (h : LogAt w v own D lb j off n) (ho : D.off = false) (hvb : D.VB) : Calls Tryd.prog 28 #[.pointer (some ⟨lb, 0, none⟩)] w
    fun r w' => ∃ sv, r = .returned sv ∧ Acc w w.heap.size w' 102 2 sv (savedL D.cur off n).length (flat (savedL D.cur off n)) := by
  have hb := h.bd; have h2 := h.n2; have hfit := h.fit; have h64 := h.o64
  have c0 := h.c0; have c1 := h.c1
  have hm1 := meth_Load ⟨v.tb j, 0, none⟩; have hn1 := nilA_Load ⟨v.tb j, 0, none⟩
  have H := Lib.hid h
  have HV := Lib.hid hvb
  have HN := Lib.hid (unone_any h)
  have HL := Lib.hid (fun wx (hx : LogAt wx v own D lb j off n) => lload hx ho hvb off (by omega) (by omega))
  obtain ⟨k0, hi0, hz0, hz1, hz2⟩ := info_parts infoWrite
  have I2 := Lib.hid (And.intro hi0 (And.intro hz0 (And.intro hz1 hz2))); clear hi0 hz0 hz1 hz2
  have hcb := hvb.cur (off / 8)
  clear h hvb
  obtain ⟨c, hc⟩ : ∃ c, (D.cur (off / 8)).toNat = c := ⟨_, rfl⟩
  have hcI : D.cur (off / 8) = (c : Int) := by omega
  have hc64 : c < 18446744073709551616 := by omega
  have HC : Hid (cntL D.cur off n = if 4 * (n - 1) < c then 0 else c) := by
    show cntL D.cur off n = _
    unfold cntL
    rw [hcI]
    by_cases e : 4 * (n - 1) < c
    · rw [if_pos (by omega), if_pos e]
    · rw [if_neg (by omega), if_neg e]; omega
  rw [hc] at HL
  clear hcb hcI hc
  go_enter Tryd.func28, Tryd.ntmps28
  go_wp2_with fail
  (with_reducible refine HN.out.mono ?_)
  rintro e w' ⟨rfl, rfl⟩
  go_upto_region 4 with fail
  go_cut [4] from 14 to 22 (fun x wx => x = .int .u64 (c : Int) ∧ Below w.heap.size w wx)
  case first =>
    go_region_with (go_at_call 132; refine (HL.out _ ?hd).mono ?_; (case hd => first | exact (H.out.alloc _).drew | exact H.out.drew | exact H.out.alloc _ | exact H.out); rintro e w' ⟨rfl, rfl⟩)
    all_goals go_wp2_with fail
    all_goals go_meet
    all_goals exact ⟨rfl, (Below.refl _ _).drew⟩
  case rest =>
    obtain ⟨rfl, hbc⟩ := hcut
    have LC := Lib.hid (H.out.below hbc); have BC := Lib.hid hbc
    have HCap := Lib.hid (ucap_any LC.out)
    clear hbc HL HN c0 c1
    have c0 := LC.out.c0; have c1 := LC.out.c1
    by_cases hgt : 4 * (n - 1) < c
    · have hgt' : ((4 * (n - 1) : Nat) : Int) < (c : Int) := by omega
      have HQ : Hid (savedL D.cur off n = []) := by show savedL D.cur off n = []; unfold savedL; rw [HC.out, if_pos hgt]; rfl
      clear HC
      go_wp2_with fail
      (with_reducible refine HCap.out.mono ?_)
      rintro e w' ⟨rfl, rfl⟩
      go_wp2_with fail
      go_loopw [5, 30] (fun s y wr => s = .slice none 0 0 ∧ y = .int .i64 0 ∧ Below w.heap.size w wr) (fun _ _ _ => 0)
      case atStart => exact ⟨rfl, rfl, BC.out⟩
      case round =>
        obtain ⟨rfl, rfl, hb2⟩ := hrel
        go_wp2_with fail
        go_ret
        exact ⟨_, rfl, by rw [HQ.out]; exact Acc.nil w _ _ _ _ hb2 hb2.size⟩
    · have hgt' : ¬ ((4 * (n - 1) : Nat) : Int) < (c : Int) := by omega
      have HQ : Hid (savedL D.cur off n = entsL D.cur off c) := by show savedL D.cur off n = _; unfold savedL; rw [HC.out, if_neg hgt]
      clear HC
      go_wp2_with fail
      (with_reducible refine HCap.out.mono ?_)
      rintro e w' ⟨rfl, rfl⟩
      go_wp2_with fail
      go_loopw [5, 30] (fun s y wr => ∃ k : Nat, k ≤ c ∧ y = .int .i64 k ∧ Acc w w.heap.size wr 102 2 s k (flat (entsL D.cur off k))) (fun _ y _ => c - (intOf y).toNat)
      case atStart => exact ⟨0, by omega, rfl, Acc.nil w _ _ _ _ BC.out BC.out.size⟩
      case round =>
        obtain ⟨k, hk, rfl, ha⟩ := hrel
        obtain ⟨sa, sc, hsv⟩ := ha.slice
        subst hsv
        have A := Lib.hid ha; clear ha
        have LK := Lib.hid (H.out.below A.out.bel)
        by_cases hlt : k < c
        · have hlt' : (k : Int) < c := by omega
          have d0 := LK.out.c0
          have HE := Lib.hid (uentryOff_any LK.out k (by omega))
          have hq : off + 64 + 16 * k + 8 < 64 * D.n := by omega
          have HL1 := Lib.hid (lload LK.out ho HV.out (off + 64 + 16 * k) (by omega) (by omega))
          have HL2 := Lib.hid (lload LK.out ho HV.out (off + 64 + 16 * k + 8) (by omega) (by omega))
          have hv1 := (HV.out.cur ((off + 64 + 16 * k + 8) / 8))
          have e1 : (off + 64 + 16 * k) / 8 = off / 8 + 8 + 2 * k := by omega
          have e2 : (off + 64 + 16 * k + 8) / 8 = off / 8 + 9 + 2 * k := by omega
          rw [e1] at HL1; rw [e2] at HL2 hv1
          have HT : Hid (entsL D.cur off (k + 1) = entsL D.cur off k ++ [((D.cur (off / 8 + 8 + 2 * k)).toNat, ((D.cur (off / 8 + 9 + 2 * k)).toNat : Int))]) := by
            show entsL D.cur off (k + 1) = _
            rw [entsL_snoc, Int.toNat_of_nonneg hv1.1]
          generalize (D.cur (off / 8 + 8 + 2 * k)).toNat = ea at *
          generalize (D.cur (off / 8 + 9 + 2 * k)).toNat = ev at *
          obtain ⟨q, hqq⟩ : ∃ q, off + 64 + 16 * k = q := ⟨_, rfl⟩
          rw [hqq] at HE HL1 HL2 hq
          have e3 : ((q + 8 : Nat) : Int) = (q : Int) + 8 := by omega
          rw [e3] at HL2
          clear e1 e2 e3 hqq hv1
          go_wp2_with fail
          (with_reducible refine HE.out.mono ?_)
          rintro e w' ⟨rfl, rfl⟩
          go_wp2_with fail
          (with_reducible refine HL1.out.mono ?_)
          rintro e w' ⟨rfl, rfl⟩
          go_wp2_with fail
          (with_reducible refine HL2.out.mono ?_)
          rintro e w' ⟨rfl, rfl⟩
          go_wp2_with (at_builtin; refine wpList_append_sl _ rfl _ _ 30 rfl 102 k0 _ 2 16 Tryd.underlying30 I2.out.1 I2.out.2.1 I2.out.2.2.1 I2.out.2.2.2 rfl (by decide) _ k (flat (entsL D.cur off k)) rfl (by exact A.out.own.alloc _) _ 1 (flat [(ea, (ev : Int))]) rfl (by exact RdSl.newAt _ _ _ 2 1 _ (by simp) rfl) (flat_one _) (by unfold maxLen; omega) (by omega) ?_)
          intro v1 w3 o1 g1 b1 n1
          have A1 := Lib.hid (A.out.next (below_alloc wr _) o1 g1 b1 (by omega))
          clear o1 g1 b1 n1
          go_wp2_with fail
          go_roundw
          case rel => exact ⟨k + 1, by omega, by go_num, A1.out.congr rfl (by rw [HT.out, flat_append])⟩
          case measure => simp [intOf]; omega
        · obtain rfl : k = c := by omega
          go_wp2_with fail
          go_ret
          exact ⟨_, rfl, by rw [HQ.out]; exact A.out.congr (entsL_len _ _ _).symm rfl⟩

/-- What entries, Plan and the like return beside an error. -/
def ErrNil (w : World) (e : Int) (r : Ending) (w' : World) : Prop := r = .returned (.tuple #[.slice none 0 0, .int .i64 e]) ∧ Below w.heap.size w w'
set_option maxRecDepth 100000 in
set_option maxHeartbeats 1000000 in
theorem uentries_any (h : LogAt w v own D lb j off n) (ho : D.off = false) (he : D.err j = 0) (hvb : D.VB) : Calls Tryd.prog 69 #[.pointer (some ⟨lb, 0, none⟩)] w
    fun r w' => ∃ sv, r = .returned (.tuple #[sv, .int .i64 0]) ∧ Acc w w.heap.size w' 102 2 sv (savedL D.cur off n).length (flat (savedL D.cur off n)) := by
  have c0 := h.c0
  have hm1 := meth_Err ⟨v.tb j, 0, none⟩
  have HN := Lib.hid (unone_any h)
  have HS := Lib.hid (uSaved_any h ho hvb)
  have hE := fun wx (hx : LogAt wx v own D lb j off n) => err_any hx.dev hx.hj
  rw [he] at hE
  have HE := Lib.hid hE
  have H := Lib.hid h
  clear h hE
  go_enter Tryd.func69, Tryd.ntmps69
  go_wp2_with fail
  (with_reducible refine HN.out.mono ?_)
  rintro e w' ⟨rfl, rfl⟩
  go_wp2_with fail
  (with_reducible refine (HE.out _ H.out).mono ?_)
  rintro e w' ⟨rfl, rfl⟩
  go_wp2_with fail
  (with_reducible refine HS.out.mono ?_)
  rintro e w1 ⟨sv, rfl, a1⟩
  obtain ⟨sa, sc, hsv⟩ := a1.slice
  subst hsv
  have A1 := Lib.hid a1
  have L1 := Lib.hid (H.out.below a1.bel)
  clear a1
  have c0 := L1.out.c0
  go_wp2_with fail
  (with_reducible refine (HE.out _ L1.out).mono ?_)
  rintro e w' ⟨rfl, rfl⟩
  go_wp2_with fail
  go_ret2
  exact ⟨_, rfl, A1.out⟩
set_option maxRecDepth 100000 in
set_option maxHeartbeats 1000000 in
theorem uentries_err (h : LogAt w v own D lb j off n) (he : D.err j ≠ 0) : Calls Tryd.prog 69 #[.pointer (some ⟨lb, 0, none⟩)] w (ErrNil w (D.err j)) := by
  have c0 := h.c0
  have hm1 := meth_Err ⟨v.tb j, 0, none⟩
  have HN := Lib.hid (unone_any h)
  have HE := Lib.hid (err_any h.dev h.hj)
  have hne : (D.err j != 0) = true := by simpa using he
  generalize D.err j = e at *
  clear h he
  go_enter Tryd.func69, Tryd.ntmps69
  go_wp2_with fail
  (with_reducible refine HN.out.mono ?_)
  rintro e w' ⟨rfl, rfl⟩
  go_wp2_with fail
  (with_reducible refine HE.out.mono ?_)
  rintro e w' ⟨rfl, rfl⟩
  go_wp2_with fail
  go_ret2
  exact ⟨rfl, Below.refl _ _⟩
end
end Go.Proofs.YtokgplgdaememaaDoor
