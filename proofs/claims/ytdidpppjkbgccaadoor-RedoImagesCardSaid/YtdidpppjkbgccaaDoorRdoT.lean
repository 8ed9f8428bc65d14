/- The walks of the redo log's look, Look, Commit, Recover. -/
import Derived.Test.YtdidpppjkbgccaaDoorRdoR
import Derived.Test.YtdidpppjkbgccaaDoorDevI
import Derived.Test.YtdidpppjkbgccaaDoorDevK
namespace Go.Proofs.YtdidpppjkbgccaaDoor
open Go.RowKit Go.Maps

theorem high_mask (c : Nat) (hc : c < 18446744073709551616) : c &&& (18446744073709551615 - 65535) = c / 65536 * 65536 := by
  have e1 : c / 65536 * 65536 = c >>> 16 <<< 16 := by rw [Nat.shiftRight_eq_div_pow, Nat.shiftLeft_eq]
  have e2 : 18446744073709551615 - 65535 = (2 ^ 48 - 1) <<< 16 := by decide
  rw [e1, e2]
  refine Nat.eq_of_testBit_eq fun i => ?_
  rw [Nat.testBit_and, Nat.testBit_shiftLeft, Nat.testBit_shiftLeft, Nat.testBit_two_pow_sub_one, Nat.testBit_shiftRight]
  by_cases h1 : 16 ≤ i
  · rw [show 16 + (i - 16) = i by omega]
    by_cases h2 : i - 16 < 48
    · simp [h1, h2]
    · have : c.testBit i = false := Nat.testBit_lt_two_pow (Nat.lt_of_lt_of_le (show c < 2 ^ 64 by omega) (Nat.pow_le_pow_right (by omega) (by omega)))
      simp [this]
  · simp [h1]
theorem andNot_mask (c : Nat) (hc : c < 18446744073709551616) : bits .andNot .u64 (c : Int) 65535 = ((c / 65536 * 65536 : Nat) : Int) := by
  have := u64_andNot_nat c 65535 hc (by omega)
  rw [high_mask c hc] at this
  exact this
theorem and_mask16 (c : Nat) (hc : c < 18446744073709551616) : bits .and .u64 (c : Int) 65535 = ((c % 65536 : Nat) : Int) := by
  have := u64_and_nat c 65535 hc (by omega)
  rw [nat_mask16] at this
  exact this
theorem shl_high (c : Nat) : (IntKind.u64.wrap (((c / 65536 * 65536 : Nat) : Int) * 4294967296) != 0) = decide (c / 65536 % 65536 ≠ 0) := by
  rw [IntKind.wrap_u64]
  by_cases h : c / 65536 % 65536 = 0
  · have : ((c / 65536 * 65536 : Nat) : Int) * 4294967296 % 18446744073709551616 = 0 := by omega
    rw [this]; simp [h]
  · have : ((c / 65536 * 65536 : Nat) : Int) * 4294967296 % 18446744073709551616 ≠ 0 := by omega
    simp [h]; omega
/-- The entries that the words of a log tell. -/
def rEnt (off n : Nat) (C : Nat → Int) : List (Nat × Int) := (List.range n).map fun i => ((C (off / 8 + 8 + 2 * i)).toNat, C (off / 8 + 9 + 2 * i))
theorem rEnt_snoc (off n : Nat) (C : Nat → Int) : rEnt off (n + 1) C = rEnt off n C ++ [((C (off / 8 + 8 + 2 * n)).toNat, C (off / 8 + 9 + 2 * n))] := by simp [rEnt, List.range_succ]
theorem rEnt_len (off n : Nat) (C : Nat → Int) : (rEnt off n C).length = n := by simp [rEnt]
theorem entW_rEnt (off n : Nat) (C : Nat → Int) : entW (rEnt off n C) = (List.range (2 * n)).map fun i => (C (off / 8 + 8 + i)).toNat := by
  induction n with
  | zero => rfl
  | succ n ih =>
    rw [rEnt_snoc, entW_snoc, ih, show 2 * (n + 1) = 2 * n + 1 + 1 by omega, List.range_succ, List.range_succ]
    simp [show off / 8 + 9 + 2 * n = off / 8 + 8 + (2 * n + 1) by omega]
section
variable {w : World} {v : DV} {own : Nat → Option Role} {D : Dev} {lb j off len : Nat}
/-- Words that are being read. -/
structure WMid (w : World) (g m : Nat) (F : Nat → Int) (k : Nat) (wr : World) : Prop where
  row : Row wr g m 42 (fun i => .int .u64 (if i < k then F i else 0))
  bel : Below g w wr
theorem WMid.start (F : Nat → Int) (m : Nat) : WMid w w.heap.size m F 0 (w.alloc (.cells (madeCells #[.int .u64 0] m) 42)) :=
  ⟨(row_made w 42 .u64 m).congr (fun i _ => by simp), below_alloc w _⟩
theorem WMid.next {g m k : Nat} {F : Nat → Int} {wr w1 : World} (h : WMid w g m F k wr) (hb : Below wr.heap.size wr w1) : WMid w g m F k w1 := ⟨h.row.below hb, h.bel.trans (hb.mono (Nat.le_of_lt h.row.lt))⟩
theorem WMid.step {g m k : Nat} {F : Nat → Int} {wr : World} {x : Int} (h : WMid w g m F k wr) (hx : F k = x) : WMid w g m F (k + 1) (wr.setCell ⟨g, k, none⟩ (.int .u64 x)) := by
  subst hx
  refine ⟨(h.row.set k (.int .u64 (F k))).congr (fun i _ => ?_), h.bel.setCell (Nat.le_refl _) _⟩
  by_cases e : i = k
  · subst e; simp
  · simp only [if_neg e]
    by_cases e2 : i < k
    · rw [if_pos e2, if_pos (by omega)]
    · rw [if_neg e2, if_neg (by omega)]
set_option maxRecDepth 100000 in
set_option maxHeartbeats 8000000 in
theorem rdlook_any (hN : Nib w) (h : RLog w v own D lb j off len) (hof : D.off = false) (hvb : D.VB) : Calls Tryd.prog 38 #[.pointer (some ⟨lb, 0, none⟩)] w
    fun r w' => ∃ sv, r = .returned (.tuple #[.int .u8 ((rLook (64 * D.n) off len D.cur).1 : Nat), sv]) ∧ Acc w w.heap.size w' 73 2 sv (rLook (64 * D.n) off len D.cur).2.length (flat (rLook (64 * D.n) off len D.cur).2) := by
  have hbd := h.bd; have hn2 := h.n26; have hfit := h.fit; have h64o := h.o64
  have c0 := h.c0; have c1 := h.c1
  have hm1 := meth_Load ⟨v.tb j, 0, none⟩; have hn1 := nilA_Load ⟨v.tb j, 0, none⟩
  have H := Lib.hid h; have HV := Lib.hid hvb; have HNB := Lib.hid hN
  have HL := Lib.hid (fun wx (hx : RLog wx v own D lb j off len) => lload hx hof hvb off (by omega) (by omega))
  have HLL := Lib.hid (fun wx (hx : RLog wx v own D lb j off len) o h8 hl => lload hx hof hvb o h8 hl)
  obtain ⟨k0, hi0, hz0, hz1, hz2⟩ := info_parts infoWrite
  have I2 := Lib.hid (And.intro hi0 (And.intro hz0 (And.intro hz1 hz2))); clear hi0 hz0 hz1 hz2
  have hcb := hvb.cur (off / 8)
  obtain ⟨c, hc⟩ : ∃ c, (D.cur (off / 8)).toNat = c := ⟨_, rfl⟩
  have hc64 : c < 18446744073709551616 := by omega
  have HR : Hid (rLook (64 * D.n) off len D.cur = if c = 0 then (1, []) else if c % 65536 = 0 ∨ 96 < c % 65536 ∨ c / 65536 % 65536 ≠ 0 then (3, []) else
      if crcN (entW (rEnt off (c % 65536) D.cur)) ≠ c / 4294967296 then (3, []) else if (rEnt off (c % 65536) D.cur).all (fun e => rAllowB (64 * D.n) off len e.1) then (2, rEnt off (c % 65536) D.cur) else (3, [])) := by
    show rLook (64 * D.n) off len D.cur = _
    unfold rLook
    rw [hc]; rfl
  rw [hc] at HL
  generalize rLook (64 * D.n) off len D.cur = LK at *
  clear h hvb hcb hc hN
  go_enter Tryd.func38, Tryd.ntmps38
  go_upto_region 2 with fail
  go_cut [5] from 16 to 24 (fun x wx => x = .int .u64 (c : Int) ∧ Below w.heap.size w wx)
  case first =>
    go_region_with (go_at_call 29; refine (HL.out _ ?hd).mono ?_; (case hd => first | exact (H.out.alloc _).drew | exact H.out.drew | exact H.out.alloc _ | exact H.out); rintro e w' ⟨rfl, rfl⟩)
    all_goals go_wp2_with fail
    all_goals go_meet
    all_goals exact ⟨rfl, (Below.refl _ _).drew⟩
  case rest =>
    obtain ⟨rfl, hbc⟩ := hcut
    rename World => wx
    have LC := Lib.hid (H.out.below hbc); have BC := Lib.hid hbc; have NC := Lib.hid (HNB.out.below hbc)
    clear hbc HL c0 c1
    have c0 := LC.out.c0; have c1 := LC.out.c1
    by_cases hc0 : c = 0
    · have hb0 : ((c : Int) == 0) = true := by simp; omega
      have HQ : Hid (LK = (1, [])) := by show LK = _; rw [HR.out, if_pos hc0]
      clear HR hc0
      go_wp2_with fail
      go_ret2
      rw [HQ.out]
      exact ⟨_, rfl, Acc.nil w _ _ _ _ BC.out BC.out.size⟩
    · have hb0 : ((c : Int) == 0) = false := by simp; omega
      have hand := and_mask16 c hc64
      have hnot := andNot_mask c hc64
      have hshl := shl_high c
      rw [if_neg hc0] at HR
      obtain ⟨n, hn⟩ : ∃ n, c % 65536 = n := ⟨_, rfl⟩
      rw [hn] at hand HR
      generalize c / 65536 * 65536 = x at *
      have hn16 : n < 65536 := by omega
      clear hc0 hn
      by_cases h1 : n = 0
      · have hb1 : ((n : Int) == 0) = true := by simp; omega
        have HQ : Hid (LK = (3, [])) := by show LK = _; rw [HR.out, if_pos (.inl h1)]
        clear HR h1 hshl
        go_wp2_with fail
        go_ret2
        rw [HQ.out]
        exact ⟨_, rfl, Acc.nil w _ _ _ _ BC.out BC.out.size⟩
      · have hb1 : ((n : Int) == 0) = false := by simp; omega
        by_cases h2 : 96 < n
        · have h2' : (96 : Int) < n := by omega
          have HQ : Hid (LK = (3, [])) := by show LK = _; rw [HR.out, if_pos (.inr (.inl h2))]
          clear HR h1 hshl
          go_wp2_with fail
          go_ret2
          rw [HQ.out]
          exact ⟨_, rfl, Acc.nil w _ _ _ _ BC.out BC.out.size⟩
        · have h2' : ¬ (96 : Int) < n := by omega
          by_cases h3 : c / 65536 % 65536 ≠ 0
          · have hs : (IntKind.u64.wrap ((x : Int) * 4294967296) != 0) = true := by rw [hshl]; simpa using h3
            have HQ : Hid (LK = (3, [])) := by show LK = _; rw [HR.out, if_pos (.inr (.inr h3))]
            clear HR h1 hshl h3
            go_wp2_with fail
            go_ret2
            rw [HQ.out]
            exact ⟨_, rfl, Acc.nil w _ _ _ _ BC.out BC.out.size⟩
          · have hs : (IntKind.u64.wrap ((x : Int) * 4294967296) != 0) = false := by rw [hshl]; simpa using h3
            rw [if_neg (by omega)] at HR
            clear h1 hshl h3
            obtain ⟨m, hm⟩ : ∃ m, 2 * n = m := ⟨_, rfl⟩
            have hm2 : (2 : Int) * (n : Int) = (m : Int) := by omega
            have HEW := Lib.hid (entW_rEnt off n D.cur)
            rw [hm] at HEW
            have hmm : m ≤ 192 := by omega
            have HMN := Lib.hid hm
            have hmk := fun (wx : World) => mkWords wx m (by omega)
            clear hm
            have M0 := Lib.hid (WMid.start (w := wx) (fun i => D.cur (off / 8 + 8 + i)) m)
            go_wp2_with fail
            go_loopw [47] (fun y wr => ∃ k : Nat, k ≤ m ∧ y = .int .i64 k ∧ WMid wx wx.heap.size m (fun i => D.cur (off / 8 + 8 + i)) k wr) (fun y _ => m - (intOf y).toNat)
            case atStart => exact ⟨0, by omega, rfl, M0.out⟩
            case round =>
              obtain ⟨k, hk, rfl, hM⟩ := hrel
              have M := Lib.hid hM
              have LK2 := Lib.hid (LC.out.below hM.bel)
              clear M0 c0 c1
              by_cases hlt : k < m
              · have hlt' : (k : Int) < m := by omega
                have c1 := LK2.out.c1
                have hsz : wx.heap.size < wr.heap.size := hM.row.lt
                have hcell := hM.row.cell (i := k) hlt
                have hfro := hM.row.frozen k
                have hLk := fun wy hy => HLL.out wy hy (off + 64 + 8 * k) (by omega) (by omega)
                rw [show (off + 64 + 8 * k) / 8 = off / 8 + 8 + k by omega] at hLk
                have hvk := (HV.out.cur (off / 8 + 8 + k)).1
                obtain ⟨t, ht⟩ : ∃ t, (D.cur (off / 8 + 8 + k)).toNat = t := ⟨_, rfl⟩
                rw [ht] at hLk
                have HT : Hid (D.cur (off / 8 + 8 + k) = (t : Int)) := by show D.cur (off / 8 + 8 + k) = (t : Int); omega
                obtain ⟨q, hq⟩ : ∃ q, off + 64 + 8 * k = q := ⟨_, rfl⟩
                rw [hq] at hLk
                have hq2 : (off : Int) + 64 + (k : Int) * 8 = (q : Int) := by omega
                have hq64 : q < 18446744073709551616 := by omega
                have u1 : IntKind.u64.wrap (k : Int) = (k : Int) := IntWalk.u64_in _ (by omega)
                have u2 : IntKind.u64.wrap ((k : Int) * 8) = (k : Int) * 8 := IntWalk.u64_in _ (by omega)
                have u3 : IntKind.u64.wrap ((off : Int) + 64) = (off : Int) + 64 := IntWalk.u64_in _ (by omega)
                have u4 : IntKind.u64.wrap (q : Int) = (q : Int) := IntWalk.u64_in _ (by omega)
                have HLK := Lib.hid hLk
                generalize (if k < k then D.cur (off / 8 + 8 + k) else 0) = old at *
                clear hM hLk hvk ht hq
                go_wp2_with fail
                go_region_with (go_at_call 29; (first | (with_reducible refine (HLK.out _ (LK2.out.alloc _).drew).mono ?_) | (with_reducible refine (HLK.out _ LK2.out.drew).mono ?_) | (with_reducible refine (HLK.out _ (LK2.out.alloc _)).mono ?_) | (with_reducible refine (HLK.out _ LK2.out).mono ?_)); rintro e w' ⟨rfl, rfl⟩)
                all_goals go_wp2_with fail
                all_goals
                  go_roundw
                  case rel => exact ⟨k + 1, by omega, by go_num, (M.out.next ((Below.refl _ _).drew)).step HT.out⟩
                  case measure => simp [intOf]; omega
              · obtain rfl : k = m := by omega
                have hrow : Row wr wx.heap.size k 42 (fun i => .int .u64 (D.cur (off / 8 + 8 + i))) := M.out.row.congr (fun i hi => by rw [if_pos hi])
                have HROW := Lib.hid hrow
                have hrd := row_rd hrow (Nat.le_refl _)
                have hnat : intsU (getL (fun i => D.cur (off / 8 + 8 + i)) k) = natsU (entW (rEnt off n D.cur)) := by
                  rw [HEW.out]
                  unfold intsU natsU getL
                  rw [List.map_map, List.map_map]
                  refine List.map_congr_left (fun i _ => ?_)
                  have := (HV.out.cur (off / 8 + 8 + i)).1
                  show Value.int .u64 (D.cur (off / 8 + 8 + i)) = .int .u64 (((D.cur (off / 8 + 8 + i)).toNat : Nat) : Int)
                  rw [Int.toNat_of_nonneg this]
                rw [hnat] at hrd
                have HGE : Hid (∀ a, a < n → (rEnt off n D.cur)[a]? = some ((D.cur (off / 8 + 8 + 2 * a)).toNat, D.cur (off / 8 + 9 + 2 * a))) := fun a ha => by unfold rEnt; rw [List.getElem?_map, List.getElem?_range ha]; rfl
                have hlW := rEnt_len off n D.cur
                have hlE := entW_len (rEnt off n D.cur)
                have h64 : ∀ x ∈ entW (rEnt off n D.cur), x < 18446744073709551616 := entW_bd (fun e he => by
                  unfold rEnt at he
                  obtain ⟨i, _, rfl⟩ := List.mem_map.1 he
                  have h1 := HV.out.cur (off / 8 + 8 + 2 * i); have h2 := HV.out.cur (off / 8 + 9 + 2 * i)
                  exact ⟨by simp only; omega, h2⟩)
                generalize rEnt off n D.cur = W at *
                have HCR := Lib.hid (crcWords_any (NC.out.below M.out.bel) (.slice (some ⟨wx.heap.size, 0, none⟩) k k) (entW W) (by rw [hlE, hlW, HMN.out]; exact hrd) (by rw [hlE, hlW]; omega) h64)
                have hcr64 := crcN_lt (entW W)
                obtain ⟨qh, hqh⟩ : ∃ qh, c / 4294967296 = qh := ⟨_, rfl⟩
                have hq3 : (c : Int) / 4294967296 = (qh : Int) := by omega
                rw [hqh] at HR
                have BM : Hid (Below w.heap.size w wr) := BC.out.trans (M.out.bel.mono BC.out.size)
                have HWL := Lib.hid hlW
                have hgs : wx.heap.size < wr.heap.size := hrow.lt
                clear hrow hrd hnat hlE hlW h64 hqh hM M HEW
                generalize crcN (entW W) = cr at *
                by_cases hcr : cr = qh
                · have hb4 : ((cr : Int) != (qh : Int)) = false := by simp; omega
                  rw [if_neg (by omega)] at HR
                  clear hcr
                  go_wp2_with fail
                  (with_reducible refine HCR.out.mono ?_)
                  rintro e w' ⟨rfl, rfl⟩
                  go_wp2_with fail
                  go_loopw [9, 75] (fun sv y wq => ∃ a : Nat, a ≤ n ∧ y = .int .i64 a ∧ (∀ i e, i < a → W[i]? = some e → rAllowB (64 * D.n) off len e.1 = true) ∧ Acc wr wr.heap.size wq 73 2 sv a (flat (W.take a))) (fun _ y _ => n - (intOf y).toNat)
                  case atStart => exact ⟨0, by omega, rfl, fun i e hi => by omega, Acc.nil wr _ _ _ _ (Below.refl _ _) (Nat.le_refl _)⟩
                  case round =>
                    obtain ⟨a, ha, rfl, hgd, hacc⟩ := hrel
                    obtain ⟨pa, pc, hpv⟩ := hacc.slice
                    subst hpv
                    have HG := Lib.hid hgd; have A := Lib.hid hacc; clear hgd hacc
                    rename World => wq
                    by_cases hlt2 : a < n
                    · have hlt2' : (a : Int) < n := by omega
                      have he := HGE.out a hlt2
                      have hv1 := HV.out.cur (off / 8 + 8 + 2 * a); have hv2 := HV.out.cur (off / 8 + 9 + 2 * a)
                      obtain ⟨p, hp⟩ : ∃ p, 2 * a = p := ⟨_, rfl⟩
                      have hpk : p + 1 < k := by have := HMN.out; omega
                      have hrq := HROW.out.below A.out.bel
                      obtain ⟨e1, he1⟩ : ∃ e1, (D.cur (off / 8 + 8 + 2 * a)).toNat = e1 := ⟨_, rfl⟩
                      have he1' : D.cur (off / 8 + 8 + 2 * a) = (e1 : Int) := by omega
                      obtain ⟨e2, he2⟩ : ∃ e2, D.cur (off / 8 + 9 + 2 * a) = e2 := ⟨_, rfl⟩
                      have hcells : ∀ wz : World, Row wz wx.heap.size k 42 (fun i => .int .u64 (D.cur (off / 8 + 8 + i))) → wz.cell? ⟨wx.heap.size, p, none⟩ = some (.int .u64 (e1 : Int)) ∧ wz.cell? ⟨wx.heap.size, p + 1, none⟩ = some (.int .u64 e2) := fun wz hz => by
                        have d1 := hz.cell (i := p) (by omega)
                        have d2 := hz.cell (i := p + 1) hpk
                        rw [show off / 8 + 8 + p = off / 8 + 8 + 2 * a by omega, he1'] at d1
                        rw [show off / 8 + 8 + (p + 1) = off / 8 + 9 + 2 * a by omega, he2] at d2
                        exact ⟨d1, d2⟩
                      obtain ⟨d1, d2⟩ := hcells wq hrq
                      obtain ⟨d3, d4⟩ := hcells _ (hrq.alloc (.cells #[.int .u64 0, .int .u64 0] 73))
                      rw [he1, he2] at he
                      rw [he2] at hv2
                      have he164 : e1 < 18446744073709551616 := by omega
                      clear hcells
                      have hp2 : (2 : Int) * (a : Int) = (p : Int) := by omega
                      have hpk1 : (p : Int) < (k : Int) := by omega
                      have hpk2 : (p : Int) + 1 < (k : Int) := by omega
                      have u1 : IntKind.i64.wrap ((2 : Int) * (a : Int)) = (p : Int) := by rw [hp2]; exact IntWalk.i64_in _ (by omega)
                      have u2 : IntKind.i64.wrap ((p : Int)) = (p : Int) := IntWalk.i64_in _ (by omega)
                      have u3 : IntKind.i64.wrap ((p : Int) + 1) = (p : Int) + 1 := IntWalk.i64_in _ (by omega)
                      have HT := Lib.hid (take_snoc_get W a _ he)
                      have HE := Lib.hid he
                      have LQ := Lib.hid (LK2.out.below A.out.bel)
                      clear he hv1 hv2 he1 he1' he2 hp hrq
                      go_wp2_with fail
                      go_region
                      have LZ : Hid (RLog (wq.alloc (.cells #[.int .u64 (e1 : Int), .int .u64 e2] 73)).drew v own D lb j off len) := (LQ.out.alloc _).drew
                      have AZ : Hid (Acc wr wr.heap.size (wq.alloc (.cells #[.int .u64 (e1 : Int), .int .u64 e2] 73)).drew 73 2 (.slice pa a pc) a (flat (W.take a))) := A.out.keep ((below_alloc wq _).drew)
                      have z0 : (wq.alloc (.cells #[.int .u64 (e1 : Int), .int .u64 e2] 73)).drew.cell? ⟨wq.heap.size, 0, none⟩ = some (.int .u64 (e1 : Int)) := (Blk.new wq _ _).cell rfl
                      have z1 : (wq.alloc (.cells #[.int .u64 (e1 : Int), .int .u64 e2] 73)).drew.cell? ⟨wq.heap.size, 1, none⟩ = some (.int .u64 e2) := (Blk.new wq _ _).cell rfl
                      have zl : wq.heap.size < (wq.alloc (.cells #[.int .u64 (e1 : Int), .int .u64 e2] 73)).drew.heap.size := by simp [World.drew]
                      clear d1 d2 d3 d4 u1 u2 u3 A LQ
                      generalize (wq.alloc (.cells #[.int .u64 (e1 : Int), .int .u64 e2] 73)).drew = wz at *
                      generalize wq.heap.size = pb at *
                      have HA := Lib.hid (rdallowed_any LZ.out e1 he164)
                      cases hok : rAllowB (64 * D.n) off len e1
                      · rw [hok] at HA
                        have HQ : Hid (LK = (3, [])) := by
                          show LK = _
                          rw [HR.out, if_neg (fun hall => by
                            have := List.all_eq_true.1 hall _ (List.mem_of_getElem? HE.out)
                            simp only at this
                            rw [hok] at this; cases this)]
                        clear HR hok
                        go_wp2_with fail
                        (with_reducible refine HA.out.mono ?_)
                        rintro e w1 ⟨rfl, b1⟩
                        have B1 : Hid (Below w.heap.size w w1) := BM.out.trans ((AZ.out.bel.trans (b1.mono AZ.out.bel.size)).mono BM.out.size)
                        clear b1
                        go_wp2_with fail
                        go_ret2
                        rw [HQ.out]
                        exact ⟨_, rfl, Acc.nil w _ _ _ _ B1.out B1.out.size⟩
                      · rw [hok] at HA
                        have HOK := Lib.hid hok; clear hok
                        go_wp2_with fail
                        (with_reducible refine HA.out.mono ?_)
                        rintro e w1 ⟨rfl, b1⟩
                        have A1 := Lib.hid (AZ.out.keep b1)
                        have y0 := cell_bel b1 z0
                        have y1 := cell_bel b1 z1
                        clear b1 AZ LZ z0 z1 HA
                        go_wp2_with (at_builtin; refine wpList_append_sl _ rfl _ _ 31 rfl 73 k0 _ 2 16 Tryd.underlying31 I2.out.1 I2.out.2.1 I2.out.2.2.1 I2.out.2.2.2 rfl (by decide) _ a (flat (W.take a)) rfl (by exact A1.out.own.alloc _) _ 1 (flat [(e1, e2)]) rfl (by exact RdSl.newAt _ _ _ 2 1 _ (by simp) rfl) (flat_one _) (by unfold maxLen; omega) (by omega) ?_)
                        intro v1 w4 o1 g1 b1 n1
                        have A4 := Lib.hid (A1.out.next (below_alloc w1 _) o1 g1 b1 (by simp)); clear o1 g1 b1 n1
                        go_wp2_with fail
                        go_roundw
                        case rel => exact ⟨a + 1, by omega, by go_num, fun i x hi hx => by
                          by_cases e : i = a
                          · subst e; rw [HE.out] at hx; cases hx; exact HOK.out
                          · exact HG.out i x (by omega) hx, A4.out.congr rfl (by rw [HT.out, flat_append])⟩
                        case measure => simp [intOf]; omega
                    · obtain rfl : a = n := by omega
                      have hall : W.all (fun e => rAllowB (64 * D.n) off len e.1) = true := List.all_eq_true.2 (fun e he => by
                        obtain ⟨i, hi, hx⟩ := List.getElem_of_mem he
                        exact HG.out i e (by rw [HWL.out] at hi; omega) (by rw [← hx]; exact List.getElem?_eq_getElem hi))
                      have HQ : Hid (LK = (2, W)) := by show LK = _; rw [HR.out, if_pos hall]
                      have hWt : W.take a = W := List.take_of_length_le (by rw [HWL.out]; omega)
                      rw [hWt] at A
                      clear HR hall hWt
                      go_wp2_with fail
                      go_ret2
                      rw [HQ.out]
                      exact ⟨_, rfl, (A.out.deeper BM.out).congr HWL.out.symm rfl⟩
                · have hb4 : ((cr : Int) != (qh : Int)) = true := by simp; omega
                  have HQ : Hid (LK = (3, [])) := by show LK = _; rw [HR.out, if_pos hcr]
                  clear HR hcr
                  go_wp2_with fail
                  (with_reducible refine HCR.out.mono ?_)
                  rintro e w' ⟨rfl, rfl⟩
                  go_wp2_with fail
                  go_ret2
                  rw [HQ.out]
                  exact ⟨_, rfl, Acc.nil w _ _ _ _ BM.out BM.out.size⟩
end
end Go.Proofs.YtdidpppjkbgccaaDoor

/- The walks of the redo log's Look, Commit, Recover. -/
namespace Go.Proofs.YtdidpppjkbgccaaDoor
open Go.RowKit Go.Maps

section
variable {w : World} {v : DV} {own : Nat → Option Role} {D : Dev} {lb j off len : Nat}
set_option maxRecDepth 100000 in
set_option maxHeartbeats 2000000 in
theorem rdCommit_err {e : Int} (sv : Value) (he : e ≠ 0) (hP : Calls Tryd.prog 26 #[.pointer (some ⟨lb, 0, none⟩), sv] w (ErrNil w e)) :
    Calls Tryd.prog 11 #[.pointer (some ⟨lb, 0, none⟩), sv] w fun r w' => r = .returned (.int .i64 e) ∧ Below w.heap.size w w' := by
  have HP := Lib.hid hP; clear hP
  have hne : (e != 0) = true := by simpa using he
  clear he
  go_enter Tryd.func11, Tryd.ntmps11
  go_wp2_with fail
  (with_reducible refine HP.out.mono ?_)
  rintro e' w1 ⟨rfl, b1⟩
  have B1 := Lib.hid b1; clear b1
  go_wp2_with fail
  go_ret
  exact ⟨rfl, B1.out⟩
/-- What Commit of writes that are allowed answers. -/
def RCommitPost (w : World) (v : DV) (own : Nat → Option Role) (D : Dev) (j off : Nat) (W : List (Nat × Int)) (r : Ending) (w' : World) : Prop :=
  (96 < W.length ∧ r = .returned (.int .i64 9) ∧ Below w.heap.size w w') ∨ (¬ 96 < W.length ∧ D.cur (off / 8) ≠ 0 ∧ r = .returned (.int .i64 8) ∧ Below w.heap.size w w') ∨
  (¬ 96 < W.length ∧ D.cur (off / 8) = 0 ∧ r = .returned (.int .i64 ((D.run j (rPlanP off W)).err j)) ∧ DPost v own w (D.run j (rPlanP off W)) w')
set_option maxRecDepth 100000 in
set_option maxHeartbeats 2000000 in
theorem rdCommit_of (h : RLog w v own D lb j off len) (sv : Value) (W : List (Nat × Int)) (hx : D.exec + 100000 < 4294967296) (h64 : ∀ e ∈ W, e.1 < 18446744073709551616) (hP : Calls Tryd.prog 26 #[.pointer (some ⟨lb, 0, none⟩), sv] w (RPlanPost w off D.cur W)) :
    Calls Tryd.prog 11 #[.pointer (some ⟨lb, 0, none⟩), sv] w (RCommitPost w v own D j off W) := by
  have HP := Lib.hid hP; clear hP
  have H := Lib.hid h; have H64 := Lib.hid h64
  have hbd := h.bd
  have c0 := h.c0
  clear h h64
  go_enter Tryd.func11, Tryd.ntmps11
  go_wp2_with fail
  (with_reducible refine HP.out.mono ?_)
  rintro e' w1 (⟨h1, rfl, b1⟩ | ⟨h1, h2, rfl, b1⟩ | ⟨h1, h2, ov, rfl, a1⟩)
  · have B1 := Lib.hid b1; have H1 := Lib.hid h1; clear b1 h1
    go_wp2_with fail
    go_ret
    exact .inl ⟨H1.out, rfl, B1.out⟩
  · have B1 := Lib.hid b1; have H1 := Lib.hid h1; have H2 := Lib.hid h2; clear b1 h1 h2
    go_wp2_with fail
    go_ret
    exact .inr (.inl ⟨H1.out, H2.out, rfl, B1.out⟩)
  · have H1 := Lib.hid h1; have H2 := Lib.hid h2
    have hl := rPlanP_len off W
    have HR := Lib.hid (run_acc H.out.dev H.out.hj a1 (rPlanP_ok (by omega) ⟨by omega, H64.out⟩) (by omega) hx)
    have d0 := (H.out.below a1.bel).c0
    obtain ⟨oa, oc, hov⟩ := a1.slice
    clear a1 h1 h2 c0
    subst hov
    go_wp2_with fail
    (with_reducible refine HR.out.mono ?_)
    rintro e' w2 ⟨rfl, p2⟩
    have P2 := Lib.hid p2; clear p2
    go_wp2_with fail
    go_ret
    exact .inr (.inr ⟨H1.out, H2.out, rfl, P2.out⟩)
/-- What Recover answers. -/
def RRecPost (w : World) (v : DV) (own : Nat → Option Role) (D : Dev) (j off : Nat) (LK : Nat × List (Nat × Int)) (r : Ending) (w' : World) : Prop :=
  (LK.1 = 1 ∧ r = .returned (.tuple #[.int .i64 0, .int .i64 0]) ∧ Below w.heap.size w w') ∨ (LK.1 = 3 ∧ r = .returned (.tuple #[.int .i64 0, .int .i64 10]) ∧ Below w.heap.size w w') ∨
  (LK.1 = 2 ∧ DPost v own w (D.run j (rFinP off LK.2)) w' ∧
    (((D.run j (rFinP off LK.2)).err j = 0 ∧ r = .returned (.tuple #[.int .i64 LK.2.length, .int .i64 0])) ∨ ((D.run j (rFinP off LK.2)).err j ≠ 0 ∧ r = .returned (.tuple #[.int .i64 0, .int .i64 ((D.run j (rFinP off LK.2)).err j)]))))
theorem rLook_cases (size off len : Nat) (C : Nat → Int) : (rLook size off len C).1 = 1 ∨ (rLook size off len C).1 = 3 ∨ ((rLook size off len C).1 = 2 ∧ (rLook size off len C).2.length ≤ 96 ∧ ∀ e ∈ (rLook size off len C).2, rAllowB size off len e.1 = true) := by
  unfold rLook
  simp only
  split
  · exact .inl rfl
  · split
    · exact .inr (.inl rfl)
    · rename_i h
      split
      · exact .inr (.inl rfl)
      · split
        · rename_i h4
          exact .inr (.inr ⟨rfl, by simp; omega, List.all_eq_true.1 h4⟩)
        · exact .inr (.inl rfl)
set_option maxRecDepth 100000 in
set_option maxHeartbeats 4000000 in
theorem rdRecover_any (hN : Nib w) (h : RLog w v own D lb j off len) (hof : D.off = false) (he : D.err j = 0) (hvb : D.VB) (hx : D.exec + 100000 < 4294967296) :
    Calls Tryd.prog 21 #[.pointer (some ⟨lb, 0, none⟩)] w (RRecPost w v own D j off (rLook (64 * D.n) off len D.cur)) := by
  have hbd := h.bd
  have c0 := h.c0
  have hm1 := meth_Err ⟨v.tb j, 0, none⟩
  have H := Lib.hid h
  have hE := fun wx (hx : RLog wx v own D lb j off len) => err_any hx.dev hx.hj
  rw [he] at hE
  have HE := Lib.hid hE
  have HLK := Lib.hid (rdlook_any hN h hof hvb)
  have HCS := Lib.hid (rLook_cases (64 * D.n) off len D.cur)
  generalize hLK : rLook (64 * D.n) off len D.cur = LK at *
  obtain ⟨s, W⟩ := LK
  have HR := Lib.hid (fun w1 pv (hW : VIn W) (hl : W.length ≤ 96) ha => run_acc H.out.dev H.out.hj (w1 := w1) (pv := pv) (P := rFinP off W) ha (rFinP_ok (by omega) hW) (by have := rFinP_len off W; omega) hx)
  clear h hE hN hLK
  simp only at HLK HCS
  go_enter Tryd.func21, Tryd.ntmps21
  go_wp2_with fail
  (with_reducible refine (HE.out _ H.out).mono ?_)
  rintro e w' ⟨rfl, rfl⟩
  go_wp2_with fail
  (with_reducible refine HLK.out.mono ?_)
  rintro e w1 ⟨sv, rfl, a1⟩
  obtain ⟨sa, sc, hsv⟩ := a1.slice
  subst hsv
  have A1 := Lib.hid a1
  have L1 := Lib.hid (H.out.below a1.bel)
  clear a1 c0 HLK
  have c0 := L1.out.c0
  rcases HCS.out with hs | hs | ⟨hs, hl, hall⟩
  · subst hs
    go_wp2_with fail
    (with_reducible refine (HE.out _ L1.out).mono ?_)
    rintro e w' ⟨rfl, rfl⟩
    go_wp2_with fail
    go_ret2
    exact .inl ⟨rfl, rfl, A1.out.bel⟩
  · subst hs
    go_wp2_with fail
    (with_reducible refine (HE.out _ L1.out).mono ?_)
    rintro e w' ⟨rfl, rfl⟩
    go_wp2_with fail
    go_ret2
    exact .inr (.inl ⟨rfl, rfl, A1.out.bel⟩)
  · subst hs
    have hV : VIn W := ⟨by omega, fun e he => by
      have := of_decide_eq_true (show decide (e.1 % 8 = 0 ∧ e.1 < 64 * D.n ∧ (e.1 < off ∨ off + len ≤ e.1)) = true from hall e he)
      have := H.out.bd; omega⟩
    have HV := Lib.hid hV
    have HFN := Lib.hid (fun wx (hx : RLog wx v own D lb j off len) hs => rdfinish_any hx (.slice sa W.length sc) W hs HV.out)
    have HR2 := Lib.hid (fun w1 pv ha => HR.out w1 pv HV.out hl ha)
    have L1D : Hid (RLog w1.drew v own D lb j off len) := L1.out.drew
    have A1D : Hid (RdSl w1.drew 2 (.slice sa W.length sc) W.length (flat W)) := A1.out.rd.drew
    have B1 := Lib.hid A1.out.bel
    clear hall hV HR HCS
    generalize hm : W.length = m at *
    go_wp2_with fail
    (with_reducible refine (HE.out _ L1.out).mono ?_)
    rintro e w' ⟨rfl, rfl⟩
    go_upto_region 15 with fail
    go_cut [8] from 44 to 51 (fun x wx => x = .int .i64 ((D.run j (rFinP off W)).err j) ∧ DPost v own w (D.run j (rFinP off W)) wx)
    case first =>
      go_region_with (first | (go_at_call 39; (with_reducible refine (HFN.out _ L1D.out A1D.out).mono ?_); rintro e w2 ⟨pv, rfl, a2⟩; obtain ⟨pa, pc, hpv⟩ := a2.slice; subst hpv; have HR4 := Lib.hid (HR2.out w2 _ (a2.deeper (B1.out.drew))); have d2 := (L1D.out.below a2.bel).c0; clear a2) | (go_at_call 28; (with_reducible refine HR4.out.mono ?_); rintro e w5 ⟨rfl, p5⟩; have P5 := Lib.hid p5; clear p5))
      all_goals go_wp2_with fail
      all_goals go_meet
      all_goals exact ⟨rfl, P5.out⟩
    case rest =>
      obtain ⟨rfl, hp⟩ := hcut
      have P := Lib.hid hp; clear hp
      generalize hD : D.run j (rFinP off W) = D' at *
      by_cases he : D'.err j = 0
      · have hb : (D'.err j != 0) = false := by simpa using he
        have HE := Lib.hid he; clear he
        go_wp2_with fail
        go_ret2
        refine .inr (.inr ⟨rfl, by rw [hD]; exact P.out, .inl ⟨by rw [hD]; exact HE.out, ?_⟩⟩)
        rw [hm]; rfl
      · have hb : (D'.err j != 0) = true := by simpa using he
        have HE := Lib.hid he; clear he
        go_wp2_with fail
        go_ret2
        exact .inr (.inr ⟨rfl, by rw [hD]; exact P.out, .inr ⟨by rw [hD]; exact HE.out, by rw [hD]; rfl⟩⟩)
end
end Go.Proofs.YtdidpppjkbgccaaDoor
