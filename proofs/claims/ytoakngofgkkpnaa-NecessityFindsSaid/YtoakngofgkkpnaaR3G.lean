/- The walk of the reference's Content. -/
import Derived.Test.YtoakngofgkkpnaaR3F
namespace Go.Proofs.Ytoakngofgkkpnaa
open Go.RowKit
attribute [local go_sem ↓] Go.wp_at_zero Go.wp_at_succ

/-- How many of the first k lines are dirty. -/
def cntD (D : Dev) (k : Nat) : Nat := ((List.range k).filter fun l => decide (0 < (D.hist l).length)).length
theorem cntD_succ (D : Dev) (k : Nat) : cntD D (k + 1) = cntD D k + (if 0 < (D.hist k).length then 1 else 0) := by
  unfold cntD
  rw [List.range_succ, List.filter_append, List.length_append]
  by_cases h : 0 < (D.hist k).length <;> simp [h]
theorem cntD_le (D : Dev) (k : Nat) : cntD D k ≤ k := filt_len D k
theorem dirty_idx (D : Dev) (k : Nat) (hk : k < D.n) (hd : 0 < (D.hist k).length) : D.dirtyL[cntD D k]? = some k := by
  have e : D.dirtyL = ((List.range k).filter fun l => decide (0 < (D.hist l).length)) ++ (k :: (List.range' (k + 1) (D.n - (k + 1))).filter fun l => decide (0 < (D.hist l).length)) := by
    unfold Dev.dirtyL
    have : List.range D.n = List.range k ++ (k :: List.range' (k + 1) (D.n - (k + 1))) := by
      obtain ⟨t, ht⟩ : ∃ t, D.n = k + (t + 1) := ⟨D.n - (k + 1), by omega⟩
      rw [ht, List.range_add, List.range_succ_eq_map, List.range'_eq_map_range, show k + (t + 1) - (k + 1) = t by omega]
      simp [List.map_map, Function.comp_def]
      intro a _
      omega
    rw [this, List.filter_append, List.filter_cons_of_pos (by simpa using hd)]
  rw [e]
  unfold cntD
  simp
theorem w8_congr {F G : Nat → Int} (h : ∀ j, j < 8 → F j = G j) : w8 F = w8 G := by
  unfold w8
  rw [h 0 (by omega), h 1 (by omega), h 2 (by omega), h 3 (by omega), h 4 (by omega), h 5 (by omega), h 6 (by omega), h 7 (by omega)]
section
variable {w : World} {D : Dev} {rb lb : Nat} {hv : Nat → Value} {nv : Value} {ns : List (Nat × Nat)}
/-- Words of a line, as the words of an image. -/
theorem words_img {KF : Nat → Nat} {k dn : Nat} {F G : Nat → Int} {u : Value} {wr : World} (hd : RdSl wr 2 u (D.hist k).length (flat (D.hist k))) (hl : ∀ e ∈ D.hist k, e.1 / 64 = k ∧ e.1 % 8 = 0) (hk : k < 4096) (hb : (D.hist k).length < 1000000000)
    (hF : ∀ j, D.pers (8 * k + j) = F j) (hG : ∀ j, D.img KF (8 * k + j) = G j) (kk : Nat) (h1 : kk ≤ (D.hist k).length) (h2 : (D.hist k).take kk = (D.hist k).take (KF k)) (wx : World) (hx : Below wr.heap.size wr wx) :
    Calls Try.prog 53 #[.agg #[.int .u64 (F 0), .int .u64 (F 1), .int .u64 (F 2), .int .u64 (F 3), .int .u64 (F 4), .int .u64 (F 5), .int .u64 (F 6), .int .u64 (F 7), u, .int .i64 dn], .int .i64 kk] wx fun r w' => r = .returned (.agg (w8 G)) ∧ Below wx.heap.size wx w' := by
  have := r3Words_any (w := wx) k (D.hist k) F u dn kk h1 (hd.below hx) hl hk hb
  rwa [w8_congr (G := G) (fun j hj => by
    rw [← hG j]
    unfold wdsF Dev.img
    rw [show (8 * k + j) / 8 = k by omega, h2, hF])] at this
theorem one_byte (x : Int) : ∀ u ∈ [Value.int .u8 x], u.oneCell' = true := by intro u hu; simp at hu; subst hu; rfl
set_option maxRecDepth 100000 in
set_option maxHeartbeats 4000000 in
theorem r3Content_any (h : R3 w D rb lb hv nv ns) (kv : Value) (kl : List Nat) (hk : RdSl w 1 kv kl.length (natsI kl)) (hkl : kl.length = D.dirtyL.length) (KF : Nat → Nat) (hKF : ∀ i l : Nat, D.dirtyL[i]? = some l → kl[i]? = some (KF l) ∧ KF l ≤ (D.hist l).length) (he : D.exec < 100000000) :
    Calls Try.prog 33 #[.pointer (some ⟨rb, 0, none⟩), kv] w fun r w' => ∃ sv, r = .returned sv ∧ Acc w w.heap.size w' 5 1 sv (64 * D.n) (bytesL (D.img KF) (64 * D.n)) := by
  have hn := h.up.wf.le
  obtain ⟨i0, hi0, hz0, hz1, hz2⟩ := info_parts infoU8
  have I := Lib.hid (And.intro hi0 (And.intro hz0 (And.intro hz1 hz2))); clear hi0 hz0 hz1 hz2
  have H := Lib.hid h; have HK := Lib.hid hk; have HKF := Lib.hid hKF
  have hdl : D.dirtyL.length ≤ D.n := by unfold Dev.dirtyL; exact filt_len D D.n
  have HVI := Lib.hid (fun i => h.up.vb.img KF i)
  have c0 : w.cell? ⟨rb, 0, none⟩ = some (.slice (some ⟨lb, 0, none⟩) D.n D.n) := h.dev.cell rfl
  have A0 : Hid (Acc w w.heap.size (w.alloc (.cells #[] 5)) 5 1 (.slice (some ⟨w.heap.size, 0, none⟩) 0 0) (64 * 0) (bytesL (D.img KF) (64 * 0))) := (acc_empty w 5 1).congr rfl rfl
  have hrb := h.dev.lt
  obtain ⟨_, ka, kc, rfl, hkc, _⟩ := hk
  obtain ⟨m, hm⟩ : ∃ m, kl.length = m := ⟨_, rfl⟩
  have HM := Lib.hid (And.intro hm (hm.symm.trans hkl))
  rw [hm] at HK hkc ⊢
  obtain ⟨n, hN⟩ : ∃ n, D.n = n := ⟨_, rfl⟩
  have HN := Lib.hid hN
  have hmn : m ≤ n := by rw [← hm, hkl, ← hN]; exact hdl
  rw [hN] at hn c0 ⊢
  clear h hN hKF hkl hm hdl
  go_enter Try.func33, Try.ntmps33
  go_wp2_with fail
  go_loopw [5, 6, 19] (fun sv z y wr => ∃ k : Nat, k ≤ n ∧ y = .int .i64 k ∧ z = .int .i64 (cntD D k : Nat) ∧ Acc w w.heap.size wr 5 1 sv (64 * k) (bytesL (D.img KF) (64 * k))) (fun _ _ y _ => n - (intOf y).toNat)
  case atStart => exact ⟨0, by omega, rfl, rfl, A0.out⟩
  case round =>
    clear A0
    obtain ⟨k, hk, rfl, rfl, ha⟩ := hrel
    obtain ⟨la, lc, hsv⟩ := ha.slice
    subst hsv
    have A := Lib.hid ha; clear ha
    have R := Lib.hid (H.out.keep A.out.bel)
    have hck := cntD_le D k
    by_cases hlt : k < n
    · have hlt' : (k : Int) < n := by omega
      have hkn : k < D.n := by rw [HN.out]; exact hlt
      obtain ⟨cw, c8, c9⟩ := R.out.at hkn
      have hh1 := (R.out.hist k hkn).1
      have HHI := Lib.hid (And.intro hh1 (H.out.up.wf.line k hkn))
      obtain ⟨ha, q, hc, hve, hqe⟩ : ∃ ha q hc, hv k = .slice ha q hc ∧ q = (D.hist k).length := by obtain ⟨_, a, c, e, _, _⟩ := hh1; exact ⟨a, _, c, e, rfl⟩
      rw [hve] at c8 HHI
      have hcn := H.out.up.wf.cnt k hkn
      have HCS := Lib.hid (cntD_succ D k)
      have HDX := Lib.hid (dirty_idx D k hkn)
      have HQE := Lib.hid hqe
      rw [← hqe] at HCS HDX hcn
      obtain ⟨F, hF⟩ : ∃ F : Nat → Int, ∀ j, D.pers (8 * k + j) = F j := ⟨fun j => D.pers (8 * k + j), fun _ => rfl⟩
      have HFF := Lib.hid hF
      have k0 := cw 0 (by omega); have k1 := cw 1 (by omega); have k2 := cw 2 (by omega); have k3 := cw 3 (by omega); have k4 := cw 4 (by omega); have k5 := cw 5 (by omega); have k6 := cw 6 (by omega); have k7 := cw 7 (by omega)
      rw [hF] at k0 k1 k2 k3 k4 k5 k6 k7
      rw [Nat.add_zero] at k0
      obtain ⟨dn, hdn⟩ : ∃ dn, D.done k = dn := ⟨_, rfl⟩
      rw [hdn] at c9 hcn
      obtain ⟨G, hG⟩ : ∃ G : Nat → Int, ∀ j, D.img KF (8 * k + j) = G j := ⟨fun j => D.img KF (8 * k + j), fun _ => rfl⟩
      have HG := Lib.hid hG
      have HW := Lib.hid (fun (kk : Nat) => words_img (D := D) (KF := KF) (k := k) (dn := dn) (F := F) (G := G) (u := .slice ha q hc) (wr := wr) HHI.out.1 HHI.out.2 (by omega) (by rw [← HQE.out]; omega) hF hG kk)
      clear cw hF hdn hve hqe hh1 hG
      obtain ⟨z, hz⟩ : ∃ z, cntD D k = z := ⟨_, rfl⟩
      rw [hz] at HDX HCS hck ⊢
      have HCE : Hid (cntD D k = z) := hz
      clear hz
      have hBA := Lib.hid (below_alloc wr (.cells #[.int .u64 (F 0), .int .u64 (F 1), .int .u64 (F 2), .int .u64 (F 3), .int .u64 (F 4), .int .u64 (F 5), .int .u64 (F 6), .int .u64 (F 7), .slice ha q hc, .int .i64 dn] 86))
      by_cases hq : 0 < q
      · have hq' : (0 : Int) < q := by omega
        obtain ⟨hkx, hkl⟩ := HKF.out z k (HDX.out hq)
        have hzm : z < m := by rw [← HM.out.1]; exact (List.getElem?_eq_some_iff.1 hkx).1
        have hzm' : (z : Int) < m := by omega
        obtain ⟨_, a', c', e', _, hE⟩ := HK.out.below A.out.bel
        cases e'
        have hxl : (natsI kl)[z]? = some (.int .i64 (KF k)) := by simp [natsI, hkx]
        obtain ⟨fb, fo, rfl, hE2⟩ := rd_at hE hxl
        have q1 := hE2 z _ hxl
        have hfb : fb < wr.heap.size := World.block_lt_of_cell? _ _ q1
        have HW1 := Lib.hid (HW.out (KF k) hkl rfl _ hBA.out)
        have HZ : Hid (cntD D (k + 1) = z + 1) := by show _ = _; rw [HCS.out, if_pos hq]
        clear hE hE2 hxl hkx HW HCS HDX
        obtain ⟨kf, hkf⟩ : ∃ kf, KF k = kf := ⟨_, rfl⟩
        rw [hkf] at q1 HW1 hkl
        clear hkf
        go_wp2_with fail
        (with_reducible refine HW1.out.mono ?_)
        rintro r w1 ⟨rfl, b1⟩
        have A1 : Hid (Acc w w.heap.size w1 5 1 (.slice la (64 * k) lc) (64 * k + 8 * 0) (bytesL (D.img KF) (64 * k + 8 * 0))) := (A.out.keep (hBA.out.trans (b1.mono hBA.out.size))).congr rfl rfl
        clear b1 HW1 A
        go_wp2_with fail
        go_loopw [5, 40] (fun sv y wy => ∃ j : Nat, j ≤ 8 ∧ y = .int .i64 j ∧ Acc w w.heap.size wy 5 1 sv (64 * k + 8 * j) (bytesL (D.img KF) (64 * k + 8 * j))) (fun _ y _ => 8 - (intOf y).toNat)
        case atStart => exact ⟨0, by omega, rfl, A1.out⟩
        case round =>
          clear A1
          obtain ⟨j, hj, rfl, hb⟩ := hrel
          rename World => wy
          obtain ⟨l2, lc2, hsv⟩ := hb.slice
          subst hsv
          have B := Lib.hid hb; clear hb
          by_cases hj8 : j < 8
          · have hj8' : (j : Int) < 8 := by omega
            have hix := fun wx => w8_index G j hj8 wx
            obtain ⟨x, hx⟩ : ∃ x, G j = x := ⟨_, rfl⟩
            rw [hx] at hix
            have HX : Hid (x = D.img KF (8 * k + j)) := by show x = _; rw [HG.out, hx]
            have HV : Hid (0 ≤ x ∧ x < 18446744073709551616) := by have := HVI.out (8 * k + j); rw [← HX.out] at this; exact this
            clear hx
            go_wp2_with fail
            go_loopw [5, 11, 12] (fun sv xv y wz => ∃ b : Nat, b ≤ 8 ∧ y = .int .i64 b ∧ xv = .int .u64 (x / 256 ^ b) ∧ Acc w w.heap.size wz 5 1 sv (64 * k + 8 * j + b) (bytesL (D.img KF) (64 * k + 8 * j + b))) (fun _ _ y _ => 8 - (intOf y).toNat)
            case atStart => exact ⟨0, by omega, rfl, by simp, B.out⟩
            case round =>
              clear B
              obtain ⟨b, hb, rfl, rfl, hc2⟩ := hrel
              rename World => wz
              obtain ⟨l3, lc3, hsv⟩ := hc2.slice
              subst hsv
              have C := Lib.hid hc2; clear hc2
              by_cases hb8 : b < 8
              · have hb8' : (b : Int) < 8 := by omega
                have hby := byte_of (D.img KF) k j b hj8 hb8
                rw [← HX.out] at hby
                have HBS := Lib.hid (bytesL_succ (D.img KF) (64 * k + 8 * j + b))
                have HNX : Hid (x / 256 ^ (b + 1) = x / 256 ^ b / 256) := by show _ = _; rw [Int.pow_succ, Int.ediv_ediv_of_nonneg (Int.pow_nonneg (by omega))]
                have hy0 : 0 ≤ x / 256 ^ b := Int.ediv_nonneg HV.out.1 (Int.pow_nonneg (by omega))
                have hy1 : x / 256 ^ b ≤ x := Int.ediv_le_self _ HV.out.1
                have hxv := HV.out.2
                obtain ⟨y0, hy⟩ : ∃ y0, x / 256 ^ b = y0 := ⟨_, rfl⟩
                rw [hy] at hby HNX hy0 hy1 ⊢
                have gw : IntKind.u8.wrap y0 = byteAt (D.img KF) (64 * k + 8 * j + b) := by rw [IntKind.wrap_u8, hby]
                have ge1 : y0.tdiv 256 = y0 / 256 := Int.tdiv_eq_ediv_of_nonneg hy0
                have ge2 : IntKind.u64.wrap (y0 / 256) = y0 / 256 := IntWalk.u64_in _ (by omega)
                have ge3 : ¬ ((256 : Int) = 0) := by omega
                obtain ⟨P, hP⟩ : ∃ P, 64 * k + 8 * j + b = P := ⟨_, rfl⟩
                have HTry : Hid (64 * k + 8 * j + (b + 1) = P + 1) := by show _ = _; omega
                have hPb : P ≤ 1000000 := by omega
                rw [hP] at C HBS gw ⊢
                obtain ⟨y, hyy⟩ : ∃ y, byteAt (D.img KF) P = y := ⟨_, rfl⟩
                rw [hyy] at gw HBS
                clear hby hy hP hyy
                go_wp2_with (at_builtin; refine wpList_append_sl _ rfl _ _ 34 rfl 5 i0 _ 1 1 Try.underlying34 I.out.1 I.out.2.1 I.out.2.2.1 I.out.2.2.2 rfl (by decide) _ P (bytesL (D.img KF) P) rfl (by exact C.out.own.alloc _) _ 1 [.int .u8 y] rfl (by exact RdSl.newAt _ _ _ 1 1 _ rfl rfl) (one_byte _) (by unfold maxLen; omega) (by omega) ?_)
                intro v1 w3 o1 g1 b1 n1
                have A3 := Lib.hid (C.out.next (below_alloc _ _) o1 g1 b1 (by first | simp | omega)); clear o1 g1 b1 n1
                rw [← HBS.out] at A3
                go_wp2_with fail
                go_roundw
                case rel => exact ⟨b + 1, by omega, by go_num, by rw [HNX.out], A3.out.congr HTry.out.symm (by rw [HTry.out])⟩
                case measure => simp [intOf]; omega
              · obtain rfl : b = 8 := by omega
                go_wp2_with fail
                go_roundw
                case rel => exact ⟨j + 1, by omega, by go_num, C.out.congr (by omega) (by rw [show 64 * k + 8 * j + 8 = 64 * k + 8 * (j + 1) by omega])⟩
                case measure => simp [intOf]; omega
          · obtain rfl : j = 8 := by omega
            go_wp2_with fail
            go_roundw
            case rel => exact ⟨k + 1, by omega, by go_num, by simp [HZ.out], B.out.congr (by omega) (by rw [show 64 * k + 8 * 8 = 64 * (k + 1) by omega])⟩
            case measure => simp [intOf]; omega
      · have hq' : ¬ (0 : Int) < q := by omega
        have HW1 := Lib.hid (HW.out 0 (Nat.zero_le _) (by
          have e : D.hist k = [] := List.eq_nil_of_length_eq_zero (by have := HQE.out; omega)
          rw [e, List.take_nil, List.take_nil]) _ hBA.out)
        rw [show ((0 : Nat) : Int) = 0 from rfl] at HW1
        have HZ : Hid (cntD D (k + 1) = z) := by show _ = _; rw [HCS.out, if_neg hq]; rfl
        clear HW HCS HDX
        go_wp2_with fail
        (with_reducible refine HW1.out.mono ?_)
        rintro r w1 ⟨rfl, b1⟩
        have A1 : Hid (Acc w w.heap.size w1 5 1 (.slice la (64 * k) lc) (64 * k + 8 * 0) (bytesL (D.img KF) (64 * k + 8 * 0))) := (A.out.keep (hBA.out.trans (b1.mono hBA.out.size))).congr rfl rfl
        clear b1 HW1 A
        go_wp2_with fail
        go_loopw [5, 40] (fun sv y wy => ∃ j : Nat, j ≤ 8 ∧ y = .int .i64 j ∧ Acc w w.heap.size wy 5 1 sv (64 * k + 8 * j) (bytesL (D.img KF) (64 * k + 8 * j))) (fun _ y _ => 8 - (intOf y).toNat)
        case atStart => exact ⟨0, by omega, rfl, A1.out⟩
        case round =>
          clear A1
          obtain ⟨j, hj, rfl, hb⟩ := hrel
          rename World => wy
          obtain ⟨l2, lc2, hsv⟩ := hb.slice
          subst hsv
          have B := Lib.hid hb; clear hb
          by_cases hj8 : j < 8
          · have hj8' : (j : Int) < 8 := by omega
            have hix := fun wx => w8_index G j hj8 wx
            obtain ⟨x, hx⟩ : ∃ x, G j = x := ⟨_, rfl⟩
            rw [hx] at hix
            have HX : Hid (x = D.img KF (8 * k + j)) := by show x = _; rw [HG.out, hx]
            have HV : Hid (0 ≤ x ∧ x < 18446744073709551616) := by have := HVI.out (8 * k + j); rw [← HX.out] at this; exact this
            clear hx
            go_wp2_with fail
            go_loopw [5, 11, 12] (fun sv xv y wz => ∃ b : Nat, b ≤ 8 ∧ y = .int .i64 b ∧ xv = .int .u64 (x / 256 ^ b) ∧ Acc w w.heap.size wz 5 1 sv (64 * k + 8 * j + b) (bytesL (D.img KF) (64 * k + 8 * j + b))) (fun _ _ y _ => 8 - (intOf y).toNat)
            case atStart => exact ⟨0, by omega, rfl, by simp, B.out⟩
            case round =>
              clear B
              obtain ⟨b, hb, rfl, rfl, hc2⟩ := hrel
              rename World => wz
              obtain ⟨l3, lc3, hsv⟩ := hc2.slice
              subst hsv
              have C := Lib.hid hc2; clear hc2
              by_cases hb8 : b < 8
              · have hb8' : (b : Int) < 8 := by omega
                have hby := byte_of (D.img KF) k j b hj8 hb8
                rw [← HX.out] at hby
                have HBS := Lib.hid (bytesL_succ (D.img KF) (64 * k + 8 * j + b))
                have HNX : Hid (x / 256 ^ (b + 1) = x / 256 ^ b / 256) := by show _ = _; rw [Int.pow_succ, Int.ediv_ediv_of_nonneg (Int.pow_nonneg (by omega))]
                have hy0 : 0 ≤ x / 256 ^ b := Int.ediv_nonneg HV.out.1 (Int.pow_nonneg (by omega))
                have hy1 : x / 256 ^ b ≤ x := Int.ediv_le_self _ HV.out.1
                have hxv := HV.out.2
                obtain ⟨y0, hy⟩ : ∃ y0, x / 256 ^ b = y0 := ⟨_, rfl⟩
                rw [hy] at hby HNX hy0 hy1 ⊢
                have gw : IntKind.u8.wrap y0 = byteAt (D.img KF) (64 * k + 8 * j + b) := by rw [IntKind.wrap_u8, hby]
                have ge1 : y0.tdiv 256 = y0 / 256 := Int.tdiv_eq_ediv_of_nonneg hy0
                have ge2 : IntKind.u64.wrap (y0 / 256) = y0 / 256 := IntWalk.u64_in _ (by omega)
                have ge3 : ¬ ((256 : Int) = 0) := by omega
                obtain ⟨P, hP⟩ : ∃ P, 64 * k + 8 * j + b = P := ⟨_, rfl⟩
                have HTry : Hid (64 * k + 8 * j + (b + 1) = P + 1) := by show _ = _; omega
                have hPb : P ≤ 1000000 := by omega
                rw [hP] at C HBS gw ⊢
                obtain ⟨y, hyy⟩ : ∃ y, byteAt (D.img KF) P = y := ⟨_, rfl⟩
                rw [hyy] at gw HBS
                clear hby hy hP hyy
                go_wp2_with (at_builtin; refine wpList_append_sl _ rfl _ _ 34 rfl 5 i0 _ 1 1 Try.underlying34 I.out.1 I.out.2.1 I.out.2.2.1 I.out.2.2.2 rfl (by decide) _ P (bytesL (D.img KF) P) rfl (by exact C.out.own.alloc _) _ 1 [.int .u8 y] rfl (by exact RdSl.newAt _ _ _ 1 1 _ rfl rfl) (one_byte _) (by unfold maxLen; omega) (by omega) ?_)
                intro v1 w3 o1 g1 b1 n1
                have A3 := Lib.hid (C.out.next (below_alloc _ _) o1 g1 b1 (by first | simp | omega)); clear o1 g1 b1 n1
                rw [← HBS.out] at A3
                go_wp2_with fail
                go_roundw
                case rel => exact ⟨b + 1, by omega, by go_num, by rw [HNX.out], A3.out.congr HTry.out.symm (by rw [HTry.out])⟩
                case measure => simp [intOf]; omega
              · obtain rfl : b = 8 := by omega
                go_wp2_with fail
                go_roundw
                case rel => exact ⟨j + 1, by omega, by go_num, C.out.congr (by omega) (by rw [show 64 * k + 8 * j + 8 = 64 * k + 8 * (j + 1) by omega])⟩
                case measure => simp [intOf]; omega
          · obtain rfl : j = 8 := by omega
            go_wp2_with fail
            go_roundw
            case rel => exact ⟨k + 1, by omega, by go_num, by simp [HZ.out], B.out.congr (by omega) (by rw [show 64 * k + 8 * 8 = 64 * (k + 1) by omega])⟩
            case measure => simp [intOf]; omega
    · obtain rfl : k = n := by omega
      go_wp2_with fail
      go_ret
      exact ⟨_, rfl, A.out⟩
end
end Go.Proofs.Ytoakngofgkkpnaa
