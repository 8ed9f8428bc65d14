/- The law's alike: list, Get, Slot and the words; the device's bytes. -/
import Derived.Test.YtmfchlliechikaaGreatDoorRuI
import Derived.Test.YtmfchlliechikaaGreatDoorRuG
import Derived.Test.YtmfchlliechikaaGreatDoorDevI
import Derived.Laws.BytesArg
namespace Go.Proofs.YtmfchlliechikaaGreatDoor
open Go.RowKit Go.Maps
attribute [local go_sem ↓] Go.wp_at_zero Go.wp_at_succ

/-- The words of a device of twenty lines as a string. -/
def str14 (f : Nat → Int) : ByteArray := strOfNums ((List.range 1280).map fun i => byteAt f i)
theorem drewN_below (w : World) (q : Nat) : Below w.heap.size w (w.drewN q) := ⟨rfl, rfl, rfl, Nat.le_refl _, fun _ _ => rfl⟩
theorem idxW4 (g : Nat → Nat) (e k : Nat) (hk : k < 4) (wx : World) : (Instr.index 33 (.agg #[.int .u64 (g (4 * e) : Nat), .int .u64 (g (4 * e + 1) : Nat), .int .u64 (g (4 * e + 2) : Nat), .int .u64 (g (4 * e + 3) : Nat)]) (.int .i64 (k : Nat))).run Tryz.prog wx = .ok (.int .u64 (g (4 * e + k) : Nat)) wx := by
  obtain rfl | rfl | rfl | rfl : k = 0 ∨ k = 1 ∨ k = 2 ∨ k = 3 := by omega
  all_goals kernel_rfl
/-- A name that is in use is found at its entry. -/
theorem find_used {W : Nat → Nat} (h : InvD W) {x : Nat} (hx : x < 16) (h3 : W (4 * x + 3) ≠ 0) : findE W (kR W x) = x := by
  rw [kR_used h3]
  refine firstI_hit hx (by simp [usedE, h3]) fun j hj => ?_
  by_cases hj3 : W (4 * j + 3) = 0
  · simp [usedE, hj3]
  · have : nameE W j ≠ nameE W x := fun e => by have := h j x (by omega) hx hj3 h3 e; omega
    simp [this]
section
variable {w0 w wx : World} {v : DV} {own : Nat → Option Role} {D : Dev} {b rb x : Nat} {W : Nat → Nat}
set_option maxRecDepth 100000 in
theorem conv14 {g : Nat} {f : Nat → Int} (h : Row w g 1280 5 (fun i => .int .u8 (byteAt f i))) : (Go.convert 95 9 (.slice (some ⟨g, 0, none⟩) 1280 1280)).run Tryz.prog w = .ok (.string (str14 f)) w := by
  refine run_convert_bytes_arg (P := Tryz.prog) w 95 5 Tryz.underlying95 Tryz.underlying5 g 0 1280 1280 ((List.range 1280).map fun i => byteAt f i) (by simp) (fun i hi => ?_) 9 Tryz.underlying9
  rw [h.cell (i := 0 + i) (by omega)]
  simp [List.getD, List.getElem?_map, List.getElem?_range hi]
/-- The bytes of a clean device, current and persisted, are the same string. -/
theorem RtSt.bytes (h : RtSt w0 v own D b W x w) : ∃ f : Nat → Int, (∀ wx, RtSt w0 v own D b W x wx → Calls Tryz.prog 67 #[.pointer (some ⟨v.db, 0, none⟩)] wx fun r w' => r = .returned (.slice (some ⟨wx.heap.size, 0, none⟩) 1280 1280) ∧ Row w' wx.heap.size 1280 5 (fun i => .int .u8 (byteAt f i)) ∧ Below wx.heap.size wx w') ∧
    ∀ wx, RtSt w0 v own D b W x wx → Calls Tryz.prog 68 #[.pointer (some ⟨v.db, 0, none⟩)] wx fun r w' => r = .returned (.slice (some ⟨wx.heap.size, 0, none⟩) 1280 1280) ∧ Row w' wx.heap.size 1280 5 (fun i => .int .u8 (byteAt f i)) ∧ Below wx.heap.size wx w' := by
  obtain ⟨C, h1, _⟩ := h.cl
  refine ⟨C, fun wx hx => ?_, fun wx hx => ?_⟩
  · have := current_any hx.dev h1.vb
    unfold BytesPost at this
    rw [h1.grp.on.n, h1.cur] at this
    exact this
  · have := persisted_any hx.dev h1.vb
    unfold BytesPost at this
    rw [h1.grp.on.n, show D.pers = C from funext h1.grp.hst.pers] at this
    exact this
theorem RtSt.load1 (h : RtSt w0 v own D b W x w) (i : Nat) (hi : i < 64) (o : Int) (ho : o = ((192 + 8 * i : Nat) : Int)) : Calls Tryz.prog 16 #[.pointer (some ⟨v.tb 1, 0, none⟩), .int .u64 o] w fun r w' => r = .returned (.int .u64 (W i : Nat)) ∧ w = w' := by
  obtain ⟨C, h1, h2⟩ := h.cl
  have := load_ok h.dev (j := 1) (by omega) (192 + 8 * i) h1.grp.on.off (by omega) (by rw [h1.grp.on.n]; omega)
  rw [h1.cur, show (192 + 8 * i) / 8 = 24 + i by omega, h2 i hi] at this
  subst ho
  exact this
set_option maxRecDepth 100000 in
set_option maxHeartbeats 8000000 in
theorem alike_any (h : PlR w0 v own D b rb W x w) (hD : InvD W) :
    Calls Tryz.prog 32 #[.pointer (some ⟨v.db, 0, none⟩), .pointer (some ⟨b, 0, none⟩), .pointer (some ⟨rb, 0, none⟩)] w fun r w' => r = .returned (.bool true) ∧ Below w.heap.size w w' := by
  have H := Lib.hid h
  obtain ⟨hq1, hq2⟩ := lstL_eq hD
  have hql := lstL_len W
  have hL := rtList_any h.st.don
  rw [hq1, ← hql.1] at hL
  have HL := Lib.hid hL
  have HR := Lib.hid (fun (wx : World) (hr : RfAt wx rb 192 W) => r14List_any hr H.out.inv)
  have HG := Lib.hid (fun (wx : World) (hx : PlR w0 v own D b rb W x wx) (s : ByteArray) => rtGet_any hx.st.don s)
  have HS := Lib.hid (fun (wx : World) (hx : PlR w0 v own D b rb W x wx) (s : ByteArray) => rtSlot_any hx.st.don s)
  have HT := Lib.hid (fun (wx : World) (hx : PlR w0 v own D b rb W x wx) => thread1_any hx.st.dev)
  have HLD := Lib.hid (fun (wx : World) (hx : PlR w0 v own D b rb W x wx) (i : Nat) (hi : i < 64) (o : Int) (ho : o = ((192 + 8 * i : Nat) : Int)) => hx.st.load1 i hi o ho)
  have HFU := Lib.hid (fun (y : Nat) (hy : y < 16) (h3 : W (4 * y + 3) ≠ 0) => find_used hD hy h3)
  have HMEM := Lib.hid hq2
  obtain ⟨bf, hcu, hpe⟩ := h.st.bytes
  have HCU := Lib.hid hcu; have HPE := Lib.hid hpe
  have HIF := Lib.hid (infoR (nmR W) (ptR W) W)
  have HIX := Lib.hid (fun (e : Nat) (he : e < 16) (wx : World) => idxR (nmR W) (ptR W) W e he wx)
  obtain ⟨LS, hLS⟩ : ∃ LS, lstL W = LS := ⟨_, rfl⟩
  rw [hLS] at hql HL HMEM
  rw [hLS] at HR
  obtain ⟨n, hn⟩ : ∃ n, LS.length = n := ⟨_, rfl⟩
  rw [hn] at hql HL HR
  have HNL := Lib.hid hn
  have hn16 : n ≤ 16 := hql.2
  obtain ⟨sF, hsF⟩ : ∃ sF, str14 bf = sF := ⟨_, rfl⟩
  have HCV : Hid (∀ (wx : World) (g : Nat), Row wx g 1280 5 (fun i => .int .u8 (byteAt bf i)) → (Go.convert 95 9 (.slice (some ⟨g, 0, none⟩) 1280 1280)).run Tryz.prog wx = .ok (.string sF) wx) := fun wx g hr => by rw [← hsF]; exact conv14 hr
  clear h hD hq1 hq2 hql hL hcu hpe hLS hn hsF
  go_enter Tryz.func32, Tryz.ntmps32
  go_wp2_with fail
  (with_reducible refine HL.out.mono ?_)
  rintro r w1 ⟨ov, rfl, ha⟩
  obtain ⟨oa, oc, rfl⟩ := ha.slice
  have A1 := Lib.hid ha
  have H1 := Lib.hid (H.out.next ha.bel)
  clear ha HL
  go_wp2_with fail
  (with_reducible refine (HR.out _ H1.out.rf).mono ?_)
  rintro r w2 ⟨rv, rfl, hr⟩
  obtain ⟨ra, rc, rfl⟩ := hr.slice
  have RD1 := Lib.hid (A1.out.rd.below hr.bel)
  have RD2 := Lib.hid hr.rd
  have LT2 := Lib.hid hr.own.lt
  have H2 := Lib.hid (H1.out.next hr.bel)
  have B2 := Lib.hid (A1.out.bel.trans (hr.bel.mono A1.out.bel.size))
  clear hr HR A1 H1
  go_wp2_with fail
  go_loopw [9, 10, 11, 12, 13, 14, 30] (fun _ _ _ _ _ _ y wr => ∃ m : Nat, m ≤ n ∧ y = .int .i64 m ∧ Below w2.heap.size w2 wr) (fun _ _ _ _ _ _ y _ => n - (intOf y).toNat)
  case atStart => exact ⟨0, by omega, rfl, Below.refl _ _⟩
  case round =>
    obtain ⟨m, hm, rfl, hb⟩ := hrel
    have B := Lib.hid hb
    have hsz := hb.size
    clear hb
    rename World => wq
    by_cases hlt : m < n
    · have hlt' : (m : Int) < n := by omega
      obtain ⟨y, hy⟩ : ∃ y, LS[m]? = some y := ⟨_, List.getElem?_eq_getElem (by rw [HNL.out]; exact hlt)⟩
      obtain ⟨hy16, hy3⟩ := (HMEM.out y).1 (List.mem_of_getElem? hy)
      have hfu := HFU.out y hy16 hy3
      have hpt : ptR W y = W (4 * y + 2) := if_neg hy3
      have hmp : (LS.map (entF W))[m]? = some (entF W y) := by rw [List.getElem?_map, hy]; rfl
      obtain ⟨hg1, hg2⟩ := eC_get _ m _ hmp
      have hr0 := eR_get W LS m y hy 0 (by omega)
      have hr1 := eR_get W LS m y hy 1 (by omega)
      rw [Nat.add_zero] at hr0
      have hr0' : (eR W LS)[m * 6]? = some (.string (nmR W y)) := hr0
      have hr1' : (eR W LS)[m * 6 + 1]? = some (.int .u64 (ptR W y : Nat)) := hr1
      have hg1' : (eC (LS.map (entF W)))[m * 2]? = some (.string (nmR W y)) := hg1
      have hg2' : (eC (LS.map (entF W)))[m * 2 + 1]? = some (.int .u64 (ptR W y : Nat)) := hg2
      have hfu' : findE W (nmR W y).toList = y := hfu
      rw [hpt] at hg2' hr1'
      obtain ⟨ns, hns⟩ : ∃ ns, nmR W y = ns := ⟨_, rfl⟩
      rw [hns] at hg1' hr0' hfu'
      have HR0 := Lib.hid hr0'; have HR1 := Lib.hid hr1'
      have HG2 : Hid (∀ wx, PlR w0 v own D b rb W x wx → Calls Tryz.prog 25 #[.pointer (some ⟨b, 0, none⟩), .string ns] wx fun r w' => r = .returned (.tuple #[.int .u64 (W (4 * y + 2) : Nat), .int .i64 0]) ∧ Below wx.heap.size wx w') := fun wx hx => (HG.out wx hx ns).mono (by
        rintro r w' (⟨e, _, he, rfl, hb⟩ | ⟨he, _⟩)
        · obtain rfl : y = e := hfu'.symm.trans he
          exact ⟨rfl, hb⟩
        · omega)
      have HS2 : Hid (∀ wx, PlR w0 v own D b rb W x wx → Calls Tryz.prog 26 #[.pointer (some ⟨b, 0, none⟩), .string ns] wx fun r w' => r = .returned (.tuple #[.int .u64 (192 + 32 * y + 16 : Nat), .int .i64 0]) ∧ Below wx.heap.size wx w') := fun wx hx => (HS.out wx hx ns).mono (by
        rintro r w' (⟨e, _, he, rfl, hb⟩ | ⟨he, _⟩)
        · obtain rfl : y = e := hfu'.symm.trans he
          exact ⟨rfl, hb⟩
        · omega)
      have HL2 : Hid (∀ wx, PlR w0 v own D b rb W x wx → Calls Tryz.prog 16 #[.pointer (some ⟨v.tb 1, 0, none⟩), .int .u64 (192 + 32 * y + 16 : Nat)] wx fun r w' => r = .returned (.int .u64 (W (4 * y + 2) : Nat)) ∧ wx = w') := fun wx hx => HLD.out wx hx (4 * y + 2) (by omega) _ (by omega)
      obtain ⟨pv, hpv⟩ : ∃ pv, W (4 * y + 2) = pv := ⟨_, rfl⟩
      rw [hpv] at hg2' HR1 HG2 HL2
      obtain ⟨sa, hsa⟩ : ∃ sa, 192 + 32 * y + 16 = sa := ⟨_, rfl⟩
      rw [hsa] at HS2 HL2
      obtain ⟨_, _, _, e', _, hE⟩ := (show RdSl wq 2 (.slice oa n oc) n (eC (LS.map (entF W))) from RD1.out.below B.out)
      cases e'
      obtain ⟨g, o, rfl, hE2⟩ := rd_at hE hg1'
      have c1 := hE2 _ _ hg1'
      have c2 := hE2 _ _ hg2'
      rw [← Nat.add_assoc] at c2
      have K3 := Lib.hid (Blk.new wq #[.string ns, .int .u64 pv] 100)
      have H3 := Lib.hid ((H2.out.next B.out).next (below_alloc wq (.cells #[.string ns, .int .u64 pv] 100)))
      have B3 := Lib.hid (B.out.trans ((below_alloc wq (.cells #[.string ns, .int .u64 pv] 100)).mono hsz))
      clear hy hy16 hy3 hfu hpt hmp hg1 hg2 hr0 hr1 hr0' hr1' hg1' hg2' hfu' hns hpv hsa hE hE2 HG HS HMEM HFU HCU HPE HCV
      go_wp2_with fail
      (with_reducible refine (HG2.out _ H3.out).mono ?_)
      rintro r w4 ⟨rfl, b4⟩
      have K4 := Lib.hid (K3.out.below b4)
      have H4 := Lib.hid (H3.out.next b4)
      have B4 := Lib.hid (B3.out.trans (b4.mono B3.out.size))
      have e0 := K4.out.cell (i := 0) (v := .string ns) rfl
      clear b4 K3 H3 B3 HG2 c1 c2
      go_wp2_with fail
      clear e0
      (with_reducible refine (HS2.out _ H4.out).mono ?_)
      rintro r w5 ⟨rfl, b5⟩
      have K5 := Lib.hid (K4.out.below b5)
      have H5 := Lib.hid (H4.out.next b5)
      have B5 := Lib.hid (B4.out.trans (b5.mono B4.out.size))
      have e0 := K5.out.cell (i := 0) (v := .string ns) rfl
      have e1 := K5.out.cell (i := 1) (v := .int .u64 pv) rfl
      obtain ⟨_, _, _, e', _, hF⟩ := (show RdSl w5 6 (.slice ra n rc) n (eR W LS) from RD2.out.below B5.out)
      cases e'
      obtain ⟨g', o', rfl, hF2⟩ := rd_at hF HR0.out
      have d1 := hF2 _ _ HR0.out
      have d2 := hF2 _ _ HR1.out
      rw [← Nat.add_assoc] at d2
      have z1 : (ns.toList == ns.toList) = true := beq_self_eq_true _
      have z2 : (ns.toList != ns.toList) = false := by simp
      have z3 : ((pv : Int) != pv) = false := by simp
      clear b5 K4 H4 B4 HS2 hF hF2 HR0 HR1
      go_wp2_with fail
      go_quiet (first | (go_at_call 15; with_reducible exact quiet_eq (HT.out _ (H5.out.next (drewN_below _ _)))) | (go_at_call 16; with_reducible exact quiet_eq (HL2.out _ (H5.out.next (drewN_below _ _)))))
      go_wp2_with fail
      go_roundw
      case rel => exact ⟨m + 1, by omega, by go_num, B5.out.trans ((drewN_below _ _).mono B5.out.size)⟩
      case measure => simp [intOf]; omega
    · obtain rfl : m = n := by omega
      have H3 := Lib.hid (H2.out.next B.out)
      have B3 := Lib.hid (B2.out.trans (B.out.mono B2.out.size))
      have HRG := Lib.hid (H3.out.rf.range)
      obtain ⟨LL, hLL⟩ : ∃ LL, rfL (nmR W) (ptR W) W = LL := ⟨_, rfl⟩
      rw [hLL] at HRG HIF HIX
      have HI4 := Lib.hid (fun (e k : Nat) (hk : k < 4) (wx : World) => idxW4 W e k hk wx)
      clear hLL HG HS HMEM HFU HNL RD1 RD2 LT2 H2 B2 B
      go_wp2_with (refine wpList_load_mid rfl 36 (.tmp 92) rfl rb 1 rfl LL _ HRG.out Tryz.underlying36 rfl HIF.out ?_)
      go_loopw [15, 16, 17, 18, 94] (fun _ _ _ _ y wr => ∃ e : Nat, e ≤ 16 ∧ y = .int .i64 e ∧ Below wq.heap.size wq wr) (fun _ _ _ _ y _ => 16 - (intOf y).toNat)
      case atStart => exact ⟨0, by omega, rfl, Below.refl _ _⟩
      case round =>
        obtain ⟨e, he, rfl, hb⟩ := hrel
        have B := Lib.hid hb
        clear hb
        rename World => wr
        by_cases hlt : e < 16
        · have he' : (e : Int) < 16 := by omega
          have hix := fun wx => HIX.out e hlt wx
          unfold rfE at hix
          have hi4 := HI4.out e
          have HL4 := Lib.hid (fun (wx : World) (hx : PlR w0 v own D b rb W x wx) (k : Nat) (hk : k < 4) (o : Int) (ho : o = ((192 + 8 * (4 * e + k) : Nat) : Int)) => HLD.out wx hx (4 * e + k) (by omega) o ho)
          obtain ⟨es, hes⟩ : ∃ es, nmR W e = es := ⟨_, rfl⟩
          obtain ⟨pe, hpe⟩ : ∃ pe, ptR W e = pe := ⟨_, rfl⟩
          obtain ⟨x0, hx0⟩ : ∃ x, W (4 * e) = x := ⟨_, rfl⟩
          obtain ⟨x1, hx1⟩ : ∃ x, W (4 * e + 1) = x := ⟨_, rfl⟩
          obtain ⟨x2, hx2⟩ : ∃ x, W (4 * e + 2) = x := ⟨_, rfl⟩
          obtain ⟨x3, hx3⟩ : ∃ x, W (4 * e + 3) = x := ⟨_, rfl⟩
          rw [hes, hpe, hx0, hx1, hx2, hx3] at hix
          simp only [hx0, hx1, hx2, hx3] at hi4
          have HI5 := Lib.hid hi4
          have H4 := Lib.hid (H3.out.next (B.out.trans ((below_alloc wr (.cells #[.string es, .int .u64 pe, .int .u64 x0, .int .u64 x1, .int .u64 x2, .int .u64 x3] 35)).mono B.out.size)))
          have B4 := Lib.hid (B.out.trans ((below_alloc wr (.cells #[.string es, .int .u64 pe, .int .u64 x0, .int .u64 x1, .int .u64 x2, .int .u64 x3] 35)).mono B.out.size))
          clear hes hpe hx0 hx1 hx2 hx3 hi4 HI4 HLD
          go_wp2_with fail
          go_loop [17, 18, 100] (fun _ _ y => ∃ k : Nat, k ≤ 4 ∧ y = .int .i64 k) (fun _ _ y => 4 - (intOf y).toNat)
          case atStart => exact ⟨0, by omega, rfl⟩
          case round =>
            obtain ⟨k, hk, rfl⟩ := hrel
            by_cases hk4 : k < 4
            · have hk' : (k : Int) < 4 := by omega
              have hix2 := fun wx => HI5.out k hk4 wx
              have HL5 := Lib.hid (HL4.out _ H4.out k hk4)
              obtain ⟨xk, hxk⟩ : ∃ xk, W (4 * e + k) = xk := ⟨_, rfl⟩
              rw [hxk] at hix2 HL5
              have u1 : IntKind.u64.wrap (e : Int) = (e : Int) := IntWalk.u64_in _ (by omega)
              have u2 : IntKind.u64.wrap (k : Int) = (k : Int) := IntWalk.u64_in _ (by omega)
              have u3 : IntKind.u64.wrap (32 * (e : Int)) = 32 * (e : Int) := IntWalk.u64_in _ (by omega)
              have u4 : IntKind.u64.wrap (192 + 32 * (e : Int)) = 192 + 32 * (e : Int) := IntWalk.u64_in _ (by omega)
              have u5 : IntKind.u64.wrap (8 * (k : Int)) = 8 * (k : Int) := IntWalk.u64_in _ (by omega)
              have u6 : IntKind.u64.wrap (192 + 32 * (e : Int) + 8 * (k : Int)) = 192 + 32 * (e : Int) + 8 * (k : Int) := IntWalk.u64_in _ (by omega)
              have z1 : ((xk : Int) != xk) = false := by simp
              clear hxk
              go_wp2_with fail
              (with_reducible refine (HT.out _ H4.out).mono ?_)
              rintro r w' ⟨rfl, rfl⟩
              go_wp2_with fail
              (with_reducible refine (HL5.out _ (by omega)).mono ?_)
              rintro r w' ⟨rfl, rfl⟩
              go_wp2_with fail
              go_round
              case rel => exact ⟨k + 1, by omega, by go_num⟩
              case measure => simp [intOf]; omega
            · obtain rfl : k = 4 := by omega
              go_wp2_with fail
              go_roundw
              case rel => exact ⟨e + 1, by omega, by go_num, B4.out⟩
              case measure => simp [intOf]; omega
        · obtain rfl : e = 16 := by omega
          have H4 := Lib.hid (H3.out.next (B.out.drew))
          have B4 := Lib.hid (B3.out.trans (B.out.drew.mono B3.out.size))
          have hsq : (sF.toList == sF.toList) = true := beq_self_eq_true _
          clear HRG HIF HIX HI4 HT HLD H3 B3
          go_upto_region 22 with fail
          go_region_with (first | (go_at_call 67; (first | ((with_reducible refine (HCU.out _ H4.out.st).mono ?_); rintro r w5 ⟨rfl, row, b5⟩; have H5 := Lib.hid (H4.out.next b5); have B5 := Lib.hid (B4.out.trans (b5.mono B4.out.size)); have RW := Lib.hid row; have hcv := HCV.out w5 wr.heap.size row; clear row b5) | ((with_reducible refine (HCU.out _ H5.out.st).mono ?_); rintro r w6 ⟨rfl, row, b6⟩; have B6 := Lib.hid (B5.out.trans (b6.mono B5.out.size)); have hcv2 := HCV.out _ _ row; have hcv3 := HCV.out w6 wr.heap.size (RW.out.below b6); clear row b6))) | (go_at_call 68; (first | ((with_reducible refine (HPE.out _ H4.out.st).mono ?_); rintro r w5 ⟨rfl, row, b5⟩; have H5 := Lib.hid (H4.out.next b5); have B5 := Lib.hid (B4.out.trans (b5.mono B4.out.size)); have RW := Lib.hid row; have hcv := HCV.out w5 wr.heap.size row; clear row b5) | ((with_reducible refine (HPE.out _ H5.out.st).mono ?_); rintro r w6 ⟨rfl, row, b6⟩; have B6 := Lib.hid (B5.out.trans (b6.mono B5.out.size)); have hcv2 := HCV.out _ _ row; have hcv3 := HCV.out w6 wr.heap.size (RW.out.below b6); clear row b6))))
          all_goals
            go_wp2_with fail
            go_ret
            exact ⟨rfl, B6.out⟩
end
end Go.Proofs.YtmfchlliechikaaGreatDoor

/- The law's calls on both directories: apply, whatever the call is; the invariants; where a law starts. -/
namespace Go.Proofs.YtmfchlliechikaaGreatDoor
open Go.RowKit Go.Maps

/-- The words behind a call. -/
def appW (W : Nat → Nat) (d : Nat) (l : List UInt8) (p : Nat) : Nat → Nat := if d % 3 = 0 then chgS W l p else if d % 3 = 1 then chgE W l 0 1280 else chgE W l p 1280
/-- The tags of the entries in use are right. -/
def InvT (W : Nat → Nat) : Prop := ∀ e, e < 16 → W (4 * e + 3) ≠ 0 → W (4 * e + 3) = tagN (W (4 * e)) (W (4 * e + 1))
theorem invT_of {W W' : Nat → Nat} (h : InvT W) (f : Nat) (ho : ∀ j, j / 4 ≠ f → W' j = W j) (hf : W' (4 * f + 3) ≠ 0 → W' (4 * f + 3) = tagN (W' (4 * f)) (W' (4 * f + 1))) : InvT W' := by
  intro e he h3
  by_cases hef : e = f
  · subst hef; exact hf h3
  · have e0 := ho (4 * e) (by omega); have e1 := ho (4 * e + 1) (by omega); have e3 := ho (4 * e + 3) (by omega)
    rw [e3] at h3 ⊢
    rw [e0, e1]
    exact h e he h3
theorem invT_chg {W : Nat → Nat} {l : List UInt8} {p sz : Nat} (h : InvT W) : InvT (chgE W l p sz) := by
  unfold chgE
  split
  · by_cases h0 : p = 0
    · have hw : wrE W l p = [(4 * findE W l + 3, 0)] := by unfold wrE; rw [if_pos h0]
      rw [hw]
      refine invT_of h (findE W l) (fun j hj => setWs_other hj _ _ fun x hx => ?_) (fun h3 => absurd (if_pos rfl) h3)
      rw [List.mem_singleton] at hx; subst hx; show (4 * findE W l + 3) / 4 = _; omega
    · by_cases hf : findE W l < 16
      · have hw : wrE W l p = [(4 * findE W l + 2, p)] := by unfold wrE; rw [if_neg h0, if_pos hf]
        obtain ⟨hu, _⟩ := findE_hit hf
        rw [hw]
        refine invT_of h (findE W l) (fun j hj => setWs_other hj _ _ fun x hx => ?_) (fun _ => ?_)
        · rw [List.mem_singleton] at hx; subst hx; show (4 * findE W l + 2) / 4 = _; omega
        · have e1 : setWs [(4 * findE W l + 2, p)] W (4 * findE W l + 1) = W (4 * findE W l + 1) := if_neg (by omega)
          have e0 : setWs [(4 * findE W l + 2, p)] W (4 * findE W l) = W (4 * findE W l) := if_neg (by omega)
          have e3 : setWs [(4 * findE W l + 2, p)] W (4 * findE W l + 3) = W (4 * findE W l + 3) := if_neg (by omega)
          rw [e0, e1, e3]
          exact h _ hf hu
      · have hw : wrE W l p = newW (freeE W) l p := by unfold wrE; rw [if_neg h0, if_neg hf]
        rw [hw]
        generalize freeE W = f
        refine invT_of h f (fun j hj => setWs_other hj _ _ fun x hx => ?_) (fun _ => ?_)
        · simp only [newW, List.mem_cons, List.not_mem_nil, or_false] at hx
          rcases hx with rfl | rfl | rfl | rfl
          · show 4 * f / 4 = f; omega
          · show (4 * f + 1) / 4 = f; omega
          · show (4 * f + 2) / 4 = f; omega
          · show (4 * f + 3) / 4 = f; omega
        · have e1 : setWs (newW f l p) W (4 * f + 1) = pk1 l := by
            show (if 4 * f + 1 = 4 * f + 3 then _ else if 4 * f + 1 = 4 * f + 2 then _ else if 4 * f + 1 = 4 * f + 1 then pk1 l else _) = _
            rw [if_neg (by omega), if_neg (by omega), if_pos rfl]
          have e0 : setWs (newW f l p) W (4 * f) = pk0 l := by
            show (if 4 * f = 4 * f + 3 then _ else if 4 * f = 4 * f + 2 then _ else if 4 * f = 4 * f + 1 then _ else if 4 * f = 4 * f then pk0 l else _) = _
            rw [if_neg (by omega), if_neg (by omega), if_neg (by omega), if_pos rfl]
          rw [e0, e1]
          exact if_pos rfl
  · exact h
theorem chgS_or (W : Nat → Nat) (l : List UInt8) (p : Nat) : chgS W l p = W ∨ chgS W l p = chgE W l p 1280 := by
  cases hn : nameB l
  · exact .inl (chgS_name hn).2
  · by_cases h0 : p = 0
    · exact .inl (chgS_zero hn h0).2
    · exact .inr (chgS_eq hn h0).2
theorem app_or (W : Nat → Nat) (d : Nat) (l : List UInt8) (p : Nat) : appW W d l p = W ∨ ∃ q, appW W d l p = chgE W l q 1280 := by
  unfold appW
  split
  · exact (chgS_or W l p).imp id fun h => ⟨p, h⟩
  · split
    · exact .inr ⟨0, rfl⟩
    · exact .inr ⟨p, rfl⟩
theorem invD_app {W : Nat → Nat} (h : InvD W) (d : Nat) (l : List UInt8) (p : Nat) : InvD (appW W d l p) := by
  rcases app_or W d l p with e | ⟨q, e⟩
  · rw [e]; exact h
  · rw [e]; exact invD_chg h
theorem invT_app {W : Nat → Nat} (h : InvT W) (d : Nat) (l : List UInt8) (p : Nat) : InvT (appW W d l p) := by
  rcases app_or W d l p with e | ⟨q, e⟩
  · rw [e]; exact h
  · rw [e]; exact invT_chg h
section
variable {w0 w wx : World} {v : DV} {own : Nat → Option Role} {D : Dev} {b rb x : Nat} {W : Nat → Nat}
/-- Where a law stands between two calls. -/
structure LwS (w0 : World) (v : DV) (own : Nat → Option Role) (D : Dev) (b rb : Nat) (W : Nat → Nat) (x : Nat) (w : World) : Prop where
  pl : PlR w0 v own D b rb W x w
  d : InvD W
  t : InvT W
theorem LwS.next (h : LwS w0 v own D b rb W x w) (hb : Below w.heap.size w wx) : LwS w0 v own D b rb W x wx := ⟨h.pl.next hb, h.d, h.t⟩
theorem LwS.bel (h : LwS w0 v own D b rb W x w) : Below w0.heap.size w0 w := h.pl.st.bel
theorem LwS.at (h : LwS w0 v own D b rb W x w) {y : Nat} (e : x = y) : LwS w0 v own D b rb W y w := by subst e; exact h
theorem apply14_any (h : LwS w0 v own D b rb W x w) (hN0 : Nib w0) (d : Nat) (s : ByteArray) (p : Nat) (hp : p < 18446744073709551616) (hx : x < 1000000) :
    Calls Tryz.prog 14 #[.pointer (some ⟨v.db, 0, none⟩), .pointer (some ⟨b, 0, none⟩), .pointer (some ⟨rb, 0, none⟩), .agg #[.int .u8 d, .string s, .int .u64 p]] w fun r w' => r = .returned (.bool true) ∧ ∃ own' D', LwS w0 v own' D' b rb (appW W d s.toList p) (x + 9) w' := by
  have hd := invD_app h.d d s.toList p
  have ht := invT_app h.t d s.toList p
  by_cases h0 : d % 3 = 0
  · have e : appW W d s.toList p = chgS W s.toList p := if_pos h0
    rw [e] at hd ht ⊢
    refine (apply_set h.pl hN0 d h0 s p hp hx).mono ?_
    rintro r w' ⟨rfl, own', D', h'⟩
    exact ⟨rfl, own', D', h', hd, ht⟩
  · by_cases h1 : d % 3 = 1
    · have e : appW W d s.toList p = chgE W s.toList 0 1280 := by unfold appW; rw [if_neg h0, if_pos h1]
      rw [e] at hd ht ⊢
      refine (apply_remove h.pl hN0 d h1 s p hx).mono ?_
      rintro r w' ⟨rfl, own', D', h'⟩
      exact ⟨rfl, own', D', h', hd, ht⟩
    · have e : appW W d s.toList p = chgE W s.toList p 1280 := by unfold appW; rw [if_neg h0, if_neg h1]
      rw [e] at hd ht ⊢
      refine (apply_acts h.pl hN0 d (by omega) s p hp hx).mono ?_
      rintro r w' ⟨rfl, own', D', h'⟩
      exact ⟨rfl, own', D', h', hd, ht⟩
theorem lws_start (h : RtSt w0 v own D b W0 33 w) : LwS w0 v own D b w.heap.size W0 33 (w.alloc (.cells (rfA 192 (nmR W0) (ptR W0) W0) 38)) :=
  ⟨⟨h.next (below_alloc w _), rf_zero w, invW0, own_no h.dev (Nat.le_refl _), fun e => by have := h.dir.blk.lt; omega, h.bel.size⟩, invD_zero, fun _ _ h => absurd rfl h⟩
/-- A call of a law's slice. -/
def OpR (xs : List Value) (i : Nat) : Prop := ∃ (o : Nat) (s : ByteArray) (x : Nat), xs[i * 3]? = some (.int .u8 o) ∧ xs[i * 3 + 1]? = some (.string s) ∧ xs[i * 3 + 2]? = some (.int .u64 x) ∧ o < 256 ∧ x < 18446744073709551616
theorem opR_now {a : Option Addr} {xs : List Value} (h : xs = [] ∨ ∃ b o, a = some ⟨b, o, none⟩ ∧ ∀ j u, xs[j]? = some u → w.cell? ⟨b, o + j, none⟩ = some u) {i : Nat} (hi : OpR xs i) {wr : World} (hb : Below w.heap.size w wr) :
    ∃ b q o s x, a = some ⟨b, q, none⟩ ∧ wr.cell? ⟨b, q + i * 3, none⟩ = some (.int .u8 (o : Nat)) ∧ wr.cell? ⟨b, q + i * 3 + 1, none⟩ = some (.string s) ∧ wr.cell? ⟨b, q + i * 3 + 2, none⟩ = some (.int .u64 (x : Nat)) ∧ o < 256 ∧ x < 18446744073709551616 := by
  obtain ⟨o, s, x, h0, h1, h2, b0, b2⟩ := hi
  obtain ⟨b, q, e, hc⟩ := rd_at h h0
  have cc : ∀ j u, xs[j]? = some u → wr.cell? ⟨b, q + j, none⟩ = some u := fun j u hu => (hb.cell (p := ⟨b, q + j, none⟩) (World.block_lt_of_cell? w _ (hc _ _ hu))).trans (hc _ _ hu)
  refine ⟨b, q, o, s, x, e, cc _ _ h0, ?_, ?_, b0, b2⟩
  · rw [Nat.add_assoc]; exact cc _ _ h1
  · rw [Nat.add_assoc]; exact cc _ _ h2
end
end Go.Proofs.YtmfchlliechikaaGreatDoor
