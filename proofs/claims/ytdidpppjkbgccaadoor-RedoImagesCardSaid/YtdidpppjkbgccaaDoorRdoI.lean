/- The law's made and awake of layer 15. -/
import Derived.Test.YtdidpppjkbgccaaDoorRdoT
import Derived.Test.YtdidpppjkbgccaaDoorRdoM
import Derived.Test.YtdidpppjkbgccaaDoorRdoK
namespace Go.Proofs.YtdidpppjkbgccaaDoor
open Go.RowKit Go.Maps
attribute [local go_sem ↓] Go.wp_at_zero Go.wp_at_succ

/-- A log over a device, both made since w. -/
structure RSt (w : World) (v : DV) (own : Nat → Option Role) (D : Dev) (lb j off len : Nat) (wc : World) : Prop where
  log : RLog wc v own D lb j off len
  ob : ∀ k, own k ≠ none → w.heap.size ≤ k
  lb : w.heap.size ≤ lb
  bel : Below w.heap.size w wc
/-- The device has been worked on: all but its own blocks is as it was. -/
structure Mv (own own' : Nat → Option Role) (wc w1 : World) : Prop where
  old : ∀ k, k < wc.heap.size → own' k = own k
  upd : Upd (fun k => own k ≠ none) wc w1
section
variable {w wc w1 : World} {v : DV} {own : Nat → Option Role} {D D' : Dev} {lb j off len : Nat}
theorem Mv.of_below {own : Nat → Option Role} {wc w1 : World} (hb : Below wc.heap.size wc w1) : Mv own own wc w1 := ⟨fun _ _ => rfl, Upd.of_below hb⟩
theorem RSt.next (h : RSt w v own D lb j off len wc) (hb : Below wc.heap.size wc w1) : RSt w v own D lb j off len w1 := ⟨h.log.below hb, h.ob, h.lb, h.bel.trans (hb.mono h.bel.size)⟩
theorem RSt.alloc (h : RSt w v own D lb j off len wc) (o : Obj) : RSt w v own D lb j off len (wc.alloc o) := h.next (below_alloc wc o)
theorem RSt.stepM (h : RSt w v own D lb j off len wc) (hn : D'.n = D.n) (hp : DPost v own wc D' w1) : ∃ own', RSt w v own' D' lb j off len w1 ∧ Mv own own' wc w1 := by
  have hlt := h.log.blk.lt
  obtain ⟨own1, d1, o1, u1⟩ := hp
  refine ⟨own1, ⟨⟨d1, h.log.blk.upd u1 (by rw [h.log.ob]; simp), by rw [o1 lb hlt]; exact h.log.ob, h.log.hj, h.log.n26, h.log.o64, h.log.l64, by rw [hn]; exact h.log.fit⟩, fun k hk => ?_, h.lb, ?_⟩, ⟨o1, u1⟩⟩
  · rcases Nat.lt_or_ge k wc.heap.size with hk2 | hk2
    · rw [o1 k hk2] at hk; exact h.ob k hk
    · exact Nat.le_trans h.bel.size hk2
  · refine h.bel.trans ⟨u1.os, u1.tape, u1.output, u1.size, fun k hk => u1.block k (Nat.lt_of_lt_of_le hk h.bel.size) (fun hk2 => ?_)⟩
    have := h.ob k hk2; omega
theorem RSt.dev (h : RSt w v own D lb j off len wc) : IsDev wc v own D := h.log.dev
end
theorem row_rdF {w : World} {g n c : Nat} {t : TypeId} {F : Nat → Value} (h : Row w g n t F) (hc : n ≤ c) : RdSl w 1 (.slice (some ⟨g, 0, none⟩) n c) n ((List.range n).map F) := by
  refine ⟨by simp, _, _, rfl, hc, .inr ⟨g, 0, rfl, fun j u hu => ?_⟩⟩
  have hj : j < n := by
    rcases Nat.lt_or_ge j n with h | h
    · exact h
    · rw [List.getElem?_eq_none (by simp; exact h)] at hu; cases hu
  have : u = F j := by simp [hj] at hu; exact hu.symm
  rw [this, Nat.zero_add]; exact h.cell hj
def b15 (i : Nat) : Int := (((i / 8 + 1) % 256 : Nat) : Int)
theorem b15_bd (i : Nat) : 0 ≤ b15 i ∧ b15 i < 256 := by unfold b15; omega
def W15 : Nat → Int := wordsOf b15 2560
theorem W15_bd (i : Nat) : 0 ≤ W15 i ∧ W15 i < 18446744073709551616 := by
  unfold W15 wordsOf
  have h := wv_lt b15 i (min 8 (2560 - 8 * i)) (fun j _ => b15_bd _)
  have h2 : (2 : Int) ^ (min 8 (2560 - 8 * i) * 8) ≤ 2 ^ 64 := by
    have : (2 : Nat) ^ (min 8 (2560 - 8 * i) * 8) ≤ 2 ^ 64 := Nat.pow_le_pow_right (by omega) (by omega)
    exact_mod_cast this
  exact ⟨h.1, Int.lt_of_lt_of_le h.2 h2⟩
def D15a : Dev := Dev.fresh 40 W15
def D15 : Dev := D15a.run 0 (storesL [(320, 0)])
def C15 (i : Nat) : Int := look [(320, 0)] (W15 i) i
theorem C15_40 : C15 40 = 0 := rfl
theorem D15_rcl : RCl D15 C15 3 ∧ D15.armed = false := by
  have h := (fresh_rcl W15_bd).go (gs := storesGs [(320, 0)]) rfl (store1_ok (by omega) (by omega)) (valP_groups (fun e he => by rw [storesGs_flat] at he; simp at he; subst he; simp))
  rw [← stores_groups] at h
  have e : (fun i => look ((storesGs [(320, (0 : Int))]).flatMap (·.1)) (W15 i) i) = C15 := by funext i; rw [storesGs_flat]; rfl
  rw [e] at h
  exact ⟨⟨h.1.grp, h.1.vb, Nat.le_trans h.1.exec (by decide)⟩, h.2⟩
theorem D15_n : D15.n = 40 := (run_n 0 _ D15a).trans rfl
structure MdMid (w : World) (k : Nat) (wr : World) : Prop where
  row : Row wr w.heap.size 2560 5 (fun i => .int .u8 (if i < k then b15 i else 0))
  bel : Below w.heap.size w wr
theorem MdMid.start {w : World} : MdMid w 0 (w.alloc (.cells (madeCells #[.int .u8 0] 2560) 5)) :=
  ⟨(row_made w 5 .u8 2560).congr (fun i _ => by simp), (Below.refl _ _).alloc (Nat.le_refl _) _⟩
theorem MdMid.step {w : World} {k : Nat} {wr : World} {x : Int} (h : MdMid w k wr) (hx : b15 k = x) : MdMid w (k + 1) (wr.setCell ⟨w.heap.size, k, none⟩ (.int .u8 x)) := by
  subst hx
  refine ⟨(h.row.set k (.int .u8 (b15 k))).congr (fun i _ => ?_), h.bel.setCell (by simp) _⟩
  by_cases e : i = k
  · subst e; simp
  · simp only [if_neg e]
    by_cases e2 : i < k
    · rw [if_pos e2, if_pos (by omega)]
    · rw [if_neg e2, if_neg (by omega)]
section
variable {w : World}
set_option maxRecDepth 100000 in
set_option maxHeartbeats 4000000 in
theorem made15 : Calls Tryd.prog 7 #[] w fun r w' => ∃ v own lb, r = .returned (.tuple #[.pointer (some ⟨v.db, 0, none⟩), .pointer (some ⟨lb, 0, none⟩)]) ∧ RSt w v own D15 lb 0 320 1664 w' := by
  have hmk := fun (wx : World) => mkBytes wx 2560 (by omega)
  rw [show ((2560 : Nat) : Int) = 2560 from rfl] at hmk
  have M0 := Lib.hid (MdMid.start (w := w))
  have hfrom := fun (wx : World) (hx : Row wx w.heap.size 2560 5 (fun i => .int .u8 (b15 i))) => devFrom_any (w := wx) (.slice (some ⟨w.heap.size, 0, none⟩) 2560 2560) 40 b15 (row_rdF hx (Nat.le_refl _)) (by omega) (by omega) (fun i _ => b15_bd i)
  have HF := Lib.hid hfrom; clear hfrom
  have hfmt := fun (wx : World) (v : DV) (own : Nat → Option Role) (h : IsDev wx v own D15a) => rdFormat_ok h (j := 0) (by omega) 5 26 (by omega) (by decide) rfl (by decide)
  rw [show ((5 : Nat) : Int) = 5 from rfl, show ((26 : Nat) : Int) = 26 from rfl, show 64 * 5 = 320 from rfl] at hfmt
  have HFM : Hid (∀ (wx : World) (v : DV) (own : Nat → Option Role) (_ : IsDev wx v own D15a), Calls Tryd.prog 31 #[.iface 54 (.pointer (some ⟨v.tb 0, 0, none⟩)), .int .i64 5, .int .i64 26] wx fun r w' => r = .returned (.int .i64 (D15.err 0)) ∧ DPost v own wx D15 w') := hfmt
  have hopen := fun (wx : World) (v : DV) (own : Nat → Option Role) (h : IsDev wx v own D15) => rdOpen_ok h (j := 0) (by omega) 5 26 (by omega) (by rw [D15_n]; omega)
  rw [show ((5 : Nat) : Int) = 5 from rfl, show ((26 : Nat) : Int) = 26 from rfl, show 64 * 5 = 320 from rfl, show 64 * 26 = 1664 from rfl] at hopen
  have HO := Lib.hid hopen
  have hD := D15_rcl.1.grp.on.err
  rw [hD] at HFM
  clear hopen hfmt hD
  go_enter Tryd.func7, Tryd.ntmps7
  go_wp2_with fail
  go_loopw [10] (fun y wr => ∃ k : Nat, k ≤ 2560 ∧ y = .int .i64 k ∧ MdMid w k wr) (fun y _ => 2560 - (intOf y).toNat)
  case atStart => exact ⟨0, by omega, rfl, M0.out⟩
  case round =>
    obtain ⟨k, hk, rfl, hM⟩ := hrel
    have M := Lib.hid hM
    clear M0
    by_cases hlt : k < 2560
    · have hlt' : (k : Int) < 2560 := by omega
      have hsz : w.heap.size < wr.heap.size := hM.row.lt
      have hf1 := hM.row.frozen k
      have hcell := hM.row.cell (i := k) hlt
      obtain ⟨d, hd⟩ : ∃ d, k / 8 = d := ⟨_, rfl⟩
      have q6 : (k : Int) / 8 = d := by omega
      have hu : IntKind.u8.wrap ((d : Int) + 1) = ((d : Int) + 1) % 256 := by simp [IntKind.wrap, IntKind.signed, IntKind.bits]
      have HB : Hid (b15 k = ((d : Int) + 1) % 256) := by show b15 k = _; unfold b15; rw [hd]; omega
      clear hM hd
      go_wp2_with fail
      go_roundw
      case rel => exact ⟨k + 1, by omega, by go_num, M.out.step HB.out⟩
      case measure => simp [intOf]; omega
    · obtain rfl : k = 2560 := by omega
      rw [show ((2560 : Nat) : Int) = 2560 from rfl]
      have HF1 := Lib.hid (HF.out wr (M.out.row.congr (fun i hi => by rw [if_pos hi])))
      clear HF hlt hM
      go_wp2_with fail
      (with_reducible refine HF1.out.mono ?_)
      rintro e w1 ⟨v, own, rfl, d1, o1, b1⟩
      have D1 : Hid (IsDev w1 v own D15a) := d1
      have B1 : Hid ((∀ k, own k ≠ none → w.heap.size ≤ k) ∧ Below w.heap.size w w1) := ⟨fun k hk => Nat.le_trans M.out.bel.size (o1 k hk), M.out.bel.trans (b1.mono M.out.bel.size)⟩
      clear d1 o1 b1 HF1
      go_wp2_with fail
      (with_reducible refine (thread0_any D1.out).mono ?_)
      rintro e w' ⟨rfl, rfl⟩
      go_wp2_with fail
      (with_reducible refine (HFM.out _ _ _ D1.out).mono ?_)
      rintro e w2 ⟨rfl, p2⟩
      obtain ⟨own2, d2, o2, u2⟩ := p2
      have D2 := Lib.hid d2
      have B2 : Hid ((∀ k, own2 k ≠ none → w.heap.size ≤ k) ∧ Below w.heap.size w w2) := ⟨fun k hk => by
        rcases Nat.lt_or_ge k w1.heap.size with hk2 | hk2
        · rw [o2 k hk2] at hk; exact B1.out.1 k hk
        · exact Nat.le_trans B1.out.2.size hk2, B1.out.2.trans ⟨u2.os, u2.tape, u2.output, u2.size, fun k hk => u2.block k (Nat.lt_of_lt_of_le hk B1.out.2.size) (fun hk2 => by have := B1.out.1 k hk2; omega)⟩⟩
      clear d2 o2 u2 D1 B1
      go_wp2_with fail
      (with_reducible refine (thread0_any D2.out).mono ?_)
      rintro e w' ⟨rfl, rfl⟩
      go_wp2_with fail
      (with_reducible refine (HO.out _ _ _ D2.out).mono ?_)
      rintro e w3 ⟨rfl, l3, b3⟩
      have L3 : Hid (RSt w v own2 D15 w2.heap.size 0 320 1664 w3) := ⟨l3, B2.out.1, B2.out.2.size, B2.out.2.trans (b3.mono B2.out.2.size)⟩
      clear l3 b3 D2 B2 HO
      go_wp2_with fail
      go_ret2
      exact ⟨v, own2, _, rfl, L3.out⟩
end
end Go.Proofs.YtdidpppjkbgccaaDoor

/- Fences of a program; the law's awake of layer 15. -/
namespace Go.Proofs.YtdidpppjkbgccaaDoor
open Go.RowKit Go.Maps
attribute [local go_sem ↓] Go.wp_at_zero Go.wp_at_succ

def fenN (l : List (Nat × Nat × Int)) : Nat := (l.filter fun e => e.1 == 3).length
theorem fenN_snoc (l : List (Nat × Nat × Int)) (e : Nat × Nat × Int) : fenN (l ++ [e]) = fenN l + (if e.1 = 3 then 1 else 0) := by
  unfold fenN
  rw [List.filter_append, List.length_append]
  by_cases h : e.1 = 3
  · simp [h]
  · simp [h]
section
variable {w : World}
set_option maxRecDepth 100000 in
set_option maxHeartbeats 2000000 in
theorem fences_any (sv : Value) (l : List (Nat × Nat × Int)) (h : RdSl w 3 sv l.length (instrC l)) (hl : l.length ≤ 100000) :
    Calls Tryd.prog 27 #[sv] w fun r w' => r = .returned (.int .i64 (fenN l)) ∧ Below w.heap.size w w' := by
  have HS := Lib.hid h
  have HE : Hid (fenN l = fenN (l.take l.length)) := by show fenN l = _; rw [List.take_length]
  obtain ⟨_, sa, sc, rfl, hsc, _⟩ := h
  generalize fenN l = res at *
  generalize hm : l.length = m at *
  have HM := Lib.hid hm; clear hm
  go_enter Tryd.func27, Tryd.ntmps27
  go_wp2_with fail
  go_loopw [3, 8] (fun n y wr => ∃ k : Nat, k ≤ m ∧ y = .int .i64 k ∧ n = .int .i64 (fenN (l.take k) : Nat) ∧ fenN (l.take k) ≤ k ∧ Below w.heap.size w wr) (fun _ y _ => m - (intOf y).toNat)
  case atStart => exact ⟨0, by omega, rfl, rfl, by simp [fenN], Below.refl _ _⟩
  case round =>
    obtain ⟨k, hk, rfl, rfl, hfk, hb⟩ := hrel
    have B := Lib.hid hb; clear hb
    by_cases hlt : k < m
    · have hk' : (k : Int) < m := by omega
      obtain ⟨e, he⟩ : ∃ e, l[k]? = some e := ⟨_, List.getElem?_eq_getElem (by rw [HM.out]; exact hlt)⟩
      obtain ⟨_, a', c', e', _, hE⟩ := HS.out.below B.out
      cases e'
      have hg := instrC_get l k e he
      obtain ⟨fb, fo, rfl, hE2⟩ := rd_at hE hg.1
      have c1 := hE2 _ _ hg.1; have c2 := hE2 _ _ hg.2.1; have c3 := hE2 _ _ hg.2.2
      rw [← Nat.add_assoc] at c2 c3
      have HT : Hid (fenN (l.take (k + 1)) = fenN (l.take k) + (if e.1 = 3 then 1 else 0)) := by show fenN (l.take (k + 1)) = _; rw [List.take_add_one, he]; exact fenN_snoc _ _
      clear hE hE2 he hg
      obtain ⟨e1, e2, e3⟩ := e
      simp only at c1 c2 c3 HT
      have BA := Lib.hid (B.out.alloc B.out.size (.cells #[.int .u8 (e1 : Int), .int .u64 (e2 : Int), .int .u64 e3] 120))
      generalize fenN (l.take k) = f at *
      by_cases h3 : e1 = 3
      · have hb3 : ((e1 : Int) == 3) = true := by simp; omega
        rw [if_pos h3] at HT
        clear h3
        go_wp2_with fail
        go_roundw
        case rel => exact ⟨k + 1, by omega, by go_num, by rw [HT.out]; go_num, by rw [HT.out]; omega, BA.out⟩
        case measure => simp [intOf]; omega
      · have hb3 : ((e1 : Int) == 3) = false := by simp; omega
        rw [if_neg h3] at HT
        clear h3
        go_wp2_with fail
        go_roundw
        case rel => exact ⟨k + 1, by omega, by go_num, by rw [HT.out]; go_num, by rw [HT.out]; omega, BA.out⟩
        case measure => simp [intOf]; omega
    · obtain rfl : k = m := by omega
      go_wp2_with fail
      go_ret
      exact ⟨ret_int (by rw [HE.out]), B.out⟩
abbrev ws3 : List (Nat × Int) := [(0, 1), (8, 2), (0, 3)]
abbrev wk2 : List (Nat × Int) := [(8, 2), (0, 3)]
theorem ws3_last : lastL ws3 = wk2 := by decide
theorem wk2_ok : WOk wk2 := ⟨by decide, by decide, by decide⟩
theorem wk2_len : (rPlanP 320 wk2).length = 16 := by decide
theorem wk2_fen : fenN (rPlanP 320 wk2) = 4 := by decide
set_option maxRecDepth 100000 in
set_option maxHeartbeats 8000000 in
theorem awake15 (hN : Nib w) : Calls Tryd.prog 6 #[] w fun r w' => r = .returned (.bool true) ∧ Below w.heap.size w w' := by
  have HNB := Lib.hid hN; clear hN
  obtain ⟨hcl, har⟩ := D15_rcl
  obtain ⟨hc2, _⟩ := hcl.commit har wk2_ok
  obtain ⟨hco, hco2⟩ := cmtC_out wk2_ok C15 C15_40
  have HPL := Lib.hid (fun (wx : World) (v : DV) (own : Nat → Option Role) (lb : Nat) (sv : Value) (hx : RLog wx v own D15 lb 0 320 1664) (hn : Nib wx) (hs : RdSl wx 2 sv ws3.length (flat ws3)) =>
    rdPlan_live hn hx hcl.grp.on.off hcl.grp.on.err hcl.vb sv ws3 hs (by decide) (by decide) (by rw [hcl.grp.on.n]; decide))
  rw [ws3_last, hcl.cur] at HPL
  have HRN := Lib.hid (fun (wx w1 : World) (v : DV) (own : Nat → Option Role) (pv : Value) (hx : IsDev wx v own D15) (ha : Acc wx wx.heap.size w1 120 3 pv (rPlanP 320 wk2).length (instrC (rPlanP 320 wk2))) =>
    run_acc hx (j := 0) (by omega) ha (rPlanP_ok (by decide) ⟨by decide, by decide⟩) (by rw [wk2_len]; omega) (by have := hcl.exec; omega))
  have hcur := hc2.cur
  have hld0 := fun (wx : World) (v : DV) (own : Nat → Option Role) (hx : IsDev wx v own (D15.run 0 (rPlanP 320 wk2))) => load_ok hx (j := 0) (by omega) 0 hc2.grp.on.off (by omega) (by rw [hc2.grp.on.n]; omega)
  have hld1 := fun (wx : World) (v : DV) (own : Nat → Option Role) (hx : IsDev wx v own (D15.run 0 (rPlanP 320 wk2))) => load_ok hx (j := 0) (by omega) 8 hc2.grp.on.off (by omega) (by rw [hc2.grp.on.n]; omega)
  rw [hcur] at hld0 hld1
  rw [hco2 (0 / 8) (by omega)] at hld0
  rw [hco2 (8 / 8) (by omega)] at hld1
  rw [show look wk2 (C15 (0 / 8)) (0 / 8) = 3 from rfl] at hld0
  rw [show look wk2 (C15 (8 / 8)) (8 / 8) = 2 from rfl] at hld1
  rw [show ((0 : Nat) : Int) = 0 from rfl] at hld0
  rw [show ((8 : Nat) : Int) = 8 from rfl] at hld1
  have HL0 := Lib.hid hld0; have HL1 := Lib.hid hld1
  have HFE := Lib.hid (fun (wx : World) (sv : Value) (hx : RdSl wx 3 sv (rPlanP 320 wk2).length (instrC (rPlanP 320 wk2))) => fences_any sv _ hx (by rw [wk2_len]; omega))
  rw [wk2_len] at HRN HFE
  rw [wk2_fen] at HFE
  have HD2 : Hid ((D15.run 0 (rPlanP 320 wk2)).n = D15.n) := by show (D15.run 0 (rPlanP 320 wk2)).n = D15.n; rw [hc2.grp.on.n, hcl.grp.on.n]
  rw [hc2.grp.on.err] at HRN
  generalize D15.run 0 (rPlanP 320 wk2) = D2 at *
  clear hcl har hc2 hco hco2 hcur hld0 hld1
  go_enter Tryd.func6, Tryd.ntmps6
  go_wp2_with fail
  (with_reducible refine made15.mono ?_)
  rintro e w1 ⟨v, own, lb, rfl, l1⟩
  have L1 := Lib.hid l1; clear l1
  have LA := Lib.hid (L1.out.alloc (.cells #[.int .u64 0, .int .u64 1, .int .u64 8, .int .u64 2, .int .u64 0, .int .u64 3] 73))
  have HP1 := Lib.hid (HPL.out _ _ _ _ (.slice (some ⟨w1.heap.size, 0, none⟩) 3 3) LA.out.log (HNB.out.below LA.out.bel) (by exact RdSl.new w1 _ _ 2 3 rfl))
  clear HPL
  go_wp2_with fail
  (with_reducible refine HP1.out.mono ?_)
  rintro e w2 (⟨h1, _⟩ | ⟨_, h1, _⟩ | ⟨_, _, ov, rfl, a2⟩)
  · exact absurd h1 (by decide)
  · exact absurd C15_40 h1
  · rw [wk2_len] at a2
    have HF2 := Lib.hid (HFE.out _ _ a2.rd)
    have A2 := Lib.hid a2
    obtain ⟨oa, oc, hov⟩ := a2.slice
    clear a2 HFE HP1
    subst hov
    go_wp2_with fail
    (with_reducible refine HF2.out.mono ?_)
    rintro e w3 ⟨rfl, b3⟩
    have A3 := Lib.hid (A2.out.keep b3)
    have L3 := Lib.hid (LA.out.next A3.out.bel)
    clear b3 HF2 A2
    go_wp2_with fail
    (with_reducible refine (thread0_any L3.out.dev).mono ?_)
    rintro e w' ⟨rfl, rfl⟩
    go_wp2_with fail
    (with_reducible refine (HRN.out _ _ _ _ _ LA.out.dev A3.out).mono ?_)
    rintro e w4 ⟨rfl, p4⟩
    obtain ⟨own4, l4, _⟩ := LA.out.stepM HD2.out p4
    have L4 := Lib.hid l4
    clear p4 l4 HRN A3 L3 LA L1
    go_wp2_with fail
    (with_reducible refine (thread0_any L4.out.dev).mono ?_)
    rintro e w' ⟨rfl, rfl⟩
    go_wp2_with fail
    (with_reducible refine (HL0.out _ _ _ L4.out.dev).mono ?_)
    rintro e w' ⟨rfl, rfl⟩
    go_wp2_with fail
    (with_reducible refine (thread0_any L4.out.dev).mono ?_)
    rintro e w' ⟨rfl, rfl⟩
    go_wp2_with fail
    (with_reducible refine (HL1.out _ _ _ L4.out.dev).mono ?_)
    rintro e w' ⟨rfl, rfl⟩
    go_wp2_with fail
    go_ret
    exact ⟨rfl, L4.out.bel⟩
end
end Go.Proofs.YtdidpppjkbgccaaDoor
