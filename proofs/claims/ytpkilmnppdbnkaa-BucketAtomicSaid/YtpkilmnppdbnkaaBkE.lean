/- The walks of a bucket's plans, of Put and Delete on a device that is on. -/
import Derived.Test.YtpkilmnppdbnkaaBkD
namespace Go.Proofs.Ytpkilmnppdbnkaa
open Go.RowKit

/-- A call that has its first box and a program. -/
structure PrgAt (w : World) (c : Array Value) (t : TypeId) (pv : Value) (l : List (Nat × Nat × Int)) (wx : World) : Prop where
  box : Bx1 w c t wx
  acc : Acc w w.heap.size wx 98 3 pv l.length (instrC l)
section
variable {w : World} {v : DV} {own : Nat → Option Role} {D : Dev} {off : Nat}
theorem Acc.mid {w wm _wz wy : World} {e : TypeId} {s n : Nat} {u : Value} {xs : List Value} (hb : Below w.heap.size w wm) (h : Acc wm wm.heap.size wy e s u n xs) : Acc w w.heap.size wy e s u n xs :=
  ⟨h.own, fun g hg => Nat.le_trans hb.size (h.new g hg), hb.trans (h.bel.mono hb.size), Nat.le_trans hb.size h.lt⟩
theorem commitNil31 (o : Nat) (x : Int) (ho : o < 18446744073709551616) : Calls Try.prog 43 #[.slice none 0 0, .int .u64 o, .int .u64 x] w fun r w' => ∃ v', r = .returned v' ∧ Acc w w.heap.size w' 98 3 v' (storesL [(o, x)]).length (instrC (storesL [(o, x)])) :=
  commit31_any (.slice none 0 0) [] o x ho (Acc.nil w _ w _ _ (Below.refl _ _) (Nat.le_refl _)) (by simp)
set_option maxRecDepth 100000 in
set_option maxHeartbeats 4000000 in
theorem planPut31_rep (h : IsDev w v own D) (hb : BOk D off) (k : Nat) (hk : k < 18446744073709551616) (x : Int) (s : Nat) (hs : s < 7) (hf : fndI D.cur off k = (s : Nat)) :
    Calls Try.prog 15 #[.agg #[.iface 56 (.pointer (some ⟨v.tb 0, 0, none⟩)), .int .u64 off], .int .u64 k, .int .u64 x] w (ProgP w (bkRep off s x) 0) := by
  have HF := Lib.hid (fun wx (hx : IsDev wx v own D) => hf ▸ hb.find hx k hk)
  have hl := hb.hl; have hn := h.wf.le
  have HK := Lib.hid (fun (wx : World) => keyAt_any (w := wx) (v := v) off s hs (by omega))
  have hkb : bkKey off s + 8 < 18446744073709551616 := by unfold bkKey; omega
  have hkw : IntKind.u64.wrap ((bkKey off s : Nat) + 8 : Int) = (bkKey off s : Nat) + 8 := IntWalk.u64_in _ (by omega)
  have hcm := fun wx => commitNil31 (w := wx) (bkKey off s + 8) x hkb
  rw [show ((bkKey off s + 8 : Nat) : Int) = (bkKey off s : Nat) + 8 by omega] at hcm
  have HCM := Lib.hid hcm
  have H := Lib.hid h
  have X0 := Lib.hid (Bx1.start w #[.iface 56 (.pointer (some ⟨v.tb 0, 0, none⟩)), .int .u64 off] 29)
  unfold bkRep
  generalize bkH D.cur off = hd at *
  generalize bkKey off s = bk at *
  clear h hf hcm
  go_enter Try.func15, Try.ntmps15
  go_wp2_with fail
  (with_reducible refine (HF.out _ (H.out.below X0.out.bel)).mono ?_)
  rintro e w1 ⟨rfl, b1⟩
  have X1 := Lib.hid (X0.out.next b1)
  clear b1
  have c0 := X1.out.blk.cell (i := 0) (v := .iface 56 (.pointer (some ⟨v.tb 0, 0, none⟩))) rfl
  have c1 := X1.out.blk.cell (i := 1) (v := .int .u64 off) rfl
  go_wp2_with fail
  (with_reducible refine (HK.out _).mono ?_)
  rintro e w2 ⟨rfl, b2⟩
  have X2 := Lib.hid (X1.out.next b2)
  clear b2 c0 c1 X1
  go_wp2_with fail
  (with_reducible refine (HCM.out _).mono ?_)
  rintro e w3 ⟨pv, rfl, ha⟩
  have A := Lib.hid (Acc.mid (_wz := w2) X2.out.bel ha)
  clear ha
  go_wp2_with fail
  go_ret2
  exact ⟨_, rfl, A.out⟩
theorem BOk.used (hb : BOk D off) (s : Nat) (hs : s < 7) : Calls Try.prog 44 #[.int .u64 (bkH D.cur off : Nat), .int .i64 s] w fun r w' => r = .returned (.bool (usedB (bkH D.cur off) s)) ∧ w = w' := used_any _ s hb.bd hs
set_option maxRecDepth 100000 in
set_option maxHeartbeats 4000000 in
theorem planPut31_full (h : IsDev w v own D) (hb : BOk D off) (k : Nat) (hk : k < 18446744073709551616) (x : Int) (hf : fndI D.cur off k = -1) (hu : ∀ t, t < 7 → usedB (bkH D.cur off) t = true) :
    Calls Try.prog 15 #[.agg #[.iface 56 (.pointer (some ⟨v.tb 0, 0, none⟩)), .int .u64 off], .int .u64 k, .int .u64 x] w (ProgP w [] 4) := by
  have HF := Lib.hid (fun wx (hx : IsDev wx v own D) => hf ▸ hb.find hx k hk)
  have HU := Lib.hid (fun wx t (ht : t < 7) => hu t ht ▸ hb.used (w := wx) t ht)
  have H := Lib.hid h
  have X0 := Lib.hid (Bx1.start w #[.iface 56 (.pointer (some ⟨v.tb 0, 0, none⟩)), .int .u64 off] 29)
  generalize bkH D.cur off = hd at *
  clear h hf hu
  go_enter Try.func15, Try.ntmps15
  go_wp2_with fail
  (with_reducible refine (HF.out _ (H.out.below X0.out.bel)).mono ?_)
  rintro e w1 ⟨rfl, b1⟩
  have X1 := Lib.hid (X0.out.next b1)
  clear b1
  go_wp2_with fail
  go_loop [9] (fun y => ∃ t : Nat, t ≤ 7 ∧ y = .int .i64 t) (fun y => 7 - (intOf y).toNat)
  case atStart => exact ⟨0, by omega, rfl⟩
  case round =>
    obtain ⟨t, ht, rfl⟩ := hrel
    by_cases hlt : t < 7
    · have h1 : (t : Int) < 7 := by omega
      have HUT := Lib.hid (fun wx => HU.out wx t hlt)
      clear HU
      go_wp2_with fail
      (with_reducible refine (HUT.out _).mono ?_)
      rintro e w2 ⟨rfl, rfl⟩
      go_wp2_with fail
      go_round
      case rel => exact ⟨t + 1, by omega, by go_num⟩
      case measure => simp [intOf]; omega
    · obtain rfl : t = 7 := by omega
      go_wp2_with fail
      go_ret2
      exact ⟨_, rfl, Acc.nil _ _ _ _ _ X1.out.bel X1.out.bel.size⟩
set_option maxRecDepth 100000 in
set_option maxHeartbeats 4000000 in
theorem planDel31_some (h : IsDev w v own D) (hb : BOk D off) (k : Nat) (hk : k < 18446744073709551616) (s : Nat) (hs : s < 7) (hf : fndI D.cur off k = (s : Nat)) :
    Calls Try.prog 16 #[.agg #[.iface 56 (.pointer (some ⟨v.tb 0, 0, none⟩)), .int .u64 off], .int .u64 k] w (ProgP w (bkHd off (clearN (bkH D.cur off) s)) 0) := by
  have HF := Lib.hid (fun wx (hx : IsDev wx v own D) => hf ▸ hb.find hx k hk)
  have hl := hb.hl; have hn := h.wf.le
  have HC := Lib.hid (fun wx => cleared_any (w := wx) (bkH D.cur off) s hb.bd hs)
  have HCM := Lib.hid (fun wx => commitNil31 (w := wx) off ((clearN (bkH D.cur off) s : Nat) : Int) (by omega))
  have H := Lib.hid h
  have X0 := Lib.hid (Bx1.start w #[.iface 56 (.pointer (some ⟨v.tb 0, 0, none⟩)), .int .u64 off] 29)
  unfold bkHd
  generalize clearN (bkH D.cur off) s = cl at *
  generalize bkH D.cur off = hd at *
  clear h hf
  go_enter Try.func16, Try.ntmps16
  go_wp2_with fail
  (with_reducible refine (HF.out _ (H.out.below X0.out.bel)).mono ?_)
  rintro e w1 ⟨rfl, b1⟩
  have X1 := Lib.hid (X0.out.next b1)
  clear b1
  go_wp2_with fail
  have X4 := Lib.hid (X1.out.next ((Below.refl _ _).drew))
  clear X1
  refine wp_region_held (S := (fun wx => Bx1 w #[.iface 56 (.pointer (some ⟨v.tb 0, 0, none⟩)), .int .u64 off] 29 wx)) (by kernel_rfl) ?_
  change wpAnyH _ _ _ _ _ _ _ _ (World.drew _)
  refine wpAnyH_take (i := 0) (v := .pointer (some ⟨w.heap.size, 1, none⟩)) rfl (by kernel_rfl) (by kernel_rfl) (by kernel_rfl) (fun _ _ _ h => h) (Or.inl ⟨by kernel_rfl, fun w _ => by go_simp⟩) X4.out ?_
  refine wpAnyH_take (i := 2) (v := .int .u64 hd) rfl (by kernel_rfl) (by kernel_rfl) (by kernel_rfl) (fun _ _ _ h => h) (Or.inl ⟨by kernel_rfl, fun w _ => by go_simp⟩) X4.out ?_
  refine wpAnyH_take (i := 3) (v := .int .i64 s) rfl (by kernel_rfl) (by kernel_rfl) (by kernel_rfl) (fun _ _ _ h => h) (Or.inl ⟨by kernel_rfl, fun w _ => by go_simp⟩) X4.out ?_
  refine wpAnyH_take (i := 1) (v := .int .u64 off) rfl (by kernel_rfl) (by kernel_rfl) (by kernel_rfl) (fun _ _ _ h => h) (Or.inl ⟨by kernel_rfl, fun wx hx => exec_load_cell 27 (.tmp 21) rfl ⟨w.heap.size, 1, none⟩ rfl _ (hx.blk.cell (i := 1) (v := .int .u64 off) rfl) (aggU64 _)⟩) X4.out ?_
  refine wpAnyH_one (i := 4) (by kernel_rfl) rfl rfl (fun K hK => ?_)
  go_simp
  (with_reducible refine (HC.out _).mono ?_)
  rintro e w6 ⟨rfl, rfl⟩
  go_simp
  refine hK _ _ ⟨X4.out, ?_⟩
  clear hK K
  refine wpAnyH_one (i := 5) (by kernel_rfl) rfl rfl (fun K hK => ?_)
  go_simp
  (with_reducible refine (HCM.out _).mono ?_)
  rintro e w7 ⟨pv, rfl, ha⟩
  have A := Lib.hid (Acc.mid (_wz := w) X4.out.bel ha)
  have X6 := Lib.hid (X4.out.next ha.bel)
  go_simp
  refine hK _ _ ⟨X6.out, ?_⟩
  clear hK K
  refine wpAnyH_one (i := 6) (by kernel_rfl) rfl rfl (fun K hK => ?_)
  go_simp
  refine hK _ _ ⟨X6.out, ?_⟩
  clear hK K
  refine wpAnyH_one (i := 7) (by kernel_rfl) rfl rfl (fun K hK => ?_)
  go_simp
  refine hK _ _ ⟨X6.out, ?_⟩
  clear hK K
  refine wpAnyH_done (by kernel_rfl) ?_ _
  go_wp2_with fail
  go_ret2
  exact ⟨_, rfl, A.out⟩
set_option maxRecDepth 100000 in
theorem planDel31_none (h : IsDev w v own D) (hb : BOk D off) (k : Nat) (hk : k < 18446744073709551616) (hf : fndI D.cur off k = -1) :
    Calls Try.prog 16 #[.agg #[.iface 56 (.pointer (some ⟨v.tb 0, 0, none⟩)), .int .u64 off], .int .u64 k] w (ProgP w [] 5) := by
  have HF := Lib.hid (fun wx (hx : IsDev wx v own D) => hf ▸ hb.find hx k hk)
  have H := Lib.hid h
  have X0 := Lib.hid (Bx1.start w #[.iface 56 (.pointer (some ⟨v.tb 0, 0, none⟩)), .int .u64 off] 29)
  generalize bkH D.cur off = hd at *
  clear h hf
  go_enter Try.func16, Try.ntmps16
  go_wp2_with fail
  (with_reducible refine (HF.out _ (H.out.below X0.out.bel)).mono ?_)
  rintro e w1 ⟨rfl, b1⟩
  have X1 := Lib.hid (X0.out.next b1)
  clear b1
  go_wp2_with fail
  go_ret2
  exact ⟨_, rfl, Acc.nil _ _ _ _ _ X1.out.bel X1.out.bel.size⟩
/-- The first two stores, in a row of their own. -/
theorem prg_new (wx : World) (l : List (Nat × Nat × Int)) (hl : l.length ≤ 1000) (n : Nat) (hn : n = l.length) : Acc wx wx.heap.size (wx.alloc (.cells (instrC l).toArray 98)) 98 3 (.slice (some ⟨wx.heap.size, 0, none⟩) n n) n (instrC l) := by
  subst hn
  have h := OwnSl.new wx (instrC l).toArray 98 3 l.length l.length (by simp [instrC_length]) (Nat.le_refl _) (by unfold maxLen; omega)
  rw [List.take_of_length_le (by simp [instrC_length])] at h
  exact ⟨h, fun g hg => by simp [Value.ownBlock] at hg; omega, below_alloc _ _, by simp⟩
set_option maxRecDepth 100000 in
set_option maxHeartbeats 4000000 in
theorem planPut31_new1 (h : IsDev w v own D) (hb : BOk D off) (k : Nat) (hk : k < 18446744073709551616) (x : Int) (hf : fndI D.cur off k = -1) (s : Nat) (hs : s < 7) (hu : ∀ t, t < s → usedB (bkH D.cur off) t = true) (hn : usedB (bkH D.cur off) s = false)
    (q0 q1 q2 : Nat) (hq0 : 64 * (off / 64) = q0) (hq1 : 64 * (bkKey off s / 64) = q1) (hq2 : 64 * ((bkKey off s + 8) / 64) = q2) (hc : q1 ≠ q0 ∧ q2 ≠ q0 ∧ q2 ≠ q1) :
    Calls Try.prog 15 #[.agg #[.iface 56 (.pointer (some ⟨v.tb 0, 0, none⟩)), .int .u64 off], .int .u64 k, .int .u64 x] w (ProgP w (bkNew off s k x (markN (bkH D.cur off) s k)) 0) := by
  obtain ⟨i0, hi0, hz0, hz1, hz2⟩ := info_parts infoInstr
  have I := Lib.hid (And.intro hi0 (And.intro hz0 (And.intro hz1 hz2))); clear hi0 hz0 hz1 hz2
  have HF := Lib.hid (fun wx (hx : IsDev wx v own D) => hf ▸ hb.find hx k hk)
  have hl := hb.hl; have hln := h.wf.le
  have HU := Lib.hid (fun wx t (ht : t < s) => hu t ht ▸ hb.used (w := wx) t (by omega))
  have HN := Lib.hid (fun wx => hn ▸ hb.used (w := wx) s hs)
  have HK := Lib.hid (fun (wx : World) => keyAt_any (w := wx) (v := v) off s hs (by omega))
  have hkb : bkKey off s + 8 < 18446744073709551616 := by unfold bkKey; omega
  have hkw : IntKind.u64.wrap ((bkKey off s : Nat) + 8 : Int) = (bkKey off s : Nat) + 8 := IntWalk.u64_in _ (by omega)
  have HL0 := Lib.hid (fun wx => hq0 ▸ lineOf31_any (w := wx) off (by omega))
  have HL1 := Lib.hid (fun wx => hq1 ▸ lineOf31_any (w := wx) (bkKey off s) (by omega))
  have hl2 := fun wx => hq2 ▸ lineOf31_any (w := wx) (bkKey off s + 8) hkb
  rw [show ((bkKey off s + 8 : Nat) : Int) = (bkKey off s : Nat) + 8 by omega] at hl2
  have HL2 := Lib.hid hl2
  have HMK := Lib.hid (fun wx => marked_any (w := wx) (bkH D.cur off) s k hb.bd hs hk)
  have HCM := Lib.hid (fun wx w0 pv l hl hp => commit31_any (w := wx) (w0 := w0) pv l off ((markN (bkH D.cur off) s k : Nat) : Int) (by omega) hp hl)
  have HE : Hid (bkNew off s k x (markN (bkH D.cur off) s k) = [(1, bkKey off s, (k : Int)), (1, bkKey off s + 8, x), (2, q1, 0), (2, q2, 0), (3, 0, 0)] ++ storesL [(off, ((markN (bkH D.cur off) s k : Nat) : Int))]) := by
    show bkNew _ _ _ _ _ = _
    rw [bkNew_eq, stores1]
    have E := (show ¬ bkKey off s / 64 = off / 64 ∧ ¬ (bkKey off s + 8) / 64 = off / 64 ∧ ¬ (bkKey off s + 8) / 64 = bkKey off s / 64 from by omega)
    simp [E, hq0, hq1, hq2]
  rw [HE.out]
  clear HE
  have H := Lib.hid h
  have X0 := Lib.hid (Bx1.start w #[.iface 56 (.pointer (some ⟨v.tb 0, 0, none⟩)), .int .u64 off] 29)
  generalize markN (bkH D.cur off) s k = mk at *
  generalize bkH D.cur off = hd at *
  generalize bkKey off s = bk at *
  have hi0 : ((q1 : Int) != (q0 : Int)) = true := by simp; omega
  have hi1 : ((q2 : Int) != (q0 : Int)) = true := by simp; omega
  have hi2 : ((q2 : Int) != (q1 : Int)) = true := by simp; omega
  clear h hf hu hn hl2 hq0 hq1 hq2 hc
  go_enter Try.func15, Try.ntmps15
  go_wp2_with fail
  (with_reducible refine (HF.out _ (H.out.below X0.out.bel)).mono ?_)
  rintro e w1 ⟨rfl, b1⟩
  have X1 := Lib.hid (X0.out.next b1)
  clear b1
  go_wp2_with fail
  go_loop [9] (fun y => ∃ t : Nat, t ≤ s ∧ y = .int .i64 t) (fun y => s - (intOf y).toNat)
  case atStart => exact ⟨0, by omega, rfl⟩
  case round =>
   obtain ⟨t, ht, rfl⟩ := hrel
   have h1 : (t : Int) < 7 := by omega
   by_cases hlt : t < s
   · have HUT := Lib.hid (fun wx => HU.out wx t hlt)
     clear HU
     go_wp2_with fail
     (with_reducible refine (HUT.out _).mono ?_)
     rintro e w2 ⟨rfl, rfl⟩
     go_wp2_with fail
     go_round
     case rel => exact ⟨t + 1, by omega, by go_num⟩
     case measure => simp [intOf]; omega
   obtain rfl : t = s := by omega
   clear HU ht hlt
   go_wp2_with fail
   (with_reducible refine (HN.out _).mono ?_)
   rintro e w2 ⟨rfl, rfl⟩
   have c0 := X1.out.blk.cell (i := 0) (v := .iface 56 (.pointer (some ⟨v.tb 0, 0, none⟩))) rfl
   have c1 := X1.out.blk.cell (i := 1) (v := .int .u64 off) rfl
   go_wp2_with fail
   (with_reducible refine (HK.out _).mono ?_)
   rintro e w3 ⟨rfl, b3⟩
   have X3 := Lib.hid (X1.out.next b3)
   clear b3 c0 c1 X1
   have A0 : Hid (Acc w3 w3.heap.size (w3.alloc (.cells #[.int .u8 1, .int .u64 bk, .int .u64 k, .int .u8 1, .int .u64 ((bk : Int) + 8), .int .u64 x] 98)) 98 3 (.slice (some ⟨w3.heap.size, 0, none⟩) 2 2) 2 (instrC [(1, bk, (k : Int)), (1, bk + 8, x)])) := prg_new w3 [(1, bk, (k : Int)), (1, bk + 8, x)] (by simp) 2 rfl
   have X4 := Lib.hid (X3.out.next (below_alloc w3 (.cells #[.int .u8 1, .int .u64 bk, .int .u64 k, .int .u8 1, .int .u64 ((bk : Int) + 8), .int .u64 x] 98)))
   have c1 := X4.out.blk.cell (i := 1) (v := .int .u64 off) rfl
   go_wp2_with fail
   generalize w3.alloc (.cells #[.int .u8 1, .int .u64 bk, .int .u64 k, .int .u8 1, .int .u64 ((bk : Int) + 8), .int .u64 x] 98) = w4 at *
   (with_reducible refine (HL0.out _).mono ?_)
   rintro e w5 ⟨rfl, rfl⟩
   go_wp2_with fail
   (with_reducible refine (HL1.out _).mono ?_)
   rintro e w5 ⟨rfl, rfl⟩
   go_wp2_with fail
   (with_reducible refine (HL2.out _).mono ?_)
   rintro e w5 ⟨rfl, rfl⟩
   go_wp2_with (at_builtin; refine wpList_append_sl _ rfl _ _ 48 rfl 98 i0 _ 3 24 Try.underlying48 I.out.1 I.out.2.1 I.out.2.2.1 I.out.2.2.2 rfl (by decide) _ _ _ rfl (by exact (A0.out.own.alloc _)) _ 1 (instrC [(2, q1, 0)]) rfl (by exact RdSl.newAt _ _ _ 3 1 _ rfl rfl) (instrC_one _) (by unfold maxLen; omega) (by omega) ?_)
   intro v1 w11 o1 g1 b1 n1
   obtain ⟨va1, vc1, hv1⟩ := o1.slice
   subst hv1
   have A1 := Lib.hid (A0.out.next (m := 1) (below_alloc _ _) o1 g1 b1 (by simp))
   have X5 := Lib.hid (X3.out.next A1.out.bel)
   clear o1 g1 b1 n1
   go_wp2_with (at_builtin; refine wpList_append_sl _ rfl _ _ 48 rfl 98 i0 _ 3 24 Try.underlying48 I.out.1 I.out.2.1 I.out.2.2.1 I.out.2.2.2 rfl (by decide) _ _ _ rfl (by exact (A1.out.own.alloc _)) _ 1 (instrC [(2, q2, 0)]) rfl (by exact RdSl.newAt _ _ _ 3 1 _ rfl rfl) (instrC_one _) (by unfold maxLen; omega) (by omega) ?_)
   intro v2 w12 o1 g1 b1 n1
   obtain ⟨va2, vc2, hv2⟩ := o1.slice
   subst hv2
   have A2 := Lib.hid (A1.out.next (m := 1) (below_alloc _ _) o1 g1 b1 (by simp))
   have X6 := Lib.hid (X3.out.next A2.out.bel)
   clear o1 g1 b1 n1
   go_wp2_with (at_builtin; refine wpList_append_sl _ rfl _ _ 48 rfl 98 i0 _ 3 24 Try.underlying48 I.out.1 I.out.2.1 I.out.2.2.1 I.out.2.2.2 rfl (by decide) _ _ _ rfl (by exact (A2.out.own.alloc _)) _ 1 (instrC [(3, 0, 0)]) rfl (by exact RdSl.newAt _ _ _ 3 1 _ rfl rfl) (instrC_one _) (by unfold maxLen; omega) (by omega) ?_)
   intro v3 w13 o1 g1 b1 n1
   obtain ⟨va3, vc3, hv3⟩ := o1.slice
   subst hv3
   have A3 := Lib.hid (A2.out.next (m := 1) (below_alloc _ _) o1 g1 b1 (by simp))
   have X7 := Lib.hid (X3.out.next A3.out.bel)
   clear o1 g1 b1 n1
   go_wp2_with fail
   have X9 := Lib.hid (X7.out.next ((Below.refl _ _).drew))
   have A9 : Hid (Acc w3 w3.heap.size w13.drew 98 3 (.slice va3 5 vc3) 5 (instrC [(1, bk, (k : Int)), (1, bk + 8, x), (2, q1, 0), (2, q2, 0), (3, 0, 0)])) := A3.out.drew
   clear X7 A3
   refine wp_region_held (S := (fun wx => Bx1 w #[.iface 56 (.pointer (some ⟨v.tb 0, 0, none⟩)), .int .u64 off] 29 wx)) (by kernel_rfl) ?_
   change wpAnyH _ _ _ _ _ _ _ _ (World.drew _)
   refine wpAnyH_take (i := 0) (v := (.slice va3 5 vc3)) rfl (by kernel_rfl) (by kernel_rfl) (by kernel_rfl) (fun _ _ _ h => h) (Or.inl ⟨by kernel_rfl, fun w _ => by go_simp⟩) X9.out ?_
   refine wpAnyH_take (i := 1) (v := .pointer (some ⟨w.heap.size, 1, none⟩)) rfl (by kernel_rfl) (by kernel_rfl) (by kernel_rfl) (fun _ _ _ h => h) (Or.inl ⟨by kernel_rfl, fun w _ => by go_simp⟩) X9.out ?_
   refine wpAnyH_take (i := 3) (v := .int .u64 hd) rfl (by kernel_rfl) (by kernel_rfl) (by kernel_rfl) (fun _ _ _ h => h) (Or.inl ⟨by kernel_rfl, fun w _ => by go_simp⟩) X9.out ?_
   refine wpAnyH_take (i := 4) (v := .int .i64 t) rfl (by kernel_rfl) (by kernel_rfl) (by kernel_rfl) (fun _ _ _ h => h) (Or.inl ⟨by kernel_rfl, fun w _ => by go_simp⟩) X9.out ?_
   refine wpAnyH_take (i := 5) (v := .int .u64 k) rfl (by kernel_rfl) (by kernel_rfl) (by kernel_rfl) (fun _ _ _ h => h) (Or.inl ⟨by kernel_rfl, fun w _ => by go_simp⟩) X9.out ?_
   refine wpAnyH_take (i := 2) (v := .int .u64 off) rfl (by kernel_rfl) (by kernel_rfl) (by kernel_rfl) (fun _ _ _ h => h) (Or.inl ⟨by kernel_rfl, fun wx hx => exec_load_cell 27 (.tmp 93) rfl ⟨w.heap.size, 1, none⟩ rfl _ (hx.blk.cell (i := 1) (v := .int .u64 off) rfl) (aggU64 _)⟩) X9.out ?_
   refine wpAnyH_one (i := 6) (by kernel_rfl) rfl rfl (fun K hK => ?_)
   go_simp
   (with_reducible refine (HMK.out _).mono ?_)
   rintro e w6 ⟨rfl, rfl⟩
   go_simp
   refine hK _ _ ⟨X9.out, ?_⟩
   clear hK K
   refine wpAnyH_one (i := 7) (by kernel_rfl) rfl rfl (fun K hK => ?_)
   go_simp
   (with_reducible refine (HCM.out _ _ _ [(1, bk, (k : Int)), (1, bk + 8, x), (2, q1, 0), (2, q2, 0), (3, 0, 0)] (by simp) A9.out).mono ?_)
   rintro e w7 ⟨pv, rfl, ha⟩
   have A := Lib.hid ha
   have X6 := Lib.hid (X3.out.next ha.bel)
   go_simp
   refine hK _ _ ⟨X6.out, ?_⟩
   clear hK K
   refine wpAnyH_one (i := 8) (by kernel_rfl) rfl rfl (fun K hK => ?_)
   go_simp
   refine hK _ _ ⟨X6.out, ?_⟩
   clear hK K
   refine wpAnyH_one (i := 9) (by kernel_rfl) rfl rfl (fun K hK => ?_)
   go_simp
   refine hK _ _ ⟨X6.out, ?_⟩
   clear hK K
   refine wpAnyH_done (by kernel_rfl) ?_ _
   go_wp2_with fail
   go_ret2
   exact ⟨_, rfl, Acc.mid (_wz := w) X3.out.bel A.out⟩
set_option maxRecDepth 100000 in
set_option maxHeartbeats 4000000 in
theorem planPut31_new2 (h : IsDev w v own D) (hb : BOk D off) (k : Nat) (hk : k < 18446744073709551616) (x : Int) (hf : fndI D.cur off k = -1) (s : Nat) (hs : s < 7) (hu : ∀ t, t < s → usedB (bkH D.cur off) t = true) (hn : usedB (bkH D.cur off) s = false)
    (q0 q1 : Nat) (hq0 : 64 * (off / 64) = q0) (hq1 : 64 * (bkKey off s / 64) = q1) (hq2 : 64 * ((bkKey off s + 8) / 64) = q1) (hc : q1 ≠ q0) :
    Calls Try.prog 15 #[.agg #[.iface 56 (.pointer (some ⟨v.tb 0, 0, none⟩)), .int .u64 off], .int .u64 k, .int .u64 x] w (ProgP w (bkNew off s k x (markN (bkH D.cur off) s k)) 0) := by
  obtain ⟨i0, hi0, hz0, hz1, hz2⟩ := info_parts infoInstr
  have I := Lib.hid (And.intro hi0 (And.intro hz0 (And.intro hz1 hz2))); clear hi0 hz0 hz1 hz2
  have HF := Lib.hid (fun wx (hx : IsDev wx v own D) => hf ▸ hb.find hx k hk)
  have hl := hb.hl; have hln := h.wf.le
  have HU := Lib.hid (fun wx t (ht : t < s) => hu t ht ▸ hb.used (w := wx) t (by omega))
  have HN := Lib.hid (fun wx => hn ▸ hb.used (w := wx) s hs)
  have HK := Lib.hid (fun (wx : World) => keyAt_any (w := wx) (v := v) off s hs (by omega))
  have hkb : bkKey off s + 8 < 18446744073709551616 := by unfold bkKey; omega
  have hkw : IntKind.u64.wrap ((bkKey off s : Nat) + 8 : Int) = (bkKey off s : Nat) + 8 := IntWalk.u64_in _ (by omega)
  have HL0 := Lib.hid (fun wx => hq0 ▸ lineOf31_any (w := wx) off (by omega))
  have HL1 := Lib.hid (fun wx => hq1 ▸ lineOf31_any (w := wx) (bkKey off s) (by omega))
  have hl2 := fun wx => hq2 ▸ lineOf31_any (w := wx) (bkKey off s + 8) hkb
  rw [show ((bkKey off s + 8 : Nat) : Int) = (bkKey off s : Nat) + 8 by omega] at hl2
  have HL2 := Lib.hid hl2
  have HMK := Lib.hid (fun wx => marked_any (w := wx) (bkH D.cur off) s k hb.bd hs hk)
  have HCM := Lib.hid (fun wx w0 pv l hl hp => commit31_any (w := wx) (w0 := w0) pv l off ((markN (bkH D.cur off) s k : Nat) : Int) (by omega) hp hl)
  have HE : Hid (bkNew off s k x (markN (bkH D.cur off) s k) = [(1, bkKey off s, (k : Int)), (1, bkKey off s + 8, x), (2, q1, 0), (3, 0, 0)] ++ storesL [(off, ((markN (bkH D.cur off) s k : Nat) : Int))]) := by
    show bkNew _ _ _ _ _ = _
    rw [bkNew_eq, stores1]
    have E := (show ¬ bkKey off s / 64 = off / 64 ∧ ¬ (bkKey off s + 8) / 64 = off / 64 ∧ (bkKey off s + 8) / 64 = bkKey off s / 64 from by omega)
    simp [E, hq0, hq1]
  rw [HE.out]
  clear HE
  have H := Lib.hid h
  have X0 := Lib.hid (Bx1.start w #[.iface 56 (.pointer (some ⟨v.tb 0, 0, none⟩)), .int .u64 off] 29)
  generalize markN (bkH D.cur off) s k = mk at *
  generalize bkH D.cur off = hd at *
  generalize bkKey off s = bk at *
  have hi0 : ((q1 : Int) != (q0 : Int)) = true := by simp; omega
  clear h hf hu hn hl2 hq0 hq1 hq2 hc
  go_enter Try.func15, Try.ntmps15
  go_wp2_with fail
  (with_reducible refine (HF.out _ (H.out.below X0.out.bel)).mono ?_)
  rintro e w1 ⟨rfl, b1⟩
  have X1 := Lib.hid (X0.out.next b1)
  clear b1
  go_wp2_with fail
  go_loop [9] (fun y => ∃ t : Nat, t ≤ s ∧ y = .int .i64 t) (fun y => s - (intOf y).toNat)
  case atStart => exact ⟨0, by omega, rfl⟩
  case round =>
   obtain ⟨t, ht, rfl⟩ := hrel
   have h1 : (t : Int) < 7 := by omega
   by_cases hlt : t < s
   · have HUT := Lib.hid (fun wx => HU.out wx t hlt)
     clear HU
     go_wp2_with fail
     (with_reducible refine (HUT.out _).mono ?_)
     rintro e w2 ⟨rfl, rfl⟩
     go_wp2_with fail
     go_round
     case rel => exact ⟨t + 1, by omega, by go_num⟩
     case measure => simp [intOf]; omega
   obtain rfl : t = s := by omega
   clear HU ht hlt
   go_wp2_with fail
   (with_reducible refine (HN.out _).mono ?_)
   rintro e w2 ⟨rfl, rfl⟩
   have c0 := X1.out.blk.cell (i := 0) (v := .iface 56 (.pointer (some ⟨v.tb 0, 0, none⟩))) rfl
   have c1 := X1.out.blk.cell (i := 1) (v := .int .u64 off) rfl
   go_wp2_with fail
   (with_reducible refine (HK.out _).mono ?_)
   rintro e w3 ⟨rfl, b3⟩
   have X3 := Lib.hid (X1.out.next b3)
   clear b3 c0 c1 X1
   have A0 : Hid (Acc w3 w3.heap.size (w3.alloc (.cells #[.int .u8 1, .int .u64 bk, .int .u64 k, .int .u8 1, .int .u64 ((bk : Int) + 8), .int .u64 x] 98)) 98 3 (.slice (some ⟨w3.heap.size, 0, none⟩) 2 2) 2 (instrC [(1, bk, (k : Int)), (1, bk + 8, x)])) := prg_new w3 [(1, bk, (k : Int)), (1, bk + 8, x)] (by simp) 2 rfl
   have X4 := Lib.hid (X3.out.next (below_alloc w3 (.cells #[.int .u8 1, .int .u64 bk, .int .u64 k, .int .u8 1, .int .u64 ((bk : Int) + 8), .int .u64 x] 98)))
   have c1 := X4.out.blk.cell (i := 1) (v := .int .u64 off) rfl
   go_wp2_with fail
   generalize w3.alloc (.cells #[.int .u8 1, .int .u64 bk, .int .u64 k, .int .u8 1, .int .u64 ((bk : Int) + 8), .int .u64 x] 98) = w4 at *
   (with_reducible refine (HL0.out _).mono ?_)
   rintro e w5 ⟨rfl, rfl⟩
   go_wp2_with fail
   (with_reducible refine (HL1.out _).mono ?_)
   rintro e w5 ⟨rfl, rfl⟩
   go_wp2_with fail
   (with_reducible refine (HL2.out _).mono ?_)
   rintro e w5 ⟨rfl, rfl⟩
   go_wp2_with (at_builtin; refine wpList_append_sl _ rfl _ _ 48 rfl 98 i0 _ 3 24 Try.underlying48 I.out.1 I.out.2.1 I.out.2.2.1 I.out.2.2.2 rfl (by decide) _ _ _ rfl (by exact (A0.out.own.alloc _)) _ 1 (instrC [(2, q1, 0)]) rfl (by exact RdSl.newAt _ _ _ 3 1 _ rfl rfl) (instrC_one _) (by unfold maxLen; omega) (by omega) ?_)
   intro v1 w11 o1 g1 b1 n1
   obtain ⟨va1, vc1, hv1⟩ := o1.slice
   subst hv1
   have A1 := Lib.hid (A0.out.next (m := 1) (below_alloc _ _) o1 g1 b1 (by simp))
   have X5 := Lib.hid (X3.out.next A1.out.bel)
   clear o1 g1 b1 n1
   go_wp2_with (at_builtin; refine wpList_append_sl _ rfl _ _ 48 rfl 98 i0 _ 3 24 Try.underlying48 I.out.1 I.out.2.1 I.out.2.2.1 I.out.2.2.2 rfl (by decide) _ _ _ rfl (by exact (A1.out.own.alloc _)) _ 1 (instrC [(3, 0, 0)]) rfl (by exact RdSl.newAt _ _ _ 3 1 _ rfl rfl) (instrC_one _) (by unfold maxLen; omega) (by omega) ?_)
   intro v2 w12 o1 g1 b1 n1
   obtain ⟨va2, vc2, hv2⟩ := o1.slice
   subst hv2
   have A2 := Lib.hid (A1.out.next (m := 1) (below_alloc _ _) o1 g1 b1 (by simp))
   have X6 := Lib.hid (X3.out.next A2.out.bel)
   clear o1 g1 b1 n1
   go_wp2_with fail
   have X9 := Lib.hid (X6.out.next ((Below.refl _ _).drew))
   have A9 : Hid (Acc w3 w3.heap.size w12.drew 98 3 (.slice va2 4 vc2) 4 (instrC [(1, bk, (k : Int)), (1, bk + 8, x), (2, q1, 0), (3, 0, 0)])) := A2.out.drew
   clear X6 A2
   refine wp_region_held (S := (fun wx => Bx1 w #[.iface 56 (.pointer (some ⟨v.tb 0, 0, none⟩)), .int .u64 off] 29 wx)) (by kernel_rfl) ?_
   change wpAnyH _ _ _ _ _ _ _ _ (World.drew _)
   refine wpAnyH_take (i := 0) (v := (.slice va2 4 vc2)) rfl (by kernel_rfl) (by kernel_rfl) (by kernel_rfl) (fun _ _ _ h => h) (Or.inl ⟨by kernel_rfl, fun w _ => by go_simp⟩) X9.out ?_
   refine wpAnyH_take (i := 1) (v := .pointer (some ⟨w.heap.size, 1, none⟩)) rfl (by kernel_rfl) (by kernel_rfl) (by kernel_rfl) (fun _ _ _ h => h) (Or.inl ⟨by kernel_rfl, fun w _ => by go_simp⟩) X9.out ?_
   refine wpAnyH_take (i := 3) (v := .int .u64 hd) rfl (by kernel_rfl) (by kernel_rfl) (by kernel_rfl) (fun _ _ _ h => h) (Or.inl ⟨by kernel_rfl, fun w _ => by go_simp⟩) X9.out ?_
   refine wpAnyH_take (i := 4) (v := .int .i64 t) rfl (by kernel_rfl) (by kernel_rfl) (by kernel_rfl) (fun _ _ _ h => h) (Or.inl ⟨by kernel_rfl, fun w _ => by go_simp⟩) X9.out ?_
   refine wpAnyH_take (i := 5) (v := .int .u64 k) rfl (by kernel_rfl) (by kernel_rfl) (by kernel_rfl) (fun _ _ _ h => h) (Or.inl ⟨by kernel_rfl, fun w _ => by go_simp⟩) X9.out ?_
   refine wpAnyH_take (i := 2) (v := .int .u64 off) rfl (by kernel_rfl) (by kernel_rfl) (by kernel_rfl) (fun _ _ _ h => h) (Or.inl ⟨by kernel_rfl, fun wx hx => exec_load_cell 27 (.tmp 93) rfl ⟨w.heap.size, 1, none⟩ rfl _ (hx.blk.cell (i := 1) (v := .int .u64 off) rfl) (aggU64 _)⟩) X9.out ?_
   refine wpAnyH_one (i := 6) (by kernel_rfl) rfl rfl (fun K hK => ?_)
   go_simp
   (with_reducible refine (HMK.out _).mono ?_)
   rintro e w6 ⟨rfl, rfl⟩
   go_simp
   refine hK _ _ ⟨X9.out, ?_⟩
   clear hK K
   refine wpAnyH_one (i := 7) (by kernel_rfl) rfl rfl (fun K hK => ?_)
   go_simp
   (with_reducible refine (HCM.out _ _ _ [(1, bk, (k : Int)), (1, bk + 8, x), (2, q1, 0), (3, 0, 0)] (by simp) A9.out).mono ?_)
   rintro e w7 ⟨pv, rfl, ha⟩
   have A := Lib.hid ha
   have X6 := Lib.hid (X3.out.next ha.bel)
   go_simp
   refine hK _ _ ⟨X6.out, ?_⟩
   clear hK K
   refine wpAnyH_one (i := 8) (by kernel_rfl) rfl rfl (fun K hK => ?_)
   go_simp
   refine hK _ _ ⟨X6.out, ?_⟩
   clear hK K
   refine wpAnyH_one (i := 9) (by kernel_rfl) rfl rfl (fun K hK => ?_)
   go_simp
   refine hK _ _ ⟨X6.out, ?_⟩
   clear hK K
   refine wpAnyH_done (by kernel_rfl) ?_ _
   go_wp2_with fail
   go_ret2
   exact ⟨_, rfl, Acc.mid (_wz := w) X3.out.bel A.out⟩
set_option maxRecDepth 100000 in
set_option maxHeartbeats 4000000 in
theorem planPut31_new3 (h : IsDev w v own D) (hb : BOk D off) (k : Nat) (hk : k < 18446744073709551616) (x : Int) (hf : fndI D.cur off k = -1) (s : Nat) (hs : s < 7) (hu : ∀ t, t < s → usedB (bkH D.cur off) t = true) (hn : usedB (bkH D.cur off) s = false)
    (q0 q2 : Nat) (hq0 : 64 * (off / 64) = q0) (hq1 : 64 * (bkKey off s / 64) = q0) (hq2 : 64 * ((bkKey off s + 8) / 64) = q2) (hc : q2 ≠ q0) :
    Calls Try.prog 15 #[.agg #[.iface 56 (.pointer (some ⟨v.tb 0, 0, none⟩)), .int .u64 off], .int .u64 k, .int .u64 x] w (ProgP w (bkNew off s k x (markN (bkH D.cur off) s k)) 0) := by
  obtain ⟨i0, hi0, hz0, hz1, hz2⟩ := info_parts infoInstr
  have I := Lib.hid (And.intro hi0 (And.intro hz0 (And.intro hz1 hz2))); clear hi0 hz0 hz1 hz2
  have HF := Lib.hid (fun wx (hx : IsDev wx v own D) => hf ▸ hb.find hx k hk)
  have hl := hb.hl; have hln := h.wf.le
  have HU := Lib.hid (fun wx t (ht : t < s) => hu t ht ▸ hb.used (w := wx) t (by omega))
  have HN := Lib.hid (fun wx => hn ▸ hb.used (w := wx) s hs)
  have HK := Lib.hid (fun (wx : World) => keyAt_any (w := wx) (v := v) off s hs (by omega))
  have hkb : bkKey off s + 8 < 18446744073709551616 := by unfold bkKey; omega
  have hkw : IntKind.u64.wrap ((bkKey off s : Nat) + 8 : Int) = (bkKey off s : Nat) + 8 := IntWalk.u64_in _ (by omega)
  have HL0 := Lib.hid (fun wx => hq0 ▸ lineOf31_any (w := wx) off (by omega))
  have HL1 := Lib.hid (fun wx => hq1 ▸ lineOf31_any (w := wx) (bkKey off s) (by omega))
  have hl2 := fun wx => hq2 ▸ lineOf31_any (w := wx) (bkKey off s + 8) hkb
  rw [show ((bkKey off s + 8 : Nat) : Int) = (bkKey off s : Nat) + 8 by omega] at hl2
  have HL2 := Lib.hid hl2
  have HMK := Lib.hid (fun wx => marked_any (w := wx) (bkH D.cur off) s k hb.bd hs hk)
  have HCM := Lib.hid (fun wx w0 pv l hl hp => commit31_any (w := wx) (w0 := w0) pv l off ((markN (bkH D.cur off) s k : Nat) : Int) (by omega) hp hl)
  have HE : Hid (bkNew off s k x (markN (bkH D.cur off) s k) = [(1, bkKey off s, (k : Int)), (1, bkKey off s + 8, x), (2, q2, 0), (3, 0, 0)] ++ storesL [(off, ((markN (bkH D.cur off) s k : Nat) : Int))]) := by
    show bkNew _ _ _ _ _ = _
    rw [bkNew_eq, stores1]
    have E := (show bkKey off s / 64 = off / 64 ∧ ¬ (bkKey off s + 8) / 64 = off / 64 ∧ ¬ (bkKey off s + 8) / 64 = bkKey off s / 64 from by omega)
    simp [E, hq0, hq2]
  rw [HE.out]
  clear HE
  have H := Lib.hid h
  have X0 := Lib.hid (Bx1.start w #[.iface 56 (.pointer (some ⟨v.tb 0, 0, none⟩)), .int .u64 off] 29)
  generalize markN (bkH D.cur off) s k = mk at *
  generalize bkH D.cur off = hd at *
  generalize bkKey off s = bk at *
  have hi0 : ((q2 : Int) != (q0 : Int)) = true := by simp; omega
  clear h hf hu hn hl2 hq0 hq1 hq2 hc
  go_enter Try.func15, Try.ntmps15
  go_wp2_with fail
  (with_reducible refine (HF.out _ (H.out.below X0.out.bel)).mono ?_)
  rintro e w1 ⟨rfl, b1⟩
  have X1 := Lib.hid (X0.out.next b1)
  clear b1
  go_wp2_with fail
  go_loop [9] (fun y => ∃ t : Nat, t ≤ s ∧ y = .int .i64 t) (fun y => s - (intOf y).toNat)
  case atStart => exact ⟨0, by omega, rfl⟩
  case round =>
   obtain ⟨t, ht, rfl⟩ := hrel
   have h1 : (t : Int) < 7 := by omega
   by_cases hlt : t < s
   · have HUT := Lib.hid (fun wx => HU.out wx t hlt)
     clear HU
     go_wp2_with fail
     (with_reducible refine (HUT.out _).mono ?_)
     rintro e w2 ⟨rfl, rfl⟩
     go_wp2_with fail
     go_round
     case rel => exact ⟨t + 1, by omega, by go_num⟩
     case measure => simp [intOf]; omega
   obtain rfl : t = s := by omega
   clear HU ht hlt
   go_wp2_with fail
   (with_reducible refine (HN.out _).mono ?_)
   rintro e w2 ⟨rfl, rfl⟩
   have c0 := X1.out.blk.cell (i := 0) (v := .iface 56 (.pointer (some ⟨v.tb 0, 0, none⟩))) rfl
   have c1 := X1.out.blk.cell (i := 1) (v := .int .u64 off) rfl
   go_wp2_with fail
   (with_reducible refine (HK.out _).mono ?_)
   rintro e w3 ⟨rfl, b3⟩
   have X3 := Lib.hid (X1.out.next b3)
   clear b3 c0 c1 X1
   have A0 : Hid (Acc w3 w3.heap.size (w3.alloc (.cells #[.int .u8 1, .int .u64 bk, .int .u64 k, .int .u8 1, .int .u64 ((bk : Int) + 8), .int .u64 x] 98)) 98 3 (.slice (some ⟨w3.heap.size, 0, none⟩) 2 2) 2 (instrC [(1, bk, (k : Int)), (1, bk + 8, x)])) := prg_new w3 [(1, bk, (k : Int)), (1, bk + 8, x)] (by simp) 2 rfl
   have X4 := Lib.hid (X3.out.next (below_alloc w3 (.cells #[.int .u8 1, .int .u64 bk, .int .u64 k, .int .u8 1, .int .u64 ((bk : Int) + 8), .int .u64 x] 98)))
   have c1 := X4.out.blk.cell (i := 1) (v := .int .u64 off) rfl
   go_wp2_with fail
   generalize w3.alloc (.cells #[.int .u8 1, .int .u64 bk, .int .u64 k, .int .u8 1, .int .u64 ((bk : Int) + 8), .int .u64 x] 98) = w4 at *
   (with_reducible refine (HL0.out _).mono ?_)
   rintro e w5 ⟨rfl, rfl⟩
   go_wp2_with fail
   (with_reducible refine (HL1.out _).mono ?_)
   rintro e w5 ⟨rfl, rfl⟩
   go_wp2_with fail
   (with_reducible refine (HL2.out _).mono ?_)
   rintro e w5 ⟨rfl, rfl⟩
   go_wp2_with (at_builtin; refine wpList_append_sl _ rfl _ _ 48 rfl 98 i0 _ 3 24 Try.underlying48 I.out.1 I.out.2.1 I.out.2.2.1 I.out.2.2.2 rfl (by decide) _ _ _ rfl (by exact (A0.out.own.alloc _)) _ 1 (instrC [(2, q2, 0)]) rfl (by exact RdSl.newAt _ _ _ 3 1 _ rfl rfl) (instrC_one _) (by unfold maxLen; omega) (by omega) ?_)
   intro v1 w11 o1 g1 b1 n1
   obtain ⟨va1, vc1, hv1⟩ := o1.slice
   subst hv1
   have A1 := Lib.hid (A0.out.next (m := 1) (below_alloc _ _) o1 g1 b1 (by simp))
   have X5 := Lib.hid (X3.out.next A1.out.bel)
   clear o1 g1 b1 n1
   go_wp2_with (at_builtin; refine wpList_append_sl _ rfl _ _ 48 rfl 98 i0 _ 3 24 Try.underlying48 I.out.1 I.out.2.1 I.out.2.2.1 I.out.2.2.2 rfl (by decide) _ _ _ rfl (by exact (A1.out.own.alloc _)) _ 1 (instrC [(3, 0, 0)]) rfl (by exact RdSl.newAt _ _ _ 3 1 _ rfl rfl) (instrC_one _) (by unfold maxLen; omega) (by omega) ?_)
   intro v2 w12 o1 g1 b1 n1
   obtain ⟨va2, vc2, hv2⟩ := o1.slice
   subst hv2
   have A2 := Lib.hid (A1.out.next (m := 1) (below_alloc _ _) o1 g1 b1 (by simp))
   have X6 := Lib.hid (X3.out.next A2.out.bel)
   clear o1 g1 b1 n1
   go_wp2_with fail
   have X9 := Lib.hid (X6.out.next ((Below.refl _ _).drew))
   have A9 : Hid (Acc w3 w3.heap.size w12.drew 98 3 (.slice va2 4 vc2) 4 (instrC [(1, bk, (k : Int)), (1, bk + 8, x), (2, q2, 0), (3, 0, 0)])) := A2.out.drew
   clear X6 A2
   refine wp_region_held (S := (fun wx => Bx1 w #[.iface 56 (.pointer (some ⟨v.tb 0, 0, none⟩)), .int .u64 off] 29 wx)) (by kernel_rfl) ?_
   change wpAnyH _ _ _ _ _ _ _ _ (World.drew _)
   refine wpAnyH_take (i := 0) (v := (.slice va2 4 vc2)) rfl (by kernel_rfl) (by kernel_rfl) (by kernel_rfl) (fun _ _ _ h => h) (Or.inl ⟨by kernel_rfl, fun w _ => by go_simp⟩) X9.out ?_
   refine wpAnyH_take (i := 1) (v := .pointer (some ⟨w.heap.size, 1, none⟩)) rfl (by kernel_rfl) (by kernel_rfl) (by kernel_rfl) (fun _ _ _ h => h) (Or.inl ⟨by kernel_rfl, fun w _ => by go_simp⟩) X9.out ?_
   refine wpAnyH_take (i := 3) (v := .int .u64 hd) rfl (by kernel_rfl) (by kernel_rfl) (by kernel_rfl) (fun _ _ _ h => h) (Or.inl ⟨by kernel_rfl, fun w _ => by go_simp⟩) X9.out ?_
   refine wpAnyH_take (i := 4) (v := .int .i64 t) rfl (by kernel_rfl) (by kernel_rfl) (by kernel_rfl) (fun _ _ _ h => h) (Or.inl ⟨by kernel_rfl, fun w _ => by go_simp⟩) X9.out ?_
   refine wpAnyH_take (i := 5) (v := .int .u64 k) rfl (by kernel_rfl) (by kernel_rfl) (by kernel_rfl) (fun _ _ _ h => h) (Or.inl ⟨by kernel_rfl, fun w _ => by go_simp⟩) X9.out ?_
   refine wpAnyH_take (i := 2) (v := .int .u64 off) rfl (by kernel_rfl) (by kernel_rfl) (by kernel_rfl) (fun _ _ _ h => h) (Or.inl ⟨by kernel_rfl, fun wx hx => exec_load_cell 27 (.tmp 93) rfl ⟨w.heap.size, 1, none⟩ rfl _ (hx.blk.cell (i := 1) (v := .int .u64 off) rfl) (aggU64 _)⟩) X9.out ?_
   refine wpAnyH_one (i := 6) (by kernel_rfl) rfl rfl (fun K hK => ?_)
   go_simp
   (with_reducible refine (HMK.out _).mono ?_)
   rintro e w6 ⟨rfl, rfl⟩
   go_simp
   refine hK _ _ ⟨X9.out, ?_⟩
   clear hK K
   refine wpAnyH_one (i := 7) (by kernel_rfl) rfl rfl (fun K hK => ?_)
   go_simp
   (with_reducible refine (HCM.out _ _ _ [(1, bk, (k : Int)), (1, bk + 8, x), (2, q2, 0), (3, 0, 0)] (by simp) A9.out).mono ?_)
   rintro e w7 ⟨pv, rfl, ha⟩
   have A := Lib.hid ha
   have X6 := Lib.hid (X3.out.next ha.bel)
   go_simp
   refine hK _ _ ⟨X6.out, ?_⟩
   clear hK K
   refine wpAnyH_one (i := 8) (by kernel_rfl) rfl rfl (fun K hK => ?_)
   go_simp
   refine hK _ _ ⟨X6.out, ?_⟩
   clear hK K
   refine wpAnyH_one (i := 9) (by kernel_rfl) rfl rfl (fun K hK => ?_)
   go_simp
   refine hK _ _ ⟨X6.out, ?_⟩
   clear hK K
   refine wpAnyH_done (by kernel_rfl) ?_ _
   go_wp2_with fail
   go_ret2
   exact ⟨_, rfl, Acc.mid (_wz := w) X3.out.bel A.out⟩
set_option maxRecDepth 100000 in
set_option maxHeartbeats 4000000 in
theorem planPut31_new4 (h : IsDev w v own D) (hb : BOk D off) (k : Nat) (hk : k < 18446744073709551616) (x : Int) (hf : fndI D.cur off k = -1) (s : Nat) (hs : s < 7) (hu : ∀ t, t < s → usedB (bkH D.cur off) t = true) (hn : usedB (bkH D.cur off) s = false)
    (q0 : Nat) (hq0 : 64 * (off / 64) = q0) (hq1 : 64 * (bkKey off s / 64) = q0) (hq2 : 64 * ((bkKey off s + 8) / 64) = q0) :
    Calls Try.prog 15 #[.agg #[.iface 56 (.pointer (some ⟨v.tb 0, 0, none⟩)), .int .u64 off], .int .u64 k, .int .u64 x] w (ProgP w (bkNew off s k x (markN (bkH D.cur off) s k)) 0) := by
  obtain ⟨i0, hi0, hz0, hz1, hz2⟩ := info_parts infoInstr
  have I := Lib.hid (And.intro hi0 (And.intro hz0 (And.intro hz1 hz2))); clear hi0 hz0 hz1 hz2
  have HF := Lib.hid (fun wx (hx : IsDev wx v own D) => hf ▸ hb.find hx k hk)
  have hl := hb.hl; have hln := h.wf.le
  have HU := Lib.hid (fun wx t (ht : t < s) => hu t ht ▸ hb.used (w := wx) t (by omega))
  have HN := Lib.hid (fun wx => hn ▸ hb.used (w := wx) s hs)
  have HK := Lib.hid (fun (wx : World) => keyAt_any (w := wx) (v := v) off s hs (by omega))
  have hkb : bkKey off s + 8 < 18446744073709551616 := by unfold bkKey; omega
  have hkw : IntKind.u64.wrap ((bkKey off s : Nat) + 8 : Int) = (bkKey off s : Nat) + 8 := IntWalk.u64_in _ (by omega)
  have HL0 := Lib.hid (fun wx => hq0 ▸ lineOf31_any (w := wx) off (by omega))
  have HL1 := Lib.hid (fun wx => hq1 ▸ lineOf31_any (w := wx) (bkKey off s) (by omega))
  have hl2 := fun wx => hq2 ▸ lineOf31_any (w := wx) (bkKey off s + 8) hkb
  rw [show ((bkKey off s + 8 : Nat) : Int) = (bkKey off s : Nat) + 8 by omega] at hl2
  have HL2 := Lib.hid hl2
  have HMK := Lib.hid (fun wx => marked_any (w := wx) (bkH D.cur off) s k hb.bd hs hk)
  have HCM := Lib.hid (fun wx w0 pv l hl hp => commit31_any (w := wx) (w0 := w0) pv l off ((markN (bkH D.cur off) s k : Nat) : Int) (by omega) hp hl)
  have HE : Hid (bkNew off s k x (markN (bkH D.cur off) s k) = [(1, bkKey off s, (k : Int)), (1, bkKey off s + 8, x)] ++ storesL [(off, ((markN (bkH D.cur off) s k : Nat) : Int))]) := by
    show bkNew _ _ _ _ _ = _
    rw [bkNew_eq, stores1]
    have E := (show bkKey off s / 64 = off / 64 ∧ (bkKey off s + 8) / 64 = off / 64 ∧ (bkKey off s + 8) / 64 = bkKey off s / 64 from by omega)
    simp [E, hq0]
  rw [HE.out]
  clear HE
  have H := Lib.hid h
  have X0 := Lib.hid (Bx1.start w #[.iface 56 (.pointer (some ⟨v.tb 0, 0, none⟩)), .int .u64 off] 29)
  generalize markN (bkH D.cur off) s k = mk at *
  generalize bkH D.cur off = hd at *
  generalize bkKey off s = bk at *
  clear h hf hu hn hl2 hq0 hq1 hq2
  go_enter Try.func15, Try.ntmps15
  go_wp2_with fail
  (with_reducible refine (HF.out _ (H.out.below X0.out.bel)).mono ?_)
  rintro e w1 ⟨rfl, b1⟩
  have X1 := Lib.hid (X0.out.next b1)
  clear b1
  go_wp2_with fail
  go_loop [9] (fun y => ∃ t : Nat, t ≤ s ∧ y = .int .i64 t) (fun y => s - (intOf y).toNat)
  case atStart => exact ⟨0, by omega, rfl⟩
  case round =>
   obtain ⟨t, ht, rfl⟩ := hrel
   have h1 : (t : Int) < 7 := by omega
   by_cases hlt : t < s
   · have HUT := Lib.hid (fun wx => HU.out wx t hlt)
     clear HU
     go_wp2_with fail
     (with_reducible refine (HUT.out _).mono ?_)
     rintro e w2 ⟨rfl, rfl⟩
     go_wp2_with fail
     go_round
     case rel => exact ⟨t + 1, by omega, by go_num⟩
     case measure => simp [intOf]; omega
   obtain rfl : t = s := by omega
   clear HU ht hlt
   go_wp2_with fail
   (with_reducible refine (HN.out _).mono ?_)
   rintro e w2 ⟨rfl, rfl⟩
   have c0 := X1.out.blk.cell (i := 0) (v := .iface 56 (.pointer (some ⟨v.tb 0, 0, none⟩))) rfl
   have c1 := X1.out.blk.cell (i := 1) (v := .int .u64 off) rfl
   go_wp2_with fail
   (with_reducible refine (HK.out _).mono ?_)
   rintro e w3 ⟨rfl, b3⟩
   have X3 := Lib.hid (X1.out.next b3)
   clear b3 c0 c1 X1
   have A0 : Hid (Acc w3 w3.heap.size (w3.alloc (.cells #[.int .u8 1, .int .u64 bk, .int .u64 k, .int .u8 1, .int .u64 ((bk : Int) + 8), .int .u64 x] 98)) 98 3 (.slice (some ⟨w3.heap.size, 0, none⟩) 2 2) 2 (instrC [(1, bk, (k : Int)), (1, bk + 8, x)])) := prg_new w3 [(1, bk, (k : Int)), (1, bk + 8, x)] (by simp) 2 rfl
   have X4 := Lib.hid (X3.out.next (below_alloc w3 (.cells #[.int .u8 1, .int .u64 bk, .int .u64 k, .int .u8 1, .int .u64 ((bk : Int) + 8), .int .u64 x] 98)))
   have c1 := X4.out.blk.cell (i := 1) (v := .int .u64 off) rfl
   go_wp2_with fail
   generalize w3.alloc (.cells #[.int .u8 1, .int .u64 bk, .int .u64 k, .int .u8 1, .int .u64 ((bk : Int) + 8), .int .u64 x] 98) = w4 at *
   (with_reducible refine (HL0.out _).mono ?_)
   rintro e w5 ⟨rfl, rfl⟩
   go_wp2_with fail
   (with_reducible refine (HL1.out _).mono ?_)
   rintro e w5 ⟨rfl, rfl⟩
   go_wp2_with fail
   (with_reducible refine (HL2.out _).mono ?_)
   rintro e w5 ⟨rfl, rfl⟩
   go_wp2_with fail
   have X9 := Lib.hid (X4.out.next ((Below.refl _ _).drew))
   have A9 : Hid (Acc w3 w3.heap.size w4.drew 98 3 (.slice (some ⟨w3.heap.size, 0, none⟩) 2 2) 2 (instrC [(1, bk, (k : Int)), (1, bk + 8, x)])) := A0.out.drew
   clear X4 A0
   refine wp_region_held (S := (fun wx => Bx1 w #[.iface 56 (.pointer (some ⟨v.tb 0, 0, none⟩)), .int .u64 off] 29 wx)) (by kernel_rfl) ?_
   change wpAnyH _ _ _ _ _ _ _ _ (World.drew _)
   refine wpAnyH_take (i := 0) (v := (.slice (some ⟨w3.heap.size, 0, none⟩) 2 2)) rfl (by kernel_rfl) (by kernel_rfl) (by kernel_rfl) (fun _ _ _ h => h) (Or.inl ⟨by kernel_rfl, fun w _ => by go_simp⟩) X9.out ?_
   refine wpAnyH_take (i := 1) (v := .pointer (some ⟨w.heap.size, 1, none⟩)) rfl (by kernel_rfl) (by kernel_rfl) (by kernel_rfl) (fun _ _ _ h => h) (Or.inl ⟨by kernel_rfl, fun w _ => by go_simp⟩) X9.out ?_
   refine wpAnyH_take (i := 3) (v := .int .u64 hd) rfl (by kernel_rfl) (by kernel_rfl) (by kernel_rfl) (fun _ _ _ h => h) (Or.inl ⟨by kernel_rfl, fun w _ => by go_simp⟩) X9.out ?_
   refine wpAnyH_take (i := 4) (v := .int .i64 t) rfl (by kernel_rfl) (by kernel_rfl) (by kernel_rfl) (fun _ _ _ h => h) (Or.inl ⟨by kernel_rfl, fun w _ => by go_simp⟩) X9.out ?_
   refine wpAnyH_take (i := 5) (v := .int .u64 k) rfl (by kernel_rfl) (by kernel_rfl) (by kernel_rfl) (fun _ _ _ h => h) (Or.inl ⟨by kernel_rfl, fun w _ => by go_simp⟩) X9.out ?_
   refine wpAnyH_take (i := 2) (v := .int .u64 off) rfl (by kernel_rfl) (by kernel_rfl) (by kernel_rfl) (fun _ _ _ h => h) (Or.inl ⟨by kernel_rfl, fun wx hx => exec_load_cell 27 (.tmp 93) rfl ⟨w.heap.size, 1, none⟩ rfl _ (hx.blk.cell (i := 1) (v := .int .u64 off) rfl) (aggU64 _)⟩) X9.out ?_
   refine wpAnyH_one (i := 6) (by kernel_rfl) rfl rfl (fun K hK => ?_)
   go_simp
   (with_reducible refine (HMK.out _).mono ?_)
   rintro e w6 ⟨rfl, rfl⟩
   go_simp
   refine hK _ _ ⟨X9.out, ?_⟩
   clear hK K
   refine wpAnyH_one (i := 7) (by kernel_rfl) rfl rfl (fun K hK => ?_)
   go_simp
   (with_reducible refine (HCM.out _ _ _ [(1, bk, (k : Int)), (1, bk + 8, x)] (by simp) A9.out).mono ?_)
   rintro e w7 ⟨pv, rfl, ha⟩
   have A := Lib.hid ha
   have X6 := Lib.hid (X3.out.next ha.bel)
   go_simp
   refine hK _ _ ⟨X6.out, ?_⟩
   clear hK K
   refine wpAnyH_one (i := 8) (by kernel_rfl) rfl rfl (fun K hK => ?_)
   go_simp
   refine hK _ _ ⟨X6.out, ?_⟩
   clear hK K
   refine wpAnyH_one (i := 9) (by kernel_rfl) rfl rfl (fun K hK => ?_)
   go_simp
   refine hK _ _ ⟨X6.out, ?_⟩
   clear hK K
   refine wpAnyH_done (by kernel_rfl) ?_ _
   go_wp2_with fail
   go_ret2
   exact ⟨_, rfl, Acc.mid (_wz := w) X3.out.bel A.out⟩
theorem planPut31_new (h : IsDev w v own D) (hb : BOk D off) (k : Nat) (hk : k < 18446744073709551616) (x : Int) (hf : fndI D.cur off k = -1) (s : Nat) (hs : s < 7) (hu : ∀ t, t < s → usedB (bkH D.cur off) t = true) (hn : usedB (bkH D.cur off) s = false) :
    Calls Try.prog 15 #[.agg #[.iface 56 (.pointer (some ⟨v.tb 0, 0, none⟩)), .int .u64 off], .int .u64 k, .int .u64 x] w (ProgP w (bkNew off s k x (markN (bkH D.cur off) s k)) 0) := by
  have hk8 : off + 16 ≤ bkKey off s := by unfold bkKey; omega
  by_cases e1 : bkKey off s / 64 = off / 64
  · by_cases e2 : (bkKey off s + 8) / 64 = off / 64
    · exact planPut31_new4 h hb k hk x hf s hs hu hn _ rfl (by rw [e1]) (by rw [e2])
    · exact planPut31_new3 h hb k hk x hf s hs hu hn _ _ rfl (by rw [e1]) rfl (by omega)
  · by_cases e2 : (bkKey off s + 8) / 64 = bkKey off s / 64
    · exact planPut31_new2 h hb k hk x hf s hs hu hn _ _ rfl rfl (by rw [e2]) (by omega)
    · exact planPut31_new1 h hb k hk x hf s hs hu hn _ _ _ rfl rfl rfl (by omega)
theorem planPut31_ok (h : IsDev w v own D) (hb : BOk D off) (hi : BInv D.cur off) (k : Nat) (hk : k < 18446744073709551616) (x : Int) :
    Calls Try.prog 15 #[.agg #[.iface 56 (.pointer (some ⟨v.tb 0, 0, none⟩)), .int .u64 off], .int .u64 k, .int .u64 x] w (ProgP w (putL D.cur off k x) (putE D.cur off k)) := by
  have hr := fnd_ref hi k
  unfold putL putE
  rw [← hr]
  rcases fnd_cases D.cur off k with ⟨e, _⟩ | ⟨s, e, hs, _⟩
  · rw [← hr] at e
    rw [e, if_neg (show ¬ (0:Int) ≤ -1 by decide), if_neg (show ¬ (0:Int) ≤ -1 by decide)]
    rcases fstK_spec (fun s => !usedB (bkH D.cur off) s) 7 with ⟨h1, h2⟩ | ⟨s, h1, h2, h3, h4⟩
    · rw [show freI (bkH D.cur off) = -1 from h1, if_neg (show ¬ (0:Int) ≤ -1 by decide), if_neg (show ¬ (0:Int) ≤ -1 by decide)]
      exact planPut31_full h hb k hk x e (fun t ht => by simpa using h2 t ht)
    · rw [show freI (bkH D.cur off) = (s : Nat) from h1, if_pos (show (0:Int) ≤ (s : Nat) by omega), if_pos (show (0:Int) ≤ (s : Nat) by omega)]
      exact planPut31_new h hb k hk x e s h2 (fun t ht => by simpa using h4 t ht) (by simpa using h3)
  · rw [← hr] at e
    rw [e, if_pos (show (0:Int) ≤ (s : Nat) by omega), if_pos (show (0:Int) ≤ (s : Nat) by omega)]
    exact planPut31_rep h hb k hk x s hs e
theorem planDel31_ok (h : IsDev w v own D) (hb : BOk D off) (hi : BInv D.cur off) (k : Nat) (hk : k < 18446744073709551616) :
    Calls Try.prog 16 #[.agg #[.iface 56 (.pointer (some ⟨v.tb 0, 0, none⟩)), .int .u64 off], .int .u64 k] w (ProgP w (delL D.cur off k) (delE D.cur off k)) := by
  have hr := fnd_ref hi k
  unfold delL delE
  rw [← hr]
  rcases fnd_cases D.cur off k with ⟨e, _⟩ | ⟨s, e, hs, _⟩
  · rw [← hr] at e
    rw [e, if_neg (show ¬ (0:Int) ≤ -1 by decide), if_neg (show ¬ (0:Int) ≤ -1 by decide)]
    exact planDel31_none h hb k hk e
  · rw [← hr] at e
    rw [e, if_pos (show (0:Int) ≤ (s : Nat) by omega), if_pos (show (0:Int) ≤ (s : Nat) by omega)]
    exact planDel31_some h hb k hk s hs e
theorem get31_ok (h : IsDev w v own D) (hb : BOk D off) (hi : BInv D.cur off) (k : Nat) (hk : k < 18446744073709551616) :
    Calls Try.prog 12 #[.agg #[.iface 56 (.pointer (some ⟨v.tb 0, 0, none⟩)), .int .u64 off], .int .u64 k] w fun r w' => r = .returned (.tuple #[.int .u64 (getV D.cur off k), .int .i64 (getE D.cur off k)]) ∧ Below w.heap.size w w' := by
  have hr := fnd_ref hi k
  unfold getV getE
  rw [← hr]
  rcases fnd_cases D.cur off k with ⟨e, _⟩ | ⟨s, e, hs, _⟩
  · rw [← hr] at e
    rw [e, if_neg (show ¬ (0:Int) ≤ -1 by decide), if_neg (show ¬ (0:Int) ≤ -1 by decide)]
    exact get31_none h hb k hk e
  · rw [← hr] at e
    rw [e, if_pos (show (0:Int) ≤ (s : Nat) by omega), if_pos (show (0:Int) ≤ (s : Nat) by omega)]
    exact get31_some h hb k hk s hs e
/-- Programs are well formed. -/
theorem instrOk31 {l : List (Nat × Nat × Int)} (h : InB off l) (h2 : ∀ e ∈ l, 1 ≤ e.1 ∧ e.1 ≤ 3) : instrOk l := fun e he => ⟨(h2 e he).1, (h2 e he).2, (h e he).2.1⟩
end
end Go.Proofs.Ytpkilmnppdbnkaa
