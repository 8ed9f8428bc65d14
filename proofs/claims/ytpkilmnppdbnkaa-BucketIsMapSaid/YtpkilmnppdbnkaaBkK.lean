/- The walk of BucketErrors. -/
import Derived.Test.YtpkilmnppdbnkaaBkJ
import Derived.Test.YtpkilmnppdbnkaaDevI
namespace Go.Proofs.Ytpkilmnppdbnkaa
open Go.RowKit

theorem isMem31_thr (a : Addr) : IsMem31 (.iface 56 (.pointer (some a))) := .inr ⟨a, rfl⟩
theorem isMem31_nil : IsMem31 .nilIface := .inl rfl
theorem rd_nil31 {w : World} {B n : Nat} {u : Value} (h : w.ownsRow B 86 2 u n []) : ∃ a c, u = .slice a n c := by
  rcases h.2 with ⟨rfl, rfl⟩ | ⟨g, cap, _, rfl, _⟩
  · exact ⟨_, _, rfl⟩
  · exact ⟨_, _, rfl⟩
/-- A device without power: thread 0 has its error. -/
structure Dead (D : Dev) (n : Nat) : Prop where
  off : D.off = true
  err : D.err 0 = 3
  n : D.n = n
theorem Dead.fail {D : Dev} {n : Nat} (h : Dead D n) (e : Int) : D.fail 0 e = D := by unfold Dev.fail; rw [h.err]; rfl
theorem Dead.onD {D : Dev} {n : Nat} (h : Dead D n) (b : Bool) : D.onD 0 b = D := by unfold Dev.onD; rw [h.off]; simp [h.fail]
theorem Dead.step {D : Dev} {n : Nat} (h : Dead D n) (e : Nat × Nat × Int) : D.step 0 e = D := by
  have h1 : ∀ b, D.countedB b = false := fun b => by unfold Dev.countedB Dev.onB; simp [h.off]
  have h2 : ∀ b, D.countedD 0 b = D := fun b => by unfold Dev.countedD Dev.onB; simp [h.off, h.onD]
  unfold Dev.step Dev.store Dev.flush Dev.fence
  simp [h1, h2]
theorem Dead.run {D : Dev} {n : Nat} (h : Dead D n) (l : List (Nat × Nat × Int)) : D.run 0 l = D := by
  induction l with
  | nil => rfl
  | cons e l ih =>
    show (D.step 0 e).run 0 l = D
    rw [h.step]; exact ih
theorem dead_first {D : Dev} {n : Nat} (hn : D.n = n) (ho : D.off = false) (he : D.err 0 = 0) (ha : D.armed = true) (hl : D.left = 0) {o : Nat} (x : Int) (h8 : o % 8 = 0) (hlt : o < 64 * n) (l : List (Nat × Nat × Int)) : Dead (D.run 0 ((1, o, x) :: l)) n := by
  have h1 : D.wordB o = true := by unfold Dev.wordB; rw [decide_eq_true]; rw [hn]; exact ⟨h8, hlt⟩
  have h2 : Dead (D.step 0 (1, o, x)) n := by
    unfold Dev.step Dev.store Dev.countedB Dev.countedD Dev.onB Dev.cut Dev.fail Dev.setErr
    simp [h1, ho, ha, hl, he]
    exact ⟨rfl, by simp, hn⟩
  show Dead ((D.step 0 (1, o, x)).run 0 l) n
  rw [h2.run]; exact h2
theorem fnd0 (off k : Nat) : fstK (rfB (fun _ => 0) off k) 7 = -1 := by
  rcases fnd_cases (fun _ => 0) off k with ⟨e, _⟩ | ⟨s, _, _, h, _⟩
  · exact e
  · rw [show bkH (fun _ => 0) off = 0 from rfl, usedB_zero] at h; cases h
theorem get0 (off k : Nat) : getV (fun _ => 0) off k = 0 ∧ getE (fun _ => 0) off k = 5 := by
  unfold getV getE
  rw [fnd0]
  exact ⟨rfl, rfl⟩
theorem put0 (off k : Nat) (x : Int) : putE (fun _ => 0) off k = 0 ∧ ∃ l, putL (fun _ => 0) off k x = (1, off + 16, (k : Int)) :: l := by
  have h0 : freI (bkH (fun _ => 0) off) = 0 := by show freI 0 = 0; decide +kernel
  unfold putE putL
  rw [fnd0, h0]
  exact ⟨rfl, _, rfl⟩
theorem lost31 (off k n : Nat) (x : Int) (h8 : off % 8 = 0) (hl : off + 128 ≤ 64 * n) : Dead (((Dev.fresh n (fun _ => 0)).arm 0).run 0 (putL (fun _ => 0) off k x)) n := by
  obtain ⟨_, l, e⟩ := put0 off k x
  rw [e]
  exact dead_first (n := n) rfl rfl rfl rfl rfl _ (by omega) (by omega) _
section
variable {w : World}
theorem new_zero31 : Calls Try.prog 18 #[.int .i64 0] w fun r w' => r = .returned (.tuple #[.pointer none, .int .i64 1]) ∧ Below w.heap.size w w' := by
  go_enter Try.func18, Try.ntmps18
  go_wp2_with fail
  go_ret2
  exact ⟨rfl, Below.refl _ _⟩
/-- The first part of the law: a bucket without a memory. -/
structure NoM (w0 : World) (off gb : Nat) (wx : World) : Prop where
  blk : Blk wx gb #[.nilIface, .int .u64 off] 29
  bel : Below w0.heap.size w0 wx
theorem NoM.next {w0 wx wy : World} {off gb : Nat} (h : NoM w0 off gb wx) (hb : Below wx.heap.size wx wy) : NoM w0 off gb wy := ⟨h.blk.below hb, h.bel.trans (hb.mono h.bel.size)⟩
/-- The law's box. -/
structure BBx (w0 : World) (c : Array Value) (gb : Nat) (wx : World) : Prop where
  blk : Blk wx gb c 29
  bel : Below w0.heap.size w0 wx
theorem BBx.next {w0 wx wy : World} {c : Array Value} {gb : Nat} (h : BBx w0 c gb wx) (hb : Below wx.heap.size wx wy) : BBx w0 c gb wy := ⟨h.blk.below hb, h.bel.trans (hb.mono h.bel.size)⟩
set_option maxRecDepth 100000 in
set_option maxHeartbeats 16000000 in
theorem bucketErrors_any (off lines key : Nat) (ho : off < 18446744073709551616) (hln : lines < 256) (hk : key < 18446744073709551616) :
    Calls Try.prog 4 #[.int .u64 off, .int .u8 lines, .int .u64 key] w fun r w' => r = .returned (.bool true) ∧ Below w.heap.size w w' := by
  have HAW := Lib.hid (fun wx => awake31 (w := wx))
  have HAT := Lib.hid (fun wx => bAt_any1 (w := wx) ⟨0, 0, none⟩ off)
  have N1 := Lib.hid (fun wx => get31_err (check31_nil wx off) isMem31_nil (by decide) (key : Int))
  have N2 := Lib.hid (fun wx => planPut31_err (check31_nil wx off) isMem31_nil (by decide) (key : Int) 1)
  have N3 := Lib.hid (fun wx => planDel31_err (check31_nil wx off) isMem31_nil (by decide) (key : Int))
  have N4 := Lib.hid (fun wx => put31_err (check31_nil wx off) isMem31_nil (by decide) (key : Int) 1)
  have N5 := Lib.hid (fun wx => del31_err (check31_nil wx off) isMem31_nil (by decide) (key : Int))
  have N6 := Lib.hid (fun wx => count31_err (check31_nil wx off) isMem31_nil (by decide))
  have N7 := Lib.hid (fun wx => pairs31_nil (w := wx) off)
  go_enter Try.func4, Try.ntmps4
  go_wp2_with fail
  (with_reducible refine (HAW.out _).mono ?_)
  rintro e w1 ⟨rfl, b1⟩
  have B1 := Lib.hid b1
  clear b1 HAW
  go_wp2_with fail
  (with_reducible refine (HAT.out _).mono ?_)
  rintro e w2 ⟨rfl, b2⟩
  have X2 : Hid (NoM w off w2.heap.size (w2.alloc (.cells #[.nilIface, .int .u64 off] 29))) := ⟨Blk.new _ _ _, B1.out.trans ((b2.trans ((below_alloc _ _).mono b2.size)).mono B1.out.size)⟩
  clear b2 HAT B1
  go_wp2_with fail
  (with_reducible refine (N1.out _).mono ?_)
  rintro e w3 ⟨rfl, b3⟩
  have X3 := Lib.hid (X2.out.next b3)
  clear b3 X2 N1
  have c0 := X3.out.blk.cell (i := 0) (v := .nilIface) rfl
  have c1 := X3.out.blk.cell (i := 1) (v := .int .u64 off) rfl
  go_wp2_with fail
  clear c0 c1
  (with_reducible refine (N2.out _).mono ?_)
  rintro e w4 ⟨rfl, b⟩
  have X4 := Lib.hid (X3.out.next b)
  clear b X3 N2
  have c0 := X4.out.blk.cell (i := 0) (v := .nilIface) rfl
  have c1 := X4.out.blk.cell (i := 1) (v := .int .u64 off) rfl
  go_wp2_with fail
  clear c0 c1
  (with_reducible refine (N3.out _).mono ?_)
  rintro e w5 ⟨rfl, b⟩
  have X5 := Lib.hid (X4.out.next b)
  clear b X4 N3
  have c0 := X5.out.blk.cell (i := 0) (v := .nilIface) rfl
  have c1 := X5.out.blk.cell (i := 1) (v := .int .u64 off) rfl
  go_wp2_with fail
  clear c0 c1
  (with_reducible refine (N4.out _).mono ?_)
  rintro e w6 ⟨rfl, b⟩
  have X6 := Lib.hid (X5.out.next b)
  clear b X5 N4
  have c0 := X6.out.blk.cell (i := 0) (v := .nilIface) rfl
  have c1 := X6.out.blk.cell (i := 1) (v := .int .u64 off) rfl
  go_wp2_with fail
  clear c0 c1
  (with_reducible refine (N5.out _).mono ?_)
  rintro e w7 ⟨rfl, b⟩
  have X7 := Lib.hid (X6.out.next b)
  clear b X6 N5
  have c0 := X7.out.blk.cell (i := 0) (v := .nilIface) rfl
  have c1 := X7.out.blk.cell (i := 1) (v := .int .u64 off) rfl
  go_wp2_with fail
  clear c0 c1
  (with_reducible refine (N6.out _).mono ?_)
  rintro e w8 ⟨rfl, b⟩
  have X8 := Lib.hid (X7.out.next b)
  clear b X7 N6
  have c0 := X8.out.blk.cell (i := 0) (v := .nilIface) rfl
  have c1 := X8.out.blk.cell (i := 1) (v := .int .u64 off) rfl
  go_wp2_with fail
  clear c0 c1
  (with_reducible refine (N7.out _).mono ?_)
  rintro e w9 ⟨pv, rfl, hrow, b⟩
  have X9 := Lib.hid (X8.out.next b)
  obtain ⟨pa, pc, rfl⟩ := rd_nil31 hrow
  clear b X8 N7 hrow
  by_cases hz : lines = 0
  · subst hz
    rw [show ((0 : Nat) : Int) = 0 from rfl]
    go_wp2_with fail
    (with_reducible refine new_zero31.mono ?_)
    rintro e w10 ⟨rfl, b⟩
    have X10 := Lib.hid (X9.out.next b)
    clear b X9
    go_wp2_with fail
    go_ret
    exact ⟨rfl, X10.out.bel⟩
  have HNW := Lib.hid (fun (wx : World) => new_any (w := wx) lines (by omega) (by omega))
  go_wp2_with fail
  (with_reducible refine (HNW.out _).mono ?_)
  rintro e w10 ⟨v, own, rfl, d, o, b⟩
  have X10 := Lib.hid (X9.out.next b)
  have D10 := Lib.hid d; have O10 : Hid (∀ k, own k ≠ none → w.heap.size ≤ k) := fun k hk => Nat.le_trans X9.out.bel.size (o k hk)
  clear b d o X9 HNW
  go_wp2_with fail
  (with_reducible refine (thread0_any D10.out).mono ?_)
  rintro e w' ⟨rfl, rfl⟩
  have HAT := Lib.hid (fun wx a => bAt_any2 (w := wx) a off)
  go_wp2_with fail
  (with_reducible refine (HAT.out _ _).mono ?_)
  rintro e w11 ⟨rfl, b⟩
  have X11 := Lib.hid (X10.out.bel.trans (b.mono X10.out.bel.size))
  have D11 := Lib.hid (D10.out.below b)
  clear b HAT X10 D10
  by_cases hgd : off % 8 = 0 ∧ off + 128 ≤ 64 * lines
  · have S11 : Hid (BSt w11 v own (Dev.fresh lines (fun _ => 0)) lines 0 (fun _ => 0) off) := ⟨D11.out, BCl.fresh (fun _ => by omega) lines, BInv.zero _ (fun _ => by omega) rfl, hgd.1, hgd.2⟩
    have S12 := Lib.hid (LSt31.start (w0 := w) S11.out O10.out X11.out)
    have hgt := fun (wx : World) (hx : BSt wx v own (Dev.fresh lines (fun _ => 0)) lines 0 (fun _ => 0) off) => hx.get key hk
    rw [(get0 off key).1, (get0 off key).2] at hgt
    have HGT := Lib.hid hgt
    have hpp := fun (wx : World) (hx : BSt wx v own (Dev.fresh lines (fun _ => 0)) lines 0 (fun _ => 0) off) => hx.planPut key hk 1
    rw [(put0 off key 1).1] at hpp
    have HTry := Lib.hid hpp
    have hsz := fun (wx : World) (hx : IsDev wx v own (Dev.fresh lines (fun _ => 0))) => size_any hx
    rw [show (Dev.fresh lines (fun _ => (0 : Int))).n = lines from rfl] at hsz
    have HSZ := Lib.hid hsz
    have HARM : Hid (∀ (wx : World), IsDev wx v own (Dev.fresh lines (fun _ => 0)) → Calls Try.prog 21 #[.pointer (some ⟨v.db, 0, none⟩), .int .i64 0] wx fun r w' => r = .returned (.tuple #[]) ∧ DPost v own wx ((Dev.fresh lines (fun _ => 0)).arm 0) w') := fun wx hx => arm_any hx 0 (by omega)
    have hbo : BOk ((Dev.fresh lines (fun _ => 0)).arm 0) off := ⟨⟨S11.out.cl.vb.1, S11.out.cl.vb.2⟩, rfl, rfl, hgd.1, hgd.2⟩
    have HPT : Hid (∀ (wx : World) own, IsDev wx v own ((Dev.fresh lines (fun _ => 0)).arm 0) → Calls Try.prog 11 #[.agg #[.iface 56 (.pointer (some ⟨v.tb 0, 0, none⟩)), .int .u64 off], .int .u64 key, .int .u64 1] wx fun r w' => r = .returned (.int .i64 3) ∧ DPost v own wx (((Dev.fresh lines (fun _ => 0)).arm 0).run 0 (putL (fun _ => 0) off key 1)) w') := fun wx own hx => by
      have := put31_any hx hbo (S11.out.inv : BInv (fun _ => 0) off) key hk 1 (by show (0 : Nat) + 1000000 < _; omega)
      rw [show ((Dev.fresh lines (fun _ => 0)).arm 0).cur = fun _ => 0 from rfl, (put0 off key 1).1, if_pos rfl, (lost31 off key lines 1 hgd.1 hgd.2).err] at this
      exact this
    have HDD := Lib.hid (lost31 off key lines 1 hgd.1 hgd.2)
    generalize ((Dev.fresh lines (fun _ => 0)).arm 0).run 0 (putL (fun _ => 0) off key 1) = DZ at *
    generalize (Dev.fresh lines (fun _ => 0)).arm 0 = DA at *
    have G1 := Lib.hid hgd.1; have G2 := Lib.hid hgd.2
    have e1 : ((off : Int) % 8 != 0) = false := by simp; omega
    have e2 : ¬ (lines : Int) * 64 < 128 := by omega
    have e3 : IntKind.u64.wrap ((lines : Int) * 64 - 128) = (lines : Int) * 64 - 128 := IntWalk.u64_in _ (by omega)
    have e4 : ¬ (lines : Int) * 64 - 128 < (off : Int) := by omega
    clear hgt hpp hsz S11 D11 X11 O10 hgd hbo
    have c0 := S12.out.box.cell (i := 0) (v := .iface 56 (.pointer (some ⟨v.tb 0, 0, none⟩))) rfl
    have c1 := S12.out.box.cell (i := 1) (v := .int .u64 off) rfl
    go_wp2_with fail
    clear c0 c1
    (with_reducible refine (HGT.out _ S12.out.st).mono ?_)
    rintro e w13 ⟨rfl, b⟩
    have S13 := Lib.hid (S12.out.next b)
    clear b S12
    have c0 := S13.out.box.cell (i := 0) (v := .iface 56 (.pointer (some ⟨v.tb 0, 0, none⟩))) rfl
    have c1 := S13.out.box.cell (i := 1) (v := .int .u64 off) rfl
    go_wp2_with fail
    clear c0 c1
    (with_reducible refine (HTry.out _ S13.out.st).mono ?_)
    rintro e w14 ⟨pv, rfl, ha⟩
    have S14 := Lib.hid (S13.out.next ha.bel)
    clear ha S13
    go_wp2_with fail
    (with_reducible refine (HSZ.out _ S14.out.st.dev).mono ?_)
    rintro e w' ⟨rfl, rfl⟩
    go_wp2_with fail
    (with_reducible refine (HSZ.out _ S14.out.st.dev).mono ?_)
    rintro e w' ⟨rfl, rfl⟩
    go_wp2_with fail
    (with_reducible refine (HARM.out _ S14.out.st.dev).mono ?_)
    rintro e w15 ⟨rfl, own15, d, o, u⟩
    have D15 := Lib.hid d
    have L15 : Hid (Blk w15 w11.heap.size #[.iface 56 (.pointer (some ⟨v.tb 0, 0, none⟩)), .int .u64 off] 29 ∧ own15 w11.heap.size = none) := ⟨S14.out.box.upd u (by rw [S14.out.free]; simp), by rw [o _ S14.out.box.lt]; exact S14.out.free⟩
    have B15 : Hid (Below w.heap.size w w15 ∧ ∀ k, own15 k ≠ none → w.heap.size ≤ k) := by
      obtain ⟨own2, _, o2, b2⟩ := (show DPost v own w14 DA w15 from ⟨own15, d, o, u⟩).from S14.out.ob S14.out.bel.size
      refine ⟨S14.out.bel.trans b2, fun k hk => ?_⟩
      rcases Nat.lt_or_ge k w14.heap.size with hlt | hge
      · rw [o k hlt] at hk; exact S14.out.ob k hk
      · exact Nat.le_trans S14.out.bel.size hge
    clear d o u S14
    have c0 := L15.out.1.cell (i := 0) (v := .iface 56 (.pointer (some ⟨v.tb 0, 0, none⟩))) rfl
    have c1 := L15.out.1.cell (i := 1) (v := .int .u64 off) rfl
    go_wp2_with fail
    clear c0 c1
    (with_reducible refine (HPT.out _ _ D15.out).mono ?_)
    rintro e w16 ⟨rfl, own16, d, o, u⟩
    have D16 := Lib.hid d
    have L16 : Hid (Blk w16 w11.heap.size #[.iface 56 (.pointer (some ⟨v.tb 0, 0, none⟩)), .int .u64 off] 29) := L15.out.1.upd u (by rw [L15.out.2]; simp)
    have B16 : Hid (Below w.heap.size w w16) := by
      obtain ⟨own2, _, o2, b2⟩ := (show DPost v own15 w15 DZ w16 from ⟨own16, d, o, u⟩).from B15.out.2 B15.out.1.size
      exact B15.out.1.trans b2
    clear d o u L15 B15 D15
    have R16 : Hid (BErr w16 (.iface 56 (.pointer (some ⟨v.tb 0, 0, none⟩))) off 3) := check31_err D16.out off G1.out (by rw [HDD.out.n]; exact G2.out) HDD.out.err
    have c0 := L16.out.cell (i := 0) (v := .iface 56 (.pointer (some ⟨v.tb 0, 0, none⟩))) rfl
    have c1 := L16.out.cell (i := 1) (v := .int .u64 off) rfl
    go_wp2_with fail
    clear c0 c1
    (with_reducible refine (get31_err R16.out (isMem31_thr _) (by decide) (key : Int)).mono ?_)
    rintro e w17 ⟨rfl, b⟩
    have L17 := Lib.hid (L16.out.below b); have R17 := Lib.hid (R16.out.below b); have B17 := Lib.hid (B16.out.trans (b.mono B16.out.size))
    clear b L16 R16 B16
    have c0 := L17.out.cell (i := 0) (v := .iface 56 (.pointer (some ⟨v.tb 0, 0, none⟩))) rfl
    have c1 := L17.out.cell (i := 1) (v := .int .u64 off) rfl
    go_wp2_with fail
    clear c0 c1
    (with_reducible refine (del31_err R17.out (isMem31_thr _) (by decide) (key : Int)).mono ?_)
    rintro e w18 ⟨rfl, b⟩
    have B18 := Lib.hid (B17.out.trans (b.mono B17.out.size))
    clear b
    go_wp2_with fail
    go_ret
    exact ⟨rfl, B18.out⟩
  · have R20 : Hid (BErr (w11.alloc (.cells #[.iface 56 (.pointer (some ⟨v.tb 0, 0, none⟩)), .int .u64 off] 29)) (.iface 56 (.pointer (some ⟨v.tb 0, 0, none⟩))) off 1) := (check31_bad D11.out off ho hgd).alloc _
    have E20 := Lib.hid (D11.out.alloc (.cells #[.iface 56 (.pointer (some ⟨v.tb 0, 0, none⟩)), .int .u64 off] 29))
    have Y20 : Hid (BBx w #[.iface 56 (.pointer (some ⟨v.tb 0, 0, none⟩)), .int .u64 off] w11.heap.size (w11.alloc (.cells #[.iface 56 (.pointer (some ⟨v.tb 0, 0, none⟩)), .int .u64 off] 29))) := ⟨Blk.new _ _ _, X11.out.trans ((below_alloc _ _).mono X11.out.size)⟩
    have P1 := Lib.hid (fun wx (hx : BErr wx (.iface 56 (.pointer (some ⟨v.tb 0, 0, none⟩))) off 1) => get31_err hx (isMem31_thr _) (by decide) (key : Int))
    have P2 := Lib.hid (fun wx (hx : BErr wx (.iface 56 (.pointer (some ⟨v.tb 0, 0, none⟩))) off 1) => planPut31_err hx (isMem31_thr _) (by decide) (key : Int) 1)
    have P3 := Lib.hid (fun wx (hx : BErr wx (.iface 56 (.pointer (some ⟨v.tb 0, 0, none⟩))) off 1) => put31_err hx (isMem31_thr _) (by decide) (key : Int) 1)
    have P4 := Lib.hid (fun wx (hx : BErr wx (.iface 56 (.pointer (some ⟨v.tb 0, 0, none⟩))) off 1) => del31_err hx (isMem31_thr _) (by decide) (key : Int))
    have P5 := Lib.hid (fun wx (hx : BErr wx (.iface 56 (.pointer (some ⟨v.tb 0, 0, none⟩))) off 1) => count31_err hx (isMem31_thr _) (by decide))
    have hsz := fun (wx : World) (hx : IsDev wx v own (Dev.fresh lines (fun _ => 0))) => size_any hx
    rw [show (Dev.fresh lines (fun _ => (0 : Int))).n = lines from rfl] at hsz
    have HSZ := Lib.hid hsz
    generalize Dev.fresh lines (fun _ => (0 : Int)) = DF at *
    clear hsz D11 X11 O10
    by_cases h8 : off % 8 = 0
    · have e1 : ((off : Int) % 8 != 0) = false := by simp; omega
      by_cases h2 : lines < 2
      · have e2 : (lines : Int) * 64 < 128 := by omega
        clear hgd h8 h2
        have c0 := Y20.out.blk.cell (i := 0) (v := .iface 56 (.pointer (some ⟨v.tb 0, 0, none⟩))) rfl
        have c1 := Y20.out.blk.cell (i := 1) (v := .int .u64 off) rfl
        go_wp2_with fail
        clear c0 c1
        (with_reducible refine (P1.out _ R20.out).mono ?_)
        rintro e w21 ⟨rfl, b⟩
        have Y21 := Lib.hid (Y20.out.next b); have R21 := Lib.hid (R20.out.below b); have E21 := Lib.hid (E20.out.below b)
        clear b Y20 R20 E20
        have c0 := Y21.out.blk.cell (i := 0) (v := .iface 56 (.pointer (some ⟨v.tb 0, 0, none⟩))) rfl
        have c1 := Y21.out.blk.cell (i := 1) (v := .int .u64 off) rfl
        go_wp2_with fail
        clear c0 c1
        (with_reducible refine (P2.out _ R21.out).mono ?_)
        rintro e w22 ⟨rfl, b⟩
        have Y22 := Lib.hid (Y21.out.next b); have R22 := Lib.hid (R21.out.below b); have E22 := Lib.hid (E21.out.below b)
        clear b Y21 R21 E21
        go_wp2_with fail
        (with_reducible refine (HSZ.out _ E22.out).mono ?_)
        rintro e w' ⟨rfl, rfl⟩
        have c0 := Y22.out.blk.cell (i := 0) (v := .iface 56 (.pointer (some ⟨v.tb 0, 0, none⟩))) rfl
        have c1 := Y22.out.blk.cell (i := 1) (v := .int .u64 off) rfl
        go_wp2_with fail
        clear c0 c1
        (with_reducible refine (P3.out _ R22.out).mono ?_)
        rintro e w23 ⟨rfl, b⟩
        have Y23 := Lib.hid (Y22.out.next b); have R23 := Lib.hid (R22.out.below b); have E23 := Lib.hid (E22.out.below b)
        clear b Y22 R22 E22
        have c0 := Y23.out.blk.cell (i := 0) (v := .iface 56 (.pointer (some ⟨v.tb 0, 0, none⟩))) rfl
        have c1 := Y23.out.blk.cell (i := 1) (v := .int .u64 off) rfl
        go_wp2_with fail
        clear c0 c1
        (with_reducible refine (P4.out _ R23.out).mono ?_)
        rintro e w24 ⟨rfl, b⟩
        have Y24 := Lib.hid (Y23.out.next b); have R24 := Lib.hid (R23.out.below b); have E24 := Lib.hid (E23.out.below b)
        clear b Y23 R23 E23
        have c0 := Y24.out.blk.cell (i := 0) (v := .iface 56 (.pointer (some ⟨v.tb 0, 0, none⟩))) rfl
        have c1 := Y24.out.blk.cell (i := 1) (v := .int .u64 off) rfl
        go_wp2_with fail
        clear c0 c1
        (with_reducible refine (P5.out _ R24.out).mono ?_)
        rintro e w25 ⟨rfl, b⟩
        have Y25 := Lib.hid (Y24.out.next b); have R25 := Lib.hid (R24.out.below b); have E25 := Lib.hid (E24.out.below b)
        clear b Y24 R24 E24
        go_wp2_with fail
        go_ret
        exact ⟨rfl, Y25.out.bel⟩
      · have e2 : ¬ (lines : Int) * 64 < 128 := by omega
        have e3 : IntKind.u64.wrap ((lines : Int) * 64 - 128) = (lines : Int) * 64 - 128 := IntWalk.u64_in _ (by omega)
        have e4 : (lines : Int) * 64 - 128 < (off : Int) := by omega
        clear hgd h8 h2
        have c0 := Y20.out.blk.cell (i := 0) (v := .iface 56 (.pointer (some ⟨v.tb 0, 0, none⟩))) rfl
        have c1 := Y20.out.blk.cell (i := 1) (v := .int .u64 off) rfl
        go_wp2_with fail
        clear c0 c1
        (with_reducible refine (P1.out _ R20.out).mono ?_)
        rintro e w21 ⟨rfl, b⟩
        have Y21 := Lib.hid (Y20.out.next b); have R21 := Lib.hid (R20.out.below b); have E21 := Lib.hid (E20.out.below b)
        clear b Y20 R20 E20
        have c0 := Y21.out.blk.cell (i := 0) (v := .iface 56 (.pointer (some ⟨v.tb 0, 0, none⟩))) rfl
        have c1 := Y21.out.blk.cell (i := 1) (v := .int .u64 off) rfl
        go_wp2_with fail
        clear c0 c1
        (with_reducible refine (P2.out _ R21.out).mono ?_)
        rintro e w22 ⟨rfl, b⟩
        have Y22 := Lib.hid (Y21.out.next b); have R22 := Lib.hid (R21.out.below b); have E22 := Lib.hid (E21.out.below b)
        clear b Y21 R21 E21
        go_wp2_with fail
        (with_reducible refine (HSZ.out _ E22.out).mono ?_)
        rintro e w' ⟨rfl, rfl⟩
        go_wp2_with fail
        (with_reducible refine (HSZ.out _ E22.out).mono ?_)
        rintro e w' ⟨rfl, rfl⟩
        have c0 := Y22.out.blk.cell (i := 0) (v := .iface 56 (.pointer (some ⟨v.tb 0, 0, none⟩))) rfl
        have c1 := Y22.out.blk.cell (i := 1) (v := .int .u64 off) rfl
        go_wp2_with fail
        clear c0 c1
        (with_reducible refine (P3.out _ R22.out).mono ?_)
        rintro e w23 ⟨rfl, b⟩
        have Y23 := Lib.hid (Y22.out.next b); have R23 := Lib.hid (R22.out.below b); have E23 := Lib.hid (E22.out.below b)
        clear b Y22 R22 E22
        have c0 := Y23.out.blk.cell (i := 0) (v := .iface 56 (.pointer (some ⟨v.tb 0, 0, none⟩))) rfl
        have c1 := Y23.out.blk.cell (i := 1) (v := .int .u64 off) rfl
        go_wp2_with fail
        clear c0 c1
        (with_reducible refine (P4.out _ R23.out).mono ?_)
        rintro e w24 ⟨rfl, b⟩
        have Y24 := Lib.hid (Y23.out.next b); have R24 := Lib.hid (R23.out.below b); have E24 := Lib.hid (E23.out.below b)
        clear b Y23 R23 E23
        have c0 := Y24.out.blk.cell (i := 0) (v := .iface 56 (.pointer (some ⟨v.tb 0, 0, none⟩))) rfl
        have c1 := Y24.out.blk.cell (i := 1) (v := .int .u64 off) rfl
        go_wp2_with fail
        clear c0 c1
        (with_reducible refine (P5.out _ R24.out).mono ?_)
        rintro e w25 ⟨rfl, b⟩
        have Y25 := Lib.hid (Y24.out.next b); have R25 := Lib.hid (R24.out.below b); have E25 := Lib.hid (E24.out.below b)
        clear b Y24 R24 E24
        go_wp2_with fail
        go_ret
        exact ⟨rfl, Y25.out.bel⟩
    · have e1 : ((off : Int) % 8 != 0) = true := by simp; omega
      clear hgd h8
      have c0 := Y20.out.blk.cell (i := 0) (v := .iface 56 (.pointer (some ⟨v.tb 0, 0, none⟩))) rfl
      have c1 := Y20.out.blk.cell (i := 1) (v := .int .u64 off) rfl
      go_wp2_with fail
      clear c0 c1
      (with_reducible refine (P1.out _ R20.out).mono ?_)
      rintro e w21 ⟨rfl, b⟩
      have Y21 := Lib.hid (Y20.out.next b); have R21 := Lib.hid (R20.out.below b); have E21 := Lib.hid (E20.out.below b)
      clear b Y20 R20 E20
      have c0 := Y21.out.blk.cell (i := 0) (v := .iface 56 (.pointer (some ⟨v.tb 0, 0, none⟩))) rfl
      have c1 := Y21.out.blk.cell (i := 1) (v := .int .u64 off) rfl
      go_wp2_with fail
      clear c0 c1
      (with_reducible refine (P2.out _ R21.out).mono ?_)
      rintro e w22 ⟨rfl, b⟩
      have Y22 := Lib.hid (Y21.out.next b); have R22 := Lib.hid (R21.out.below b); have E22 := Lib.hid (E21.out.below b)
      clear b Y21 R21 E21
      have c0 := Y22.out.blk.cell (i := 0) (v := .iface 56 (.pointer (some ⟨v.tb 0, 0, none⟩))) rfl
      have c1 := Y22.out.blk.cell (i := 1) (v := .int .u64 off) rfl
      go_wp2_with fail
      clear c0 c1
      (with_reducible refine (P3.out _ R22.out).mono ?_)
      rintro e w23 ⟨rfl, b⟩
      have Y23 := Lib.hid (Y22.out.next b); have R23 := Lib.hid (R22.out.below b); have E23 := Lib.hid (E22.out.below b)
      clear b Y22 R22 E22
      have c0 := Y23.out.blk.cell (i := 0) (v := .iface 56 (.pointer (some ⟨v.tb 0, 0, none⟩))) rfl
      have c1 := Y23.out.blk.cell (i := 1) (v := .int .u64 off) rfl
      go_wp2_with fail
      clear c0 c1
      (with_reducible refine (P4.out _ R23.out).mono ?_)
      rintro e w24 ⟨rfl, b⟩
      have Y24 := Lib.hid (Y23.out.next b); have R24 := Lib.hid (R23.out.below b); have E24 := Lib.hid (E23.out.below b)
      clear b Y23 R23 E23
      have c0 := Y24.out.blk.cell (i := 0) (v := .iface 56 (.pointer (some ⟨v.tb 0, 0, none⟩))) rfl
      have c1 := Y24.out.blk.cell (i := 1) (v := .int .u64 off) rfl
      go_wp2_with fail
      clear c0 c1
      (with_reducible refine (P5.out _ R24.out).mono ?_)
      rintro e w25 ⟨rfl, b⟩
      have Y25 := Lib.hid (Y24.out.next b); have R25 := Lib.hid (R24.out.below b); have E25 := Lib.hid (E24.out.below b)
      clear b Y24 R24 E24
      go_wp2_with fail
      go_ret
      exact ⟨rfl, Y25.out.bel⟩
end
end Go.Proofs.Ytpkilmnppdbnkaa
