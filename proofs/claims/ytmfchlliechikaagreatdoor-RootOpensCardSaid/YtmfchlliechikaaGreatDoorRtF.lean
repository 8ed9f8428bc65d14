/- The walks of entry, Get and Slot of package root. -/
import Derived.Test.YtmfchlliechikaaGreatDoorRtE
namespace Go.Proofs.YtmfchlliechikaaGreatDoor
open Go.RowKit Go.Maps
attribute [local go_sem ↓] Go.wp_at_zero Go.wp_at_succ

theorem wsn_alloc (w1 : World) (old A : Array Value) : ∃ w2, (w1.alloc (.cells old 122)).setRow w1.heap.size A = w2 ∧ Blk w2 w1.heap.size A 122 ∧ Below w1.heap.size w1 w2 :=
  ⟨_, rfl, setRow_heap _ _ _ A 122 (0, 0) (Blk.new w1 _ _), below_setRow (below_alloc w1 _) (Nat.le_refl _) A⟩
/-- A directory on a device that is on. -/
structure DOn (w : World) (v : DV) (own : Nat → Option Role) (D : Dev) (j b off : Nat) (W : Nat → Nat) : Prop where
  dev : IsDev w v own D
  hj : j < 8
  dir : DirAt w b off (.iface 42 (.pointer (some ⟨v.tb j, 0, none⟩)))
  of : D.off = false
  er : D.err j = 0
  wat : WAt D off W
section
variable {w wx : World} {v : DV} {own : Nat → Option Role} {D : Dev} {j b off : Nat} {W : Nat → Nat}
theorem DOn.next (h : DOn w v own D j b off W) (hb : Below w.heap.size w wx) : DOn wx v own D j b off W := ⟨h.dev.below hb, h.hj, h.dir.next hb, h.of, h.er, h.wat⟩
theorem DOn.le (h : DOn w v own D j b off W) : off ≤ 262144 := by have := h.dev.wf.le; have := h.wat.fit; omega
theorem DOn.load (h : DOn w v own D j b off W) : Calls Tryz.prog 48 #[.pointer (some ⟨b, 0, none⟩)] w fun r w' => r = .returned (.tuple #[.agg (wsN W), .int .i64 0]) ∧ Below w.heap.size w w' := rtload_W h.dev h.hj h.dir h.of h.er h.wat
theorem DOn.has (h : DOn w v own D j b off W) : Calls Tryz.prog 58 #[.pointer (some ⟨b, 0, none⟩)] w fun r w' => r = .returned (.bool false) ∧ w = w' := rtnone_any h.dir
theorem DOn.at' (h : DOn w v own D j b off W) (e k : Nat) (he : e < 16) (hk : k < 4) : Calls Tryz.prog 54 #[.pointer (some ⟨b, 0, none⟩), .int .i64 e, .int .i64 k] w fun r w' => r = .returned (.int .u64 ((off + 32 * e + 8 * k : Nat) : Int)) ∧ w = w' := rtat_any h.dir e k he hk h.le
/-- entry's result box. -/
structure EnB (w : World) (wx : World) : Prop where
  res : Blk wx w.heap.size #[.int .u64 0, .int .u64 0, .int .u64 0, .int .u64 0] 121
  bel : Below w.heap.size w wx
theorem EnB.next {wy : World} (h : EnB w wx) (hb : Below wx.heap.size wx wy) : EnB w wy := ⟨h.res.below hb, h.bel.trans (hb.mono h.bel.size)⟩
theorem EnB.start (w : World) : EnB w (w.alloc (.cells #[.int .u64 0, .int .u64 0, .int .u64 0, .int .u64 0] 121)) := ⟨Blk.new w _ _, below_alloc w _⟩
/-- What entry answers. -/
def EnPost (w : World) (W : Nat → Nat) (l : List UInt8) (r : Ending) (w' : World) : Prop :=
  (∃ e, e < 16 ∧ findE W l = e ∧ r = .returned (.tuple #[.int .i64 (e : Nat), .agg #[.int .u64 (W (4 * e) : Nat), .int .u64 (W (4 * e + 1) : Nat), .int .u64 (W (4 * e + 2) : Nat), .int .u64 (W (4 * e + 3) : Nat)], .int .i64 0]) ∧ Below w.heap.size w w') ∨
  (findE W l = 16 ∧ r = .returned (.tuple #[.int .i64 0, .agg #[.int .u64 0, .int .u64 0, .int .u64 0, .int .u64 0], .int .i64 5]) ∧ Below w.heap.size w w')
set_option maxRecDepth 100000 in
set_option maxHeartbeats 4000000 in
theorem rtentry_nil (s : ByteArray) : Calls Tryz.prog 57 #[.pointer none, .string s] w fun r w' => r = .returned (.tuple #[.int .i64 0, .agg #[.int .u64 0, .int .u64 0, .int .u64 0, .int .u64 0], .int .i64 1]) ∧ Below w.heap.size w w' := by
  have HN := Lib.hid (fun wx => rtnone_nil (w := wx))
  have X := Lib.hid (EnB.start w)
  have s0 := X.out.res.cell (i := 0) (v := .int .u64 0) rfl; have s1 := X.out.res.cell (i := 1) (v := .int .u64 0) rfl; have s2 := X.out.res.cell (i := 2) (v := .int .u64 0) rfl; have s3 := X.out.res.cell (i := 3) (v := .int .u64 0) rfl
  have f0 := X.out.res.frozen 0; have f1 := X.out.res.frozen 1; have f2 := X.out.res.frozen 2; have f3 := X.out.res.frozen 3
  go_enter Tryz.func57, Tryz.ntmps57
  go_wp2_with fail
  (with_reducible refine (HN.out _).mono ?_)
  rintro e w' ⟨rfl, rfl⟩
  go_wp2_with fail
  refine bodyPost_ret (v := .tuple #[.int .i64 0, .agg #[.int .u64 0, .int .u64 0, .int .u64 0, .int .u64 0], .int .i64 1]) (by simp [results, Tryz.results57, go_sem, s0, s1, s2, s3]) rfl ⟨rfl, ?_⟩
  exact X.out.bel
set_option maxRecDepth 100000 in
set_option maxHeartbeats 4000000 in
theorem rtentry_any (h : DOn w v own D j b off W) (s : ByteArray) : Calls Tryz.prog 57 #[.pointer (some ⟨b, 0, none⟩), .string s] w (EnPost w W s.toList) := by
  have H := Lib.hid h
  have HF := Lib.hid (fun wx => rtfind_any (w := wx) W h.wat.bd s)
  have X := Lib.hid (EnB.start w)
  have HIA := Lib.hid (info16n W); have HOA := Lib.hid (wsA_one fun i => ((W i : Nat) : Int)); have HSZ : Hid (64 = (wsN W).size) := (wsN_size W).symm
  have HLD := Lib.hid (fun wx (hx : DOn wx v own D j b off W) => hx.load)
  have HCE : Hid (∀ i, i < 64 → (wsN W)[i]? = some (.int .u64 (W i : Nat))) := fun i hi => wsA_get _ i hi
  have HOA2 : Hid ((wsN W).all (·.oneCell') = true) := HOA.out
  have HV : Hid ((findE W s.toList < 16 ∧ fndV W s.toList = (findE W s.toList : Nat)) ∨ (findE W s.toList = 16 ∧ fndV W s.toList = -1)) := by
    unfold fndV
    have := firstI_le (fun e => usedE W e && nameE W e == s.toList) 16
    by_cases h : findE W s.toList < 16
    · exact .inl ⟨h, if_pos h⟩
    · exact .inr ⟨by unfold findE at *; omega, if_neg h⟩
  generalize fndV W s.toList = rv at *
  generalize hres : findE W s.toList = res at *
  have HRES := Lib.hid hres
  generalize wsN W = A at *
  clear h HOA hres
  go_enter Tryz.func57, Tryz.ntmps57
  go_wp2_with fail
  (with_reducible refine ((H.out.next X.out.bel).has).mono ?_)
  rintro e w' ⟨rfl, rfl⟩
  go_wp2_with fail
  (with_reducible refine (HLD.out _ (H.out.next X.out.bel)).mono ?_)
  rintro e w1 ⟨rfl, b1⟩
  have X1 := Lib.hid (X.out.next b1)
  have hsz1 : w.heap.size < w1.heap.size := X1.out.res.lt
  clear b1 X HLD
  go_wp2_with (first | (refine wpList_store_row rfl 122 (.tmp 7) (.tmp 16) rfl w1.heap.size A rfl rfl 122 _ (Blk.new w1 _ _) HIA.out HSZ.out HOA2.out ?_; obtain ⟨w2, hw2, k2, b2⟩ := wsn_alloc w1 _ A; rw [hw2]; have K2 := Lib.hid k2; have X2 := Lib.hid (X1.out.next b2); clear hw2 k2 b2 X1) | (refine wpList_load_row rfl 122 (.tmp 7) rfl w1.heap.size rfl 122 A (0, 0) _ K2.out Tryz.underlying122 rfl HIA.out ?_))
  (with_reducible refine (HF.out _).mono ?_)
  rintro e w3 ⟨rfl, b3⟩
  have X3 := Lib.hid (X2.out.next b3)
  have K3 := Lib.hid (K2.out.below b3)
  clear b3 HF X2 K2
  generalize w1.heap.size = g at *
  have s0 := X3.out.res.cell (i := 0) (v := .int .u64 0) rfl; have s1 := X3.out.res.cell (i := 1) (v := .int .u64 0) rfl; have s2 := X3.out.res.cell (i := 2) (v := .int .u64 0) rfl; have s3 := X3.out.res.cell (i := 3) (v := .int .u64 0) rfl
  have f0 := X3.out.res.frozen 0; have f1 := X3.out.res.frozen 1; have f2 := X3.out.res.frozen 2; have f3 := X3.out.res.frozen 3
  rcases HV.out with ⟨h1, rfl⟩ | ⟨rfl, rfl⟩
  · have hn : ¬ ((res : Nat) : Int) < 0 := by omega
    have hr16 : ((res : Nat) : Int) < 16 := by omega
    have c0 := K3.out.cell (HCE.out (res * 4) (by omega)); have c1 := K3.out.cell (HCE.out (res * 4 + 1) (by omega)); have c2 := K3.out.cell (HCE.out (res * 4 + 2) (by omega)); have c3 := K3.out.cell (HCE.out (res * 4 + 3) (by omega))
    have HC : Hid (res * 4 = 4 * res) := Nat.mul_comm _ _
    obtain ⟨x0, hx0⟩ : ∃ x, W (res * 4) = x := ⟨_, rfl⟩
    obtain ⟨x1, hx1⟩ : ∃ x, W (res * 4 + 1) = x := ⟨_, rfl⟩
    obtain ⟨x2, hx2⟩ : ∃ x, W (res * 4 + 2) = x := ⟨_, rfl⟩
    obtain ⟨x3, hx3⟩ : ∃ x, W (res * 4 + 3) = x := ⟨_, rfl⟩
    rw [hx0] at c0; rw [hx1] at c1; rw [hx2] at c2; rw [hx3] at c3
    rw [HC.out] at hx0 hx1 hx2 hx3
    have HX := Lib.hid (And.intro hx0 (And.intro hx1 (And.intro hx2 hx3)))
    clear hx0 hx1 hx2 hx3
    go_wp2_with fail
    go_region
    go_wp2_with fail
    have R5 := ((((X3.out.res.set 0 (.int .u64 x0)).set 1 (.int .u64 x1)).set 2 (.int .u64 x2)).set 3 (.int .u64 x3))
    have r0 := R5.cell (i := 0) (v := .int .u64 x0) rfl; have r1 := R5.cell (i := 1) (v := .int .u64 x1) rfl; have r2 := R5.cell (i := 2) (v := .int .u64 x2) rfl; have r3 := R5.cell (i := 3) (v := .int .u64 x3) rfl
    refine bodyPost_ret (v := .tuple #[.int .i64 res, .agg #[.int .u64 x0, .int .u64 x1, .int .u64 x2, .int .u64 x3], .int .i64 0]) (by simp [results, Tryz.results57, go_sem, r0, r1, r2, r3]) rfl (.inl ⟨res, h1, HRES.out, by rw [HX.out.1, HX.out.2.1, HX.out.2.2.1, HX.out.2.2.2], ?_⟩)
    exact ((((X3.out.bel.setCell (Nat.le_refl _) _).setCell (Nat.le_refl _) _).setCell (Nat.le_refl _) _).setCell (Nat.le_refl _) _).drew
  · go_wp2_with fail
    refine bodyPost_ret (v := .tuple #[.int .i64 0, .agg #[.int .u64 0, .int .u64 0, .int .u64 0, .int .u64 0], .int .i64 5]) (by simp [results, Tryz.results57, go_sem, s0, s1, s2, s3]) rfl (.inr ⟨HRES.out, rfl, ?_⟩)
    exact (((X3.out.bel.setCell (Nat.le_refl _) _).setCell (Nat.le_refl _) _).setCell (Nat.le_refl _) _).setCell (Nat.le_refl _) _
/-- What Get and Slot answer. -/
def GtPost (w : World) (W : Nat → Nat) (l : List UInt8) (f : Nat → Nat) (r : Ending) (w' : World) : Prop :=
  (∃ e, e < 16 ∧ findE W l = e ∧ r = .returned (.tuple #[.int .u64 (f e : Nat), .int .i64 0]) ∧ Below w.heap.size w w') ∨
  (findE W l = 16 ∧ r = .returned (.tuple #[.int .u64 0, .int .i64 5]) ∧ Below w.heap.size w w')
set_option maxRecDepth 100000 in
set_option maxHeartbeats 4000000 in
theorem rtGet_any (h : DOn w v own D j b off W) (s : ByteArray) : Calls Tryz.prog 25 #[.pointer (some ⟨b, 0, none⟩), .string s] w (GtPost w W s.toList fun e => W (4 * e + 2)) := by
  have HEN := Lib.hid (rtentry_any h s)
  clear h
  go_enter Tryz.func25, Tryz.ntmps25
  go_wp2_with fail
  (with_reducible refine HEN.out.mono ?_)
  rintro r w1 (⟨e, he, hf, rfl, b1⟩ | ⟨hf, rfl, b1⟩)
  · have HH := Lib.hid (And.intro he hf)
    have B2 := Lib.hid (b1.trans ((below_alloc w1 (.cells #[.int .u64 (W (4 * e) : Nat), .int .u64 (W (4 * e + 1) : Nat), .int .u64 (W (4 * e + 2) : Nat), .int .u64 (W (4 * e + 3) : Nat)] 121)).mono b1.size))
    clear he hf b1
    go_wp2_with fail
    go_ret2
    exact .inl ⟨e, HH.out.1, HH.out.2, rfl, B2.out⟩
  · have HH := Lib.hid hf
    have B2 := Lib.hid (b1.trans ((below_alloc w1 (.cells #[.int .u64 0, .int .u64 0, .int .u64 0, .int .u64 0] 121)).mono b1.size))
    clear hf b1
    go_wp2_with fail
    go_ret2
    exact .inr ⟨HH.out, rfl, B2.out⟩
set_option maxRecDepth 100000 in
set_option maxHeartbeats 4000000 in
theorem rtSlot_any (h : DOn w v own D j b off W) (s : ByteArray) : Calls Tryz.prog 26 #[.pointer (some ⟨b, 0, none⟩), .string s] w (GtPost w W s.toList fun e => off + 32 * e + 16) := by
  have H := Lib.hid h
  have HEN := Lib.hid (rtentry_any h s)
  clear h
  go_enter Tryz.func26, Tryz.ntmps26
  go_wp2_with fail
  (with_reducible refine HEN.out.mono ?_)
  rintro r w1 (⟨e, he, hf, rfl, b1⟩ | ⟨hf, rfl, b1⟩)
  · have HH := Lib.hid (And.intro he hf)
    have B2 := Lib.hid (b1.trans ((below_alloc w1 (.cells #[.int .u64 (W (4 * e) : Nat), .int .u64 (W (4 * e + 1) : Nat), .int .u64 (W (4 * e + 2) : Nat), .int .u64 (W (4 * e + 3) : Nat)] 121)).mono b1.size))
    have hat := (H.out.next B2.out).at' e 2 he (by omega)
    rw [show ((2 : Nat) : Int) = 2 from rfl, show off + 32 * e + 8 * 2 = off + 32 * e + 16 from rfl] at hat
    have HAT := Lib.hid hat
    clear he hf b1 hat
    go_wp2_with fail
    (with_reducible refine HAT.out.mono ?_)
    rintro r w' ⟨rfl, rfl⟩
    go_wp2_with fail
    go_ret2
    exact .inl ⟨e, HH.out.1, HH.out.2, rfl, B2.out⟩
  · have HH := Lib.hid hf
    have B2 := Lib.hid (b1.trans ((below_alloc w1 (.cells #[.int .u64 0, .int .u64 0, .int .u64 0, .int .u64 0] 121)).mono b1.size))
    clear hf b1
    go_wp2_with fail
    go_ret2
    exact .inr ⟨HH.out, rfl, B2.out⟩
set_option maxRecDepth 100000 in
set_option maxHeartbeats 4000000 in
theorem rtGet_nil (s : ByteArray) : Calls Tryz.prog 25 #[.pointer none, .string s] w fun r w' => r = .returned (.tuple #[.int .u64 0, .int .i64 1]) ∧ Below w.heap.size w w' := by
  have HEN := Lib.hid (rtentry_nil (w := w) s)
  go_enter Tryz.func25, Tryz.ntmps25
  go_wp2_with fail
  (with_reducible refine HEN.out.mono ?_)
  rintro r w1 ⟨rfl, b1⟩
  have B2 := Lib.hid (b1.trans ((below_alloc w1 (.cells #[.int .u64 0, .int .u64 0, .int .u64 0, .int .u64 0] 121)).mono b1.size))
  clear b1
  go_wp2_with fail
  go_ret2
  exact ⟨rfl, B2.out⟩
set_option maxRecDepth 100000 in
set_option maxHeartbeats 4000000 in
theorem rtSlot_nil (s : ByteArray) : Calls Tryz.prog 26 #[.pointer none, .string s] w fun r w' => r = .returned (.tuple #[.int .u64 0, .int .i64 1]) ∧ Below w.heap.size w w' := by
  have HEN := Lib.hid (rtentry_nil (w := w) s)
  go_enter Tryz.func26, Tryz.ntmps26
  go_wp2_with fail
  (with_reducible refine HEN.out.mono ?_)
  rintro r w1 ⟨rfl, b1⟩
  have B2 := Lib.hid (b1.trans ((below_alloc w1 (.cells #[.int .u64 0, .int .u64 0, .int .u64 0, .int .u64 0] 121)).mono b1.size))
  clear b1
  go_wp2_with fail
  go_ret2
  exact ⟨rfl, B2.out⟩
end
end Go.Proofs.YtmfchlliechikaaGreatDoor
