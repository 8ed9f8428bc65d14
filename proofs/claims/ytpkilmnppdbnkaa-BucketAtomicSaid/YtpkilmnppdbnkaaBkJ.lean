/- The law's made and awake of layer 31. -/
import Derived.Test.YtpkilmnppdbnkaaBkI
import Derived.Test.YtpkilmnppdbnkaaDevN
import Derived.Laws.CopyOwn
namespace Go.Proofs.Ytpkilmnppdbnkaa
open Go.RowKit

/-- A bucket that was made since w0; its box in the law. -/
structure LSt31 (w0 : World) (v : DV) (own : Nat → Option Role) (D : Dev) (n x : Nat) (C : Nat → Int) (off bl : Nat) (wx : World) : Prop where
  st : BSt wx v own D n x C off
  ob : ∀ k, own k ≠ none → w0.heap.size ≤ k
  box : Blk wx bl #[.iface 56 (.pointer (some ⟨v.tb 0, 0, none⟩)), .int .u64 off] 29
  free : own bl = none
  bel : Below w0.heap.size w0 wx
section
variable {w0 wx wy : World} {v : DV} {own own' : Nat → Option Role} {D D' : Dev} {n x x' : Nat} {C C' : Nat → Int} {off bl : Nat}
theorem LSt31.next (h : LSt31 w0 v own D n x C off bl wx) (hb : Below wx.heap.size wx wy) : LSt31 w0 v own D n x C off bl wy := ⟨h.st.below hb, h.ob, h.box.below hb, h.free, h.bel.trans (hb.mono h.bel.size)⟩
theorem LSt31.start (hs : BSt wx v own D n x C off) (ho : ∀ k, own k ≠ none → w0.heap.size ≤ k) (hb : Below w0.heap.size w0 wx) : LSt31 w0 v own D n x C off wx.heap.size (wx.alloc (.cells #[.iface 56 (.pointer (some ⟨v.tb 0, 0, none⟩)), .int .u64 off] 29)) :=
  ⟨hs.below (below_alloc _ _), ho, Blk.new _ _ _, by
    cases e : own wx.heap.size with
    | none => rfl
    | some r => have := hs.dev.lt wx.heap.size (by rw [e]; simp); omega, hb.trans ((below_alloc _ _).mono hb.size)⟩
theorem LSt31.step (h : LSt31 w0 v own D n x C off bl wx) (hs : BSt wy v own' D' n x' C' off) (ho : ∀ k, k < wx.heap.size → own' k = own k) (hu : Upd (fun k => own k ≠ none) wx wy) : LSt31 w0 v own' D' n x' C' off bl wy := by
  refine ⟨hs, fun k hk => ?_, h.box.upd hu (by rw [h.free]; simp), by rw [ho _ h.box.lt]; exact h.free, ⟨hu.os.trans h.bel.os, hu.tape.trans h.bel.tape, hu.output.trans h.bel.output, Nat.le_trans h.bel.size hu.size, fun k hk => ?_⟩⟩
  · rcases Nat.lt_or_ge k wx.heap.size with hlt | hge
    · rw [ho k hlt] at hk; exact h.ob k hk
    · exact Nat.le_trans h.bel.size hge
  · rw [hu.block k (Nat.lt_of_lt_of_le hk h.bel.size) (fun hk2 => by have := h.ob k hk2; omega)]; exact h.bel.block k hk
end
theorem results_tcc {P : Program} {fn : Func} {u p q : Tmp} {ty ty2 : TypeId} (h : fn.results = #[.tmp u, .cell p ty, .cell q ty2]) (tmps : Array Value) (wx : World) (x : Value) (hx : tmps.getD u undef = x)
    (g : Nat) (t : TypeId) (cs : Array Value) (d : TypeDesc) (hp : tmps.getD p undef = .pointer (some ⟨g, 0, none⟩)) (hg : wx.heap[g]? = some (.cells cs t (0, 0))) (hu : P.underlying ty = some d) (hd : (match d with | .struct _ | .array _ _ => true | _ => false) = true) (hi : (P.info? ty).map (·.size) = some cs.size)
    (g2 : Nat) (t2 : TypeId) (cs2 : Array Value) (d2 : TypeDesc) (hq : tmps.getD q undef = .pointer (some ⟨g2, 0, none⟩)) (hg2 : wx.heap[g2]? = some (.cells cs2 t2 (0, 0))) (hu2 : P.underlying ty2 = some d2) (hd2 : (match d2 with | .struct _ | .array _ _ => true | _ => false) = true) (hi2 : (P.info? ty2).map (·.size) = some cs2.size) :
    (results fn tmps).run P wx = .ok (.tuple #[x, .agg cs, .agg cs2]) wx := by
  have hx2 : tmps[u]?.getD undef = x := by simpa using hx
  have hp2 : tmps[p]?.getD undef = .pointer (some ⟨g, 0, none⟩) := by simpa using hp
  have hq2 : tmps[q]?.getD undef = .pointer (some ⟨g2, 0, none⟩) := by simpa using hq
  simp only [results, h]
  simp [Sem.run_bind, Result.andThen, hx2, hp2, hq2, asAddr, run_loadVar_row wx g t ty cs (0, 0) d hg hu hd hi, run_loadVar_row wx g2 t2 ty2 cs2 (0, 0) d2 hg2 hu2 hd2 hi2]
/-- A reference's bucket of these words. -/
def refC (C : Nat → Int) (off : Nat) : Array Value := #[.int .u64 off, .int .u64 (C (off / 8)), .int .u64 (C (off / 8 + 1)), .int .u64 (C (off / 8 + 2)), .int .u64 (C (off / 8 + 3)), .int .u64 (C (off / 8 + 4)), .int .u64 (C (off / 8 + 5)), .int .u64 (C (off / 8 + 6)), .int .u64 (C (off / 8 + 7)),
  .int .u64 (C (off / 8 + 8)), .int .u64 (C (off / 8 + 9)), .int .u64 (C (off / 8 + 10)), .int .u64 (C (off / 8 + 11)), .int .u64 (C (off / 8 + 12)), .int .u64 (C (off / 8 + 13)), .int .u64 (C (off / 8 + 14)), .int .u64 (C (off / 8 + 15))]
section
variable {w : World}
theorem bAt_any1 (a : Addr) (off : Nat) : Calls Try.prog 14 #[.nilIface, .int .u64 off] w fun r w' => r = .returned (.agg #[.nilIface, .int .u64 off]) ∧ Below w.heap.size w w' := by
  have _ := a
  go_enter Try.func14, Try.ntmps14
  go_wp2_with fail
  refine bodyPost_ret (v := .agg #[.nilIface, .int .u64 off]) (by simp [results, Try.results14, go_sem]) rfl ⟨rfl, ?_⟩
  exact below_alloc _ _
theorem bAt_any2 (a : Addr) (off : Nat) : Calls Try.prog 14 #[.iface 56 (.pointer (some a)), .int .u64 off] w fun r w' => r = .returned (.agg #[.iface 56 (.pointer (some a)), .int .u64 off]) ∧ Below w.heap.size w w' := by
  have _ := a
  go_enter Try.func14, Try.ntmps14
  go_wp2_with fail
  refine bodyPost_ret (v := .agg #[.iface 56 (.pointer (some a)), .int .u64 off]) (by simp [results, Try.results14, go_sem]) rfl ⟨rfl, ?_⟩
  exact below_alloc _ _
def ZB (x : Int) : Array Value := #[.int .u64 x, .int .u64 0, .int .u64 0, .int .u64 0, .int .u64 0, .int .u64 0, .int .u64 0, .int .u64 0, .int .u64 0, .int .u64 0, .int .u64 0, .int .u64 0, .int .u64 0, .int .u64 0, .int .u64 0, .int .u64 0, .int .u64 0]
def Z17 : Array Value := #[.int .u64 0, .int .u64 0, .int .u64 0, .int .u64 0, .int .u64 0, .int .u64 0, .int .u64 0, .int .u64 0, .int .u64 0, .int .u64 0, .int .u64 0, .int .u64 0, .int .u64 0, .int .u64 0, .int .u64 0, .int .u64 0, .int .u64 0]
set_option maxRecDepth 100000 in
set_option maxHeartbeats 4000000 in
theorem made31 (b : Nat) (hb : b < 256) : Calls Try.prog 9 #[.int .u8 b] w fun r w' => ∃ v own, r = .returned (.tuple #[.pointer (some ⟨v.db, 0, none⟩), .agg #[.iface 56 (.pointer (some ⟨v.tb 0, 0, none⟩)), .int .u64 (8 * (b % 17) : Nat)], .agg (refC (fun _ => 0) (8 * (b % 17)))]) ∧
    IsDev w' v own (Dev.fresh 4 (fun _ => 0)) ∧ (∀ k, own k ≠ none → w.heap.size ≤ k) ∧ Below w.heap.size w w' := by
  have hnew := fun (wx : World) => new_any (w := wx) 4 (by omega) (by omega)
  rw [show ((4 : Nat) : Int) = 4 from rfl] at hnew
  have HNW := Lib.hid hnew
  have HAT := Lib.hid (fun wx a => bAt_any2 (w := wx) a (8 * (b % 17)))
  have e1 : (8 * (b % 17) : Nat) = (8 : Int) * ((b : Int) % 17) := by omega
  rw [e1] at HAT ⊢
  have e2 : IntKind.u64.wrap (8 * ((b : Int) % 17)) = 8 * ((b : Int) % 17) := IntWalk.u64_in _ (by omega)
  clear hnew
  go_enter Try.func9, Try.ntmps9
  go_wp2_with fail
  (with_reducible refine (HNW.out _).mono ?_)
  rintro e w1 ⟨v, own, rfl, d1, o1, b1⟩
  have O1 : Hid (∀ k, own k ≠ none → w.heap.size + 1 + 1 ≤ k) := fun k hk => by have := o1 k hk; simp at this; omega
  have K1 : Hid (Blk w1 w.heap.size #[.nilIface, .int .u64 0] 29) := ((Blk.new w _ _).alloc _).below b1
  have K2 : Hid (Blk w1 (w.heap.size + 1) Z17 32) := by
    have := Blk.new (w.alloc (.cells #[.nilIface, .int .u64 0] 29)) Z17 32
    rw [World.size_alloc] at this
    exact this.below b1
  have B1 : Hid (Below w.heap.size w w1) := (below_twice w _ _).trans (b1.mono (by simp; omega))
  have D1 := Lib.hid d1
  have hs1 : Hid (w.heap.size + 1 + 1 ≤ w1.heap.size) := (by have := b1.size; simpa using this : w.heap.size + 1 + 1 ≤ w1.heap.size)
  clear d1 o1 b1 HNW
  go_wp2_with fail
  (with_reducible refine (thread0_any D1.out).mono ?_)
  rintro e w' ⟨rfl, rfl⟩
  go_wp2_with fail
  (with_reducible refine (HAT.out _ _).mono ?_)
  rintro e w2 ⟨rfl, b2⟩
  have L1 := Lib.hid (K1.out.below b2); have L2 := Lib.hid (K2.out.below b2); have D2 := Lib.hid (D1.out.below b2); have B2 := Lib.hid (B1.out.trans (b2.mono B1.out.size)); have hs2 := Lib.hid (Nat.le_trans hs1.out b2.size)
  clear K1 K2 D1 B1 hs1 b2
  have hne : w.heap.size + 1 ≠ w.heap.size := by omega
  obtain ⟨A1, hA1⟩ : ∃ A, A = #[.iface 56 (.pointer (some ⟨v.tb 0, 0, none⟩)), Value.int .u64 (8 * ((b : Int) % 17))] := ⟨_, rfl⟩
  have M1 : Hid (Blk (w2.setRow w.heap.size #[.iface 56 (.pointer (some ⟨v.tb 0, 0, none⟩)), Value.int .u64 (8 * ((b : Int) % 17))]) (w.heap.size + 1) Z17 32) := (setRow_other _ _ _ _ hne).trans L2.out
  go_wp2_with (first | (refine wpList_store_row rfl 29 (.tmp 3) (.tmp 21) rfl w.heap.size _ rfl rfl 29 _ L1.out rfl rfl (by simp [Value.oneCell']) ?_) | (refine wpList_store_row rfl 32 (.tmp 4) (.tmp 23) rfl (w.heap.size + 1) _ rfl rfl 32 Z17 M1.out rfl rfl (by simp [Value.oneCell']) ?_))
  have N1 : Hid (Blk ((w2.setRow w.heap.size #[.iface 56 (.pointer (some ⟨v.tb 0, 0, none⟩)), Value.int .u64 (8 * ((b : Int) % 17))]).setRow (w.heap.size + 1) (ZB (8 * ((b : Int) % 17)))) w.heap.size #[.iface 56 (.pointer (some ⟨v.tb 0, 0, none⟩)), Value.int .u64 (8 * ((b : Int) % 17))] 29) :=
    (setRow_other _ _ _ _ (Ne.symm hne)).trans (setRow_heap _ _ _ _ 29 (0, 0) L1.out)
  have N2 : Hid (Blk ((w2.setRow w.heap.size #[.iface 56 (.pointer (some ⟨v.tb 0, 0, none⟩)), Value.int .u64 (8 * ((b : Int) % 17))]).setRow (w.heap.size + 1) (ZB (8 * ((b : Int) % 17)))) (w.heap.size + 1) (ZB (8 * ((b : Int) % 17))) 32) :=
    setRow_heap _ _ Z17 _ 32 (0, 0) M1.out
  refine bodyPost_ret (v := .tuple #[.pointer (some ⟨v.db, 0, none⟩), .agg #[.iface 56 (.pointer (some ⟨v.tb 0, 0, none⟩)), Value.int .u64 (8 * ((b : Int) % 17))], .agg (ZB (8 * ((b : Int) % 17)))])
    (results_tcc Try.results9 _ _ _ rfl w.heap.size 29 _ _ rfl N1.out Try.underlying29 rfl rfl (w.heap.size + 1) 32 _ _ rfl N2.out Try.underlying32 rfl rfl) rfl ⟨v, own, by simp [ZB, refC], ?_, fun k hk => by have := O1.out k hk; omega, ?_⟩
  · refine D2.out.kept (by simp [World.setRow]) (fun k hk => ?_)
    have := O1.out k hk
    rw [setRow_other _ _ _ _ (by omega), setRow_other _ _ _ _ (by omega)]
  · exact below_setRow (below_setRow B2.out (Nat.le_refl _) _) (by omega) _
def aC1 : Nat → Int := putC (fun _ => 0) 0 5 1
def aC2 : Nat → Int := putC aC1 0 6 2
def aC3 : Nat → Int := delC aC2 0 5
def aC4 : Nat → Int := putC aC3 0 7 3
theorem awk31 : putE (fun _ => 0) 0 5 = 0 ∧ putE aC1 0 6 = 0 ∧ delE aC2 0 5 = 0 ∧ putE aC3 0 7 = 0 ∧ getV aC4 0 7 = 3 ∧ getE aC4 0 7 = 0 ∧ cntN (bkH aC4 0) = 2 ∧ entB aC4 0 7 = [(7, 3), (6, 2)] := by
  decide +kernel
theorem rd_row31 {v : Value} {n B : Nat} {xs : List Value} (h : w.ownsRow B 86 2 v n xs) : RdSl w 2 v n xs := by
  have h2 : OwnSl w 86 2 v n xs := by
    refine ⟨h.1, ?_⟩
    rcases h.2 with h | ⟨g, cap, cur, e, _, hg, h1, h2, h3, h4⟩
    · exact .inl h
    · exact .inr ⟨g, 0, cap, cur, e, hg, h1, h2, by omega, by simpa using h4⟩
  exact h2.rd
theorem BSt.pairs {v : DV} {own : Nat → Option Role} {D : Dev} {n x : Nat} {C : Nat → Int} {off : Nat} (h : BSt w v own D n x C off) : Calls Try.prog 17 #[.agg #[.iface 56 (.pointer (some ⟨v.tb 0, 0, none⟩)), .int .u64 off]] w (PairsPost w (entB C off 7)) := by
  rw [← h.cl.cur]
  exact pairs31_any h.dev h.ok
theorem fresh31 {v : DV} {own : Nat → Option Role} {off : Nat} (h : IsDev w v own (Dev.fresh 4 (fun _ => 0))) (h8 : off % 8 = 0) (hl : off + 128 ≤ 256) : BSt w v own (Dev.fresh 4 (fun _ => 0)) 4 0 (fun _ => 0) off :=
  ⟨h, BCl.fresh (fun _ => by omega) 4, BInv.zero _ (fun _ => by omega) rfl, h8, by omega⟩
set_option maxRecDepth 100000 in
set_option maxHeartbeats 8000000 in
theorem awake31 : Calls Try.prog 8 #[] w fun r w' => r = .returned (.bool true) ∧ Below w.heap.size w w' := by
  obtain ⟨q1, q2, q3, q4, q5, q6, q7, q8⟩ := awk31
  have hmd := fun wx => made31 (w := wx) 0 (by omega)
  rw [show 8 * (0 % 17) = 0 from rfl, show ((0 : Nat) : Int) = 0 from rfl] at hmd
  have HMD := Lib.hid hmd
  have P1 : Hid (∀ wx (v : DV) own D x, BSt wx v own D 4 x (fun _ => 0) 0 → x < 1000 → Calls Try.prog 11 #[.agg #[.iface 56 (.pointer (some ⟨v.tb 0, 0, none⟩)), .int .u64 0], .int .u64 5, .int .u64 1] wx fun r w' => r = .returned (.int .i64 0) ∧ ∃ own' D', BSt w' v own' D' 4 (x + 9) aC1 0 ∧ (∀ k, k < wx.heap.size → own' k = own k) ∧ Upd (fun k => own k ≠ none) wx w') := fun wx v own D x h hx => by
    have := h.put 5 (by omega) 1 (by omega) (by omega)
    rw [q1] at this
    exact this
  have P2 : Hid (∀ wx (v : DV) own D x, BSt wx v own D 4 x aC1 0 → x < 1000 → Calls Try.prog 11 #[.agg #[.iface 56 (.pointer (some ⟨v.tb 0, 0, none⟩)), .int .u64 0], .int .u64 6, .int .u64 2] wx fun r w' => r = .returned (.int .i64 0) ∧ ∃ own' D', BSt w' v own' D' 4 (x + 9) aC2 0 ∧ (∀ k, k < wx.heap.size → own' k = own k) ∧ Upd (fun k => own k ≠ none) wx w') := fun wx v own D x h hx => by
    have := h.put 6 (by omega) 2 (by omega) (by omega)
    rw [q2] at this
    exact this
  have P3 : Hid (∀ wx (v : DV) own D x, BSt wx v own D 4 x aC2 0 → x < 1000 → Calls Try.prog 10 #[.agg #[.iface 56 (.pointer (some ⟨v.tb 0, 0, none⟩)), .int .u64 0], .int .u64 5] wx fun r w' => r = .returned (.int .i64 0) ∧ ∃ own' D', BSt w' v own' D' 4 (x + 9) aC3 0 ∧ (∀ k, k < wx.heap.size → own' k = own k) ∧ Upd (fun k => own k ≠ none) wx w') := fun wx v own D x h hx => by
    have := h.del 5 (by omega) (by omega)
    rw [q3] at this
    exact this
  have P4 : Hid (∀ wx (v : DV) own D x, BSt wx v own D 4 x aC3 0 → x < 1000 → Calls Try.prog 11 #[.agg #[.iface 56 (.pointer (some ⟨v.tb 0, 0, none⟩)), .int .u64 0], .int .u64 7, .int .u64 3] wx fun r w' => r = .returned (.int .i64 0) ∧ ∃ own' D', BSt w' v own' D' 4 (x + 9) aC4 0 ∧ (∀ k, k < wx.heap.size → own' k = own k) ∧ Upd (fun k => own k ≠ none) wx w') := fun wx v own D x h hx => by
    have := h.put 7 (by omega) 3 (by omega) (by omega)
    rw [q4] at this
    exact this
  have P5 : Hid (∀ wx (v : DV) own D x, BSt wx v own D 4 x aC4 0 → Calls Try.prog 12 #[.agg #[.iface 56 (.pointer (some ⟨v.tb 0, 0, none⟩)), .int .u64 0], .int .u64 7] wx fun r w' => r = .returned (.tuple #[.int .u64 3, .int .i64 0]) ∧ Below wx.heap.size wx w') := fun wx v own D x h => by
    have := h.get 7 (by omega)
    rw [q5, q6] at this
    exact this
  have P6 : Hid (∀ wx (v : DV) own D x, BSt wx v own D 4 x aC4 0 → Calls Try.prog 13 #[.agg #[.iface 56 (.pointer (some ⟨v.tb 0, 0, none⟩)), .int .u64 0]] wx fun r w' => r = .returned (.int .i64 2) ∧ Below wx.heap.size wx w') := fun wx v own D x h => by
    have := h.count
    rw [q7] at this
    exact this
  have P7 : Hid (∀ wx (v : DV) own D x, BSt wx v own D 4 x aC4 0 → Calls Try.prog 17 #[.agg #[.iface 56 (.pointer (some ⟨v.tb 0, 0, none⟩)), .int .u64 0]] wx (PairsPost wx [(7, 3), (6, 2)])) := fun wx v own D x h => by
    have := h.pairs
    rw [q8] at this
    exact this
  clear hmd q1 q2 q3 q4 q5 q6 q7 q8
  go_enter Try.func8, Try.ntmps8
  go_wp2_with fail
  (with_reducible refine (HMD.out _).mono ?_)
  rintro e w1 ⟨v, own, rfl, d1, o1, b1⟩
  have S1 := Lib.hid (fresh31 (off := 0) d1 (by omega) (by omega))
  have O1 := Lib.hid o1; have B1 := Lib.hid b1
  clear d1 o1 b1 HMD
  dsimp only [refC]
  go_wp2_with fail
  have S3 : Hid (LSt31 w v own (Dev.fresh 4 (fun _ => 0)) 4 0 (fun _ => 0) 0 w1.heap.size ((w1.alloc (.cells #[.iface 56 (.pointer (some ⟨v.tb 0, 0, none⟩)), .int .u64 0] 29)).alloc (.cells #[.int .u64 0, .int .u64 0, .int .u64 0, .int .u64 0, .int .u64 0, .int .u64 0, .int .u64 0, .int .u64 0, .int .u64 0, .int .u64 0, .int .u64 0, .int .u64 0, .int .u64 0, .int .u64 0, .int .u64 0, .int .u64 0, .int .u64 0] 32))) := (LSt31.start (w0 := w) S1.out O1.out B1.out).next (below_alloc _ (.cells (ZB 0) 32))
  clear S1 O1 B1
  (with_reducible refine (P1.out _ _ _ _ _ S3.out.st (by omega)).mono ?_)
  rintro e w4 ⟨rfl, own4, D4, s, o, u⟩
  have S4 := Lib.hid (S3.out.step s o u)
  clear s o u S3 P1
  have c0 := S4.out.box.cell (i := 0) (v := .iface 56 (.pointer (some ⟨v.tb 0, 0, none⟩))) rfl
  have c1 := S4.out.box.cell (i := 1) (v := .int .u64 0) rfl
  go_wp2_with fail
  clear c0 c1
  (with_reducible refine (P2.out _ _ _ _ _ S4.out.st (by omega)).mono ?_)
  rintro e w5 ⟨rfl, own5, D5, s, o, u⟩
  have S5 := Lib.hid (S4.out.step s o u)
  clear s o u S4 P2
  have c0 := S5.out.box.cell (i := 0) (v := .iface 56 (.pointer (some ⟨v.tb 0, 0, none⟩))) rfl
  have c1 := S5.out.box.cell (i := 1) (v := .int .u64 0) rfl
  go_wp2_with fail
  clear c0 c1
  (with_reducible refine (P3.out _ _ _ _ _ S5.out.st (by omega)).mono ?_)
  rintro e w6 ⟨rfl, own6, D6, s, o, u⟩
  have S6 := Lib.hid (S5.out.step s o u)
  clear s o u S5 P3
  have c0 := S6.out.box.cell (i := 0) (v := .iface 56 (.pointer (some ⟨v.tb 0, 0, none⟩))) rfl
  have c1 := S6.out.box.cell (i := 1) (v := .int .u64 0) rfl
  go_wp2_with fail
  clear c0 c1
  (with_reducible refine (P4.out _ _ _ _ _ S6.out.st (by omega)).mono ?_)
  rintro e w7 ⟨rfl, own7, D7, s, o, u⟩
  have S7 := Lib.hid (S6.out.step s o u)
  clear s o u S6 P4
  have c0 := S7.out.box.cell (i := 0) (v := .iface 56 (.pointer (some ⟨v.tb 0, 0, none⟩))) rfl
  have c1 := S7.out.box.cell (i := 1) (v := .int .u64 0) rfl
  go_wp2_with fail
  clear c0 c1
  (with_reducible refine (P5.out _ _ _ _ _ S7.out.st).mono ?_)
  rintro e w8 ⟨rfl, b8⟩
  have S8 := Lib.hid (S7.out.next b8)
  clear b8 S7 P5
  have c0 := S8.out.box.cell (i := 0) (v := .iface 56 (.pointer (some ⟨v.tb 0, 0, none⟩))) rfl
  have c1 := S8.out.box.cell (i := 1) (v := .int .u64 0) rfl
  go_wp2_with fail
  clear c0 c1
  (with_reducible refine (P6.out _ _ _ _ _ S8.out.st).mono ?_)
  rintro e w9 ⟨rfl, b9⟩
  have S9 := Lib.hid (S8.out.next b9)
  clear b9 S8 P6
  have c0 := S9.out.box.cell (i := 0) (v := .iface 56 (.pointer (some ⟨v.tb 0, 0, none⟩))) rfl
  have c1 := S9.out.box.cell (i := 1) (v := .int .u64 0) rfl
  go_wp2_with fail
  clear c0 c1
  (with_reducible refine (P7.out _ _ _ _ _ S9.out.st).mono ?_)
  rintro e w10 ⟨pv, rfl, hrow, b10⟩
  have S10 := Lib.hid (S9.out.next b10)
  clear S9 P7
  go_wp2_with fail
  have HS := Lib.hid (r31Same_any (w := w10.alloc (.cells #[.int .u64 7, .int .u64 3, .int .u64 6, .int .u64 2] 86)) pv (.slice (some ⟨w10.heap.size, 0, none⟩) 2 2) [(7, 3), (6, 2)] [(7, 3), (6, 2)] ((rd_row31 hrow).alloc _) (RdSl.newAt _ _ _ 2 2 _ rfl rfl) (by simp) (by simp))
  (with_reducible refine HS.out.mono ?_)
  rintro e w11 ⟨rfl, b11⟩
  have S11 := Lib.hid (S10.out.next ((below_alloc _ _).trans (b11.mono (by simp))))
  go_wp2_with fail
  go_ret
  exact ⟨by simp, S11.out.bel⟩
end
end Go.Proofs.Ytpkilmnppdbnkaa
