/- The law's joint state: a directory on a device and the reference's directory beside it. -/
import Derived.Test.YtmfchlliechikaaGreatDoorRuC
import Derived.Test.YtmfchlliechikaaGreatDoorRtX
import Derived.Test.YtmfchlliechikaaGreatDoorRtY
namespace Go.Proofs.YtmfchlliechikaaGreatDoor
open Go.RowKit Go.Maps

theorem chgS_name {W : Nat → Nat} {l : List UInt8} {p : Nat} (h : nameB l = false) : errS W l p 1280 = 15 ∧ chgS W l p = W := by
  have e : errS W l p 1280 = 15 := by unfold errS; rw [if_pos h]
  exact ⟨e, by unfold chgS; rw [if_neg (by omega)]⟩
theorem chgS_zero {W : Nat → Nat} {l : List UInt8} {p : Nat} (h : nameB l = true) (h0 : p = 0) : errS W l p 1280 = 1 ∧ chgS W l p = W := by
  have e : errS W l p 1280 = 1 := by unfold errS; rw [if_neg (by rw [h]; simp), if_pos h0]
  exact ⟨e, by unfold chgS; rw [if_neg (by omega)]⟩
theorem chgS_eq {W : Nat → Nat} {l : List UInt8} {p : Nat} (h : nameB l = true) (h0 : p ≠ 0) : errS W l p 1280 = errE W l p 1280 ∧ chgS W l p = chgE W l p 1280 := by
  have e : errS W l p 1280 = errE W l p 1280 := by unfold errS; rw [if_neg (by rw [h]; simp), if_neg h0]
  exact ⟨e, by unfold chgS chgE; rw [e]⟩
section
variable {w0 w w' : World} {v : DV} {own : Nat → Option Role} {D : Dev} {b rb x : Nat} {W : Nat → Nat}
/-- A block that is not the device's, nor the directory's, is written. -/
theorem RtSt.other (h : RtSt w0 v own D b W x w) (hu : Upd (· = rb) w w') (hn : own rb = none) (hne : rb ≠ b) (hw : w0.heap.size ≤ rb) : RtSt w0 v own D b W x w' :=
  ⟨h.dev.upd hu (fun k hk e => hk (by rw [e]; exact hn)), h.ob,
    ⟨hu.os.trans h.bel.os, hu.tape.trans h.bel.tape, hu.output.trans h.bel.output, Nat.le_trans h.bel.size hu.size, fun k hk => (hu.block k (Nat.lt_of_lt_of_le hk h.bel.size) (fun e => by have e' : k = rb := e; omega)).trans (h.bel.block k hk)⟩,
    h.cl, h.bd, ⟨h.dir.blk.upd hu (fun e => hne (by have e' : b = rb := e; exact e'.symm))⟩, h.nb⟩
/-- The two directories hold the same words. -/
structure PlR (w0 : World) (v : DV) (own : Nat → Option Role) (D : Dev) (b rb : Nat) (W : Nat → Nat) (x : Nat) (w : World) : Prop where
  st : RtSt w0 v own D b W x w
  rf : RfAt w rb 192 W
  inv : InvW W
  nr : own rb = none
  ne : rb ≠ b
  new : w0.heap.size ≤ rb
theorem PlR.next {wx : World} (h : PlR w0 v own D b rb W x w) (hb : Below w.heap.size w wx) : PlR w0 v own D b rb W x wx := ⟨h.st.next hb, h.rf.next hb, h.inv, h.nr, h.ne, h.new⟩
/-- The directory has been changed, the reference not yet. -/
structure PlM (w0 : World) (v : DV) (own : Nat → Option Role) (D : Dev) (b rb : Nat) (W' W : Nat → Nat) (x : Nat) (w : World) : Prop where
  st : RtSt w0 v own D b W' x w
  rf : RfAt w rb 192 W
  inv : InvW W
  nr : own rb = none
  ne : rb ≠ b
  new : w0.heap.size ≤ rb
theorem PlM.set {W' : Nat → Nat} (h : PlM w0 v own D b rb W' W x w) (hN : Nib w) (s : ByteArray) (p : Nat) (hp : p < 18446744073709551616) (hx : x < 1000000) :
    Calls Tryz.prog 30 #[.pointer (some ⟨b, 0, none⟩), .string s, .int .u64 p] w fun r w' => r = .returned (.int .i64 (errS W' s.toList p 1280 : Nat)) ∧ ∃ own' D', PlM w0 v own' D' b rb (chgS W' s.toList p) W (x + 9) w' ∧ Kb w own w' own' := by
  refine (h.st.set hN s p hp hx).mono ?_
  rintro r w' ⟨e, own', D', h1, hk⟩
  obtain ⟨k1, k2⟩ := hk rb _ _ h.rf.blk h.nr
  exact ⟨e, own', D', ⟨h1, ⟨k1⟩, h.inv, k2, h.ne, h.new⟩, hk⟩
theorem PlM.remove {W' : Nat → Nat} (h : PlM w0 v own D b rb W' W x w) (hN : Nib w) (s : ByteArray) (hx : x < 1000000) :
    Calls Tryz.prog 31 #[.pointer (some ⟨b, 0, none⟩), .string s] w fun r w' => r = .returned (.int .i64 (errE W' s.toList 0 1280 : Nat)) ∧ ∃ own' D', PlM w0 v own' D' b rb (chgE W' s.toList 0 1280) W (x + 9) w' ∧ Kb w own w' own' := by
  refine (h.st.remove hN s hx).mono ?_
  rintro r w' ⟨e, own', D', h1, hk⟩
  obtain ⟨k1, k2⟩ := hk rb _ _ h.rf.blk h.nr
  exact ⟨e, own', D', ⟨h1, ⟨k1⟩, h.inv, k2, h.ne, h.new⟩, hk⟩
theorem PlM.next {W' : Nat → Nat} {wx : World} (h : PlM w0 v own D b rb W' W x w) (hb : Below w.heap.size w wx) : PlM w0 v own D b rb W' W x wx := ⟨h.st.next hb, h.rf.next hb, h.inv, h.nr, h.ne, h.new⟩
theorem PlM.change {W' : Nat → Nat} (h : PlM w0 v own D b rb W' W x w) (s : ByteArray) (p : Nat) (hp : p < 18446744073709551616) :
    Calls Tryz.prog 37 #[.pointer (some ⟨rb, 0, none⟩), .string s, .int .u64 p, .int .u64 1280] w fun r w' => r = .returned (.int .i64 (errE W s.toList p 1280 : Nat)) ∧ PlM w0 v own D b rb W' (chgE W s.toList p 1280) x w' ∧ Upd (· = rb) w w' := by
  refine (r14Change_any h.rf h.inv (by omega) s p hp).mono ?_
  rintro r w' ⟨e, h1, hu⟩
  exact ⟨e, ⟨h.st.other hu h.nr h.ne h.new, h1, invW_chg h.inv, h.nr, h.ne, h.new⟩, hu⟩
theorem PlM.same (h : PlM w0 v own D b rb W W x w) : PlR w0 v own D b rb W x w := ⟨h.st, h.rf, h.inv, h.nr, h.ne, h.new⟩
theorem PlR.mid (h : PlR w0 v own D b rb W x w) : PlM w0 v own D b rb W W x w := ⟨h.st, h.rf, h.inv, h.nr, h.ne, h.new⟩
/-- The start: a directory of zeros, made where the block of the reference is the next. -/
theorem rf_zero (w : World) : RfAt (w.alloc (.cells (rfA 192 (nmR W0) (ptR W0) W0) 38)) w.heap.size 192 W0 := ⟨Blk.new w _ _⟩
theorem invW0 : InvW W0 := invW_zero
end
end Go.Proofs.YtmfchlliechikaaGreatDoor

/- The law's apply where it sets. -/
namespace Go.Proofs.YtmfchlliechikaaGreatDoor
open Go.RowKit Go.Maps
attribute [local go_sem ↓] Go.wp_at_zero Go.wp_at_succ
section
variable {w0 w : World} {v : DV} {own : Nat → Option Role} {D : Dev} {b rb x : Nat} {W : Nat → Nat}
set_option maxRecDepth 100000 in
set_option maxHeartbeats 4000000 in
theorem apply_set (h : PlR w0 v own D b rb W x w) (hN0 : Nib w0) (d : Nat) (hd : d % 3 = 0) (s : ByteArray) (p : Nat) (hp : p < 18446744073709551616) (hx : x < 1000000) :
    Calls Tryz.prog 14 #[.pointer (some ⟨v.db, 0, none⟩), .pointer (some ⟨b, 0, none⟩), .pointer (some ⟨rb, 0, none⟩), .agg #[.int .u8 d, .string s, .int .u64 p]] w fun r w' => r = .returned (.bool true) ∧ ∃ own' D', PlR w0 v own' D' b rb (chgS W s.toList p) (x + 9) w' := by
  have q3 : ((d : Int) % 3 == 0) = true := by simp; omega
  have K0 := Lib.hid (Blk.new w #[.int .u8 d, .string s, .int .u64 p] 40)
  have BX := Lib.hid (below_alloc w (.cells #[.int .u8 d, .string s, .int .u64 p] 40))
  have H := Lib.hid (h.next BX.out)
  have HNW := Lib.hid hN0
  have HN := Lib.hid (hN0.below H.out.st.bel)
  have hrb : rb < w.heap.size := h.rf.blk.lt
  have hnm := fun (wx : World) => r14Name_any (w := wx) s
  clear h hN0 hd
  cases hnb : nameB s.toList
  · rw [hnb] at hnm
    have HNM := Lib.hid hnm
    obtain ⟨e1, e2⟩ := chgS_name (W := W) (p := p) hnb
    have HS := Lib.hid (H.out.mid.set HN.out s p hp hx)
    rw [e1, e2] at HS
    rw [e2]
    clear hnm e1 e2 hnb
    go_enter Tryz.func14, Tryz.ntmps14
    go_wp2_with fail
    (with_reducible refine (HNM.out _).mono ?_)
    rintro r w' ⟨rfl, rfl⟩
    go_wp2_with fail
    (with_reducible refine HS.out.mono ?_)
    rintro r w2 ⟨rfl, own2, D2, h2, _⟩
    have H2 := Lib.hid h2
    clear h2
    go_wp2_with fail
    go_ret
    exact ⟨rfl, own2, D2, H2.out.same⟩
  · rw [hnb] at hnm
    have HNM := Lib.hid hnm
    by_cases h0 : p = 0
    · have q0 : ((p : Int) != 0) = false := by simp [h0]
      obtain ⟨e1, e2⟩ := chgS_zero (W := W) hnb h0
      have HS := Lib.hid (H.out.mid.set HN.out s p hp hx)
      rw [e1, e2] at HS
      rw [e2]
      clear hnm e1 e2 hnb h0
      go_enter Tryz.func14, Tryz.ntmps14
      go_wp2_with fail
      (with_reducible refine (HNM.out _).mono ?_)
      rintro r w' ⟨rfl, rfl⟩
      go_wp2_with fail
      (with_reducible refine HS.out.mono ?_)
      rintro r w2 ⟨rfl, own2, D2, h2, _⟩
      have H2 := Lib.hid h2
      clear h2
      go_wp2_with fail
      go_ret
      exact ⟨rfl, own2, D2, H2.out.same⟩
    · have q0 : ((p : Int) != 0) = true := by simp; omega
      obtain ⟨e1, e2⟩ := chgS_eq (W := W) hnb h0
      have HC := Lib.hid (H.out.mid.change s p hp)
      have HS : Hid (∀ wx, Nib wx → PlM w0 v own D b rb W (chgE W s.toList p 1280) x wx → Calls Tryz.prog 30 #[.pointer (some ⟨b, 0, none⟩), .string s, .int .u64 p] wx fun r w' => r = .returned (.int .i64 (errE W s.toList p 1280 : Nat)) ∧ ∃ own' D', PlM w0 v own' D' b rb (chgE W s.toList p 1280) (chgE W s.toList p 1280) (x + 9) w' ∧ Kb wx own w' own') := fun wx hn hh => by
        have := hh.set hn s p hp hx
        rw [e1, e2] at this
        exact this
      rw [e2]
      obtain ⟨er, her⟩ : ∃ er, errE W s.toList p 1280 = er := ⟨_, rfl⟩
      rw [her] at HC HS
      have qq : ((er : Int) == er) = true := by simp
      clear hnm e1 e2 hnb h0 her
      go_enter Tryz.func14, Tryz.ntmps14
      go_wp2_with fail
      (with_reducible refine (HNM.out _).mono ?_)
      rintro r w' ⟨rfl, rfl⟩
      go_wp2_with fail
      (with_reducible refine HC.out.mono ?_)
      rintro r w2 ⟨rfl, h2, u2⟩
      have H2 := Lib.hid h2
      have K2 := Lib.hid (K0.out.upd u2 (fun e => by have e' : w.heap.size = rb := e; omega))
      have N2 : Hid (Nib w2) := HNW.out.below H2.out.st.bel
      have c0 := K2.out.cell (i := 0) (v := .int .u8 d) rfl
      have c1 := K2.out.cell (i := 1) (v := .string s) rfl
      have c2 := K2.out.cell (i := 2) (v := .int .u64 p) rfl
      clear h2 u2 HC
      go_wp2_with fail
      (with_reducible refine (HS.out _ N2.out H2.out).mono ?_)
      rintro r w3 ⟨rfl, own3, D3, h3, _⟩
      have H3 := Lib.hid h3
      clear h3 c0 c1 c2
      go_wp2_with fail
      go_ret
      exact ⟨rfl, own3, D3, H3.out.same⟩
end
end Go.Proofs.YtmfchlliechikaaGreatDoor

/- The law's apply where it removes. -/
namespace Go.Proofs.YtmfchlliechikaaGreatDoor
open Go.RowKit Go.Maps
attribute [local go_sem ↓] Go.wp_at_zero Go.wp_at_succ
section
variable {w0 w : World} {v : DV} {own : Nat → Option Role} {D : Dev} {b rb x : Nat} {W : Nat → Nat}
set_option maxRecDepth 100000 in
set_option maxHeartbeats 4000000 in
theorem apply_remove (h : PlR w0 v own D b rb W x w) (hN0 : Nib w0) (d : Nat) (hd : d % 3 = 1) (s : ByteArray) (p : Nat) (hx : x < 1000000) :
    Calls Tryz.prog 14 #[.pointer (some ⟨v.db, 0, none⟩), .pointer (some ⟨b, 0, none⟩), .pointer (some ⟨rb, 0, none⟩), .agg #[.int .u8 d, .string s, .int .u64 p]] w fun r w' => r = .returned (.bool true) ∧ ∃ own' D', PlR w0 v own' D' b rb (chgE W s.toList 0 1280) (x + 9) w' := by
  have q3 : ((d : Int) % 3 == 0) = false := by simp; omega
  have q4 : ((d : Int) % 3 == 1) = true := by simp; omega
  have KA : Hid (Blk (w.alloc (.cells #[.int .u8 d, .string s, .int .u64 p] 40)).drew w.heap.size #[.int .u8 d, .string s, .int .u64 p] 40) := Blk.new w #[.int .u8 d, .string s, .int .u64 p] 40
  have HA : Hid (PlM w0 v own D b rb W W x (w.alloc (.cells #[.int .u8 d, .string s, .int .u64 p] 40)).drew) := (h.next ((below_alloc w (.cells #[.int .u8 d, .string s, .int .u64 p] 40)).drew)).mid
  have HNW := Lib.hid hN0
  have HOW : Hid (own w.heap.size = none) := own_no h.st.dev (Nat.le_refl _)
  have hrb : rb < w.heap.size := h.rf.blk.lt
  have HR : Hid (∀ (Wr : Nat → Nat) (wx : World), PlM w0 v own D b rb W Wr x wx → Calls Tryz.prog 31 #[.pointer (some ⟨b, 0, none⟩), .string s] wx fun r w' => r = .returned (.int .i64 (errE W s.toList 0 1280 : Nat)) ∧ ∃ own' D', PlM w0 v own' D' b rb (chgE W s.toList 0 1280) Wr (x + 9) w' ∧ Kb wx own w' own') := fun Wr wx hh => hh.remove (hN0.below hh.st.bel) s hx
  have HC : Hid (∀ (Ws : Nat → Nat) (own' : Nat → Option Role) (D' : Dev) (y : Nat) (wx : World), PlM w0 v own' D' b rb Ws W y wx → Calls Tryz.prog 37 #[.pointer (some ⟨rb, 0, none⟩), .string s, .int .u64 0, .int .u64 1280] wx fun r w' => r = .returned (.int .i64 (errE W s.toList 0 1280 : Nat)) ∧ PlM w0 v own' D' b rb Ws (chgE W s.toList 0 1280) y w' ∧ Upd (· = rb) wx w') := fun Ws own' D' y wx hh => hh.change s 0 (by omega)
  obtain ⟨er, her⟩ : ∃ er, errE W s.toList 0 1280 = er := ⟨_, rfl⟩
  rw [her] at HC HR
  have qq : ((er : Int) == er) = true := by simp
  generalize chgE W s.toList 0 1280 = W2 at *
  clear h hN0 hd her
  go_enter Tryz.func14, Tryz.ntmps14
  go_upto_region 11 with fail
  go_region_with (first | (go_at_call 31; (first | ((with_reducible refine (HR.out _ _ HA.out).mono ?_); rintro r w2 ⟨rfl, own2, D2, h2, k2⟩; have M2 := Lib.hid h2; have K2 := Lib.hid (k2 _ _ _ KA.out HOW.out).1; have c1 := K2.out.cell (i := 1) (v := .string s) rfl; clear h2 k2) | ((with_reducible refine (HR.out _ _ M2.out).mono ?_); rintro r w3 ⟨rfl, own3, D3, h3, _⟩; have M3 := Lib.hid h3; clear h3))) | (go_at_call 37; (first | ((with_reducible refine (HC.out _ _ _ _ _ HA.out).mono ?_); rintro r w2 ⟨rfl, h2, u2⟩; have M2 := Lib.hid h2; have K2 := Lib.hid (KA.out.upd u2 (fun e => by have e' : w.heap.size = rb := e; omega)); have c1 := K2.out.cell (i := 1) (v := .string s) rfl; clear h2 u2) | ((with_reducible refine (HC.out _ _ _ _ _ M2.out).mono ?_); rintro r w3 ⟨rfl, h3, _⟩; have M3 := Lib.hid h3; clear h3))))
  all_goals
    go_wp2_with fail
    go_ret
    exact ⟨rfl, _, _, M3.out.same⟩
end
end Go.Proofs.YtmfchlliechikaaGreatDoor
