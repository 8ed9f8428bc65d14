/- The walks of load on a device whose thread has an error, and of find of package root. -/
import Derived.Test.YtmfchlliechikaaGreatDoorRtD
namespace Go.Proofs.YtmfchlliechikaaGreatDoor
open Go.RowKit Go.Maps
attribute [local go_sem ↓] Go.wp_at_zero Go.wp_at_succ

/-- The words of a directory as cells. -/
def wsN (W : Nat → Nat) : Array Value := wsA fun i => (W i : Nat)
theorem idx16 (W : Nat → Nat) (e : Nat) (he : e < 16) (wx : World) : (Instr.index 122 (.agg (wsN W)) (.int .i64 (e : Nat))).run Tryz.prog wx = .ok (.agg #[.int .u64 (W (4 * e) : Nat), .int .u64 (W (4 * e + 1) : Nat), .int .u64 (W (4 * e + 2) : Nat), .int .u64 (W (4 * e + 3) : Nat)]) wx := by
  obtain rfl | rfl | rfl | rfl | rfl | rfl | rfl | rfl | rfl | rfl | rfl | rfl | rfl | rfl | rfl | rfl : e = 0 ∨ e = 1 ∨ e = 2 ∨ e = 3 ∨ e = 4 ∨ e = 5 ∨ e = 6 ∨ e = 7 ∨ e = 8 ∨ e = 9 ∨ e = 10 ∨ e = 11 ∨ e = 12 ∨ e = 13 ∨ e = 14 ∨ e = 15 := by omega
  all_goals kernel_rfl
section
variable {w : World} {v : DV} {own : Nat → Option Role} {D : Dev} {j : Nat}
theorem info16n (W : Nat → Nat) : (Tryz.prog.info? 122).map (·.size) = some (wsN W).size := info16w _
theorem wsN_size (W : Nat → Nat) : (wsN W).size = 64 := wsA_size _
/-- The words of a directory on a device. -/
structure WAt (D : Dev) (off : Nat) (W : Nat → Nat) : Prop where
  at8 : off % 8 = 0
  fit : off + 512 ≤ 64 * D.n
  cur : ∀ i, i < 64 → D.cur (off / 8 + i) = (W i : Nat)
  bd : ∀ i, W i < 18446744073709551616
theorem rtload_W (h : IsDev w v own D) (hj : j < 8) {b off : Nat} {W : Nat → Nat} (hd : DirAt w b off (.iface 42 (.pointer (some ⟨v.tb j, 0, none⟩)))) (hof : D.off = false) (he : D.err j = 0) (hW : WAt D off W) :
    Calls Tryz.prog 48 #[.pointer (some ⟨b, 0, none⟩)] w fun r w' => r = .returned (.tuple #[.agg (wsN W), .int .i64 0]) ∧ Below w.heap.size w w' := by
  have := rtload_any h hj hd hof he hW.at8 hW.fit
  rw [wsA_congr (g := fun i => ((W i : Nat) : Int)) (fun i hi => hW.cur i hi)] at this
  exact this
set_option maxRecDepth 100000 in
set_option maxHeartbeats 8000000 in
theorem rtload_err (h : IsDev w v own D) (hj : j < 8) {b off : Nat} (hd : DirAt w b off (.iface 42 (.pointer (some ⟨v.tb j, 0, none⟩)))) (he : D.err j ≠ 0) :
    Calls Tryz.prog 48 #[.pointer (some ⟨b, 0, none⟩)] w fun r w' => r = .returned (.tuple #[.agg (wsA fun _ => 0), .int .i64 (D.err j)]) ∧ Below w.heap.size w w' := by
  have hm2 := meth_Err ⟨v.tb j, 0, none⟩
  have H := Lib.hid h; have HD := Lib.hid hd
  have HER := Lib.hid (fun wx (hx : IsDev wx v own D) => err_any hx hj)
  have S0 : Hid (RtL w (fun _ => 0) 0 ((w.alloc (.cells #[.int .u64 0, .int .u64 0, .int .u64 0, .int .u64 0, .int .u64 0, .int .u64 0, .int .u64 0, .int .u64 0, .int .u64 0, .int .u64 0, .int .u64 0, .int .u64 0, .int .u64 0, .int .u64 0, .int .u64 0, .int .u64 0, .int .u64 0, .int .u64 0, .int .u64 0, .int .u64 0, .int .u64 0, .int .u64 0, .int .u64 0, .int .u64 0, .int .u64 0, .int .u64 0, .int .u64 0, .int .u64 0, .int .u64 0, .int .u64 0, .int .u64 0, .int .u64 0, .int .u64 0, .int .u64 0, .int .u64 0, .int .u64 0, .int .u64 0, .int .u64 0, .int .u64 0, .int .u64 0, .int .u64 0, .int .u64 0, .int .u64 0, .int .u64 0, .int .u64 0, .int .u64 0, .int .u64 0, .int .u64 0, .int .u64 0, .int .u64 0, .int .u64 0, .int .u64 0, .int .u64 0, .int .u64 0, .int .u64 0, .int .u64 0, .int .u64 0, .int .u64 0, .int .u64 0, .int .u64 0, .int .u64 0, .int .u64 0, .int .u64 0, .int .u64 0] 122)).alloc (.cells #[.int .u64 0, .int .u64 0, .int .u64 0, .int .u64 0, .int .u64 0, .int .u64 0, .int .u64 0, .int .u64 0, .int .u64 0, .int .u64 0, .int .u64 0, .int .u64 0, .int .u64 0, .int .u64 0, .int .u64 0, .int .u64 0, .int .u64 0, .int .u64 0, .int .u64 0, .int .u64 0, .int .u64 0, .int .u64 0, .int .u64 0, .int .u64 0, .int .u64 0, .int .u64 0, .int .u64 0, .int .u64 0, .int .u64 0, .int .u64 0, .int .u64 0, .int .u64 0, .int .u64 0, .int .u64 0, .int .u64 0, .int .u64 0, .int .u64 0, .int .u64 0, .int .u64 0, .int .u64 0, .int .u64 0, .int .u64 0, .int .u64 0, .int .u64 0, .int .u64 0, .int .u64 0, .int .u64 0, .int .u64 0, .int .u64 0, .int .u64 0, .int .u64 0, .int .u64 0, .int .u64 0, .int .u64 0, .int .u64 0, .int .u64 0, .int .u64 0, .int .u64 0, .int .u64 0, .int .u64 0, .int .u64 0, .int .u64 0, .int .u64 0, .int .u64 0] 122))) := RtL.start
  have hq : (D.err j != 0) = true := by simpa using he
  have HIA := Lib.hid (info16w (fun _ => 0)); have HOA := Lib.hid (wsA_one (fun _ => 0))
  generalize D.err j = e at *
  clear h hd he
  have c0 := HD.out.blk.cell (i := 0) (v := .iface 42 (.pointer (some ⟨v.tb j, 0, none⟩))) rfl
  have hbs : b < w.heap.size := HD.out.blk.lt
  have hb1 : b ≠ w.heap.size := by omega
  have hb2 : b ≠ w.heap.size + 1 := by omega
  go_enter Tryz.func48, Tryz.ntmps48
  go_wp2_with fail
  (with_reducible refine (HER.out _ ((H.out.alloc _).alloc _)).mono ?_)
  rintro e' w' ⟨rfl, rfl⟩
  clear c0
  generalize hw1 : World.alloc (World.alloc w _) _ = w1 at S0 ⊢
  clear hw1
  have RZ := Lib.hid S0.out.res
  have RW : Hid (Blk w1 (w.heap.size + 1) (wsA fun _ => 0) 122) := by
    have := S0.out.row
    rw [wsA_congr (g := fun _ => 0) (fun i _ => if_neg (by omega))] at this
    exact this
  have BW := Lib.hid S0.out.bel
  clear S0
  have HZ : Hid (∃ A, (wsA fun _ => 0) = A) := ⟨_, rfl⟩
  obtain ⟨A, hA⟩ := HZ.out
  rw [hA] at RZ RW HIA HOA
  have HA := Lib.hid hA
  clear hA HZ
  go_wp2_with (first | (refine wpList_load_row rfl 122 (.tmp 4) rfl (w.heap.size + 1) rfl 122 A (0, 0) _ RW.out Tryz.underlying122 rfl HIA.out ?_) | (refine wpList_store_row rfl 122 (.tmp 2) (.tmp 15) rfl w.heap.size A rfl rfl 122 A RZ.out HIA.out rfl HOA.out ?_))
  refine bodyPost_ret (v := .tuple #[.agg A, .int .i64 e]) (results_ct14 Tryz.results48 _ _ _ _ A _ rfl (setRow_heap _ _ _ A 122 (0, 0) RZ.out) Tryz.underlying122 rfl HIA.out _ rfl) rfl ⟨by rw [HA.out], below_setRow BW.out (Nat.le_refl _) _⟩
/-- What find answers. -/
def fndV (W : Nat → Nat) (l : List UInt8) : Int := if findE W l < 16 then (findE W l : Int) else -1
def NoneB (p : Nat → Bool) (e : Nat) : Prop := ∀ j, j < e → p j = false
/-- A box of the words of all entries. -/
structure BxW (w : World) (A : Array Value) (wx : World) : Prop where
  blk : Blk wx w.heap.size A 122
  bel : Below w.heap.size w wx
theorem BxW.next {A : Array Value} {wx wy : World} (h : BxW w A wx) (hb : Below wx.heap.size wx wy) : BxW w A wy := ⟨h.blk.below hb, h.bel.trans (hb.mono h.bel.size)⟩
theorem findE_no {W : Nat → Nat} {l : List UInt8} (h : ∀ e, e < 16 → (usedE W e && nameE W e == l) = false) : findE W l = 16 := firstI_none h
theorem enS_name (W : Nat → Nat) (e : Nat) (l : List UInt8) (h : W (4 * e + 3) ≠ 0) : (usedE W e && nameE W e == l) = ((enS (W (4 * e)) (W (4 * e + 1)) (W (4 * e + 3))).toList == l) := by
  unfold usedE nameE enS
  rw [if_neg h, nmS_list]
  simp [h]
set_option maxRecDepth 100000 in
set_option maxHeartbeats 4000000 in
theorem rtfind_any (W : Nat → Nat) (hW : ∀ i, W i < 18446744073709551616) (s : ByteArray) : Calls Tryz.prog 61 #[.agg (wsN W), .string s] w fun r w' => r = .returned (.int .i64 (fndV W s.toList)) ∧ Below w.heap.size w w' := by
  have HNM := Lib.hid (fun (wx : World) (e : Nat) => rtname_any (w := wx) (W (4 * e)) (W (4 * e + 1)) (W (4 * e + 2)) (W (4 * e + 3)) (hW _) (hW _))
  have HIX := Lib.hid (fun (e : Nat) (he : e < 16) (wx : World) => idx16 W e he wx)
  have HIA := Lib.hid (info16n W)
  have X0 : Hid (BxW w (wsN W) (w.alloc (.cells (wsN W) 122))) := ⟨Blk.new w _ _, below_alloc w _⟩
  have HHIT : Hid (∀ e, e < 16 → (usedE W e && nameE W e == s.toList) = true → (∀ j, j < e → (usedE W j && nameE W j == s.toList) = false) → findE W s.toList = e) := fun e he hp hn => firstI_hit he hp hn
  have HNO : Hid ((∀ e, e < 16 → (usedE W e && nameE W e == s.toList) = false) → findE W s.toList = 16) := fun h => firstI_none h
  have HEN : Hid (∀ e, W (4 * e + 3) ≠ 0 → (usedE W e && nameE W e == s.toList) = ((enS (W (4 * e)) (W (4 * e + 1)) (W (4 * e + 3))).toList == s.toList)) := fun e h => enS_name W e _ h
  have HUS : Hid (∀ e, W (4 * e + 3) = 0 → (usedE W e && nameE W e == s.toList) = false) := fun e h => by unfold usedE; rw [h]; rfl
  obtain ⟨p, hp⟩ : ∃ p : Nat → Bool, (fun e => usedE W e && nameE W e == s.toList) = p := ⟨_, rfl⟩
  have hp2 : ∀ e, (usedE W e && nameE W e == s.toList) = p e := fun e => congrFun hp e
  simp only [hp2] at HHIT HNO HEN HUS
  have HRV : Hid (fndV W s.toList = if findE W s.toList < 16 then (findE W s.toList : Int) else -1) := rfl
  generalize fndV W s.toList = rv at *
  generalize findE W s.toList = res at *
  generalize wsN W = A at *
  clear hp hp2 hW
  go_enter Tryz.func61, Tryz.ntmps61
  go_wp2_with (refine wpList_load_row rfl 122 (.tmp 2) rfl w.heap.size rfl 122 A (0, 0) _ X0.out.blk Tryz.underlying122 rfl HIA.out ?_)
  go_loopw [5, 6, 7, 8, 10] (fun _ _ _ _ y wr => ∃ e : Nat, e ≤ 16 ∧ y = .int .i64 e ∧ BxW w A wr ∧ NoneB p e) (fun _ _ _ _ y _ => 16 - (intOf y).toNat)
  case atStart => exact ⟨0, by omega, rfl, X0.out, fun j hj => by omega⟩
  case round =>
    clear X0
    obtain ⟨e, he, rfl, hx, hno⟩ := hrel
    have X := Lib.hid hx; have NO := Lib.hid hno
    clear hx hno
    by_cases hlt : e < 16
    · have he' : (e : Int) < 16 := by omega
      have hix := fun wx => HIX.out e hlt wx
      have HNE := Lib.hid (fun wx => HNM.out wx e)
      obtain ⟨x0, hx0⟩ : ∃ x, W (4 * e) = x := ⟨_, rfl⟩
      obtain ⟨x1, hx1⟩ : ∃ x, W (4 * e + 1) = x := ⟨_, rfl⟩
      obtain ⟨x2, hx2⟩ : ∃ x, W (4 * e + 2) = x := ⟨_, rfl⟩
      obtain ⟨x3, hx3⟩ : ∃ x, W (4 * e + 3) = x := ⟨_, rfl⟩
      have hen := HEN.out e
      have hus := HUS.out e
      rw [hx0, hx1, hx2, hx3] at hix HNE
      rw [hx0, hx1, hx3] at hen
      rw [hx3] at hus
      have HE := Lib.hid hen
      have HHE := Lib.hid (HHIT.out e hlt)
      generalize enS x0 x1 x3 = es at *
      have X1 := Lib.hid (X.out.next (below_alloc wr (.cells #[.int .u64 x0, .int .u64 x1, .int .u64 x2, .int .u64 x3] 121)))
      clear hx0 hx1 hx2 hx3 hen
      by_cases h3 : x3 = 0
      · have hb3 : (x3 != 0) = false := by simp [h3]
        have NO2 : Hid (NoneB p (e + 1)) := fun j hj => by
          by_cases ej : j = e
          · subst ej; exact hus h3
          · exact NO.out j (by omega)
        rw [hb3] at HNE
        clear h3 hus hb3 HE
        go_wp2_with fail
        (with_reducible refine (HNE.out _).mono ?_)
        rintro e' w' ⟨rfl, b1⟩
        have X2 := Lib.hid (X1.out.next b1)
        clear b1
        go_wp2_with fail
        go_roundw
        case rel => exact ⟨e + 1, by omega, by go_num, X2.out, NO2.out⟩
        case measure => simp [intOf]; omega
      · have hb3 : (x3 != 0) = true := by simp [h3]
        have hpe := HE.out h3
        rw [hb3] at HNE
        clear h3 hus hb3 HE
        cases hcmp : (es.toList == s.toList)
        · have NO2 : Hid (NoneB p (e + 1)) := fun j hj => by
            by_cases ej : j = e
            · subst ej; rw [hpe]; exact hcmp
            · exact NO.out j (by omega)
          clear hpe
          go_wp2_with fail
          (with_reducible refine (HNE.out _).mono ?_)
          rintro e' w' ⟨rfl, b1⟩
          have X2 := Lib.hid (X1.out.next b1)
          clear b1
          go_wp2_with fail
          go_roundw
          case rel => exact ⟨e + 1, by omega, by go_num, X2.out, NO2.out⟩
          case measure => simp [intOf]; omega
        · have HR : Hid (rv = e) := by show _ = _; rw [HRV.out, HHE.out (by rw [hpe]; exact hcmp) NO.out, if_pos hlt]
          clear hpe
          go_wp2_with fail
          (with_reducible refine (HNE.out _).mono ?_)
          rintro e' w' ⟨rfl, b1⟩
          have X2 := Lib.hid (X1.out.next b1)
          clear b1
          go_wp2_with fail
          go_ret
          exact ⟨(by rw [HR.out]; first | done | rfl), X2.out.bel⟩
    · obtain rfl : e = 16 := by omega
      have HR : Hid (rv = -1) := by show _ = _; rw [HRV.out, HNO.out NO.out, if_neg (by omega)]
      go_wp2_with fail
      go_ret
      exact ⟨(by rw [HR.out]; first | done | rfl), X.out.bel⟩
end
end Go.Proofs.YtmfchlliechikaaGreatDoor
