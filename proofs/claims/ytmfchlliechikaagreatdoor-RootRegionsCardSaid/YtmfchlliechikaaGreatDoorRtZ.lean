/- Open over a memory that is off; the walk of RootRegions. -/
import Derived.Test.YtmfchlliechikaaGreatDoorRtX
namespace Go.Proofs.YtmfchlliechikaaGreatDoor
open Go.RowKit Go.Maps
attribute [local go_sem ↓] Go.wp_at_zero Go.wp_at_succ

section
variable {w : World} {v : DV} {own : Nat → Option Role} {D : Dev} {j : Nat}
set_option maxRecDepth 100000 in
set_option maxHeartbeats 2000000 in
theorem rtOpen_err (h : IsDev w v own D) (hj : j < 8) (l : Nat) (hl : l + 8 ≤ D.n) (he : D.err j ≠ 0) :
    Calls Tryz.prog 18 #[.iface 42 (.pointer (some ⟨v.tb j, 0, none⟩)), .int .i64 l] w fun r w' => r = .returned (.tuple #[.pointer none, .int .i64 (D.err j)]) ∧ Below w.heap.size w w' := by
  have hwf := h.wf.le
  have hn := rtlacks_any h hj l (by omega)
  rw [show lackB D.n l = false by unfold lackB; simp; omega] at hn
  have HN := Lib.hid hn
  have HLD := Lib.hid (fun (wx : World) (b off : Nat) (hd : IsDev wx v own D) (hx : DirAt wx b off (.iface 42 (.pointer (some ⟨v.tb j, 0, none⟩)))) => rtload_err hd hj hx he)
  have hq : (D.err j != 0) = true := by simpa using he
  obtain ⟨o, ho⟩ : ∃ o, 64 * l = o := ⟨_, rfl⟩
  have q1 : (l : Int) * 64 = (o : Int) := by omega
  have hol : o ≤ 262144 := by omega
  have hlb : l ≤ 4096 := by omega
  have HB0 : Hid (DirAt (w.alloc (.cells #[.iface 42 (.pointer (some ⟨v.tb j, 0, none⟩)), .int .u64 o] 120)) w.heap.size o (.iface 42 (.pointer (some ⟨v.tb j, 0, none⟩)))) := ⟨Blk.new w _ _⟩
  have HBB := Lib.hid (below_alloc w (.cells #[.iface 42 (.pointer (some ⟨v.tb j, 0, none⟩)), .int .u64 o] 120))
  have HD := Lib.hid (h.below HBB.out)
  have hone : (wsA fun _ => 0).all (·.oneCell') = true := wsA_one _
  have HONE := Lib.hid hone
  have HIA := Lib.hid (info16w (fun _ => 0))
  have HSZ : Hid (64 = (wsA fun _ => 0).size) := (wsA_size _).symm
  generalize D.err j = e at *
  clear h hn hl hwf he ho hone
  go_enter Tryz.func18, Tryz.ntmps18
  go_wp2_with fail
  (with_reducible refine HN.out.mono ?_)
  rintro r w' ⟨rfl, rfl⟩
  go_wp2_with fail
  (with_reducible refine (HLD.out _ _ _ HD.out HB0.out).mono ?_)
  rintro r w1 ⟨rfl, b1⟩
  have B1 := Lib.hid (HBB.out.trans (b1.mono HBB.out.size))
  clear b1 HLD HB0 HBB HD
  go_wp2_with (first | (refine wpList_store_row rfl 122 (.tmp 7) (.tmp 27) rfl w1.heap.size (wsA fun _ => 0) rfl rfl 122 _ (Blk.new w1 _ _) HIA.out HSZ.out HONE.out ?_; obtain ⟨w2, hw2, k2, b2⟩ := wsn_alloc w1 _ (wsA fun _ => 0); rw [hw2]; have B2 := Lib.hid (B1.out.trans (b2.mono B1.out.size)); clear hw2 k2 b2 B1))
  go_ret2
  exact ⟨rfl, B2.out⟩
/-- A device that has been made since w0. -/
structure Dr (w0 : World) (v : DV) (own : Nat → Option Role) (D : Dev) (wx : World) : Prop where
  dev : IsDev wx v own D
  ob : ∀ k, own k ≠ none → w0.heap.size ≤ k
  bel : Below w0.heap.size w0 wx
section
variable {w0 wx wy : World} {D' : Dev}
theorem Dr.next (h : Dr w0 v own D wx) (hb : Below wx.heap.size wx wy) : Dr w0 v own D wy := ⟨h.dev.below hb, h.ob, h.bel.trans (hb.mono h.bel.size)⟩
theorem Dr.step (h : Dr w0 v own D wx) (hp : DPost v own wx D' wy) : ∃ own', Dr w0 v own' D' wy := by
  obtain ⟨own', d, o, b⟩ := hp.from h.ob h.bel.size
  exact ⟨own', d, o, h.bel.trans b⟩
end
def DR0 (n : Nat) : Dev := Dev.fresh n (fun _ => 0)
theorem DR0_cl (n : Nat) : SCl (DR0 n) 0 n (fun _ => 0) 0 := fresh_scl (fun _ => by omega) 0 n
/-- The device behind Arm(0) and a fence. -/
def DRz (n : Nat) : Dev := ((DR0 n).arm 0).fence 0
theorem DRz_err (n : Nat) : (DRz n).err 0 = 3 ∧ (DRz n).n = n := by
  have h : OnJ ((DR0 n).arm 0) 0 n := ⟨rfl, rfl, rfl⟩
  have e : DRz n = ({ (DR0 n).arm 0 with off := true } : Dev).setErr 0 3 := step_cut (e := (3, 0, 0)) h rfl rfl (.inr (.inr rfl))
  rw [e]; exact ⟨rfl, rfl⟩
theorem fmt_cln (n l : Nat) (hl : l + 8 ≤ n) : SCl ((DR0 n).run 0 (fmtP (64 * l))) 0 n (fun i => look (fmtL (64 * l)) 0 i) 33 := by
  have h1 := (DR0_cl n).stores (ws := fmtL (64 * l)) (fun e he => by
    unfold fmtL at he
    obtain ⟨x, hx, rfl⟩ := List.mem_map.1 he
    have := List.mem_range.1 hx
    show (64 * l + 32 * x + 24) % 8 = 0 ∧ 64 * l + 32 * x + 24 < _
    omega) (fun e he => by
    unfold fmtL at he
    obtain ⟨x, hx, rfl⟩ := List.mem_map.1 he
    show (0 : Int) ≤ 0 ∧ (0 : Int) < _
    omega)
  exact h1.mono (by have := fmtP_len (64 * l); show 0 + (fmtP (64 * l)).length ≤ 33; omega)
/-- Open answers so. -/
def OpenAns (v : DV) (own : Nat → Option Role) (D : Dev) (l : Int) (k : Int) : Prop := ∀ wx, Nib wx → IsDev wx v own D → Calls Tryz.prog 18 #[.iface 42 (.pointer (some ⟨v.tb 0, 0, none⟩)), .int .i64 l] wx fun r w' => (∃ p, r = .returned (.tuple #[.pointer p, .int .i64 k])) ∧ Below wx.heap.size wx w'
theorem OpenAns.ans {l k : Int} (h : OpenAns v own D l k) (wx : World) (hN : Nib wx) (hd : IsDev wx v own D) : Calls Tryz.prog 18 #[.iface 42 (.pointer (some ⟨v.tb 0, 0, none⟩)), .int .i64 l] wx fun r w' => (∃ p, r = .returned (.tuple #[.pointer p, .int .i64 k])) ∧ Below wx.heap.size wx w' := h wx hN hd
theorem regions_lack (n : Nat) (hn : D.n = n) (l : Int) (hl : l < 9223372036854775808) (hk : lackB n l = true) {w0 wx : World} (h : Dr w0 v own D wx) :
    Calls Tryz.prog 21 #[.iface 42 (.pointer (some ⟨v.tb 0, 0, none⟩)), .int .i64 l] wx fun r w' => r = .returned (.int .i64 1) ∧ ∃ own' D', Dr w0 v own' D' w' ∧ OpenAns v own' D' l 1 := by
  rw [← hn] at hk
  refine (rtFormat_lack h.dev (j := 0) (by omega) l hl hk).mono ?_
  rintro r w' ⟨rfl, rfl⟩
  refine ⟨rfl, own, D, h, fun wy _ hd => (rtOpen_lack hd (j := 0) (by omega) l hl hk).mono ?_⟩
  rintro r w' ⟨rfl, rfl⟩
  exact ⟨⟨_, rfl⟩, Below.refl _ _⟩
theorem regions_on (n l : Nat) (hl : l + 8 ≤ n) (_hn : n < 256) {w0 wx : World} (h : Dr w0 v own (DR0 n) wx) :
    Calls Tryz.prog 21 #[.iface 42 (.pointer (some ⟨v.tb 0, 0, none⟩)), .int .i64 l] wx fun r w' => r = .returned (.int .i64 0) ∧ ∃ own' D', Dr w0 v own' D' w' ∧ OpenAns v own' D' l 0 := by
  have hcl := fmt_cln n l hl
  refine (rtFormat_any (j := 0) h.dev (by omega) l hl rfl (show (0 : Nat) + 100000 < 4294967296 by omega)).mono ?_
  rintro r w' ⟨rfl, hp⟩
  obtain ⟨own', h'⟩ := h.step hp
  refine ⟨by rw [hcl.grp.on.err], own', _, h', fun wy hx hd => ?_⟩
  refine (rtOpen_any (W := W0) hd hx (j := 0) (by omega) l hcl.grp.on.off hcl.grp.on.err ⟨by omega, by rw [hcl.grp.on.n]; omega, fun i _ => by rw [hcl.cur]; exact fmt_zero (64 * l) _, fun _ => by show 0 < _; omega⟩).mono ?_
  rintro r w3 (⟨h0, _⟩ | ⟨_, rfl, _, b3⟩)
  · exact absurd opnE_W0 h0
  · exact ⟨⟨_, rfl⟩, b3⟩
theorem regions_off (n l : Nat) (hl : l + 8 ≤ n) (hn : D.n = n) (he : D.err 0 = 3) {w0 wx : World} (h : Dr w0 v own D wx) :
    Calls Tryz.prog 21 #[.iface 42 (.pointer (some ⟨v.tb 0, 0, none⟩)), .int .i64 l] wx fun r w' => r = .returned (.int .i64 3) ∧ ∃ own' D', Dr w0 v own' D' w' ∧ OpenAns v own' D' l 3 := by
  have hwf := h.dev.wf.le
  refine (rtFormat_err h.dev (j := 0) (by omega) l (by omega) (by unfold lackB; simp; omega) (by rw [he]; decide)).mono ?_
  rintro r w' ⟨rfl, rfl⟩
  rw [he]
  refine ⟨rfl, own, D, h, fun wy _ hd => ?_⟩
  have := rtOpen_err hd (j := 0) (by omega) l (by omega) (by rw [he]; decide)
  rw [he] at this
  refine this.mono ?_
  rintro r w' ⟨rfl, hb⟩
  exact ⟨⟨_, rfl⟩, hb⟩
set_option maxRecDepth 100000 in
set_option maxHeartbeats 2000000 in
theorem new_zero14 : Calls Tryz.prog 22 #[.int .i64 0] w fun r w' => r = .returned (.tuple #[.pointer none, .int .i64 1]) ∧ w = w' := by
  go_enter Tryz.func22, Tryz.ntmps22
  go_wp2_with fail
  go_ret2
  exact ⟨rfl, rfl⟩
set_option maxRecDepth 100000 in
set_option maxHeartbeats 8000000 in
theorem rootRegions_any (hN : Nib w) (n : Nat) (hn : n < 256) (l : Int) (hl : l < 9223372036854775808) (hl2 : -9223372036854775808 ≤ l) (ob : Bool) : Calls Tryz.prog 5 #[.int .u8 n, .int .i64 l, .bool ob] w fun r w' => r = .returned (.bool true) ∧ Below w.heap.size w w' := by
  have HNB := Lib.hid hN
  have HA := Lib.hid (awake14 hN)
  have HO := Lib.hid (fun wx : World => rtOpen_nil (w := wx) l)
  have HF := Lib.hid (fun wx : World => rtFormat_nil (w := wx) l)
  clear hN
  rcases Nat.eq_zero_or_pos n with rfl | hpos
  · have HZ := Lib.hid (fun wx : World => new_zero14 (w := wx))
    clear hn hl hl2
    go_enter Tryz.func5, Tryz.ntmps5
    go_wp2_with fail
    (with_reducible refine HA.out.mono ?_)
    rintro r w1 ⟨rfl, b1⟩
    have B1 := Lib.hid b1
    clear b1 HA
    go_wp2_with fail
    (with_reducible refine (HO.out _).mono ?_)
    rintro r w' ⟨rfl, rfl⟩
    go_wp2_with fail
    (with_reducible refine (HF.out _).mono ?_)
    rintro r w' ⟨rfl, rfl⟩
    go_wp2_with fail
    (with_reducible refine (HZ.out _).mono ?_)
    rintro r w' ⟨rfl, rfl⟩
    go_wp2_with fail
    go_ret
    exact ⟨rfl, B1.out⟩
  · have HNW := Lib.hid (fun (wx : World) => new_any (w := wx) n hpos (by omega))
    have HARM : Hid (∀ (wx : World) (v : DV) (own : Nat → Option Role), IsDev wx v own (DR0 n) → Calls Tryz.prog 23 #[.pointer (some ⟨v.db, 0, none⟩), .int .i64 0] wx fun r w' => r = .returned (.tuple #[]) ∧ DPost v own wx ((DR0 n).arm 0) w') := fun wx v own hd => arm_any hd 0 (by omega)
    have HFE : Hid (∀ (wx : World) (v : DV) (own : Nat → Option Role), IsDev wx v own ((DR0 n).arm 0) → Calls Tryz.prog 24 #[.pointer (some ⟨v.tb 0, 0, none⟩)] wx fun r w' => r = .returned (.tuple #[]) ∧ DPost v own wx (DRz n) w') := fun wx v own hd => fence_any hd (j := 0) (by omega) (by show 0 < _; decide)
    have HR : Hid (∀ (D : Dev) (wv k : Int) (w0 wx : World) (v : DV) (own : Nat → Option Role), D.n = n → ((wv = 0 ∧ D = DR0 n) ∨ (wv = 3 ∧ D.err 0 = 3)) → ((k = 1 ∧ lackB n l = true) ∨ (k = wv ∧ lackB n l = false)) → Dr w0 v own D wx →
        Calls Tryz.prog 21 #[.iface 42 (.pointer (some ⟨v.tb 0, 0, none⟩)), .int .i64 l] wx fun r w' => r = .returned (.int .i64 k) ∧ ∃ own' D', Dr w0 v own' D' w' ∧ OpenAns v own' D' l k) := fun D wv k w0 wx v own hDn ho hk h => by
      rcases hk with ⟨rfl, hk⟩ | ⟨rfl, hk⟩
      · exact regions_lack n hDn l hl hk h
      · unfold lackB at hk
        simp at hk
        obtain ⟨m, rfl⟩ : ∃ m : Nat, l = m := ⟨l.toNat, by omega⟩
        rcases ho with ⟨rfl, rfl⟩ | ⟨rfl, he⟩
        · exact regions_on n m (by omega) hn h
        · exact regions_off n m (by omega) hDn he h
    go_enter Tryz.func5, Tryz.ntmps5
    go_wp2_with fail
    (with_reducible refine HA.out.mono ?_)
    rintro r w1 ⟨rfl, b1⟩
    have B1 := Lib.hid b1
    clear b1 HA
    go_wp2_with fail
    (with_reducible refine (HO.out _).mono ?_)
    rintro r w' ⟨rfl, rfl⟩
    go_wp2_with fail
    (with_reducible refine (HF.out _).mono ?_)
    rintro r w' ⟨rfl, rfl⟩
    go_wp2_with fail
    (with_reducible refine (HNW.out _).mono ?_)
    rintro e w2 ⟨v, own, rfl, d2, o2, b2⟩
    have S2 : Hid (Dr w1 v own (DR0 n) w2) := ⟨d2, o2, b2⟩
    clear d2 o2 b2 HNW
    go_wp2_with fail
    (with_reducible refine (thread0_any S2.out.dev).mono ?_)
    rintro e w' ⟨rfl, rfl⟩
    go_upto_if 37 with fail
    go_cut [12] from 38 to 41 (fun u wx => ∃ (own' : Nat → Option Role) (D : Dev) (wv : Int), u = .int .i64 wv ∧ Dr w1 v own' D wx ∧ D.n = n ∧ ((wv = 0 ∧ D = DR0 n) ∨ (wv = 3 ∧ D.err 0 = 3)))
    case first =>
      cases ob
      · go_wp2_with fail
        go_meet
        exact ⟨own, DR0 n, 0, rfl, S2.out, rfl, .inl ⟨rfl, rfl⟩⟩
      · go_wp2_with fail
        (with_reducible refine (HARM.out _ _ _ S2.out.dev).mono ?_)
        rintro e w3 ⟨rfl, p3⟩
        obtain ⟨own3, s3⟩ := S2.out.step p3
        have S3 := Lib.hid s3; clear p3 s3 S2
        go_wp2_with fail
        (with_reducible refine (HFE.out _ _ _ S3.out.dev).mono ?_)
        rintro e w4 ⟨rfl, p4⟩
        obtain ⟨own4, s4⟩ := S3.out.step p4
        have S4 := Lib.hid s4; clear p4 s4 S3
        go_wp2_with fail
        go_meet
        exact ⟨own4, DRz n, 3, rfl, S4.out, (DRz_err n).2, .inr ⟨rfl, (DRz_err n).1⟩⟩
    case rest =>
      obtain ⟨ownx, D, wv, rfl, hds, hDn, hor⟩ := hcut
      rename World => wx
      have S := Lib.hid hds
      have HR2 : Hid (∀ k : Int, ((k = 1 ∧ lackB n l = true) ∨ (k = wv ∧ lackB n l = false)) → Calls Tryz.prog 21 #[.iface 42 (.pointer (some ⟨v.tb 0, 0, none⟩)), .int .i64 l] wx fun r w' => r = .returned (.int .i64 k) ∧ ∃ own' D', Dr w1 v own' D' w' ∧ OpenAns v own' D' l k) := fun k hk => HR.out D wv k w1 wx v ownx hDn hor hk hds
      clear hds hor hDn S2 HARM HFE HR
      have qq : ∀ k : Int, (k == k) = true := fun k => by simp
      have f8 : IntKind.i64.wrap ((n : Int) - 8) = (n : Int) - 8 := IntWalk.i64_in _ (by omega)
      obtain ⟨N8, hN8⟩ : ∃ N : Int, (n : Int) - 8 = N := ⟨_, rfl⟩
      rw [hN8] at f8
      by_cases f0 : l < 0
      · have HK : Hid (lackB n l = true) := by
          show _ = _
          unfold lackB; simp; omega
        go_wp2_with fail
        (with_reducible refine (HR2.out 1 (.inl ⟨rfl, HK.out⟩)).mono ?_)
        rintro r w5 ⟨rfl, own5, D5, s5, o5⟩
        have S5 := Lib.hid s5
        have O5 := Lib.hid o5
        have NB5 := Lib.hid (HNB.out.below (B1.out.trans (S5.out.bel.mono B1.out.size)))
        clear s5 o5 S HR2
        go_wp2_with fail
        (with_reducible refine (O5.out.ans _ NB5.out S5.out.dev).mono ?_)
        rintro r w6 ⟨⟨p6, rfl⟩, b6⟩
        have S6 := Lib.hid (S5.out.next b6)
        clear b6 S5 O5 NB5
        go_wp2_with fail
        go_ret
        exact ⟨rfl, B1.out.trans (S6.out.bel.mono B1.out.size)⟩
      · by_cases f1 : N8 < l
        · have HK : Hid (lackB n l = true) := by
            show _ = _
            unfold lackB; simp; omega
          go_wp2_with fail
          (with_reducible refine (HR2.out 1 (.inl ⟨rfl, HK.out⟩)).mono ?_)
          rintro r w5 ⟨rfl, own5, D5, s5, o5⟩
          have S5 := Lib.hid s5
          have O5 := Lib.hid o5
          have NB5 := Lib.hid (HNB.out.below (B1.out.trans (S5.out.bel.mono B1.out.size)))
          clear s5 o5 S HR2
          go_wp2_with fail
          (with_reducible refine (O5.out.ans _ NB5.out S5.out.dev).mono ?_)
          rintro r w6 ⟨⟨p6, rfl⟩, b6⟩
          have S6 := Lib.hid (S5.out.next b6)
          clear b6 S5 O5 NB5
          go_wp2_with fail
          go_ret
          exact ⟨rfl, B1.out.trans (S6.out.bel.mono B1.out.size)⟩
        · have HK : Hid (lackB n l = false) := by
            show _ = _
            unfold lackB; simp; omega
          have q1 := qq wv
          go_wp2_with fail
          (with_reducible refine (HR2.out wv (.inr ⟨rfl, HK.out⟩)).mono ?_)
          rintro r w5 ⟨rfl, own5, D5, s5, o5⟩
          have S5 := Lib.hid s5
          have O5 := Lib.hid o5
          have NB5 := Lib.hid (HNB.out.below (B1.out.trans (S5.out.bel.mono B1.out.size)))
          clear s5 o5 S HR2
          go_wp2_with fail
          (with_reducible refine (O5.out.ans _ NB5.out S5.out.dev).mono ?_)
          rintro r w6 ⟨⟨p6, rfl⟩, b6⟩
          have S6 := Lib.hid (S5.out.next b6)
          clear b6 S5 O5 NB5
          go_wp2_with fail
          go_ret
          exact ⟨rfl, B1.out.trans (S6.out.bel.mono B1.out.size)⟩
end
end Go.Proofs.YtmfchlliechikaaGreatDoor
