/- The law's apply where it takes the writes. -/
import Derived.Test.YtmfchlliechikaaGreatDoorRuF
import Derived.Test.YtmfchlliechikaaGreatDoorRunU
import Derived.BigQuiet
namespace Go.Proofs.YtmfchlliechikaaGreatDoor
open Go.RowKit Go.Maps
attribute [local go_sem ↓] Go.wp_at_zero Go.wp_at_succ

/-- The writes of a change that succeeds; none of one that does not. -/
def actL (W : Nat → Nat) (l : List UInt8) (p : Nat) : List (Nat × Nat) := if errE W l p 1280 = 0 then wrE W l p else []
theorem actL_len (W : Nat → Nat) (l : List UInt8) (p : Nat) : (actL W l p).length ≤ 4 := by
  unfold actL
  split
  · exact wrE_len W l p
  · simp
theorem actL_in (W : Nat → Nat) (l : List UInt8) (p : Nat) (hp : p < 18446744073709551616) : ∀ e ∈ actL W l p, e.1 < 64 ∧ e.2 < 18446744073709551616 := by
  intro e he
  unfold actL at he
  split at he
  · rename_i h; exact wrE_in W l p 1280 h hp e he
  · cases he
section
variable {w0 w w' : World} {v : DV} {own : Nat → Option Role} {D : Dev} {b rb x : Nat} {W W' : Nat → Nat}
theorem AcPost.both {l : List UInt8} {p : Nat} {r : Ending} (h : AcPost w W 192 l p 1280 r w') : ∃ oa oc, r = .returned (.tuple #[.slice oa (actL W l p).length oc, .int .i64 (errE W l p 1280 : Nat)]) ∧ Acc w w.heap.size w' 103 2 (.slice oa (actL W l p).length oc) (actL W l p).length (flat (wrO 192 (actL W l p))) := by
  rcases h with ⟨he, rfl, hb⟩ | ⟨he, ov, rfl, ha⟩
  · have e : actL W l p = [] := if_neg he
    rw [e]
    exact ⟨none, 0, rfl, Acc.nil _ _ _ _ _ hb hb.size⟩
  · have e : actL W l p = wrE W l p := if_pos he
    rw [wrO_len] at ha
    obtain ⟨oa, oc, rfl⟩ := ha.slice
    rw [e, he]
    exact ⟨oa, oc, rfl, ha⟩
theorem AcPR.both {l : List UInt8} {p : Nat} {r : Ending} (h : AcPR w W 192 l p 1280 r w') : ∃ oa oc, r = .returned (.tuple #[.slice oa (actL W l p).length oc, .int .i64 (errE W l p 1280 : Nat)]) ∧ Acc w w.heap.size w' 104 2 (.slice oa (actL W l p).length oc) (actL W l p).length (flat (wrO 192 (actL W l p))) := by
  rcases h with ⟨he, rfl, hb⟩ | ⟨he, ov, rfl, ha⟩
  · have e : actL W l p = [] := if_neg he
    rw [e]
    exact ⟨none, 0, rfl, Acc.nil _ _ _ _ _ hb hb.size⟩
  · have e : actL W l p = wrE W l p := if_pos he
    rw [wrO_len] at ha
    obtain ⟨oa, oc, rfl⟩ := ha.slice
    rw [e, he]
    exact ⟨oa, oc, rfl, ha⟩
theorem below_drewN (w : World) (o : Obj) (q : Nat) : Below w.heap.size w ((w.alloc o).drewN q) :=
  have h := below_alloc w o
  ⟨h.os, h.tape, h.output, h.size, h.block⟩
theorem RtSt.still (h : RtSt w0 v own D b W x w) (hP : DPost v own w D w') : ∃ own', RtSt w0 v own' D b W x w' ∧ Kb w own w' own' := by
  obtain ⟨own', g1, g2, g3⟩ := hP
  have hkb : Kb w own w' own' := fun g c t hg ho => ⟨hg.upd g3 (by rw [ho]; simp), by rw [g2 _ hg.lt]; exact ho⟩
  refine ⟨own', ⟨g1, fun k hk => ?_, ?_, h.cl, h.bd, ⟨(hkb _ _ _ h.dir.blk h.nb).1⟩, (hkb _ _ _ h.dir.blk h.nb).2⟩, hkb⟩
  · rcases Nat.lt_or_ge k w.heap.size with hlt | hge
    · rw [g2 k hlt] at hk; exact h.ob k hk
    · exact Nat.le_trans h.bel.size hge
  · exact h.bel.trans ⟨g3.os, g3.tape, g3.output, g3.size, fun k hk => g3.block k (Nat.lt_of_lt_of_le hk h.bel.size) (fun hk2 => by have := h.ob k hk2; omega)⟩
theorem RtSt.acts (h : RtSt w0 v own D b W x w) {l : List UInt8} {p : Nat} (hp : p < 18446744073709551616) (hP : DPost v own w (D.run 0 (storesL (wrO 192 (actL W l p)))) w') :
    ∃ own' D', RtSt w0 v own' D' b (chgE W l p 1280) (x + 9) w' ∧ (D.run 0 (storesL (wrO 192 (actL W l p)))).err 0 = 0 ∧ Kb w own w' own' := by
  by_cases he : errE W l p 1280 = 0
  · have e : actL W l p = wrE W l p := if_pos he
    have e2 : chgE W l p 1280 = setWs (wrE W l p) W := if_pos he
    rw [e] at hP ⊢
    rw [e2]
    obtain ⟨own', h1, h2, h3⟩ := h.step he hp hP
    exact ⟨own', _, h1, h2, h3⟩
  · have e : actL W l p = [] := if_neg he
    have e2 : chgE W l p 1280 = W := if_neg he
    have e3 : storesL (wrO 192 (actL W l p)) = [] := by rw [e]; rfl
    rw [e3] at hP ⊢
    rw [e2]
    obtain ⟨own', h1, h2⟩ := h.still hP
    refine ⟨own', D, h1.mono (by omega), ?_, h2⟩
    obtain ⟨C, c1, _⟩ := h.cl
    exact c1.grp.on.err
theorem PlM.acts (h : PlM w0 v own D b rb W' W x w) {l : List UInt8} {p : Nat} (hp : p < 18446744073709551616) (hP : DPost v own w (D.run 0 (storesL (wrO 192 (actL W' l p)))) w') :
    ∃ own' D', PlM w0 v own' D' b rb (chgE W' l p 1280) W (x + 9) w' ∧ (D.run 0 (storesL (wrO 192 (actL W' l p)))).err 0 = 0 ∧ Kb w own w' own' := by
  obtain ⟨own', D', h1, h2, hk⟩ := h.st.acts hp hP
  obtain ⟨k1, k2⟩ := hk rb _ _ h.rf.blk h.nr
  exact ⟨own', D', ⟨h1, ⟨k1⟩, h.inv, k2, h.ne, h.new⟩, h2, hk⟩
set_option maxRecDepth 100000 in
set_option maxHeartbeats 4000000 in
theorem apply_acts (h : PlR w0 v own D b rb W x w) (hN0 : Nib w0) (d : Nat) (hd : d % 3 = 2) (s : ByteArray) (p : Nat) (hp : p < 18446744073709551616) (hx : x < 1000000) :
    Calls Tryz.prog 14 #[.pointer (some ⟨v.db, 0, none⟩), .pointer (some ⟨b, 0, none⟩), .pointer (some ⟨rb, 0, none⟩), .agg #[.int .u8 d, .string s, .int .u64 p]] w fun r w' => r = .returned (.bool true) ∧ ∃ own' D', PlR w0 v own' D' b rb (chgE W s.toList p 1280) (x + 9) w' := by
  have q3 : ((d : Int) % 3 == 0) = false := by simp; omega
  have q4 : ((d : Int) % 3 == 1) = false := by simp; omega
  have K0 := Lib.hid (Blk.new w #[.int .u8 d, .string s, .int .u64 p] 40)
  have HOW : Hid (own w.heap.size = none) := own_no h.st.dev (Nat.le_refl _)
  have BX := Lib.hid (below_alloc w (.cells #[.int .u8 d, .string s, .int .u64 p] 40))
  have H := Lib.hid (h.next BX.out)
  have HN := Lib.hid (hN0.below H.out.st.bel)
  have hA := rtActions_any H.out.st.don HN.out s p hp
  rw [H.out.st.lines] at hA
  have HA := Lib.hid hA
  have HAC := Lib.hid (fun (wx : World) (hr : RfAt wx rb 192 W) => r14Actions_any hr H.out.inv (by omega) s p hp)
  have HC : Hid (∀ (Ws : Nat → Nat) (own' : Nat → Option Role) (D' : Dev) (y : Nat) (wx : World), PlM w0 v own' D' b rb Ws W y wx → Calls Tryz.prog 37 #[.pointer (some ⟨rb, 0, none⟩), .string s, .int .u64 p, .int .u64 1280] wx fun r w' => r = .returned (.int .i64 (errE W s.toList p 1280 : Nat)) ∧ PlM w0 v own' D' b rb Ws (chgE W s.toList p 1280) y w' ∧ Upd (· = rb) wx w') := fun Ws own' D' y wx hh => hh.change s p hp
  have hex : D.exec ≤ x := by obtain ⟨C, hC, _⟩ := h.st.cl; exact hC.exec
  have HIN := Lib.hid (actL_in W s.toList p hp)
  have hn4 := actL_len W s.toList p
  have HRUN : Hid (∀ (wa wb : World) (pv : Value), IsDev wa v own D → Acc wa wa.heap.size wb 87 3 pv (storesL (wrO 192 (actL W s.toList p))).length (instrC (storesL (wrO 192 (actL W s.toList p)))) → Calls Tryz.prog 42 #[pv, .iface 42 (.pointer (some ⟨v.tb 0, 0, none⟩))] wb fun r w' => r = .returned (.int .i64 ((D.run 0 (storesL (wrO 192 (actL W s.toList p)))).err 0)) ∧ DPost v own wa (D.run 0 (storesL (wrO 192 (actL W s.toList p)))) w') := fun wa wb pv hdv ha =>
    run_acc hdv (by omega) ha (storesL_ok _ fun e he => by
      unfold wrO at he
      obtain ⟨y, hy, rfl⟩ := List.mem_map.1 he
      have := HIN.out y hy
      show 192 + 8 * y.1 < _
      omega) (by have := storesL_len (wrO 192 (actL W s.toList p)); rw [wrO_len] at this; omega) (by omega)
  have HST : Hid (∀ (wx : World) (sv : Value), RdSl wx 2 sv (wrO 192 (actL W s.toList p)).length (flat (wrO 192 (actL W s.toList p))) → Calls Tryz.prog 41 #[sv] wx fun r w' => ∃ pv, r = .returned pv ∧ Acc wx wx.heap.size w' 87 3 pv (storesL (wrO 192 (actL W s.toList p))).length (instrC (storesL (wrO 192 (actL W s.toList p))))) := fun wx sv hr =>
    stores_any sv _ hr (by rw [wrO_len]; omega) (fun e he => by
      unfold wrO at he
      obtain ⟨y, hy, rfl⟩ := List.mem_map.1 he
      have := HIN.out y hy
      show 192 + 8 * y.1 < _
      omega)
  have HAA : Hid (∀ (own' : Nat → Option Role) (D' : Dev) (y : Nat) (wx w' : World), PlM w0 v own' D' b rb W W y wx → DPost v own' wx (D'.run 0 (storesL (wrO 192 (actL W s.toList p)))) w' → ∃ own'' D'', PlM w0 v own'' D'' b rb (chgE W s.toList p 1280) W (y + 9) w' ∧ (D'.run 0 (storesL (wrO 192 (actL W s.toList p)))).err 0 = 0 ∧ Kb wx own' w' own'') := fun own' D' y wx w' hh hP => hh.acts hp hP
  clear h hN0 hd hex hA
  go_enter Tryz.func14, Tryz.ntmps14
  go_wp2_with fail
  (with_reducible refine HA.out.mono ?_)
  rintro r w1 h1
  obtain ⟨oa, oc, rfl, ha⟩ := h1.both
  have A1 := Lib.hid ha
  have c1 := (K0.out.below ha.bel).cell (i := 1) (v := .string s) rfl
  have c2 := (K0.out.below ha.bel).cell (i := 2) (v := .int .u64 p) rfl
  clear h1 ha HA
  go_wp2_with fail
  (with_reducible refine (HAC.out _ (H.out.rf.next A1.out.bel)).mono ?_)
  rintro r w2 h2
  obtain ⟨ra, rc, rfl, hr⟩ := h2.both
  have A2 := Lib.hid hr
  have B2 := Lib.hid (A1.out.bel.trans (hr.bel.mono A1.out.bel.size))
  have K2 := Lib.hid (K0.out.below B2.out)
  have M2 := Lib.hid (H.out.mid.next B2.out)
  have RD1 := Lib.hid (A1.out.rd.below hr.bel)
  have RD2 := Lib.hid hr.rd
  clear h2 hr HAC c1 c2
  obtain ⟨er, her⟩ : ∃ er, errE W s.toList p 1280 = er := ⟨_, rfl⟩
  rw [her] at HC ⊢
  obtain ⟨ws, hws⟩ : ∃ ws, actL W s.toList p = ws := ⟨_, rfl⟩
  rw [hws] at HIN hn4 HRUN HST HAA RD1 RD2 A1 A2 ⊢
  obtain ⟨n, hn⟩ : ∃ n, ws.length = n := ⟨_, rfl⟩
  have HNL := Lib.hid hn
  rw [wrO_len] at HST
  rw [hn] at hn4 HST RD1 RD2 A1 A2 ⊢
  have LT1 := Lib.hid (A1.out.own.lt)
  have LT2 := Lib.hid (A2.out.own.lt)
  have qq : ((er : Int) == er) = true := by simp
  obtain ⟨W2, hW2⟩ : ∃ W2, chgE W s.toList p 1280 = W2 := ⟨_, rfl⟩
  rw [hW2] at HC HAA
  have HW2 := Lib.hid hW2
  clear her hws hn A1 A2 hW2
  go_wp2_with fail
  go_loopw [15, 16, 83] (fun _ _ y wr => ∃ m : Nat, m ≤ n ∧ y = .int .i64 m ∧ Below w2.heap.size w2 wr) (fun _ _ y _ => n - (intOf y).toNat)
  case atStart => exact ⟨0, by omega, rfl, Below.refl _ _⟩
  case round =>
    obtain ⟨m, hm, rfl, hb⟩ := hrel
    have B := Lib.hid hb
    have hsz := hb.size
    clear hb
    by_cases hlt : m < n
    · have hlt' : (m : Int) < n := by omega
      obtain ⟨y, hy⟩ : ∃ y, ws[m]? = some y := ⟨_, List.getElem?_eq_getElem (by rw [HNL.out]; exact hlt)⟩
      obtain ⟨hg1, hg2⟩ := wrO_get 192 ws m y hy
      obtain ⟨_, _, _, e', _, hE⟩ := (show RdSl wr 2 (.slice oa n oc) n (flat (wrO 192 ws)) from RD1.out.below B.out)
      cases e'
      obtain ⟨g, o, rfl, hE2⟩ := rd_at hE hg1
      have c1 := hE2 _ _ hg1
      have c2 := hE2 _ _ hg2
      rw [← Nat.add_assoc] at c2
      obtain ⟨_, _, _, e', _, hF⟩ := (show RdSl wr 2 (.slice ra n rc) n (flat (wrO 192 ws)) from RD2.out.below B.out)
      cases e'
      obtain ⟨g', o', rfl, hF2⟩ := rd_at hF hg1
      have d1 := hF2 _ _ hg1
      have d2 := hF2 _ _ hg2
      rw [← Nat.add_assoc] at d2
      have hgl : g' < wr.heap.size := by have := LT2.out g' rfl; omega
      obtain ⟨qo, qv⟩ := y
      simp only at c1 c2 d1 d2
      obtain ⟨Q, hQ⟩ : ∃ Q : Nat, 192 + 8 * qo = Q := ⟨_, rfl⟩
      rw [hQ] at c1 d1
      have z1 : ((Q : Int) != Q) = false := by simp
      have z2 : ((qv : Int) != qv) = false := by simp
      clear hg1 hg2 hE hE2 hF hF2 hy hQ
      go_wp2_with fail
      go_quiet (fail)
      go_wp2_with fail
      go_roundw
      case rel => exact ⟨m + 1, by omega, by go_num, B.out.trans ((below_drewN wr _ _).mono hsz)⟩
      case measure => simp [intOf]; omega
    · obtain rfl : m = n := by omega
      have hlt' : ¬ (m : Int) < m := by omega
      have HST2 := Lib.hid (HST.out wr _ (RD1.out.below B.out))
      have M3 := Lib.hid (M2.out.next B.out)
      have K3 := Lib.hid (K2.out.below B.out)
      clear HST M2 K2 RD1 RD2
      go_wp2_with fail
      (with_reducible refine HST2.out.mono ?_)
      rintro r w5 ⟨pv, rfl, hp5⟩
      have P5 := Lib.hid hp5
      obtain ⟨pa, pc, rfl⟩ := hp5.slice
      clear hp5
      go_wp2_with fail
      (with_reducible refine (thread0_any (M3.out.next P5.out.bel).st.dev).mono ?_)
      rintro r w6 ⟨rfl, rfl⟩
      go_wp2_with fail
      (with_reducible refine (HRUN.out _ _ _ M3.out.st.dev P5.out).mono ?_)
      rintro r w7 ⟨rfl, hP⟩
      obtain ⟨own7, D7, h7, he7, hk7⟩ := HAA.out _ _ _ _ _ M3.out hP
      rw [he7]
      have M7 := Lib.hid h7
      have K7 := Lib.hid (hk7 _ _ _ K3.out HOW.out).1
      have c1 := K7.out.cell (i := 1) (v := .string s) rfl
      have c2 := K7.out.cell (i := 2) (v := .int .u64 p) rfl
      clear hP h7 he7 hk7
      go_wp2_with fail
      (with_reducible refine (HC.out _ _ _ _ _ M7.out).mono ?_)
      rintro r w8 ⟨rfl, h8, _⟩
      have M8 := Lib.hid h8
      clear h8 c1 c2
      go_wp2_with fail
      go_ret
      exact ⟨rfl, _, _, by rw [HW2.out]; exact M8.out.same⟩
end
end Go.Proofs.YtmfchlliechikaaGreatDoor
