/- The walks of package root over a nil directory; lacks and Format. -/
import Derived.Test.YtmfchlliechikaaGreatDoorRtI
namespace Go.Proofs.YtmfchlliechikaaGreatDoor
open Go.RowKit Go.Maps
attribute [local go_sem ↓] Go.wp_at_zero Go.wp_at_succ

section
variable {w : World}
set_option maxRecDepth 100000 in
set_option maxHeartbeats 1000000 in
theorem rtActions_nil (s : ByteArray) (p : Int) : Calls Tryz.prog 27 #[.pointer none, .string s, .int .u64 p] w fun r w' => r = .returned (.tuple #[.slice none 0 0, .int .i64 1]) ∧ w = w' := by
  have HN := Lib.hid (fun wx => rtnone_nil (w := wx))
  go_enter Tryz.func27, Tryz.ntmps27
  go_wp2_with fail
  (with_reducible refine (HN.out _).mono ?_)
  rintro r w' ⟨rfl, rfl⟩
  go_wp2_with fail
  go_ret2
  exact ⟨rfl, rfl⟩
set_option maxRecDepth 100000 in
set_option maxHeartbeats 1000000 in
theorem rtPlan_nil (s : ByteArray) (p : Int) : Calls Tryz.prog 28 #[.pointer none, .string s, .int .u64 p] w fun r w' => r = .returned (.tuple #[.slice none 0 0, .int .i64 1]) ∧ w = w' := by
  have HN := Lib.hid (fun wx => rtActions_nil (w := wx) s p)
  go_enter Tryz.func28, Tryz.ntmps28
  go_wp2_with fail
  (with_reducible refine (HN.out _).mono ?_)
  rintro r w' ⟨rfl, rfl⟩
  go_wp2_with fail
  go_ret2
  exact ⟨rfl, rfl⟩
set_option maxRecDepth 100000 in
set_option maxHeartbeats 1000000 in
theorem rtrun_nil (s : ByteArray) (p : Int) : Calls Tryz.prog 66 #[.pointer none, .string s, .int .u64 p] w fun r w' => r = .returned (.int .i64 1) ∧ w = w' := by
  have HN := Lib.hid (fun wx => rtPlan_nil (w := wx) s p)
  go_enter Tryz.func66, Tryz.ntmps66
  go_wp2_with fail
  (with_reducible refine (HN.out _).mono ?_)
  rintro r w' ⟨rfl, rfl⟩
  go_wp2_with fail
  go_ret
  exact ⟨rfl, rfl⟩
set_option maxRecDepth 100000 in
set_option maxHeartbeats 1000000 in
theorem rtSet_nil (s : ByteArray) (p : Int) : Calls Tryz.prog 30 #[.pointer none, .string s, .int .u64 p] w fun r w' => r = .returned (.int .i64 1) ∧ w = w' := by
  have HN := Lib.hid (fun wx => rtnone_nil (w := wx))
  go_enter Tryz.func30, Tryz.ntmps30
  go_wp2_with fail
  (with_reducible refine (HN.out _).mono ?_)
  rintro r w' ⟨rfl, rfl⟩
  go_wp2_with fail
  go_ret
  exact ⟨rfl, rfl⟩
set_option maxRecDepth 100000 in
set_option maxHeartbeats 1000000 in
theorem rtRemove_nil (s : ByteArray) : Calls Tryz.prog 31 #[.pointer none, .string s] w fun r w' => r = .returned (.int .i64 1) ∧ w = w' := by
  have HN := Lib.hid (fun wx => rtrun_nil (w := wx) s 0)
  go_enter Tryz.func31, Tryz.ntmps31
  go_wp2_with fail
  (with_reducible refine (HN.out _).mono ?_)
  rintro r w' ⟨rfl, rfl⟩
  go_wp2_with fail
  go_ret
  exact ⟨rfl, rfl⟩
set_option maxRecDepth 100000 in
set_option maxHeartbeats 1000000 in
theorem rtList_nil : Calls Tryz.prog 29 #[.pointer none] w fun r w' => r = .returned (.slice none 0 0) ∧ w = w' := by
  have HN := Lib.hid (fun wx => rtnone_nil (w := wx))
  go_enter Tryz.func29, Tryz.ntmps29
  go_wp2_with fail
  (with_reducible refine (HN.out _).mono ?_)
  rintro r w' ⟨rfl, rfl⟩
  go_wp2_with fail
  go_ret
  exact ⟨rfl, rfl⟩
set_option maxRecDepth 100000 in
set_option maxHeartbeats 1000000 in
theorem rtlacks_nil (l : Int) : Calls Tryz.prog 47 #[.nilIface, .int .i64 l] w fun r w' => r = .returned (.bool true) ∧ w = w' := by
  go_enter Tryz.func47, Tryz.ntmps47
  go_wp2_with fail
  go_ret
  exact ⟨rfl, rfl⟩
end
section
variable {w : World} {v : DV} {own : Nat → Option Role} {D : Dev} {j : Nat}
/-- A memory of n lines lacks the lines of a directory at a line. -/
def lackB (n : Nat) (l : Int) : Bool := decide (l < 0 ∨ n < 8 ∨ (n : Int) - 8 < l)
set_option maxRecDepth 100000 in
set_option maxHeartbeats 2000000 in
theorem rtlacks_any (h : IsDev w v own D) (hj : j < 8) (l : Int) (hl : l < 9223372036854775808) : Calls Tryz.prog 47 #[.iface 42 (.pointer (some ⟨v.tb j, 0, none⟩)), .int .i64 l] w fun r w' => r = .returned (.bool (lackB D.n l)) ∧ w = w' := by
  have hms := meth_Size ⟨v.tb j, 0, none⟩
  have hszz := thrSize_any h hj
  have hn1 := h.wf.pos; have hn2 := h.wf.le
  generalize D.n = n at *
  have hdv : ((n : Int) * 64) / 64 = (n : Int) := by omega
  have HSIZE := Lib.hid hszz
  clear h hszz
  by_cases h0 : l < 0
  · rw [show lackB n l = true by unfold lackB; simp [h0]]
    go_enter Tryz.func47, Tryz.ntmps47
    go_wp2_with fail
    go_ret
    exact ⟨rfl, rfl⟩
  · obtain ⟨k, rfl⟩ : ∃ k : Nat, l = k := ⟨l.toNat, by omega⟩
    by_cases h8 : n < 8
    · rw [show lackB n k = true by unfold lackB; simp [h8]]
      have h8' : (n : Int) < 8 := by omega
      go_enter Tryz.func47, Tryz.ntmps47
      go_wp2_with fail
      (with_reducible refine HSIZE.out.mono ?_)
      rintro r w' ⟨rfl, rfl⟩
      go_wp2_with fail
      go_ret
      exact ⟨rfl, rfl⟩
    · have HL : Hid (lackB n k = decide ((n : Int) - 8 < (k : Int))) := by
        show _ = _
        unfold lackB
        rw [decide_eq_decide]
        omega
      generalize lackB n k = lb at *
      obtain ⟨q, hq⟩ : ∃ q : Int, (n : Int) - 8 = q := ⟨_, rfl⟩
      have hqb : 0 ≤ q ∧ q ≤ 4096 := by omega
      obtain ⟨N, hN⟩ : ∃ N : Int, (n : Int) = N := ⟨_, rfl⟩
      rw [hN] at HSIZE hdv hq
      rw [hN, hq] at HL
      have hwq : IntKind.u64.wrap (N - 8) = q := by rw [hq]; exact IntWalk.u64_in _ (by omega)
      have hN8 : ¬ N < 8 := by omega
      have hwN : IntKind.u64.wrap N = N := IntWalk.u64_in _ (by omega)
      have hcv : ∀ wx : World, (Go.convert 3 32 (.int .i64 (k : Int))).run Tryz.prog wx = .ok (.int .u64 (k : Int)) wx := fun wx => by
        rw [run_convert_int (P := Tryz.prog) wx 3 32 .i64 (k : Int) (by kernel_rfl) (by kernel_rfl), show Tryz.prog.intKind 32 = .u64 by kernel_rfl, IntWalk.u64_in _ (by omega)]
      have HL0 := Lib.hid (And.intro hl (And.intro hq (And.intro hqb hN)))
      clear hl hq hqb hN hn1 hn2 h8 h0
      go_enter Tryz.func47, Tryz.ntmps47
      go_wp2_with fail
      (with_reducible refine HSIZE.out.mono ?_)
      rintro r w' ⟨rfl, rfl⟩
      go_wp2_with fail
      go_ret
      exact ⟨by rw [HL.out]; show Ending.returned (.bool (decide (N < 8) || decide (q < (k : Int)))) = _; rw [show decide (N < 8) = false by simp; omega]; rfl, rfl⟩
end
end Go.Proofs.YtmfchlliechikaaGreatDoor

/- The walk of Format of package root. -/
namespace Go.Proofs.YtmfchlliechikaaGreatDoor
open Go.RowKit Go.Maps
attribute [local go_sem ↓] Go.wp_at_zero Go.wp_at_succ

/-- What Format writes. -/
def fmtL (off : Nat) : List (Nat × Int) := (List.range 16).map fun e => (off + 32 * e + 24, 0)
def fmtP (off : Nat) : List (Nat × Nat × Int) := storesL (fmtL off)
theorem fmtL_take (off k : Nat) (hk : k < 16) : flat ((fmtL off).take (k + 1)) = flat ((fmtL off).take k) ++ flat [(off + 32 * k + 24, 0)] := by
  rw [← flat_append]
  congr 1
  unfold fmtL
  rw [← List.map_take, ← List.map_take, List.take_range, List.take_range, show min (k + 1) 16 = k + 1 by omega, show min k 16 = k by omega, List.range_succ, List.map_append]
  rfl
theorem fmtP_ok (off : Nat) (h : off ≤ 262144) : instrOk (fmtP off) := storesL_ok _ fun e he => by
  unfold fmtL at he
  obtain ⟨x, hx, rfl⟩ := List.mem_map.1 he
  have := List.mem_range.1 hx
  show off + 32 * x + 24 < _
  omega
theorem fmtP_len (off : Nat) : (fmtP off).length ≤ 33 := by
  have := storesL_len (fmtL off)
  have h : (fmtL off).length = 16 := by simp [fmtL]
  unfold fmtP; omega
section
variable {w : World}
set_option maxRecDepth 100000 in
set_option maxHeartbeats 1000000 in
theorem rtFormat_nil (l : Int) : Calls Tryz.prog 21 #[.nilIface, .int .i64 l] w fun r w' => r = .returned (.int .i64 1) ∧ w = w' := by
  have HN := Lib.hid (fun wx => rtlacks_nil (w := wx) l)
  go_enter Tryz.func21, Tryz.ntmps21
  go_wp2_with fail
  (with_reducible refine (HN.out _).mono ?_)
  rintro r w' ⟨rfl, rfl⟩
  go_wp2_with fail
  go_ret
  exact ⟨rfl, rfl⟩
set_option maxRecDepth 100000 in
set_option maxHeartbeats 1000000 in
theorem rtOpen_nil (l : Int) : Calls Tryz.prog 18 #[.nilIface, .int .i64 l] w fun r w' => r = .returned (.tuple #[.pointer none, .int .i64 1]) ∧ w = w' := by
  have HN := Lib.hid (fun wx => rtlacks_nil (w := wx) l)
  go_enter Tryz.func18, Tryz.ntmps18
  go_wp2_with fail
  (with_reducible refine (HN.out _).mono ?_)
  rintro r w' ⟨rfl, rfl⟩
  go_wp2_with fail
  go_ret2
  exact ⟨rfl, rfl⟩
end
section
variable {w : World} {v : DV} {own : Nat → Option Role} {D : Dev} {j : Nat}
set_option maxRecDepth 100000 in
set_option maxHeartbeats 1000000 in
theorem rtFormat_lack (h : IsDev w v own D) (hj : j < 8) (l : Int) (hl : l < 9223372036854775808) (hk : lackB D.n l = true) : Calls Tryz.prog 21 #[.iface 42 (.pointer (some ⟨v.tb j, 0, none⟩)), .int .i64 l] w fun r w' => r = .returned (.int .i64 1) ∧ w = w' := by
  have hn := rtlacks_any h hj l hl
  rw [hk] at hn
  have HN := Lib.hid hn
  clear h hn hl hk
  go_enter Tryz.func21, Tryz.ntmps21
  go_wp2_with fail
  (with_reducible refine HN.out.mono ?_)
  rintro r w' ⟨rfl, rfl⟩
  go_wp2_with fail
  go_ret
  exact ⟨rfl, rfl⟩
set_option maxRecDepth 100000 in
set_option maxHeartbeats 1000000 in
theorem rtOpen_lack (h : IsDev w v own D) (hj : j < 8) (l : Int) (hl : l < 9223372036854775808) (hk : lackB D.n l = true) : Calls Tryz.prog 18 #[.iface 42 (.pointer (some ⟨v.tb j, 0, none⟩)), .int .i64 l] w fun r w' => r = .returned (.tuple #[.pointer none, .int .i64 1]) ∧ w = w' := by
  have hn := rtlacks_any h hj l hl
  rw [hk] at hn
  have HN := Lib.hid hn
  clear h hn hl hk
  go_enter Tryz.func18, Tryz.ntmps18
  go_wp2_with fail
  (with_reducible refine HN.out.mono ?_)
  rintro r w' ⟨rfl, rfl⟩
  go_wp2_with fail
  go_ret2
  exact ⟨rfl, rfl⟩
set_option maxRecDepth 100000 in
set_option maxHeartbeats 1000000 in
theorem rtFormat_err (h : IsDev w v own D) (hj : j < 8) (l : Int) (hl : l < 9223372036854775808) (hk : lackB D.n l = false) (he : D.err j ≠ 0) : Calls Tryz.prog 21 #[.iface 42 (.pointer (some ⟨v.tb j, 0, none⟩)), .int .i64 l] w fun r w' => r = .returned (.int .i64 (D.err j)) ∧ w = w' := by
  have hm2 := meth_Err ⟨v.tb j, 0, none⟩
  have hn := rtlacks_any h hj l hl
  rw [hk] at hn
  have HN := Lib.hid hn
  have HER := Lib.hid (err_any h hj)
  have hq : (D.err j != 0) = true := by simpa using he
  generalize D.err j = e at *
  clear h hn hl hk he
  go_enter Tryz.func21, Tryz.ntmps21
  go_wp2_with fail
  (with_reducible refine HN.out.mono ?_)
  rintro r w' ⟨rfl, rfl⟩
  go_wp2_with fail
  (with_reducible refine HER.out.mono ?_)
  rintro r w' ⟨rfl, rfl⟩
  go_wp2_with fail
  go_ret
  exact ⟨rfl, rfl⟩
set_option maxRecDepth 100000 in
set_option maxHeartbeats 4000000 in
theorem rtFormat_any (h : IsDev w v own D) (hj : j < 8) (l : Nat) (hl : l + 8 ≤ D.n) (he : D.err j = 0) (hx : D.exec + 100000 < 4294967296) :
    Calls Tryz.prog 21 #[.iface 42 (.pointer (some ⟨v.tb j, 0, none⟩)), .int .i64 l] w fun r w' => r = .returned (.int .i64 ((D.run j (fmtP (64 * l))).err j)) ∧ DPost v own w (D.run j (fmtP (64 * l))) w' := by
  obtain ⟨i0, hi0, hz0, hz1, hz2⟩ := info_parts infoWrite
  have I := Lib.hid (And.intro hi0 (And.intro hz0 (And.intro hz1 hz2))); clear hi0 hz0 hz1 hz2
  have hm2 := meth_Err ⟨v.tb j, 0, none⟩
  have hwf := h.wf.le
  have hn := rtlacks_any h hj l (by omega)
  rw [show lackB D.n l = false by unfold lackB; simp; omega] at hn
  have HN := Lib.hid hn
  have hER := err_any h hj
  rw [he] at hER
  have HER := Lib.hid hER
  have H := Lib.hid h
  have hlb : l ≤ 4096 := by omega
  obtain ⟨o, ho⟩ : ∃ o, 64 * l = o := ⟨_, rfl⟩
  have hol : o ≤ 262144 := by omega
  have q1 : (l : Int) * 64 = (o : Int) := by omega
  rw [ho]
  have HR := Lib.hid (fun (wb : World) (pv : Value) (ha : Acc w w.heap.size wb 87 3 pv (fmtP o).length (instrC (fmtP o))) => run_acc h hj ha (fmtP_ok o hol) (by have := fmtP_len o; omega) hx)
  have HAT := Lib.hid (fun (wx : World) (b : Nat) (hx : DirAt wx b o (.iface 42 (.pointer (some ⟨v.tb j, 0, none⟩)))) (e : Nat) (he : e < 16) => rtat_any hx e 3 he (by omega) hol)
  have HST := Lib.hid (fun (wx : World) sv (hs : RdSl wx 2 sv 16 (flat (fmtL o))) => stores_any (w := wx) sv (fmtL o) (by rw [show (fmtL o).length = 16 by simp [fmtL]]; exact hs) (by simp [fmtL]) (fun e hm => by
    unfold fmtL at hm
    obtain ⟨x, hx, rfl⟩ := List.mem_map.1 hm
    have := List.mem_range.1 hx
    show o + 32 * x + 24 < _
    omega))
  have HFP : Hid (storesL (fmtL o) = fmtP o) := rfl
  rw [HFP.out] at HST
  have HTK := Lib.hid (fmtL_take o)
  have HT16 : Hid (flat ((fmtL o).take 16) = flat (fmtL o)) := by show _ = _; rw [List.take_of_length_le (by simp [fmtL])]
  have HT0 : Hid (flat ((fmtL o).take 0) = []) := rfl
  have HB0 : Hid (DirAt (w.alloc (.cells #[.iface 42 (.pointer (some ⟨v.tb j, 0, none⟩)), .int .u64 o] 120)) w.heap.size o (.iface 42 (.pointer (some ⟨v.tb j, 0, none⟩)))) := ⟨Blk.new w _ _⟩
  have HBB := Lib.hid (below_alloc w (.cells #[.iface 42 (.pointer (some ⟨v.tb j, 0, none⟩)), .int .u64 o] 120))
  generalize fmtP o = P at *
  clear h hn hER he ho hl hx hwf
  go_enter Tryz.func21, Tryz.ntmps21
  go_wp2_with fail
  (with_reducible refine HN.out.mono ?_)
  rintro r w' ⟨rfl, rfl⟩
  go_wp2_with fail
  (with_reducible refine HER.out.mono ?_)
  rintro r w' ⟨rfl, rfl⟩
  go_wp2_with fail
  have A0 : Hid (Acc w w.heap.size (w.alloc (.cells #[.iface 42 (.pointer (some ⟨v.tb j, 0, none⟩)), .int .u64 o] 120)) 103 2 (.slice none 0 0) 0 (flat ((fmtL o).take 0))) := Acc.nil _ _ _ _ _ HBB.out HBB.out.size
  have A1 : Hid (DirAt (w.alloc (.cells #[.iface 42 (.pointer (some ⟨v.tb j, 0, none⟩)), .int .u64 o] 120)) w.heap.size o (.iface 42 (.pointer (some ⟨v.tb j, 0, none⟩)))) := HB0.out
  go_loopw [7, 8, 23] (fun sv _ y wr => ∃ k : Nat, k ≤ 16 ∧ y = .int .i64 k ∧ Acc w w.heap.size wr 103 2 sv k (flat ((fmtL o).take k)) ∧ DirAt wr w.heap.size o (.iface 42 (.pointer (some ⟨v.tb j, 0, none⟩))) ∧ sv.ownBlock ≠ some w.heap.size) (fun _ _ y _ => 16 - (intOf y).toNat)
  case atStart => exact ⟨0, by omega, rfl, A0.out, A1.out, by simp [Value.ownBlock]⟩
  case round =>
    clear A0 A1
    obtain ⟨k, hk, rfl, ha, hd, hne⟩ := hrel
    obtain ⟨qa, qc, rfl⟩ := ha.slice
    have A := Lib.hid ha; have DA := Lib.hid hd; have NE := Lib.hid hne
    clear ha hd hne
    by_cases hlt : k < 16
    · have hk' : (k : Int) < 16 := by omega
      have HT := Lib.hid (HTK.out k hlt)
      have hat := HAT.out _ _ DA.out k hlt
      obtain ⟨q, hq⟩ : ∃ q, o + 32 * k + 24 = q := ⟨_, rfl⟩
      rw [show o + 32 * k + 8 * 3 = q by omega, show ((3 : Nat) : Int) = 3 from rfl] at hat
      rw [hq] at HT
      have HA := Lib.hid hat
      clear hq hat
      go_wp2_with fail
      (with_reducible refine HA.out.mono ?_)
      rintro r w' ⟨rfl, rfl⟩
      go_wp2_with (at_builtin; refine wpList_append_sl _ rfl _ _ 66 rfl 103 i0 _ 2 16 Tryz.underlying66 I.out.1 I.out.2.1 I.out.2.2.1 I.out.2.2.2 rfl (by decide) _ k (flat ((fmtL o).take k)) rfl (by exact A.out.own.alloc _) _ 1 (flat [(q, 0)]) rfl (by exact RdSl.newAt _ _ _ 2 1 _ (by simp) rfl) (flat_one _) (by unfold maxLen; omega) (by omega) ?_)
      intro v1 w5 o1 g1 n1 m1
      have A2 := Lib.hid (A.out.next (m := 1) (below_alloc wr _) o1 g1 n1 (by simp))
      have hgb : w5.heap[w.heap.size]? = wr.heap[w.heap.size]? := (g1.block _ (Nat.lt_trans DA.out.blk.lt (by simp)) (fun e => NE.out e.symm)).trans (Below.heap_alloc _ _ _ DA.out.blk.lt)
      have D2 : Hid (DirAt w5 w.heap.size o (.iface 42 (.pointer (some ⟨v.tb j, 0, none⟩)))) := ⟨hgb.trans DA.out.blk⟩
      have N2 : Hid (v1.ownBlock ≠ some w.heap.size) := fun e => by
        rcases n1 with n1 | n1
        · rw [ownBlock_addr, n1, ← ownBlock_addr] at e; exact NE.out e
        · rw [ownBlock_addr, n1] at e
          simp at e
          have := DA.out.blk.lt
          omega
      clear o1 g1 n1 m1 A hgb
      rw [← HT.out] at A2
      go_wp2_with fail
      go_roundw
      case rel => exact ⟨k + 1, by omega, by go_num, A2.out, D2.out, N2.out⟩
      case measure => simp [intOf]; omega
    · obtain rfl : k = 16 := by omega
      rw [HT16.out] at A
      have HS2 := Lib.hid (HST.out _ _ A.out.rd)
      go_wp2_with fail
      (with_reducible refine HS2.out.mono ?_)
      rintro r w6 ⟨pv, rfl, hp⟩
      have HR2 := Lib.hid (HR.out _ _ (hp.deeper A.out.bel))
      obtain ⟨pa, pc, rfl⟩ := hp.slice
      clear hp
      go_wp2_with fail
      (with_reducible refine HR2.out.mono ?_)
      rintro r w7 ⟨rfl, p7⟩
      have P7 := Lib.hid p7; clear p7
      go_wp2_with fail
      go_ret
      exact ⟨rfl, P7.out⟩
end
end Go.Proofs.YtmfchlliechikaaGreatDoor
