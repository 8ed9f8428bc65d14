/- The walks of Plan, run, Set and Remove of package root. -/
import Derived.Test.YtmfchlliechikaaGreatDoorRtH
import Derived.Test.YtmfchlliechikaaGreatDoorRunU
namespace Go.Proofs.YtmfchlliechikaaGreatDoor
open Go.RowKit Go.Maps
attribute [local go_sem ↓] Go.wp_at_zero Go.wp_at_succ

/-- The program of a change. -/
def progR (off : Nat) (W : Nat → Nat) (l : List UInt8) (p : Nat) : List (Nat × Nat × Int) := storesL (wrO off (wrE W l p))
theorem wrO_len (off : Nat) (ws : List (Nat × Nat)) : (wrO off ws).length = ws.length := by simp [wrO]
theorem wrE_len (W : Nat → Nat) (l : List UInt8) (p : Nat) : (wrE W l p).length ≤ 4 := by
  unfold wrE newW; split
  · simp
  · split <;> simp
theorem wrE_in (W : Nat → Nat) (l : List UInt8) (p sz : Nat) (h : errE W l p sz = 0) (hp : p < 18446744073709551616) : ∀ e ∈ wrE W l p, e.1 < 64 ∧ e.2 < 18446744073709551616 := by
  intro e he
  unfold errE at h
  have l0 := pk0_lt l; have l1 := pk1_lt l; have lt := tagN_lt (pk0 l) (pk1 l)
  unfold wrE newW at he
  by_cases hp0 : p = 0
  · rw [if_pos hp0] at he
    simp only [List.mem_singleton] at he
    subst he
    simp only [hp0, if_true] at h
    split at h
    · omega
    · split at h
      · omega
      · split at h
        · simp only; omega
        · omega
  · rw [if_neg hp0] at he
    simp only [if_neg hp0] at h
    split at h
    · omega
    · split at h
      · omega
      · split at h
        · rename_i hf
          rw [if_pos hf] at he
          simp only [List.mem_singleton] at he
          subst he
          simp only; omega
        · rename_i hf
          rw [if_neg hf] at he
          split at h
          · rename_i hfr
            simp only [List.mem_cons, List.not_mem_nil, or_false] at he
            rcases he with rfl | rfl | rfl | rfl <;> simp only <;> omega
          · omega
section
variable {w wx : World} {v : DV} {own : Nat → Option Role} {D : Dev} {j b off : Nat} {W : Nat → Nat}
/-- What Plan answers. -/
def Pn14 (w : World) (W : Nat → Nat) (off : Nat) (l : List UInt8) (p sz : Nat) (r : Ending) (w' : World) : Prop :=
  (errE W l p sz ≠ 0 ∧ r = .returned (.tuple #[.slice none 0 0, .int .i64 (errE W l p sz : Nat)]) ∧ Below w.heap.size w w') ∨
  (errE W l p sz = 0 ∧ ∃ ov, r = .returned (.tuple #[ov, .int .i64 0]) ∧ Acc w w.heap.size w' 87 3 ov (progR off W l p).length (instrC (progR off W l p)))
set_option maxRecDepth 100000 in
set_option maxHeartbeats 4000000 in
theorem rtPlan_any (h : DOn w v own D j b off W) (hN : Nib w) (s : ByteArray) (p : Nat) (hp : p < 18446744073709551616) :
    Calls Tryz.prog 28 #[.pointer (some ⟨b, 0, none⟩), .string s, .int .u64 p] w (Pn14 w W off s.toList p (64 * D.n)) := by
  have HA := Lib.hid (rtActions_any h hN s p hp)
  have hin := fun he => wrE_in W s.toList p (64 * D.n) he hp
  have hln := wrE_len W s.toList p
  have hob := h.le
  have HST := Lib.hid (fun (wx : World) sv (he : errE W s.toList p (64 * D.n) = 0) hr => stores_any (w := wx) sv (wrO off (wrE W s.toList p)) hr (by rw [wrO_len]; omega) (fun e hm => by
    unfold wrO at hm
    obtain ⟨x, hx, rfl⟩ := List.mem_map.1 hm
    have := hin he x hx
    show off + 8 * x.1 < _
    omega))
  have HPD : Hid (storesL (wrO off (wrE W s.toList p)) = progR off W s.toList p) := rfl
  rw [HPD.out] at HST
  clear h hN hin
  go_enter Tryz.func28, Tryz.ntmps28
  go_wp2_with fail
  (with_reducible refine HA.out.mono ?_)
  rintro r w1 (⟨he, rfl, b1⟩ | ⟨he, ov, rfl, ha⟩)
  · have HE := Lib.hid (And.intro he b1)
    obtain ⟨er, her⟩ : ∃ er, errE W s.toList p (64 * D.n) = er := ⟨_, rfl⟩
    have HER := Lib.hid her
    rw [her] at he ⊢
    have hq : ((er : Nat) : Int) ≠ 0 := by omega
    have hq2 : (((er : Nat) : Int) != 0) = true := by simpa using he
    clear her he b1 hq
    go_wp2_with fail
    go_ret2
    exact .inl ⟨HE.out.1, by rw [HER.out]; rfl, HE.out.2⟩
  · have HST2 := Lib.hid (HST.out _ _ he ha.rd)
    have HE := Lib.hid (And.intro he ha.bel)
    obtain ⟨oa, oc, rfl⟩ := ha.slice
    clear he ha
    go_wp2_with fail
    (with_reducible refine HST2.out.mono ?_)
    rintro r w2 ⟨pv, rfl, hp2⟩
    obtain ⟨pa, pc, rfl⟩ := hp2.slice
    have HP2 := Lib.hid (hp2.deeper HE.out.2)
    clear hp2
    go_wp2_with fail
    go_ret2
    exact .inr ⟨HE.out.1, _, rfl, HP2.out⟩
/-- What a change answers, and what it leaves. -/
def Rn14 (w : World) (v : DV) (own : Nat → Option Role) (D : Dev) (j : Nat) (P : List (Nat × Nat × Int)) (er : Nat) (r : Ending) (w' : World) : Prop :=
  (er ≠ 0 ∧ r = .returned (.int .i64 (er : Nat)) ∧ Below w.heap.size w w') ∨ (er = 0 ∧ r = .returned (.int .i64 ((D.run j P).err j)) ∧ DPost v own w (D.run j P) w')
theorem progR_len (off : Nat) (W : Nat → Nat) (l : List UInt8) (p : Nat) : (progR off W l p).length ≤ 9 := by
  have := storesL_len (wrO off (wrE W l p))
  rw [wrO_len] at this
  have := wrE_len W l p
  unfold progR
  omega
theorem progR_ok {sz : Nat} (off : Nat) (W : Nat → Nat) (l : List UInt8) (p : Nat) (hob : off ≤ 262144) (he : errE W l p sz = 0) (hp : p < 18446744073709551616) : instrOk (progR off W l p) :=
  storesL_ok _ fun e hm => by
    unfold wrO at hm
    obtain ⟨x, hx, rfl⟩ := List.mem_map.1 hm
    have := wrE_in W l p sz he hp x hx
    show off + 8 * x.1 < _
    omega
set_option maxRecDepth 100000 in
set_option maxHeartbeats 4000000 in
theorem rtrun_any (h : DOn w v own D j b off W) (hN : Nib w) (s : ByteArray) (p : Nat) (hp : p < 18446744073709551616) (hx : D.exec + 100000 < 4294967296) :
    Calls Tryz.prog 66 #[.pointer (some ⟨b, 0, none⟩), .string s, .int .u64 p] w (Rn14 w v own D j (progR off W s.toList p) (errE W s.toList p (64 * D.n))) := by
  have HA := Lib.hid (rtPlan_any h hN s p hp)
  have H := Lib.hid h
  have HR := Lib.hid (fun (wb : World) (pv : Value) (he : errE W s.toList p (64 * D.n) = 0) (ha : Acc w w.heap.size wb 87 3 pv (progR off W s.toList p).length (instrC (progR off W s.toList p))) =>
    run_acc h.dev h.hj ha (progR_ok off W s.toList p h.le he hp) (by have := progR_len off W s.toList p; omega) hx)
  clear h hN
  go_enter Tryz.func66, Tryz.ntmps66
  go_wp2_with fail
  (with_reducible refine HA.out.mono ?_)
  rintro r w1 (⟨he, rfl, b1⟩ | ⟨he, ov, rfl, ha⟩)
  · have HE := Lib.hid (And.intro he b1)
    obtain ⟨er, her⟩ : ∃ er, errE W s.toList p (64 * D.n) = er := ⟨_, rfl⟩
    have HER := Lib.hid her
    rw [her] at he ⊢
    have hq2 : (((er : Nat) : Int) != 0) = true := by simpa using he
    clear her he b1
    go_wp2_with fail
    go_ret
    exact .inl ⟨HE.out.1, by rw [HER.out]; rfl, HE.out.2⟩
  · have HR2 := Lib.hid (HR.out _ _ he ha)
    have HE := Lib.hid he
    have c0 := (H.out.dir.next ha.bel).blk.cell (i := 0) (v := .iface 42 (.pointer (some ⟨v.tb j, 0, none⟩))) rfl
    obtain ⟨oa, oc, rfl⟩ := ha.slice
    clear he ha
    go_wp2_with fail
    (with_reducible refine HR2.out.mono ?_)
    rintro r w2 ⟨rfl, p2⟩
    have P2 := Lib.hid p2; clear p2
    go_wp2_with fail
    go_ret
    exact .inr ⟨HE.out, rfl, P2.out⟩
/-- The error of Set. -/
def errS (W : Nat → Nat) (l : List UInt8) (p sz : Nat) : Nat := if nameB l = false then 15 else if p = 0 then 1 else errE W l p sz
set_option maxRecDepth 100000 in
set_option maxHeartbeats 4000000 in
theorem rtSet_any (h : DOn w v own D j b off W) (hN : Nib w) (s : ByteArray) (p : Nat) (hp : p < 18446744073709551616) (hx : D.exec + 100000 < 4294967296) :
    Calls Tryz.prog 30 #[.pointer (some ⟨b, 0, none⟩), .string s, .int .u64 p] w (Rn14 w v own D j (progR off W s.toList p) (errS W s.toList p (64 * D.n))) := by
  have H := Lib.hid h
  have HR := Lib.hid (rtrun_any h hN s p hp hx)
  have hnm := fun (wx : World) => rtName_any (w := wx) s
  have hnl := fun (wx : World) => PtrNil_any (w := wx) p
  have HES : Hid (errS W s.toList p (64 * D.n) = if nameB s.toList = false then 15 else if p = 0 then 1 else errE W s.toList p (64 * D.n)) := rfl
  clear h hN
  cases hnb : nameB s.toList
  · rw [hnb] at hnm
    have HNM := Lib.hid hnm
    have HE : Hid (errS W s.toList p (64 * D.n) = 15) := by show _ = _; rw [HES.out, if_pos hnb]
    go_enter Tryz.func30, Tryz.ntmps30
    go_wp2_with fail
    (with_reducible refine (H.out.has).mono ?_)
    rintro r w' ⟨rfl, rfl⟩
    go_wp2_with fail
    (with_reducible refine (HNM.out _).mono ?_)
    rintro r w' ⟨rfl, rfl⟩
    go_wp2_with fail
    go_ret
    exact .inl ⟨by rw [HE.out]; decide, by rw [HE.out]; rfl, Below.refl _ _⟩
  · rw [hnb] at hnm
    have HNM := Lib.hid hnm
    by_cases h0 : p = 0
    · rw [show (p == 0) = true by simp [h0]] at hnl
      have HNL := Lib.hid hnl
      have HE : Hid (errS W s.toList p (64 * D.n) = 1) := by show _ = _; rw [HES.out, if_neg (by rw [hnb]; simp), if_pos h0]
      clear h0
      go_enter Tryz.func30, Tryz.ntmps30
      go_wp2_with fail
      (with_reducible refine (H.out.has).mono ?_)
      rintro r w' ⟨rfl, rfl⟩
      go_wp2_with fail
      (with_reducible refine (HNM.out _).mono ?_)
      rintro r w' ⟨rfl, rfl⟩
      go_wp2_with fail
      (with_reducible refine (HNL.out _).mono ?_)
      rintro r w' ⟨rfl, rfl⟩
      go_wp2_with fail
      go_ret
      exact .inl ⟨by rw [HE.out]; decide, by rw [HE.out]; rfl, Below.refl _ _⟩
    · rw [show (p == 0) = false by simp [h0]] at hnl
      have HNL := Lib.hid hnl
      have HE : Hid (errS W s.toList p (64 * D.n) = errE W s.toList p (64 * D.n)) := by show _ = _; rw [HES.out, if_neg (by rw [hnb]; simp), if_neg h0]
      clear h0
      go_enter Tryz.func30, Tryz.ntmps30
      go_wp2_with fail
      (with_reducible refine (H.out.has).mono ?_)
      rintro r w' ⟨rfl, rfl⟩
      go_wp2_with fail
      (with_reducible refine (HNM.out _).mono ?_)
      rintro r w' ⟨rfl, rfl⟩
      go_wp2_with fail
      (with_reducible refine (HNL.out _).mono ?_)
      rintro r w' ⟨rfl, rfl⟩
      go_wp2_with fail
      (with_reducible refine HR.out.mono ?_)
      rintro r w1 (⟨he, rfl, b1⟩ | ⟨he, rfl, p1⟩)
      · have HH := Lib.hid (And.intro he b1)
        clear he b1
        go_wp2_with fail
        go_ret
        exact .inl ⟨by rw [HE.out]; exact HH.out.1, by rw [HE.out]; rfl, HH.out.2⟩
      · have HH := Lib.hid (And.intro he p1)
        clear he p1
        go_wp2_with fail
        go_ret
        exact .inr ⟨by rw [HE.out]; exact HH.out.1, rfl, HH.out.2⟩
set_option maxRecDepth 100000 in
set_option maxHeartbeats 4000000 in
theorem rtRemove_any (h : DOn w v own D j b off W) (hN : Nib w) (s : ByteArray) (hx : D.exec + 100000 < 4294967296) :
    Calls Tryz.prog 31 #[.pointer (some ⟨b, 0, none⟩), .string s] w (Rn14 w v own D j (progR off W s.toList 0) (errE W s.toList 0 (64 * D.n))) := by
  have hr := rtrun_any h hN s 0 (by omega) hx
  rw [show ((0 : Nat) : Int) = 0 from rfl] at hr
  have HR := Lib.hid hr
  clear h hN hr
  go_enter Tryz.func31, Tryz.ntmps31
  go_wp2_with fail
  (with_reducible refine HR.out.mono ?_)
  rintro r w1 (⟨he, rfl, b1⟩ | ⟨he, rfl, p1⟩)
  · have HH := Lib.hid (And.intro he b1)
    clear he b1
    go_wp2_with fail
    go_ret
    exact .inl ⟨HH.out.1, rfl, HH.out.2⟩
  · have HH := Lib.hid (And.intro he p1)
    clear he p1
    go_wp2_with fail
    go_ret
    exact .inr ⟨HH.out.1, rfl, HH.out.2⟩
end
end Go.Proofs.YtmfchlliechikaaGreatDoor
