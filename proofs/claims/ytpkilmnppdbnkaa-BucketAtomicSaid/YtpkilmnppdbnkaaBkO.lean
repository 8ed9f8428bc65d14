/- The reference of layer 31: Free, at, header, Delete, Put. -/
import Derived.Test.YtpkilmnppdbnkaaBkN
import Derived.Test.YtpkilmnppdbnkaaR11
namespace Go.Proofs.Ytpkilmnppdbnkaa
open Go.RowKit

section
variable {w : World} {A : Array Value} {C : Nat → Int} {off : Nat}
set_option maxRecDepth 100000 in
set_option maxHeartbeats 4000000 in
theorem r31Free_any (h : RefB A C off) : Calls Try.prog 58 #[.agg A] w fun r w' => r = .returned (.int .i64 (freI (bkH C off))) ∧ Below w.heap.size w w' := by
  have HUS := Lib.hid (fun wx s (hs : s < 7) => r31Used_any (w := wx) h s hs)
  have X0 := Lib.hid (Bx1.start w A 32)
  have HIN := Lib.hid h.info
  unfold freI
  generalize bkH C off = hdr at *
  clear h
  go_enter Try.func58, Try.ntmps58
  go_wp2_with fail
  go_loopw [3] (fun y wr => ∃ s : Nat, s ≤ 7 ∧ y = .int .i64 s ∧ (∀ t, t < s → (!usedB hdr t) = false) ∧ Bx1 w A 32 wr) (fun y _ => 7 - (intOf y).toNat)
  case atStart => exact ⟨0, by omega, rfl, fun t ht => by omega, X0.out⟩
  case round =>
    obtain ⟨s, hs, rfl, hno, hx⟩ := hrel
    have X := Lib.hid hx; have HNO := Lib.hid hno
    clear hx hno X0
    by_cases hlt : s < 7
    · have h1 : (s : Int) < 7 := by omega
      have HU1 := Lib.hid (HUS.out wr s hlt)
      obtain ⟨ub, hub⟩ : ∃ b, usedB hdr s = b := ⟨_, rfl⟩
      rw [hub] at HU1
      go_wp2_with (refine wpList_load_row rfl 32 (.tmp 1) rfl w.heap.size rfl 32 A (0, 0) _ X.out.blk Try.underlying32 rfl HIN.out ?_)
      (with_reducible refine HU1.out.mono ?_)
      rintro e w1 ⟨rfl, b1⟩
      have X1 := Lib.hid (X.out.next b1)
      clear b1 X HU1
      cases ub
      · have HR := Lib.hid (fstK_hit (p := fun s => !usedB hdr s) hlt (by simp [hub]) HNO.out)
        clear HNO hub
        go_wp2_with fail
        go_ret
        exact ⟨by rw [HR.out]; rfl, X1.out.bel⟩
      · have HN2 : Hid (∀ t, t < s + 1 → (!usedB hdr t) = false) := fun t ht => by
          rcases Nat.lt_or_ge t s with l | l
          · exact HNO.out t l
          · obtain rfl : t = s := by omega
            simp [hub]
        clear HNO hub
        go_wp2_with fail
        go_roundw
        case rel => exact ⟨s + 1, by omega, by go_num, HN2.out, X1.out⟩
        case measure => simp [intOf]; omega
    · obtain rfl : s = 7 := by omega
      have HR := Lib.hid (fstK_miss (p := fun s => !usedB hdr s) HNO.out)
      clear HNO
      go_wp2_with fail
      go_ret
      exact ⟨by rw [HR.out]; rfl, X.out.bel⟩
theorem r31at_any (h : RefB A C off) (i : Nat) (hi : i < 16) : Calls Try.prog 57 #[.agg A, .int .i64 i] w fun r w' => r = .returned (.int .u64 (off + 8 * i : Nat)) ∧ Below w.heap.size w w' := by
  have X0 := Lib.hid (Bx1.start w A 32)
  have c0 := X0.out.blk.cell (i := 0) h.a0
  have hl := h.hl
  have e1 : IntKind.u64.wrap (8 * (i : Int)) = 8 * (i : Int) := IntWalk.u64_in _ (by omega)
  have e2 : IntKind.u64.wrap ((off : Int) + 8 * (i : Int)) = (off : Int) + 8 * (i : Int) := IntWalk.u64_in _ (by omega)
  have he : ((off + 8 * i : Nat) : Int) = (off : Int) + 8 * (i : Int) := by omega
  rw [he]
  clear h he
  go_enter Try.func57, Try.ntmps57
  go_wp2_with fail
  go_ret
  exact ⟨rfl, X0.out.bel⟩
set_option maxRecDepth 100000 in
theorem r31header_any (h : RefB A C off) (x : Int) : Calls Try.prog 62 #[.agg A, .int .u64 x] w fun r w' => ∃ ov, r = .returned ov ∧ Acc w w.heap.size w' 121 3 ov (storesL [(off, x)]).length (instrC (storesL [(off, x)])) := by
  have X0 := Lib.hid (Bx1.start w A 32)
  have c0 := X0.out.blk.cell (i := 0) h.a0
  have hl := h.hl
  have HS := Lib.hid (fun wx sv hs => r10Stores_any (w := wx) sv [(off, x)] hs (by simp) (by simp; omega))
  have HRD : Hid (RdSl ((w.alloc (.cells A 32)).alloc (.cells #[.int .u64 off, .int .u64 x] 117)) 2 (.slice (some ⟨w.heap.size + 1, 0, none⟩) 1 1) [(off, x)].length (flat [(off, x)])) :=
    RdSl.newAt (w.alloc (.cells A 32)) #[.int .u64 off, .int .u64 x] 117 2 1 (w.heap.size + 1) (by simp) rfl
  clear h
  go_enter Try.func62, Try.ntmps62
  go_wp2_with fail
  (with_reducible refine (HS.out _ _ HRD.out).mono ?_)
  rintro e w2 ⟨ov, rfl, ha⟩
  have A2 := Lib.hid (Acc.mid (_wz := w) (X0.out.bel.trans ((below_alloc _ _).mono X0.out.bel.size)) ha)
  obtain ⟨oa, oc, rfl⟩ := ha.slice
  clear ha
  go_wp2_with fail
  go_ret
  exact ⟨_, rfl, A2.out⟩
/-- A reference's program and an error. -/
def ProgR (w : World) (l : List (Nat × Nat × Int)) (e : Int) (r : Ending) (w' : World) : Prop :=
  ∃ pv, r = .returned (.tuple #[pv, .int .i64 e]) ∧ Acc w w.heap.size w' 121 3 pv l.length (instrC l)
set_option maxRecDepth 100000 in
theorem r31Delete_none (h : RefB A C off) (k : Nat) (hf : fstK (rfB C off k) 7 = -1) : Calls Try.prog 27 #[.agg A, .int .u64 k] w (ProgR w [] 5) := by
  have HF := Lib.hid (fun wx => hf ▸ r31Find_any (w := wx) h k)
  have X0 := Lib.hid (Bx1.start w A 32)
  have HIN := Lib.hid h.info
  clear h hf
  go_enter Try.func27, Try.ntmps27
  go_wp2_with (refine wpList_load_row rfl 32 (.tmp 2) rfl w.heap.size rfl 32 A (0, 0) _ X0.out.blk Try.underlying32 rfl HIN.out ?_)
  (with_reducible refine (HF.out _).mono ?_)
  rintro e w1 ⟨rfl, b1⟩
  have X1 := Lib.hid (X0.out.next b1)
  clear b1
  go_wp2_with fail
  go_ret2
  exact ⟨_, rfl, Acc.nil _ _ _ _ _ X1.out.bel X1.out.bel.size⟩
set_option maxRecDepth 100000 in
set_option maxHeartbeats 4000000 in
theorem r31Delete_some (h : RefB A C off) (k : Nat) (s : Nat) (hs : s < 7) (hf : fstK (rfB C off k) 7 = (s : Nat)) : Calls Try.prog 27 #[.agg A, .int .u64 k] w (ProgR w (bkHd off (clearN (bkH C off) s)) 0) := by
  have HF := Lib.hid (fun wx => hf ▸ r31Find_any (w := wx) h k)
  have X0 := Lib.hid (Bx1.start w A 32)
  have HIN := Lib.hid h.info
  have h1 : setF (bkH C off) s 1 0 < 18446744073709551616 := setF_lt (n := 64) h.hb (by omega)
  have HS1 := Lib.hid (fun wx => r01SetField_any (w := wx) (bkH C off) s 1 0 h.hb (by omega) (by omega) (by omega))
  rw [show ((1 : Nat) : Int) = 1 from rfl, show ((0 : Nat) : Int) = 0 from rfl] at HS1
  have hs2 := fun wx => r01SetField_any (w := wx) (setF (bkH C off) s 1 0) (8 + 8 * s) 8 0 h1 (by omega) (by omega) (by omega)
  rw [show ((8 + 8 * s : Nat) : Int) = 8 + 8 * (s : Int) by omega, show ((8 : Nat) : Int) = 8 from rfl, show ((0 : Nat) : Int) = 0 from rfl] at hs2
  rw [show setF (setF (bkH C off) s 1 0) (8 + 8 * s) 8 0 = clearN (bkH C off) s from rfl] at hs2
  have HS2 := Lib.hid hs2
  have HH := Lib.hid (fun wx => r31header_any (w := wx) h ((clearN (bkH C off) s : Nat) : Int))
  have HC1 : Hid (∀ wx, Bx1 w A 32 wx → wx.cell? ⟨w.heap.size, 1, none⟩ = some (.int .u64 (bkH C off : Nat))) := fun wx hx => by
    have := hx.blk.cell (i := 1) (h.wd 0 (by omega))
    rw [Nat.add_zero, h.hd] at this
    exact this
  have w1 : IntKind.i64.wrap (8 * (s : Int)) = 8 * (s : Int) := IntWalk.i64_in _ (by omega)
  have w2 : IntKind.i64.wrap (8 + 8 * (s : Int)) = 8 + 8 * (s : Int) := IntWalk.i64_in _ (by omega)
  unfold bkHd
  generalize clearN (bkH C off) s = cl at *
  generalize setF (bkH C off) s 1 0 = f1 at *
  generalize bkH C off = hdr at *
  clear h hf h1 hs2
  go_enter Try.func27, Try.ntmps27
  go_wp2_with (refine wpList_load_row rfl 32 (.tmp 2) rfl w.heap.size rfl 32 A (0, 0) _ X0.out.blk Try.underlying32 rfl HIN.out ?_)
  (with_reducible refine (HF.out _).mono ?_)
  rintro e w1 ⟨rfl, b1⟩
  have X1 := Lib.hid (X0.out.next b1)
  clear b1 X0
  go_wp2_with fail
  have X4 := Lib.hid (X1.out.next ((Below.refl _ _).drew))
  clear X1
  refine wp_region_held (S := (fun wx => Bx1 w A 32 wx)) (by kernel_rfl) ?_
  change wpAnyH _ _ _ _ _ _ _ _ (World.drew _)
  refine wpAnyH_take (i := 1) (v := .pointer (some ⟨w.heap.size, 1, none⟩)) rfl (by kernel_rfl) (by kernel_rfl) (by kernel_rfl) (fun _ _ _ h => h) (Or.inl ⟨by kernel_rfl, fun w _ => by go_simp⟩) X4.out ?_
  refine wpAnyH_take (i := 2) (v := .pointer (some ⟨w.heap.size, 1, none⟩)) rfl (by kernel_rfl) (by kernel_rfl) (by kernel_rfl) (fun _ _ _ h => h) (Or.inl ⟨by kernel_rfl, fun w _ => by go_simp⟩) X4.out ?_
  refine wpAnyH_take (i := 4) (v := .int .i64 s) rfl (by kernel_rfl) (by kernel_rfl) (by kernel_rfl) (fun _ _ _ h => h) (Or.inl ⟨by kernel_rfl, fun w _ => by go_simp⟩) X4.out ?_
  refine wpAnyH_take (i := 6) (v := .int .i64 s) rfl (by kernel_rfl) (by kernel_rfl) (by kernel_rfl) (fun _ _ _ h => h) (Or.inl ⟨by kernel_rfl, fun w _ => by go_simp⟩) X4.out ?_
  refine wpAnyH_take (i := 0) (v := .agg A) rfl (by kernel_rfl) (by kernel_rfl) (by kernel_rfl) (fun _ _ _ h => h) (Or.inl ⟨by kernel_rfl, fun wx hx => exec_load_row 32 (.tmp 2) rfl w.heap.size rfl 32 A (0, 0) _ hx.blk Try.underlying32 rfl HIN.out⟩) X4.out ?_
  refine wpAnyH_take (i := 3) (v := .int .u64 hdr) rfl (by kernel_rfl) (by kernel_rfl) (by kernel_rfl) (fun _ _ _ h => h) (Or.inl ⟨by kernel_rfl, fun wx hx => exec_load_cell 27 (.tmp 14) rfl ⟨w.heap.size, 1, none⟩ rfl _ (HC1.out _ hx) (aggU64 _)⟩) X4.out ?_
  refine wpAnyH_take (i := 7) (v := .int .i64 (8 * (s : Int))) rfl (by kernel_rfl) (by kernel_rfl) (by kernel_rfl) (fun _ _ _ h => h) (Or.inl ⟨by kernel_rfl, fun w _ => by go_simp⟩) X4.out ?_
  refine wpAnyH_take (i := 8) (v := .int .i64 (8 + 8 * (s : Int))) rfl (by kernel_rfl) (by kernel_rfl) (by kernel_rfl) (fun _ _ _ h => h) (Or.inl ⟨by kernel_rfl, fun w _ => by go_simp⟩) X4.out ?_
  refine wpAnyH_one (i := 5) (by kernel_rfl) rfl rfl (fun K hK => ?_)
  go_simp
  (with_reducible refine (HS1.out _).mono ?_)
  rintro e w6 ⟨rfl, rfl⟩
  go_simp
  refine hK _ _ ⟨X4.out, ?_⟩
  clear hK K
  refine wpAnyH_one (i := 9) (by kernel_rfl) rfl rfl (fun K hK => ?_)
  go_simp
  (with_reducible refine (HS2.out _).mono ?_)
  rintro e w7 ⟨rfl, rfl⟩
  go_simp
  refine hK _ _ ⟨X4.out, ?_⟩
  clear hK K
  refine wpAnyH_one (i := 10) (by kernel_rfl) rfl rfl (fun K hK => ?_)
  go_simp
  (with_reducible refine (HH.out _).mono ?_)
  rintro e w8 ⟨pv, rfl, ha⟩
  have A8 := Lib.hid (Acc.mid (_wz := w) X4.out.bel ha)
  have X6 := Lib.hid (X4.out.next ha.bel)
  go_simp
  refine hK _ _ ⟨X6.out, ?_⟩
  clear hK K
  refine wpAnyH_one (i := 11) (by kernel_rfl) rfl rfl (fun K hK => ?_)
  go_simp
  refine hK _ _ ⟨X6.out, ?_⟩
  clear hK K
  refine wpAnyH_one (i := 12) (by kernel_rfl) rfl rfl (fun K hK => ?_)
  go_simp
  refine hK _ _ ⟨X6.out, ?_⟩
  clear hK K
  refine wpAnyH_done (by kernel_rfl) ?_ _
  go_wp2_with fail
  go_ret2
  exact ⟨_, rfl, A8.out⟩
end
end Go.Proofs.Ytpkilmnppdbnkaa
