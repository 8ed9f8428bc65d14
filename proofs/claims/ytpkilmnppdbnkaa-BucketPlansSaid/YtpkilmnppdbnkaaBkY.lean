/- The law's plain of layer 31; the bytes of a device of four lines as a string. -/
import Derived.Test.YtpkilmnppdbnkaaBkX
import Derived.Test.YtpkilmnppdbnkaaEqR
import Derived.Laws.BytesArg
namespace Go.Proofs.Ytpkilmnppdbnkaa
open Go.RowKit

theorem take_instr (l : List (Nat × Nat × Int)) (k : Nat) (e : Nat × Nat × Int) (h : l[k]? = some e) : instrC (l.take (k + 1)) = instrC (l.take k) ++ instrC [e] := by
  rw [take_snocI l k e h, instrC_append]
section
variable {w : World}
set_option maxRecDepth 100000 in
set_option maxHeartbeats 8000000 in
theorem plain31_any (sv : Value) (l : List (Nat × Nat × Int)) (hs : RdSl w 3 sv l.length (instrC l)) (hn : l.length ≤ 100000) :
    Calls Try.prog 29 #[sv] w fun r w' => ∃ ov, r = .returned ov ∧ Acc w w.heap.size w' 121 3 ov l.length (instrC l) := by
  obtain ⟨i0, hi0, hz0, hz1, hz2⟩ := info_parts infoRI
  have I := Lib.hid (And.intro hi0 (And.intro hz0 (And.intro hz1 hz2))); clear hi0 hz0 hz1 hz2
  obtain ⟨_, a, ca, rfl, hca, ha⟩ := hs
  have HA := Lib.hid ha
  clear ha
  have HI0 : Hid (instrC (l.take 0) = []) := rfl
  generalize hn1 : l.length = n at *
  have HN := Lib.hid hn1
  clear hn1
  go_enter Try.func29, Try.ntmps29
  go_wp2_with fail
  go_loopw [3, 8] (fun pv y wr => ∃ k : Nat, k ≤ n ∧ y = .int .i64 k ∧ Acc w w.heap.size wr 121 3 pv k (instrC (l.take k))) (fun _ y _ => n - (intOf y).toNat)
  case atStart => exact ⟨0, by omega, rfl, by rw [HI0.out]; exact Acc.nil _ _ _ _ _ (Below.refl _ _) (Nat.le_refl _)⟩
  case round =>
    obtain ⟨k, hk, rfl, hacc⟩ := hrel
    have A1 := Lib.hid hacc
    obtain ⟨pa, pc, rfl⟩ := hacc.slice
    clear hacc
    by_cases hlt : k < n
    · have hk' : (k : Int) < n := by omega
      obtain ⟨e, he⟩ : ∃ e, l[k]? = some e := ⟨_, List.getElem?_eq_getElem (by rw [HN.out]; exact hlt)⟩
      have hg := instrC_get l k e he
      obtain ⟨eb, eo, rfl, hcell⟩ := rd_at HA.out hg.1
      have hb := A1.out.bel
      have c1 := (hb.cell (p := ⟨eb, eo + k * 3, none⟩) (World.block_lt_of_cell? w _ (hcell _ _ hg.1))).trans (hcell _ _ hg.1)
      have c2 := (hb.cell (p := ⟨eb, eo + (k * 3 + 1), none⟩) (World.block_lt_of_cell? w _ (hcell _ _ hg.2.1))).trans (hcell _ _ hg.2.1)
      have c3 := (hb.cell (p := ⟨eb, eo + (k * 3 + 2), none⟩) (World.block_lt_of_cell? w _ (hcell _ _ hg.2.2))).trans (hcell _ _ hg.2.2)
      rw [← Nat.add_assoc] at c2 c3
      have HT := Lib.hid (take_instr l k e he)
      clear hcell he hg hb
      obtain ⟨e1, e2, e3⟩ := e
      simp only at c1 c2 c3
      have A2 := Lib.hid (A1.out.keep (below_alloc wr (.cells #[.int .u8 e1, .int .u64 e2, .int .u64 e3] 98)))
      go_wp2_with (at_builtin; refine wpList_append_sl _ rfl _ _ 67 rfl 121 i0 _ 3 24 Try.underlying67 I.out.1 I.out.2.1 I.out.2.2.1 I.out.2.2.2 rfl (by decide) _ _ _ rfl (by exact (A2.out.own.alloc _)) _ 1 (instrC [(e1, e2, e3)]) rfl (by exact RdSl.newAt _ _ _ 3 1 _ (by simp) rfl) (instrC_one _) (by unfold maxLen; omega) (by omega) ?_)
      intro v1 w1 o1 g1 b1 n1
      have A3 : Hid (Acc w w.heap.size w1 121 3 v1 (k + 1) (instrC (l.take (k + 1)))) := by
        show Acc _ _ _ _ _ _ _ _
        have := A2.out.next (m := 1) (below_alloc _ _) o1 g1 b1 (by simp)
        rw [HT.out]
        exact this
      clear o1 g1 b1 n1
      go_wp2_with fail
      go_roundw
      case rel => exact ⟨k + 1, by omega, by go_num, A3.out⟩
      case measure => simp [intOf]; omega
    · obtain rfl : k = n := by omega
      have A2 := Lib.hid A1.out
      rw [List.take_of_length_le (by rw [HN.out]; omega)] at A2
      go_wp2_with fail
      go_ret
      exact ⟨_, rfl, A2.out⟩
/-- The words of a device of four lines as a string. -/
def str31 (f : Nat → Int) : ByteArray := strOfNums ((List.range 256).map fun i => byteAt f i)
set_option maxRecDepth 100000 in
theorem conv31 {g : Nat} {f : Nat → Int} (h : Row w g 256 5 (fun i => .int .u8 (byteAt f i))) : (Go.convert 65 9 (.slice (some ⟨g, 0, none⟩) 256 256)).run Try.prog w = .ok (.string (str31 f)) w := by
  refine run_convert_bytes_arg (P := Try.prog) w 65 5 Try.underlying65 Try.underlying5 g 0 256 256 ((List.range 256).map fun i => byteAt f i) (by simp) (fun i hi => ?_) 9 Try.underlying9
  rw [h.cell (i := 0 + i) (by omega)]
  simp [List.getD, List.getElem?_map, List.getElem?_range hi]
theorem BSt.current {v : DV} {own : Nat → Option Role} {D : Dev} {y : Nat} {C : Nat → Int} {off : Nat} (h : BSt w v own D 4 y C off) : Calls Try.prog 25 #[.pointer (some ⟨v.db, 0, none⟩)] w fun r w' => r = .returned (.slice (some ⟨w.heap.size, 0, none⟩) 256 256) ∧ Row w' w.heap.size 256 5 (fun i => .int .u8 (byteAt C i)) ∧ Below w.heap.size w w' := by
  have := current_any h.dev h.cl.vb
  unfold BytesPost at this
  rw [h.cl.grp.on.n, h.cl.cur] at this
  exact this
end
end Go.Proofs.Ytpkilmnppdbnkaa
