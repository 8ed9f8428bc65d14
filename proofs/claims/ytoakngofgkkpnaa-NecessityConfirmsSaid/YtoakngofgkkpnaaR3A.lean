/- The walks of the reference's device: New, Is, may, counted, put, Store. -/
import Derived.Test.YtoakngofgkkpnaaR3M
import Derived.Test.YtoakngofgkkpnaaDevG
namespace Go.Proofs.Ytoakngofgkkpnaa
open Go.RowKit
attribute [local go_sem ↓] Go.wp_at_zero Go.wp_at_succ

theorem infoR3Line : (Try.prog.info? 86).map (fun i => (i.zero, i.size, i.bytes)) = some (some (.agg #[.int .u64 0, .int .u64 0, .int .u64 0, .int .u64 0, .int .u64 0, .int .u64 0, .int .u64 0, .int .u64 0, .slice none 0 0, .int .i64 0]), 10, 96) := by kernel_rfl
theorem infoR3Write : (Try.prog.info? 146).map (fun i => (i.zero, i.size, i.bytes)) = some (some (.agg #[.int .u64 0, .int .u64 0]), 2, 16) := by kernel_rfl
section
variable {w : World} {D : Dev} {rb lb : Nat} {hv : Nat → Value} {nv : Value} {ns : List (Nat × Nat)}
theorem fresh_up (n : Nat) (h0 : 0 < n) (hn : n ≤ 4096) : (Dev.fresh n (fun _ => 0)).Up :=
  ⟨rfl, rfl, ⟨h0, hn, fun i _ e he => absurd he (by simp [Dev.fresh]), fun i _ => by simp [Dev.fresh], fun j l p h => absurd h (by simp [Dev.fresh]), by simp [Dev.fresh]⟩, ⟨fun i => by simp [Dev.fresh], fun i e he => absurd he (by simp [Dev.fresh])⟩⟩
def lineZ : Array Value := #[.int .u64 0, .int .u64 0, .int .u64 0, .int .u64 0, .int .u64 0, .int .u64 0, .int .u64 0, .int .u64 0, .slice none 0 0, .int .i64 0]
theorem mkLines (wx : World) (n : Nat) (hn : n ≤ 1000000) : (Instr.makeSlice 87 (.int .i64 n) (.int .i64 n)).run Try.prog wx = .ok (.slice (some ⟨wx.heap.size, 0, none⟩) n n) (wx.alloc (.cells (madeCells lineZ (n * 10)) 86)) := by
  obtain ⟨i0, hi, hz0, hz1, hz2⟩ := info_parts infoR3Line
  have := run_make (P := Try.prog) wx 87 86 i0 _ Try.underlying87 hi hz0 .i64 .i64 n n (by omega) (by omega) (by rw [hz2]; omega) (by omega)
  rw [hz1] at this
  simpa [Value.cells, lineZ] using this
theorem row_lines (w : World) (n : Nat) : Row (w.alloc (.cells (madeCells lineZ (n * 10)) 86)) w.heap.size (10 * n) 86 (ln3 (Dev.fresh n (fun _ => 0)) (fun _ => .slice none 0 0)) := by
  refine Row.new w _ 86 _ _ (fun i hi => ?_)
  have hi' : i < n * 10 := by omega
  have e1 : lineZ.size = 10 := rfl
  have e2 : (madeCells lineZ (n * 10))[i]? = some (lineZ[i % 10]!) := by simp [madeCells, hi', e1]
  rw [e2]
  congr 1
  unfold ln3
  simp only [Dev.fresh]
  obtain ⟨r, hr⟩ : ∃ r, i % 10 = r := ⟨_, rfl⟩
  rw [hr]
  have : r < 10 := by omega
  obtain rfl | rfl | rfl | rfl | rfl | rfl | rfl | rfl | rfl | rfl : r = 0 ∨ r = 1 ∨ r = 2 ∨ r = 3 ∨ r = 4 ∨ r = 5 ∨ r = 6 ∨ r = 7 ∨ r = 8 ∨ r = 9 := by omega
  all_goals rfl
theorem r3New_any (n : Nat) (h0 : 0 < n) (hn : n ≤ 4096) :
    Calls Try.prog 25 #[.int .i64 n] w fun r w' => ∃ rb lb, r = .returned (.pointer (some ⟨rb, 0, none⟩)) ∧ R3 w' (Dev.fresh n (fun _ => 0)) rb lb (fun _ => .slice none 0 0) (.slice none 0 0) [] ∧ w.heap.size ≤ rb ∧ w.heap.size ≤ lb ∧ Below w.heap.size w w' := by
  have hmk := fun (wx : World) => mkLines wx n (by omega)
  go_enter Try.func25, Try.ntmps25
  go_wp2_with fail
  go_ret
  refine ⟨w.heap.size + 1, w.heap.size, rfl, ⟨?_, (row_lines w n).alloc _, by omega, fun l _ => ⟨⟨rfl, none, 0, rfl, Nat.le_refl _, .inl rfl⟩, fun g hg => by simp [Value.ownBlock] at hg⟩, ⟨by simp [noteC], none, 0, rfl, Nat.le_refl _, .inl rfl⟩, fun g hg => by simp [Value.ownBlock] at hg, List.nodup_nil, fun l p => by simp [Dev.fresh], fresh_up n h0 hn⟩, by omega, by omega, ?_⟩
  · have := Blk.new (w.alloc (.cells (madeCells lineZ (n * 10)) 86)) (dev3 (Dev.fresh n (fun _ => 0)) w.heap.size (.slice none 0 0)) 92
    rw [World.size_alloc] at this
    exact this
  · exact (below_alloc w _).trans ((below_alloc _ _).mono (by simp))
theorem r3Is_any (h : R3 w D rb lb hv nv ns) (off : Nat) (h8 : off % 8 = 0) (hl : off < 64 * D.n) :
    Calls Try.prog 45 #[.pointer (some ⟨rb, 0, none⟩), .int .u64 off] w fun r w' => r = .returned (.bool true) ∧ w = w' := by
  have hn := h.up.wf.le
  have c0 : w.cell? ⟨rb, 0, none⟩ = some (.slice (some ⟨lb, 0, none⟩) D.n D.n) := h.dev.cell rfl
  have g1 : (off : Int) % 8 = 0 := by omega
  have g2 : (off : Int) / 64 < D.n := by omega
  have g3 : IntKind.u64.wrap (D.n : Int) = (D.n : Int) := IntWalk.u64_in _ (by omega)
  clear h
  go_enter Try.func45, Try.ntmps45
  go_wp2_with fail
  go_ret
  exact ⟨rfl, rfl⟩
theorem r3may_any (h : R3 w D rb lb hv nv ns) :
    Calls Try.prog 60 #[.pointer (some ⟨rb, 0, none⟩), .int .i64 0, .bool true] w fun r w' => r = .returned (.bool true) ∧ w = w' := by
  have c0 : w.cell? ⟨rb, 18, none⟩ = some (.bool false) := h.dev.cell rfl
  clear h
  go_enter Try.func60, Try.ntmps60
  go_wp2_with fail
  go_ret
  exact ⟨rfl, rfl⟩
theorem r3counted_any (h : R3 w D rb lb hv nv ns) (hx : D.exec < 1000000000) :
    Calls Try.prog 44 #[.pointer (some ⟨rb, 0, none⟩), .int .i64 0, .bool true] w fun r w' => r = .returned (.bool true) ∧ w' = w.setCell ⟨rb, 19, none⟩ (.int .u64 ((D.exec : Int) + 1)) := by
  have HM := Lib.hid (r3may_any h)
  have c1 : w.cell? ⟨rb, 17, none⟩ = some (.int .i64 (-1)) := h.dev.cell rfl
  have c2 : w.cell? ⟨rb, 19, none⟩ = some (.int .u64 D.exec) := h.dev.cell rfl
  have f2 := h.dev.frozen 19
  have g1 : IntKind.u64.wrap ((D.exec : Int) + 1) = (D.exec : Int) + 1 := IntWalk.u64_in _ (by omega)
  have hlt := h.dev.lt
  clear h
  go_enter Try.func44, Try.ntmps44
  go_wp2_with fail
  (with_reducible refine HM.out.mono ?_)
  rintro r w1 ⟨rfl, rfl⟩
  go_wp2_with fail
  go_ret
  exact ⟨rfl, rfl⟩
end
end Go.Proofs.Ytoakngofgkkpnaa
