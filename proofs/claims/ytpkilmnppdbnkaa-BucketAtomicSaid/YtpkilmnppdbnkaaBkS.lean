/- The reference of layer 31: Pairs. -/
import Derived.Test.YtpkilmnppdbnkaaBkQ
namespace Go.Proofs.Ytpkilmnppdbnkaa
open Go.RowKit

section
variable {w : World}
theorem op_append_sl {P : Program} {o : Oper} {a : Act} {K : Act → World → Prop} {Q : Exit → Act → World → Prop} (s x : Operand) (t : TypeId)
    (ho : o.op = .call { callee := .builtin .append, args := #[s, x], argTypes := #[t, t] })
    (e : TypeId) (i : TypeInfo) (z : Value) (size bytes : Nat) (ht : P.underlying t = some (.slice e)) (hi : P.info? e = some i) (hz : i.zero = some z)
    (hsize : i.size = size) (hby : i.bytes = bytes) (hzs : z.cells.size = size) (hsz : 0 < size)
    (v : Value) (n : Nat) (xs : List Value) (hs : a.eval s = v) (hown : OwnSl w e size v n xs)
    (xv : Value) (m : Nat) (news : List Value) (hx : a.eval x = xv) (hnews : RdSl w size xv m news) (h1 : ∀ u ∈ news, u.oneCell' = true)
    (h63 : n + m ≤ maxLen) (hbytes : (n + m) * bytes ≤ 140737488355328)
    (h : ∀ v' w', OwnSl w' e size v' (n + m) (xs ++ news) → w.grownBy w' v.ownBlock → (slAddr v' = slAddr v ∨ slAddr v' = some ⟨w.heap.size, 0, none⟩) → K (a.put o.dst v') w') : Oper.wp P o a w K Q := by
  obtain ⟨v', w', hr, h2, h3, h4, _⟩ := run_append_sl (P := P) w t o.type e i z size bytes ht hi hz hsize hby hzs v n xs hown xv m news hnews h1 h63 hbytes hsz
  unfold Oper.wp execOp
  simp only [ho, resolve, invoke, builtin, Sem.run_bind, Sem.run_pure, Result.andThen_ok, List.map_toArray, List.map_cons, List.map_nil, hs, hx, hr]
  exact h v' w' h2 h3 h4
theorem prC_one (l : List (Int × Int)) : ∀ u ∈ prC l, u.oneCell' = true := by
  intro u hu
  simp [prC] at hu
  obtain ⟨a, b, _, rfl | rfl⟩ := hu <;> rfl
end
section
variable {w : World} {A : Array Value} {C : Nat → Int} {off : Nat}
set_option maxRecDepth 100000 in
set_option maxHeartbeats 8000000 in
theorem r31Pairs_any (h : RefB A C off) : Calls Try.prog 23 #[.agg A] w fun r w' => ∃ pv, r = .returned pv ∧ Acc w w.heap.size w' 86 2 pv (entB C off 7).length (prC (entB C off 7)) := by
  obtain ⟨i0, hi0, hz0, hz1, hz2⟩ := info_parts infoPair
  have I := Lib.hid (And.intro hi0 (And.intro hz0 (And.intro hz1 hz2))); clear hi0 hz0 hz1 hz2
  have HUS := Lib.hid (fun wx s (hs : s < 7) => r31Used_any (w := wx) h s hs)
  have X0 := Lib.hid (Bx1.start w A 32)
  have HIN := Lib.hid h.info
  have HC1 : Hid (∀ wx s, s < 7 → Bx1 w A 32 wx → wx.cell? ⟨w.heap.size, 1 + (2 + 2 * s), none⟩ = some (.int .u64 (bkK C off s))) := fun wx s hs hx => by
    have := hx.blk.cell (i := 1 + (2 + 2 * s)) (h.wd (2 + 2 * s) (by omega))
    rw [show off / 8 + (2 + 2 * s) = off / 8 + 2 + 2 * s by omega] at this
    exact this
  have HC2 : Hid (∀ wx s, s < 7 → Bx1 w A 32 wx → wx.cell? ⟨w.heap.size, 1 + (3 + 2 * s), none⟩ = some (.int .u64 (bkV C off s))) := fun wx s hs hx => by
    have := hx.blk.cell (i := 1 + (3 + 2 * s)) (h.wd (3 + 2 * s) (by omega))
    rw [show off / 8 + (3 + 2 * s) = off / 8 + 3 + 2 * s by omega] at this
    exact this
  have HS := Lib.hid (fun s => entB_succ C off s)
  have HSE : Hid (∀ s, slotE C off s = if usedB (bkH C off) s then [(bkK C off s, bkV C off s)] else []) := fun s => rfl
  have HLE := Lib.hid (entB_le C off)
  have HE0 : Hid (entB C off 0 = []) := rfl
  generalize entB C off = es at *
  generalize bkH C off = hdr at *
  generalize bkK C off = kk at *
  generalize bkV C off = vv at *
  clear h
  go_enter Try.func23, Try.ntmps23
  go_wp2_with fail
  go_loopw [3, 4] (fun pv y wr => ∃ s : Nat, s ≤ 7 ∧ y = .int .i64 s ∧ Acc (w.alloc (.cells A 32)) (w.alloc (.cells A 32)).heap.size wr 86 2 pv (es s).length (prC (es s))) (fun _ y _ => 7 - (intOf y).toNat)
  case atStart => exact ⟨0, by omega, rfl, by rw [HE0.out]; exact Acc.nil _ _ _ _ _ (Below.refl _ _) (Nat.le_refl _)⟩
  case round =>
    obtain ⟨s, hs, rfl, hacc⟩ := hrel
    have A1 := Lib.hid hacc
    have X := Lib.hid (X0.out.next hacc.bel)
    obtain ⟨pa, pc, rfl⟩ := hacc.slice
    clear hacc
    have hle := HLE.out s
    by_cases hlt : s < 7
    · have h1 : (s : Int) < 7 := by omega
      have HU1 := Lib.hid (HUS.out wr s hlt)
      have hse := HSE.out s
      have hsu := HS.out s
      obtain ⟨ub, hub⟩ : ∃ b, usedB hdr s = b := ⟨_, rfl⟩
      rw [hub] at HU1 hse
      go_wp2_with (refine wpList_load_row rfl 32 (.tmp 1) rfl w.heap.size rfl 32 A (0, 0) _ X.out.blk Try.underlying32 rfl HIN.out ?_)
      (with_reducible refine HU1.out.mono ?_)
      rintro e w1 ⟨rfl, b1⟩
      have A2 := Lib.hid (A1.out.keep b1)
      have X1 := Lib.hid (X.out.next b1)
      clear b1 X A1 HU1
      cases ub
      · rw [hse] at hsu
        simp only [Bool.false_eq_true, if_false, List.append_nil] at hsu
        have HSU := Lib.hid hsu
        clear hsu hse hub
        go_wp2_with fail
        go_roundw
        case rel => exact ⟨s + 1, by omega, by go_num, by rw [HSU.out]; exact A2.out⟩
        case measure => simp [intOf]; omega
      · rw [hse] at hsu
        simp only [if_true] at hsu
        have HSU := Lib.hid hsu
        have g0 : IntKind.i64.wrap (2 * (s : Int)) = 2 * (s : Int) := IntWalk.i64_in _ (by omega)
        have g1 : IntKind.i64.wrap (2 + 2 * (s : Int)) = 2 + 2 * (s : Int) := IntWalk.i64_in _ (by omega)
        have g2 : IntKind.i64.wrap (3 + 2 * (s : Int)) = 3 + 2 * (s : Int) := IntWalk.i64_in _ (by omega)
        have g3 : (2 : Int) + 2 * (s : Int) < 16 := by omega
        have g4 : (3 : Int) + 2 * (s : Int) < 16 := by omega
        have t1 : ((2 : Int) + 2 * (s : Int)).toNat = 2 + 2 * s := by omega
        have t2 : ((3 : Int) + 2 * (s : Int)).toNat = 3 + 2 * s := by omega
        have p1 : ¬ (2 : Int) + 2 * (s : Int) < 0 := by omega
        have p2 : ¬ (3 : Int) + 2 * (s : Int) < 0 := by omega
        clear hsu hse hub
        go_wp2_with fail
        have X4 := Lib.hid (X1.out.next ((Below.refl _ _).drew))
        have A4 := Lib.hid A2.out.drew
        clear X1 A2
        refine wp_region_held (S := (fun wx => Bx1 w A 32 wx)) (by kernel_rfl) ?_
        change wpAnyH _ _ _ _ _ _ _ _ (World.drew _)
        refine wpAnyH_take (i := 0) (v := .slice pa (es s).length pc) rfl (by kernel_rfl) (by kernel_rfl) (by kernel_rfl) (fun _ _ _ h => h) (Or.inl ⟨by kernel_rfl, fun w _ => by go_simp⟩) X4.out ?_
        refine wpAnyH_take (i := 1) (v := .int .i64 s) rfl (by kernel_rfl) (by kernel_rfl) (by kernel_rfl) (fun _ _ _ h => h) (Or.inl ⟨by kernel_rfl, fun w _ => by go_simp⟩) X4.out ?_
        refine wpAnyH_take (i := 2) (v := .int .i64 (2 * (s : Int))) rfl (by kernel_rfl) (by kernel_rfl) (by kernel_rfl) (fun _ _ _ h => h) (Or.inl ⟨by kernel_rfl, fun w _ => by go_simp⟩) X4.out ?_
        refine wpAnyH_take (i := 3) (v := .int .i64 (2 + 2 * (s : Int))) rfl (by kernel_rfl) (by kernel_rfl) (by kernel_rfl) (fun _ _ _ h => h) (Or.inl ⟨by kernel_rfl, fun w _ => by go_simp⟩) X4.out ?_
        refine wpAnyH_take (i := 4) (v := .pointer (some ⟨w.heap.size, 1, none⟩)) rfl (by kernel_rfl) (by kernel_rfl) (by kernel_rfl) (fun _ _ _ h => h) (Or.inl ⟨by kernel_rfl, fun w _ => by go_simp⟩) X4.out ?_
        refine wpAnyH_take (i := 5) (v := .pointer (some ⟨w.heap.size, 1 + (2 + 2 * s), none⟩)) rfl (by kernel_rfl) (by kernel_rfl) (by kernel_rfl) (fun _ _ _ h => h) (Or.inl ⟨by kernel_rfl, fun w _ => by go_simp⟩) X4.out ?_
        refine wpAnyH_take (i := 6) (v := .int .u64 (kk s)) rfl (by kernel_rfl) (by kernel_rfl) (by kernel_rfl) (fun _ _ _ h => h) (Or.inl ⟨by kernel_rfl, fun wx hx => (by have c := HC1.out wx s hlt hx; go_simp)⟩) X4.out ?_
        refine wpAnyH_take (i := 7) (v := .int .i64 s) rfl (by kernel_rfl) (by kernel_rfl) (by kernel_rfl) (fun _ _ _ h => h) (Or.inl ⟨by kernel_rfl, fun w _ => by go_simp⟩) X4.out ?_
        refine wpAnyH_take (i := 8) (v := .int .i64 (2 * (s : Int))) rfl (by kernel_rfl) (by kernel_rfl) (by kernel_rfl) (fun _ _ _ h => h) (Or.inl ⟨by kernel_rfl, fun w _ => by go_simp⟩) X4.out ?_
        refine wpAnyH_take (i := 9) (v := .int .i64 (3 + 2 * (s : Int))) rfl (by kernel_rfl) (by kernel_rfl) (by kernel_rfl) (fun _ _ _ h => h) (Or.inl ⟨by kernel_rfl, fun w _ => by go_simp⟩) X4.out ?_
        refine wpAnyH_take (i := 10) (v := .pointer (some ⟨w.heap.size, 1, none⟩)) rfl (by kernel_rfl) (by kernel_rfl) (by kernel_rfl) (fun _ _ _ h => h) (Or.inl ⟨by kernel_rfl, fun w _ => by go_simp⟩) X4.out ?_
        refine wpAnyH_take (i := 11) (v := .pointer (some ⟨w.heap.size, 1 + (3 + 2 * s), none⟩)) rfl (by kernel_rfl) (by kernel_rfl) (by kernel_rfl) (fun _ _ _ h => h) (Or.inl ⟨by kernel_rfl, fun w _ => by go_simp⟩) X4.out ?_
        refine wpAnyH_take (i := 12) (v := .int .u64 (vv s)) rfl (by kernel_rfl) (by kernel_rfl) (by kernel_rfl) (fun _ _ _ h => h) (Or.inl ⟨by kernel_rfl, fun wx hx => (by have c := HC2.out wx s hlt hx; go_simp)⟩) X4.out ?_
        refine wpAnyH_one (i := 13) (by kernel_rfl) rfl rfl (fun K hK => ?_)
        go_simp
        refine hK _ _ ⟨X4.out, ?_⟩
        clear hK K
        have X5 := Lib.hid (X4.out.next (below_alloc w1.drew (.cells #[.int .u64 (kk s), .int .u64 (vv s)] 86)))
        refine wpAnyH_one (i := 14) (by kernel_rfl) rfl rfl (fun K hK => ?_)
        go_simp
        refine hK _ _ ⟨X5.out, ?_⟩
        clear hK K
        refine wpAnyH_one (i := 15) (by kernel_rfl) rfl rfl (fun K hK => ?_)
        refine op_append_sl (.tmp 12) (.tmp 26) 52 rfl 86 i0 _ 2 16 Try.underlying52 I.out.1 I.out.2.1 I.out.2.2.1 I.out.2.2.2 rfl (by decide) _ _ _ rfl (A4.out.own.alloc _) _ 1 (prC [(kk s, vv s)]) rfl (RdSl.newAt _ _ _ 2 1 _ rfl rfl) (prC_one _) (by unfold maxLen; omega) (by omega) ?_
        intro v2 w2 o2 g2' b2
        have A6 := Lib.hid (A4.out.next (m := 1) (below_alloc _ _) o2 g2' b2 (by simp))
        clear o2 g2' b2
        have X6 := Lib.hid (X0.out.next A6.out.bel)
        refine hK _ _ ⟨X6.out, ?_⟩
        clear hK K
        refine wpAnyH_one (i := 16) (by kernel_rfl) rfl rfl (fun K hK => ?_)
        go_simp
        refine hK _ _ ⟨X6.out, ?_⟩
        clear hK K
        refine wpAnyH_done (by kernel_rfl) ?_ _
        have A7 : Hid (Acc (w.alloc (.cells A 32)) (w.alloc (.cells A 32)).heap.size w2 86 2 v2 (es (s + 1)).length (prC (es (s + 1)))) := by
          have := A6.out
          rw [← prC_append, ← HSU.out] at this
          exact this.congr (by rw [HSU.out]; simp) rfl
        clear A6 A4
        go_wp2_with fail
        go_roundw
        case rel => exact ⟨s + 1, by omega, by go_num, A7.out⟩
        case measure => simp [intOf]; omega
    · obtain rfl : s = 7 := by omega
      go_wp2_with fail
      go_ret
      exact ⟨_, rfl, Acc.mid (_wz := w) X0.out.bel A1.out⟩
end
end Go.Proofs.Ytpkilmnppdbnkaa
