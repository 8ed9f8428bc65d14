/- slices.Compact of words that a slice owns. -/
import Derived.Test.YtdidpppjkbgccaaDoorSortA
import Derived.Test.YtdidpppjkbgccaaDoorLinesM
import Derived.Laws.CopyRow
import Derived.Test.YtdidpppjkbgccaaDoorSortF
import Derived.Test.YtdidpppjkbgccaaDoorR11P
namespace Go.Proofs.YtdidpppjkbgccaaDoor
open Go.RowKit
attribute [local go_sem ↓] Go.wp_at_zero Go.wp_at_succ

theorem cmpL_none (xs : List Int) : ∀ k, k < xs.length → (∀ j, j < k → ¬ xs[j + 1]! = xs[j]!) → cmpL (xs.take (k + 1)) = xs.take (k + 1) := by
  intro k
  induction k with
  | zero => intro h _; exact cmpL_one xs h
  | succ k ih =>
    intro h hn
    have e1 : xs.take (k + 1 + 1) = xs.take (k + 1) ++ [xs[k + 1]!] := by
      rw [List.take_add_one (i := k + 1), List.getElem?_eq_getElem h, getElem!_pos xs (k + 1) h]; rfl
    rw [cmpL_take xs k h, if_neg (hn k (by omega)), ih (by omega) (fun j hj => hn j (by omega)), e1]
theorem CmpMid.start {xs : List Int} {k : Nat} (hk : k + 1 < xs.length) (hn : ∀ j, j < k → ¬ xs[j + 1]! = xs[j]!) (he : xs[k + 1]! = xs[k]!) : CmpMid xs xs (k + 1 + 1) (k + 1) :=
  ⟨rfl, by rw [cmpL_take xs k hk, if_pos he, cmpL_none xs k (by omega) hn], fun _ _ => rfl, by omega, by omega⟩
theorem at0_get (l : List Int) (i : Nat) (h : i < l.length) : at0 l i = l[i]! := by simp [at0, List.getD, h]
theorem zeroU (w : World) : (zeroValue 42).run Tryd.prog w = .ok (.int .u64 0) w := by kernel_rfl

section
variable {w : World}
theorem run_clearU (ty : TypeId) {g o c i m : Nat} {ys : List Int} (h : WrU w g o c ys) (hi : i + m = ys.length) (h0 : 0 < m) :
    ∃ w', (Builtin.clear_ #[80] ty #[.slice (some ⟨g, o + i, none⟩) m (c - i)]).run Tryd.prog w = .ok (.tuple #[]) w' ∧ OwnSl w' 42 1 (.slice (some ⟨g, o, none⟩) i c) i (intsU (ys.take i)) ∧ Upd (fun k => k = g) w w' := by
  rcases h.2 with ⟨e, _⟩ | ⟨g', o', cap, cur, e, hb, h1, h2, h3, h4⟩
  · cases e
  · cases e
    have hzl : (Builtin.zeroCells (Value.cells (.int .u64 0)) m).toList.length = m := by simp [Builtin.zeroCells, Value.cells]
    have hz1 : ∀ u ∈ (Builtin.zeroCells (Value.cells (.int .u64 0)) m).toList, u.oneCell' = true := by
      intro u hu
      simp [Builtin.zeroCells, Value.cells, Nat.mod_one] at hu
      rw [← hu.2]; rfl
    have hst := run_storeCells_at Tryd.prog g (o + i) 42 (Builtin.zeroCells (Value.cells (.int .u64 0)) m).toList 0 cur w hb (by rw [hzl]; omega) hz1
    obtain ⟨m', rfl⟩ : ∃ m', m = m' + 1 := ⟨m - 1, by omega⟩
    refine ⟨w.setRow g (cur.toList.take (o + i + 0) ++ (Builtin.zeroCells (Value.cells (.int .u64 0)) (m' + 1)).toList ++ cur.toList.drop (o + i + 0 + (Builtin.zeroCells (Value.cells (.int .u64 0)) (m' + 1)).toList.length)).toArray, ?_, ?_, ?_⟩
    · simp [Builtin.clear_, run_underlying Tryd.underlying80, hst, Result.andThen]
    · refine ⟨by simp [intsU]; omega, .inr ⟨g, o, c, _, rfl, setRow_heap w g cur _ 42 (0, 0) hb, by omega, h2, ?_, ?_⟩⟩
      · simp only [List.size_toArray, List.length_append, List.length_take, List.length_drop, Array.length_toList, hzl]
        omega
      · simp only [Nat.add_zero, Nat.mul_one]
        have lo : (cur.toList.take (o + i)).length = o + i := by rw [List.length_take, Array.length_toList]; omega
        rw [List.append_assoc, List.drop_append_of_le_length (by omega), List.take_append_of_le_length (by rw [List.length_drop]; omega)]
        rw [List.drop_take, List.take_take, show min i (o + i - o) = i by omega]
        have h5 := congrArg (List.take i) h4
        rw [List.take_take, show min i (ys.length * 1) = i by omega] at h5
        rw [h5, intsU, intsU, List.map_take]
    · exact ⟨rfl, rfl, rfl, by simp [World.setRow], fun k _ hk => setRow_other w g k _ hk⟩
theorem Upd.drewN {S : Nat → Prop} {a b : World} (h : Upd S a b) (n : Nat) : Upd S a (b.drewN n) := ⟨h.os, h.tape, h.output, h.size, h.block⟩
theorem WrU.rd2 {g o c : Nat} {xs : List Int} (h : WrU w g o c xs) (j : Nat) (hj : j < xs.length) : w.cell? ⟨g, o + j, none⟩ = some (.int .u64 xs[j]!) := by
  rw [← at0_get xs j hj]; exact h.cell j hj
/-- What Compact leaves. -/
def CmpPost (w : World) (g o c : Nat) (xs : List Int) (r : Ending) (w' : World) : Prop :=
  r = .returned (.slice (some ⟨g, o, none⟩) (cmpL xs).length c) ∧ OwnSl w' 42 1 (.slice (some ⟨g, o, none⟩) (cmpL xs).length c) (cmpL xs).length (intsU (cmpL xs)) ∧ Upd (fun k => k = g) w w'
/-- In the inner loop. -/
structure CmpSt (w : World) (g o c : Nat) (xs : List Int) (q i : Nat) (wr : World) : Prop where
  st : ∃ ys, CmpMid xs ys q i ∧ WrU wr g o c ys ∧ Upd (fun k => k = g) w wr
theorem CmpMid.fin {xs ys : List Int} {i : Nat} (h : CmpMid xs ys xs.length i) : i = (cmpL xs).length ∧ ys.take i = cmpL xs := by
  have h1 := h.pre
  rw [List.take_length] at h1
  have h2 := congrArg List.length h1
  rw [List.length_take, h.len] at h2
  have := h.lt
  exact ⟨by omega, h1⟩
theorem CmpMid.keep' {xs ys : List Int} {q i : Nat} (h : CmpMid xs ys q i) (hq0 : 0 < q) (hq : q < xs.length) (e : ¬ xs[q]! = xs[q - 1]!) : CmpMid xs (ys.set i xs[q]!) (q + 1) (i + 1) := by
  obtain ⟨p, rfl⟩ : ∃ p, q = p + 1 := ⟨q - 1, by omega⟩
  exact h.keep hq e
theorem CmpMid.skip' {xs ys : List Int} {q i : Nat} (h : CmpMid xs ys q i) (hq0 : 0 < q) (hq : q < xs.length) (e : xs[q]! = xs[q - 1]!) : CmpMid xs ys (q + 1) i := by
  obtain ⟨p, rfl⟩ : ∃ p, q = p + 1 := ⟨q - 1, by omega⟩
  exact h.skip hq e
theorem CmpMid.at {xs ys : List Int} {q i j : Nat} (h : CmpMid xs ys q i) (hj : q ≤ j + 1) (hx : j < xs.length) : ys[j]! = xs[j]! := by
  have h1 := h.rest j hj
  have h2 := h.len
  rw [List.getElem?_eq_getElem hx, List.getElem?_eq_getElem (by omega)] at h1
  rw [getElem!_pos ys j (by omega), getElem!_pos xs j hx]
  exact Option.some.inj h1
set_option maxRecDepth 100000 in
set_option maxHeartbeats 4000000 in
theorem compact_wr {g o c : Nat} {xs : List Int} (h : WrU w g o c xs) (hs : xs.length ≤ 100000) :
    Calls Tryd.prog 63 #[.slice (some ⟨g, o, none⟩) xs.length c] w (CmpPost w g o c xs) := by
  have hc := h.le.1
  have hc2 : c ≤ maxLen := by
    rcases h.2 with ⟨e, _⟩ | ⟨g', o', cap, cur, e, hb, h1, h2, _⟩
    · cases e
    · cases e; exact h2
  unfold maxLen at hc2
  have hg := h.lt
  have H := Lib.hid h; clear h
  generalize hn : xs.length = n at *
  have HN := Lib.hid hn; clear hn
  by_cases h2 : n < 2
  · have h2' : (n : Int) < 2 := by omega
    have hcm : Hid (cmpL xs = xs) := by
      show cmpL xs = xs
      match xs, HN.out with
      | [], _ => rfl
      | [x], _ => rfl
      | x :: y :: l, e => simp at e; omega
    go_enter Tryd.func63, Tryd.ntmps63
    go_wp2_with fail
    go_ret
    refine ⟨?_, ?_, Upd.refl _ _⟩
    · rw [hcm.out, HN.out]; rfl
    · rw [hcm.out, HN.out]; have := H.out; unfold WrU at this; rw [HN.out] at this; exact this
  · have h2' : ¬ (n : Int) < 2 := by omega
    go_enter Tryd.func63, Tryd.ntmps63
    go_wp2_with fail
    go_loopw [3] (fun y wr => ∃ k : Nat, 0 < k ∧ k ≤ n ∧ y = .int .i64 k ∧ (∀ j, j + 1 < k → ¬ xs[j + 1]! = xs[j]!) ∧ Qt w wr) (fun y _ => n - (intOf y).toNat)
    case atStart => exact ⟨1, by omega, by omega, rfl, fun j hj => by omega, Qt.refl w⟩
    case round =>
      obtain ⟨k, hk0, hk, rfl, hne, q⟩ := hrel
      obtain ⟨na, rfl⟩ := q
      have HNE := Lib.hid hne; clear hne
      by_cases hlt : k < n
      · have hk' : (k : Int) < n := by omega
        have d1 := H.out.rd2 k (by rw [HN.out]; exact hlt); have d2 := H.out.rd2 (k - 1) (by rw [HN.out]; omega)
        have hi2 : ((k : Int) - 1).toNat = k - 1 := by omega
        have hi3 : (0 : Int) ≤ (k : Int) - 1 := by omega
        have hi4 : (1 : Int) ≤ (k : Int) := by omega
        have hi6 : (k : Int) - 1 < n := by omega
        by_cases he : xs[k]! = xs[k - 1]!
        · have hb : (xs[k]! == xs[k - 1]!) = true := by simpa using he
          have M0 : Hid (CmpMid xs xs (k + 1) k) := by
            obtain ⟨p, rfl⟩ : ∃ p, k = p + 1 := ⟨k - 1, by omega⟩
            exact CmpMid.start (by rw [HN.out]; exact hlt) (fun j hj => HNE.out j (by omega)) he
          generalize xs[k]! = xk at *
          generalize xs[k - 1]! = xk1 at *
          clear he
          have hck : ¬ c = k := by omega
          have hck' : ¬ (c : Int) = (k : Int) := by omega
          have hkc : (k : Int) ≤ c := by omega
          have hkn : (k : Int) ≤ n := by omega
          go_wp2_with fail
          go_quiet (fail)
          go_wp2_with fail
          obtain ⟨wq, hwq⟩ : ∃ wq, wq = w.drewN (na + nq) := ⟨_, rfl⟩
          rw [← hwq]
          have S0 : Hid (CmpSt w g o c xs (k + 1) k wq) := by
            refine ⟨⟨xs, M0.out, ?_, ?_⟩⟩
            · rw [hwq]; exact H.out.drewN _
            · rw [hwq]; exact (Upd.refl _ w).drewN _
          clear hwq d1 d2 hi2 hi3 hi4 hi6 hb M0
          go_loopw [3, 5] (fun y z wr => ∃ i k2 : Nat, y = .int .i64 i ∧ z = .int .i64 k2 ∧ 0 < k2 ∧ k + k2 ≤ n ∧ CmpSt w g o c xs (k + k2) i wr) (fun _ z _ => n - (intOf z).toNat)
          case atStart => exact ⟨k, 1, rfl, rfl, by omega, by omega, S0.out⟩
          case round =>
            obtain ⟨i, k2, rfl, rfl, hk2, hkk, hst⟩ := hrel
            obtain ⟨ys, m1, w1, u1⟩ := hst.st
            have M := Lib.hid m1; have W := Lib.hid w1; have U := Lib.hid u1; clear m1 w1 u1 hst S0
            have hsub : ((n - k : Nat) : Int) = (n : Int) - k := by omega
            have hwb := W.out.lt
            have hwf := W.out.frozen
            by_cases hlt2 : k2 < n - k
            · have hlt2' : (k2 : Int) < ((n - k : Nat) : Int) := by omega
              have e1 := W.out.rd2 (k + k2) (by rw [M.out.len, HN.out]; omega); have e2 := W.out.rd2 (k + k2 - 1) (by rw [M.out.len, HN.out]; omega)
              rw [M.out.at (by omega) (by rw [HN.out]; omega)] at e1 e2
              rw [show o + (k + k2) = o + k + k2 by omega] at e1
              rw [show o + (k + k2 - 1) = o + k + (k2 - 1) by omega] at e2
              have hj2 : ((k2 : Int) - 1).toNat = k2 - 1 := by omega
              have hj3 : (0 : Int) ≤ (k2 : Int) - 1 := by omega
              have hj4 : (1 : Int) ≤ (k2 : Int) := by omega
              have hj6 : (k2 : Int) - 1 < ((n - k : Nat) : Int) := by omega
              have hin : (i : Int) < n := by have := M.out.lt; omega
              have hf1 := hwf (o + i)
              by_cases hx : xs[k + k2]! = xs[k + k2 - 1]!
              · have hbx : (xs[k + k2]! != xs[k + k2 - 1]!) = false := by simpa using hx
                have M2 := Lib.hid (M.out.skip' (by omega) (by rw [HN.out]; omega) hx)
                generalize xs[k + k2]! = xa at *
                generalize xs[k + k2 - 1]! = xb at *
                clear hx
                go_wp2_with fail
                go_quiet (fail)
                go_wp2_with fail
                go_roundw
                case rel => exact ⟨i, k2 + 1, rfl, by go_num, by omega, by omega, ⟨ys, by rw [← Nat.add_assoc]; exact M2.out, W.out.drewN _, U.out.drewN _⟩⟩
                case measure => simp [intOf]; omega
              · have hbx : (xs[k + k2]! != xs[k + k2 - 1]!) = true := by simpa using hx
                have M2 := Lib.hid (M.out.keep' (by omega) (by rw [HN.out]; omega) hx)
                have W2 := Lib.hid (fun m => (W.out.drewN m).set i (by rw [M.out.len, HN.out]; omega) xs[k + k2]!)
                generalize xs[k + k2]! = xa at *
                generalize xs[k + k2 - 1]! = xb at *
                clear hx
                have hgi := W.out.cell i (by rw [M.out.len, HN.out]; omega)
                go_wp2_with fail
                go_quiet (fail)
                go_wp2_with fail
                go_roundw
                case rel => exact ⟨i + 1, k2 + 1, by go_num, by go_num, by omega, by omega, ⟨_, by rw [← Nat.add_assoc]; exact M2.out, W2.out _, (U.out.drewN _).setCell (fun _ => rfl) _⟩⟩
                case measure => simp [intOf]; omega
            · obtain rfl : k2 = n - k := by omega
              have hsum : k + (n - k) = xs.length := by rw [HN.out]; omega
              rw [hsum] at M
              have F := Lib.hid M.out.fin
              have hil : i < n := by have := M.out.lt; rw [HN.out] at this; exact this
              have hyl : Hid (i + (n - i) = ys.length) := by show i + (n - i) = ys.length; rw [M.out.len, HN.out]; omega
              have hci : ¬ c = i := by omega
              have hci' : ¬ (c : Int) = (i : Int) := by omega
              have hic : (i : Int) ≤ c := by omega
              have hin : (i : Int) ≤ n := by omega
              clear hsum
              obtain ⟨w5, hr5, o5, u5⟩ := run_clearU 0 W.out hyl.out (by omega)
              have O5 := Lib.hid o5; have U5 := Lib.hid u5; clear o5 u5
              go_wp2_with fail
              go_ret
              refine ⟨?_, ?_, U.out.trans U5.out (fun _ _ h => h)⟩
              · rw [← F.out.1]; rfl
              · rw [← F.out.1, ← F.out.2]; exact O5.out
        · have hb : (xs[k]! == xs[k - 1]!) = false := by simpa using he
          have HNX : Hid (∀ j, j + 1 < k + 1 → ¬ xs[j + 1]! = xs[j]!) := fun j hj => by
            by_cases e : j + 1 = k
            · subst e; exact he
            · exact HNE.out j (by omega)
          clear he
          generalize xs[k]! = xk at *
          generalize xs[k - 1]! = xk1 at *
          go_wp2_with fail
          go_quiet (fail)
          go_wp2_with fail
          go_roundw
          case rel => exact ⟨k + 1, by omega, by omega, by go_num, HNX.out, ⟨_, rfl⟩⟩
          case measure => simp [intOf]; omega
      · obtain rfl : k = n := by omega
        have hcm : Hid (cmpL xs = xs) := by
          show cmpL xs = xs
          have := cmpL_none xs (k - 1) (by rw [HN.out]; omega) (fun j hj => HNE.out j (by omega))
          rw [show k - 1 + 1 = k by omega, List.take_of_length_le (by rw [HN.out]; omega)] at this
          exact this
        go_wp2_with fail
        go_ret
        refine ⟨?_, ?_, (Upd.of_below (Qt.drewN w na).below)⟩
        · rw [hcm.out, HN.out]; rfl
        · rw [hcm.out, HN.out]; have := H.out; unfold WrU at this; rw [HN.out] at this; exact this.kept (fun _ _ => rfl)
end
end Go.Proofs.YtdidpppjkbgccaaDoor

/- mem.Stores: the stores in order, a flush of each line, ascending, and a fence. -/
namespace Go.Proofs.YtdidpppjkbgccaaDoor
open Go.RowKit

section
variable {w : World}
theorem Acc.side {w wr w1 : World} {B : Nat} {e : TypeId} {s n : Nat} {v lv : Value} {xs : List Value} (h : Acc w B wr e s v n xs) (hu : Upd (fun k => lv.ownBlock = some k) wr w1) (hn : ∀ g, lv.ownBlock = some g → B ≤ g) (hne : ∀ g, v.ownBlock = some g → lv.ownBlock ≠ some g) : Acc w B w1 e s v n xs :=
  ⟨h.own.upd hu hne, h.new, ⟨hu.os.trans h.bel.os, hu.tape.trans h.bel.tape, hu.output.trans h.bel.output, Nat.le_trans h.bel.size hu.size, fun k hk => by
    rw [hu.block k (Nat.lt_of_lt_of_le hk h.lt) (fun e => by have := hn k e; omega)]; exact h.bel.block k hk⟩, Nat.le_trans h.lt hu.size⟩
theorem compactU_own (sv : Value) (xs : List Int) (h : OwnSl w 42 1 sv xs.length (intsU xs)) (h0 : 0 < xs.length) (hs : xs.length ≤ 100000) :
    Calls Tryd.prog 63 #[sv] w fun r w' => ∃ a c, r = .returned (.slice a (cmpL xs).length c) ∧ OwnSl w' 42 1 (.slice a (cmpL xs).length c) (cmpL xs).length (intsU (cmpL xs)) ∧ (∀ k, (Value.slice a (cmpL xs).length c).ownBlock = some k → sv.ownBlock = some k) ∧ Upd (fun k => sv.ownBlock = some k) w w' := by
  rcases h.2 with ⟨rfl, hn⟩ | ⟨g, o, cap, cur, rfl, _⟩
  · omega
  · exact (compact_wr (g := g) (o := o) (c := cap) (xs := xs) h hs).mono fun r w' ⟨h1, h2, h3⟩ => ⟨_, _, h1, h2, fun k hk => hk, h3.mono (fun i _ hi => by rw [hi]; rfl)⟩
theorem mstart_any (o : Nat) (ho : o < 18446744073709551616) : Calls Tryd.prog 61 #[.int .u64 o] w fun r w' => r = .returned (.int .u64 ((o - o % 64 : Nat) : Int)) ∧ w = w' := by
  have e : (o : Int) - (o : Int) % 64 = ((o - o % 64 : Nat) : Int) := by omega
  have E := Lib.hid e; clear e
  go_enter Tryd.func61, Tryd.ntmps61
  go_wp2
  go_ret
  exact ⟨ret_int (by first | exact E.out | (rw [← E.out])), rfl⟩
def startsI (offs : List Nat) : List Int := offs.map fun o => ((o - o % 64 : Nat) : Int)
theorem startsI_snoc (l : List Nat) (o : Nat) : startsI (l ++ [o]) = startsI l ++ [((o - o % 64 : Nat) : Int)] := by simp [startsI]
theorem intsU_one (l : List Int) : ∀ u ∈ intsU l, u.oneCell' = true := by intro u hu; simp [intsU] at hu; obtain ⟨s, _, rfl⟩ := hu; rfl
theorem intsU_append (a b : List Int) : intsU (a ++ b) = intsU a ++ intsU b := by simp [intsU]
theorem mkLines (wx : World) (n : Nat) (hn : n ≤ 1000000) : (Instr.makeSlice 80 (.int .i64 0) (.int .i64 n)).run Tryd.prog wx = .ok (.slice (some ⟨wx.heap.size, 0, none⟩) 0 n) (wx.alloc (.cells (madeCells #[.int .u64 0] n) 42)) := by
  obtain ⟨i0, hi, hz0, hz1, hz2⟩ := info_parts infoU64
  have := run_make (P := Tryd.prog) wx 80 42 i0 _ Tryd.underlying80 hi hz0 .i64 .i64 0 n (by omega) (by omega) (by rw [hz2]; omega) (by omega)
  rw [hz1] at this
  simpa [Value.cells] using this
theorem compact_lines {n : Nat} (sv : Value) (offs : List Nat) (ys : List Int) (h : OwnSl w 42 1 sv n (intsU ys)) (hn : ys.length = n) (hp : ys.Perm (startsI offs)) (ha : ascOn ys 0 n) (h0 : 0 < n) (hs : n ≤ 100000) :
    Calls Tryd.prog 63 #[sv] w fun r w' => ∃ a c, r = .returned (.slice a (linesL offs).length c) ∧ OwnSl w' 42 1 (.slice a (linesL offs).length c) (linesL offs).length (natsU ((linesL offs).map (64 * ·))) ∧
      (∀ k, (Value.slice a (linesL offs).length c).ownBlock = some k → sv.ownBlock = some k) ∧ Upd (fun k => sv.ownBlock = some k) w w' := by
  subst hn
  have hc := lines_compact offs ys hp ha
  have hlen : (cmpL ys).length = (linesL offs).length := by rw [hc, List.length_map]
  have hcell : intsU (cmpL ys) = natsU ((linesL offs).map (64 * ·)) := by rw [hc]; simp [intsU, natsU]
  have := compactU_own sv ys h h0 hs
  rw [hlen, hcell] at this
  exact this
theorem flC_pos (offs : List Nat) (h : 0 < offs.length) : linesL offs ≠ [] := fun e => by
  obtain ⟨o, ho⟩ : ∃ o, o ∈ offs := by
    match offs, h with
    | o :: l, _ => exact ⟨o, by simp⟩
  have := (linesL_mem offs (o / 64)).2 ⟨o, ho, rfl⟩
  rw [e] at this; simp at this
set_option maxRecDepth 100000 in
set_option maxHeartbeats 8000000 in
theorem stores_any (sv : Value) (ws : List (Nat × Int)) (h : RdSl w 2 sv ws.length (flat ws)) (hl : ws.length ≤ 10000) (hb : ∀ e ∈ ws, e.1 < 18446744073709551616) :
    Calls Tryd.prog 49 #[sv] w fun r w' => ∃ ov, r = .returned ov ∧ Acc w w.heap.size w' 120 3 ov (storesL ws).length (instrC (storesL ws)) := by
  have H := Lib.hid h
  have HB := Lib.hid hb
  clear hb
  obtain ⟨_, sa, sc, rfl, hsc, _⟩ := h
  obtain ⟨k0, hi0, hz0, hz1, hz2⟩ := info_parts infoInstr
  have I2 := Lib.hid (And.intro hi0 (And.intro hz0 (And.intro hz1 hz2))); clear hi0 hz0 hz1 hz2
  obtain ⟨i0, hi0, hz0, hz1, hz2⟩ := info_parts infoU64
  have I := Lib.hid (And.intro hi0 (And.intro hz0 (And.intro hz1 hz2))); clear hi0 hz0 hz1 hz2
  generalize hn : ws.length = n at *
  have HN := Lib.hid hn; clear hn
  by_cases h0 : n = 0
  · have hw : ws = [] := List.eq_nil_of_length_eq_zero (by rw [HN.out]; exact h0)
    have hb0 : ((n : Int) == 0) = true := by simp; omega
    have HW := Lib.hid hw; clear hw h0
    go_enter Tryd.func49, Tryd.ntmps49
    go_wp2_with fail
    go_ret
    exact ⟨_, rfl, by rw [HW.out]; exact Acc.nil w _ _ _ _ (Below.refl _ _) (Nat.le_refl _)⟩
  · have hb0 : ((n : Int) == 0) = false := by simp; omega
    have hpos : 0 < n := by omega
    clear h0
    have hmk := fun wx => mkLines wx n (by omega)
    go_enter Tryd.func49, Tryd.ntmps49
    go_wp2_with fail
    have P0 : Hid (Pair w w.heap.size (w.alloc (.cells (madeCells #[.int .u64 0] n) 42)) 120 3 (.slice none 0 0) 0 (instrC []) 42 1 (.slice (some ⟨w.heap.size, 0, none⟩) 0 n) 0 (intsU [])) := by
      refine ⟨Acc.nil w _ _ _ _ (below_alloc _ _) (by simp), ⟨?_, fun g hg => by simp [Value.ownBlock] at hg; omega, below_alloc _ _, by simp⟩, fun g hg => by simp [Value.ownBlock] at hg⟩
      have := OwnSl.new w (madeCells #[.int .u64 0] n) 42 1 0 n (by simp [madeCells]) (Nat.zero_le _) (by unfold maxLen; omega)
      simpa [intsU] using this
    go_loopw [3, 4, 17] (fun ov fv y wr => ∃ k : Nat, k ≤ n ∧ y = .int .i64 k ∧ Pair w w.heap.size wr 120 3 ov k (instrC (stC (ws.take k))) 42 1 fv k (intsU (startsI ((ws.take k).map (·.1))))) (fun _ _ y _ => n - (intOf y).toNat)
    case atStart => exact ⟨0, by omega, rfl, P0.out⟩
    case round =>
      obtain ⟨k, hk, rfl, ha⟩ := hrel
      obtain ⟨oa, oc, hov⟩ := ha.a.slice
      subst hov
      obtain ⟨fa, fc, hfv⟩ := ha.b.slice
      subst hfv
      have A := Lib.hid ha; clear ha P0
      by_cases hlt2 : k < n
      · have hk' : (k : Int) < n := by omega
        obtain ⟨e, he⟩ : ∃ e, ws[k]? = some e := ⟨_, List.getElem?_eq_getElem (by rw [HN.out]; exact hlt2)⟩
        obtain ⟨_, a', c', e', _, hE⟩ := H.out.below A.out.a.bel
        cases e'
        have hg := flat_get' ws k e he
        obtain ⟨eb, eo, rfl, hE2⟩ := rd_at hE hg.1
        have c1 := hE2 _ _ hg.1; have c2 := hE2 _ _ hg.2
        rw [← Nat.add_assoc] at c2
        have HT := Lib.hid (take_snoc_get ws k e he)
        have hlt64 := HB.out e (List.mem_of_getElem? he)
        clear hE hE2 he hg
        obtain ⟨e1, e2⟩ := e
        simp only at c1 c2 hlt64
        have HM := Lib.hid (fun wx => mstart_any (w := wx) e1 hlt64)
        have hne : (Value.slice oa k oc).ownBlock ≠ some wr.heap.size := fun hh => by have := A.out.a.own.lt _ hh; omega
        have HNE := Lib.hid hne; clear hne
        go_wp2_with (at_builtin; refine wpList_append_sl _ rfl _ _ 69 rfl 120 k0 _ 3 24 Tryd.underlying69 I2.out.1 I2.out.2.1 I2.out.2.2.1 I2.out.2.2.2 rfl (by decide) _ k (instrC (stC (ws.take k))) rfl (by exact (A.out.a.own.alloc _).alloc _) _ 1 (instrC [(1, e1, e2)]) rfl (by exact RdSl.newAt _ _ _ 3 1 _ (by simp) rfl) (instrC_one _) (by unfold maxLen; omega) (by omega) ?_)
        intro v1 w1 o1 g1 b1 n1
        have d1 : w1.cell? ⟨wr.heap.size, 0, none⟩ = some (.int .u64 (e1 : Int)) := (kept_cell (below_alloc _ _) g1 (by simp) HNE.out 0).trans ((Blk.new wr _ _).cell rfl)
        have P1 := Lib.hid (A.out.left (below_twice wr _ _) o1 g1 b1 (by omega)); clear o1 g1 b1 n1
        obtain ⟨va, vc, hv1⟩ := P1.out.a.slice
        subst hv1
        go_wp2_with fail
        (with_reducible refine (HM.out _).mono ?_)
        rintro e w' ⟨rfl, rfl⟩
        go_wp2_with (at_builtin; refine wpList_append_sl _ rfl _ _ 80 rfl 42 i0 _ 1 8 Tryd.underlying80 I.out.1 I.out.2.1 I.out.2.2.1 I.out.2.2.2 rfl (by decide) _ k (intsU (startsI ((ws.take k).map (·.1)))) rfl (by exact P1.out.b.own.alloc _) _ 1 (intsU [((e1 - e1 % 64 : Nat) : Int)]) rfl (by exact RdSl.newAt _ _ _ 1 1 _ (by simp) rfl) (intsU_one _) (by unfold maxLen; omega) (by omega) ?_)
        intro v2 w2 o2 g2 b2 n2
        have o2' : OwnSl w2 42 1 v2 (k + 1) (intsU (startsI ((ws.take k).map (·.1))) ++ intsU [((e1 - e1 % 64 : Nat) : Int)]) := by rw [List.map_take]; exact o2
        have P2 := Lib.hid ((P1.out.swap.left (below_alloc w1 _) o2' g2 b2 (by omega)).swap); clear o2 o2' g2 b2 n2
        go_wp2_with fail
        go_roundw
        case rel => exact ⟨k + 1, by omega, by go_num, by rw [HT.out, stC_snoc, instrC_append, List.map_append, List.map_cons, List.map_nil, startsI_snoc, intsU_append]; exact P2.out⟩
        case measure => simp [intOf]; omega
      · obtain rfl : k = n := by omega
        have hF : ws.take k = ws := List.take_of_length_le (by rw [HN.out]; omega)
        rw [hF] at A
        clear hF hmk
        have hml : (startsI (ws.map (·.1))).length = k := by unfold startsI; rw [List.length_map, List.length_map, HN.out]
        have hS := sortU_own (w := wr) (.slice fa k fc) (startsI (ws.map (·.1))) (by rw [hml]; exact A.out.b.own) (by rw [hml]; omega)
        rw [hml] at hS
        have HS := Lib.hid hS; clear hS
        have HL := Lib.hid (linesL_len (ws.map (·.1)))
        have hlen : (linesL (ws.map (·.1))).length ≤ k := by have := HL.out; rw [List.length_map, HN.out] at this; exact this
        have HP := Lib.hid (flC_pos (ws.map (·.1)) (by rw [List.length_map, HN.out]; exact hpos))
        have hbd := linesL_bd (ws.map (·.1)) 288230376151711744 (fun o ho => by
          obtain ⟨e, he, rfl⟩ := List.mem_map.1 ho; have := HB.out e he; omega)
        have HBD := Lib.hid hbd
        have HST : Hid (storesL ws = stC ws ++ (flC (linesL (ws.map (·.1))) ++ [(3, 0, 0)])) := by
          show storesL ws = _
          unfold storesL flushL
          rw [if_neg HP.out]; rfl
        have HC := Lib.hid (fun ys (wx : World) h1 h2 h3 h4 => compact_lines (w := wx) (n := k) (.slice fa k fc) (ws.map (·.1)) ys h1 h2 h3 h4 hpos (by omega))
        clear hbd HL
        generalize linesL (ws.map (·.1)) = L at *
        generalize hm : L.length = m at *
        have HM := Lib.hid hm; clear hm
        go_wp2_with fail
        (with_reducible refine HS.out.mono ?_)
        rintro e w1 ⟨rfl, ys, m1, a1, o1, u1⟩
        have hyl : ys.length = k := by rw [m1.len, hml]
        have HC1 := Lib.hid (HC.out ys w1 o1 hyl m1.perm a1)
        have P1 := Lib.hid (A.out.a.side u1 A.out.b.new (fun g h1 h2 => A.out.ne g h1 h2))
        have hnew := A.out.b.new; have hne := A.out.ne
        clear o1 u1 m1 a1 hyl HS HC hml A
        have NW := Lib.hid (And.intro hnew hne); clear hnew hne
        go_wp2_with fail
        (with_reducible refine HC1.out.mono ?_)
        rintro e w2 ⟨ca, cc, rfl, o2, b2, u2⟩
        have P2 := Lib.hid (P1.out.side u2 NW.out.1 (fun g h1 h2 => NW.out.2 g h1 h2))
        have O2 : Hid (Pair w w.heap.size w2 120 3 (.slice oa k oc) k (instrC (stC ws)) 42 1 (.slice ca m cc) m (natsU (L.map (64 * ·)))) :=
          ⟨P2.out, ⟨o2, fun g hg => NW.out.1 g (b2 g hg), P2.out.bel, P2.out.lt⟩, fun g h1 h2 => NW.out.2 g h1 (b2 g h2)⟩
        clear o2 b2 u2 P1 P2 NW HC1
        go_wp2_with fail
        go_loopw [3, 41] (fun ov y wr => ∃ j : Nat, j ≤ m ∧ y = .int .i64 j ∧ Pair w w.heap.size wr 120 3 ov (k + j) (instrC (stC ws ++ flC (L.take j))) 42 1 (.slice ca m cc) m (natsU (L.map (64 * ·)))) (fun _ y _ => m - (intOf y).toNat)
        case atStart => exact ⟨0, by omega, rfl, by simpa [flC] using O2.out⟩
        case round =>
          obtain ⟨j, hj, rfl, ha⟩ := hrel
          obtain ⟨ra, rc, hrv⟩ := ha.a.slice
          subst hrv
          have A := Lib.hid ha; clear ha O2
          by_cases hlt3 : j < m
          · have hj' : (j : Int) < m := by omega
            obtain ⟨x, hx⟩ : ∃ x, L[j]? = some x := ⟨_, List.getElem?_eq_getElem (by rw [HM.out]; exact hlt3)⟩
            have hxb := HBD.out x (List.mem_of_getElem? hx)
            have hx2 : (natsU (L.map (64 * ·)))[j]? = some (.int .u64 ((64 * x : Nat) : Int)) := by simp [natsU, hx]
            obtain ⟨_, a', c', e', _, hE⟩ := A.out.b.rd
            cases e'
            obtain ⟨eb, eo, rfl, hE2⟩ := rd_at hE hx2
            have c1 := hE2 _ _ hx2
            have HT := Lib.hid (take_snoc_get L j x hx)
            clear hE hE2 hx hx2
            obtain ⟨y, hy⟩ : ∃ y : Nat, 64 * x = y := ⟨_, rfl⟩
            rw [hy] at c1
            have HY := Lib.hid hy; clear hy
            go_wp2_with (at_builtin; refine wpList_append_sl _ rfl _ _ 69 rfl 120 k0 _ 3 24 Tryd.underlying69 I2.out.1 I2.out.2.1 I2.out.2.2.1 I2.out.2.2.2 rfl (by decide) _ (k + j) (instrC (stC ws ++ flC (L.take j))) rfl (by exact A.out.a.own.alloc _) _ 1 (instrC [(2, y, 0)]) rfl (by exact RdSl.newAt _ _ _ 3 1 _ (by simp) rfl) (instrC_one _) (by unfold maxLen; omega) (by omega) ?_)
            intro v1 w3 o1 g1 b1 n1
            have P3 := Lib.hid (A.out.left (below_alloc wr _) o1 g1 b1 (by omega)); clear o1 g1 b1 n1
            go_wp2_with fail
            go_roundw
            case rel => exact ⟨j + 1, by omega, by go_num, by rw [HT.out, flC_snoc, HY.out, ← List.append_assoc, instrC_append (stC ws ++ flC (L.take j))]; exact P3.out⟩
            case measure => simp [intOf]; omega
          · obtain rfl : j = m := by omega
            have hF : L.take j = L := List.take_of_length_le (by rw [HM.out]; omega)
            rw [hF] at A
            clear hF
            go_wp2_with (at_builtin; refine wpList_append_sl _ rfl _ _ 69 rfl 120 k0 _ 3 24 Tryd.underlying69 I2.out.1 I2.out.2.1 I2.out.2.2.1 I2.out.2.2.2 rfl (by decide) _ (k + j) (instrC (stC ws ++ flC L)) rfl (by exact A.out.a.own.alloc _) _ 1 (instrC [(3, 0, 0)]) rfl (by exact RdSl.newAt _ _ _ 3 1 _ (by simp) rfl) (instrC_one _) (by unfold maxLen; omega) (by omega) ?_)
            intro v1 w3 o1 g1 b1 n1
            have A1 := Lib.hid (A.out.a.next (below_alloc wr _) o1 g1 b1 (by omega)); clear o1 g1 b1 n1
            go_wp2_with fail
            go_ret
            exact ⟨_, rfl, by rw [HST.out, ← List.append_assoc]; exact A1.out.congr (by simp [stC, flC, HN.out, HM.out]; omega) (by rw [instrC_append (stC ws ++ flC L)])⟩
end
end Go.Proofs.YtdidpppjkbgccaaDoor
