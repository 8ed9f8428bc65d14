/- slices.Compact of words that a slice owns. -/
import Derived.Test.YtbpaamnofkhonaaDoorSortA
import Derived.Test.YtbpaamnofkhonaaDoorCmpP
import Derived.Laws.CopyRow
namespace Go.Proofs.YtbpaamnofkhonaaDoor
open Go.RowKit
attribute [local go_sem ↓] Go.wp_at_zero Go.wp_at_succ

theorem cmpL_none (xs : List Int) : ∀ k, k < xs.length → (∀ j, j < k → ¬ xs[j + 1]! = xs[j]!) → cmpL (xs.take (k + 1)) = xs.take (k + 1) := by
  intro k
  induction k with
  | zero => intro h _; exact cmpL_one xs h
  | succ k ih =>
    intro h hn
    have e1 : xs.take (k + 1 + 1) = xs.take (k + 1) ++ [xs[k + 1]!] := by
      rw [List.take_add_one (i := k + 1), List.getElem?_eq_getElem h, getElem!_pos xs (k + 1) h]; rfl
    rw [cmpL_take xs k h, if_neg (hn k (by omega)), ih (by omega) (fun j hj => hn j (by omega)), e1]
theorem CmpMid.start {xs : List Int} {k : Nat} (hk : k + 1 < xs.length) (hn : ∀ j, j < k → ¬ xs[j + 1]! = xs[j]!) (he : xs[k + 1]! = xs[k]!) : CmpMid xs xs (k + 1 + 1) (k + 1) :=
  ⟨rfl, by rw [cmpL_take xs k hk, if_pos he, cmpL_none xs k (by omega) hn], fun _ _ => rfl, by omega, by omega⟩
theorem at0_get (l : List Int) (i : Nat) (h : i < l.length) : at0 l i = l[i]! := by simp [at0, List.getD, h]
theorem zeroU (w : World) : (zeroValue 22).run Tryd.prog w = .ok (.int .u64 0) w := by kernel_rfl

section
variable {w : World}
theorem run_clearU (ty : TypeId) {g o c i m : Nat} {ys : List Int} (h : WrU w g o c ys) (hi : i + m = ys.length) (h0 : 0 < m) :
    ∃ w', (Builtin.clear_ #[45] ty #[.slice (some ⟨g, o + i, none⟩) m (c - i)]).run Tryd.prog w = .ok (.tuple #[]) w' ∧ OwnSl w' 22 1 (.slice (some ⟨g, o, none⟩) i c) i (intsU (ys.take i)) ∧ Upd (fun k => k = g) w w' := by
  rcases h.2 with ⟨e, _⟩ | ⟨g', o', cap, cur, e, hb, h1, h2, h3, h4⟩
  · cases e
  · cases e
    have hzl : (Builtin.zeroCells (Value.cells (.int .u64 0)) m).toList.length = m := by simp [Builtin.zeroCells, Value.cells]
    have hz1 : ∀ u ∈ (Builtin.zeroCells (Value.cells (.int .u64 0)) m).toList, u.oneCell' = true := by
      intro u hu
      simp [Builtin.zeroCells, Value.cells, Nat.mod_one] at hu
      rw [← hu.2]; rfl
    have hst := run_storeCells_at Tryd.prog g (o + i) 22 (Builtin.zeroCells (Value.cells (.int .u64 0)) m).toList 0 cur w hb (by rw [hzl]; omega) hz1
    obtain ⟨m', rfl⟩ : ∃ m', m = m' + 1 := ⟨m - 1, by omega⟩
    refine ⟨w.setRow g (cur.toList.take (o + i + 0) ++ (Builtin.zeroCells (Value.cells (.int .u64 0)) (m' + 1)).toList ++ cur.toList.drop (o + i + 0 + (Builtin.zeroCells (Value.cells (.int .u64 0)) (m' + 1)).toList.length)).toArray, ?_, ?_, ?_⟩
    · simp [Builtin.clear_, run_underlying Tryd.underlying45, hst, Result.andThen]
    · refine ⟨by simp [intsU]; omega, .inr ⟨g, o, c, _, rfl, setRow_heap w g cur _ 22 (0, 0) hb, by omega, h2, ?_, ?_⟩⟩
      · simp only [List.size_toArray, List.length_append, List.length_take, List.length_drop, Array.length_toList, hzl]
        omega
      · simp only [Nat.add_zero, Nat.mul_one]
        have lo : (cur.toList.take (o + i)).length = o + i := by rw [List.length_take, Array.length_toList]; omega
        rw [List.append_assoc, List.drop_append_of_le_length (by omega), List.take_append_of_le_length (by rw [List.length_drop]; omega)]
        rw [List.drop_take, List.take_take, show min i (o + i - o) = i by omega]
        have h5 := congrArg (List.take i) h4
        rw [List.take_take, show min i (ys.length * 1) = i by omega] at h5
        rw [h5, intsU, intsU, List.map_take]
    · exact ⟨rfl, rfl, rfl, by simp [World.setRow], fun k _ hk => setRow_other w g k _ hk⟩
theorem Upd.drewN {S : Nat → Prop} {a b : World} (h : Upd S a b) (n : Nat) : Upd S a (b.drewN n) := ⟨h.os, h.tape, h.output, h.size, h.block⟩
theorem WrU.rd2 {g o c : Nat} {xs : List Int} (h : WrU w g o c xs) (j : Nat) (hj : j < xs.length) : w.cell? ⟨g, o + j, none⟩ = some (.int .u64 xs[j]!) := by
  rw [← at0_get xs j hj]; exact h.cell j hj
/-- What Compact leaves. -/
def CmpPost (w : World) (g o c : Nat) (xs : List Int) (r : Ending) (w' : World) : Prop :=
  r = .returned (.slice (some ⟨g, o, none⟩) (cmpL xs).length c) ∧ OwnSl w' 22 1 (.slice (some ⟨g, o, none⟩) (cmpL xs).length c) (cmpL xs).length (intsU (cmpL xs)) ∧ Upd (fun k => k = g) w w'
/-- In the inner loop. -/
structure CmpSt (w : World) (g o c : Nat) (xs : List Int) (q i : Nat) (wr : World) : Prop where
  st : ∃ ys, CmpMid xs ys q i ∧ WrU wr g o c ys ∧ Upd (fun k => k = g) w wr
theorem CmpMid.fin {xs ys : List Int} {i : Nat} (h : CmpMid xs ys xs.length i) : i = (cmpL xs).length ∧ ys.take i = cmpL xs := by
  have h1 := h.pre
  rw [List.take_length] at h1
  have h2 := congrArg List.length h1
  rw [List.length_take, h.len] at h2
  have := h.lt
  exact ⟨by omega, h1⟩
theorem CmpMid.keep' {xs ys : List Int} {q i : Nat} (h : CmpMid xs ys q i) (hq0 : 0 < q) (hq : q < xs.length) (e : ¬ xs[q]! = xs[q - 1]!) : CmpMid xs (ys.set i xs[q]!) (q + 1) (i + 1) := by
  obtain ⟨p, rfl⟩ : ∃ p, q = p + 1 := ⟨q - 1, by omega⟩
  exact h.keep hq e
theorem CmpMid.skip' {xs ys : List Int} {q i : Nat} (h : CmpMid xs ys q i) (hq0 : 0 < q) (hq : q < xs.length) (e : xs[q]! = xs[q - 1]!) : CmpMid xs ys (q + 1) i := by
  obtain ⟨p, rfl⟩ : ∃ p, q = p + 1 := ⟨q - 1, by omega⟩
  exact h.skip hq e
theorem CmpMid.at {xs ys : List Int} {q i j : Nat} (h : CmpMid xs ys q i) (hj : q ≤ j + 1) (hx : j < xs.length) : ys[j]! = xs[j]! := by
  have h1 := h.rest j hj
  have h2 := h.len
  rw [List.getElem?_eq_getElem hx, List.getElem?_eq_getElem (by omega)] at h1
  rw [getElem!_pos ys j (by omega), getElem!_pos xs j hx]
  exact Option.some.inj h1
set_option maxRecDepth 100000 in
set_option maxHeartbeats 4000000 in
theorem compact_wr {g o c : Nat} {xs : List Int} (h : WrU w g o c xs) (hs : xs.length ≤ 100000) :
    Calls Tryd.prog 71 #[.slice (some ⟨g, o, none⟩) xs.length c] w (CmpPost w g o c xs) := by
  have hc := h.le.1
  have hc2 : c ≤ maxLen := by
    rcases h.2 with ⟨e, _⟩ | ⟨g', o', cap, cur, e, hb, h1, h2, _⟩
    · cases e
    · cases e; exact h2
  unfold maxLen at hc2
  have hg := h.lt
  have H := Lib.hid h; clear h
  generalize hn : xs.length = n at *
  have HN := Lib.hid hn; clear hn
  by_cases h2 : n < 2
  · have h2' : (n : Int) < 2 := by omega
    have hcm : Hid (cmpL xs = xs) := by
      show cmpL xs = xs
      match xs, HN.out with
      | [], _ => rfl
      | [x], _ => rfl
      | x :: y :: l, e => simp at e; omega
    go_enter Tryd.func71, Tryd.ntmps71
    go_wp2_with fail
    go_ret
    refine ⟨?_, ?_, Upd.refl _ _⟩
    · rw [hcm.out, HN.out]; rfl
    · rw [hcm.out, HN.out]; have := H.out; unfold WrU at this; rw [HN.out] at this; exact this
  · have h2' : ¬ (n : Int) < 2 := by omega
    go_enter Tryd.func71, Tryd.ntmps71
    go_wp2_with fail
    go_loopw [3] (fun y wr => ∃ k : Nat, 0 < k ∧ k ≤ n ∧ y = .int .i64 k ∧ (∀ j, j + 1 < k → ¬ xs[j + 1]! = xs[j]!) ∧ Qt w wr) (fun y _ => n - (intOf y).toNat)
    case atStart => exact ⟨1, by omega, by omega, rfl, fun j hj => by omega, Qt.refl w⟩
    case round =>
      obtain ⟨k, hk0, hk, rfl, hne, q⟩ := hrel
      obtain ⟨na, rfl⟩ := q
      have HNE := Lib.hid hne; clear hne
      by_cases hlt : k < n
      · have hk' : (k : Int) < n := by omega
        have d1 := H.out.rd2 k (by rw [HN.out]; exact hlt); have d2 := H.out.rd2 (k - 1) (by rw [HN.out]; omega)
        have hi2 : ((k : Int) - 1).toNat = k - 1 := by omega
        have hi3 : (0 : Int) ≤ (k : Int) - 1 := by omega
        have hi4 : (1 : Int) ≤ (k : Int) := by omega
        have hi6 : (k : Int) - 1 < n := by omega
        by_cases he : xs[k]! = xs[k - 1]!
        · have hb : (xs[k]! == xs[k - 1]!) = true := by simpa using he
          have M0 : Hid (CmpMid xs xs (k + 1) k) := by
            obtain ⟨p, rfl⟩ : ∃ p, k = p + 1 := ⟨k - 1, by omega⟩
            exact CmpMid.start (by rw [HN.out]; exact hlt) (fun j hj => HNE.out j (by omega)) he
          generalize xs[k]! = xk at *
          generalize xs[k - 1]! = xk1 at *
          clear he
          have hck : ¬ c = k := by omega
          have hck' : ¬ (c : Int) = (k : Int) := by omega
          have hkc : (k : Int) ≤ c := by omega
          have hkn : (k : Int) ≤ n := by omega
          go_wp2_with fail
          go_quiet (fail)
          go_wp2_with fail
          obtain ⟨wq, hwq⟩ : ∃ wq, wq = w.drewN (na + nq) := ⟨_, rfl⟩
          rw [← hwq]
          have S0 : Hid (CmpSt w g o c xs (k + 1) k wq) := by
            refine ⟨⟨xs, M0.out, ?_, ?_⟩⟩
            · rw [hwq]; exact H.out.drewN _
            · rw [hwq]; exact (Upd.refl _ w).drewN _
          clear hwq d1 d2 hi2 hi3 hi4 hi6 hb M0
          go_loopw [3, 5] (fun y z wr => ∃ i k2 : Nat, y = .int .i64 i ∧ z = .int .i64 k2 ∧ 0 < k2 ∧ k + k2 ≤ n ∧ CmpSt w g o c xs (k + k2) i wr) (fun _ z _ => n - (intOf z).toNat)
          case atStart => exact ⟨k, 1, rfl, rfl, by omega, by omega, S0.out⟩
          case round =>
            obtain ⟨i, k2, rfl, rfl, hk2, hkk, hst⟩ := hrel
            obtain ⟨ys, m1, w1, u1⟩ := hst.st
            have M := Lib.hid m1; have W := Lib.hid w1; have U := Lib.hid u1; clear m1 w1 u1 hst S0
            have hsub : ((n - k : Nat) : Int) = (n : Int) - k := by omega
            have hwb := W.out.lt
            have hwf := W.out.frozen
            by_cases hlt2 : k2 < n - k
            · have hlt2' : (k2 : Int) < ((n - k : Nat) : Int) := by omega
              have e1 := W.out.rd2 (k + k2) (by rw [M.out.len, HN.out]; omega); have e2 := W.out.rd2 (k + k2 - 1) (by rw [M.out.len, HN.out]; omega)
              rw [M.out.at (by omega) (by rw [HN.out]; omega)] at e1 e2
              rw [show o + (k + k2) = o + k + k2 by omega] at e1
              rw [show o + (k + k2 - 1) = o + k + (k2 - 1) by omega] at e2
              have hj2 : ((k2 : Int) - 1).toNat = k2 - 1 := by omega
              have hj3 : (0 : Int) ≤ (k2 : Int) - 1 := by omega
              have hj4 : (1 : Int) ≤ (k2 : Int) := by omega
              have hj6 : (k2 : Int) - 1 < ((n - k : Nat) : Int) := by omega
              have hin : (i : Int) < n := by have := M.out.lt; omega
              have hf1 := hwf (o + i)
              by_cases hx : xs[k + k2]! = xs[k + k2 - 1]!
              · have hbx : (xs[k + k2]! != xs[k + k2 - 1]!) = false := by simpa using hx
                have M2 := Lib.hid (M.out.skip' (by omega) (by rw [HN.out]; omega) hx)
                generalize xs[k + k2]! = xa at *
                generalize xs[k + k2 - 1]! = xb at *
                clear hx
                go_wp2_with fail
                go_quiet (fail)
                go_wp2_with fail
                go_roundw
                case rel => exact ⟨i, k2 + 1, rfl, by go_num, by omega, by omega, ⟨ys, by rw [← Nat.add_assoc]; exact M2.out, W.out.drewN _, U.out.drewN _⟩⟩
                case measure => simp [intOf]; omega
              · have hbx : (xs[k + k2]! != xs[k + k2 - 1]!) = true := by simpa using hx
                have M2 := Lib.hid (M.out.keep' (by omega) (by rw [HN.out]; omega) hx)
                have W2 := Lib.hid (fun m => (W.out.drewN m).set i (by rw [M.out.len, HN.out]; omega) xs[k + k2]!)
                generalize xs[k + k2]! = xa at *
                generalize xs[k + k2 - 1]! = xb at *
                clear hx
                have hgi := W.out.cell i (by rw [M.out.len, HN.out]; omega)
                go_wp2_with fail
                go_quiet (fail)
                go_wp2_with fail
                go_roundw
                case rel => exact ⟨i + 1, k2 + 1, by go_num, by go_num, by omega, by omega, ⟨_, by rw [← Nat.add_assoc]; exact M2.out, W2.out _, (U.out.drewN _).setCell (fun _ => rfl) _⟩⟩
                case measure => simp [intOf]; omega
            · obtain rfl : k2 = n - k := by omega
              have hsum : k + (n - k) = xs.length := by rw [HN.out]; omega
              rw [hsum] at M
              have F := Lib.hid M.out.fin
              have hil : i < n := by have := M.out.lt; rw [HN.out] at this; exact this
              have hyl : Hid (i + (n - i) = ys.length) := by show i + (n - i) = ys.length; rw [M.out.len, HN.out]; omega
              have hci : ¬ c = i := by omega
              have hci' : ¬ (c : Int) = (i : Int) := by omega
              have hic : (i : Int) ≤ c := by omega
              have hin : (i : Int) ≤ n := by omega
              clear hsum
              obtain ⟨w5, hr5, o5, u5⟩ := run_clearU 0 W.out hyl.out (by omega)
              have O5 := Lib.hid o5; have U5 := Lib.hid u5; clear o5 u5
              go_wp2_with fail
              go_ret
              refine ⟨?_, ?_, U.out.trans U5.out (fun _ _ h => h)⟩
              · rw [← F.out.1]; rfl
              · rw [← F.out.1, ← F.out.2]; exact O5.out
        · have hb : (xs[k]! == xs[k - 1]!) = false := by simpa using he
          have HNX : Hid (∀ j, j + 1 < k + 1 → ¬ xs[j + 1]! = xs[j]!) := fun j hj => by
            by_cases e : j + 1 = k
            · subst e; exact he
            · exact HNE.out j (by omega)
          clear he
          generalize xs[k]! = xk at *
          generalize xs[k - 1]! = xk1 at *
          go_wp2_with fail
          go_quiet (fail)
          go_wp2_with fail
          go_roundw
          case rel => exact ⟨k + 1, by omega, by omega, by go_num, HNX.out, ⟨_, rfl⟩⟩
          case measure => simp [intOf]; omega
      · obtain rfl : k = n := by omega
        have hcm : Hid (cmpL xs = xs) := by
          show cmpL xs = xs
          have := cmpL_none xs (k - 1) (by rw [HN.out]; omega) (fun j hj => HNE.out j (by omega))
          rw [show k - 1 + 1 = k by omega, List.take_of_length_le (by rw [HN.out]; omega)] at this
          exact this
        go_wp2_with fail
        go_ret
        refine ⟨?_, ?_, (Upd.of_below (Qt.drewN w na).below)⟩
        · rw [hcm.out, HN.out]; rfl
        · rw [hcm.out, HN.out]; have := H.out; unfold WrU at this; rw [HN.out] at this; exact this.kept (fun _ _ => rfl)
end
end Go.Proofs.YtbpaamnofkhonaaDoor
