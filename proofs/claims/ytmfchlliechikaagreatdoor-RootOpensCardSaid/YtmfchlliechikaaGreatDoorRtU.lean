/- The stable sort of entries by name: plain, and the walks of the comparison and of the insertion sort. -/
import Derived.Test.YtmfchlliechikaaGreatDoorRtL
namespace Go.Proofs.YtmfchlliechikaaGreatDoor
open Go.RowKit Go.Maps
attribute [local go_sem ↓] Go.wp_at_zero Go.wp_at_succ

abbrev Ent := ByteArray × Nat
def ltE (a b : Ent) : Bool := Op.bytesLess a.1.toList b.1.toList
/-- Where e goes into the first j of S, looked for from the right. -/
def posR (S : List Ent) (e : Ent) : Nat → Nat
  | 0 => 0
  | j + 1 => if ltE e (S.getD j e) then posR S e j else j + 1
theorem posR_le (S : List Ent) (e : Ent) : ∀ j, posR S e j ≤ j
  | 0 => Nat.le_refl _
  | j + 1 => by
    unfold posR
    split
    · have := posR_le S e j; omega
    · exact Nat.le_refl _
def insR (S : List Ent) (e : Ent) : List Ent := S.take (posR S e S.length) ++ e :: S.drop (posR S e S.length)
theorem insR_len (S : List Ent) (e : Ent) : (insR S e).length = S.length + 1 := by
  have := posR_le S e S.length
  unfold insR
  simp; omega
def srtR (L : List Ent) : List Ent := L.foldl insR []
theorem srtR_snoc (L : List Ent) (e : Ent) : srtR (L ++ [e]) = insR (srtR L) e := by simp [srtR]
theorem srtR_len (L : List Ent) : (srtR L).length = L.length := by
  have key : ∀ (L S : List Ent), (L.foldl insR S).length = S.length + L.length := by
    intro L
    induction L with
    | nil => intro S; rfl
    | cons e L ih => intro S; simp only [List.foldl_cons, ih, insR_len, List.length_cons]; omega
  have := key L []
  unfold srtR
  simpa using this
/-- Entries as cells. -/
def eC (l : List Ent) : List Value := l.flatMap fun e => [.string e.1, .int .u64 e.2]
theorem eC_append (a b : List Ent) : eC (a ++ b) = eC a ++ eC b := by simp [eC]
theorem eC_len (l : List Ent) : (eC l).length = l.length * 2 := by
  induction l with
  | nil => rfl
  | cons e l ih => simp [eC] at *; omega
theorem eC_one (l : List Ent) : ∀ u ∈ eC l, u.oneCell' = true := by
  intro u hu
  simp [eC] at hu
  obtain ⟨a, b, _, rfl | rfl⟩ := hu <;> rfl
theorem eC_get (l : List Ent) : ∀ (k : Nat) (e : Ent), l[k]? = some e → (eC l)[k * 2]? = some (.string e.1) ∧ (eC l)[k * 2 + 1]? = some (.int .u64 e.2) := by
  induction l with
  | nil => intro k e h; simp at h
  | cons x l ih =>
    intro k e he
    have hf : eC (x :: l) = .string x.1 :: .int .u64 x.2 :: eC l := rfl
    cases k with
    | zero => simp at he; subst he; simp [hf]
    | succ k =>
      have := ih k e (by simpa using he)
      rw [hf, show (k + 1) * 2 = k * 2 + 1 + 1 from by omega]
      simpa using this
theorem eC_set (l : List Ent) : ∀ (k : Nat) (e : Ent), ((eC l).set (k * 2) (.string e.1)).set (k * 2 + 1) (.int .u64 e.2) = eC (l.set k e) := by
  induction l with
  | nil => intro k e; rfl
  | cons x l ih =>
    intro k e
    have hf : eC (x :: l) = .string x.1 :: .int .u64 x.2 :: eC l := rfl
    cases k with
    | zero => rfl
    | succ k =>
      rw [hf, show (k + 1) * 2 = k * 2 + 1 + 1 from by omega]
      simp only [List.set_cons_succ]
      rw [ih k e]
      rfl
/-- A cell of an owned slice, stored. -/
theorem OwnSl.setQ {w : World} {e : TypeId} {size : Nat} {a : Option Addr} {n c : Nat} {xs : List Value} (h : OwnSl w e size (.slice a n c) n xs) {i : Nat} (hi : i < n * size) (u : Value) :
    ∃ g o, a = some ⟨g, o, none⟩ ∧ w.cell? ⟨g, o + i, none⟩ = xs[i]? ∧ w.frozen? ⟨g, o + i, none⟩ = false ∧ g < w.heap.size ∧ OwnSl (w.setCell ⟨g, o + i, none⟩ u) e size (.slice a n c) n (xs.set i u) := by
  obtain ⟨h1, h2⟩ := h
  rcases h2 with ⟨h2, rfl⟩ | ⟨g, o, cap, cur, hv, hb, hc, hm, hs, ht⟩
  · simp at hi
  · cases hv
    have hcs : n * size ≤ c * size := Nat.mul_le_mul_right _ hc
    have hlen : cur.toList.length = cur.size := rfl
    have hx : xs[i]? = cur[o + i]? := by
      rw [← ht, List.getElem?_take, if_pos (by omega), List.getElem?_drop]; simp
    refine ⟨g, o, rfl, ?_, hb.frozen _, hb.lt, by rw [List.length_set]; exact h1, .inr ⟨g, o, _, _, rfl, hb.set (o + i) u, hc, hm, by simp; omega, ?_⟩⟩
    · rw [hx, Array.getElem?_eq_getElem (by omega)]
      exact hb.cell (Array.getElem?_eq_getElem (by omega))
    · apply List.ext_getElem?
      intro k
      have hk : ((cur.toList.drop o).take (n * size))[k]? = xs[k]? := by rw [ht]
      simp only [List.getElem?_take, List.getElem?_drop, Array.toList_setIfInBounds, List.getElem?_set] at hk ⊢
      by_cases e1 : k < n * size
      · rw [if_pos e1] at hk ⊢
        by_cases e2 : i = k
        · subst e2
          rw [if_pos rfl, if_pos rfl, if_pos (by omega), if_pos (by omega)]
        · rw [if_neg (by omega), if_neg e2]; exact hk
      · rw [if_neg e1] at hk ⊢
        rw [if_neg (by omega)]; exact hk
/-- A slice of entries in memory. -/
structure EnAt (w : World) (g o n c : Nat) (L : List Ent) (wr : World) : Prop where
  own : OwnSl wr 100 2 (.slice (some ⟨g, o, none⟩) n c) n (eC L)
  len : L.length = n
  bel : Below w.heap.size w wr
  new : w.heap.size ≤ g
section
variable {w wr wz : World} {g o n c : Nat} {L : List Ent}
theorem EnAt.lt (h : EnAt w g o n c L wr) : g < wr.heap.size := h.own.lt g rfl
theorem EnAt.next (h : EnAt w g o n c L wr) (hb : Below wr.heap.size wr wz) : EnAt w g o n c L wz := ⟨h.own.kept (fun k hk => by cases hk; exact hb.block _ h.lt), h.len, h.bel.trans (hb.mono h.bel.size), h.new⟩
theorem EnAt.cells (h : EnAt w g o n c L wr) {k : Nat} {e : Ent} (he : L[k]? = some e) :
    wr.cell? ⟨g, o + k * 2, none⟩ = some (.string e.1) ∧ wr.cell? ⟨g, o + (k * 2 + 1), none⟩ = some (.int .u64 e.2) ∧ wr.frozen? ⟨g, o + k * 2, none⟩ = false ∧ wr.frozen? ⟨g, o + (k * 2 + 1), none⟩ = false := by
  have hk : k < n := by rw [← h.len]; exact (List.getElem?_eq_some_iff.1 he).1
  obtain ⟨g1, o1, e1, c1, f1, _⟩ := h.own.setQ (i := k * 2) (by omega) (.int .u8 0)
  obtain ⟨g2, o2, e2, c2, f2, _⟩ := h.own.setQ (i := k * 2 + 1) (by omega) (.int .u8 0)
  cases e1; cases e2
  exact ⟨c1.trans (eC_get L k e he).1, c2.trans (eC_get L k e he).2, f1, f2⟩
theorem EnAt.set (h : EnAt w g o n c L wr) {k : Nat} (hk : k < n) (e : Ent) : EnAt w g o n c (L.set k e) ((wr.setCell ⟨g, o + k * 2, none⟩ (.string e.1)).setCell ⟨g, o + (k * 2 + 1), none⟩ (.int .u64 e.2)) := by
  obtain ⟨g1, o1, e1, _, _, _, h1⟩ := h.own.setQ (i := k * 2) (by omega) (.string e.1)
  cases e1
  obtain ⟨g2, o2, e2, _, _, _, h2⟩ := h1.setQ (i := k * 2 + 1) (by omega) (.int .u64 e.2)
  cases e2
  rw [eC_set] at h2
  exact ⟨h2, by rw [List.length_set]; exact h.len, (h.bel.setCell h.new _).setCell h.new _, h.new⟩
theorem EnAt.drewN (h : EnAt w g o n c L wr) (q : Nat) : EnAt w g o n c L (wr.drewN q) := h.next ⟨rfl, rfl, rfl, Nat.le_refl _, fun _ _ => rfl⟩
theorem EnAt.drew (h : EnAt w g o n c L wr) : EnAt w g o n c L wr.drew := h.next ((Below.refl _ _).drew)
set_option maxRecDepth 100000 in
set_option maxHeartbeats 2000000 in
theorem rtList1_any (s t : ByteArray) (p q : Nat) : Calls Tryz.prog 64 #[.agg #[.string s, .int .u64 p], .agg #[.string t, .int .u64 q]] w fun r w' => r = .returned (.int .i64 (cmpS s.toList t.toList)) ∧ Below w.heap.size w w' := by
  have HC := Lib.hid (fun wx : World => cmpS_any (w := wx) s t)
  have HB := Lib.hid (below_twice w (.cells #[.string s, .int .u64 p] 100) (.cells #[.string t, .int .u64 q] 100))
  go_enter Tryz.func64, Tryz.ntmps64
  go_wp2_with fail
  (with_reducible refine (HC.out _).mono ?_)
  rintro r w' ⟨rfl, rfl⟩
  go_wp2_with fail
  go_ret
  exact ⟨rfl, HB.out⟩
end
theorem cmpS_lt (a b : List UInt8) : (cmpS a b < 0) ↔ Op.bytesLess a b = true := by
  unfold cmpS
  split
  · rename_i h; simp [h]
  · rename_i h
    split <;> simp [h]
/-- The row while an entry moves to the left. -/
def midR (S R : List Ent) (e : Ent) (j : Nat) : List Ent := S.take j ++ e :: (S.drop j ++ R)
theorem midR_len (S R : List Ent) (e : Ent) (j : Nat) (h : j ≤ S.length) : (midR S R e j).length = S.length + 1 + R.length := by unfold midR; simp; omega
theorem midR_at (S R : List Ent) (e : Ent) (j : Nat) (h : j ≤ S.length) : (midR S R e j)[j]? = some e := by
  unfold midR
  rw [List.getElem?_append_right (by simp; omega), List.length_take, Nat.min_eq_left h, Nat.sub_self]; rfl
theorem midR_pre (S R : List Ent) (e x : Ent) (j : Nat) (h : S[j]? = some x) : (midR S R e (j + 1))[j]? = some x := by
  have hj := (List.getElem?_eq_some_iff.1 h).1
  unfold midR
  rw [List.getElem?_append_left (by simp; omega), List.getElem?_take, if_pos (by omega)]; exact h
theorem midR_swap (S R : List Ent) (e x : Ent) (j : Nat) (h : S[j]? = some x) : ((midR S R e (j + 1)).set (j + 1) x).set j e = midR S R e j := by
  obtain ⟨hj, hx⟩ := List.getElem?_eq_some_iff.1 h
  have e1 : S.take (j + 1) = S.take j ++ [x] := by rw [List.take_add_one, h]; rfl
  have e2 : S.drop j = x :: S.drop (j + 1) := by rw [List.drop_eq_getElem_cons hj, hx]
  have hl : (S.take j).length = j := by simp; omega
  unfold midR
  rw [e1, e2]
  rw [List.append_assoc, List.singleton_append]
  rw [List.set_append_right _ _ (by omega), hl, Nat.add_sub_cancel_left]
  rw [List.set_append_right _ _ (by omega), hl, Nat.sub_self]
  rfl
theorem midR_end (S R : List Ent) (e : Ent) (j : Nat) (h : posR S e S.length = j) : midR S R e j = insR S e ++ R := by
  unfold midR insR; rw [h]; simp
section
variable {w : World}
set_option maxRecDepth 100000 in
set_option maxHeartbeats 8000000 in
theorem insE_any (g o n c : Nat) (L : List Ent) (w0 : World) (h : EnAt w0 g o n c L w) (hn : n ≤ 16) :
    Calls Tryz.prog 107 #[.slice (some ⟨g, o, none⟩) n c, .int .i64 0, .int .i64 n, .func (.func 64) #[] #[]] w fun r w' => r = .returned (.tuple #[]) ∧ EnAt w0 g o n c (srtR L) w' ∧ Below w0.heap.size w0 w' := by
  have HL := Lib.hid h.len
  have H := Lib.hid h
  have HC := Lib.hid (fun (wx : World) (a b : Ent) => rtList1_any (w := wx) a.1 b.1 a.2 b.2)
  have H0 : Hid (srtR (L.take 1) ++ L.drop 1 = L) := by
    show _ = _
    cases L with
    | nil => rfl
    | cons e L => simp [srtR, insR, posR]
  have HEND : Hid (srtR (L.take n) ++ L.drop n = srtR L) := by show _ = _; rw [List.take_of_length_le (by rw [HL.out]; omega), List.drop_eq_nil_of_le (by rw [HL.out]; omega), List.append_nil]
  clear h
  go_enter Tryz.func107, Tryz.ntmps107
  go_wp2_with fail
  go_loopw [8, 9] (fun y _ wr => ∃ i : Nat, 1 ≤ i ∧ (i ≤ n ∨ i = 1) ∧ y = .int .i64 i ∧ EnAt w0 g o n c (srtR (L.take i) ++ L.drop i) wr) (fun y _ _ => n + 1 - (intOf y).toNat)
  case atStart => exact ⟨1, by omega, .inr rfl, by go_num, by rw [H0.out]; exact H.out⟩
  case round =>
    obtain ⟨i, hi1, hi2, rfl, hs⟩ := hrel
    have S := Lib.hid hs; clear hs
    by_cases hlt : i < n
    · have hi' : (i : Int) < n := by omega
      obtain ⟨e, he⟩ : ∃ e, L[i]? = some e := ⟨_, List.getElem?_eq_getElem (by rw [HL.out]; exact hlt)⟩
      obtain ⟨T, hT⟩ : ∃ T, srtR (L.take i) = T := ⟨_, rfl⟩
      have hTl : T.length = i := by rw [← hT, srtR_len, List.length_take, HL.out]; omega
      have hM0 : srtR (L.take i) ++ L.drop i = midR T (L.drop (i + 1)) e i := by
        unfold midR
        rw [hT, show T.take i = T from List.take_of_length_le (by omega), show T.drop i = [] from List.drop_eq_nil_of_le (by omega)]
        obtain ⟨h1, h2⟩ := List.getElem?_eq_some_iff.1 he
        rw [List.drop_eq_getElem_cons h1, h2]; rfl
      have HNX : Hid (insR T e ++ L.drop (i + 1) = srtR (L.take (i + 1)) ++ L.drop (i + 1)) := by
        show _ = _
        rw [List.take_add_one, he, ← hT]
        show _ = srtR (L.take i ++ [e]) ++ _
        rw [srtR_snoc]
      rw [hM0] at S
      have HRL : Hid (T.length + 1 + (L.drop (i + 1)).length = n) := by show _ = _; rw [List.length_drop, HL.out, hTl]; omega
      obtain ⟨R, hR⟩ : ∃ R, L.drop (i + 1) = R := ⟨_, rfl⟩
      rw [hR] at HNX HRL S
      have HRE := Lib.hid hR
      clear hR
      have HT := Lib.hid hTl
      clear hT hTl hM0 he
      go_wp2_with fail
      go_loopw [9] (fun y wr => ∃ j : Nat, j ≤ i ∧ y = .int .i64 j ∧ EnAt w0 g o n c (midR T R e j) wr ∧ posR T e i = posR T e j) (fun y _ => (intOf y).toNat)
      case atStart => exact ⟨i, Nat.le_refl _, rfl, S.out, rfl⟩
      case round =>
        clear S
        obtain ⟨j, hj, rfl, hs, hp⟩ := hrel
        rename World => wq
        have S0 := Lib.hid hs
        have S := Lib.hid (hs.drew)
        have HP := Lib.hid hp
        clear hs hp
        by_cases hj0 : j = 0
        · subst hj0
          have HPE : Hid (midR T R e 0 = insR T e ++ R) := midR_end T R e 0 (by rw [HT.out, HP.out]; rfl)
          rw [show ((0 : Nat) : Int) = 0 from rfl]
          go_wp2_with fail
          go_quiet (fail)
          go_wp2_with fail
          go_roundw
          case rel => exact ⟨i + 1, by omega, by omega, by go_num, by rw [HRE.out, ← HNX.out, ← HPE.out]; exact S0.out.drewN _⟩
          case measure => simp [intOf]; omega
        · obtain ⟨k, rfl⟩ : ∃ k, j = k + 1 := ⟨j - 1, by omega⟩
          obtain ⟨x, hx⟩ : ∃ x, T[k]? = some x := ⟨_, List.getElem?_eq_getElem (by rw [HT.out]; omega)⟩
          have hpx : posR T e (k + 1) = if ltE e x then posR T e k else k + 1 := by
            show (if ltE e (T.getD k e) then _ else _) = _
            rw [List.getD_eq_getElem?_getD, hx]; rfl
          have HPX := Lib.hid hpx
          have HCM := Lib.hid (fun wx => HC.out wx e x)
          have hm1 := midR_at T R e (k + 1) (by rw [HT.out]; omega)
          have hm2 := midR_pre T R e x k hx
          have HSW := Lib.hid (midR_swap T R e x k hx)
          have hkn : k + 1 < n := by have := HRL.out; have := HT.out; omega
          have g0 : 0 < k + 1 := by omega
          have gw : IntKind.i64.wrap (((k + 1 : Nat) : Int) - 1) = ((k : Nat) : Int) := by rw [show ((k + 1 : Nat) : Int) - 1 = ((k : Nat) : Int) by omega]; exact IntWalk.i64_in _ (by omega)
          obtain ⟨y, hy⟩ : ∃ y, y = k + 1 := ⟨_, rfl⟩
          rw [← hy] at S HP hm1 g0 gw hkn ⊢
          clear S0
          have HY := Lib.hid hy
          have hyi : ((y : Nat) : Int) < n := by omega
          have hki : ((k : Nat) : Int) < n := by omega
          have CE := Lib.hid (fun (wx : World) (hw : EnAt w0 g o n c (midR T R e y) wx) => hw.cells hm1)
          have CX := Lib.hid (fun (wx : World) (hw : EnAt w0 g o n c (midR T R e y) wx) => hw.cells (show (midR T R e y)[k]? = some x by rw [hy]; exact hm2))
          obtain ⟨es, ep⟩ := e
          obtain ⟨xs, xp⟩ := x
          simp only at CE CX HCM
          clear hm1 hm2 hx hpx hy
          go_wp2_with fail
          refine wp_region_held (S := (fun wx => EnAt w0 g o n c (midR T R (es, ep) y) wx)) (by kernel_rfl) ?_
          change wpAnyH _ _ _ _ _ _ _ _ (World.drew _)
          refine wpAnyH_take (i := 0) (v := .int .i64 (y : Nat)) rfl (by kernel_rfl) (by kernel_rfl) (by kernel_rfl) (fun _ _ _ h => h) (Or.inl ⟨by kernel_rfl, fun w _ => by go_simp⟩) S.out ?_
          refine wpAnyH_take (i := 1) (v := .int .i64 0) rfl (by kernel_rfl) (by kernel_rfl) (by kernel_rfl) (fun _ _ _ h => h) (Or.inl ⟨by kernel_rfl, fun w _ => by go_simp⟩) S.out ?_
          refine wpAnyH_take (i := 2) (v := .bool true) rfl (by kernel_rfl) (by kernel_rfl) (by kernel_rfl) (fun _ _ _ h => h) (Or.inl ⟨by kernel_rfl, fun w _ => by go_simp⟩) S.out ?_
          refine wpAnyH_take (i := 3) (v := .bool true) rfl (by kernel_rfl) (by kernel_rfl) (by kernel_rfl) (fun _ _ _ h => h) (Or.inl ⟨by kernel_rfl, fun w _ => by go_simp⟩) S.out ?_
          refine wpAnyH_take (i := 4) (v := .func (.func 64) #[] #[]) rfl (by kernel_rfl) (by kernel_rfl) (by kernel_rfl) (fun _ _ _ h => h) (Or.inl ⟨by kernel_rfl, fun w _ => by go_simp⟩) S.out ?_
          refine wpAnyH_take (i := 5) (v := .slice (some ⟨g, o, none⟩) n c) rfl (by kernel_rfl) (by kernel_rfl) (by kernel_rfl) (fun _ _ _ h => h) (Or.inl ⟨by kernel_rfl, fun w _ => by go_simp⟩) S.out ?_
          refine wpAnyH_take (i := 6) (v := .int .i64 (y : Nat)) rfl (by kernel_rfl) (by kernel_rfl) (by kernel_rfl) (fun _ _ _ h => h) (Or.inl ⟨by kernel_rfl, fun w _ => by go_simp⟩) S.out ?_
          refine wpAnyH_take (i := 7) (v := .pointer (some ⟨g, o + y * 2, none⟩)) rfl (by kernel_rfl) (by kernel_rfl) (by kernel_rfl) (fun _ _ _ h => h) (Or.inl ⟨by kernel_rfl, fun w _ => by go_simp⟩) S.out ?_
          refine wpAnyH_take (i := 8) (v := .agg #[.string es, .int .u64 ep]) rfl (by kernel_rfl) (by kernel_rfl) (by kernel_rfl) (fun _ _ _ h => h) (Or.inl ⟨by kernel_rfl, fun wx hx => (by obtain ⟨a1, a2, _, _⟩ := CE.out _ hx; rw [← Nat.add_assoc] at a2; go_simp)⟩) S.out ?_
          refine wpAnyH_take (i := 9) (v := .slice (some ⟨g, o, none⟩) n c) rfl (by kernel_rfl) (by kernel_rfl) (by kernel_rfl) (fun _ _ _ h => h) (Or.inl ⟨by kernel_rfl, fun w _ => by go_simp⟩) S.out ?_
          refine wpAnyH_take (i := 10) (v := .int .i64 (y : Nat)) rfl (by kernel_rfl) (by kernel_rfl) (by kernel_rfl) (fun _ _ _ h => h) (Or.inl ⟨by kernel_rfl, fun w _ => by go_simp⟩) S.out ?_
          refine wpAnyH_take (i := 11) (v := .int .i64 (k : Nat)) rfl (by kernel_rfl) (by kernel_rfl) (by kernel_rfl) (fun _ _ _ h => h) (Or.inl ⟨by kernel_rfl, fun w _ => by go_simp⟩) S.out ?_
          refine wpAnyH_take (i := 12) (v := .pointer (some ⟨g, o + k * 2, none⟩)) rfl (by kernel_rfl) (by kernel_rfl) (by kernel_rfl) (fun _ _ _ h => h) (Or.inl ⟨by kernel_rfl, fun w _ => by go_simp⟩) S.out ?_
          refine wpAnyH_take (i := 13) (v := .agg #[.string xs, .int .u64 xp]) rfl (by kernel_rfl) (by kernel_rfl) (by kernel_rfl) (fun _ _ _ h => h) (Or.inl ⟨by kernel_rfl, fun wx hx => (by obtain ⟨a1, a2, _, _⟩ := CX.out _ hx; rw [← Nat.add_assoc] at a2; go_simp)⟩) S.out ?_
          refine wpAnyH_one (i := 14) (by kernel_rfl) rfl (by kernel_rfl) (fun K hK => ?_)
          go_simp
          (with_reducible refine (HCM.out _).mono ?_)
          rintro r w5 ⟨rfl, b5⟩
          have S5 := Lib.hid (S.out.next b5)
          clear b5
          go_simp
          refine hK _ _ ⟨S5.out, ?_⟩
          clear hK K
          clear S
          by_cases hcl : cmpS es.toList xs.toList < 0
          · have HLT : Hid (ltE (es, ep) (xs, xp) = true) := (cmpS_lt _ _).1 hcl
            refine wpAnyH_take (i := 15) (v := .bool true) rfl (by kernel_rfl) (by kernel_rfl) (by kernel_rfl) (fun _ _ _ h => h) (Or.inl ⟨by kernel_rfl, fun w _ => by go_simp⟩) S5.out ?_
            refine wpAnyH_take (i := 16) (v := .bool true) rfl (by kernel_rfl) (by kernel_rfl) (by kernel_rfl) (fun _ _ _ h => h) (Or.inl ⟨by kernel_rfl, fun w _ => by go_simp⟩) S5.out ?_
            refine wpAnyH_done (by kernel_rfl) ?_ _
            clear hcl
            obtain ⟨a1, a2, a3, a4⟩ := CE.out _ S5.out
            obtain ⟨b1, b2, b3, b4⟩ := CX.out _ S5.out
            rw [← Nat.add_assoc] at a2 a4 b2 b4
            have n1 : ¬ o + y * 2 = o + k * 2 := by have := HY.out; omega
            have n2 : ¬ o + y * 2 + 1 = o + k * 2 := by have := HY.out; omega
            have n3 : ¬ o + y * 2 = o + k * 2 + 1 := by have := HY.out; omega
            have n4 : ¬ o + y * 2 + 1 = o + k * 2 + 1 := by have := HY.out; omega
            have W6 := Lib.hid ((S5.out.set (k := y) (by omega) (xs, xp)).set (k := k) (by omega) (es, ep))
            go_wp2_with fail
            go_region
            go_wp2_with fail
            go_roundw
            case rel =>
              refine ⟨k, by have := HY.out; omega, rfl, ?_, ?_⟩
              · have h6 := W6.out.drew
                rw [show ((midR T R (es, ep) y).set y (xs, xp)).set k (es, ep) = midR T R (es, ep) k by rw [HY.out]; exact HSW.out] at h6
                exact h6
              · rw [HP.out, HY.out, HPX.out, HLT.out]; rfl
            case measure => simp [intOf]; have := HY.out; omega
          · have HLT : Hid (ltE (es, ep) (xs, xp) = false) := by
              show ltE _ _ = false
              rw [Bool.eq_false_iff]
              exact fun h => hcl ((cmpS_lt _ _).2 h)
            refine wpAnyH_take (i := 15) (v := .bool false) rfl (by kernel_rfl) (by kernel_rfl) (by kernel_rfl) (fun _ _ _ h => h) (Or.inl ⟨by kernel_rfl, fun w _ => by go_simp⟩) S5.out ?_
            refine wpAnyH_take (i := 16) (v := .bool false) rfl (by kernel_rfl) (by kernel_rfl) (by kernel_rfl) (fun _ _ _ h => h) (Or.inl ⟨by kernel_rfl, fun w _ => by go_simp⟩) S5.out ?_
            refine wpAnyH_done (by kernel_rfl) ?_ _
            clear hcl
            have HPE : Hid (midR T R (es, ep) y = insR T (es, ep) ++ R) := midR_end T R (es, ep) y (by rw [HT.out, HP.out, HY.out, HPX.out, HLT.out]; rfl)
            go_wp2_with fail
            go_roundw
            case rel => exact ⟨i + 1, by omega, by omega, by go_num, by rw [HRE.out, ← HNX.out, ← HPE.out]; exact S5.out⟩
            case measure => simp [intOf]; omega
    · have hi' : ¬ (i : Int) < n := by omega
      have HE : Hid (srtR (L.take i) ++ L.drop i = srtR L) := by show _ = _; rw [List.take_of_length_le (by rw [HL.out]; omega), List.drop_eq_nil_of_le (by rw [HL.out]; omega), List.append_nil]
      go_wp2_with fail
      go_end0
      exact ⟨rfl, by rw [← HE.out]; exact S.out, S.out.bel⟩
end
end Go.Proofs.YtmfchlliechikaaGreatDoor

/- The walks of slices.SortStableFunc at entries and of List of package root. -/
namespace Go.Proofs.YtmfchlliechikaaGreatDoor
open Go.RowKit Go.Maps
attribute [local go_sem ↓] Go.wp_at_zero Go.wp_at_succ

theorem infoEnt : (Tryz.prog.info? 100).map (fun i => (i.zero, i.size, i.bytes)) = some (some (.agg #[.string ⟨#[]⟩, .int .u64 0]), 2, 24) := by kernel_rfl
section
variable {w : World}
set_option maxRecDepth 100000 in
set_option maxHeartbeats 2000000 in
theorem insE_nil : Calls Tryz.prog 107 #[.slice none 0 0, .int .i64 0, .int .i64 0, .func (.func 64) #[] #[]] w fun r w' => r = .returned (.tuple #[]) ∧ w = w' := by
  go_enter Tryz.func107, Tryz.ntmps107
  go_wp2_with fail
  go_loopw [8, 9] (fun y _ wr => y = .int .i64 1 ∧ w = wr) (fun _ _ _ => 0)
  case atStart => exact ⟨rfl, rfl⟩
  case round =>
    obtain ⟨rfl, rfl⟩ := hrel
    go_wp2_with fail
    go_end0
    exact ⟨rfl, rfl⟩
set_option maxRecDepth 100000 in
set_option maxHeartbeats 2000000 in
theorem stableE_nil : Calls Tryz.prog 90 #[.slice none 0 0, .int .i64 0, .func (.func 64) #[] #[]] w fun r w' => r = .returned (.tuple #[]) ∧ w = w' := by
  have HI := Lib.hid (insE_nil (w := w))
  go_enter Tryz.func90, Tryz.ntmps90
  go_wp2_with fail
  go_loopw [7, 8] (fun x y wr => x = .int .i64 0 ∧ y = .int .i64 20 ∧ w = wr) (fun _ _ _ => 0)
  case atStart => exact ⟨rfl, rfl, rfl⟩
  case round =>
    obtain ⟨rfl, rfl, rfl⟩ := hrel
    go_wp2_with fail
    (with_reducible refine HI.out.mono ?_)
    rintro r w' ⟨rfl, rfl⟩
    go_wp2_with fail
    go_loopw [6, 7, 8, 9] (fun x _ _ _ wr => x = .int .i64 20 ∧ w = wr) (fun _ _ _ _ _ => 0)
    case atStart => exact ⟨rfl, rfl⟩
    case round =>
      obtain ⟨rfl, rfl⟩ := hrel
      go_wp2_with fail
      go_end0
      exact ⟨rfl, rfl⟩
set_option maxRecDepth 100000 in
set_option maxHeartbeats 2000000 in
theorem stableE_any (g o n c : Nat) (L : List Ent) (w0 : World) (h : EnAt w0 g o n c L w) (hn : n ≤ 16) :
    Calls Tryz.prog 90 #[.slice (some ⟨g, o, none⟩) n c, .int .i64 n, .func (.func 64) #[] #[]] w fun r w' => r = .returned (.tuple #[]) ∧ EnAt w0 g o n c (srtR L) w' ∧ Below w0.heap.size w0 w' := by
  have HI := Lib.hid (insE_any g o n c L w0 h hn)
  have hn20 : (n : Int) < 20 := by omega
  clear h hn
  go_enter Tryz.func90, Tryz.ntmps90
  go_wp2_with fail
  go_loopw [7, 8] (fun x y wr => x = .int .i64 0 ∧ y = .int .i64 20 ∧ w = wr) (fun _ _ _ => 0)
  case atStart => exact ⟨rfl, rfl, rfl⟩
  case round =>
    obtain ⟨rfl, rfl, rfl⟩ := hrel
    go_wp2_with fail
    (with_reducible refine HI.out.mono ?_)
    rintro r w1 ⟨rfl, h1, h2⟩
    have HH := Lib.hid (And.intro h1 h2)
    clear h1 h2
    go_wp2_with fail
    go_loopw [6, 7, 8, 9] (fun x _ _ _ wr => x = .int .i64 20 ∧ w1 = wr) (fun _ _ _ _ _ => 0)
    case atStart => exact ⟨rfl, rfl⟩
    case round =>
      obtain ⟨rfl, rfl⟩ := hrel
      go_wp2_with fail
      go_end0
      exact ⟨rfl, HH.out⟩
set_option maxRecDepth 100000 in
set_option maxHeartbeats 2000000 in
theorem SortStE_nil : Calls Tryz.prog 63 #[.slice none 0 0, .func (.func 64) #[] #[]] w fun r w' => r = .returned (.tuple #[]) ∧ w = w' := by
  have HI := Lib.hid (stableE_nil (w := w))
  go_enter Tryz.func63, Tryz.ntmps63
  go_wp2_with fail
  (with_reducible refine HI.out.mono ?_)
  rintro r w' ⟨rfl, rfl⟩
  go_wp2_with fail
  go_end0
  exact ⟨rfl, rfl⟩
set_option maxRecDepth 100000 in
set_option maxHeartbeats 2000000 in
theorem SortStE_any (g o n c : Nat) (L : List Ent) (w0 : World) (h : EnAt w0 g o n c L w) (hn : n ≤ 16) :
    Calls Tryz.prog 63 #[.slice (some ⟨g, o, none⟩) n c, .func (.func 64) #[] #[]] w fun r w' => r = .returned (.tuple #[]) ∧ EnAt w0 g o n c (srtR L) w' ∧ Below w0.heap.size w0 w' := by
  have HI := Lib.hid (stableE_any g o n c L w0 h hn)
  clear h hn
  go_enter Tryz.func63, Tryz.ntmps63
  go_wp2_with fail
  (with_reducible refine HI.out.mono ?_)
  rintro r w1 ⟨rfl, h1, h2⟩
  have HH := Lib.hid (And.intro h1 h2)
  clear h1 h2
  go_wp2_with fail
  go_end0
  exact ⟨rfl, HH.out⟩
end
/-- The used entries in order. -/
def entL (W : Nat → Nat) (e : Nat) : List Ent := ((List.range e).filter (usedE W)).map fun e => (nmS (W (4 * e)) (W (4 * e + 1)), W (4 * e + 2))
theorem entL_succ (W : Nat → Nat) (e : Nat) : entL W (e + 1) = if W (4 * e + 3) = 0 then entL W e else entL W e ++ [(nmS (W (4 * e)) (W (4 * e + 1)), W (4 * e + 2))] := by
  unfold entL
  rw [List.range_succ, List.filter_append, List.map_append]
  by_cases h : W (4 * e + 3) = 0
  · rw [if_pos h]
    have hu : usedE W e = false := by simp [usedE, h]
    simp [hu]
  · rw [if_neg h]
    have hu : usedE W e = true := by simp [usedE, h]
    simp [hu]
theorem entL_len (W : Nat → Nat) (e : Nat) : (entL W e).length ≤ e := by
  unfold entL
  rw [List.length_map]
  have := List.length_filter_le (usedE W) (List.range e)
  rw [List.length_range] at this
  exact this
section
variable {w : World} {v : DV} {own : Nat → Option Role} {D : Dev} {j b off : Nat} {W : Nat → Nat}
set_option maxRecDepth 100000 in
set_option maxHeartbeats 8000000 in
theorem rtList_any (h : DOn w v own D j b off W) : Calls Tryz.prog 29 #[.pointer (some ⟨b, 0, none⟩)] w fun r w' => ∃ ov, r = .returned ov ∧ Acc w w.heap.size w' 100 2 ov (entL W 16).length (eC (srtR (entL W 16))) := by
  obtain ⟨i0, hi0, hz0, hz1, hz2⟩ := info_parts infoEnt
  have I := Lib.hid (And.intro hi0 (And.intro hz0 (And.intro hz1 hz2))); clear hi0 hz0 hz1 hz2
  have H := Lib.hid h
  have HIA := Lib.hid (info16n W); have HSZ : Hid (64 = (wsN W).size) := (wsN_size W).symm
  have HOA2 : Hid ((wsN W).all (·.oneCell') = true) := wsA_one _
  have HLD := Lib.hid h.load
  have HIX := Lib.hid (fun (e : Nat) (he : e < 16) (wx : World) => idx16 W e he wx)
  have HNMW := Lib.hid (fun (wx : World) (e : Nat) => rtname_any (w := wx) (W (4 * e)) (W (4 * e + 1)) (W (4 * e + 2)) (W (4 * e + 3)) (h.wat.bd _) (h.wat.bd _))
  generalize wsN W = A at *
  clear h
  go_enter Tryz.func29, Tryz.ntmps29
  go_wp2_with fail
  (with_reducible refine (H.out.has).mono ?_)
  rintro r w' ⟨rfl, rfl⟩
  go_wp2_with fail
  (with_reducible refine HLD.out.mono ?_)
  rintro r w1 ⟨rfl, b1⟩
  have B1 := Lib.hid b1
  clear b1
  go_wp2_with (first | (refine wpList_store_row rfl 122 (.tmp 3) (.tmp 15) rfl w1.heap.size A rfl rfl 122 _ (Blk.new w1 _ _) HIA.out HSZ.out HOA2.out ?_; obtain ⟨w2, hw2, k2, b2⟩ := wsn_alloc w1 _ A; rw [hw2]; have X2 : Hid (AxB w w1.heap.size A w2) := ⟨k2, B1.out.trans (b2.mono B1.out.size)⟩; clear hw2 k2 b2) | (refine wpList_load_row rfl 122 (.tmp 3) rfl w1.heap.size rfl 122 A (0, 0) _ X2.out.blk Tryz.underlying122 rfl HIA.out ?_))
  have A0 : Hid (Acc w w.heap.size w2 100 2 (.slice none 0 0) (entL W 0).length (eC (entL W 0))) := Acc.nil _ _ _ _ _ X2.out.bel X2.out.bel.size
  go_loopw [5, 7, 8, 9, 20] (fun sv _ _ _ y wr => ∃ e : Nat, e ≤ 16 ∧ y = .int .i64 e ∧ Acc w w.heap.size wr 100 2 sv (entL W e).length (eC (entL W e))) (fun _ _ _ _ y _ => 16 - (intOf y).toNat)
  case atStart => exact ⟨0, by omega, rfl, A0.out⟩
  case round =>
    clear A0 X2
    obtain ⟨e, he, rfl, ha⟩ := hrel
    obtain ⟨qa, qc, rfl⟩ := ha.slice
    have AA := Lib.hid ha
    clear ha
    by_cases hlt : e < 16
    · have he' : (e : Int) < 16 := by omega
      have hix := fun wx => HIX.out e hlt wx
      have hnmw := fun wx => HNMW.out wx e
      have hsu := entL_succ W e
      have hln := entL_len W e
      obtain ⟨x0, hx0⟩ : ∃ x, W (4 * e) = x := ⟨_, rfl⟩
      obtain ⟨x1, hx1⟩ : ∃ x, W (4 * e + 1) = x := ⟨_, rfl⟩
      obtain ⟨x2, hx2⟩ : ∃ x, W (4 * e + 2) = x := ⟨_, rfl⟩
      obtain ⟨x3, hx3⟩ : ∃ x, W (4 * e + 3) = x := ⟨_, rfl⟩
      rw [hx0, hx1, hx2, hx3] at hix hnmw hsu
      have hes : enS x0 x1 x3 = if x3 = 0 then ⟨#[]⟩ else nmS x0 x1 := rfl
      have HSU := Lib.hid hsu; have HLN := Lib.hid hln
      have A1 := Lib.hid (AA.out.keep (below_alloc wr (.cells #[.int .u64 x0, .int .u64 x1, .int .u64 x2, .int .u64 x3] 121)))
      have K1 := Lib.hid (Blk.new wr #[.int .u64 x0, .int .u64 x1, .int .u64 x2, .int .u64 x3] 121)
      clear hx0 hx1 hx2 hx3 hsu hln AA
      generalize entL W e = le at *
      by_cases h3 : x3 = 0
      · rw [show (x3 != 0) = false by simp [h3]] at hnmw
        have HNE := Lib.hid hnmw
        have HS2 : Hid (entL W (e + 1) = le) := by show _ = _; rw [HSU.out, if_pos h3]
        generalize enS x0 x1 x3 = es at *
        clear h3 hes hnmw
        go_wp2_with fail
        (with_reducible refine (HNE.out _).mono ?_)
        rintro r w' ⟨rfl, b1⟩
        have A2 := Lib.hid (A1.out.keep b1)
        clear b1 A1 K1
        go_wp2_with fail
        go_roundw
        case rel => exact ⟨e + 1, by omega, by go_num, by rw [HS2.out]; exact A2.out⟩
        case measure => simp [intOf]; omega
      · rw [if_neg h3] at hes
        rw [hes, show (x3 != 0) = true by simp [h3]] at hnmw
        have HNE := Lib.hid hnmw
        have HS2 : Hid (entL W (e + 1) = le ++ [(nmS x0 x1, x2)]) := by show _ = _; rw [HSU.out, if_neg h3]
        generalize nmS x0 x1 = ns at *
        clear h3 hes hnmw
        go_wp2_with fail
        (with_reducible refine (HNE.out _).mono ?_)
        rintro r w5 ⟨rfl, b1⟩
        have A2 := Lib.hid (A1.out.keep b1)
        have c2 := (K1.out.below b1).cell (i := 2) (v := .int .u64 x2) rfl
        clear b1 A1 K1
        go_wp2_with (at_builtin; refine wpList_append_sl _ rfl _ _ 73 rfl 100 i0 _ 2 24 Tryz.underlying73 I.out.1 I.out.2.1 I.out.2.2.1 I.out.2.2.2 rfl (by decide) _ le.length (eC le) rfl (by exact A2.out.own.alloc _) _ 1 (eC [(ns, x2)]) rfl (by exact RdSl.newAt _ _ _ 2 1 _ (by simp) rfl) (eC_one _) (by unfold maxLen; have := HLN.out; omega) (by have := HLN.out; omega) ?_)
        intro v1 w6 o1 g1 n1 m1
        have A3 := Lib.hid (A2.out.next (m := 1) (below_alloc w5 _) o1 g1 n1 (by simp)); clear o1 g1 n1 m1 A2 c2
        go_wp2_with fail
        go_roundw
        case rel => exact ⟨e + 1, by omega, by go_num, by rw [HS2.out, eC_append, List.length_append]; exact A3.out⟩
        case measure => simp [intOf]; omega
    · obtain rfl : e = 16 := by omega
      have hln := entL_len W 16
      have hsl := srtR_len (entL W 16)
      generalize hLq : entL W 16 = L at *
      have HLQ := Lib.hid hLq
      clear hLq
      have HL := Lib.hid (And.intro hln hsl)
      clear hln hsl
      rcases AA.out.own.2 with ⟨hv, hz⟩ | ⟨g, o, cap, cur, hv, _⟩
      · have hL : L = [] := List.eq_nil_of_length_eq_zero hz
        subst hL
        cases hv
        have HS := Lib.hid (SortStE_nil (w := wr))
        go_wp2_with fail
        (with_reducible refine HS.out.mono ?_)
        rintro r w' ⟨rfl, rfl⟩
        go_wp2_with fail
        go_ret
        exact ⟨.slice none 0 0, rfl, by rw [HLQ.out]; exact AA.out⟩
      · cases hv
        have E0 : Hid (EnAt w g o L.length qc L wr) := ⟨AA.out.own, rfl, AA.out.bel, AA.out.new g rfl⟩
        have HS := Lib.hid (SortStE_any (w := wr) g o L.length qc L w E0.out HL.out.1)
        clear E0
        go_wp2_with fail
        (with_reducible refine HS.out.mono ?_)
        rintro r w5 ⟨rfl, h1, h2⟩
        have E1 := Lib.hid h1
        clear h1 h2
        go_wp2_with fail
        go_ret
        exact ⟨.slice (some ⟨g, o, none⟩) L.length qc, rfl, by rw [HLQ.out]; exact ⟨E1.out.own, fun k hk => by cases hk; exact E1.out.new, E1.out.bel, E1.out.bel.size⟩⟩
end
end Go.Proofs.YtmfchlliechikaaGreatDoor
