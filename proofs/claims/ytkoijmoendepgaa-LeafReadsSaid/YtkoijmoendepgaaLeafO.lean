/- The chapter's example: its plain facts, and the walk of awake. -/
import Derived.Test.YtkoijmoendepgaaLeafN
namespace Go.Proofs.Ytkoijmoendepgaa
open Go.RowKit

def exW : Nat → Int := encW [5, 9] [1, 2] 0 0 false
def exL : List Int := (List.range 28).map exW

theorem ex0 : (exW 0).toNat = 258 := by decide
theorem ex_slots : slotsW exW = [0, 1] := by decide
theorem ex_parse : parseOk 258 := by
  refine ⟨by decide, fun i hi => ⟨fun h => ?_, fun h => ⟨?_, fun j hj => ?_⟩⟩⟩
  · have : ∀ i, i < 12 → 258 % 16 ≤ i → nib 258 i = 0 := by decide
    exact this i hi h
  · have : ∀ i, i < 12 → nib 258 i < 12 := by decide
    exact this i hi
  · have : ∀ i, i < 2 → ∀ j, j < i → nib 258 j ≠ nib 258 i := by decide
    exact this i h j hj
theorem ex_valid : validC exW [0, 1] 768 := by
  refine ⟨fun i h0 h1 => ?_, .inl ⟨by decide, by decide⟩, .inl (by decide)⟩
  have e : i = 1 := by simp at h1; omega
  subst e; decide
theorem ex_ok : nodeOk exW 768 := by
  unfold nodeOk; rw [ex_slots, ex0]; exact ⟨ex_parse, ex_valid⟩
theorem ex_get : getV exW 9 = .tuple #[.int .u64 2, .int .i64 0] := by
  unfold getV; rw [ex_slots, if_pos (by decide), show findIdx exW 9 [0, 1] = 1 by decide, show exW (16 + [0, 1].getD 1 0) = 2 by decide]
theorem ex_find : findIdx exW 7 [0, 1] = 1 := by decide
theorem ex_found : foundB exW 7 [0, 1] = false := by decide
theorem ex_unused : unusedN [0, 1] = 2 := by decide
theorem ex_put : putNew exW 8 7 1 1 2 = [(1, 56, 7), (1, 152, 1), (2, 0, 0), (2, 128, 0), (3, 0, 0), (1, 8, 4503599627375107), (2, 8, 0), (3, 0, 0)] := by
  unfold putNew; rw [ex_slots, ex0]; decide
theorem ex_node (D : Dev) (n x : Nat) (h : Live D n x (laid (fun _ => 0) 1 exL)) : nodeW D (ptrN 8) = exW := by
  funext i
  unfold nodeW
  rw [h.cur, show ptrOff (ptrN 8) / 8 = 1 by decide]
  unfold laid
  have hl : exL.length = 28 := by simp [exL]
  rw [hl]
  by_cases hi : i < 28
  · rw [if_pos (by omega), show 1 + i - 1 = i by omega]
    simp [exL, List.getD, hi]
  · rw [if_neg (by omega)]
    unfold exW encW encF
    rw [if_neg (by omega), if_neg (by omega), if_neg (by omega), if_neg (by omega), if_neg (by simp; omega), if_neg (by simp; omega)]
theorem ex_enc {w w' : World} {r : Ending} (h : EncPost w [5, 9] [1, 2] 0 0 false r w') : Encoded w [5, 9] [1, 2] 0 0 false r w' := by
  refine h.1 (fun i hi => ?_)
  have : i = 0 ∨ i = 1 := by simp at hi; omega
  rcases this with rfl | rfl <;> simp [badAt]

section
variable {w : World}
theorem ex_two {w1 w2 : World} {v : DV} {own : Nat → Option Role} {g : Nat} {o1 o2 : Obj} (h : IsDev w1 v own (Dev.fresh 12 fun _ => 0) ∧ (∀ k, own k ≠ none → w.heap.size ≤ k) ∧ Below w.heap.size w w1)
    (r : Row w2 g 28 23 (fun i => .int .u64 (encW [5, 9] [1, 2] 0 0 false i))) (g2 : ((w1.alloc o1).alloc o2).heap.size ≤ g) (b : Below ((w1.alloc o1).alloc o2).heap.size ((w1.alloc o1).alloc o2) w2) :
    IsDev w2 v own (Dev.fresh 12 fun _ => 0) ∧ RdSl w2 1 (.slice (some ⟨g, 0, none⟩) 28 28) exL.length (intsV exL) ∧ (∀ k, (Value.slice (some ⟨g, 0, none⟩) 28 28).ownBlock = some k → own k = none) ∧ (∀ k, own k ≠ none → w.heap.size ≤ k) ∧ Below w.heap.size w w2 := by
  have b1 : Below w1.heap.size w1 w2 := ((below_alloc w1 o1).trans ((below_alloc _ o2).mono (by simp))).trans (b.mono (by simp; omega))
  refine ⟨h.1.kept b1.size (fun k hk => b1.block k (h.1.lt k hk)), ?_, ?_, h.2.1, h.2.2.trans (b1.mono h.2.2.size)⟩
  · refine ⟨by simp [intsV], _, _, rfl, by simp [exL], .inr ⟨g, 0, rfl, fun j u hu => ?_⟩⟩
    have hj : j < 28 := by
      rcases Nat.lt_or_ge j 28 with h | h
      · exact h
      · rw [List.getElem?_eq_none (by simp [intsV, exL]; exact h)] at hu; cases hu
    have : u = .int .u64 (exW j) := by simp [intsV, exL, hj] at hu; exact hu.symm
    rw [this, Nat.zero_add]; exact r.cell hj
  · intro k hk
    simp [Value.ownBlock] at hk
    subst hk
    rcases ho : own g with _ | x
    · rfl
    · have := h.1.lt g (by simp [ho]); simp at g2; omega
theorem ex_thread {v : DV} {own : Nat → Option Role} {D : Dev} (h : IsDev w v own D) : Calls Try.prog 14 #[.pointer (some ⟨v.db, 0, none⟩), .int .i64 0] w fun r w' => r = .returned (.pointer (some ⟨v.tb 0, 0, none⟩)) ∧ w = w' := by
  have := thread_any h (j := 0) (by omega)
  exact this
theorem ex_three {w2 w3 : World} {v : DV} {own own3 : Nat → Option Role} {D : Dev} {x : Nat} (hl : Live D 12 x (laid (fun _ => 0) (8 / 8) exL)) (hd : IsDev w3 v own3 D) (hu : Upd (fun k => own k ≠ none) w2 w3)
    (h : (∀ k, own k ≠ none → w.heap.size ≤ k) ∧ Below w.heap.size w w2) : (NodeAt w3 v own3 D 0 (ptrN 8) ∧ nodeW D (ptrN 8) = exW ∧ D.n = 12) ∧ Below w.heap.size w w3 := by
  have e := ex_node D 12 x hl
  refine ⟨⟨⟨hd, by omega, by decide, by decide, hl.off, hl.err 0, by rw [hl.n]; decide, fun i hi => ?_⟩, e, hl.n⟩, ?_⟩
  · rw [e]; have : ∀ i, i < 28 → 0 ≤ exW i ∧ exW i < 18446744073709551616 := by decide
    exact this i hi
  · refine h.2.trans ⟨hu.os, hu.tape, hu.output, hu.size, fun k hk => hu.block k (Nat.lt_of_lt_of_le hk h.2.size) (fun hk2 => ?_)⟩
    have := h.1 k hk2; omega
theorem ex_four {w3 w4 : World} {v : DV} {own3 : Nat → Option Role} {D : Dev} (h : (NodeAt w3 v own3 D 0 (ptrN 8) ∧ nodeW D (ptrN 8) = exW ∧ D.n = 12) ∧ Below w.heap.size w w3) (hb : Below w3.heap.size w3 w4) :
    (NodeAt w4 v own3 D 0 (ptrN 8) ∧ nodeW D (ptrN 8) = exW ∧ D.n = 12) ∧ Below w.heap.size w w4 := ⟨⟨h.1.1.below hb, h.1.2⟩, h.2.trans (hb.mono h.2.size)⟩
def ExCells (w : World) (g o : Nat) : Prop := w.cell? ⟨g, o, none⟩ = some (.int .u8 1) ∧ w.cell? ⟨g, o + 1, none⟩ = some (.int .u64 56) ∧ w.cell? ⟨g, o + 2, none⟩ = some (.int .u64 7) ∧ w.cell? ⟨g, o + 15 + 2, none⟩ = some (.int .u64 4503599627375107)
theorem ex_cells {w w' : World} {g o : Nat} (h : ExCells w g o) (hb : Below w.heap.size w w') : ExCells w' g o := ⟨cell_bel hb h.1, cell_bel hb h.2.1, cell_bel hb h.2.2.1, cell_bel hb h.2.2.2⟩
theorem ex_plan {v : DV} {own : Nat → Option Role} {D : Dev} (h : NodeAt w v own D 0 (ptrN 8)) (he : nodeW D (ptrN 8) = exW) (hn : D.n = 12) :
    Calls Try.prog 19 #[.agg #[.iface 39 (.pointer (some ⟨v.tb 0, 0, none⟩)), .int .u64 (ptrN 8 : Nat)], .int .u64 7, .int .u64 1] w
    fun r w' => ∃ g o c, r = .returned (.tuple #[.slice (some ⟨g, o, none⟩) 8 c, .int .i64 0]) ∧ ExCells w' g o ∧ Below w.heap.size w w' := by
  refine (planPut_new h 7 1 (by rw [he, hn]; exact ex_ok) (by rw [he]; decide) (by rw [he, ex_slots]; exact ex_found) (by rw [he, ex_slots]; decide)).mono ?_
  rintro r w' ⟨hb, pv, rfl, ho, hg⟩
  rw [he, ex_slots, ex_find, ex_unused, show ptrOff (ptrN 8) = 8 by decide, ex_put] at ho
  obtain ⟨b, o, c, rfl, hc, hx⟩ := rd_some ho.rd (by simp [instrC])
  exact ⟨b, o, c, rfl, ⟨hx 0 _ rfl, hx 1 _ rfl, hx 2 _ rfl, hx 17 _ rfl⟩, hb⟩
theorem ex_getc {v : DV} {own : Nat → Option Role} {D : Dev} (h : NodeAt w v own D 0 (ptrN 8)) (he : nodeW D (ptrN 8) = exW) (hn : D.n = 12) :
    Calls Try.prog 18 #[.agg #[.iface 39 (.pointer (some ⟨v.tb 0, 0, none⟩)), .int .u64 (ptrN 8 : Nat)], .int .u64 9] w
    fun r w' => r = .returned (.tuple #[.int .u64 2, .int .i64 0]) ∧ Below w.heap.size w w' := by
  refine (get_any h 9).mono ?_
  rintro r w' ⟨hb, ⟨_, rfl⟩ | ⟨hbad, _⟩⟩
  · rw [he, ex_get]; exact ⟨rfl, hb⟩
  · rw [he, hn] at hbad; exact absurd ex_ok hbad
theorem ex_lenc {v : DV} {own : Nat → Option Role} {D : Dev} (h : NodeAt w v own D 0 (ptrN 8)) (he : nodeW D (ptrN 8) = exW) (hn : D.n = 12) :
    Calls Try.prog 21 #[.agg #[.iface 39 (.pointer (some ⟨v.tb 0, 0, none⟩)), .int .u64 (ptrN 8 : Nat)]] w
    fun r w' => r = .returned (.int .i64 2) ∧ Below w.heap.size w w' := by
  refine (len_any h).mono ?_
  rintro r w' ⟨hb, ⟨_, rfl⟩ | ⟨hbad, _⟩⟩
  · rw [he, ex_slots]; exact ⟨rfl, hb⟩
  · rw [he, hn] at hbad; exact absurd ex_ok hbad
set_option maxRecDepth 100000 in
set_option maxHeartbeats 2000000 in
theorem awake_any : Calls Try.prog 8 #[] w fun r w' => r = .returned (.bool true) ∧ Below w.heap.size w w' := by
  have hN := new_any (w := w) 12 (by omega) (by omega)
  rw [show ((12 : Nat) : Int) = 12 from rfl] at hN
  have HN := Lib.hid hN; clear hN
  go_enter Try.func8, Try.ntmps8
  go_wp2_with fail
  (with_reducible refine HN.out.mono ?_)
  rintro e w1 ⟨v, own, rfl, d1, o1, b1⟩
  have D1 := Lib.hid (And.intro d1 (And.intro o1 b1)); clear d1 o1 b1 HN
  go_wp2_with fail
  (with_reducible refine (encode_any _ _ [5, 9] [1, 2] 0 0 false ?_ ?_ rfl (by decide)).mono ?_)
  · exact (RdSl.newAt w1 #[.int .u64 5, .int .u64 9] 23 1 2 _ rfl rfl).alloc _
  · exact RdSl.newAt (w1.alloc _) #[.int .u64 1, .int .u64 2] 23 1 2 _ (by simp) rfl
  rintro e w2 he
  obtain ⟨g, rfl, r2, g2, b2⟩ := ex_enc he
  have c0 : w2.cell? ⟨g, 0, none⟩ = some (.int .u64 258) := r2.cell (i := 0) (by omega)
  have E2 := Lib.hid (ex_two D1.out r2 g2 b2); clear r2 g2 b2 he D1
  go_wp2_with fail
  clear c0
  have hP := put_any E2.out.1 (Live.fresh 12 _) 8 (.slice (some ⟨g, 0, none⟩) 28 28) exL (by decide) (by simp [exL]) (by simp [exL]) E2.out.2.1 E2.out.2.2.1
  rw [show ((8 : Nat) : Int) = 8 from rfl] at hP
  have HP := Lib.hid hP; clear hP
  (with_reducible refine HP.out.mono ?_)
  rintro e w3 ⟨rfl, D3, ⟨own3, d3, o3, u3⟩, l3⟩
  have HT := Lib.hid (ex_thread d3)
  have N3 := Lib.hid (ex_three l3 d3 u3 E2.out.2.2.2)
  clear d3 o3 u3 HP E2
  go_wp2_with (go_at_call 14; (with_reducible refine HT.out.mono ?_); rintro e w' ⟨rfl, rfl⟩)
  have hpt := pointer_any (w := w3) 8 (by omega) (by decide) (by omega)
  rw [show ((8 : Nat) : Int) = 8 from rfl] at hpt
  have HPT := Lib.hid hpt; clear hpt
  (with_reducible refine HPT.out.mono ?_)
  rintro e w' ⟨rfl, rfl⟩
  go_wp2_with fail
  (with_reducible refine (at_any _ _ (.inr ⟨_, _, rfl⟩)).mono ?_)
  rintro e w4 ⟨rfl, b4⟩
  have N4 := Lib.hid (ex_four N3.out b4); clear N3 b4 HT HPT
  go_wp2_with fail
  (with_reducible refine (ex_plan (N4.out.1.1.alloc _) N4.out.1.2.1 N4.out.1.2.2).mono ?_)
  rintro e w5 ⟨g5, o5, c5, rfl, p5, b5⟩
  have l0 := cell_bel b5 ((Blk.new w4 #[.iface 39 (.pointer (some ⟨v.tb 0, 0, none⟩)), .int .u64 (ptrN 8 : Nat)] 47).cell (i := 0) rfl)
  have l1 := cell_bel b5 ((Blk.new w4 #[.iface 39 (.pointer (some ⟨v.tb 0, 0, none⟩)), .int .u64 (ptrN 8 : Nat)] 47).cell (i := 1) rfl)
  have N5 := Lib.hid (ex_four N4.out ((below_alloc _ _).trans (b5.mono (by simp)))); have P5 := Lib.hid p5; clear N4 b5 p5
  go_wp2_with fail
  (with_reducible refine (ex_getc N5.out.1.1 N5.out.1.2.1 N5.out.1.2.2).mono ?_)
  rintro e w6 ⟨rfl, b6⟩
  have l0' := cell_bel b6 l0; have l1' := cell_bel b6 l1
  have N6 := Lib.hid (ex_four N5.out b6); have P6 := Lib.hid (ex_cells P5.out b6); clear N5 b6 l0 l1 P5
  go_wp2_with fail
  (with_reducible refine (ex_lenc N6.out.1.1 N6.out.1.2.1 N6.out.1.2.2).mono ?_)
  rintro e w7 ⟨rfl, b7⟩
  obtain ⟨p0, p1, p2, p17⟩ := ex_cells P6.out b7
  have N7 := Lib.hid (ex_four N6.out b7); clear N6 b7 l0' l1' P6
  go_wp2_with fail
  go_ret
  exact ⟨rfl, N7.out.2⟩
end
end Go.Proofs.Ytkoijmoendepgaa
