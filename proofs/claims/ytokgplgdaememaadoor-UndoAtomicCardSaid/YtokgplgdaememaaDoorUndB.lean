/- The law's words and made of layer 16. -/
import Derived.Test.YtokgplgdaememaaDoorDevL
import Derived.Test.YtokgplgdaememaaDoorUndA
namespace Go.Proofs.YtokgplgdaememaaDoor
open Go.RowKit

section
variable {w : World}
theorem FrMid.drew {b : Nat → Int} {m k : Nat} {wr : World} (h : FrMid w b m k wr) : FrMid w b m k wr.drew := ⟨h.row, h.bel.drew⟩
set_option maxRecDepth 100000 in
set_option maxHeartbeats 2000000 in
theorem l16words_raw (g n c : Nat) (b : Nat → Int) (h : Row w g (64 * n) 5 (fun i => .int .u8 (b i))) (hc : 64 * n ≤ c) (hn : n ≤ 4096) (hb : ∀ i, i < 64 * n → 0 ≤ b i ∧ b i < 256) :
    Calls Tryd.prog 19 #[.slice (some ⟨g, 0, none⟩) (64 * n) c] w fun r w' => r = .returned (.slice (some ⟨w.heap.size, 0, none⟩) (8 * n) (8 * n)) ∧ Row w' w.heap.size (8 * n) 35 (fun i => .int .u64 (wordsOf b (64 * n) i)) ∧ Below w.heap.size w w' := by
  have H := Lib.hid h; have HB := Lib.hid hb; clear hb
  have hg := h.lt
  obtain ⟨m, hm⟩ : ∃ m, 8 * n = m := ⟨_, rfl⟩
  obtain ⟨N, hN⟩ : ∃ N, 64 * n = N := ⟨_, rfl⟩
  rw [hN] at H HB hc ⊢
  rw [hm]
  have q3 : (N : Int) / 8 = m := by omega
  have hmk := fun (wx : World) => mkWords wx m (by omega)
  have hNb : N ≤ 1000000 := by omega
  have HM := Lib.hid (And.intro hm hN); clear hm hN h
  have M0 := Lib.hid (FrMid.start (w := w) b m)
  go_enter Tryd.func19, Tryd.ntmps19
  go_wp2_with fail
  go_loopw [12] (fun y wr => ∃ k : Nat, k ≤ N ∧ y = .int .i64 k ∧ FrMid w b m k wr) (fun y _ => N - (intOf y).toNat)
  case atStart => exact ⟨0, by omega, rfl, M0.out⟩
  case round =>
    obtain ⟨k, hk, rfl, hM⟩ := hrel
    have M := Lib.hid hM
    clear M0
    by_cases hlt : k < N
    · have hlt' : (k : Int) < N := by omega
      have hsz : w.heap.size < wr.heap.size := hM.row.lt
      obtain ⟨d, hd⟩ : ∃ d, k / 8 = d := ⟨_, rfl⟩
      obtain ⟨r, hr⟩ : ∃ r, k % 8 = r := ⟨_, rfl⟩
      have hf1 := hM.row.frozen d
      have q6 : (k : Int) / 8 = d := by omega
      have q7 : (k : Int) % 8 = r := by omega
      have hdn : (d : Int) < m := by have := HM.out; omega
      have hr8 : r < 8 := by omega
      have hcell := hM.row.cell (i := d) (by omega)
      have c1 : wr.cell? ⟨g, k, none⟩ = some (.int .u8 (b k)) := (hM.bel.cell (p := ⟨g, k, none⟩) hg).trans (H.out.cell hlt)
      obtain ⟨hb1, hb2⟩ := HB.out k hlt
      have hor : bits BinOp.or IntKind.u64 (wordsOf b k d) (IntKind.u64.wrap (b k * 2 ^ (r * 8))) = wordsOf b k d + b k * 2 ^ (r * 8) := by
        have e1 : wordsOf b k d = wv b d r := by unfold wordsOf; rw [show min 8 (k - 8 * d) = r by omega]
        have e2 := wv_lt b d r (fun j hj => HB.out _ (by omega))
        rw [e1]
        obtain ⟨a, ha⟩ : ∃ a : Nat, wv b d r = a := ⟨_, (Int.toNat_of_nonneg e2.1).symm⟩
        obtain ⟨x, hx⟩ : ∃ x : Nat, b k = x := ⟨_, (Int.toNat_of_nonneg hb1).symm⟩
        rw [ha, hx]
        refine or_byte a x r ?_ (by omega) hr8
        have e3 : ((2 : Int) ^ (r * 8)) = ((2 ^ (r * 8) : Nat) : Int) := by simp
        rw [ha, e3] at e2
        omega
      have HO := Lib.hid hor
      have E := Lib.hid (And.intro hd hr)
      clear hM hd hr
      go_wp2_with fail
      go_region
      all_goals go_wp2_with fail
      all_goals
        go_roundw
        case rel => exact ⟨k + 1, by omega, by go_num, by have := M.out.step; rw [E.out.1, E.out.2] at this; exact this.drew⟩
        case measure => simp [intOf]; omega
    · obtain rfl : k = N := by omega
      go_wp2_with fail
      go_ret
      exact ⟨rfl, M.out.row, M.out.bel⟩
theorem byteAt_bd (f : Nat → Int) (i : Nat) : 0 ≤ byteAt f i ∧ byteAt f i < 256 := by unfold byteAt; omega
/-- Words that a call has made: a new block holds them. -/
structure WdAt (w : World) (g : Nat) (f : Nat → Int) (m : Nat) (wc : World) : Prop where
  row : Row wc g m 35 (fun i => .int .u64 (f i))
  new : w.heap.size ≤ g
  bel : Below w.heap.size w wc
theorem WdAt.next {g m : Nat} {f : Nat → Int} {wc w1 : World} (h : WdAt w g f m wc) (hb : Below wc.heap.size wc w1) : WdAt w g f m w1 := ⟨h.row.below hb, h.new, h.bel.trans (hb.mono h.bel.size)⟩
theorem WdAt.rd {g m : Nat} {f : Nat → Int} {wc : World} (h : WdAt w g f m wc) : RdSl wc 1 (.slice (some ⟨g, 0, none⟩) m m) m (intsU (getL f m)) := row_rd h.row (Nat.le_refl _)
theorem l16words_dev {w0 : World} {n : Nat} {f : Nat → Int} (hf : ∀ i, 0 ≤ f i ∧ f i < 18446744073709551616) (hn : n ≤ 4096) (h : Row w w0.heap.size (64 * n) 5 (fun i => .int .u8 (byteAt f i)))  :
    Calls Tryd.prog 19 #[.slice (some ⟨w0.heap.size, 0, none⟩) (64 * n) (64 * n)] w fun r w' => r = .returned (.slice (some ⟨w.heap.size, 0, none⟩) (8 * n) (8 * n)) ∧ WdAt w w.heap.size f (8 * n) w' := by
  refine (l16words_raw w0.heap.size n (64 * n) (byteAt f) h (Nat.le_refl _) hn (fun i _ => byteAt_bd f i)).mono ?_
  rintro r w' ⟨rfl, h1, h2⟩
  refine ⟨rfl, h1.congr (fun i hi => ?_), Nat.le_refl _, h2⟩
  rw [show 64 * n = 8 * (8 * n) by omega, wordsOf_bytes f (8 * n) i hi (hf i)]

theorem row_rdF {g n c : Nat} {t : TypeId} {F : Nat → Value} (h : Row w g n t F) (hc : n ≤ c) : RdSl w 1 (.slice (some ⟨g, 0, none⟩) n c) n ((List.range n).map F) := by
  refine ⟨by simp, _, _, rfl, hc, .inr ⟨g, 0, rfl, fun j u hu => ?_⟩⟩
  have hj : j < n := by
    rcases Nat.lt_or_ge j n with h | h
    · exact h
    · rw [List.getElem?_eq_none (by simp; exact h)] at hu; cases hu
  have : u = F j := by simp [hj] at hu; exact hu.symm
  rw [this, Nat.zero_add]; exact h.cell hj
/-- The package's variable where. -/
structure Wh (w : World) : Prop where
  c0 : w.cell? ⟨0, 0, none⟩ = some (.int .u64 192)
  c1 : w.cell? ⟨0, 1, none⟩ = some (.int .u64 512)
  c2 : w.cell? ⟨0, 2, none⟩ = some (.int .u64 1536)
theorem Wh.below {w1 : World} (h : Wh w) (hb : Below w.heap.size w w1) : Wh w1 := ⟨cell_bel hb h.c0, cell_bel hb h.c1, cell_bel hb h.c2⟩
def b0 (i : Nat) : Int := if i < 192 ∨ 512 ≤ i then ((i / 8 + 1 : Nat) : Int) else 0
def W0 : Nat → Int := wordsOf b0 1536
def D0 : Dev := Dev.fresh 24 W0
theorem b0_bd (i : Nat) (hi : i < 1536) : 0 ≤ b0 i ∧ b0 i < 256 := by unfold b0; split <;> omega
theorem W0_bd (i : Nat) : 0 ≤ W0 i ∧ W0 i < 18446744073709551616 := by
  unfold W0 wordsOf
  have h := wv_lt b0 i (min 8 (1536 - 8 * i)) (fun j hj => b0_bd _ (by omega))
  have h2 : (2 : Int) ^ (min 8 (1536 - 8 * i) * 8) ≤ 2 ^ 64 := by
    have : (2 : Nat) ^ (min 8 (1536 - 8 * i) * 8) ≤ 2 ^ 64 := Nat.pow_le_pow_right (by omega) (by omega)
    exact_mod_cast this
  exact ⟨h.1, Int.lt_of_lt_of_le h.2 h2⟩
theorem wv_zero (b : Nat → Int) (i : Nat) : ∀ r, (∀ j, j < r → b (8 * i + j) = 0) → wv b i r = 0 := by
  intro r
  induction r with
  | zero => intro _; rfl
  | succ r ih => intro h; unfold wv; rw [ih (fun j hj => h j (by omega)), h r (by omega)]; omega
theorem W0_log (i : Nat) (h1 : 24 ≤ i) (h2 : i < 64) : W0 i = 0 := wv_zero b0 i _ (fun j hj => by unfold b0; rw [if_neg (by omega)])
theorem D0_vb : D0.VB := fresh_vb W0_bd
structure MdMid (w : World) (k : Nat) (wr : World) : Prop where
  row : Row wr w.heap.size 1536 5 (fun i => .int .u8 (if i < k then b0 i else 0))
  bel : Below w.heap.size w wr
theorem MdMid.start : MdMid w 0 (w.alloc (.cells (madeCells #[.int .u8 0] 1536) 5)) :=
  ⟨(row_made w 5 .u8 1536).congr (fun i _ => by simp), (Below.refl _ _).alloc (Nat.le_refl _) _⟩
theorem MdMid.step {k : Nat} {wr : World} {x : Int} (h : MdMid w k wr) (hx : b0 k = x) : MdMid w (k + 1) (wr.setCell ⟨w.heap.size, k, none⟩ (.int .u8 x)) := by
  subst hx
  refine ⟨(h.row.set k (.int .u8 (b0 k))).congr (fun i _ => ?_), h.bel.setCell (by simp) _⟩
  by_cases e : i = k
  · subst e; simp
  · simp only [if_neg e]
    by_cases e2 : i < k
    · rw [if_pos e2, if_pos (by omega)]
    · rw [if_neg e2, if_neg (by omega)]
theorem MdMid.skip {k : Nat} {wr : World} (h : MdMid w k wr) (hx : b0 k = 0) : MdMid w (k + 1) wr := by
  refine ⟨h.row.congr (fun i _ => ?_), h.bel⟩
  by_cases e : i = k
  · subst e; rw [if_neg (by omega), if_pos (by omega), hx]
  · by_cases e2 : i < k
    · rw [if_pos e2, if_pos (by omega)]
    · rw [if_neg e2, if_neg (by omega)]
theorem u8_in (x : Int) (h : 0 ≤ x ∧ x < 256) : IntKind.u8.wrap x = x := by
  simp [IntKind.wrap, IntKind.signed, IntKind.bits]
  omega
set_option maxRecDepth 100000 in
set_option maxHeartbeats 4000000 in
theorem made16 (h : Wh w) : Calls Tryd.prog 12 #[] w fun r w' => ∃ v own lb, r = .returned (.tuple #[.pointer (some ⟨v.db, 0, none⟩), .pointer (some ⟨lb, 0, none⟩)]) ∧ LSt w v own D0 lb 0 192 5 w' := by
  have HW := Lib.hid h; clear h
  have hmk := fun (wx : World) => mkBytes wx 1536 (by omega)
  rw [show ((1536 : Nat) : Int) = 1536 from rfl] at hmk
  have M0 := Lib.hid (MdMid.start (w := w))
  have hfrom := fun (wx : World) (hx : Row wx w.heap.size 1536 5 (fun i => .int .u8 (b0 i))) => devFrom_any (w := wx) (.slice (some ⟨w.heap.size, 0, none⟩) 1536 1536) 24 b0 (row_rdF hx (Nat.le_refl _)) (by omega) (by omega) (fun i hi => b0_bd i hi)
  have HF := Lib.hid hfrom; clear hfrom
  have hopen := fun (wx : World) (v : DV) (own : Nat → Option Role) (h : IsDev wx v own D0) => uOpen_ok h (j := 0) (by omega) 3 5 (by omega) (by decide)
  rw [show ((3 : Nat) : Int) = 3 from rfl, show ((5 : Nat) : Int) = 5 from rfl, show 64 * 3 = 192 from rfl] at hopen
  have HO := Lib.hid hopen; clear hopen
  go_enter Tryd.func12, Tryd.ntmps12
  go_wp2_with fail
  go_loopw [10] (fun y wr => ∃ k : Nat, k ≤ 1536 ∧ y = .int .i64 k ∧ MdMid w k wr) (fun y _ => 1536 - (intOf y).toNat)
  case atStart => exact ⟨0, by omega, rfl, M0.out⟩
  case round =>
    obtain ⟨k, hk, rfl, hM⟩ := hrel
    have M := Lib.hid hM
    have hW := HW.out.below hM.bel
    have c0 := hW.c0; have c1 := hW.c1
    clear M0 hW
    by_cases hlt : k < 1536
    · have hlt' : (k : Int) < 1536 := by omega
      have hsz : w.heap.size < wr.heap.size := hM.row.lt
      have hf1 := hM.row.frozen k
      have hcell := hM.row.cell (i := k) hlt
      by_cases hin : k < 192 ∨ 512 ≤ k
      · obtain ⟨d, hd⟩ : ∃ d, k / 8 = d := ⟨_, rfl⟩
        have q6 : (k : Int) / 8 = d := by omega
        have hu := u8_in ((d : Int) + 1) (by omega)
        have HB : Hid (b0 k = (d : Int) + 1) := by show b0 k = _; unfold b0; rw [if_pos hin, hd]; omega
        clear hM hd
        rcases hin with h1 | h1
        · have h1' : (k : Int) < 192 := by omega
          go_wp2_with fail
          go_roundw
          case rel => exact ⟨k + 1, by omega, by go_num, M.out.step HB.out⟩
          case measure => simp [intOf]; omega
        · have h1' : ¬ (k : Int) < 192 := by omega
          have h2' : (512 : Int) ≤ (k : Int) := by omega
          go_wp2_with fail
          go_roundw
          case rel => exact ⟨k + 1, by omega, by go_num, M.out.step HB.out⟩
          case measure => simp [intOf]; omega
      · have h1' : ¬ (k : Int) < 192 := by omega
        have h2' : ¬ (512 : Int) ≤ (k : Int) := by omega
        have HB : Hid (b0 k = 0) := by show b0 k = _; unfold b0; rw [if_neg hin]
        clear hM
        go_wp2_with fail
        go_roundw
        case rel => exact ⟨k + 1, by omega, by go_num, M.out.skip HB.out⟩
        case measure => simp [intOf]; omega
    · obtain rfl : k = 1536 := by omega
      rw [show ((1536 : Nat) : Int) = 1536 from rfl]
      have HF1 := Lib.hid (HF.out wr (M.out.row.congr (fun i hi => by rw [if_pos hi])))
      clear HF hlt hM
      go_wp2_with fail
      (with_reducible refine HF1.out.mono ?_)
      rintro e w1 ⟨v, own, rfl, d1, o1, b1⟩
      have D1 : Hid (IsDev w1 v own D0) := d1
      have B1 : Hid ((∀ k, own k ≠ none → w.heap.size ≤ k) ∧ Below w.heap.size w w1) := ⟨fun k hk => Nat.le_trans M.out.bel.size (o1 k hk), M.out.bel.trans (b1.mono M.out.bel.size)⟩
      clear d1 o1 b1 HF1
      go_wp2_with fail
      (with_reducible refine (thread0_any D1.out).mono ?_)
      rintro e w' ⟨rfl, rfl⟩
      go_wp2_with fail
      (with_reducible refine (HO.out _ _ _ D1.out).mono ?_)
      rintro e w2 ⟨rfl, l2, b2⟩
      have L2 : Hid (LSt w v own D0 w1.heap.size 0 192 5 w2) := ⟨l2, B1.out.1, B1.out.2.size, B1.out.2.trans (b2.mono B1.out.2.size)⟩
      clear l2 b2 D1 B1 HO
      go_wp2_with fail
      go_ret2
      exact ⟨v, own, _, rfl, L2.out⟩
end
end Go.Proofs.YtokgplgdaememaaDoor
