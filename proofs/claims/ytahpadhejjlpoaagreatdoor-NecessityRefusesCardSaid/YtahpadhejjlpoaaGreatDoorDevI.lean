/- Contents of a device as bytes: bytesOf and From; its dirty lines; Current, Persisted, Arm. -/
import Derived.Test.YtahpadhejjlpoaaGreatDoorDevG
import Derived.Laws.Bits64b
import Derived.Test.YtahpadhejjlpoaaGreatDoorBase
import Derived.Test.YtahpadhejjlpoaaGreatDoorGen
import Derived.Test.YtahpadhejjlpoaaGreatDoorDevP
import Derived.RegionTactic
import Derived.BigRegion
namespace Go.Proofs.YtahpadhejjlpoaaGreatDoor
open Go.RowKit

/-- Byte i of some words. -/
def byteAt (f : Nat → Int) (i : Nat) : Int := f (i / 8) / 2 ^ (i % 8 * 8) % 256
theorem infoU8 : (Tryz.prog.info? 5).map (fun i => (i.zero, i.size, i.bytes)) = some (some (.int .u8 0), 1, 1) := by kernel_rfl

section
variable {w : World}
theorem mkBytes (wx : World) (n : Nat) (hn : n ≤ 1000000) : (Instr.makeSlice 26 (.int .i64 n) (.int .i64 n)).run Tryz.prog wx = .ok (.slice (some ⟨wx.heap.size, 0, none⟩) n n) (wx.alloc (.cells (madeCells #[.int .u8 0] n) 5)) := by
  obtain ⟨i0, hi, hz0, hz1, hz2⟩ := info_parts infoU8
  have := run_make (P := Tryz.prog) wx 26 5 i0 _ Tryz.underlying26 hi hz0 .i64 .i64 n n (by omega) (by omega) (by rw [hz2]; omega) (by omega)
  rw [hz1] at this
  simpa [Value.cells] using this
theorem mkWords (wx : World) (n : Nat) (hn : n ≤ 1000000) : (Instr.makeSlice 90 (.int .i64 n) (.int .i64 n)).run Tryz.prog wx = .ok (.slice (some ⟨wx.heap.size, 0, none⟩) n n) (wx.alloc (.cells (madeCells #[.int .u64 0] n) 39)) := by
  obtain ⟨i0, hi, hz0, hz1, hz2⟩ := info_parts infoU64
  have := run_make (P := Tryz.prog) wx 90 39 i0 _ Tryz.underlying90 hi hz0 .i64 .i64 n n (by omega) (by omega) (by rw [hz2]; omega) (by omega)
  rw [hz1] at this
  simpa [Value.cells] using this
theorem row_made (w : World) (t : TypeId) (k : IntKind) (n : Nat) : Row (w.alloc (.cells (madeCells #[.int k 0] n) t)) w.heap.size n t (fun _ => .int k 0) :=
  Row.new w _ t _ _ (fun i hi => by simp [madeCells, hi, Nat.mod_one])
/-- Where the bytes stand in a round. -/
structure ByMid (w : World) (f : Nat → Int) (N k : Nat) (wr : World) : Prop where
  row : Row wr w.heap.size N 5 (fun i => .int .u8 (if i < k then byteAt f i else 0))
  bel : Below w.heap.size w wr
theorem ByMid.start (f : Nat → Int) (N : Nat) : ByMid w f N 0 (w.alloc (.cells (madeCells #[.int .u8 0] N) 5)) :=
  ⟨(row_made w 5 .u8 N).congr (fun i _ => by simp), (Below.refl _ _).alloc (Nat.le_refl _) _⟩
theorem ByMid.step {f : Nat → Int} {N k : Nat} {wr : World} (h : ByMid w f N k wr) : ByMid w f N (k + 1) (wr.setCell ⟨w.heap.size, k, none⟩ (.int .u8 (byteAt f k))) := by
  refine ⟨(h.row.set k (.int .u8 (byteAt f k))).congr (fun i _ => ?_), h.bel.setCell (by simp) _⟩
  by_cases e : i = k
  · subst e; simp
  · simp only [e, if_false]
    by_cases e2 : i < k
    · rw [if_pos e2, if_pos (by omega)]
    · rw [if_neg e2, if_neg (by omega)]
set_option maxRecDepth 100000 in
set_option maxHeartbeats 1000000 in
theorem bytesOf_any (sv : Value) (n : Nat) (f : Nat → Int) (h : RdSl w 1 sv n ((List.range n).map fun i => .int .u64 (f i))) (h0 : 0 < n) (hn : n ≤ 32768) (hf : ∀ i, i < n → 0 ≤ f i ∧ f i < 18446744073709551616) :
    Calls Tryz.prog 36 #[sv] w fun r w' => r = .returned (.slice (some ⟨w.heap.size, 0, none⟩) (8 * n) (8 * n)) ∧ Row w' w.heap.size (8 * n) 5 (fun i => .int .u8 (byteAt f i)) ∧ Below w.heap.size w w' := by
  obtain ⟨_, a, c, rfl, hc, h2⟩ := h
  have HR := Lib.hid h2; have HF := Lib.hid hf; clear h2 hf
  obtain ⟨N, hN⟩ : ∃ N, 8 * n = N := ⟨_, rfl⟩
  rw [hN]
  have q1 : (n : Int) * 8 = N := by omega
  have hmk := fun (wx : World) => mkBytes wx N (by omega)
  have hNb : N ≤ 1000000 := by omega
  have HN := Lib.hid hN; clear hN
  have M0 := Lib.hid (ByMid.start (w := w) f N)
  go_enter Tryz.func36, Tryz.ntmps36
  go_wp2_with fail
  go_loopw [4, 11] (fun _ y wr => ∃ k : Nat, k ≤ N ∧ y = .int .i64 k ∧ ByMid w f N k wr) (fun _ y _ => N - (intOf y).toNat)
  case atStart => exact ⟨0, by omega, rfl, M0.out⟩
  case round =>
    obtain ⟨k, hk, rfl, hM⟩ := hrel
    have M := Lib.hid hM
    clear M0
    by_cases hlt : k < N
    · have hlt' : (k : Int) < N := by omega
      have hf1 := hM.row.frozen k
      have hsz : w.heap.size < wr.heap.size := hM.row.lt
      have hcell := hM.row.cell hlt
      obtain ⟨u0, hu0⟩ : ∃ u, wr.cell? ⟨w.heap.size, k, none⟩ = some u := ⟨_, hcell⟩
      obtain ⟨d, hd⟩ : ∃ d, k / 8 = d := ⟨_, rfl⟩
      obtain ⟨r, hr⟩ : ∃ r, k % 8 = r := ⟨_, rfl⟩
      have q2 : (k : Int) / 8 = d := by omega
      have q3 : (k : Int) % 8 = r := by omega
      have hdn : (d : Int) < n := by have := HN.out; omega
      have hr8 : r < 8 := by omega
      have hx : ((List.range n).map fun i => Value.int .u64 (f i))[d]? = some (.int .u64 (f d)) := by rw [List.getElem?_map, List.getElem?_range (by omega)]; rfl
      obtain ⟨b, o, rfl, h3⟩ := rd_at HR.out hx
      have c1 := (hM.bel.cell (p := ⟨b, o + d, none⟩) (World.block_lt_of_cell? _ _ (h3 d _ hx))).trans (h3 d _ hx)
      have F := Lib.hid (HF.out d (by omega))
      have E := Lib.hid (And.intro hd hr)
      clear hM hcell hx h3 hd hr
      go_wp2_with fail
      exact ⟨⟨k + 1, by omega, by go_num, by rw [← E.out.1, ← E.out.2]; exact M.out.step⟩, by simp [intOf]; omega⟩
    · obtain rfl : k = N := by omega
      go_wp2_with fail
      go_ret
      exact ⟨rfl, M.out.row.congr (fun i hi => by rw [if_pos hi]), M.out.bel⟩

end
/-- The word that the first r bytes of word d give. -/
def wv (b : Nat → Int) (d : Nat) : Nat → Int
  | 0 => 0
  | r + 1 => wv b d r + b (8 * d + r) * 2 ^ (r * 8)
/-- The words of bytes, of which k have been read. -/
def wordsOf (b : Nat → Int) (k i : Nat) : Int := wv b i (min 8 (k - 8 * i))
theorem wv_lt (b : Nat → Int) (d : Nat) : ∀ r, (∀ j, j < r → 0 ≤ b (8 * d + j) ∧ b (8 * d + j) < 256) → 0 ≤ wv b d r ∧ wv b d r < 2 ^ (r * 8) := by
  intro r
  induction r with
  | zero => intro _; simp [wv]
  | succ r ih =>
    intro hb
    obtain ⟨h1, h2⟩ := ih (fun j hj => hb j (by omega))
    obtain ⟨h3, h4⟩ := hb r (by omega)
    have e : (2 : Int) ^ ((r + 1) * 8) = 2 ^ (r * 8) * 256 := by rw [show (r + 1) * 8 = r * 8 + 8 by omega, Int.pow_add]; rfl
    rw [e]
    simp only [wv]
    generalize (2 : Int) ^ (r * 8) = P at *
    generalize b (8 * d + r) = x at *
    have h5 : x * P ≤ 255 * P := Int.mul_le_mul_of_nonneg_right (by omega) (by omega)
    have h6 : 0 ≤ x * P := Int.mul_nonneg h3 (by omega)
    omega
theorem wv_byte (f : Nat → Int) (d : Nat) (x : Nat) (hx : f d = x) : ∀ r, r ≤ 8 → wv (byteAt f) d r = ((x % 2 ^ (r * 8) : Nat) : Int) := by
  intro r
  induction r with
  | zero => intro _; simp [wv, Nat.mod_one]
  | succ r ih =>
    intro hr
    simp only [wv]
    rw [ih (by omega)]
    have e1 : byteAt f (8 * d + r) = ((x / 2 ^ (r * 8) % 256 : Nat) : Int) := by
      unfold byteAt
      rw [show (8 * d + r) / 8 = d by omega, show (8 * d + r) % 8 = r by omega, hx]
      simp
    have e2 : 2 ^ ((r + 1) * 8) = 2 ^ (r * 8) * 256 := by rw [show (r + 1) * 8 = r * 8 + 8 by omega, Nat.pow_add]
    rw [e1, e2, Nat.mod_mul]
    have e3 : ((2 : Int) ^ (r * 8)) = ((2 ^ (r * 8) : Nat) : Int) := by simp
    rw [e3]
    generalize 2 ^ (r * 8) = P
    rw [← Int.natCast_mul, ← Int.natCast_add, Nat.mul_comm P]
theorem wordsOf_bytes (f : Nat → Int) (n i : Nat) (hi : i < n) (hf : 0 ≤ f i ∧ f i < 18446744073709551616) : wordsOf (byteAt f) (8 * n) i = f i := by
  unfold wordsOf
  rw [show min 8 (8 * n - 8 * i) = 8 by omega, wv_byte f i (f i).toNat (by omega) 8 (Nat.le_refl _)]
  rw [Nat.mod_eq_of_lt (by omega)]; omega
theorem wordsOf_zero (b : Nat → Int) (i : Nat) : wordsOf b 0 i = 0 := by simp [wordsOf, wv]
theorem wordsOf_step (b : Nat → Int) (k i : Nat) : wordsOf b (k + 1) i = if i = k / 8 then wordsOf b k i + b k * 2 ^ (k % 8 * 8) else wordsOf b k i := by
  unfold wordsOf
  by_cases e : i = k / 8
  · subst e
    rw [if_pos rfl, show min 8 (k + 1 - 8 * (k / 8)) = k % 8 + 1 by omega, show min 8 (k - 8 * (k / 8)) = k % 8 by omega]
    simp only [wv]
    rw [show 8 * (k / 8) + k % 8 = k by omega]
  · rw [if_neg e]
    by_cases h : 8 * i + 8 ≤ k
    · rw [show min 8 (k + 1 - 8 * i) = 8 by omega, show min 8 (k - 8 * i) = 8 by omega]
    · rw [show min 8 (k + 1 - 8 * i) = 0 by omega, show min 8 (k - 8 * i) = 0 by omega]
theorem or_byte (a x r : Nat) (ha : a < 2 ^ (r * 8)) (hx : x < 256) (hr : r < 8) : bits BinOp.or IntKind.u64 (a : Int) (IntKind.u64.wrap ((x : Int) * 2 ^ (r * 8))) = (a : Int) + (x : Int) * 2 ^ (r * 8) := by
  have e3 : ((2 : Int) ^ (r * 8)) = ((2 ^ (r * 8) : Nat) : Int) := by simp
  have hp : 2 ^ (r * 8) ≤ 2 ^ 56 := Nat.pow_le_pow_right (by omega) (by omega)
  have h1 : x * 2 ^ (r * 8) < 18446744073709551616 := by
    have : x * 2 ^ (r * 8) ≤ 255 * 2 ^ 56 := Nat.mul_le_mul (by omega) hp
    omega
  rw [e3, ← Int.natCast_mul, IntWalk.u64_in _ (by omega), bits_or_u64_nat _ _ (by omega) h1]
  rw [Nat.mul_comm x, Nat.or_comm, ← Nat.two_pow_add_eq_or_of_lt ha, ← Int.natCast_add]
  congr 1; omega
section
variable {w : World}
structure FrMid (w : World) (b : Nat → Int) (m k : Nat) (wr : World) : Prop where
  row : Row wr w.heap.size m 39 (fun i => .int .u64 (wordsOf b k i))
  bel : Below w.heap.size w wr
theorem FrMid.start (b : Nat → Int) (m : Nat) : FrMid w b m 0 (w.alloc (.cells (madeCells #[.int .u64 0] m) 39)) :=
  ⟨(row_made w 39 .u64 m).congr (fun i _ => by rw [wordsOf_zero]), (Below.refl _ _).alloc (Nat.le_refl _) _⟩
theorem FrMid.step {b : Nat → Int} {m k : Nat} {wr : World} (h : FrMid w b m k wr) : FrMid w b m (k + 1) (wr.setCell ⟨w.heap.size, k / 8, none⟩ (.int .u64 (wordsOf b k (k / 8) + b k * 2 ^ (k % 8 * 8)))) := by
  refine ⟨(h.row.set (k / 8) _).congr (fun i _ => ?_), h.bel.setCell (by simp) _⟩
  rw [wordsOf_step]
  by_cases e : i = k / 8
  · subst e; simp
  · simp [e]
set_option maxRecDepth 100000 in
set_option maxHeartbeats 1000000 in
theorem devFrom_any (sv : Value) (n : Nat) (b : Nat → Int) (h : RdSl w 1 sv (64 * n) ((List.range (64 * n)).map fun i => .int .u8 (b i))) (h0 : 0 < n) (hn : n ≤ 4096) (hb : ∀ i, i < 64 * n → 0 ≤ b i ∧ b i < 256) :
    Calls Tryz.prog 14 #[sv] w fun r w' => ∃ v own, r = .returned (.tuple #[.pointer (some ⟨v.db, 0, none⟩), .int .i64 0]) ∧ IsDev w' v own (Dev.fresh n (wordsOf b (64 * n))) ∧ (∀ k, own k ≠ none → w.heap.size ≤ k) ∧ Below w.heap.size w w' := by
  obtain ⟨_, sa, sc, rfl, hsc, h2⟩ := h
  have HR := Lib.hid h2; have HB := Lib.hid hb; clear h2 hb
  obtain ⟨m, hm⟩ : ∃ m, 8 * n = m := ⟨_, rfl⟩
  obtain ⟨N, hN⟩ : ∃ N, 64 * n = N := ⟨_, rfl⟩
  have HOF := Lib.hid (fun (wx : World) (hx : Row wx w.heap.size m 39 (fun i => .int .u64 (wordsOf b N i))) => of_any (w := wx) w.heap.size m n (wordsOf b N) (by rw [hm]; exact hx) h0 hn (by omega))
  rw [hm] at HOF
  rw [hN] at HR HB ⊢
  have q1 : (N : Int) % 64 = 0 := by omega
  have q2 : (N : Int) / 64 = n := by omega
  have q3 : (N : Int) / 8 = m := by omega
  have q4 : ((N : Int) == 0) = false := by simp; omega
  have q5 : ¬ (4096 : Int) < n := by omega
  have hmk := fun (wx : World) => mkWords wx m (by omega)
  have hNb : N ≤ 1000000 := by omega
  have HM := Lib.hid (And.intro hm hN); clear hm hN
  have M0 := Lib.hid (FrMid.start (w := w) b m)
  go_enter Tryz.func14, Tryz.ntmps14
  go_wp2_with fail
  go_loopw [5, 6, 26] (fun _ _ y wr => ∃ k : Nat, k ≤ N ∧ y = .int .i64 k ∧ FrMid w b m k wr) (fun _ _ y _ => N - (intOf y).toNat)
  case atStart => exact ⟨0, by omega, rfl, M0.out⟩
  case round =>
    obtain ⟨k, hk, rfl, hM⟩ := hrel
    have M := Lib.hid hM
    clear M0
    by_cases hlt : k < N
    · have hlt' : (k : Int) < N := by omega
      have hsz : w.heap.size < wr.heap.size := hM.row.lt
      obtain ⟨d, hd⟩ : ∃ d, k / 8 = d := ⟨_, rfl⟩
      obtain ⟨r, hr⟩ : ∃ r, k % 8 = r := ⟨_, rfl⟩
      have hf1 := hM.row.frozen d
      have q6 : (k : Int) / 8 = d := by omega
      have q7 : (k : Int) % 8 = r := by omega
      have hdn : (d : Int) < m := by have := HM.out; omega
      have hr8 : r < 8 := by omega
      have hcell := hM.row.cell (i := d) (by omega)
      have hx : ((List.range N).map fun i => Value.int .u8 (b i))[k]? = some (.int .u8 (b k)) := by rw [List.getElem?_map, List.getElem?_range hlt]; rfl
      obtain ⟨bb, o, rfl, h3⟩ := rd_at HR.out hx
      have c1 := (hM.bel.cell (p := ⟨bb, o + k, none⟩) (World.block_lt_of_cell? _ _ (h3 k _ hx))).trans (h3 k _ hx)
      obtain ⟨hb1, hb2⟩ := HB.out k hlt
      have hor : bits BinOp.or IntKind.u64 (wordsOf b k d) (IntKind.u64.wrap (b k * 2 ^ (r * 8))) = wordsOf b k d + b k * 2 ^ (r * 8) := by
        have e1 : wordsOf b k d = wv b d r := by unfold wordsOf; rw [show min 8 (k - 8 * d) = r by omega]
        have e2 := wv_lt b d r (fun j hj => HB.out _ (by omega))
        rw [e1]
        obtain ⟨a, ha⟩ : ∃ a : Nat, wv b d r = a := ⟨_, (Int.toNat_of_nonneg e2.1).symm⟩
        obtain ⟨x, hx⟩ : ∃ x : Nat, b k = x := ⟨_, (Int.toNat_of_nonneg hb1).symm⟩
        rw [ha, hx]
        refine or_byte a x r ?_ (by omega) hr8
        have e3 : ((2 : Int) ^ (r * 8)) = ((2 ^ (r * 8) : Nat) : Int) := by simp
        rw [ha, e3] at e2
        omega
      have HO := Lib.hid hor
      have E := Lib.hid (And.intro hd hr)
      clear hM hx h3 hd hr
      go_wp2_with fail
      exact ⟨⟨k + 1, by omega, by go_num, by rw [← E.out.1, ← E.out.2]; exact M.out.step⟩, by simp [intOf]; omega⟩
    · obtain rfl : k = N := by omega
      have HF := Lib.hid (HOF.out wr M.out.row)
      go_wp2_with fail
      (with_reducible refine HF.out.mono ?_)
      rintro e w1 ⟨v, own, rfl, _, _, hd, ho, hbl⟩
      have HD := Lib.hid (And.intro hd (And.intro ho hbl)); clear hd ho hbl
      go_wp2_with fail
      go_ret2
      exact ⟨v, own, rfl, HD.out.1, fun j hj => by
        rcases HD.out.2.1 j hj with h | h
        · omega
        · exact Nat.le_trans M.out.bel.size h, M.out.bel.trans (HD.out.2.2.mono M.out.bel.size)⟩
end
end Go.Proofs.YtahpadhejjlpoaaGreatDoor

namespace Go.Proofs.YtahpadhejjlpoaaGreatDoor
open Go.RowKit

def Dev.dirtyL (D : Dev) : List Nat := (List.range D.n).filter fun l => decide (0 < (D.hist l).length)
/-- Of line l the first k stores come through, too. -/
theorem img_step (D : Dev) (hw : D.WF) (ks : Nat → Nat) (l k : Nat) (hl : l < D.n) (h0 : ks l = 0) (i : Nat) : applied ((D.hist l).take k) (D.img ks) i = D.img (fun m => if m = l then k else ks m) i := by
  show look _ (look ((D.hist (i / 8)).take (ks (i / 8))) (D.pers i) i) i = look ((D.hist (i / 8)).take (if i / 8 = l then k else ks (i / 8))) (D.pers i) i
  by_cases e : i / 8 = l
  · rw [if_pos e, e, h0, List.take_zero]; rfl
  · rw [if_neg e]
    exact look_other _ _ _ (fun x hx => by
      have := (hw.line l hl x (List.mem_of_mem_take hx)).1
      omega)
section
variable {w : World} {v : DV} {own : Nat → Option Role} {D : Dev}
structure DirtyAt (w : World) (D : Dev) (k : Nat) (sv : Value) (wr : World) : Prop where
  acc : Acc w w.heap.size wr 3 1 sv ((List.range k).filter fun l => decide (0 < (D.hist l).length)).length (natsI ((List.range k).filter fun l => decide (0 < (D.hist l).length)))
theorem dirty_skip {k : Nat} {sv : Value} {wr : World} (h : DirtyAt w D k sv wr) (he : (D.hist k).length = 0) : DirtyAt w D (k + 1) sv wr := by
  have e : (List.range (k + 1)).filter (fun l => decide (0 < (D.hist l).length)) = (List.range k).filter fun l => decide (0 < (D.hist l).length) := by
    rw [List.range_succ, List.filter_append]; simp [he]
  exact ⟨by rw [e]; exact h.acc⟩
theorem dirty_add {k : Nat} {sv : Value} {wr : World} (he : 0 < (D.hist k).length)
    (h : Acc w w.heap.size wr 3 1 sv (((List.range k).filter fun l => decide (0 < (D.hist l).length)).length + 1) (natsI ((List.range k).filter fun l => decide (0 < (D.hist l).length)) ++ [.int .i64 k])) : DirtyAt w D (k + 1) sv wr := by
  have e : (List.range (k + 1)).filter (fun l => decide (0 < (D.hist l).length)) = ((List.range k).filter fun l => decide (0 < (D.hist l).length)) ++ [k] := by
    rw [List.range_succ, List.filter_append]; simp [he]
  exact ⟨by rw [e]; exact h.congr (by simp) (by simp [natsI])⟩
theorem IsDev.hlen (h : IsDev w v own D) {l : Nat} (hl : l < D.n) : (D.hist l).length ≤ maxLen := by
  obtain ⟨hv, _, h2⟩ := line_at h
  rcases (h2 l hl).1.2 with ⟨_, h0⟩ | ⟨_, _, cap, _, _, _, h3, h4, _⟩
  · rw [h0]; unfold maxLen; omega
  · exact Nat.le_trans h3 h4
theorem filt_len (D : Dev) (k : Nat) : ((List.range k).filter fun l => decide (0 < (D.hist l).length)).length ≤ k := by
  have := List.length_filter_le (fun l => decide (0 < (D.hist l).length)) (List.range k); simpa using this
set_option maxRecDepth 100000 in
set_option maxHeartbeats 2000000 in
theorem dirty_any (h : IsDev w v own D) :
    Calls Tryz.prog 34 #[.pointer (some ⟨v.db, 0, none⟩)] w fun r w' => ∃ sv, r = .returned sv ∧ Acc w w.heap.size w' 3 1 sv D.dirtyL.length (natsI D.dirtyL) := by
  have hn := h.wf.le
  obtain ⟨i0, hi0, hz0, hz1, hz2⟩ := info_parts infoInt
  have I := Lib.hid (And.intro hi0 (And.intro hz0 (And.intro hz1 hz2))); clear hi0 hz0 hz1 hz2
  have H := Lib.hid h
  have HF := Lib.hid (filt_len D)
  have HS : Hid (∀ k sv wr, DirtyAt w D k sv wr → (D.hist k).length = 0 → DirtyAt w D (k + 1) sv wr) := Lib.hid (fun k sv wr h1 h2 => dirty_skip h1 h2)
  have HE := Lib.hid (fun k sv wr h1 h2 => dirty_add (w := w) (D := D) (k := k) (sv := sv) (wr := wr) h1 h2)
  unfold Dev.dirtyL
  have hd2 : w.cell? ⟨v.db, 2, none⟩ = some (.slice (some ⟨v.lb, 0, none⟩) D.n D.n) := h.dev.cell rfl
  clear h
  generalize hN : D.n = n at *
  have HN := Lib.hid hN; clear hN
  go_enter Tryz.func34, Tryz.ntmps34
  go_wp2_with fail
  go_loopw [3, 4, 12] (fun sv _ y wr => ∃ k : Nat, k ≤ n ∧ y = .int .i64 k ∧ DirtyAt w D k sv wr) (fun _ _ y _ => n - (intOf y).toNat)
  case atStart => exact ⟨0, by omega, rfl, ⟨Acc.nil w _ _ _ _ (Below.refl _ _) (Nat.le_refl _)⟩⟩
  case round =>
    obtain ⟨k, hk, rfl, ha⟩ := hrel
    obtain ⟨la, lc, hsv⟩ := ha.acc.slice
    subst hsv
    have A := Lib.hid ha; clear ha
    have d2 : wr.cell? ⟨v.db, 2, none⟩ = some (.slice (some ⟨v.lb, 0, none⟩) n n) := (A.out.acc.bel.cell (p := ⟨v.db, 2, none⟩) H.out.dev.lt).trans hd2
    by_cases hlt : k < n
    · have hlt' : (k : Int) < n := by omega
      obtain ⟨hv, l1, l2⟩ := line_at H.out
      have hlb : v.lb < w.heap.size := by obtain ⟨_, h1, _⟩ := H.out.lines; exact h1.lt
      obtain ⟨ha, hc, hve⟩ := (l2 k (by rw [HN.out]; exact hlt)).1.slice
      have c1 := (A.out.acc.bel.cell (p := ⟨v.lb, k * 2 + 1, none⟩) hlb).trans (l1 k (by rw [HN.out]; exact hlt)).2
      rw [hve] at c1
      have hb := H.out.hlen (l := k) (by rw [HN.out]; exact hlt)
      unfold maxLen at hb
      have hf := HF.out k
      have HS1 := Lib.hid (HS.out k _ _ A.out)
      have HE1 := Lib.hid (HE.out k)
      clear l1 l2 hve hv hlb
      generalize hlen : (D.hist k).length = q at *
      clear hlen
      by_cases hq : 0 < q
      · have hq' : (0 : Int) < q := by omega
        have A2 := Lib.hid A.out.acc
        have HE2 := Lib.hid (fun sv wr => HE1.out sv wr hq)
        generalize hL : (List.range k).filter (fun l => decide (0 < (D.hist l).length)) = L at *
        clear hL A
        go_wp2_with (at_builtin; refine wpList_append_sl _ rfl _ _ 75 rfl 3 i0 _ 1 8 Tryz.underlying75 I.out.1 I.out.2.1 I.out.2.2.1 I.out.2.2.2 rfl (by decide) _ L.length (natsI L) rfl (by exact A2.out.own.alloc _) _ 1 _ rfl (by exact RdSl.newAt _ _ _ 1 1 _ rfl rfl) (one_int _ _) (by unfold maxLen; omega) (by omega) ?_)
        intro v1 w1 o1 g1 b1 n1
        have A1 := Lib.hid (A2.out.next (below_alloc _ _) o1 g1 b1 (by simp)); clear o1 g1 b1 n1
        go_wp2_with fail
        go_roundw
        case rel => exact ⟨k + 1, by omega, by go_num, HE2.out _ _ A1.out⟩
        case measure => simp [intOf]; omega
      · have hq' : ¬ (0 : Int) < q := by omega
        go_wp2_with fail
        go_roundw
        case rel => exact ⟨k + 1, by omega, by go_num, HS1.out (by omega)⟩
        case measure => simp [intOf]; omega
    · obtain rfl : k = n := by omega
      go_wp2_with fail
      go_ret
      exact ⟨_, rfl, A.out.acc⟩
theorem bytesOf_at {g c n : Nat} {f : Nat → Int} (h : Row w g (8 * n) 39 (fun i => .int .u64 (f i))) (hc : 8 * n ≤ c) (h0 : 0 < n) (hn : n ≤ 4096) (hf : ∀ i, 0 ≤ f i ∧ f i < 18446744073709551616) :
    Calls Tryz.prog 36 #[.slice (some ⟨g, 0, none⟩) (8 * n) c] w fun r w' => r = .returned (.slice (some ⟨w.heap.size, 0, none⟩) (64 * n) (64 * n)) ∧ Row w' w.heap.size (64 * n) 5 (fun i => .int .u8 (byteAt f i)) ∧ Below w.heap.size w w' := by
  have := bytesOf_any (w := w) (.slice (some ⟨g, 0, none⟩) (8 * n) c) (8 * n) f ?_ (by omega) (by omega) (fun i _ => hf i)
  · rwa [show 8 * (8 * n) = 64 * n by omega] at this
  · refine ⟨by simp, _, _, rfl, hc, .inr ⟨g, 0, rfl, fun j u hu => ?_⟩⟩
    obtain ⟨hj, e⟩ := List.getElem?_eq_some_iff.1 hu
    have hj' : j < 8 * n := by simpa using hj
    rw [Nat.zero_add, h.cell hj', ← e]; simp
end
end Go.Proofs.YtahpadhejjlpoaaGreatDoor

namespace Go.Proofs.YtahpadhejjlpoaaGreatDoor
open Go.RowKit Go.Maps

section
variable {w : World} {v : DV} {own : Nat → Option Role} {D : Dev}
def BytesPost (w : World) (n : Nat) (f : Nat → Int) (r : Ending) (w' : World) : Prop :=
  r = .returned (.slice (some ⟨w.heap.size, 0, none⟩) (64 * n) (64 * n)) ∧ Row w' w.heap.size (64 * n) 5 (fun i => .int .u8 (byteAt f i)) ∧ Below w.heap.size w w'
set_option maxHeartbeats 400000 in
theorem persisted_any (h : IsDev w v own D) (hvb : D.VB) : Calls Tryz.prog 107 #[.pointer (some ⟨v.db, 0, none⟩)] w (BytesPost w D.n D.pers) := by
  have c1 : w.cell? ⟨v.db, 0, none⟩ = some (.slice (some ⟨v.pb, 0, none⟩) (8 * D.n) v.pc) := h.dev.cell rfl
  have HB := Lib.hid (bytesOf_at h.pers h.pcs.1 h.wf.pos h.wf.le hvb.pers)
  clear h hvb
  go_enter Tryz.func107, Tryz.ntmps107
  go_wp2_with fail
  (with_reducible refine HB.out.mono ?_)
  rintro e w1 ⟨rfl, r1, b1⟩
  have R1 := Lib.hid (And.intro r1 b1); clear r1 b1
  go_wp2_with fail
  go_ret
  exact ⟨rfl, R1.out⟩
def getL (f : Nat → Int) (k : Nat) : List Int := (List.range k).map f
theorem getL_len (f : Nat → Int) (k : Nat) : (getL f k).length = k := by simp [getL]
theorem row_rd {g n c : Nat} {t : TypeId} {f : Nat → Int} (h : Row w g n t (fun i => .int .u64 (f i))) (hc : n ≤ c) : RdSl w 1 (.slice (some ⟨g, 0, none⟩) n c) n (intsU (getL f n)) := by
  refine ⟨by simp [intsU, getL], _, _, rfl, hc, .inr ⟨g, 0, rfl, fun j u hu => ?_⟩⟩
  have hj : j < n := by
    rcases Nat.lt_or_ge j n with h | h
    · exact h
    · rw [List.getElem?_eq_none (by simp [intsU, getL]; exact h)] at hu; cases hu
  have : u = .int .u64 (f j) := by simp [intsU, getL, hj] at hu; exact hu.symm
  rw [this, Nat.zero_add]; exact h.cell hj
end
end Go.Proofs.YtahpadhejjlpoaaGreatDoor
