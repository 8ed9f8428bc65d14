/- The walk of Leaf.read. -/
import Derived.Test.YtkoijmoendepgaaLeafG
import Derived.Deep.CutBlock
namespace Go.Proofs.Ytkoijmoendepgaa
open Go.RowKit

section
variable {w : World} {v : DV} {own : Nat → Option Role} {D : Dev}

set_option maxHeartbeats 400000 in
theorem load_ok (h : IsDev w v own D) {j : Nat} (hj : j < 8) (off : Nat) (hoff : D.off = false) (hw : off % 8 = 0) (hl : off < 64 * D.n) :
    Calls Try.prog 69 #[.pointer (some ⟨v.tb j, 0, none⟩), .int .u64 off] w fun r w' => r = .returned (.int .u64 (D.cur (off / 8))) ∧ w = w' := by
  have c0 : w.cell? ⟨v.tb j, 0, none⟩ = some (.pointer (some ⟨v.db, 0, none⟩)) := (h.thr j hj).cell rfl
  have c1 : w.cell? ⟨v.db, 1, none⟩ = some (.slice (some ⟨v.cb, 0, none⟩) (8 * D.n) v.cc) := h.dev.cell rfl
  have hn := h.wf.le
  have h2 : D.wordB off = true := by simp [Dev.wordB, hw, hl]
  have ck : w.cell? ⟨v.cb, off / 8, none⟩ = some (.int .u64 (D.cur (off / 8))) := cur_at h (by omega)
  have hw : ((off : Int) / 8) < (8 * D.n : Nat) := by omega
  have H := Lib.hid h; have H2 := Lib.hid h2; have Ho := Lib.hid hoff; clear h h2 hoff
  go_enter Try.func69, Try.ntmps69
  go_wp2_with (first | (go_at_call 82; refine (word_any H.out hj off).mono ?_; rintro e w' ⟨rfl, rfl⟩; rw [H2.out]) | (go_at_call 76; refine (on_yes H.out hj Ho.out).mono ?_; rintro e w' ⟨rfl, rfl⟩))
  go_ret
  exact ⟨rfl, rfl⟩

def leafV (v : DV) (j p : Nat) : Value := .agg #[.iface 39 (.pointer (some ⟨v.tb j, 0, none⟩)), .int .u64 p]

set_option maxRecDepth 100000 in
set_option maxHeartbeats 1000000 in
theorem leafAt_any (m : Value) (p i : Nat) (hp : p < 18446744073709551616) (hi : i < 1000) (hm : m = .nilIface ∨ ∃ t a, m = .iface t (.pointer (some a))) :
    Calls Try.prog 54 #[.agg #[m, .int .u64 p], .int .i64 i] w fun r w' => r = .returned (.int .u64 (ptrOff p + 8 * i : Nat)) ∧ w.alloc (.cells #[m, .int .u64 p] 47) = w' := by
  have hb : ptrOff p ≤ 34359738360 := by unfold ptrOff; omega
  have HO := Lib.hid (ptrOff_any (w := w.alloc (.cells #[m, .int .u64 p] 47)) p hp)
  generalize ptrOff p = o at *
  rcases hm with rfl | ⟨t, a, rfl⟩
  all_goals
    go_enter Try.func54, Try.ntmps54
    go_wp2_with (go_at_call 79; (with_reducible refine HO.out.mono ?_); rintro e w' ⟨rfl, rfl⟩)
    go_ret
    exact ⟨ret_int (by omega), rfl⟩

theorem meth_Size (a : Addr) (w : World) : (method 305 39 (.pointer (some a)) "Size").run Try.prog w = .ok (136, .pointer (some a)) w := by kernel_rfl
theorem meth_Err (a : Addr) (w : World) : (method 305 39 (.pointer (some a)) "Err").run Try.prog w = .ok (24, .pointer (some a)) w := by kernel_rfl
theorem meth_Load (a : Addr) (w : World) : (method 305 39 (.pointer (some a)) "Load").run Try.prog w = .ok (69, .pointer (some a)) w := by kernel_rfl
theorem meth_Store (a : Addr) (w : World) : (method 305 39 (.pointer (some a)) "Store").run Try.prog w = .ok (58, .pointer (some a)) w := by kernel_rfl
theorem meth_Flush (a : Addr) (w : World) : (method 305 39 (.pointer (some a)) "Flush").run Try.prog w = .ok (59, .pointer (some a)) w := by kernel_rfl
theorem meth_Fence (a : Addr) (w : World) : (method 305 39 (.pointer (some a)) "Fence").run Try.prog w = .ok (15, .pointer (some a)) w := by kernel_rfl

/-- k words of the node are read. -/
def RMid (w : World) (v : DV) (own : Nat → Option Role) (D : Dev) (j p k : Nat) (wr : World) : Prop :=
  IsDev wr v own D ∧ Blk wr w.heap.size #[.iface 39 (.pointer (some ⟨v.tb j, 0, none⟩)), .int .u64 p] 47 ∧
  Row wr (w.heap.size + 1) 30 128 (fun i => if i < 28 then .int .u64 (if i < k then D.cur (ptrOff p / 8 + i) else 0) else if i = 28 then .slice none 0 0 else .int .u64 0) ∧ Below w.heap.size w wr

theorem rmid_start (h : IsDev w v own D) (j p : Nat) : RMid w v own D j p 0 ((w.alloc (.cells #[.iface 39 (.pointer (some ⟨v.tb j, 0, none⟩)), .int .u64 p] 47)).alloc (.cells #[.int .u64 0, .int .u64 0, .int .u64 0, .int .u64 0, .int .u64 0, .int .u64 0, .int .u64 0, .int .u64 0, .int .u64 0, .int .u64 0, .int .u64 0, .int .u64 0, .int .u64 0, .int .u64 0, .int .u64 0, .int .u64 0, .int .u64 0, .int .u64 0, .int .u64 0, .int .u64 0, .int .u64 0, .int .u64 0, .int .u64 0, .int .u64 0, .int .u64 0, .int .u64 0, .int .u64 0, .int .u64 0, .slice none 0 0, .int .u64 0] 128)) := by
  refine ⟨(h.alloc _).alloc _, (Blk.new w _ _).alloc _, ?_, ((Below.refl _ _).alloc (Nat.le_refl _) _).alloc (by simp) _⟩
  have := Row.new (w.alloc (.cells #[.iface 39 (.pointer (some ⟨v.tb j, 0, none⟩)), .int .u64 p] 47)) #[.int .u64 0, .int .u64 0, .int .u64 0, .int .u64 0, .int .u64 0, .int .u64 0, .int .u64 0, .int .u64 0, .int .u64 0, .int .u64 0, .int .u64 0, .int .u64 0, .int .u64 0, .int .u64 0, .int .u64 0, .int .u64 0, .int .u64 0, .int .u64 0, .int .u64 0, .int .u64 0, .int .u64 0, .int .u64 0, .int .u64 0, .int .u64 0, .int .u64 0, .int .u64 0, .int .u64 0, .int .u64 0, .slice none 0 0, .int .u64 0] 128 30 (fun i => if i < 28 then .int .u64 (if i < 0 then D.cur (ptrOff p / 8 + i) else 0) else if i = 28 then .slice none 0 0 else .int .u64 0) (fun i hi => by
    by_cases h1 : i < 28
    · rw [if_pos h1, if_neg (Nat.not_lt_zero _)]
      have : i = 0 ∨ i = 1 ∨ i = 2 ∨ i = 3 ∨ i = 4 ∨ i = 5 ∨ i = 6 ∨ i = 7 ∨ i = 8 ∨ i = 9 ∨ i = 10 ∨ i = 11 ∨ i = 12 ∨ i = 13 ∨ i = 14 ∨ i = 15 ∨ i = 16 ∨ i = 17 ∨ i = 18 ∨ i = 19 ∨ i = 20 ∨ i = 21 ∨ i = 22 ∨ i = 23 ∨ i = 24 ∨ i = 25 ∨ i = 26 ∨ i = 27 := by omega
      rcases this with rfl | rfl | rfl | rfl | rfl | rfl | rfl | rfl | rfl | rfl | rfl | rfl | rfl | rfl | rfl | rfl | rfl | rfl | rfl | rfl | rfl | rfl | rfl | rfl | rfl | rfl | rfl | rfl <;> rfl
    · rw [if_neg h1]
      have : i = 28 ∨ i = 29 := by omega
      rcases this with rfl | rfl <;> rfl)
  rw [World.size_alloc] at this
  exact this

theorem rmid_step {j p k : Nat} {wr wx : World} (h : RMid w v own D j p k wr) (hk : k < 28) {q : Nat} (hx : wx = ((wr.setCell ⟨w.heap.size + 1, k, none⟩ (.int .u64 (D.cur q))).alloc (.cells #[.iface 39 (.pointer (some ⟨v.tb j, 0, none⟩)), .int .u64 p] 47)).drew) (hq : q = ptrOff p / 8 + k)
    (hown : own (w.heap.size + 1) = none) : RMid w v own D j p (k + 1) wx := by
  subst hx hq
  obtain ⟨h1, h2, h3, h4⟩ := h
  refine ⟨?_, ?_, ?_, ?_⟩
  · refine ((h1.kept (w' := wr.setCell ⟨w.heap.size + 1, k, none⟩ (.int .u64 (D.cur (ptrOff p / 8 + k)))) (by simp [World.setCell]) (fun b hb => Below.heap_setCell _ _ _ _ (fun e => ?_))).alloc _).drew
    have e' : b = w.heap.size + 1 := e
    rw [e', hown] at hb; exact hb rfl
  · exact (h2.other (a := ⟨w.heap.size + 1, k, none⟩) (by show w.heap.size ≠ w.heap.size + 1; omega) _).alloc _
  · refine ((h3.set k _).alloc _).congr (fun i hi => ?_)
    by_cases e : i = k
    · subst e; rw [if_pos rfl, if_pos hk, if_pos (Nat.lt_succ_self _)]
    · rw [if_neg e]
      by_cases e1 : i < 28
      · rw [if_pos e1, if_pos e1]
        by_cases e2 : i < k
        · rw [if_pos e2, if_pos (by omega)]
        · rw [if_neg e2, if_neg (by omega)]
      · rw [if_neg e1, if_neg e1]
  · exact ((h4.setCell (p := ⟨w.heap.size + 1, k, none⟩) (by show w.heap.size ≤ w.heap.size + 1; omega) _).alloc (by have := h4.size; simp [World.setCell]; exact this) _).drew

/-- What Leaf.read leaves where the words can be read. -/
def ReadPost (w : World) (W : Nat → Int) (size : Nat) (r : Ending) (w' : World) : Prop :=
  Below w.heap.size w w' ∧
  (((parseOk (W 0).toNat ∧ validC W (slotsN (W 0).toNat ((W 0).toNat % 16)) size) ∧ ∃ cb, r = .returned (.tuple #[.pointer (some ⟨cb, 0, none⟩), .int .i64 0]) ∧ w.heap.size ≤ cb ∧
      IsCont w' cb W (slotsN (W 0).toNat ((W 0).toNat % 16)) ((W 0).toNat / 4503599627370496)) ∨
   (¬ (parseOk (W 0).toNat ∧ validC W (slotsN (W 0).toNat ((W 0).toNat % 16)) size) ∧ r = .returned (.tuple #[.pointer none, .int .i64 11])))

theorem read_cont {j p x0 : Nat} {wr w1 : World} (h : RMid w v own D j p 28 wr) (hb : Below wr.heap.size wr w1) {sv : Value} (ho : OwnSl w1 3 1 sv (x0 % 16) (natsI (slotsN x0 (x0 % 16)))) (hg : ∀ g, sv.ownBlock = some g → wr.heap.size ≤ g)
    (hok : parseOk x0) {wx : World} {c : Int} (hx : wx = (w1.setCell ⟨w.heap.size + 1, 28, none⟩ sv).setCell ⟨w.heap.size + 1, 29, none⟩ (.int .u64 c)) (_hx0 : D.cur (ptrOff p / 8) = x0) (hc : c = (x0 : Int) / 4503599627370496) :
    IsCont wx (w.heap.size + 1) (fun i => D.cur (ptrOff p / 8 + i)) (slotsN x0 (x0 % 16)) (x0 / 4503599627370496) := by
  subst hx hc
  obtain ⟨h1, h2, h3, h4⟩ := h
  have hlt := h3.lt
  have hr := h3.below hb
  have hr2 := (hr.set 28 sv).set 29 (.int .u64 ((x0 : Int) / 4503599627370496))
  have hne : ∀ g, sv.ownBlock = some g → g ≠ w.heap.size + 1 := fun g hg' => by have := hg g hg'; omega
  have hsl := (ho.other (a := ⟨w.heap.size + 1, 28, none⟩) hne sv).other (a := ⟨w.heap.size + 1, 29, none⟩) hne (.int .u64 ((x0 : Int) / 4503599627370496))
  have hc28 := hr2.cell (i := 28) (by omega)
  rw [if_neg (by omega), if_pos rfl] at hc28
  refine ⟨fun i hi => ?_, ⟨sv, ?_, ?_⟩, ?_, ?_, ?_, by obtain ⟨c, hc, _⟩ := hr2; exact ⟨c, hc⟩, fun sv' hsv g hg => ?_⟩
  · rw [hr2.cell (by omega), if_neg (by omega), if_neg (by omega), if_pos hi, if_pos hi]
  · rw [hr2.cell (by omega)]; simp
  · have hl : (slotsN x0 (x0 % 16)).length = x0 % 16 := by simp [slotsN]
    rw [hl]
    have hne : ∀ g, sv.ownBlock = some g → g ≠ w.heap.size + 1 := fun g hg' => by have := hg g hg'; omega
    exact ((ho.other (a := ⟨w.heap.size + 1, 28, none⟩) hne _).other (a := ⟨w.heap.size + 1, 29, none⟩) hne _).rd
  · rw [hr2.cell (by omega), if_pos rfl]; congr 2
  · intro s hs
    simp only [slotsN, List.mem_map, List.mem_range] at hs
    obtain ⟨i, hi, rfl⟩ := hs
    exact ((hok.2 i (by have := hok.1; omega)).2 hi).1
  · simp [slotsN]; exact hok.1
  · rw [hc28] at hsv
    cases hsv
    rcases hsl.2 with ⟨rfl, _⟩ | ⟨g', o, cap, cur, rfl, hg', _⟩
    · simp [Value.ownBlock] at hg
    · simp [Value.ownBlock] at hg; subst hg; exact ⟨cur, hg'⟩

theorem read_end {j p : Nat} {wr w1 w2 wx : World} (h : RMid w v own D j p 28 wr) (hb : Below wr.heap.size wr w1) {sv u : Value} (hq : Qt wx w2) (hx : wx = (w1.setCell ⟨w.heap.size + 1, 28, none⟩ sv).setCell ⟨w.heap.size + 1, 29, none⟩ u) : Below w.heap.size w w2 := by
  subst hx
  have h1 : Below w.heap.size w w1 := h.2.2.2.trans (hb.mono h.2.2.2.size)
  have h2 := (h1.setCell (p := ⟨w.heap.size + 1, 28, none⟩) (by show w.heap.size ≤ w.heap.size + 1; omega) sv).setCell (p := ⟨w.heap.size + 1, 29, none⟩) (by show w.heap.size ≤ w.heap.size + 1; omega) u
  obtain ⟨n, rfl⟩ := hq
  exact ⟨h2.os, h2.tape, h2.output, h2.size, h2.block⟩

set_option maxRecDepth 100000 in
set_option maxHeartbeats 2000000 in
theorem read_good (h : IsDev w v own D) {j : Nat} (hj : j < 8) (p : Nat) (hp : p < 18446744073709551616) (hp0 : 0 < p) (ho : D.off = false) (he : D.err j = 0) (hr : ptrOff p + 224 ≤ 64 * D.n)
    (hW : ∀ i, i < 28 → 0 ≤ D.cur (ptrOff p / 8 + i) ∧ D.cur (ptrOff p / 8 + i) < 18446744073709551616) :
    Calls Try.prog 50 #[leafV v j p] w (ReadPost w (fun i => D.cur (ptrOff p / 8 + i)) (D.n * 64)) := by
  have hn := h.wf.le
  obtain ⟨x0, hx00⟩ : ∃ x0 : Nat, D.cur (ptrOff p / 8) = x0 := ⟨(D.cur (ptrOff p / 8)).toNat, by have := hW 0 (by omega); simp only [Nat.add_zero] at this; omega⟩
  have hx0 : x0 < 18446744073709551616 := by have := hW 0 (by omega); simp only [Nat.add_zero] at this; omega
  have HX := Lib.hid hx00; have HW := Lib.hid hW; clear hx00 hW
  have hp0' : ((p : Int) == 0) = false := by simp; omega
  have h1 : ¬ ((D.n : Int) * 64 < 224) := by omega
  have h2 : ¬ ((D.n : Int) * 64 - 224 < (ptrOff p : Int)) := by omega
  have hm1 := meth_Size ⟨v.tb j, 0, none⟩; have hm2 := meth_Err ⟨v.tb j, 0, none⟩; have hm3 := meth_Load ⟨v.tb j, 0, none⟩
  have H := Lib.hid h; have HO := Lib.hid ho; have HE := Lib.hid he; clear h ho he
  have HP := Lib.hid (fun wx => ptrOff_any (w := wx) p hp)
  have herr : ∀ wx, IsDev wx v own D → Calls Try.prog 24 #[.pointer (some ⟨v.tb j, 0, none⟩)] wx fun r w' => r = .returned (.int .i64 0) ∧ wx = w' := fun wx hx => by have := err_any hx hj; rw [HE.out] at this; exact this
  have HR := Lib.hid herr; clear herr
  unfold leafV
  go_enter Try.func50, Try.ntmps50
  go_wp2_with fail
  (with_reducible refine (thrSize_any (H.out.alloc _) hj).mono ?_)
  rintro e w' ⟨rfl, rfl⟩
  go_wp2_with fail
  (with_reducible refine (HP.out _).mono ?_)
  rintro e w' ⟨rfl, rfl⟩
  go_wp2_with fail
  (with_reducible refine (HR.out _ (H.out.alloc _)).mono ?_)
  rintro e w' ⟨rfl, rfl⟩
  go_wp2_with fail
  have M0 := Lib.hid (rmid_start H.out j p)
  have Hown : Hid (own (w.heap.size + 1) = none) := by
    show own (w.heap.size + 1) = none
    cases ho : own (w.heap.size + 1) with
    | none => rfl
    | some r => have := H.out.lt (w.heap.size + 1) (by rw [ho]; simp); omega
  go_loopw [40] (fun x wr => ∃ k : Nat, k ≤ 28 ∧ x = .int .i64 k ∧ RMid w v own D j p k wr) (fun x _ => 28 - (intOf x).toNat)
  case atStart => exact ⟨0, by omega, rfl, M0.out⟩
  case round =>
    obtain ⟨k, hk, rfl, hmid⟩ := hrel
    have HM := Lib.hid hmid
    by_cases hlt : k < 28
    · have c0 : wr.cell? ⟨w.heap.size, 0, none⟩ = some (.iface 39 (.pointer (some ⟨v.tb j, 0, none⟩))) := hmid.2.1.cell rfl
      have c1 : wr.cell? ⟨w.heap.size, 1, none⟩ = some (.int .u64 p) := hmid.2.1.cell rfl
      have c2 : ∃ u, wr.cell? ⟨w.heap.size + 1, k, none⟩ = some u := ⟨_, hmid.2.2.1.cell (by omega)⟩
      have f2 := hmid.2.2.1.frozen k
      have s0 : w.heap.size < wr.heap.size := hmid.2.1.lt
      have s1 : w.heap.size + 1 < wr.heap.size := hmid.2.2.1.lt
      have hk28 : (k : Int) < 28 := by omega
      obtain ⟨u2, c2⟩ := c2
      have HD := Lib.hid hmid.1
      clear hmid
      have HL := Lib.hid (fun wx (hx : IsDev wx v own D) => load_ok hx hj (ptrOff p + 8 * k) HO.out (by unfold ptrOff; omega) (by omega))
      have HQ : Hid ((ptrOff p + 8 * k) / 8 = ptrOff p / 8 + k) := by show (ptrOff p + 8 * k) / 8 = _; unfold ptrOff; omega
      go_upto_block 1 with fail
      go_cut [] (fun wx => RMid w v own D j p (k + 1) wx)
      case first =>
        go_wp2_with fail
        go_region_with (first | (go_at_call 54; refine (leafAt_any _ p k hp (by omega) (.inr ⟨_, _, rfl⟩)).mono ?_; rintro e w' ⟨rfl, rfl⟩) | (go_at_call 69; refine (HL.out _ ?hd).mono ?_; (case hd => first | exact (HD.out.alloc _).drew | exact HD.out.drew); rintro e w' ⟨rfl, rfl⟩))
        all_goals go_wp2_with fail
        all_goals go_meet
        all_goals exact rmid_step HM.out hlt rfl HQ.out Hown.out
      case rest =>
        have HM1 := Lib.hid hcut
        clear hcut c0 c1 c2 f2
        go_wp2_with fail
        go_roundw
        case rel => exact ⟨k + 1, by omega, by go_num, HM1.out⟩
        case measure => simp [intOf]; omega
    · obtain rfl : k = 28 := by omega
      rw [show ((28 : Nat) : Int) = 28 from rfl]
      have c0 : wr.cell? ⟨w.heap.size, 0, none⟩ = some (.iface 39 (.pointer (some ⟨v.tb j, 0, none⟩))) := hmid.2.1.cell rfl
      have c2 : wr.cell? ⟨w.heap.size + 1, 0, none⟩ = some (.int .u64 x0) := by rw [hmid.2.2.1.cell (by omega)]; simp [HX.out]
      have HD := Lib.hid hmid.1
      clear hmid hlt
      go_wp2_with fail
      (with_reducible refine (HR.out _ HD.out).mono ?_)
      rintro e w' ⟨rfl, rfl⟩
      go_wp2_with fail
      (with_reducible refine (parse_any x0 hx0).mono ?_)
      rintro e w1 hpp
      have hbl := hpp.1
      have s1 : w.heap.size + 1 < wr.heap.size := HM.out.2.2.1.lt
      have r1 := HM.out.2.2.1
      have d0 : w1.cell? ⟨w.heap.size + 1, 0, none⟩ = some (.int .u64 x0) := (hbl.cell (p := ⟨w.heap.size + 1, 0, none⟩) s1).trans c2
      have d28 : w1.cell? ⟨w.heap.size + 1, 28, none⟩ = some (.slice none 0 0) := (hbl.cell (p := ⟨w.heap.size + 1, 28, none⟩) s1).trans (by rw [r1.cell (by omega)]; simp)
      have d29 : w1.cell? ⟨w.heap.size + 1, 29, none⟩ = some (.int .u64 0) := (hbl.cell (p := ⟨w.heap.size + 1, 29, none⟩) s1).trans (by rw [r1.cell (by omega)]; simp)
      have f28 : w1.frozen? ⟨w.heap.size + 1, 28, none⟩ = false := (hbl.frozen (p := ⟨w.heap.size + 1, 28, none⟩) s1).trans (r1.frozen 28)
      have f29 : w1.frozen? ⟨w.heap.size + 1, 29, none⟩ = false := (hbl.frozen (p := ⟨w.heap.size + 1, 29, none⟩) s1).trans (r1.frozen 29)
      have HB := Lib.hid hbl
      clear hbl r1 c0 c2
      rcases hpp.2 with ⟨hok, sv, rfl, ho, hg⟩ | ⟨hbad, rfl⟩
      · obtain ⟨sa, sc, hsv⟩ := ho.slice
        subst hsv
        have HOK := Lib.hid hok; have HS := Lib.hid (And.intro ho hg)
        clear hok ho hg hpp
        go_wp2_with fail
        have hcont := read_cont HM.out HB.out HS.out.1 HS.out.2 HOK.out rfl HX.out rfl
        have hv := valid_any hcont (D.n * 64) HW.out
        rw [show ((D.n * 64 : Nat) : Int) = (D.n : Int) * 64 from by omega] at hv
        have HC := Lib.hid hcont; clear hcont
        (with_reducible refine hv.mono ?_)
        rintro e w2 ⟨b, rfl, hb, hq⟩
        have HF := Lib.hid (read_end HM.out HB.out hq rfl)
        have HC2 := Lib.hid (HC.out.qt hq)
        have HVB := Lib.hid hb
        clear hv hq hb
        cases b
        · go_wp2_with fail
          go_ret2
          refine ⟨HF.out, .inr ⟨?_, rfl⟩⟩
          simp only [Nat.add_zero]
          rw [HX.out, Int.toNat_natCast]; exact fun h => Bool.false_ne_true (HVB.out.2 h.2)
        · go_wp2_with fail
          go_ret2
          refine ⟨HF.out, .inl ?_⟩
          simp only [Nat.add_zero]
          rw [HX.out, Int.toNat_natCast]
          exact ⟨⟨HOK.out, HVB.out.1 trivial⟩, _, rfl, Nat.le_succ _, HC2.out⟩
      · have HN : Hid (¬ (parseOk (D.cur (ptrOff p / 8)).toNat ∧ validC (fun i => D.cur (ptrOff p / 8 + i)) (slotsN (D.cur (ptrOff p / 8)).toNat ((D.cur (ptrOff p / 8)).toNat % 16)) (D.n * 64))) := by
          show ¬ _
          rw [HX.out, Int.toNat_natCast]; exact fun h => hbad h.1
        clear hbad hpp
        go_wp2_with fail
        go_ret2
        exact ⟨read_end HM.out HB.out (Qt.refl _) rfl, .inr ⟨HN.out, rfl⟩⟩
end
end Go.Proofs.Ytkoijmoendepgaa
