/- The iterator of a bucket's entries, and the law's pairs. -/
import Derived.Test.YtpkilmnppdbnkaaBkF
import Derived.RangeFuncNested
import Derived.RangeFuncBound
import Derived.RangeFuncCalls
import Derived.RangeFuncLeaves
import Derived.RangeFuncBox
import Derived.Shelf.Abstract
import Derived.OwnWalkIn
import Derived.TacticsInMore
import Derived.LoopNIn
import Derived.LoopIn
import Derived.Maps.AppendAt
namespace Go.Proofs.Ytpkilmnppdbnkaa
open Go.RowKit Go.Shelf
attribute [local go_sem] Oper.semAt_some

/-- What a round must keep: the blocks below B, and every block of cells but those of pairs and of the variable that collects them. -/
def KpB (B : Nat) (W W' : World) : Prop := W.heap.size ≤ W'.heap.size ∧ (∀ k, k < B → W'.heap[k]? = W.heap[k]?) ∧ ∀ (k : Nat) (c : Array Value) (t : TypeId) (f : Nat × Nat), W.heap[k]? = some (.cells c t f) → t ≠ 86 → t ≠ 52 → W'.heap[k]? = some (.cells c t f)
theorem KpB.trans {B : Nat} {W0 W1 W2 : World} (h : KpB B W0 W1) (k : KpB B W1 W2) : KpB B W0 W2 := ⟨Nat.le_trans h.1 k.1, fun i hi => (k.2.1 i hi).trans (h.2.1 i hi), fun i c t f hi h1 h2 => k.2.2 i c t f (h.2.2 i c t f hi h1 h2) h1 h2⟩
theorem kpB_b {w : World} (W : World) (l : Nat) (o o' : Obj) (hl : w.heap.size ≤ l) (h : W.heap[l]? = some o) (hc : o.isCells = false) (_ : o.isWalk = false) : KpB w.heap.size W (W.putObj l o') := by
  have hg := grownBy_putObj' W l o'
  have hlt := lt_of_block h
  refine ⟨hg.size, fun k hk => hg.block k (by omega) (fun e => by cases e; omega), fun k c t f hk _ _ => ?_⟩
  rw [hg.block k (lt_of_block hk) (fun e => ?_)]
  · exact hk
  · cases e; rw [h] at hk; cases hk; cases hc
theorem KpB.blk {B : Nat} {W W' : World} (h : KpB B W W') {b : Nat} {c : Array Value} {t : TypeId} (hb : Blk W b c t) (h1 : t ≠ 86) (h2 : t ≠ 52) : Blk W' b c t := h.2.2 b c t _ hb h1 h2
theorem kpB_append {W w1 : World} {B base : Nat} {v v' : Value} {k : Nat} {xs : List Value} {tmp : Array Value} (hv : Boxed W B 52 v) (hrow : W.ownsRow base 86 2 v k xs) (hBb : base ≤ B) (hbs : base ≤ W.heap.size) (hg : (W.alloc (.cells tmp 86)).grownBy w1 v.ownBlock) :
    KpB base W (w1.setCell ⟨B, 0, none⟩ v') := by
  refine ⟨Nat.le_trans (by simp) (Nat.le_trans hg.size (by simp [World.setCell])), fun j hj => ?_, fun j c t f hj h1 h2 => ?_⟩
  · rw [Below.heap_setCell _ _ _ _ (show j ≠ B by omega), hg.block j (by simp; omega) (fun e => ?_)]
    · exact Below.heap_alloc _ _ _ (by omega)
    · rcases hrow.2 with ⟨rfl, _⟩ | ⟨g, cap, cur, rfl, hge, _⟩
      · simp [Value.ownBlock] at e
      · obtain rfl : j = g := by simpa [Value.ownBlock] using e
        omega
  · have hlt := lt_of_block hj
    rw [Below.heap_setCell _ _ _ _ (fun e => ?_)]
    · rw [hg.block j (by simp; omega) (fun e => ?_)]
      · exact (Below.heap_alloc _ _ _ hlt).trans hj
      · rcases hrow.2 with ⟨rfl, _⟩ | ⟨g, cap, cur, rfl, _, hgb, _⟩
        · simp [Value.ownBlock] at e
        · obtain rfl : j = g := by simpa [Value.ownBlock] using e
          rw [hgb] at hj; cases hj; exact h1 rfl
    · have e' : j = B := e
      subst e'
      have := (show W.heap[j]? = _ from hv).symm.trans hj
      cases this; exact h2 rfl
abbrev encP (x : Int × Int) : Array Value := #[.int .u64 x.1, .int .u64 x.2]
theorem grownBy_below31 {W W' : World} (h : Below W.heap.size W W') : W.grownBy W' none := ⟨h.os, h.tape, h.output, h.size, fun k hk _ => h.block k hk⟩
theorem abides_below31 {β : Type} {B : Nat} {J : β → World → Prop} (hJ : AbidesFrom B J) {s : β} {W W' : World} (h : J s W) (hb : Below W.heap.size W W') : J s W' := hJ s W W' none h (grownBy_below31 hb) (fun r e => by cases e)
theorem entB_pre (C : Nat → Int) (off : Nat) : ∀ k, k ≤ 7 → entB C off k <+: entB C off 7 := by
  have : ∀ d k, k + d = 7 → entB C off k <+: entB C off 7 := by
    intro d
    induction d with
    | zero => intro k hk; obtain rfl : k = 7 := by omega
              exact List.prefix_refl _
    | succ d ih =>
      intro k hk
      have := ih (k + 1) (by omega)
      rw [entB_succ] at this
      exact (List.prefix_append _ _).trans this
  intro k hk
  exact this (7 - k) k (by omega)
/-- What the iterator walks over: the box, the device, what the caller keeps. -/
structure AllAt (bl : Nat) (v : DV) (own : Nat → Option Role) (D : Dev) (off : Nat) (J : World → Prop) (wx : World) : Prop where
  box : Blk wx bl #[.iface 56 (.pointer (some ⟨v.tb 0, 0, none⟩)), .int .u64 off] 29
  dev : IsDev wx v own D
  j : J wx
section
variable {W : World} {v : DV} {own : Nat → Option Role} {D : Dev} {off : Nat}
theorem AllAt.below {bl : Nat} {B : Nat} {J : List (Int × Int) → World → Prop} {pre : List (Int × Int)} {wx wy : World} (hJ : AbidesFrom B J) (h : AllAt bl v own D off (J pre) wx) (hb : Below wx.heap.size wx wy) : AllAt bl v own D off (J pre) wy :=
  ⟨h.box.below hb, h.dev.below hb, abides_below31 hJ h.j hb⟩
set_option maxRecDepth 100000 in
set_option maxHeartbeats 4000000 in
theorem all31_in (n : Nat) (hn : 1 ≤ n) (l bl : Nat) (J Jx : List (Int × Int) → World → Prop) (B : Nat) (hJ : AbidesFrom W.heap.size J) (hd : IsDev W v own D) (hob : ∀ k, own k ≠ none → k < B) (hb : BOk D off)
    (hY : ∀ pre x W1, J pre W1 → pre.length < (entB D.cur off 7).length → YieldAt Fence.wide (n - 1) Try.prog l (encP x) W1 fun e W' => (e = .returned (.bool true) ∧ J (pre ++ [x]) W' ∧ KpB B W1 W') ∨ (e = .returned (.bool false) ∧ Jx (pre ++ [x]) W'))
    (hbl : Blk W bl #[.iface 56 (.pointer (some ⟨v.tb 0, 0, none⟩)), .int .u64 off] 29) (h0 : J [] W) :
    CallsIn Fence.wide n Try.prog 83 (#[.func (.yield l) #[] #[]] ++ #[.pointer (some ⟨bl, 0, none⟩)]) W fun e W' => (∃ v, e = .returned v) ∧ ((∃ xs, xs = entB D.cur off 7 ∧ J xs W') ∨ (∃ pre, pre <+: entB D.cur off 7 ∧ Jx pre W')) := by
  have hm1 := meth_Load ⟨v.tb 0, 0, none⟩; have hn1 := nilB_Load ⟨v.tb 0, 0, none⟩; have hm2 := meth_Err ⟨v.tb 0, 0, none⟩
  have hl := hb.hl; have hln := hd.wf.le
  have HCK := Lib.hid (fun wx (hx : IsDev wx v own D) => hb.check hx)
  have HLH := Lib.hid (fun wx (hx : IsDev wx v own D) => hb.loadH hx)
  have HER := Lib.hid (fun wx (hx : IsDev wx v own D) => hb.err hx)
  have HUS := Lib.hid (fun (wx : World) (s : Nat) (hs : s < 7) => hb.used (w := wx) s hs)
  have HKA := Lib.hid (fun (wx : World) (s : Nat) (hs : s < 7) => keyAt_any (w := wx) (v := v) off s hs (by omega))
  have HLV := Lib.hid (fun wx (hx : IsDev wx v own D) (s : Nat) (hs : s < 7) => hb.loadV hx s hs)
  have HLK := Lib.hid (fun (wx : World) (hx : IsDev wx v own D) (s : Nat) (hs : s < 7) => (show Calls Try.prog 53 #[.pointer (some ⟨v.tb 0, 0, none⟩), .int .u64 (bkKey off s : Nat)] wx fun r w' => r = .returned (.int .u64 (bkK D.cur off s)) ∧ wx = w' from by
    have h8 := hb.h8
    have := load_ok hx (j := 0) (by omega) (bkKey off s) hb.of (by unfold bkKey; omega) (by unfold bkKey; omega)
    rw [show bkKey off s / 8 = off / 8 + 2 + 2 * s by unfold bkKey; omega] at this
    exact this))
  have HKW : Hid (∀ s, s < 7 → bkKey off s + 8 < 18446744073709551616) := fun s hs => by unfold bkKey; omega
  have HS := Lib.hid (fun s => entB_succ D.cur off s)
  have HSE : Hid (∀ s, slotE D.cur off s = if usedB (bkH D.cur off) s then [(bkK D.cur off s, bkV D.cur off s)] else []) := fun s => rfl
  have HPR := Lib.hid (entB_pre D.cur off)
  have HJ := Lib.hid hJ; have HY := Lib.hid hY; have HO := Lib.hid hob
  have A0 : Hid (AllAt bl v own D off (J []) W) := ⟨hbl, hd, h0⟩
  have HE0 : Hid (entB D.cur off 0 = []) := rfl
  generalize entB D.cur off = es at *
  generalize bkH D.cur off = hdr at *
  generalize bkK D.cur off = kk at *
  generalize bkV D.cur off = vv at *
  clear hJ hY hob hd hb hbl h0
  refine callsIn_of_wp Try.func83 rfl trivial ?_ rfl
  simp only [Try.ntmps83, List.size_toArray, List.length_cons, List.length_nil, Nat.reduceAdd, Nat.reduceSub, Array.replicate_succ, Array.replicate_zero, List.push_toArray, List.append_toArray, List.nil_append, List.cons_append]
  gi_wp2
  gi_loopw [6] (fun i wr => ∃ s : Nat, s ≤ 7 ∧ i = .int .i64 s ∧ AllAt bl v own D off (J (es s)) wr) (fun i _ => 7 - (intOf i).toNat)
  case atStart => exact ⟨0, by omega, rfl, by rw [HE0.out]; exact A0.out⟩
  case round =>
    obtain ⟨s, hs, rfl, ha⟩ := hrel
    have A1 := Lib.hid ha
    have c0 := A1.out.box.cell (i := 0) (v := .iface 56 (.pointer (some ⟨v.tb 0, 0, none⟩))) rfl
    have c1 := A1.out.box.cell (i := 1) (v := .int .u64 off) rfl
    clear ha A0
    by_cases hlt : s < 7
    · have hs1 : (s : Int) < 7 := by omega
      gi_wp2
      refine ⟨trivial, ?_⟩
      (with_reducible refine (callsIn_wide.2 (HCK.out _ A1.out.dev)).mono ?_)
      rintro r w1 ⟨rfl, b1⟩
      have A2 := Lib.hid (A1.out.below HJ.out b1)
      clear b1 c0 c1 A1
      have c0 := A2.out.box.cell (i := 0) (v := .iface 56 (.pointer (some ⟨v.tb 0, 0, none⟩))) rfl
      have c1 := A2.out.box.cell (i := 1) (v := .int .u64 off) rfl
      gi_wp2
      refine ⟨trivial, ?_⟩
      (with_reducible refine (callsIn_wide.2 (HLH.out _ A2.out.dev)).mono ?_)
      rintro r w' ⟨rfl, rfl⟩
      have HU1 := Lib.hid (HUS.out w1 s hlt)
      have hse := HSE.out s
      have hsu := HS.out s
      obtain ⟨ub, hub⟩ : ∃ b, usedB hdr s = b := ⟨_, rfl⟩
      rw [hub] at HU1 hse
      gi_wp2
      refine ⟨trivial, ?_⟩
      (with_reducible refine (callsIn_wide.2 HU1.out).mono ?_)
      rintro r w' ⟨rfl, rfl⟩
      cases ub
      · rw [hse] at hsu
        simp only [Bool.false_eq_true, if_false, List.append_nil] at hsu
        have HSU := Lib.hid hsu
        clear hsu hse hub HU1
        gi_wp2
        go_roundw
        case rel => exact ⟨s + 1, by omega, by go_num, by rw [HSU.out]; exact A2.out⟩
        case measure => simp [intOf]; omega
      · rw [hse] at hsu
        simp only [if_true] at hsu
        have HSU := Lib.hid hsu
        have hlen : (es s).length < (es 7).length := by
          have := (HPR.out (s + 1) (by omega)).length_le
          rw [hsu, List.length_append] at this
          simp at this
          omega
        have HYY := Lib.hid (fun wx hx => HY.out (es s) (kk s, vv s) wx hx hlen)
        have HKA1 := Lib.hid (fun wx => HKA.out wx s hlt)
        have HLV1 := Lib.hid (fun wx hx => HLV.out wx hx s hlt)
        have HLK1 := Lib.hid (fun wx hx => HLK.out wx hx s hlt)
        have hkw := HKW.out s hlt
        have hkw2 : IntKind.u64.wrap ((bkKey off s : Nat) + 8 : Int) = (bkKey off s : Nat) + 8 := IntWalk.u64_in _ (by omega)
        generalize bkKey off s = bk at *
        clear hsu hse hub HU1 hlen HKA HLV HLK HUS HSE HS HKW c0 c1
        gi_wp2
        refine wpIn_wide.2 ?_
        have A4 := Lib.hid (A2.out.below HJ.out ((Below.refl _ _).drew))
        clear A2
        refine wp_region_held (S := (fun wx => AllAt bl v own D off (J (es s)) wx)) (by kernel_rfl) ?_
        change wpAnyH _ _ _ _ _ _ _ _ (World.drew _)
        refine wpAnyH_take (i := 0) (v := .pointer (some ⟨bl, 0, none⟩)) rfl (by kernel_rfl) (by kernel_rfl) (by kernel_rfl) (fun _ _ _ h => h) (Or.inl ⟨by kernel_rfl, fun w _ => by go_simp⟩) A4.out ?_
        refine wpAnyH_take (i := 3) (v := .int .i64 s) rfl (by kernel_rfl) (by kernel_rfl) (by kernel_rfl) (fun _ _ _ h => h) (Or.inl ⟨by kernel_rfl, fun w _ => by go_simp⟩) A4.out ?_
        refine wpAnyH_take (i := 8) (v := .pointer (some ⟨bl, 0, none⟩)) rfl (by kernel_rfl) (by kernel_rfl) (by kernel_rfl) (fun _ _ _ h => h) (Or.inl ⟨by kernel_rfl, fun w _ => by go_simp⟩) A4.out ?_
        refine wpAnyH_take (i := 11) (v := .int .i64 s) rfl (by kernel_rfl) (by kernel_rfl) (by kernel_rfl) (fun _ _ _ h => h) (Or.inl ⟨by kernel_rfl, fun w _ => by go_simp⟩) A4.out ?_
        refine wpAnyH_take (i := 1) (v := .iface 56 (.pointer (some ⟨v.tb 0, 0, none⟩))) rfl (by kernel_rfl) (by kernel_rfl) (by kernel_rfl) (fun _ _ _ h => h) (Or.inl ⟨by kernel_rfl, fun wx hx => exec_load_cell 26 (.tmp 20) rfl ⟨bl, 0, none⟩ rfl _ (hx.box.cell (i := 0) (v := .iface 56 (.pointer (some ⟨v.tb 0, 0, none⟩))) rfl) (aggMem _)⟩) A4.out ?_
        refine wpAnyH_take (i := 2) (v := .agg #[.iface 56 (.pointer (some ⟨v.tb 0, 0, none⟩)), .int .u64 off]) rfl (by kernel_rfl) (by kernel_rfl) (by kernel_rfl) (fun _ _ _ h => h) (Or.inl ⟨by kernel_rfl, fun wx hx => exec_load_row 29 (.tmp 1) rfl bl rfl 29 #[.iface 56 (.pointer (some ⟨v.tb 0, 0, none⟩)), .int .u64 off] (0, 0) _ hx.box Try.underlying29 rfl infoBk⟩) A4.out ?_
        refine wpAnyH_take (i := 9) (v := .iface 56 (.pointer (some ⟨v.tb 0, 0, none⟩))) rfl (by kernel_rfl) (by kernel_rfl) (by kernel_rfl) (fun _ _ _ h => h) (Or.inl ⟨by kernel_rfl, fun wx hx => exec_load_cell 26 (.tmp 28) rfl ⟨bl, 0, none⟩ rfl _ (hx.box.cell (i := 0) (v := .iface 56 (.pointer (some ⟨v.tb 0, 0, none⟩))) rfl) (aggMem _)⟩) A4.out ?_
        refine wpAnyH_take (i := 10) (v := .agg #[.iface 56 (.pointer (some ⟨v.tb 0, 0, none⟩)), .int .u64 off]) rfl (by kernel_rfl) (by kernel_rfl) (by kernel_rfl) (fun _ _ _ h => h) (Or.inl ⟨by kernel_rfl, fun wx hx => exec_load_row 29 (.tmp 1) rfl bl rfl 29 #[.iface 56 (.pointer (some ⟨v.tb 0, 0, none⟩)), .int .u64 off] (0, 0) _ hx.box Try.underlying29 rfl infoBk⟩) A4.out ?_
        refine wpAnyH_take (i := 5) (v := .iface 56 (.pointer (some ⟨v.tb 0, 0, none⟩))) rfl (by kernel_rfl) (by kernel_rfl) (by kernel_rfl) (fun _ _ _ h => h) (Or.inl ⟨by kernel_rfl, fun w _ => by go_simp⟩) A4.out ?_
        refine wpAnyH_take (i := 6) (v := .iface 56 (.pointer (some ⟨v.tb 0, 0, none⟩))) rfl (by kernel_rfl) (by kernel_rfl) (by kernel_rfl) (fun _ _ _ h => h) (Or.inl ⟨by kernel_rfl, fun w _ => by go_simp⟩) A4.out ?_
        refine wpAnyH_take (i := 14) (v := .iface 56 (.pointer (some ⟨v.tb 0, 0, none⟩))) rfl (by kernel_rfl) (by kernel_rfl) (by kernel_rfl) (fun _ _ _ h => h) (Or.inl ⟨by kernel_rfl, fun w _ => by go_simp⟩) A4.out ?_
        refine wpAnyH_take (i := 15) (v := .iface 56 (.pointer (some ⟨v.tb 0, 0, none⟩))) rfl (by kernel_rfl) (by kernel_rfl) (by kernel_rfl) (fun _ _ _ h => h) (Or.inl ⟨by kernel_rfl, fun w _ => by go_simp⟩) A4.out ?_
        refine wpAnyH_one (i := 4) (by kernel_rfl) rfl rfl (fun K hK => ?_)
        go_simp
        (with_reducible refine (HKA1.out _).mono ?_)
        rintro e w6 ⟨rfl, b6⟩
        have A6 := Lib.hid (A4.out.below HJ.out b6)
        clear b6
        go_simp
        refine hK _ _ ⟨A6.out, ?_⟩
        clear hK K
        refine wpAnyH_one (i := 7) (by kernel_rfl) rfl rfl (fun K hK => ?_)
        go_simp
        (with_reducible refine (HLK1.out _ A6.out.dev).mono ?_)
        rintro e w7 ⟨rfl, rfl⟩
        go_simp
        refine hK _ _ ⟨A6.out, ?_⟩
        clear hK K
        refine wpAnyH_one (i := 12) (by kernel_rfl) rfl rfl (fun K hK => ?_)
        go_simp
        (with_reducible refine (HKA1.out _).mono ?_)
        rintro e w8 ⟨rfl, b8⟩
        have A8 := Lib.hid (A6.out.below HJ.out b8)
        clear b8
        go_simp
        refine hK _ _ ⟨A8.out, ?_⟩
        clear hK K
        refine wpAnyH_one (i := 13) (by kernel_rfl) rfl rfl (fun K hK => ?_)
        go_simp
        refine hK _ _ ⟨A8.out, ?_⟩
        clear hK K
        refine wpAnyH_one (i := 16) (by kernel_rfl) rfl rfl (fun K hK => ?_)
        go_simp
        (with_reducible refine (HLV1.out _ A8.out.dev).mono ?_)
        rintro e w9 ⟨rfl, rfl⟩
        go_simp
        refine hK _ _ ⟨A8.out, ?_⟩
        clear hK K
        refine wpAnyH_one (i := 17) (by kernel_rfl) rfl rfl (fun K hK => ?_)
        go_simp
        refine hK _ _ ⟨A8.out, ?_⟩
        clear hK K
        refine wpAnyH_one (i := 18) (by kernel_rfl) rfl rfl (fun K hK => ?_)
        go_simp
        refine hK _ _ ⟨A8.out, ?_⟩
        clear hK K
        refine wpAnyH_done (by kernel_rfl) ?_ _
        clear A4 A6
        have c0 := A8.out.box.cell (i := 0) (v := .iface 56 (.pointer (some ⟨v.tb 0, 0, none⟩))) rfl
        gi_wp2
        refine ⟨trivial, ?_⟩
        (with_reducible refine (callsIn_wide.2 (HER.out _ A8.out.dev)).mono ?_)
        rintro r w' ⟨rfl, rfl⟩
        obtain ⟨fn, tmps, assign, body, hy, hR⟩ := HYY.out _ A8.out.j
        have HRR := Lib.hid hR
        dsimp only [encP] at hy
        clear hR
        gi_wp2
        refine HRR.out.mono ?_
        rintro e W3 (⟨rfl, hJ3, hk3⟩ | ⟨rfl, hJx3⟩)
        · have A9 : Hid (AllAt bl v own D off (J (es (s + 1))) W3) := ⟨hk3.blk A8.out.box (by decide) (by decide), A8.out.dev.kept hk3.1 (fun k hk => hk3.2.1 k (HO.out k hk)), by rw [HSU.out]; exact hJ3⟩
          clear hk3 hJ3 HRR hy c0
          gi_wp2
          go_roundw
          case rel => exact ⟨s + 1, by omega, by go_num, A9.out⟩
          case measure => simp [intOf]; omega
        · have H6 := Lib.hid hJx3
          clear hJx3 HRR hy c0
          gi_wp2
          refine bodyPost_ret (results_none rfl _ _ _) rfl ?_
          exact ⟨⟨_, rfl⟩, .inr ⟨_, by rw [← HSU.out]; exact HPR.out (s + 1) (by omega), H6.out⟩⟩
    · obtain rfl : s = 7 := by omega
      gi_wp2
      go_end0
      exact ⟨⟨_, rfl⟩, .inl ⟨_, rfl, A1.out.j⟩⟩
end
end Go.Proofs.Ytpkilmnppdbnkaa
