/- The laws' put, to the instruction: what it leaves of the device. -/
import Derived.Test.YtkoijmoendepgaaGreatJ5
import Derived.Test.YtkoijmoendepgaaGreatJ7
import Derived.Test.YtkoijmoendepgaaGreatJ8
import Derived.Test.YtkoijmoendepgaaGreatJ6
import Derived.Deep.RegionHeld3
import Derived.Test.YtkoijmoendepgaaGreatJ2
import Derived.Laws.Bits64b
import Derived.Test.YtkoijmoendepgaaGreatJ3
import Derived.Test.YtkoijmoendepgaaGreatJ4
namespace Go.Proofs.YtkoijmoendepgaaGreat
open Go.RowKit

section
variable {w : World} {v : DV} {own : Nat → Option Role} {D : Dev}
theorem altP_len (off : Nat) (l : List Int) : ∀ k, (altP off l k).length = 2 * k := by
  intro k
  induction k with
  | zero => rfl
  | succ k ih => rw [altP_succ, List.length_append, ih]; simp; omega
set_option maxRecDepth 100000 in
set_option maxHeartbeats 2000000 in
theorem put_run (h : IsDev w v own D) (off : Nat) (sv : Value) (l : List Int) (hb : off + 8 * l.length ≤ 262144) (hx : D.exec + 2 * l.length < 4294967295)
    (hs : RdSl w 1 sv l.length (intsV l)) (hown : ∀ k, sv.ownBlock = some k → own k = none) :
    Calls Tryz.prog 11 #[.pointer (some ⟨v.db, 0, none⟩), .int .u64 off, sv] w fun r w' => r = .returned (.tuple #[]) ∧ DPost v own w (D.run 0 (altP off l l.length ++ [(3, 0, 0)])) w' := by
  have hn := h.wf.le
  have hll : l.length ≤ 32768 := by omega
  obtain ⟨_, a, c, rfl, hc, ha⟩ := hs
  have hT := thread_any h (j := 0) (by omega)
  rw [show ((0 : Nat) : Int) = 0 from rfl] at hT
  have HT := Lib.hid hT; clear hT
  have HM : Hid (DPost v own w (D.run 0 (altP off l 0)) w) := Lib.hid (DPost.refl h)
  go_enter Tryz.func11, Tryz.ntmps11
  go_wp2_with (go_at_call 34; (with_reducible refine HT.out.mono ?_); rintro e w' ⟨rfl, rfl⟩)
  have HA := Lib.hid ha; have HOWN := Lib.hid hown; clear ha hown HT
  go_loopw [13] (fun i wr => ∃ k : Nat, k ≤ l.length ∧ i = .int .i64 k ∧ DPost v own w (D.run 0 (altP off l k)) wr) (fun i _ => l.length - (intOf i).toNat)
  case atStart => exact ⟨0, Nat.zero_le _, rfl, HM.out⟩
  case round =>
    obtain ⟨k, hk, rfl, own1, d1, o1, u1⟩ := hrel
    have hex0 := D.run_exec 0 (altP off l k)
    rw [altP_len] at hex0
    have U := Lib.hid (And.intro o1 u1); clear o1 u1
    by_cases hlt : k < l.length
    · obtain ⟨y, hy⟩ : ∃ y, l[k]? = some y := ⟨_, List.getElem?_eq_getElem hlt⟩
      have hyv : (intsV l)[k]? = some (.int .u64 y) := by simp [intsV, hy]
      obtain ⟨sb, so, rfl, hcl⟩ := rd_at HA.out hyv
      have e1 : wr.cell? ⟨sb, so + k, none⟩ = some (.int .u64 y) := by
        have hlt' := World.block_lt_of_cell? w _ (hcl _ _ hyv)
        exact (World.cell?_of_block (U.out.2.block sb hlt' (by simp [HOWN.out sb rfl]))).trans (hcl _ _ hyv)
      have HY := Lib.hid hy
      have hS := store_any d1 (j := 0) (by omega) (off + 8 * k) y (by omega)
      have hcast : ((off + 8 * k : Nat) : Int) = (off : Int) + 8 * (k : Int) := by omega
      rw [hcast] at hS
      have HS := Lib.hid hS; have HC := Lib.hid hcast; clear hcast
      clear hcl hyv hy d1 hS
      go_wp2_with fail
      (with_reducible refine HS.out.mono ?_)
      rintro e w2 ⟨rfl, own2, d2, o2, u2⟩
      have U2 := Lib.hid (And.intro o2 u2); clear o2 u2 HS
      have hex2 := (D.run 0 (altP off l k)).step_exec 0 (1, off + 8 * k, y)
      have hF := flush_any d2 (j := 0) (by omega) (off + 8 * k) (by omega) (by have h3 : ((D.run 0 (altP off l k)).store 0 (off + 8 * k) y).exec ≤ (D.run 0 (altP off l k)).exec + 1 := hex2; omega)
      rw [HC.out] at hF
      have HF := Lib.hid hF; clear hF
      clear d2 hex2
      go_wp2_with fail
      (with_reducible refine HF.out.mono ?_)
      rintro e w3 ⟨rfl, hp3⟩
      have H3 := Lib.hid hp3
      clear hp3 HF
      go_wp2_with fail
      go_roundw
      case rel =>
        refine ⟨k + 1, by omega, by go_num, ?_⟩
        have e : D.run 0 (altP off l (k + 1)) = ((D.run 0 (altP off l k)).store 0 (off + 8 * k) y).flush 0 (off + 8 * k) := by
          rw [altP_succ, Dev.run_append]
          have : l.getD k 0 = y := by simp only [List.getD, HY.out, Option.getD_some]
          rw [this]; rfl
        rw [e]
        exact DPost.next U.out.1 U.out.2 (DPost.next U2.out.1 U2.out.2 H3.out)
      case measure => simp [intOf]; omega
    · have hkl : k = l.length := by omega
      have HF := Lib.hid (fence_any d1 (j := 0) (by omega) (by omega))
      clear d1
      go_wp2_with fail
      (with_reducible refine HF.out.mono ?_)
      rintro e w3 ⟨rfl, hp3⟩
      have H3 := Lib.hid hp3
      clear hp3 HF
      go_wp2_with fail
      go_end0
      refine ⟨rfl, ?_⟩
      rw [Dev.run_snoc, ← hkl]
      exact DPost.next U.out.1 U.out.2 H3.out
end
end Go.Proofs.YtkoijmoendepgaaGreat

/- made, to the instruction. -/
namespace Go.Proofs.YtkoijmoendepgaaGreat
open Go.RowKit
attribute [local go_sem ↓] Go.wp_at_zero Go.wp_at_succ

section
variable {w w0 : World} {v : DV} {own : Nat → Option Role} {D : Dev} {x : Nat} {C : Nat → Int} {b : Nat} {n : NodeP} {ka sa va : Option Addr} {kc sc vc : Nat} {wc w1 : World}
/-- The device with the node put on it. -/
def putD (D : Dev) (n : NodeP) : Dev := D.run 0 (altP (nodeOff n) (nList n) (nList n).length ++ [(3, 0, 0)])
theorem altP_ok (off : Nat) (l : List Int) (m : Nat) (h8 : off % 8 = 0) (hb : off + 8 * l.length ≤ 64 * m) : ∀ k, k ≤ l.length → progOk m (altP off l k) := by
  intro k
  induction k with
  | zero => intro _ e he; simp [altP] at he
  | succ k ih =>
    intro hk e he
    rw [altP_succ] at he
    rcases List.mem_append.1 he with he | he
    · exact ih (by omega) e he
    · simp at he
      rcases he with rfl | rfl
      · exact .inl ⟨rfl, by simp only; omega, by simp only; omega⟩
      · exact .inr (.inl ⟨rfl, by simp only; omega⟩)
theorem runC_alt (C : Nat → Int) (off : Nat) (l : List Int) (h8 : off % 8 = 0) : ∀ k i, runC C (altP off l k) i = if off / 8 ≤ i ∧ i < off / 8 + k then l.getD (i - off / 8) 0 else C i := by
  intro k
  induction k with
  | zero => intro i; rw [if_neg (by omega)]; rfl
  | succ k ih =>
    intro i
    rw [altP_succ, runC_append]
    show (if i = (off + 8 * k) / 8 then l.getD k 0 else runC C (altP off l k) i) = _
    rw [ih]
    have e : (off + 8 * k) / 8 = off / 8 + k := by omega
    rw [e]
    by_cases h : i = off / 8 + k
    · rw [if_pos h, if_pos (by omega), show i - off / 8 = k by omega]
    · rw [if_neg h]
      by_cases h2 : off / 8 ≤ i ∧ i < off / 8 + k
      · rw [if_pos h2, if_pos (by omega)]
      · rw [if_neg h2, if_neg (by omega)]
theorem alt_live (h : Live D 12 x C) (off : Nat) (l : List Int) (h8 : off % 8 = 0) (hb : off + 8 * l.length ≤ 768) : Live (D.run 0 (altP off l l.length ++ [(3, 0, 0)])) 12 (x + (2 * l.length + 1)) (laid C (off / 8) l) := by
  have hok : progOk 12 (altP off l l.length ++ [(3, 0, 0)]) := progOk_append (altP_ok _ _ 12 h8 (by omega) _ (Nat.le_refl _)) (fun e he => by simp at he; subst he; exact .inr (.inr ⟨rfl, rfl⟩))
  have hlen : (altP off l l.length ++ [((3, 0, 0) : Nat × Nat × Int)]).length = 2 * l.length + 1 := by rw [List.length_append, altP_len]; rfl
  refine (h.run 0 _ hok).congr (by rw [hlen]; exact Nat.le_refl _) (fun i => ?_)
  rw [runC_append]
  have e : runC (runC C (altP off l l.length)) [(3, 0, 0)] i = runC C (altP off l l.length) i := rfl
  rw [e, runC_alt _ _ _ h8]
  unfold laid; rfl
theorem putD_live (h : Live D 12 x C) (n : NodeP) : Live (putD D n) 12 (x + 57) (withNode C (nodeOff n) n) := by
  have hno := nodeOff_le n
  have hl : (nList n).length = 28 := by simp [nList]
  have := alt_live h (nodeOff n) (nList n) hno.2.2 (by rw [hl]; omega)
  unfold putD withNode
  generalize nList n = L at *
  rw [hl] at this ⊢
  exact this
theorem MadeSt.putR (h : MadeSt w w0 v own D x C b n ka sa va kc sc vc wc) (hx : x < 1000) {g : Nat} {w2 : World} (hr : Row w2 g 28 28 (fun i => .int .u64 (nWords n i))) (hg : wc.heap.size ≤ g) (hb : Below wc.heap.size wc w2) :
    Calls Tryz.prog 11 #[.pointer (some ⟨v.db, 0, none⟩), .int .u64 (nodeOff n : Nat), .slice (some ⟨g, 0, none⟩) 28 28] w2 fun r w' => r = .returned (.tuple #[]) ∧ ∃ own', MadeSt w w0 v own' (putD D n) (x + 57) (withNode C (nodeOff n) n) b n ka sa va kc sc vc w' := by
  have h2 := h.next hb
  have hno := nodeOff_le n
  have hl : (nList n).length = 28 := by simp [nList]
  have hex := h2.live.exec
  refine (put_run h2.dev (nodeOff n) (.slice (some ⟨g, 0, none⟩) 28 28) (nList n) (by rw [hl]; omega) (by rw [hl]; omega) (row_list n hr) (fun k hk => ?_)).mono ?_
  · simp [Value.ownBlock] at hk; subst hk
    rcases ho : own g with _ | r
    · rfl
    · have := h.dev.lt g (by simp [ho]); omega
  · rintro r w' ⟨h1, own', d, o, u⟩
    obtain ⟨own2, d2, o2, b2⟩ := DPost.from (B := w0.heap.size) ⟨own', d, o, u⟩ h2.ob h2.bel.size
    refine ⟨h1, own', ⟨⟨d, fun k hk => ?_, h2.bel.trans b2⟩, putD_live h2.live n⟩, ?_, ?_, h.lt, h.b0⟩
    · rcases Nat.lt_or_ge k w2.heap.size with hlt | hge
      · rw [o k hlt] at hk; exact h2.ob k hk
      · have := h2.bel.size; omega
    · refine h2.box.upd u (fun hk => ?_)
      have := h2.ob b hk; have := h.lt; omega
    · refine h2.res.upd u (fun hk => ?_)
      have := h2.ob (b + 1) hk; have := h.lt; omega
/-- What made leaves: a device with the node, and the leaf. -/
def MadeR (w : World) (n : NodeP) (r : Ending) (w' : World) : Prop := ∃ v own D, r = .returned (.tuple #[.pointer (some ⟨v.db, 0, none⟩), .agg #[.iface 76 (.pointer (some ⟨v.tb 0, 0, none⟩)), .int .u64 (ptrN (nodeOff n) : Nat)]]) ∧ LiveSt w v own D 57 (withNode (fun _ => 0) (nodeOff n) n) w' ∧ D = putD (Dev.fresh 12 fun _ => 0) n

set_option maxRecDepth 100000 in
set_option maxHeartbeats 4000000 in
theorem madeR_any (h : NodeIn w n ka sa va kc sc vc) : Calls Tryz.prog 9 #[.agg (nodeAgg n ka sa va kc sc vc)] w (MadeR w n) := by
  have H := Lib.hid h
  have hp8 := h.p8
  clear h
  unfold nodeAgg
  have HN := Lib.hid (fun wx => new12_any (w := wx))
  go_enter Tryz.func9, Tryz.ntmps9
  go_wp2_with fail
  (with_reducible refine (HN.out _).mono ?_)
  rintro e w2 ⟨v, own, rfl, d2, o2, b2⟩
  have M2 : Hid (MadeSt w _ v own (Dev.fresh 12 fun _ => 0) 0 (fun _ => 0) w.heap.size n ka sa va kc sc vc w2) := 
    ⟨⟨⟨d2, o2, b2⟩, Live.fresh 12 _⟩, ((Blk.new w (nodeAgg n ka sa va kc sc vc) 26).alloc _).below b2, (by have := Blk.new (w.alloc (.cells (nodeAgg n ka sa va kc sc vc) 26)) #[.nilIface, .int .u64 0] 35; rw [World.size_alloc] at this; exact this.below b2), by simp, (below_alloc w _).trans ((below_alloc _ _).mono (by simp))⟩
  clear d2 o2 b2 HN
  go_wp2_with fail
  have HO := Lib.hid (fun wx => nodeAt_any (w := wx) n ka sa va kc sc vc hp8)
  have HW := Lib.hid (fun wx hx => words_any (w := wx) (H.out.below hx))
  obtain ⟨w0, hw0⟩ : ∃ w0, w0 = (w.alloc (.cells (nodeAgg n ka sa va kc sc vc) 26)).alloc (.cells #[.nilIface, .int .u64 0] 35) := ⟨_, rfl⟩
  have M2' : Hid (MadeSt w w0 v own (Dev.fresh 12 fun _ => 0) 0 (fun _ => 0) w.heap.size n ka sa va kc sc vc w2) := by rw [hw0]; exact M2.out
  clear M2 hw0
  go_cut [] (fun wx => ∃ own', MadeSt w w0 v own' (putD (Dev.fresh 12 fun _ => 0) n) 57 (withNode (fun _ => 0) (nodeOff n) n) w.heap.size n ka sa va kc sc vc wx)
  case first =>
    go_region_held3 (fun wx => wx.cell? ⟨w.heap.size, 0, none⟩ = some (.int .u8 n.pos) ∧ wx.cell? ⟨w.heap.size, 1, none⟩ = some (.slice ka n.ks.length kc) ∧ wx.cell? ⟨w.heap.size, 2, none⟩ = some (.slice sa n.ss.length sc) ∧ wx.cell? ⟨w.heap.size, 3, none⟩ = some (.slice va n.vs.length vc) ∧ wx.cell? ⟨w.heap.size, 4, none⟩ = some (.int .u8 n.high) ∧ wx.cell? ⟨w.heap.size, 5, none⟩ = some (.bool n.bounded) ∧ wx.cell? ⟨w.heap.size, 6, none⟩ = some (.bool n.next) ∧ wx.cell? ⟨w.heap.size, 7, none⟩ = some (.int .u16 n.count)) (first | exact M5.out.cells | exact M4.out.cells | exact M3.out.cells | exact M2'.out.cells) (first | (go_at_call 12; (with_reducible refine (HO.out _).mono ?_); rintro e w3 ⟨rfl, b3⟩; have M3 := Lib.hid (M2'.out.next (bdrew b3)); clear b3) | (go_at_call 10; (with_reducible refine (HW.out _ M3.out.all).mono ?_); rintro e w4 ⟨g, rfl, r4, g4, b4⟩; have P4 := Lib.hid (M3.out.putR (by omega) r4 g4 b4); have M4 := Lib.hid (M3.out.next b4); clear r4 g4 b4) | (go_at_call 11; (with_reducible refine P4.out.mono ?_); rintro e w5 ⟨rfl, own5, m5⟩; have M5 := Lib.hid m5; clear m5))
    all_goals go_wp2_with fail
    all_goals go_meet
    all_goals exact ⟨own5, M5.out⟩
  case rest =>
    obtain ⟨D5, hD5⟩ : ∃ D5, D5 = putD (Dev.fresh 12 fun _ => 0) n := ⟨_, rfl⟩
    rw [← hD5] at hcut
    have HD5 := Lib.hid hD5; clear hD5
    obtain ⟨own5, m5⟩ := hcut
    obtain ⟨w5, hw5⟩ : ∃ x, x = wc := ⟨_, rfl⟩
    subst hw5
    have M5 := Lib.hid m5
    have hno := nodeOff_le n
    have c0 : w5.cell? ⟨w.heap.size + 1, 0, none⟩ = some .nilIface := m5.res.cell rfl
    have c1 : w5.cell? ⟨w.heap.size + 1, 1, none⟩ = some (.int .u64 0) := m5.res.cell rfl
    have f0 := m5.res.frozen 0; have f1 := m5.res.frozen 1
    clear m5 M2' HW
    have HT := Lib.hid (fun wx (hx : IsDev wx v own5 D5) => thread0_any hx)
    have HP := Lib.hid (fun wx => pointerN_any (w := wx) (nodeOff n) (by omega) hno.2.2 (by omega))
    go_upto_region 5 with fail
    go_region_held3 (fun wx => wx.cell? ⟨w.heap.size, 0, none⟩ = some (.int .u8 n.pos) ∧ wx.cell? ⟨w.heap.size, 1, none⟩ = some (.slice ka n.ks.length kc) ∧ wx.cell? ⟨w.heap.size, 2, none⟩ = some (.slice sa n.ss.length sc) ∧ wx.cell? ⟨w.heap.size, 3, none⟩ = some (.slice va n.vs.length vc) ∧ wx.cell? ⟨w.heap.size, 4, none⟩ = some (.int .u8 n.high) ∧ wx.cell? ⟨w.heap.size, 5, none⟩ = some (.bool n.bounded) ∧ wx.cell? ⟨w.heap.size, 6, none⟩ = some (.bool n.next) ∧ wx.cell? ⟨w.heap.size, 7, none⟩ = some (.int .u16 n.count)) (first | exact M7.out.cells | exact M6.out.cells | exact M5.out.cells | exact boxC ((M7.out.box.other (a := ⟨w.heap.size + 1, 0, none⟩) (by simp) _).other (a := ⟨w.heap.size + 1, 1, none⟩) (by simp) _)) (first | (go_at_call 34; (with_reducible refine (HT.out _ (by exact M5.out.dev.drew)).mono ?_); rintro e w' ⟨rfl, rfl⟩) | (go_at_call 12; (with_reducible refine (HO.out _).mono ?_); rintro e w6 ⟨rfl, b6⟩; have M6 := Lib.hid (M5.out.next (bdrew b6)); clear b6) | (go_at_call 43; (with_reducible refine (HP.out _).mono ?_); rintro e w' ⟨rfl, rfl⟩) | (go_at_call 42; (with_reducible refine (at_any _ _ (.inr ⟨_, _, rfl⟩)).mono ?_); rintro e w7 ⟨rfl, b7⟩; have M7 := Lib.hid (M6.out.next b7); have d0 : w7.cell? ⟨w.heap.size + 1, 0, none⟩ = some .nilIface := M7.out.res.cell rfl; have d1 : w7.cell? ⟨w.heap.size + 1, 1, none⟩ = some (.int .u64 0) := M7.out.res.cell rfl; have e0 := M7.out.res.frozen 0; have e1 := M7.out.res.frozen 1; have hlt7 := M7.out.res.lt; clear b7))
    all_goals go_wp2_with fail
    all_goals
      (try simp only [Exit.inBlock, Exit.then])
      refine bodyPost_ret (v := .tuple #[.pointer (some ⟨v.db, 0, none⟩), .agg #[.iface 76 (.pointer (some ⟨v.tb 0, 0, none⟩)), .int .u64 (ptrN (nodeOff n) : Nat)]]) (by simp [results, Tryz.results9, go_sem, d0, d1]) rfl ?_
      exact ⟨v, own5, D5, rfl, made_end M7.out, HD5.out⟩
end
end Go.Proofs.YtkoijmoendepgaaGreat

/- Steppers: a program that is executed instruction by instruction. -/
namespace Go.Proofs.YtkoijmoendepgaaGreat
open Go.RowKit

section
variable {w : World} {v : DV} {own : Nat → Option Role} {D : Dev} {j : Nat}
set_option maxRecDepth 100000 in
set_option maxHeartbeats 1000000 in
theorem cloneP_any (a : Addr) (n c : Nat) (xs : List Value) (h : RdSl w 3 (.slice (some a) n c) n xs) (h1 : ∀ u ∈ xs, u.oneCell' = true) (hn : n ≤ 100000) :
    Calls Tryz.prog 85 #[.slice (some a) n c] w fun r w' => ∃ g cap, r = .returned (.slice (some ⟨g, 0, none⟩) n cap) ∧ OwnSl w' 110 3 (.slice (some ⟨g, 0, none⟩) n cap) n xs ∧ w.heap.size ≤ g ∧ Below w.heap.size w w' := by
  obtain ⟨i0, hi, hz0, hz1, hz2⟩ := info_parts infoInstr
  have I := Lib.hid (And.intro hi (And.intro hz0 (And.intro hz1 hz2))); clear hi hz0 hz1 hz2
  have H := Lib.hid h; have H1 := Lib.hid h1; clear h h1
  have hq := fun wx => Lib.run_eql_slice_nil (P := Tryz.prog) wx 53 110 (some a) n c 0 0 Tryz.underlying53
  go_enter Tryz.func85, Tryz.ntmps85
  go_wp2_with (at_builtin; refine wpList_append_sl _ rfl _ _ 53 rfl 110 i0 _ 3 24 Tryz.underlying53 I.out.1 I.out.2.1 I.out.2.2.1 I.out.2.2.2 rfl (by decide) _ 0 [] rfl ?h0 _ n xs rfl ?h1 ?h2 ?h3 ?h4 ?_)
  case h0 => exact OwnSl.new _ _ _ 3 0 0 rfl (Nat.le_refl _) (Nat.zero_le _)
  case h1 => exact H.out.alloc _
  case h2 => exact H1.out
  case h3 => unfold maxLen; omega
  case h4 => omega
  intro v' w1 o1 g1 b1 n1
  have O1 := Lib.hid o1; have G1 := Lib.hid g1; have B1 := Lib.hid b1; clear o1 g1 b1 n1
  go_wp2
  go_ret
  have hb : Below w.heap.size w w1 := ((Below.refl _ _).alloc (Nat.le_refl _) _).grown G1.out (by simp) (fun k hk => by cases hk; exact Nat.le_refl _)
  obtain ⟨a', c', hv⟩ := O1.out.slice
  have O2 := O1.out
  have B2 := B1.out
  rw [hv] at O2 B2
  rcases B2 with h | h
  · simp only [slAddr] at h
    subst h
    exact ⟨w.heap.size, c', by rw [← hv]; rfl, O2, Nat.le_refl _, hb⟩
  · simp only [slAddr] at h
    subst h
    exact ⟨w.heap.size + 1, c', by rw [← hv]; rfl, O2, Nat.le_succ _, hb⟩
/-- A stepper in block sb, before the program l; nothing of it is the device's. -/
structure StpAt (w : World) (own : Nat → Option Role) (sb : Nat) (t : Addr) (l : List (Nat × Nat × Int)) : Prop where
  rest : ∃ rv, Blk w sb #[.iface 76 (.pointer (some t)), rv] 155 ∧ RdSl w 3 rv l.length (instrC l) ∧ ∀ k, rv.ownBlock = some k → own k = none ∧ k ≠ sb ∧ k < w.heap.size
  osb : own sb = none
theorem StpAt.lt {sb : Nat} {t : Addr} {l : List (Nat × Nat × Int)} (h : StpAt w own sb t l) : sb < w.heap.size := by obtain ⟨_, h1, _⟩ := h.rest; exact h1.lt
theorem StpAt.below {sb : Nat} {t : Addr} {l : List (Nat × Nat × Int)} {w' : World} (h : StpAt w own sb t l) (hb : Below w.heap.size w w') : StpAt w' own sb t l := by
  obtain ⟨rv, h1, h2, h3⟩ := h.rest
  exact ⟨⟨rv, h1.below hb, h2.below hb, fun k hk => ⟨(h3 k hk).1, (h3 k hk).2.1, Nat.lt_of_lt_of_le (h3 k hk).2.2 hb.size⟩⟩, h.osb⟩
set_option maxRecDepth 100000 in
set_option maxHeartbeats 1000000 in
theorem memStep_any (t : Addr) (a : Addr) (c : Nat) (l : List (Nat × Nat × Int)) (h : RdSl w 3 (.slice (some a) l.length c) l.length (instrC l)) (hi : instrOk l) (hl : l.length ≤ 100000) :
    Calls Tryz.prog 39 #[.iface 76 (.pointer (some t)), .slice (some a) l.length c] w fun r w' => ∃ sb, r = .returned (.pointer (some ⟨sb, 0, none⟩)) ∧ (∀ own : Nat → Option Role, (∀ k, own k ≠ none → k < w.heap.size) → StpAt w' own sb t l) ∧ w.heap.size ≤ sb ∧ Below w.heap.size w w' := by
  have HV := Lib.hid (mvalid_any _ l h hi hl)
  have H := Lib.hid h
  clear h
  go_enter Tryz.func39, Tryz.ntmps39
  go_wp2_with fail
  (with_reducible refine HV.out.mono ?_)
  rintro e w1 ⟨rfl, b1⟩
  have B1 := Lib.hid b1; clear b1
  have HC := Lib.hid (cloneP_any a l.length c (instrC l) (H.out.below B1.out) (instrC_one l) hl)
  go_wp2_with fail
  (with_reducible refine HC.out.mono ?_)
  rintro e w2 ⟨g, cap, rfl, o2, hg, b2⟩
  have O2 := Lib.hid (And.intro o2 (And.intro hg b2)); clear o2 hg b2
  go_wp2_with fail
  go_ret
  refine ⟨w2.heap.size, rfl, fun own hown => ⟨⟨_, Blk.new _ _ _, O2.out.1.rd.alloc _, fun k hk => ?_⟩, ?_⟩, ?_, ?_⟩
  · have h1 := O2.out.1.lt k hk
    simp [Value.ownBlock] at hk; subst hk
    have := O2.out.2.1; have := B1.out.size
    exact ⟨Classical.byContradiction (fun h => by have := hown _ h; omega), by omega, by simp; omega⟩
  · exact Classical.byContradiction (fun h => by have := hown _ h; have := O2.out.2.2.size; have := B1.out.size; omega)
  · have := O2.out.2.2.size; have := B1.out.size; omega
  · exact B1.out.trans ((O2.out.2.2.mono B1.out.size).trans ((Below.refl _ _).alloc (by have := O2.out.2.2.size; have := B1.out.size; omega) _))
/-- One instruction is executed; the stepper stands before the rest. -/
def StpPost (w : World) (v : DV) (own : Nat → Option Role) (D' : Dev) (sb : Nat) (t : Addr) (l : List (Nat × Nat × Int)) (r : Ending) (w' : World) : Prop :=
  r = .returned (.bool (decide (l.length = 0))) ∧ ∃ own', StpAt w' own' sb t l ∧ IsDev w' v own' D' ∧ (∀ k, k < w.heap.size → own' k = own k) ∧ Upd (fun k => own k ≠ none ∨ k = sb) w w'
theorem stp_mid {sb : Nat} (h : IsDev w v own D) (hob : own sb = none) (o : Obj) (u : Value) : IsDev ((w.setCell ⟨sb, 1, none⟩ u).alloc o).drew v own D :=
  ((h.upd (S := fun k => k = sb) ((Upd.refl (fun k => k = sb) w).setCell (p := ⟨sb, 1, none⟩) (fun _ => rfl) u) (fun k hk e => hk (by rw [e]; exact hob))).alloc o).drew
theorem stp_end {sb n : Nat} {t : Addr} {l : List (Nat × Nat × Int)} {D' : Dev} {rv nv : Value} {o : Obj} {w' : World} (hsb : Blk w sb #[.iface 76 (.pointer (some t)), rv] 155) (hob : own sb = none) (hn : l.length = n)
    (hd : RdSl w 3 nv n (instrC l)) (hrb : ∀ k, nv.ownBlock = some k → own k = none ∧ k ≠ sb ∧ k < w.heap.size) (hp : DPost v own ((w.setCell ⟨sb, 1, none⟩ nv).alloc o).drew D' w') :
    ∃ own', StpAt w' own' sb t l ∧ IsDev w' v own' D' ∧ (∀ k, k < w.heap.size → own' k = own k) ∧ Upd (fun k => own k ≠ none ∨ k = sb) w w' := by
  obtain ⟨own', d, ho, u⟩ := hp
  have u0 : Upd (fun k => k = sb) w ((w.setCell ⟨sb, 1, none⟩ nv).alloc o).drew := (((Upd.refl (fun k => k = sb) w).setCell (p := ⟨sb, 1, none⟩) (fun _ => rfl) nv).alloc o).drew
  have hz : w.heap.size ≤ ((w.setCell ⟨sb, 1, none⟩ nv).alloc o).drew.heap.size := u0.size
  have b1 : Blk ((w.setCell ⟨sb, 1, none⟩ nv).alloc o).drew sb #[.iface 76 (.pointer (some t)), nv] 155 := ((hsb.set 1 nv).alloc o).drew
  have ut : Upd (fun k => own k ≠ none ∨ k = sb) w w' := (u0.mono (fun i _ h => .inr h)).trans u (fun i _ h => .inl h)
  have ho' : ∀ k, k < w.heap.size → own' k = own k := fun k hk => ho k (by omega)
  refine ⟨own', ⟨⟨nv, b1.upd u (by simpa using hob), ?_, fun k hk => ?_⟩, by rw [ho' _ hsb.lt]; exact hob⟩, d, ho', ut⟩
  · rw [hn]
    exact hd.kept (fun k hk hlt => ut.block k hlt (by
      have h1 := hrb k hk
      intro h
      rcases h with h | h
      · exact h h1.1
      · exact h1.2.1 h))
  · have h1 := hrb k hk
    exact ⟨by rw [ho' _ h1.2.2]; exact h1.1, h1.2.1, Nat.lt_of_lt_of_le h1.2.2 ut.size⟩
/-- What the region of the call reads. -/
abbrev StpS (w : World) (sb : Nat) (t : Addr) (op off : Nat) (x : Int) (wx : World) : Prop :=
  wx.cell? ⟨w.heap.size, 0, none⟩ = some (.int .u8 op) ∧ wx.cell? ⟨w.heap.size, 1, none⟩ = some (.int .u64 off) ∧ wx.cell? ⟨w.heap.size, 2, none⟩ = some (.int .u64 x) ∧ wx.cell? ⟨sb, 0, none⟩ = some (.iface 76 (.pointer (some t)))
theorem stp_s0 {sb op off : Nat} {x : Int} {t : Addr} {rv nv : Value} (hsb : Blk w sb #[.iface 76 (.pointer (some t)), rv] 155) : StpS w sb t op off x ((w.setCell ⟨sb, 1, none⟩ nv).alloc (.cells #[.int .u8 op, .int .u64 off, .int .u64 x] 110)).drew := by
  have h1 : Blk ((w.setCell ⟨sb, 1, none⟩ nv).alloc (.cells #[.int .u8 op, .int .u64 off, .int .u64 x] 110)) w.heap.size #[.int .u8 op, .int .u64 off, .int .u64 x] 110 := by
    have := Blk.new (w.setCell ⟨sb, 1, none⟩ nv) #[.int .u8 op, .int .u64 off, .int .u64 x] 110
    rwa [show (w.setCell ⟨sb, 1, none⟩ nv).heap.size = w.heap.size by simp [World.setCell]] at this
  have h2 := (((hsb.set 1 nv).alloc (.cells #[.int .u8 op, .int .u64 off, .int .u64 x] 110)).drew).cell (i := 0) (v := .iface 76 (.pointer (some t))) rfl
  exact ⟨h1.drew.cell rfl, h1.drew.cell rfl, h1.drew.cell rfl, h2⟩
theorem stp_s1 {sb op off : Nat} {x : Int} {t : Addr} {rv nv : Value} {D' : Dev} {w' : World} (hsb : Blk w sb #[.iface 76 (.pointer (some t)), rv] 155) (hob : own sb = none) (hB : ∀ k, own k ≠ none → k < w.heap.size)
    (hp : DPost v own ((w.setCell ⟨sb, 1, none⟩ nv).alloc (.cells #[.int .u8 op, .int .u64 off, .int .u64 x] 110)).drew D' w') : StpS w sb t op off x w' := by
  obtain ⟨own', d, ho, u⟩ := hp
  have hsz : w.heap.size = (w.setCell ⟨sb, 1, none⟩ nv).heap.size := by simp [World.setCell]
  have h1 : Blk ((w.setCell ⟨sb, 1, none⟩ nv).alloc (.cells #[.int .u8 op, .int .u64 off, .int .u64 x] 110)).drew w.heap.size #[.int .u8 op, .int .u64 off, .int .u64 x] 110 := by
    have := Blk.new (w.setCell ⟨sb, 1, none⟩ nv) #[.int .u8 op, .int .u64 off, .int .u64 x] 110
    rw [← hsz] at this; exact this.drew
  have h2 : Blk ((w.setCell ⟨sb, 1, none⟩ nv).alloc (.cells #[.int .u8 op, .int .u64 off, .int .u64 x] 110)).drew sb #[.iface 76 (.pointer (some t)), nv] 155 := ((hsb.set 1 nv).alloc _).drew
  have hlt := hsb.lt
  have h3 := h1.upd u (by intro h; have := hB _ h; omega)
  have h4 := h2.upd u (by simpa using hob)
  exact ⟨h3.cell rfl, h3.cell rfl, h3.cell rfl, h4.cell rfl⟩
set_option maxRecDepth 100000 in
set_option maxHeartbeats 2000000 in
theorem stpStep_any {sb : Nat} {e : Nat × Nat × Int} {l : List (Nat × Nat × Int)} (h : IsDev w v own D) (hj : j < 8) (hs : StpAt w own sb ⟨v.tb j, 0, none⟩ (e :: l)) (he : 1 ≤ e.1 ∧ e.1 ≤ 3 ∧ e.2.1 < 18446744073709551616) (hl : l.length ≤ 100000) (hx : D.exec < 4294967296) :
    Calls Tryz.prog 40 #[.pointer (some ⟨sb, 0, none⟩)] w (StpPost w v own (D.step j e) sb ⟨v.tb j, 0, none⟩ l) := by
  obtain ⟨rv, h1, h2, h3⟩ := hs.rest
  have hB : ∀ k, own k ≠ none → k < w.heap.size := h.lt
  have c0 : w.cell? ⟨sb, 0, none⟩ = some (.iface 76 (.pointer (some ⟨v.tb j, 0, none⟩))) := h1.cell rfl
  have c1 : w.cell? ⟨sb, 1, none⟩ = some rv := h1.cell rfl
  have f1 := h1.frozen 1
  have hsz := h1.lt
  have h1b := h1
  have HX := Lib.hid (fun (wx : World) (hx' : IsDev wx v own D) => execute_any hx' hj e he.1 he.2.1 he.2.2 hx)
  have hob : own sb = none := hs.osb
  obtain ⟨_, a, c, rfl, hc, h4⟩ := id h2
  have hg := instrC_get (e :: l) 0 e rfl
  obtain ⟨rb, ro, rfl, hE⟩ := rd_at h4 hg.1
  have c2 := hE _ _ hg.1; have c3 := hE _ _ hg.2.1; have c4 := hE _ _ hg.2.2
  simp only [Nat.zero_mul, Nat.zero_add] at c2 c3 c4
  rw [Nat.add_zero] at c2
  have hd := h2.dropG 1 (by simp)
  have H := Lib.hid h; have H3 := Lib.hid h3
  have hne := h3 rb rfl
  have HD : Hid (RdSl w 3 (.slice (if c = 1 then some ⟨rb, ro, none⟩ else (some (⟨rb, ro, none⟩ : Addr)).map (·.add (1 * 3))) l.length (c - 1)) l.length (instrC l)) := Lib.hid (by
    have e1 : (instrC (e :: l)).drop (1 * 3) = instrC l := rfl
    rw [e1] at hd
    simpa using hd)
  obtain ⟨op, off, x⟩ := e
  simp only at c2 c3 c4 he HX ⊢
  have hcl : (l.length : Int) + 1 ≤ c := by simp at hc; omega
  have HC := Lib.hid hc
  clear h h2 h3 h4 hE hg hd hs h1 hc
  have HB1 := Lib.hid h1b
  clear h1b
  by_cases hc1 : c = 1
  · subst hc1
    rw [if_pos rfl, Nat.sub_self] at HD
    go_enter Tryz.func40, Tryz.ntmps40
    go_wp2_with fail
    have S0 := Lib.hid (fun nv => stp_s0 (op := op) (off := off) (x := x) (nv := nv) HB1.out)
    go_region_held3 (fun wx => wx.cell? ⟨w.heap.size, 0, none⟩ = some (.int .u8 op) ∧ wx.cell? ⟨w.heap.size, 1, none⟩ = some (.int .u64 off) ∧ wx.cell? ⟨w.heap.size, 2, none⟩ = some (.int .u64 x) ∧ wx.cell? ⟨sb, 0, none⟩ = some (.iface 76 (.pointer (some ⟨v.tb j, 0, none⟩)))) (first | (with_reducible exact S1.out) | (with_reducible exact S0.out _)) (first | (go_at_call 84; (with_reducible refine (HX.out _ (stp_mid H.out hob _ _)).mono ?_); rintro e w1 ⟨rfl, hp⟩; have HE := Lib.hid (stp_end HB1.out hob rfl HD.out (fun k hk => by simp [Value.ownBlock] at hk; subst hk; exact hne) hp); have S1 := Lib.hid (stp_s1 HB1.out hob hB hp); clear hp))
    obtain ⟨own', hst, _⟩ := HE.out
    obtain ⟨rv', s1, s2, s3⟩ := hst.rest
    obtain ⟨_, a', c', rfl, _, _⟩ := s2
    have d1 : w1.cell? ⟨sb, 1, none⟩ = some (.slice a' l.length c') := s1.cell rfl
    clear s1 s3 hst S0 S1 c0 c1 c2 c3 c4 f1
    go_wp2_with fail
    go_ret
    exact ⟨congrArg (fun b => Ending.returned (.bool b)) (show ((l.length : Int) == 0) = decide (l.length = 0) by by_cases e : l.length = 0 <;> simp [e]), HE.out⟩
  · rw [if_neg hc1] at HD
    have hc1' : ¬ (c : Int) = 1 := by omega
    go_enter Tryz.func40, Tryz.ntmps40
    go_wp2_with fail
    have S0 := Lib.hid (fun nv => stp_s0 (op := op) (off := off) (x := x) (nv := nv) HB1.out)
    go_region_held3 (fun wx => wx.cell? ⟨w.heap.size, 0, none⟩ = some (.int .u8 op) ∧ wx.cell? ⟨w.heap.size, 1, none⟩ = some (.int .u64 off) ∧ wx.cell? ⟨w.heap.size, 2, none⟩ = some (.int .u64 x) ∧ wx.cell? ⟨sb, 0, none⟩ = some (.iface 76 (.pointer (some ⟨v.tb j, 0, none⟩)))) (first | (with_reducible exact S1.out) | (with_reducible exact S0.out _)) (first | (go_at_call 84; (with_reducible refine (HX.out _ (stp_mid H.out hob _ _)).mono ?_); rintro e w1 ⟨rfl, hp⟩; have HE := Lib.hid (stp_end HB1.out hob rfl HD.out (fun k hk => by simp [Value.ownBlock] at hk; subst hk; exact hne) hp); have S1 := Lib.hid (stp_s1 HB1.out hob hB hp); clear hp))
    obtain ⟨own', hst, _⟩ := HE.out
    obtain ⟨rv', s1, s2, s3⟩ := hst.rest
    obtain ⟨_, a', c', rfl, _, _⟩ := s2
    have d1 : w1.cell? ⟨sb, 1, none⟩ = some (.slice a' l.length c') := s1.cell rfl
    clear s1 s3 hst S0 S1 c0 c1 c2 c3 c4 f1
    go_wp2_with fail
    go_ret
    exact ⟨congrArg (fun b => Ending.returned (.bool b)) (show ((l.length : Int) == 0) = decide (l.length = 0) by by_cases e : l.length = 0 <;> simp [e]), HE.out⟩
end
end Go.Proofs.YtkoijmoendepgaaGreat

/- LeafReadable, plain: what a node reads as while the program of a put or a delete runs, and in every image behind a part of it. -/
namespace Go.Proofs.YtkoijmoendepgaaGreat
open Go.RowKit

/-- The node at off, in these words, is valid and has one of two lists of entries. -/
structure Rd2 (V : Nat → Int) (off : Nat) (E0 E1 : List (Int × Int)) : Prop where
  ok : nodeOk (fun i => V (off / 8 + i)) 768
  ents : entsW (fun i => V (off / 8 + i)) (slotsW (fun i => V (off / 8 + i))) = E0 ∨ entsW (fun i => V (off / 8 + i)) (slotsW (fun i => V (off / 8 + i))) = E1
  bd : ∀ i, i < 28 → 0 ≤ V (off / 8 + i) ∧ V (off / 8 + i) < 18446744073709551616
theorem Rd2.left {V : Nat → Int} {off : Nat} {E0 E1 : List (Int × Int)} (h : Rd2 V off E0 E0) : Rd2 V off E0 E1 := ⟨h.ok, .inl (h.ents.elim id id), h.bd⟩
theorem Rd2.right {V : Nat → Int} {off : Nat} {E0 E1 : List (Int × Int)} (h : Rd2 V off E1 E1) : Rd2 V off E0 E1 := ⟨h.ok, .inr (h.ents.elim id id), h.bd⟩
theorem Rd2.congr {V V' : Nat → Int} {off : Nat} {E0 E1 : List (Int × Int)} (h : Rd2 V off E0 E1) (e : ∀ i, V' i = V i) : Rd2 V' off E0 E1 := by
  have : V' = V := funext e
  rw [this]; exact h
/-- A program of groups, in the midst of which the node has the entries of before or of after. -/
structure TwoG (C : Nat → Int) (off : Nat) (p : List (Nat × Nat × Int)) (E0 E1 : List (Int × Int)) (gs : List (List (Nat × Int) × List Nat)) : Prop where
  eq : p = groupsP gs
  ok : ∀ g ∈ gs, groupOk 12 g
  len : p.length ≤ 8
  pos : 0 < p.length
  vals : ∀ g ∈ gs, ∀ e ∈ g.1, 0 ≤ e.2 ∧ e.2 < 18446744073709551616
  view : ∀ a ws V, a ≤ gs.length → (∃ t, (gs[a]?.map (·.1)).getD [] = ws ++ t) → (∀ i, V i = laidG C (gs.take a) i ∨ ∃ e ∈ ws, e.1 / 8 = i ∧ V i = e.2) → Rd2 V off E0 E1
  last : ∀ V, (∀ i, V i = laidG C gs i) → Rd2 V off E1 E1
variable {W C : Nat → Int} {off : Nat} {key value : Int} {E0 E1 : List (Int × Int)} {p : List (Nat × Nat × Int)}
theorem after_rd (h : After C off W p E1) {V : Nat → Int} (hV : ∀ i, V i = runC C p i) : Rd2 V off E1 E1 := by
  have : V = runC C p := funext hV
  rw [this]
  exact ⟨h.node, .inl h.ents, h.bd⟩
theorem before_rd (hok : nodeOk W 768) (hWC : ∀ i, W i = C (off / 8 + i)) (hw : ∀ i, i < 28 → 0 ≤ W i ∧ W i < 18446744073709551616) (hE : entsW W (slotsW W) = E0) : Rd2 C off E0 E0 := by
  have : (fun i => C (off / 8 + i)) = W := by funext i; rw [hWC]
  refine ⟨by rw [this]; exact hok, .inl (by rw [this]; exact hE), fun i hi => by rw [← hWC]; exact hw i hi⟩
/-- One store of one word. -/
theorem two_last (hb : Rd2 C off E0 E0) (q : Nat) (x : Int) (h8 : q % 8 = 0) (hq : q < 768) (hx : 0 ≤ x ∧ x < 18446744073709551616) (ha : After C off W (lastC q x) E1) : TwoG C off (lastC q x) E0 E1 [([(q, x)], [q])] := by
  have hr : ∀ i, laidG C [([(q, x)], [q])] i = runC C (lastC q x) i := fun i => by
    rw [runC_last]
    show (if q / 8 = i then x else C i) = _
    by_cases e : q / 8 = i
    · rw [if_pos e, if_pos e.symm]
    · rw [if_neg e, if_neg (fun h => e h.symm)]
  refine ⟨rfl, fun g hg => ?_, by simp [lastC], by simp [lastC], fun g hg e he => by simp at hg; subst hg; simp at he; subst he; exact hx, fun a ws V hle ⟨t, ht⟩ hV => ?_, fun V hV => after_rd ha (fun i => (hV i).trans (hr i))⟩
  · simp at hg; subst hg
    exact ⟨fun e he => by simp at he; subst he; exact ⟨h8, by omega, q, by simp, rfl⟩, fun o ho => by simp at ho; subst ho; omega⟩
  · match a, hle with
    | 0, _ =>
      have hsub : ∀ e ∈ ws, e = (q, x) := fun e he => by
        have : e ∈ ws ++ t := by simp [he]
        rw [← ht] at this; simpa using this
      by_cases hc : V (q / 8) = C (q / 8)
      · refine (hb.congr (V' := V) fun i => ?_).left
        rcases hV i with h | ⟨e, he, h1, h2⟩
        · exact h
        · have := hsub e he; subst this
          simp only at h1; subst h1; exact hc
      · refine (after_rd ha (fun i => ?_)).right
        rw [runC_last]
        by_cases e : i = q / 8
        · rw [if_pos e]; subst e
          rcases hV (q / 8) with h | ⟨e, he, _, h2⟩
          · exact absurd h hc
          · have := hsub e he; subst this; exact h2
        · rw [if_neg e]
          rcases hV i with h | ⟨e', he, h1, _⟩
          · exact h
          · have := hsub e' he; subst this
            exact absurd h1.symm e
    | 1, _ =>
      have hws : ws = [] := by
        have : ([] : List (Nat × Int)) = ws ++ t := ht
        exact (List.append_eq_nil_iff.1 this.symm).1
      subst hws
      refine (after_rd ha (fun i => ?_)).right
      rcases hV i with h | ⟨e, he, _⟩
      · exact h.trans (hr i)
      · simp at he
/-- Words that differ in an unused slot alone. -/
theorem rd_unused (hok : nodeOk W 768) {s : Nat} (hs : s < 12) (hn : s ∉ slotsW W) {V : Nat → Int} (hV : ∀ i, i ≠ 4 + s → i ≠ 16 + s → V (off / 8 + i) = W i)
    (hbd : ∀ i, i < 28 → 0 ≤ V (off / 8 + i) ∧ V (off / 8 + i) < 18446744073709551616) (hE : entsW W (slotsW W) = E0) : Rd2 V off E0 E0 := by
  have hg := ok_good hok
  have h0 : (fun i => V (off / 8 + i)) 0 = W 0 := hV 0 (by omega) (by omega)
  have hsl : slotsW (fun i => V (off / 8 + i)) = slotsW W := by
    have h0' : V (off / 8 + 0) = W 0 := h0
    unfold slotsW; simp only [h0']
  have hne : ∀ t ∈ slotsW W, t ≠ s ∧ t < 12 := fun t ht => ⟨fun e => hn (e ▸ ht), hg.lt t ht⟩
  refine ⟨good_valid (l := slotsW W) (hg.congr (fun t ht => hV _ (by have := hne t ht; omega) (by have := hne t ht; omega)) (hV 1 (by omega) (by omega)) (hV 2 (by omega) (by omega)) (hV 3 (by omega) (by omega))) hsl (by have h0' : V (off / 8 + 0) = W 0 := h0; rw [h0']; exact hok.1), .inl ?_, hbd⟩
  rw [hsl, ← hE]
  exact entsW_congr (fun t ht => ⟨hV _ (by have := hne t ht; omega) (by have := hne t ht; omega), hV _ (by have := hne t ht; omega) (by have := hne t ht; omega)⟩)
def newG (off : Nat) (key value : Int) (s : Nat) (x : Int) : List (List (Nat × Int) × List Nat) :=
  [([(off + 8 * (4 + s), key), (off + 8 * (16 + s), value)], lineN (off + 8 * (4 + s)) :: (if lineN (off + 8 * (16 + s)) = lineN (off + 8 * (4 + s)) then [] else [lineN (off + 8 * (16 + s))])), ([(off, x)], [off])]
/-- The program that puts an entry into a free slot. -/
theorem two_new (hok : nodeOk W 768) (hWC : ∀ i, W i = C (off / 8 + i)) (hw : ∀ i, i < 28 → 0 ≤ W i ∧ W i < 18446744073709551616) (hE : entsW W (slotsW W) = E0) (h8 : off % 8 = 0) (hoff : off + 224 ≤ 768) {k s : Nat} (hs : s < 12) (hn : s ∉ slotsW W)
    (hk : 0 ≤ key ∧ key < 18446744073709551616) (hv : 0 ≤ value ∧ value < 18446744073709551616) (ha : After C off W (putNew W off key value k s) E1) :
    TwoG C off (putNew W off key value k s) E0 E1 (newG off key value s (ordN ((slotsW W).take k ++ s :: (slotsW W).drop k) ((W 0).toNat / 4503599627370496 + 1) : Nat)) := by
  have hrn := fun i => runC_new C W off key value k s h8 i
  have hpr : putNew W off key value k s = groupsP (newG off key value s (ordN ((slotsW W).take k ++ s :: (slotsW W).drop k) ((W 0).toNat / 4503599627370496 + 1) : Nat)) := by
    unfold putNew newG groupsP groupP lastC
    split <;> simp
  have hlen := ha.len
  generalize hx : ((ordN ((slotsW W).take k ++ s :: (slotsW W).drop k) ((W 0).toNat / 4503599627370496 + 1) : Nat) : Int) = x at *
  have e4 : (off + 8 * (4 + s)) / 8 = off / 8 + (4 + s) := by omega
  have e16 : (off + 8 * (16 + s)) / 8 = off / 8 + (16 + s) := by omega
  -- the words behind both groups
  have hl1 : ∀ i, laidG C ((newG off key value s x).take 1) i = if off / 8 + (16 + s) = i then value else if off / 8 + (4 + s) = i then key else C i := fun i => by
    show (if (off + 8 * (16 + s)) / 8 = i then value else if (off + 8 * (4 + s)) / 8 = i then key else C i) = _
    rw [e4, e16]
  have hl2 : ∀ i, laidG C (newG off key value s x) i = if off / 8 = i then x else laidG C ((newG off key value s x).take 1) i := fun i => rfl
  have hfar : ∀ i, (∀ j, j < 28 → i ≠ off / 8 + j) → runC C (putNew W off key value k s) i = C i := fun i hi => by
    rw [hpr]
    have hh : ∀ g : List (Nat × Nat × Int), (∀ e ∈ g, e.1 = 1 → e.2.1 / 8 ≠ i) → ∀ C' : Nat → Int, runC C' g i = C' i := by
      intro g
      induction g with
      | nil => intro _ C'; rfl
      | cons e g ih =>
        intro hg C'
        show runC (if e.1 = 1 then (fun i => if i = e.2.1 / 8 then e.2.2 else C' i) else C') g i = C' i
        rw [ih (fun y hy => hg y (by simp [hy]))]
        by_cases h1 : e.1 = 1
        · rw [if_pos h1]; show (if i = e.2.1 / 8 then e.2.2 else C' i) = C' i
          rw [if_neg (fun h => hg e (by simp) h1 h.symm)]
        · rw [if_neg h1]
    refine hh _ (fun e he h1 => ?_) C
    rw [← hpr] at he
    unfold putNew lastC at he
    have : e = (1, off + 8 * (4 + s), key) ∨ e = (1, off + 8 * (16 + s), value) ∨ e = (1, off, ((ordN ((slotsW W).take k ++ s :: (slotsW W).drop k) ((W 0).toNat / 4503599627370496 + 1) : Nat) : Int)) := by
      split at he <;> (simp at he; rcases he with rfl | rfl | rfl | rfl | rfl | rfl | rfl | he) <;> simp_all
    rcases this with rfl | rfl | rfl
    · simp only; have := hi (4 + s) (by omega); omega
    · simp only; have := hi (16 + s) (by omega); omega
    · simp only; have := hi 0 (by omega); omega
  have hr : ∀ i, laidG C (newG off key value s x) i = runC C (putNew W off key value k s) i := fun i => by
    by_cases hin : ∃ j, j < 28 ∧ i = off / 8 + j
    · obtain ⟨j, hj, rfl⟩ := hin
      rw [hrn, hl2, hl1]
      by_cases j0 : j = 0
      · subst j0; simp
      · rw [if_neg (by omega), if_neg j0]
        by_cases j16 : j = 16 + s
        · rw [if_pos (by omega), if_pos j16]
        · rw [if_neg (by omega), if_neg j16]
          by_cases j4 : j = 4 + s
          · rw [if_pos (by omega), if_pos j4]
          · rw [if_neg (by omega), if_neg j4]
    · have hin' : ∀ j, j < 28 → i ≠ off / 8 + j := fun j hj e => hin ⟨j, hj, e⟩
      rw [hfar i hin', hl2, hl1, if_neg (fun e => hin' 0 (by omega) (by omega)), if_neg (fun e => hin' (16 + s) (by omega) e.symm), if_neg (fun e => hin' (4 + s) (by omega) e.symm)]
  have hold : ∀ V : Nat → Int, (∀ i, i ≠ 4 + s → i ≠ 16 + s → V (off / 8 + i) = W i) → (V (off / 8 + (4 + s)) = C (off / 8 + (4 + s)) ∨ V (off / 8 + (4 + s)) = key) → (V (off / 8 + (16 + s)) = C (off / 8 + (16 + s)) ∨ V (off / 8 + (16 + s)) = value) → Rd2 V off E0 E0 := fun V h1 h2 h3 =>
    rd_unused hok hs hn h1 (fun i hi => by
      by_cases i4 : i = 4 + s
      · subst i4
        rcases h2 with h | h
        · rw [h, ← hWC]; exact hw _ hi
        · rw [h]; exact hk
      · by_cases i16 : i = 16 + s
        · subst i16
          rcases h3 with h | h
          · rw [h, ← hWC]; exact hw _ hi
          · rw [h]; exact hv
        · rw [h1 i i4 i16]; exact hw i hi) hE
  have h12 : ∀ o : Nat, o < 768 → lineN o < 768 := fun o ho => by unfold lineN; omega
  have hld : ∀ o : Nat, lineN o / 64 = o / 64 := fun o => by unfold lineN; omega
  refine ⟨hpr, fun g hg => ?_, hlen, by rw [hpr]; simp [groupsP, newG, groupP], fun g hg e he => ?_, fun a ws V hle ⟨t, ht⟩ hV => ?_, fun V hV => after_rd ha (fun i => (hV i).trans (hr i))⟩
  · unfold newG at hg
    simp only [List.mem_cons, List.not_mem_nil, or_false] at hg
    rcases hg with rfl | rfl
    · refine ⟨fun e he => ?_, fun o ho => ?_⟩
      · simp only [List.mem_cons, List.not_mem_nil, or_false] at he
        rcases he with rfl | rfl
        · exact ⟨by simp only; omega, by simp only; omega, lineN (off + 8 * (4 + s)), by simp, hld _⟩
        · refine ⟨by simp only; omega, by simp only; omega, ?_⟩
          by_cases e : lineN (off + 8 * (16 + s)) = lineN (off + 8 * (4 + s))
          · exact ⟨lineN (off + 8 * (4 + s)), by simp, by rw [← e]; exact hld _⟩
          · exact ⟨lineN (off + 8 * (16 + s)), by simp [e], hld _⟩
      · have : o = lineN (off + 8 * (4 + s)) ∨ o = lineN (off + 8 * (16 + s)) := by
          rcases List.mem_cons.1 ho with h | h
          · exact .inl h
          · split at h <;> simp at h
            exact .inr h
        rcases this with rfl | rfl
        · exact h12 _ (by omega)
        · exact h12 _ (by omega)
    · exact ⟨fun e he => by simp at he; subst he; exact ⟨h8, by simp only; omega, off, by simp, rfl⟩, fun o ho => by simp at ho; subst ho; omega⟩
  · unfold newG at hg
    simp only [List.mem_cons, List.not_mem_nil, or_false] at hg
    rcases hg with rfl | rfl
    · simp only [List.mem_cons, List.not_mem_nil, or_false] at he
      rcases he with rfl | rfl
      · exact hk
      · exact hv
    · simp at he; subst he
      have := ha.bd 0 (by omega)
      rw [hrn, if_pos rfl] at this; exact this
  · match a, hle with
    | 0, _ =>
      have hsub : ∀ e ∈ ws, e = (off + 8 * (4 + s), key) ∨ e = (off + 8 * (16 + s), value) := fun e he => by
        have : e ∈ ws ++ t := by simp [he]
        rw [← ht] at this; simpa [newG] using this
      refine (hold V (fun i h1 h2 => ?_) ?_ ?_).left
      · rcases hV (off / 8 + i) with h | ⟨e, he, h3, _⟩
        · rw [hWC]; exact h
        · rcases hsub e he with rfl | rfl <;> (simp only at h3; omega)
      · rcases hV (off / 8 + (4 + s)) with h | ⟨e, he, h3, h4⟩
        · exact .inl h
        · rcases hsub e he with rfl | rfl
          · exact .inr h4
          · simp only at h3; omega
      · rcases hV (off / 8 + (16 + s)) with h | ⟨e, he, h3, h4⟩
        · exact .inl h
        · rcases hsub e he with rfl | rfl
          · simp only at h3; omega
          · exact .inr h4
    | 1, _ =>
      have hsub : ∀ e ∈ ws, e = (off, x) := fun e he => by
        have : e ∈ ws ++ t := by simp [he]
        rw [← ht] at this; simpa [newG] using this
      have hV' : ∀ i, i ≠ off / 8 → V i = laidG C ((newG off key value s x).take 1) i := fun i hi => by
        rcases hV i with h | ⟨e, he, h3, _⟩
        · exact h
        · have := hsub e he; subst this; simp only at h3; omega
      by_cases hc : V (off / 8) = C (off / 8)
      · refine (hold V (fun i h1 h2 => ?_) (.inr ?_) (.inr ?_)).left
        · by_cases i0 : i = 0
          · subst i0; rw [hWC]; exact hc
          · rw [hV' _ (by omega), hl1, if_neg (by omega), if_neg (by omega), hWC]
        · rw [hV' _ (by omega), hl1, if_neg (by omega), if_pos rfl]
        · rw [hV' _ (by omega), hl1, if_pos rfl]
      · refine (after_rd ha (fun i => ?_)).right
        rw [← hr, hl2]
        by_cases e : off / 8 = i
        · rw [if_pos e]; subst e
          rcases hV (off / 8) with h | ⟨e, he, _, h4⟩
          · rw [hl1, if_neg (by omega), if_neg (by omega)] at h; exact absurd h hc
          · have := hsub e he; subst this; exact h4
        · rw [if_neg e]; exact hV' i (fun h => e h.symm)
    | 2, _ =>
      have hws : ws = [] := by
        have : ([] : List (Nat × Int)) = ws ++ t := ht
        exact (List.append_eq_nil_iff.1 this.symm).1
      subst hws
      refine (after_rd ha (fun i => ?_)).right
      rcases hV i with h | ⟨e, he, _⟩
      · exact h.trans (hr i)
      · simp at he
/-- The program of a put, in every case. -/
theorem two_put (hok : nodeOk W 768) (hWC : ∀ i, W i = C (off / 8 + i)) (hw : ∀ i, i < 28 → 0 ≤ W i ∧ W i < 18446744073709551616) (hk : 0 ≤ key ∧ key < 18446744073709551616) (hv : 0 ≤ value ∧ value < 18446744073709551616)
    (h8 : off % 8 = 0) (hoff : off + 224 ≤ 768) (he : (putP W off key value).2 = 0) : ∃ gs, TwoG C off (putP W off key value).1 (entsW W (slotsW W)) (setL key value (entsW W (slotsW W))) gs := by
  have ha := put_after hok hWC hw hk hv h8 hoff he
  have hb := before_rd hok hWC hw (E0 := entsW W (slotsW W)) rfl
  have hg := ok_good hok
  unfold putP at he ha ⊢
  by_cases hnr : W 3 = 1 ∧ W 2 ≤ key
  · rw [if_pos hnr] at he; simp at he
  rw [if_neg hnr] at he ha ⊢
  cases hf : foundB W key (slotsW W) with
  | true =>
    rw [hf, if_pos rfl] at ha
    rw [if_pos rfl]
    obtain ⟨s, hs, _⟩ := found_at _ _ _ hf
    have hs12 := hg.lt s (List.mem_of_getElem? hs)
    have hgd : (slotsW W).getD (findIdx W key (slotsW W)) 0 = s := by simp [List.getD, hs]
    rw [hgd] at ha ⊢
    exact ⟨_, two_last hb _ _ (by omega) (by omega) hv ha⟩
  | false =>
    simp only [hf, Bool.false_eq_true, if_false] at he ha ⊢
    by_cases h12 : (slotsW W).length = 12
    · rw [if_pos h12] at he; simp at he
    rw [if_neg h12] at ha ⊢
    obtain ⟨hs12, hsn⟩ := unusedN_free (slotsW W) (by have := hg.len; omega)
    exact ⟨_, two_new hok hWC hw rfl h8 hoff hs12 hsn hk hv ha⟩
theorem two_del (hok : nodeOk W 768) (hWC : ∀ i, W i = C (off / 8 + i)) (hw : ∀ i, i < 28 → 0 ≤ W i ∧ W i < 18446744073709551616) (h8 : off % 8 = 0) (hoff : off + 224 ≤ 768)
    (hf : foundB W key (slotsW W) = true) : ∃ gs, TwoG C off (delP W off key).1 (entsW W (slotsW W)) (unsetL key (entsW W (slotsW W))) gs := by
  have ha := (del_after hok hWC hw h8 hoff hf).1
  have hb := before_rd hok hWC hw (E0 := entsW W (slotsW W)) rfl
  unfold delP at ha ⊢
  rw [if_pos hf] at ha ⊢
  exact ⟨_, two_last hb _ _ h8 (by omega) (by have := ha.bd 0 (by omega); rw [runC_last, if_pos (by omega)] at this; exact this) ha⟩
end Go.Proofs.YtkoijmoendepgaaGreat

/- LeafReadable, plain: the device behind each instruction of a program of groups. -/
namespace Go.Proofs.YtkoijmoendepgaaGreat
open Go.RowKit

variable {C : Nat → Int} {off : Nat} {p : List (Nat × Nat × Int)} {E0 E1 : List (Int × Int)} {gs : List (List (Nat × Int) × List Nat)} {D0 : Dev} {x : Nat}
theorem TwoG.val (T : TwoG C off p E0 E1 gs) : valP p := by
  intro e he h1
  rw [T.eq] at he
  obtain ⟨g, hg, he⟩ := List.mem_flatMap.1 he
  unfold groupP at he
  rcases List.mem_append.1 he with he | he
  · rcases List.mem_append.1 he with he | he
    · obtain ⟨y, hy, rfl⟩ := List.mem_map.1 he
      exact T.vals g hg y hy
    · obtain ⟨y, hy, rfl⟩ := List.mem_map.1 he
      simp at h1
  · simp at he; subst he; simp at h1
theorem TwoG.prog (T : TwoG C off p E0 E1 gs) : progOk 12 p := by
  intro e he
  rw [T.eq] at he
  obtain ⟨g, hg, he⟩ := List.mem_flatMap.1 he
  have hk := T.ok g hg
  unfold groupP at he
  rcases List.mem_append.1 he with he | he
  · rcases List.mem_append.1 he with he | he
    · obtain ⟨y, hy, rfl⟩ := List.mem_map.1 he
      exact .inl ⟨rfl, (hk.1 y hy).1, (hk.1 y hy).2.1⟩
    · obtain ⟨y, hy, rfl⟩ := List.mem_map.1 he
      exact .inr (.inl ⟨rfl, hk.2 y hy⟩)
  · simp at he; subst he; exact .inr (.inr ⟨rfl, rfl⟩)
/-- The device behind k instructions: now, and in every image. -/
structure RdAt (D : Dev) (off : Nat) (E0 E1 : List (Int × Int)) (last : Bool) : Prop where
  vb : D.VB
  cur : Rd2 D.cur off E0 E1
  img : ∀ ks, Rd2 (D.img ks) off E0 E1
  end1 : last = true → Rd2 D.cur off E1 E1 ∧ ∀ ks, Rd2 (D.img ks) off E1 E1
theorem rd_at_k (T : TwoG C off p E0 E1 gs) (hG : Grp D0 0 12 C [] []) (hU : D0.armed = false) (hV : D0.VB) (k : Nat) (hk : k ≤ p.length) : RdAt (D0.run 0 (p.take k)) off E0 E1 (decide (k = p.length)) := by
  have hvp : valP (p.take k) := fun e he => T.val e (List.mem_of_mem_take he)
  obtain ⟨a, ws, hF, hE⟩ := run_far gs k hG T.ok (by rw [← T.eq]; exact hk) (.inl hU)
  rw [← T.eq] at hF hE
  obtain ⟨fs, hg⟩ := hF.grp
  refine ⟨hV.run _ 0 hvp, T.view a ws _ hF.le hF.pre (fun i => ?_), fun ks => T.view a ws _ hF.le hF.pre (fun i => hg.hst.img ks i), fun hl => ?_⟩
  · rw [hg.hst.cur]
    exact look_may _ _ _
  · have hkl : k = p.length := by simpa using hl
    obtain ⟨_, _, h3⟩ := hE hkl
    exact ⟨T.last _ (fun i => by rw [h3.hst.cur]; rfl), fun ks => T.last _ (fun i => h3.hst.clean ks i)⟩
end Go.Proofs.YtkoijmoendepgaaGreat

/- Contents of a device as bytes: bytesOf and From. -/
namespace Go.Proofs.YtkoijmoendepgaaGreat
open Go.RowKit

/-- Byte i of some words. -/
def byteAt (f : Nat → Int) (i : Nat) : Int := f (i / 8) / 2 ^ (i % 8 * 8) % 256
theorem infoU8 : (Tryz.prog.info? 5).map (fun i => (i.zero, i.size, i.bytes)) = some (some (.int .u8 0), 1, 1) := by kernel_rfl

section
variable {w : World}
theorem mkBytes (wx : World) (n : Nat) (hn : n ≤ 1000000) : (Instr.makeSlice 22 (.int .i64 n) (.int .i64 n)).run Tryz.prog wx = .ok (.slice (some ⟨wx.heap.size, 0, none⟩) n n) (wx.alloc (.cells (madeCells #[.int .u8 0] n) 5)) := by
  obtain ⟨i0, hi, hz0, hz1, hz2⟩ := info_parts infoU8
  have := run_make (P := Tryz.prog) wx 22 5 i0 _ Tryz.underlying22 hi hz0 .i64 .i64 n n (by omega) (by omega) (by rw [hz2]; omega) (by omega)
  rw [hz1] at this
  simpa [Value.cells] using this
theorem mkWords (wx : World) (n : Nat) (hn : n ≤ 1000000) : (Instr.makeSlice 23 (.int .i64 n) (.int .i64 n)).run Tryz.prog wx = .ok (.slice (some ⟨wx.heap.size, 0, none⟩) n n) (wx.alloc (.cells (madeCells #[.int .u64 0] n) 28)) := by
  obtain ⟨i0, hi, hz0, hz1, hz2⟩ := info_parts infoU64
  have := run_make (P := Tryz.prog) wx 23 28 i0 _ Tryz.underlying23 hi hz0 .i64 .i64 n n (by omega) (by omega) (by rw [hz2]; omega) (by omega)
  rw [hz1] at this
  simpa [Value.cells] using this
theorem row_made (w : World) (t : TypeId) (k : IntKind) (n : Nat) : Row (w.alloc (.cells (madeCells #[.int k 0] n) t)) w.heap.size n t (fun _ => .int k 0) :=
  Row.new w _ t _ _ (fun i hi => by simp [madeCells, hi, Nat.mod_one])
/-- Where the bytes stand in a round. -/
structure ByMid (w : World) (f : Nat → Int) (N k : Nat) (wr : World) : Prop where
  row : Row wr w.heap.size N 5 (fun i => .int .u8 (if i < k then byteAt f i else 0))
  bel : Below w.heap.size w wr
theorem ByMid.start (f : Nat → Int) (N : Nat) : ByMid w f N 0 (w.alloc (.cells (madeCells #[.int .u8 0] N) 5)) :=
  ⟨(row_made w 5 .u8 N).congr (fun i _ => by simp), (Below.refl _ _).alloc (Nat.le_refl _) _⟩
theorem ByMid.step {f : Nat → Int} {N k : Nat} {wr : World} (h : ByMid w f N k wr) : ByMid w f N (k + 1) (wr.setCell ⟨w.heap.size, k, none⟩ (.int .u8 (byteAt f k))) := by
  refine ⟨(h.row.set k (.int .u8 (byteAt f k))).congr (fun i _ => ?_), h.bel.setCell (by simp) _⟩
  by_cases e : i = k
  · subst e; simp
  · simp only [e, if_false]
    by_cases e2 : i < k
    · rw [if_pos e2, if_pos (by omega)]
    · rw [if_neg e2, if_neg (by omega)]
set_option maxRecDepth 100000 in
set_option maxHeartbeats 1000000 in
theorem bytesOf_any (sv : Value) (n : Nat) (f : Nat → Int) (h : RdSl w 1 sv n ((List.range n).map fun i => .int .u64 (f i))) (h0 : 0 < n) (hn : n ≤ 32768) (hf : ∀ i, i < n → 0 ≤ f i ∧ f i < 18446744073709551616) :
    Calls Tryz.prog 112 #[sv] w fun r w' => r = .returned (.slice (some ⟨w.heap.size, 0, none⟩) (8 * n) (8 * n)) ∧ Row w' w.heap.size (8 * n) 5 (fun i => .int .u8 (byteAt f i)) ∧ Below w.heap.size w w' := by
  obtain ⟨_, a, c, rfl, hc, h2⟩ := h
  have HR := Lib.hid h2; have HF := Lib.hid hf; clear h2 hf
  obtain ⟨N, hN⟩ : ∃ N, 8 * n = N := ⟨_, rfl⟩
  rw [hN]
  have q1 : (n : Int) * 8 = N := by omega
  have hmk := fun (wx : World) => mkBytes wx N (by omega)
  have hNb : N ≤ 1000000 := by omega
  have HN := Lib.hid hN; clear hN
  have M0 := Lib.hid (ByMid.start (w := w) f N)
  go_enter Tryz.func112, Tryz.ntmps112
  go_wp2_with fail
  go_loopw [4, 11] (fun _ y wr => ∃ k : Nat, k ≤ N ∧ y = .int .i64 k ∧ ByMid w f N k wr) (fun _ y _ => N - (intOf y).toNat)
  case atStart => exact ⟨0, by omega, rfl, M0.out⟩
  case round =>
    obtain ⟨k, hk, rfl, hM⟩ := hrel
    have M := Lib.hid hM
    clear M0
    by_cases hlt : k < N
    · have hlt' : (k : Int) < N := by omega
      have hf1 := hM.row.frozen k
      have hsz : w.heap.size < wr.heap.size := hM.row.lt
      have hcell := hM.row.cell hlt
      obtain ⟨u0, hu0⟩ : ∃ u, wr.cell? ⟨w.heap.size, k, none⟩ = some u := ⟨_, hcell⟩
      obtain ⟨d, hd⟩ : ∃ d, k / 8 = d := ⟨_, rfl⟩
      obtain ⟨r, hr⟩ : ∃ r, k % 8 = r := ⟨_, rfl⟩
      have q2 : (k : Int) / 8 = d := by omega
      have q3 : (k : Int) % 8 = r := by omega
      have hdn : (d : Int) < n := by have := HN.out; omega
      have hr8 : r < 8 := by omega
      have hx : ((List.range n).map fun i => Value.int .u64 (f i))[d]? = some (.int .u64 (f d)) := by rw [List.getElem?_map, List.getElem?_range (by omega)]; rfl
      obtain ⟨b, o, rfl, h3⟩ := rd_at HR.out hx
      have c1 := (hM.bel.cell (p := ⟨b, o + d, none⟩) (World.block_lt_of_cell? _ _ (h3 d _ hx))).trans (h3 d _ hx)
      have F := Lib.hid (HF.out d (by omega))
      have E := Lib.hid (And.intro hd hr)
      clear hM hcell hx h3 hd hr
      go_wp2_with fail
      exact ⟨⟨k + 1, by omega, by go_num, by rw [← E.out.1, ← E.out.2]; exact M.out.step⟩, by simp [intOf]; omega⟩
    · obtain rfl : k = N := by omega
      go_wp2_with fail
      go_ret
      exact ⟨rfl, M.out.row.congr (fun i hi => by rw [if_pos hi]), M.out.bel⟩

end
/-- The word that the first r bytes of word d give. -/
def wv (b : Nat → Int) (d : Nat) : Nat → Int
  | 0 => 0
  | r + 1 => wv b d r + b (8 * d + r) * 2 ^ (r * 8)
/-- The words of bytes, of which k have been read. -/
def wordsOf (b : Nat → Int) (k i : Nat) : Int := wv b i (min 8 (k - 8 * i))
theorem wv_lt (b : Nat → Int) (d : Nat) : ∀ r, (∀ j, j < r → 0 ≤ b (8 * d + j) ∧ b (8 * d + j) < 256) → 0 ≤ wv b d r ∧ wv b d r < 2 ^ (r * 8) := by
  intro r
  induction r with
  | zero => intro _; simp [wv]
  | succ r ih =>
    intro hb
    obtain ⟨h1, h2⟩ := ih (fun j hj => hb j (by omega))
    obtain ⟨h3, h4⟩ := hb r (by omega)
    have e : (2 : Int) ^ ((r + 1) * 8) = 2 ^ (r * 8) * 256 := by rw [show (r + 1) * 8 = r * 8 + 8 by omega, Int.pow_add]; rfl
    rw [e]
    simp only [wv]
    generalize (2 : Int) ^ (r * 8) = P at *
    generalize b (8 * d + r) = x at *
    have h5 : x * P ≤ 255 * P := Int.mul_le_mul_of_nonneg_right (by omega) (by omega)
    have h6 : 0 ≤ x * P := Int.mul_nonneg h3 (by omega)
    omega
theorem wv_byte (f : Nat → Int) (d : Nat) (x : Nat) (hx : f d = x) : ∀ r, r ≤ 8 → wv (byteAt f) d r = ((x % 2 ^ (r * 8) : Nat) : Int) := by
  intro r
  induction r with
  | zero => intro _; simp [wv, Nat.mod_one]
  | succ r ih =>
    intro hr
    simp only [wv]
    rw [ih (by omega)]
    have e1 : byteAt f (8 * d + r) = ((x / 2 ^ (r * 8) % 256 : Nat) : Int) := by
      unfold byteAt
      rw [show (8 * d + r) / 8 = d by omega, show (8 * d + r) % 8 = r by omega, hx]
      simp
    have e2 : 2 ^ ((r + 1) * 8) = 2 ^ (r * 8) * 256 := by rw [show (r + 1) * 8 = r * 8 + 8 by omega, Nat.pow_add]
    rw [e1, e2, Nat.mod_mul]
    have e3 : ((2 : Int) ^ (r * 8)) = ((2 ^ (r * 8) : Nat) : Int) := by simp
    rw [e3]
    generalize 2 ^ (r * 8) = P
    rw [← Int.natCast_mul, ← Int.natCast_add, Nat.mul_comm P]
theorem wordsOf_bytes (f : Nat → Int) (n i : Nat) (hi : i < n) (hf : 0 ≤ f i ∧ f i < 18446744073709551616) : wordsOf (byteAt f) (8 * n) i = f i := by
  unfold wordsOf
  rw [show min 8 (8 * n - 8 * i) = 8 by omega, wv_byte f i (f i).toNat (by omega) 8 (Nat.le_refl _)]
  rw [Nat.mod_eq_of_lt (by omega)]; omega
theorem wordsOf_zero (b : Nat → Int) (i : Nat) : wordsOf b 0 i = 0 := by simp [wordsOf, wv]
theorem wordsOf_step (b : Nat → Int) (k i : Nat) : wordsOf b (k + 1) i = if i = k / 8 then wordsOf b k i + b k * 2 ^ (k % 8 * 8) else wordsOf b k i := by
  unfold wordsOf
  by_cases e : i = k / 8
  · subst e
    rw [if_pos rfl, show min 8 (k + 1 - 8 * (k / 8)) = k % 8 + 1 by omega, show min 8 (k - 8 * (k / 8)) = k % 8 by omega]
    simp only [wv]
    rw [show 8 * (k / 8) + k % 8 = k by omega]
  · rw [if_neg e]
    by_cases h : 8 * i + 8 ≤ k
    · rw [show min 8 (k + 1 - 8 * i) = 8 by omega, show min 8 (k - 8 * i) = 8 by omega]
    · rw [show min 8 (k + 1 - 8 * i) = 0 by omega, show min 8 (k - 8 * i) = 0 by omega]
theorem or_byte (a x r : Nat) (ha : a < 2 ^ (r * 8)) (hx : x < 256) (hr : r < 8) : bits BinOp.or IntKind.u64 (a : Int) (IntKind.u64.wrap ((x : Int) * 2 ^ (r * 8))) = (a : Int) + (x : Int) * 2 ^ (r * 8) := by
  have e3 : ((2 : Int) ^ (r * 8)) = ((2 ^ (r * 8) : Nat) : Int) := by simp
  have hp : 2 ^ (r * 8) ≤ 2 ^ 56 := Nat.pow_le_pow_right (by omega) (by omega)
  have h1 : x * 2 ^ (r * 8) < 18446744073709551616 := by
    have : x * 2 ^ (r * 8) ≤ 255 * 2 ^ 56 := Nat.mul_le_mul (by omega) hp
    omega
  rw [e3, ← Int.natCast_mul, IntWalk.u64_in _ (by omega), bits_or_u64_nat _ _ (by omega) h1]
  rw [Nat.mul_comm x, Nat.or_comm, ← Nat.two_pow_add_eq_or_of_lt ha, ← Int.natCast_add]
  congr 1; omega
section
variable {w : World}
structure FrMid (w : World) (b : Nat → Int) (m k : Nat) (wr : World) : Prop where
  row : Row wr w.heap.size m 28 (fun i => .int .u64 (wordsOf b k i))
  bel : Below w.heap.size w wr
theorem FrMid.start (b : Nat → Int) (m : Nat) : FrMid w b m 0 (w.alloc (.cells (madeCells #[.int .u64 0] m) 28)) :=
  ⟨(row_made w 28 .u64 m).congr (fun i _ => by rw [wordsOf_zero]), (Below.refl _ _).alloc (Nat.le_refl _) _⟩
theorem FrMid.step {b : Nat → Int} {m k : Nat} {wr : World} (h : FrMid w b m k wr) : FrMid w b m (k + 1) (wr.setCell ⟨w.heap.size, k / 8, none⟩ (.int .u64 (wordsOf b k (k / 8) + b k * 2 ^ (k % 8 * 8)))) := by
  refine ⟨(h.row.set (k / 8) _).congr (fun i _ => ?_), h.bel.setCell (by simp) _⟩
  rw [wordsOf_step]
  by_cases e : i = k / 8
  · subst e; simp
  · simp [e]
set_option maxRecDepth 100000 in
set_option maxHeartbeats 1000000 in
theorem devFrom_any (sv : Value) (n : Nat) (b : Nat → Int) (h : RdSl w 1 sv (64 * n) ((List.range (64 * n)).map fun i => .int .u8 (b i))) (h0 : 0 < n) (hn : n ≤ 4096) (hb : ∀ i, i < 64 * n → 0 ≤ b i ∧ b i < 256) :
    Calls Tryz.prog 86 #[sv] w fun r w' => ∃ v own, r = .returned (.tuple #[.pointer (some ⟨v.db, 0, none⟩), .int .i64 0]) ∧ IsDev w' v own (Dev.fresh n (wordsOf b (64 * n))) ∧ (∀ k, own k ≠ none → w.heap.size ≤ k) ∧ Below w.heap.size w w' := by
  obtain ⟨_, sa, sc, rfl, hsc, h2⟩ := h
  have HR := Lib.hid h2; have HB := Lib.hid hb; clear h2 hb
  obtain ⟨m, hm⟩ : ∃ m, 8 * n = m := ⟨_, rfl⟩
  obtain ⟨N, hN⟩ : ∃ N, 64 * n = N := ⟨_, rfl⟩
  have HOF := Lib.hid (fun (wx : World) (hx : Row wx w.heap.size m 28 (fun i => .int .u64 (wordsOf b N i))) => of_any (w := wx) w.heap.size m n (wordsOf b N) (by rw [hm]; exact hx) h0 hn (by omega))
  rw [hm] at HOF
  rw [hN] at HR HB ⊢
  have q1 : (N : Int) % 64 = 0 := by omega
  have q2 : (N : Int) / 64 = n := by omega
  have q3 : (N : Int) / 8 = m := by omega
  have q4 : ((N : Int) == 0) = false := by simp; omega
  have q5 : ¬ (4096 : Int) < n := by omega
  have hmk := fun (wx : World) => mkWords wx m (by omega)
  have hNb : N ≤ 1000000 := by omega
  have HM := Lib.hid (And.intro hm hN); clear hm hN
  have M0 := Lib.hid (FrMid.start (w := w) b m)
  go_enter Tryz.func86, Tryz.ntmps86
  go_wp2_with fail
  go_loopw [5, 6, 26] (fun _ _ y wr => ∃ k : Nat, k ≤ N ∧ y = .int .i64 k ∧ FrMid w b m k wr) (fun _ _ y _ => N - (intOf y).toNat)
  case atStart => exact ⟨0, by omega, rfl, M0.out⟩
  case round =>
    obtain ⟨k, hk, rfl, hM⟩ := hrel
    have M := Lib.hid hM
    clear M0
    by_cases hlt : k < N
    · have hlt' : (k : Int) < N := by omega
      have hsz : w.heap.size < wr.heap.size := hM.row.lt
      obtain ⟨d, hd⟩ : ∃ d, k / 8 = d := ⟨_, rfl⟩
      obtain ⟨r, hr⟩ : ∃ r, k % 8 = r := ⟨_, rfl⟩
      have hf1 := hM.row.frozen d
      have q6 : (k : Int) / 8 = d := by omega
      have q7 : (k : Int) % 8 = r := by omega
      have hdn : (d : Int) < m := by have := HM.out; omega
      have hr8 : r < 8 := by omega
      have hcell := hM.row.cell (i := d) (by omega)
      have hx : ((List.range N).map fun i => Value.int .u8 (b i))[k]? = some (.int .u8 (b k)) := by rw [List.getElem?_map, List.getElem?_range hlt]; rfl
      obtain ⟨bb, o, rfl, h3⟩ := rd_at HR.out hx
      have c1 := (hM.bel.cell (p := ⟨bb, o + k, none⟩) (World.block_lt_of_cell? _ _ (h3 k _ hx))).trans (h3 k _ hx)
      obtain ⟨hb1, hb2⟩ := HB.out k hlt
      have hor : bits BinOp.or IntKind.u64 (wordsOf b k d) (IntKind.u64.wrap (b k * 2 ^ (r * 8))) = wordsOf b k d + b k * 2 ^ (r * 8) := by
        have e1 : wordsOf b k d = wv b d r := by unfold wordsOf; rw [show min 8 (k - 8 * d) = r by omega]
        have e2 := wv_lt b d r (fun j hj => HB.out _ (by omega))
        rw [e1]
        obtain ⟨a, ha⟩ : ∃ a : Nat, wv b d r = a := ⟨_, (Int.toNat_of_nonneg e2.1).symm⟩
        obtain ⟨x, hx⟩ : ∃ x : Nat, b k = x := ⟨_, (Int.toNat_of_nonneg hb1).symm⟩
        rw [ha, hx]
        refine or_byte a x r ?_ (by omega) hr8
        have e3 : ((2 : Int) ^ (r * 8)) = ((2 ^ (r * 8) : Nat) : Int) := by simp
        rw [ha, e3] at e2
        omega
      have HO := Lib.hid hor
      have E := Lib.hid (And.intro hd hr)
      clear hM hx h3 hd hr
      go_wp2_with fail
      exact ⟨⟨k + 1, by omega, by go_num, by rw [← E.out.1, ← E.out.2]; exact M.out.step⟩, by simp [intOf]; omega⟩
    · obtain rfl : k = N := by omega
      have HF := Lib.hid (HOF.out wr M.out.row)
      go_wp2_with fail
      (with_reducible refine HF.out.mono ?_)
      rintro e w1 ⟨v, own, rfl, _, _, hd, ho, hbl⟩
      have HD := Lib.hid (And.intro hd (And.intro ho hbl)); clear hd ho hbl
      go_wp2_with fail
      go_ret2
      exact ⟨v, own, rfl, HD.out.1, fun j hj => by
        rcases HD.out.2.1 j hj with h | h
        · omega
        · exact Nat.le_trans M.out.bel.size h, M.out.bel.trans (HD.out.2.2.mono M.out.bel.size)⟩
end
end Go.Proofs.YtkoijmoendepgaaGreat

/- The dirty lines of a device, its crash images, and the device after a crash. -/
namespace Go.Proofs.YtkoijmoendepgaaGreat
open Go.RowKit

def Dev.dirtyL (D : Dev) : List Nat := (List.range D.n).filter fun l => decide (0 < (D.hist l).length)
/-- Of line l the first k stores come through, too. -/
theorem img_step (D : Dev) (hw : D.WF) (ks : Nat → Nat) (l k : Nat) (hl : l < D.n) (h0 : ks l = 0) (i : Nat) : applied ((D.hist l).take k) (D.img ks) i = D.img (fun m => if m = l then k else ks m) i := by
  show look _ (look ((D.hist (i / 8)).take (ks (i / 8))) (D.pers i) i) i = look ((D.hist (i / 8)).take (if i / 8 = l then k else ks (i / 8))) (D.pers i) i
  by_cases e : i / 8 = l
  · rw [if_pos e, e, h0, List.take_zero]; rfl
  · rw [if_neg e]
    exact look_other _ _ _ (fun x hx => by
      have := (hw.line l hl x (List.mem_of_mem_take hx)).1
      omega)
section
variable {w : World} {v : DV} {own : Nat → Option Role} {D : Dev}
structure DirtyAt (w : World) (D : Dev) (k : Nat) (sv : Value) (wr : World) : Prop where
  acc : Acc w w.heap.size wr 3 1 sv ((List.range k).filter fun l => decide (0 < (D.hist l).length)).length (natsI ((List.range k).filter fun l => decide (0 < (D.hist l).length)))
theorem dirty_skip {k : Nat} {sv : Value} {wr : World} (h : DirtyAt w D k sv wr) (he : (D.hist k).length = 0) : DirtyAt w D (k + 1) sv wr := by
  have e : (List.range (k + 1)).filter (fun l => decide (0 < (D.hist l).length)) = (List.range k).filter fun l => decide (0 < (D.hist l).length) := by
    rw [List.range_succ, List.filter_append]; simp [he]
  exact ⟨by rw [e]; exact h.acc⟩
theorem dirty_add {k : Nat} {sv : Value} {wr : World} (he : 0 < (D.hist k).length)
    (h : Acc w w.heap.size wr 3 1 sv (((List.range k).filter fun l => decide (0 < (D.hist l).length)).length + 1) (natsI ((List.range k).filter fun l => decide (0 < (D.hist l).length)) ++ [.int .i64 k])) : DirtyAt w D (k + 1) sv wr := by
  have e : (List.range (k + 1)).filter (fun l => decide (0 < (D.hist l).length)) = ((List.range k).filter fun l => decide (0 < (D.hist l).length)) ++ [k] := by
    rw [List.range_succ, List.filter_append]; simp [he]
  exact ⟨by rw [e]; exact h.congr (by simp) (by simp [natsI])⟩
theorem IsDev.hlen (h : IsDev w v own D) {l : Nat} (hl : l < D.n) : (D.hist l).length ≤ maxLen := by
  obtain ⟨hv, _, h2⟩ := line_at h
  rcases (h2 l hl).1.2 with ⟨_, h0⟩ | ⟨_, _, cap, _, _, _, h3, h4, _⟩
  · rw [h0]; unfold maxLen; omega
  · exact Nat.le_trans h3 h4
theorem filt_len (D : Dev) (k : Nat) : ((List.range k).filter fun l => decide (0 < (D.hist l).length)).length ≤ k := by
  have := List.length_filter_le (fun l => decide (0 < (D.hist l).length)) (List.range k); simpa using this
set_option maxRecDepth 100000 in
set_option maxHeartbeats 2000000 in
theorem dirty_any (h : IsDev w v own D) :
    Calls Tryz.prog 110 #[.pointer (some ⟨v.db, 0, none⟩)] w fun r w' => ∃ sv, r = .returned sv ∧ Acc w w.heap.size w' 3 1 sv D.dirtyL.length (natsI D.dirtyL) := by
  have hn := h.wf.le
  obtain ⟨i0, hi0, hz0, hz1, hz2⟩ := info_parts infoInt
  have I := Lib.hid (And.intro hi0 (And.intro hz0 (And.intro hz1 hz2))); clear hi0 hz0 hz1 hz2
  have H := Lib.hid h
  have HF := Lib.hid (filt_len D)
  have HS : Hid (∀ k sv wr, DirtyAt w D k sv wr → (D.hist k).length = 0 → DirtyAt w D (k + 1) sv wr) := Lib.hid (fun k sv wr h1 h2 => dirty_skip h1 h2)
  have HE := Lib.hid (fun k sv wr h1 h2 => dirty_add (w := w) (D := D) (k := k) (sv := sv) (wr := wr) h1 h2)
  unfold Dev.dirtyL
  have hd2 : w.cell? ⟨v.db, 2, none⟩ = some (.slice (some ⟨v.lb, 0, none⟩) D.n D.n) := h.dev.cell rfl
  clear h
  generalize hN : D.n = n at *
  have HN := Lib.hid hN; clear hN
  go_enter Tryz.func110, Tryz.ntmps110
  go_wp2_with fail
  go_loopw [3, 4, 12] (fun sv _ y wr => ∃ k : Nat, k ≤ n ∧ y = .int .i64 k ∧ DirtyAt w D k sv wr) (fun _ _ y _ => n - (intOf y).toNat)
  case atStart => exact ⟨0, by omega, rfl, ⟨Acc.nil w _ _ _ _ (Below.refl _ _) (Nat.le_refl _)⟩⟩
  case round =>
    obtain ⟨k, hk, rfl, ha⟩ := hrel
    obtain ⟨la, lc, hsv⟩ := ha.acc.slice
    subst hsv
    have A := Lib.hid ha; clear ha
    have d2 : wr.cell? ⟨v.db, 2, none⟩ = some (.slice (some ⟨v.lb, 0, none⟩) n n) := (A.out.acc.bel.cell (p := ⟨v.db, 2, none⟩) H.out.dev.lt).trans hd2
    by_cases hlt : k < n
    · have hlt' : (k : Int) < n := by omega
      obtain ⟨hv, l1, l2⟩ := line_at H.out
      have hlb : v.lb < w.heap.size := by obtain ⟨_, h1, _⟩ := H.out.lines; exact h1.lt
      obtain ⟨ha, hc, hve⟩ := (l2 k (by rw [HN.out]; exact hlt)).1.slice
      have c1 := (A.out.acc.bel.cell (p := ⟨v.lb, k * 2 + 1, none⟩) hlb).trans (l1 k (by rw [HN.out]; exact hlt)).2
      rw [hve] at c1
      have hb := H.out.hlen (l := k) (by rw [HN.out]; exact hlt)
      unfold maxLen at hb
      have hf := HF.out k
      have HS1 := Lib.hid (HS.out k _ _ A.out)
      have HE1 := Lib.hid (HE.out k)
      clear l1 l2 hve hv hlb
      generalize hlen : (D.hist k).length = q at *
      clear hlen
      by_cases hq : 0 < q
      · have hq' : (0 : Int) < q := by omega
        have A2 := Lib.hid A.out.acc
        have HE2 := Lib.hid (fun sv wr => HE1.out sv wr hq)
        generalize hL : (List.range k).filter (fun l => decide (0 < (D.hist l).length)) = L at *
        clear hL A
        go_wp2_with (at_builtin; refine wpList_append_sl _ rfl _ _ 113 rfl 3 i0 _ 1 8 Tryz.underlying113 I.out.1 I.out.2.1 I.out.2.2.1 I.out.2.2.2 rfl (by decide) _ L.length (natsI L) rfl (by exact A2.out.own.alloc _) _ 1 _ rfl (by exact RdSl.newAt _ _ _ 1 1 _ rfl rfl) (one_int _ _) (by unfold maxLen; omega) (by omega) ?_)
        intro v1 w1 o1 g1 b1 n1
        have A1 := Lib.hid (A2.out.next (below_alloc _ _) o1 g1 b1 (by simp)); clear o1 g1 b1 n1
        go_wp2_with fail
        go_roundw
        case rel => exact ⟨k + 1, by omega, by go_num, HE2.out _ _ A1.out⟩
        case measure => simp [intOf]; omega
      · have hq' : ¬ (0 : Int) < q := by omega
        go_wp2_with fail
        go_roundw
        case rel => exact ⟨k + 1, by omega, by go_num, HS1.out (by omega)⟩
        case measure => simp [intOf]; omega
    · obtain rfl : k = n := by omega
      go_wp2_with fail
      go_ret
      exact ⟨_, rfl, A.out.acc⟩
/-- The image while it is made: the lines of L that have been taken have come through in part. -/
structure ImSt (w : World) (D : Dev) (g : Nat) (L : List Nat) (k : Nat) (wr : World) : Prop where
  ks : ∃ ks : Nat → Nat, (∀ l, ks l ≤ (D.hist l).length) ∧ (∀ l, l ∉ L.take k → ks l = 0) ∧ Row wr g (8 * D.n) 28 (fun i => .int .u64 (D.img ks i))
  upd : Upd (fun j => j = g) w wr
theorem ImSt.start {g : Nat} {L : List Nat} (hr : Row w g (8 * D.n) 28 (fun i => .int .u64 (D.pers i))) : ImSt w D g L 0 w :=
  ⟨⟨fun _ => 0, fun _ => Nat.zero_le _, fun _ _ => rfl, hr.congr (fun i _ => by simp [Dev.img, look])⟩, Upd.refl _ _⟩
theorem ImSt.step {g l k q : Nat} {L : List Nat} {wr w1 : World} (hw : D.WF) (hnd : L.Nodup) (hl : L[k]? = some l) (hln : l < D.n) (hq : q ≤ (D.hist l).length)
    (ks : Nat → Nat) (h1 : ∀ l, ks l ≤ (D.hist l).length) (h2 : ∀ l, l ∉ L.take k → ks l = 0) (hbw : Upd (fun j => j = g) w wr)
    (hr : Row w1 g (8 * D.n) 28 (fun i => .int .u64 (applied ((D.hist l).take q) (D.img ks) i))) (hu : Upd (fun j => j = g) wr w1) : ImSt w D g L (k + 1) w1 := by
  have hlt : l ∉ L.take k := fun hm => by
    obtain ⟨i, hi, e⟩ := List.mem_iff_getElem.1 hm
    have hik : i < k := by simp at hi; omega
    obtain ⟨hkl, e2⟩ := List.getElem?_eq_some_iff.1 hl
    have e3 : L[i]'(by omega) = L[k] := by rw [e2, ← e]; simp
    exact List.pairwise_iff_getElem.1 hnd i k (by omega) hkl hik e3
  have ht : L.take (k + 1) = L.take k ++ [l] := by rw [List.take_add_one, hl]; rfl
  refine ⟨⟨fun m => if m = l then q else ks m, fun m => ?_, fun m hm => ?_, hr.congr (fun i _ => by rw [img_step D hw ks l q hln (h2 l hlt)])⟩, hbw.trans hu (fun _ _ h => h)⟩
  · by_cases e : m = l
    · subst e; simpa using hq
    · simpa [e] using h1 m
  · rw [ht] at hm
    have e : m ≠ l := fun e => hm (by simp [e])
    simp only [if_neg e]
    exact h2 m (fun h => hm (by simp [h]))
theorem below_upd {wr : World} {B g : Nat} {w0 : World} (h : Below B w0 w) (hu : Upd (fun j => j = g) w wr) (hB : B ≤ w.heap.size) (hg : B ≤ g) : Below B w0 wr :=
  ⟨hu.os.trans h.os, hu.tape.trans h.tape, hu.output.trans h.output, Nat.le_trans h.size hu.size, fun j hj => (hu.block j (by omega) (by omega)).trans (h.block j hj)⟩
/-- What Image leaves: the bytes of a crash image. -/
def ImPost (w : World) (D : Dev) (r : Ending) (w' : World) : Prop := ∃ (ks : Nat → Nat) (g : Nat), (∀ l, ks l ≤ (D.hist l).length) ∧ w.heap.size ≤ g ∧ r = .returned (.slice (some ⟨g, 0, none⟩) (64 * D.n) (64 * D.n)) ∧ Row w' g (64 * D.n) 5 (fun i => .int .u8 (byteAt (D.img ks) i)) ∧ Below w.heap.size w w'
theorem bytesOf_at {g c n : Nat} {f : Nat → Int} (h : Row w g (8 * n) 28 (fun i => .int .u64 (f i))) (hc : 8 * n ≤ c) (h0 : 0 < n) (hn : n ≤ 4096) (hf : ∀ i, 0 ≤ f i ∧ f i < 18446744073709551616) :
    Calls Tryz.prog 112 #[.slice (some ⟨g, 0, none⟩) (8 * n) c] w fun r w' => r = .returned (.slice (some ⟨w.heap.size, 0, none⟩) (64 * n) (64 * n)) ∧ Row w' w.heap.size (64 * n) 5 (fun i => .int .u8 (byteAt f i)) ∧ Below w.heap.size w w' := by
  have := bytesOf_any (w := w) (.slice (some ⟨g, 0, none⟩) (8 * n) c) (8 * n) f ?_ (by omega) (by omega) (fun i _ => hf i)
  · rwa [show 8 * (8 * n) = 64 * n by omega] at this
  · refine ⟨by simp, _, _, rfl, hc, .inr ⟨g, 0, rfl, fun j u hu => ?_⟩⟩
    obtain ⟨hj, e⟩ := List.getElem?_eq_some_iff.1 hu
    have hj' : j < 8 * n := by simpa using hj
    rw [Nat.zero_add, h.cell hj', ← e]; simp
set_option maxRecDepth 100000 in
set_option maxHeartbeats 4000000 in
theorem image_any (h : IsDev w v own D) (hvb : D.VB) (cv : Value) (cs : List Int) (hc : RdSl w 1 cv cs.length (cs.map fun x => .int .u8 x)) (hcb : ∀ x ∈ cs, 0 ≤ x ∧ x < 256) (hcl : cs.length ≤ maxLen) (hex : D.exec < 4611686018427387904) :
    Calls Tryz.prog 87 #[.pointer (some ⟨v.db, 0, none⟩), cv] w (ImPost w D) := by
  have hn := h.wf.le; have hn0 := h.wf.pos
  unfold maxLen at hcl
  have d0 : w.cell? ⟨v.db, 0, none⟩ = some (.slice (some ⟨v.pb, 0, none⟩) (8 * D.n) v.pc) := h.dev.cell rfl
  have d2 : w.cell? ⟨v.db, 2, none⟩ = some (.slice (some ⟨v.lb, 0, none⟩) D.n D.n) := h.dev.cell rfl
  have HCL := Lib.hid (cloneU_any (w := w) ⟨v.pb, 0, none⟩ (8 * D.n) v.pc ((List.range (8 * D.n)).map fun i => .int .u64 (D.pers i)) ⟨by simp, _, _, rfl, h.pcs.1, .inr ⟨_, _, rfl, fun j u hu => by
    obtain ⟨hj, e⟩ := List.getElem?_eq_some_iff.1 hu
    have hj' : j < 8 * D.n := by simpa using hj
    rw [Nat.zero_add, h.pers.cell hj', ← e]; simp⟩⟩ (fun u hu => by simp at hu; obtain ⟨i, _, rfl⟩ := hu; rfl) (by omega))
  have H := Lib.hid h; have HV := Lib.hid hvb; have HC := Lib.hid hc; have HCB := Lib.hid hcb
  clear h hvb hcb
  obtain ⟨_, ca, cc, rfl, hcc, _⟩ := hc
  generalize hm : cs.length = m at *
  have HM := Lib.hid hm; clear hm
  obtain ⟨n8, h8⟩ : ∃ k, 8 * D.n = k := ⟨_, rfl⟩
  rw [h8] at d0 HCL
  have H8 := Lib.hid h8; clear h8
  go_enter Tryz.func87, Tryz.ntmps87
  go_wp2_with fail
  (with_reducible refine HCL.out.mono ?_)
  rintro e w1 ⟨g, cap, rfl, co, hg, b1⟩
  have CO : Hid (Row w1 g (8 * D.n) 28 (fun i => .int .u64 (D.pers i)) ∧ 8 * D.n ≤ cap) := Lib.hid (by have := OwnSl.row (F := fun i => .int .u64 (D.pers i)) co; rwa [H8.out])
  have B1 := Lib.hid b1
  clear co b1 HCL d0
  have HBY := Lib.hid (fun wx (f : Nat → Int) (hr : Row wx g (8 * D.n) 28 (fun i => .int .u64 (f i))) (hf : ∀ i, 0 ≤ f i ∧ f i < 18446744073709551616) => by
    have := bytesOf_at hr CO.out.2 hn0 hn hf
    rwa [H8.out] at this)
  by_cases hm0 : 0 < m
  · have hm0' : (0 : Int) < m := by omega
    have HD := Lib.hid (dirty_any (H.out.kept B1.out.size (fun k hk => B1.out.block k (H.out.lt k hk))))
    go_wp2_with fail
    (with_reducible refine HD.out.mono ?_)
    rintro e w2 ⟨lv, rfl, ha⟩
    obtain ⟨la, lc, hlv⟩ := ha.slice
    subst hlv
    have A := Lib.hid ha; clear ha HD
    have HND : Hid (D.dirtyL.Nodup ∧ ∀ l ∈ D.dirtyL, l < D.n) := Lib.hid ⟨List.Nodup.sublist List.filter_sublist List.nodup_range, fun l hl => by
      have := (List.mem_filter.1 hl).1; simpa using this⟩
    have hdl : D.dirtyL.length ≤ D.n := by unfold Dev.dirtyL; exact filt_len D D.n
    have B2 : Hid (Below w.heap.size w w2) := Lib.hid (B1.out.trans (A.out.bel.mono B1.out.size))
    have I0 : Hid (ImSt w2 D g D.dirtyL 0 w2) := Lib.hid (ImSt.start (CO.out.1.below A.out.bel))
    have HG1 : Hid (g < w1.heap.size ∧ w.heap.size ≤ w2.heap.size) := Lib.hid ⟨CO.out.1.lt, B2.out.size⟩
    generalize hL : D.dirtyL = L at *
    clear hL
    go_wp2_with fail
    go_loopw [6, 7, 8, 9, 23] (fun _ _ _ _ y wr => ∃ k : Nat, k ≤ L.length ∧ y = .int .i64 k ∧ ImSt w2 D g L k wr) (fun _ _ _ _ y _ => L.length - (intOf y).toNat)
    case atStart => exact ⟨0, by omega, rfl, I0.out⟩
    case round =>
      obtain ⟨k, hk, rfl, hI⟩ := hrel
      have IS := Lib.hid hI; clear hI I0
      obtain ⟨ks, k1, k2, k3⟩ := IS.out.ks
      have KS := Lib.hid (And.intro k1 (And.intro k2 k3)); clear k1 k2 k3
      have BR : Hid (Below w.heap.size w wr) := Lib.hid (below_upd B2.out IS.out.upd HG1.out.2 hg)
      by_cases hlt : k < L.length
      · have hlt' : (k : Int) < L.length := by omega
        obtain ⟨l, hl⟩ : ∃ l, L[k]? = some l := ⟨_, List.getElem?_eq_getElem hlt⟩
        have hln := HND.out.2 l (List.mem_of_getElem? hl)
        have hln' : (l : Int) < D.n := by omega
        have hrd := A.out.rd.upd IS.out.upd (fun j hj e => by have := A.out.new j hj; have := HG1.out.1; omega)
        obtain ⟨_, a', c', e', _, hE⟩ := hrd
        cases e'
        have hxl : (natsI L)[k]? = some (.int .i64 l) := by simp [natsI, hl]
        obtain ⟨lb, lo, rfl, hE2⟩ := rd_at hE hxl
        have c1 := hE2 k _ hxl
        have hcr := HC.out.below BR.out
        obtain ⟨_, a', c', e', _, hE3⟩ := hcr
        cases e'
        obtain ⟨r, hr⟩ : ∃ r, k % m = r := ⟨_, rfl⟩
        have hrm : r < m := by rw [← hr]; exact Nat.mod_lt _ hm0
        have q1 : (k : Int) % m = r := by rw [← hr]; rfl
        obtain ⟨x, hx⟩ : ∃ x, cs[r]? = some x := ⟨_, List.getElem?_eq_getElem (by rw [HM.out]; exact hrm)⟩
        have hxc : (cs.map fun x => Value.int .u8 x)[r]? = some (.int .u8 x) := by simp [hx]
        obtain ⟨cb, co, rfl, hE4⟩ := rd_at hE3 hxc
        have c2 := hE4 r _ hxc
        obtain ⟨hx0, hx1⟩ := HCB.out x (List.mem_of_getElem? hx)
        have d3 : wr.cell? ⟨v.db, 2, none⟩ = some (.slice (some ⟨v.lb, 0, none⟩) D.n D.n) := (BR.out.cell (p := ⟨v.db, 2, none⟩) H.out.dev.lt).trans d2
        obtain ⟨hv, l1, l2⟩ := line_at H.out
        have hlb : v.lb < w.heap.size := by obtain ⟨_, h1, _⟩ := H.out.lines; exact h1.lt
        obtain ⟨ha, hcap, hve⟩ := (l2 l hln).1.slice
        have hh := (l2 l hln).1
        have c3 := (BR.out.cell (p := ⟨v.lb, l * 2 + 1, none⟩) hlb).trans (l1 l hln).2
        rw [hve] at c3 hh
        have HH := Lib.hid hh
        have hcapl : (D.hist l).length ≤ hcap := by obtain ⟨_, _, _, e, hc, _⟩ := hh.rd; cases e; exact hc
        have hb : (D.hist l).length < 4611686018427387904 := by have := H.out.wf.cnt l hln; omega
        have HX := Lib.hid (And.intro hl hln); have HR := Lib.hid hr
        have hrm' : (r : Int) < m := by omega
        obtain ⟨z, hz⟩ : ∃ z : Nat, x % (((D.hist l).length : Int) + 1) = z := ⟨_, (Int.toNat_of_nonneg (Int.emod_nonneg _ (by omega))).symm⟩
        have hzq : z ≤ (D.hist l).length := by have := Int.emod_lt_of_pos x (show (0 : Int) < ((D.hist l).length : Int) + 1 by omega); omega
        have hzc : (z : Int) ≤ hcap := by omega
        have HAP := Lib.hid (fun (wx : World) (hx : wx = wr) => by
          have hrw : RdSl wr 2 (.slice ha z hcap) ((D.hist l).take z).length (flat ((D.hist l).take z)) := by
            rw [List.length_take, Nat.min_eq_left hzq]
            exact (HH.out.rd.below BR.out).take z hzq
          have := apply_any g (8 * D.n) cap (D.img ks) (.slice ha z hcap) ((D.hist l).take z) KS.out.2.2 hrw (fun j hj => by
            have h3 := HH.out.lt j (by rw [ownBlock_len (n' := z) (c' := hcap)]; exact hj)
            omega) (fun e he => by have := (H.out.wf.line l hln e (List.mem_of_mem_take he)).1; omega) (by omega) (by rw [List.length_take]; omega)
          rw [H8.out] at this
          exact this)
        clear hE hE2 hE3 hE4 hx hxc hxl l1 l2 hve hv hlb hh hl hr hrm
        generalize hq : (D.hist l).length = q at *
        have HQ := Lib.hid hq; clear hq
        go_wp2_with fail
        (with_reducible refine (HAP.out _ rfl).mono ?_)
        rintro e w3 ⟨rfl, r3, u3⟩
        have I3 : Hid (ImSt w2 D g L (k + 1) w3) := Lib.hid (IS.out.upd |> fun hu => ImSt.step H.out.wf HND.out.1 HX.out.1 HX.out.2 (by rw [HQ.out]; exact hzq) ks KS.out.1 KS.out.2.1 hu (by rw [H8.out]; exact r3) u3)
        clear r3 u3
        go_wp2_with fail
        go_roundw
        case rel => exact ⟨k + 1, by omega, by go_num, I3.out⟩
        case measure => simp [intOf]; omega
      · obtain rfl : k = L.length := by omega
        have HB2 := Lib.hid (HBY.out wr (D.img ks) KS.out.2.2 (fun i => HV.out.img ks i))
        go_wp2_with fail
        (with_reducible refine HB2.out.mono ?_)
        rintro e w3 ⟨rfl, r2, b2⟩
        have R2 := Lib.hid (And.intro r2 b2); clear r2 b2
        go_wp2_with fail
        go_ret
        exact ⟨ks, wr.heap.size, KS.out.1, BR.out.size, rfl, R2.out.1, BR.out.trans (R2.out.2.mono BR.out.size)⟩
  · have hm0' : ¬ (0 : Int) < m := by omega
    have HB2 := Lib.hid (HBY.out w1 D.pers CO.out.1 HV.out.pers)
    go_wp2_with fail
    (with_reducible refine HB2.out.mono ?_)
    rintro e w2 ⟨rfl, r2, b2⟩
    have R2 := Lib.hid (And.intro r2 b2); clear r2 b2
    go_wp2_with fail
    go_ret
    exact ⟨fun _ => 0, w1.heap.size, fun _ => Nat.zero_le _, B1.out.size, rfl, R2.out.1.congr (fun i _ => by
      have : D.img (fun _ => 0) = D.pers := by funext i; simp [Dev.img, look]
      rw [this]), B1.out.trans (R2.out.2.mono B1.out.size)⟩
/-- What Crash leaves: a new device over a crash image. -/
def CrPost (w : World) (D : Dev) (r : Ending) (w' : World) : Prop := ∃ (ks : Nat → Nat) (v' : DV) (own' : Nat → Option Role), (∀ l, ks l ≤ (D.hist l).length) ∧ r = .returned (.pointer (some ⟨v'.db, 0, none⟩)) ∧
  (∃ f, (∀ i, i < 8 * D.n → f i = D.img ks i) ∧ IsDev w' v' own' (Dev.fresh D.n f)) ∧ (∀ k, own' k ≠ none → w.heap.size ≤ k) ∧ Below w.heap.size w w'
set_option maxRecDepth 100000 in
set_option maxHeartbeats 4000000 in
theorem crash_any (h : IsDev w v own D) (hvb : D.VB) (cv : Value) (cs : List Int) (hc : RdSl w 1 cv cs.length (cs.map fun x => .int .u8 x)) (hcb : ∀ x ∈ cs, 0 ≤ x ∧ x < 256) (hcl : cs.length ≤ maxLen) (hex : D.exec < 4611686018427387904) :
    Calls Tryz.prog 41 #[.pointer (some ⟨v.db, 0, none⟩), cv] w (CrPost w D) := by
  have hn := h.wf.le; have hn0 := h.wf.pos
  have HI := Lib.hid (image_any h hvb cv cs hc hcb hcl hex)
  have HV := Lib.hid hvb
  obtain ⟨_, ca, cc, rfl, hcc, _⟩ := hc
  clear h hvb hcb
  go_enter Tryz.func41, Tryz.ntmps41
  go_wp2_with fail
  (with_reducible refine HI.out.mono ?_)
  rintro e w1 ⟨ks, g, k1, k2, rfl, k3, k4⟩
  have K := Lib.hid (And.intro k1 (And.intro k2 (And.intro k3 k4))); clear k1 k2 k3 k4
  have HF := Lib.hid (devFrom_any (w := w1) (.slice (some ⟨g, 0, none⟩) (64 * D.n) (64 * D.n)) D.n (byteAt (D.img ks)) ⟨by simp, _, _, rfl, Nat.le_refl _, .inr ⟨g, 0, rfl, fun j u hu => by
    obtain ⟨hj, e⟩ := List.getElem?_eq_some_iff.1 hu
    have hj' : j < 64 * D.n := by simpa using hj
    rw [Nat.zero_add, K.out.2.2.1.cell hj', ← e]; simp⟩⟩ hn0 hn (fun i _ => by
      unfold byteAt
      exact ⟨Int.emod_nonneg _ (by omega), Int.emod_lt_of_pos _ (by omega)⟩))
  go_wp2_with fail
  (with_reducible refine HF.out.mono ?_)
  rintro e w2 ⟨v', own', rfl, h1, h2, h3⟩
  have R := Lib.hid (And.intro h1 (And.intro h2 h3)); clear h1 h2 h3
  go_wp2_with fail
  go_ret
  exact ⟨ks, v', own', K.out.1, rfl, ⟨_, fun i hi => by
    have := wordsOf_bytes (D.img ks) (8 * D.n) i hi (HV.out.img ks i)
    rwa [show 8 * (8 * D.n) = 64 * D.n by omega] at this, R.out.1⟩, fun k hk => Nat.le_trans K.out.2.2.2.size (R.out.2.1 k hk), K.out.2.2.2.trans (R.out.2.2.mono K.out.2.2.2.size)⟩
end
end Go.Proofs.YtkoijmoendepgaaGreat
