/- made: the walk. -/
import Derived.Test.YtkoijmoendepgaaNodeG
import Derived.Deep.RegionHeld3
import Derived.Deep.DrawnRows
namespace Go.Proofs.Ytkoijmoendepgaa
open Go.RowKit
attribute [local go_sem ↓] Go.wp_at_zero Go.wp_at_succ

section
variable {w : World}
/-- The cells of a node's box. -/
def BoxC (b : Nat) (n : NodeP) (ka sa va : Option Addr) (kc sc vc : Nat) (wx : World) : Prop :=
  wx.cell? ⟨b, 0, none⟩ = some (.int .u8 n.pos) ∧ wx.cell? ⟨b, 1, none⟩ = some (.slice ka n.ks.length kc) ∧ wx.cell? ⟨b, 2, none⟩ = some (.slice sa n.ss.length sc) ∧ wx.cell? ⟨b, 3, none⟩ = some (.slice va n.vs.length vc) ∧
  wx.cell? ⟨b, 4, none⟩ = some (.int .u8 n.high) ∧ wx.cell? ⟨b, 5, none⟩ = some (.bool n.bounded) ∧ wx.cell? ⟨b, 6, none⟩ = some (.bool n.next) ∧ wx.cell? ⟨b, 7, none⟩ = some (.int .u16 n.count)
theorem boxC {wx : World} {b : Nat} {n : NodeP} {ka sa va : Option Addr} {kc sc vc : Nat} (h : Blk wx b (nodeAgg n ka sa va kc sc vc) 63) : BoxC b n ka sa va kc sc vc wx :=
  ⟨h.cell rfl, h.cell rfl, h.cell rfl, h.cell rfl, h.cell rfl, h.cell rfl, h.cell rfl, h.cell rfl⟩
/-- A live device, and the box of the node. -/
structure MadeSt (w w0 : World) (v : DV) (own : Nat → Option Role) (D : Dev) (x : Nat) (C : Nat → Int) (b : Nat) (n : NodeP) (ka sa va : Option Addr) (kc sc vc : Nat) (wc : World) : Prop extends LiveSt w0 v own D x C wc where
  box : Blk wc b (nodeAgg n ka sa va kc sc vc) 63
  res : Blk wc (b + 1) #[.nilIface, .int .u64 0] 47
  lt : b + 1 < w0.heap.size
  b0 : Below w.heap.size w w0
variable {w0 : World} {v : DV} {own : Nat → Option Role} {D : Dev} {x : Nat} {C : Nat → Int} {b : Nat} {n : NodeP} {ka sa va : Option Addr} {kc sc vc : Nat} {wc w1 : World}
theorem MadeSt.next (h : MadeSt w w0 v own D x C b n ka sa va kc sc vc wc) (hb : Below wc.heap.size wc w1) : MadeSt w w0 v own D x C b n ka sa va kc sc vc w1 := ⟨h.toLiveSt.next hb, h.box.below hb, h.res.below hb, h.lt, h.b0⟩
theorem MadeSt.all (h : MadeSt w w0 v own D x C b n ka sa va kc sc vc wc) : Below w.heap.size w wc := h.b0.trans (h.bel.mono h.b0.size)
theorem MadeSt.cells (h : MadeSt w w0 v own D x C b n ka sa va kc sc vc wc) : BoxC b n ka sa va kc sc vc wc := boxC h.box
theorem bdrew {W W' : World} (h : Below W.drew.heap.size W.drew W') : Below W.heap.size W W' := ⟨h.os, h.tape, h.output, h.size, h.block⟩
/-- put of the node's words. -/
theorem MadeSt.put (h : MadeSt w w0 v own D x C b n ka sa va kc sc vc wc) (hx : x < 1000) {g : Nat} {w2 : World} (hr : Row w2 g 28 23 (fun i => .int .u64 (nWords n i))) (hg : wc.heap.size ≤ g) (hb : Below wc.heap.size wc w2) :
    Calls Try.prog 26 #[.pointer (some ⟨v.db, 0, none⟩), .int .u64 (nodeOff n : Nat), .slice (some ⟨g, 0, none⟩) 28 28] w2 fun r w' => r = .returned (.tuple #[]) ∧ ∃ own' D', MadeSt w w0 v own' D' (x + 57) (withNode C (nodeOff n) n) b n ka sa va kc sc vc w' := by
  have h2 := h.next hb
  have hno := nodeOff_le n
  have hl : (nList n).length = 28 := by simp [nList]
  refine (h2.toLiveSt.put (nodeOff n) (.slice (some ⟨g, 0, none⟩) 28 28) (nList n) hno.2.2 (by rw [hl]; omega) (by rw [hl]; omega) (row_list n hr) (fun k hk => ?_)).mono ?_
  · simp [Value.ownBlock] at hk; subst hk
    rcases ho : own g with _ | r
    · rfl
    · have := h.dev.lt g (by simp [ho]); omega
  · rintro r w' ⟨h1, own', D', h3, h4, h5⟩
    refine ⟨h1, own', D', by rw [hl] at h3; exact h3, ?_, ?_, h.lt, h.b0⟩
    · refine h2.box.upd h5 (fun hk => ?_)
      have := h2.ob b hk; have := h.lt; omega
    · refine h2.res.upd h5 (fun hk => ?_)
      have := h2.ob (b + 1) hk; have := h.lt; omega

/-- What made leaves: a device with the node, and the leaf. -/
def MadePost (w : World) (n : NodeP) (r : Ending) (w' : World) : Prop := ∃ v own D, r = .returned (.tuple #[.pointer (some ⟨v.db, 0, none⟩), .agg #[.iface 39 (.pointer (some ⟨v.tb 0, 0, none⟩)), .int .u64 (ptrN (nodeOff n) : Nat)]]) ∧ LiveSt w v own D 57 (withNode (fun _ => 0) (nodeOff n) n) w'

theorem made_end (h : MadeSt w w0 v own D x C b n ka sa va kc sc vc wc) {u u' : Value} (hb : w.heap.size ≤ b := by omega) : LiveSt w v own D x C ((wc.setCell ⟨b + 1, 0, none⟩ u).setCell ⟨b + 1, 1, none⟩ u') := by
  have hne : ∀ k, own k ≠ none → k ≠ b + 1 := fun k hk e => by have := h.ob k hk; have := h.lt; omega
  refine ⟨⟨h.dev.kept (by simp [World.setCell]) (fun k hk => (Below.heap_setCell _ _ _ _ (hne k hk)).trans (Below.heap_setCell _ _ _ _ (hne k hk))), fun k hk => by have := h.ob k hk; have := h.b0.size; omega, ?_⟩, h.live⟩
  exact (h.all.setCell (p := ⟨b + 1, 0, none⟩) (by show w.heap.size ≤ b + 1; omega) _).setCell (p := ⟨b + 1, 1, none⟩) (by show w.heap.size ≤ b + 1; omega) _
set_option maxRecDepth 100000 in
set_option maxHeartbeats 4000000 in
theorem made_any (h : NodeIn w n ka sa va kc sc vc) : Calls Try.prog 25 #[.agg (nodeAgg n ka sa va kc sc vc)] w (MadePost w n) := by
  have H := Lib.hid h
  have hp8 := h.p8
  clear h
  unfold nodeAgg
  have HN := Lib.hid (fun wx => new12_any (w := wx))
  go_enter Try.func25, Try.ntmps25
  go_wp2_with fail
  (with_reducible refine (HN.out _).mono ?_)
  rintro e w2 ⟨v, own, rfl, d2, o2, b2⟩
  have M2 : Hid (MadeSt w _ v own (Dev.fresh 12 fun _ => 0) 0 (fun _ => 0) w.heap.size n ka sa va kc sc vc w2) := 
    ⟨⟨⟨d2, o2, b2⟩, Live.fresh 12 _⟩, ((Blk.new w (nodeAgg n ka sa va kc sc vc) 63).alloc _).below b2, (by have := Blk.new (w.alloc (.cells (nodeAgg n ka sa va kc sc vc) 63)) #[.nilIface, .int .u64 0] 47; rw [World.size_alloc] at this; exact this.below b2), by simp, (below_alloc w _).trans ((below_alloc _ _).mono (by simp))⟩
  clear d2 o2 b2 HN
  go_wp2_with fail
  have HO := Lib.hid (fun wx => nodeAt_any (w := wx) n ka sa va kc sc vc hp8)
  have HW := Lib.hid (fun wx hx => words_any (w := wx) (H.out.below hx))
  obtain ⟨w0, hw0⟩ : ∃ w0, w0 = (w.alloc (.cells (nodeAgg n ka sa va kc sc vc) 63)).alloc (.cells #[.nilIface, .int .u64 0] 47) := ⟨_, rfl⟩
  have M2' : Hid (MadeSt w w0 v own (Dev.fresh 12 fun _ => 0) 0 (fun _ => 0) w.heap.size n ka sa va kc sc vc w2) := by rw [hw0]; exact M2.out
  clear M2 hw0
  go_cut [] (fun wx => ∃ own' D', MadeSt w w0 v own' D' 57 (withNode (fun _ => 0) (nodeOff n) n) w.heap.size n ka sa va kc sc vc wx)
  case first =>
    go_region_held3 (fun wx => wx.cell? ⟨w.heap.size, 0, none⟩ = some (.int .u8 n.pos) ∧ wx.cell? ⟨w.heap.size, 1, none⟩ = some (.slice ka n.ks.length kc) ∧ wx.cell? ⟨w.heap.size, 2, none⟩ = some (.slice sa n.ss.length sc) ∧ wx.cell? ⟨w.heap.size, 3, none⟩ = some (.slice va n.vs.length vc) ∧ wx.cell? ⟨w.heap.size, 4, none⟩ = some (.int .u8 n.high) ∧ wx.cell? ⟨w.heap.size, 5, none⟩ = some (.bool n.bounded) ∧ wx.cell? ⟨w.heap.size, 6, none⟩ = some (.bool n.next) ∧ wx.cell? ⟨w.heap.size, 7, none⟩ = some (.int .u16 n.count)) (first | exact M5.out.cells | exact M4.out.cells | exact M3.out.cells | exact M2'.out.cells) (first | (go_at_call 31; (with_reducible refine (HO.out _).mono ?_); rintro e w3 ⟨rfl, b3⟩; have M3 := Lib.hid (M2'.out.next (bdrew b3)); clear b3) | (go_at_call 27; (with_reducible refine (HW.out _ M3.out.all).mono ?_); rintro e w4 ⟨g, rfl, r4, g4, b4⟩; have P4 := Lib.hid (M3.out.put (by omega) r4 g4 b4); have M4 := Lib.hid (M3.out.next b4); clear r4 g4 b4) | (go_at_call 26; (with_reducible refine P4.out.mono ?_); rintro e w5 ⟨rfl, own5, D5, m5⟩; have M5 := Lib.hid m5; clear m5))
    all_goals go_wp2_with fail
    all_goals go_meet
    all_goals exact ⟨own5, D5, M5.out⟩
  case rest =>
    obtain ⟨own5, D5, m5⟩ := hcut
    obtain ⟨w5, hw5⟩ : ∃ x, x = wc := ⟨_, rfl⟩
    subst hw5
    have M5 := Lib.hid m5
    have hno := nodeOff_le n
    have c0 : w5.cell? ⟨w.heap.size + 1, 0, none⟩ = some .nilIface := m5.res.cell rfl
    have c1 : w5.cell? ⟨w.heap.size + 1, 1, none⟩ = some (.int .u64 0) := m5.res.cell rfl
    have f0 := m5.res.frozen 0; have f1 := m5.res.frozen 1
    clear m5 M2' HW
    have HT := Lib.hid (fun wx (hx : IsDev wx v own5 D5) => thread0_any hx)
    have HP := Lib.hid (fun wx => pointerN_any (w := wx) (nodeOff n) (by omega) hno.2.2 (by omega))
    go_upto_region 5 with fail
    go_region_held3 (fun wx => wx.cell? ⟨w.heap.size, 0, none⟩ = some (.int .u8 n.pos) ∧ wx.cell? ⟨w.heap.size, 1, none⟩ = some (.slice ka n.ks.length kc) ∧ wx.cell? ⟨w.heap.size, 2, none⟩ = some (.slice sa n.ss.length sc) ∧ wx.cell? ⟨w.heap.size, 3, none⟩ = some (.slice va n.vs.length vc) ∧ wx.cell? ⟨w.heap.size, 4, none⟩ = some (.int .u8 n.high) ∧ wx.cell? ⟨w.heap.size, 5, none⟩ = some (.bool n.bounded) ∧ wx.cell? ⟨w.heap.size, 6, none⟩ = some (.bool n.next) ∧ wx.cell? ⟨w.heap.size, 7, none⟩ = some (.int .u16 n.count)) (first | exact M7.out.cells | exact M6.out.cells | exact M5.out.cells | exact boxC ((M7.out.box.other (a := ⟨w.heap.size + 1, 0, none⟩) (by simp) _).other (a := ⟨w.heap.size + 1, 1, none⟩) (by simp) _)) (first | (go_at_call 14; (with_reducible refine (HT.out _ (by exact M5.out.dev.drew)).mono ?_); rintro e w' ⟨rfl, rfl⟩) | (go_at_call 31; (with_reducible refine (HO.out _).mono ?_); rintro e w6 ⟨rfl, b6⟩; have M6 := Lib.hid (M5.out.next (bdrew b6)); clear b6) | (go_at_call 28; (with_reducible refine (HP.out _).mono ?_); rintro e w' ⟨rfl, rfl⟩) | (go_at_call 17; (with_reducible refine (at_any _ _ (.inr ⟨_, _, rfl⟩)).mono ?_); rintro e w7 ⟨rfl, b7⟩; have M7 := Lib.hid (M6.out.next b7); have d0 : w7.cell? ⟨w.heap.size + 1, 0, none⟩ = some .nilIface := M7.out.res.cell rfl; have d1 : w7.cell? ⟨w.heap.size + 1, 1, none⟩ = some (.int .u64 0) := M7.out.res.cell rfl; have e0 := M7.out.res.frozen 0; have e1 := M7.out.res.frozen 1; have hlt7 := M7.out.res.lt; clear b7))
    all_goals go_wp2_with fail
    all_goals
      (try simp only [Exit.inBlock, Exit.then])
      refine bodyPost_ret (v := .tuple #[.pointer (some ⟨v.db, 0, none⟩), .agg #[.iface 39 (.pointer (some ⟨v.tb 0, 0, none⟩)), .int .u64 (ptrN (nodeOff n) : Nat)]]) (by simp [results, Try.results25, go_sem, d0, d1]) rfl ?_
      exact ⟨v, own5, D5, rfl, made_end M7.out⟩
end
end Go.Proofs.Ytkoijmoendepgaa
