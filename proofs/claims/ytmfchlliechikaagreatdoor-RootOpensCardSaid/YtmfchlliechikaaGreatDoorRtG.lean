/- The walks of a pointer's validity, of Nil and Make (as in the texts of the leaf). -/
import Derived.Test.YtmfchlliechikaaGreatDoorRtB
import Derived.Test.YtmfchlliechikaaGreatDoorDevA
import Derived.Laws.Bits64b
import Derived.Test.YtmfchlliechikaaGreatDoorRtF
namespace Go.Proofs.YtmfchlliechikaaGreatDoor
open Go.RowKit

def ptrOff (p : Nat) : Nat := p % 4294967296 * 8
def ptrGen (p : Nat) : Nat := p / 4294967296 % 65536
def ptrKind (p : Nat) : Nat := p / 281474976710656 % 256
def ptrFormed (p : Nat) : Bool := decide (p / 72057594037927936 = 0 ∧ ptrOff p ≠ 0 ∧ ptrGen p ≠ 0 ∧ ptrKind p ≠ 0 ∧ ptrKind p ≤ 127)
def ptrValid (p size : Nat) : Bool := ptrFormed p && decide (ptrOff p < size)

theorem ptrValid_B (p sz : Nat) : ptrValid p sz = ptrB p sz := by
  unfold ptrValid ptrFormed ptrB ptrOff ptrGen ptrKind
  rw [Bool.eq_iff_iff]
  simp only [Bool.and_eq_true, decide_eq_true_eq]
  omega
section
variable {w : World}
set_option maxRecDepth 100000 in
set_option maxHeartbeats 1000000 in
theorem ptrOff_any (p : Nat) (_hp : p < 18446744073709551616) : Calls Tryz.prog 88 #[.int .u64 p] w fun r w' => r = .returned (.int .u64 (ptrOff p)) ∧ w = w' := by
  go_enter Tryz.func88, Tryz.ntmps88
  go_wp2
  go_ret
  exact ⟨ret_int (by unfold ptrOff; omega), rfl⟩
set_option maxRecDepth 100000 in
set_option maxHeartbeats 1000000 in
theorem gen_any (p : Nat) (_hp : p < 18446744073709551616) : Calls Tryz.prog 104 #[.int .u64 p] w fun r w' => r = .returned (.int .u16 (ptrGen p)) ∧ w = w' := by
  go_enter Tryz.func104, Tryz.ntmps104
  go_wp2
  go_ret
  refine ⟨ret_int ?_, rfl⟩
  unfold ptrGen
  first | omega | (rw [IntKind.wrap_u16]; omega)

set_option maxRecDepth 100000 in
set_option maxHeartbeats 1000000 in
theorem kind_any (p : Nat) (_hp : p < 18446744073709551616) : Calls Tryz.prog 105 #[.int .u64 p] w fun r w' => r = .returned (.int .u8 (ptrKind p)) ∧ w = w' := by
  go_enter Tryz.func105, Tryz.ntmps105
  go_wp2
  go_ret
  refine ⟨ret_int ?_, rfl⟩
  unfold ptrKind
  first | omega | (rw [IntKind.wrap_u8']; omega)

set_option maxRecDepth 100000 in
set_option maxHeartbeats 1000000 in
theorem formed_any (p : Nat) (hp : p < 18446744073709551616) : Calls Tryz.prog 87 #[.int .u64 p] w fun r w' => r = .returned (.bool (ptrFormed p)) ∧ w = w' := by
  have HO := Lib.hid (ptrOff_any (w := w) p hp); have HG := Lib.hid (gen_any (w := w) p hp); have HK := Lib.hid (kind_any (w := w) p hp)
  obtain ⟨t, ht⟩ : ∃ t, t = p / 72057594037927936 := ⟨_, rfl⟩
  have hsh : ((p : Int) / 72057594037927936) = (t : Int) := by omega
  have key : ∀ b : Bool, (b = true ↔ (t = 0 ∧ ptrOff p ≠ 0 ∧ ptrGen p ≠ 0 ∧ ptrKind p ≠ 0 ∧ ptrKind p ≤ 127)) → b = ptrFormed p := by
    intro b hb
    unfold ptrFormed
    rw [← ht, Bool.eq_iff_iff, hb, decide_eq_true_iff]
  have KEY := Lib.hid key
  clear key ht
  generalize ptrOff p = o at *
  generalize ptrGen p = g at *
  generalize ptrKind p = k at *
  by_cases h1 : t = 0
  · have b1 : ((t : Int) == 0) = true := by simp; omega
    by_cases h2 : o = 0
    · have b2 : ((o : Int) != 0) = false := by simp; omega
      go_enter Tryz.func87, Tryz.ntmps87
      go_wp2_with (first | (go_at_call 88; (with_reducible refine HO.out.mono ?_); rintro e w' ⟨rfl, rfl⟩))
      go_ret
      exact ⟨ret_bool (KEY.out _ (by simp [h2])), rfl⟩
    · have b2 : ((o : Int) != 0) = true := by simp; omega
      by_cases h3 : g = 0
      · have b3 : ((g : Int) != 0) = false := by simp; omega
        go_enter Tryz.func87, Tryz.ntmps87
        go_wp2_with (first | (go_at_call 88; (with_reducible refine HO.out.mono ?_); rintro e w' ⟨rfl, rfl⟩) | (go_at_call 104; (with_reducible refine HG.out.mono ?_); rintro e w' ⟨rfl, rfl⟩))
        go_ret
        exact ⟨ret_bool (KEY.out _ (by simp [h3])), rfl⟩
      · have b3 : ((g : Int) != 0) = true := by simp; omega
        by_cases h4 : k = 0
        · have b4 : ((k : Int) != 0) = false := by simp; omega
          go_enter Tryz.func87, Tryz.ntmps87
          go_wp2_with (first | (go_at_call 88; (with_reducible refine HO.out.mono ?_); rintro e w' ⟨rfl, rfl⟩) | (go_at_call 104; (with_reducible refine HG.out.mono ?_); rintro e w' ⟨rfl, rfl⟩) | (go_at_call 105; (with_reducible refine HK.out.mono ?_); rintro e w' ⟨rfl, rfl⟩))
          go_ret
          exact ⟨ret_bool (KEY.out _ (by simp [h4])), rfl⟩
        · have b4 : ((k : Int) != 0) = true := by simp; omega
          go_enter Tryz.func87, Tryz.ntmps87
          go_wp2_with (first | (go_at_call 88; (with_reducible refine HO.out.mono ?_); rintro e w' ⟨rfl, rfl⟩) | (go_at_call 104; (with_reducible refine HG.out.mono ?_); rintro e w' ⟨rfl, rfl⟩) | (go_at_call 105; (with_reducible refine HK.out.mono ?_); rintro e w' ⟨rfl, rfl⟩))
          go_ret
          exact ⟨ret_bool (KEY.out _ (by simp [h1, h2, h3, h4]; omega)), rfl⟩
  · have b1 : ((t : Int) == 0) = false := by simp; omega
    go_enter Tryz.func87, Tryz.ntmps87
    go_wp2_with fail
    go_ret
    exact ⟨ret_bool (KEY.out _ (by simp [h1])), rfl⟩

set_option maxRecDepth 100000 in
set_option maxHeartbeats 1000000 in
theorem ptrValid_any (p size : Nat) (hp : p < 18446744073709551616) : Calls Tryz.prog 60 #[.int .u64 p, .int .u64 size] w fun r w' => r = .returned (.bool (ptrValid p size)) ∧ w = w' := by
  have HO := Lib.hid (ptrOff_any (w := w) p hp); have HF := Lib.hid (formed_any (w := w) p hp)
  have Hv : Hid (ptrValid p size = (ptrFormed p && decide (ptrOff p < size))) := rfl
  generalize ptrFormed p = b at *
  generalize ptrOff p = o at *
  cases b
  · go_enter Tryz.func60, Tryz.ntmps60
    go_wp2_with (first | (go_at_call 87; (with_reducible refine HF.out.mono ?_); rintro e w' ⟨rfl, rfl⟩))
    go_ret
    exact ⟨ret_bool (by rw [Hv.out]; rfl), rfl⟩
  · go_enter Tryz.func60, Tryz.ntmps60
    go_wp2_with (first | (go_at_call 87; (with_reducible refine HF.out.mono ?_); rintro e w' ⟨rfl, rfl⟩) | (go_at_call 88; (with_reducible refine HO.out.mono ?_); rintro e w' ⟨rfl, rfl⟩))
    go_ret
    exact ⟨ret_bool (by rw [Hv.out]; rfl), rfl⟩
end
end Go.Proofs.YtmfchlliechikaaGreatDoor

/- The walks of fill and Actions of package root. -/
namespace Go.Proofs.YtmfchlliechikaaGreatDoor
open Go.RowKit Go.Maps
attribute [local go_sem ↓] Go.wp_at_zero Go.wp_at_succ

/-- The writes that fill an entry. -/
def fillL (o x0 x1 p tg : Nat) : List (Nat × Int) := [(o, (x0 : Nat)), (o + 8, (x1 : Nat)), (o + 16, (p : Nat)), (o + 24, (tg : Nat))]
theorem fill_copy {wx : World} {g h : Nat} {x0 x1 : Nat} (hg : Blk wx g #[.int .u64 0, .int .u64 0, .int .u64 0, .int .u64 0] 121) (hh : Blk wx h #[.int .u64 x0, .int .u64 x1] 104) :
    ∃ wy, (∀ ty, (Builtin.copy_ #[44, 44] ty #[.slice (some ⟨g, 0, none⟩) 4 4, .slice (some ⟨h, 0, none⟩) 2 2]).run Tryz.prog wx = .ok (goInt 2) wy) ∧
      Blk wy g #[.int .u64 x0, .int .u64 x1, .int .u64 0, .int .u64 0] 121 ∧ (∀ B w0, B ≤ g → Below B w0 wx → Below B w0 wy) := by
  have hr := fun ty => run_copy_row (P := Tryz.prog) wx 44 44 ty 32 g 0 4 4 ⟨h, 0, none⟩ 2 2 #[.int .u64 0, .int .u64 0, .int .u64 0, .int .u64 0] 121 [.int .u64 x0, .int .u64 x1] Tryz.underlying44 sizeU64p hg rfl
    (fun j u hj => by
      rw [Addr.add_lit]
      rcases j with _ | _ | j
      · cases hj; exact hh.cell rfl
      · cases hj; exact hh.cell rfl
      · cases hj) (by simp) (fun u hu => by simp at hu; rcases hu with rfl | rfl <;> rfl)
  exact ⟨_, fun ty => hr ty, setRow_heap wx g _ _ 121 (0, 0) hg, fun B w0 hB hb => below_setRow hb hB _⟩
theorem idx4 (x0 x1 p tg k : Nat) (hk : k < 4) (wx : World) : (Instr.index 121 (.agg #[.int .u64 x0, .int .u64 x1, .int .u64 p, .int .u64 tg]) (.int .i64 (k : Nat))).run Tryz.prog wx = .ok (.int .u64 (([x0, x1, p, tg].getD k 0 : Nat) : Int)) wx := by
  obtain rfl | rfl | rfl | rfl : k = 0 ∨ k = 1 ∨ k = 2 ∨ k = 3 := by omega
  all_goals kernel_rfl
section
variable {w wx : World} {v : DV} {own : Nat → Option Role} {D : Dev} {j b off : Nat} {W : Nat → Nat}
/-- fill's box. -/
structure FlB (w : World) (A : Array Value) (wx : World) : Prop where
  res : Blk wx w.heap.size A 121
  bel : Below w.heap.size w wx
theorem FlB.next {A : Array Value} {wy : World} (h : FlB w A wx) (hb : Below wx.heap.size wx wy) : FlB w A wy := ⟨h.res.below hb, h.bel.trans (hb.mono h.bel.size)⟩
theorem FlB.set {A : Array Value} (h : FlB w A wx) (k : Nat) (u : Value) : FlB w (A.setIfInBounds k u) (wx.setCell ⟨w.heap.size, k, none⟩ u) := ⟨h.res.set k u, h.bel.setCell (Nat.le_refl _) u⟩
set_option maxRecDepth 100000 in
set_option maxHeartbeats 8000000 in
theorem rtfill_any (h : DOn w v own D j b off W) (hN : Nib w) (e : Nat) (he : e < 16) (s : ByteArray) (hs1 : 1 ≤ s.toList.length) (hs2 : s.toList.length ≤ 16) (p : Nat) (_hp : p < 18446744073709551616) :
    Calls Tryz.prog 62 #[.pointer (some ⟨b, 0, none⟩), .int .i64 e, .string s, .int .u64 p] w fun r w' => ∃ ov, r = .returned ov ∧ Acc w w.heap.size w' 103 2 ov 4 (flat (fillL (off + 32 * e) (pk0 s.toList) (pk1 s.toList) p (tagN (pk0 s.toList) (pk1 s.toList)))) := by
  obtain ⟨i0, hi0, hz0, hz1, hz2⟩ := info_parts infoWrite
  have I := Lib.hid (And.intro hi0 (And.intro hz0 (And.intro hz1 hz2))); clear hi0 hz0 hz1 hz2
  have H := Lib.hid h; have HNB := Lib.hid hN
  have HPK := Lib.hid (fun (wx : World) => rtpack_any (w := wx) s hs1 hs2)
  have l0 := pk0_lt s.toList; have l1 := pk1_lt s.toList
  generalize hx0 : pk0 s.toList = x0 at *
  generalize hx1 : pk1 s.toList = x1 at *
  have htg := fun (wx : World) (hx : Nib wx) => rttag_any (w := wx) hx x0 x1 p 0 l0 l1
  rw [show ((0 : Nat) : Int) = 0 from rfl] at htg
  have HTG := Lib.hid htg
  have ltg := tagN_lt x0 x1
  generalize tagN x0 x1 = tg at *
  have HIX := Lib.hid (fun (k : Nat) (hk : k < 4) (wx : World) => idx4 x0 x1 p tg k hk wx)
  have hoe := h.le
  have HAT := Lib.hid (fun (wx : World) (hx : DOn wx v own D j b off W) (k : Nat) (hk : k < 4) => hx.at' e k he hk)
  obtain ⟨o, ho⟩ : ∃ o, off + 32 * e = o := ⟨_, rfl⟩
  rw [ho] at HAT ⊢
  have hol : o ≤ 262144 + 512 := by omega
  have X0 : Hid (FlB w #[.int .u64 0, .int .u64 0, .int .u64 0, .int .u64 0] (w.alloc (.cells #[.int .u64 0, .int .u64 0, .int .u64 0, .int .u64 0] 121))) := ⟨Blk.new w _ _, below_alloc w _⟩
  have HL : Hid (∀ k, k < 4 → flat ((fillL o x0 x1 p tg).take (k + 1)) = flat ((fillL o x0 x1 p tg).take k) ++ flat [(o + 8 * k, (([x0, x1, p, tg].getD k 0 : Nat) : Int))]) := fun k hk => by
    obtain rfl | rfl | rfl | rfl : k = 0 ∨ k = 1 ∨ k = 2 ∨ k = 3 := by omega
    all_goals rfl
  clear h hN hx0 hx1 ho hoe hs1 hs2 htg
  go_enter Tryz.func62, Tryz.ntmps62
  go_wp2_with fail
  (with_reducible refine (HPK.out _).mono ?_)
  rintro r w1 ⟨rfl, b1⟩
  have X1 := Lib.hid (X0.out.next b1)
  have X2 := Lib.hid (X1.out.next (below_alloc w1 (.cells #[.int .u64 x0, .int .u64 x1] 104)))
  have K2 := Lib.hid (Blk.new w1 #[.int .u64 x0, .int .u64 x1] 104)
  clear b1 X0 HPK
  obtain ⟨w3, hcp, k3, l3⟩ := fill_copy (X2.out.res.drew) (K2.out.drew)
  have X3 : Hid (FlB w #[.int .u64 x0, .int .u64 x1, .int .u64 0, .int .u64 0] w3) := ⟨k3, l3 _ _ (Nat.le_refl _) X2.out.bel.drew⟩
  clear k3 l3
  go_wp2_with fail
  refine wp_region_held (S := (fun wx => Below w.heap.size w wx)) (by kernel_rfl) ?_
  change wpAnyH _ _ _ _ _ _ _ _ (World.drew _)
  refine wpAnyH_take (i := 0) (v := .slice (some ⟨w.heap.size, 0, none⟩) 4 4) rfl (by kernel_rfl) (by kernel_rfl) (by kernel_rfl) (fun _ _ _ h => h) (Or.inl ⟨by kernel_rfl, fun w _ => by go_simp⟩) X2.out.bel.drew ?_
  refine wpAnyH_take (i := 1) (v := .slice (some ⟨w1.heap.size, 0, none⟩) 2 2) rfl (by kernel_rfl) (by kernel_rfl) (by kernel_rfl) (fun _ _ _ h => h) (Or.inl ⟨by kernel_rfl, fun w _ => by go_simp⟩) X2.out.bel.drew ?_
  refine wpAnyH_one (i := 2) (by kernel_rfl) rfl rfl (fun K hK => ?_)
  go_simp
  refine hK _ _ ⟨X3.out.bel, ?_⟩
  clear hK K
  refine wpAnyH_done (by kernel_rfl) ?_ _
  clear hcp X1 X2 K2
  have z0 := X3.out.res.cell (i := 0) (v := .int .u64 x0) rfl; have z1 := X3.out.res.cell (i := 1) (v := .int .u64 x1) rfl; have z2 := X3.out.res.cell (i := 2) (v := .int .u64 0) rfl; have z3 := X3.out.res.cell (i := 3) (v := .int .u64 0) rfl
  have f2 := X3.out.res.frozen 2
  have X4 : Hid (FlB w #[.int .u64 x0, .int .u64 x1, .int .u64 p, .int .u64 0] (w3.setCell ⟨w.heap.size, 2, none⟩ (.int .u64 p))) := X3.out.set 2 (.int .u64 p)
  clear X3
  go_wp2_with fail
  (with_reducible refine (HTG.out _ (HNB.out.below X4.out.bel)).mono ?_)
  rintro r w4 ⟨rfl, b4⟩
  have X5 := Lib.hid (X4.out.next b4)
  clear b4 X4 z0 z1 z2 z3 f2
  have z0 := X5.out.res.cell (i := 0) (v := .int .u64 x0) rfl; have z1 := X5.out.res.cell (i := 1) (v := .int .u64 x1) rfl; have z2 := X5.out.res.cell (i := 2) (v := .int .u64 p) rfl; have z3 := X5.out.res.cell (i := 3) (v := .int .u64 0) rfl
  have f3 := X5.out.res.frozen 3
  have B6 : Hid (Below w.heap.size w (w4.setCell ⟨w.heap.size, 3, none⟩ (.int .u64 tg))) := X5.out.bel.setCell (Nat.le_refl _) _
  clear X5
  go_wp2_with fail
  have A0 : Hid (Acc w w.heap.size (w4.setCell ⟨w.heap.size, 3, none⟩ (.int .u64 tg)) 103 2 (.slice none 0 0) 0 (flat ((fillL o x0 x1 p tg).take 0))) := Acc.nil _ _ _ _ _ B6.out B6.out.size
  go_loopw [11, 12, 13, 25] (fun sv _ _ y wr => ∃ k : Nat, k ≤ 4 ∧ y = .int .i64 k ∧ Acc w w.heap.size wr 103 2 sv k (flat ((fillL o x0 x1 p tg).take k))) (fun _ _ _ y _ => 4 - (intOf y).toNat)
  case atStart => exact ⟨0, by omega, rfl, A0.out⟩
  case round =>
    clear A0 B6
    obtain ⟨k, hk, rfl, ha⟩ := hrel
    obtain ⟨qa, qc, rfl⟩ := ha.slice
    have A := Lib.hid ha
    clear ha
    by_cases hlt : k < 4
    · have hk' : (k : Int) < 4 := by omega
      have hix := fun wx => HIX.out k hlt wx
      have HT := Lib.hid (HL.out k hlt)
      obtain ⟨x, hx⟩ : ∃ x, [x0, x1, p, tg].getD k 0 = x := ⟨_, rfl⟩
      rw [hx] at hix HT
      have HA := Lib.hid (fun wx hx => HAT.out wx hx k hlt)
      obtain ⟨q, hq⟩ : ∃ q, o + 8 * k = q := ⟨_, rfl⟩
      rw [hq] at HT HA
      clear hx hq
      go_wp2_with fail
      (with_reducible refine (HA.out _ (H.out.next A.out.bel)).mono ?_)
      rintro r w' ⟨rfl, rfl⟩
      go_wp2_with (at_builtin; refine wpList_append_sl _ rfl _ _ 66 rfl 103 i0 _ 2 16 Tryz.underlying66 I.out.1 I.out.2.1 I.out.2.2.1 I.out.2.2.2 rfl (by decide) _ k (flat ((fillL o x0 x1 p tg).take k)) rfl (by exact A.out.own.alloc _) _ 1 (flat [(q, (x : Int))]) rfl (by exact RdSl.newAt _ _ _ 2 1 _ (by simp) rfl) (flat_one _) (by unfold maxLen; omega) (by omega) ?_)
      intro v1 w5 o1 g1 n1 m1
      have A2 := Lib.hid (A.out.next (m := 1) (below_alloc wr _) o1 g1 n1 (by simp)); clear o1 g1 n1 m1 A
      rw [← HT.out] at A2
      go_wp2_with fail
      go_roundw
      case rel => exact ⟨k + 1, by omega, by go_num, A2.out⟩
      case measure => simp [intOf]; omega
    · obtain rfl : k = 4 := by omega
      go_wp2_with fail
      go_ret
      exact ⟨_, rfl, A.out⟩
end
end Go.Proofs.YtmfchlliechikaaGreatDoor
