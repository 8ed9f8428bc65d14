/- The walk of the reference's Encode. -/
import Derived.Test.YtkoijmoendepgaaLeafC
namespace Go.Proofs.Ytkoijmoendepgaa
open Go.RowKit

section
variable {w : World}

def RefMid (w : World) (ks vs : List Int) (k : Nat) (lv : Value) (wr : World) : Prop :=
  Row wr w.heap.size 28 23 (fun i => .int .u64 (encF ks vs k i)) ∧ OwnSl wr 3 1 lv k (natsI (List.range k)) ∧ (∀ g, lv.ownBlock = some g → w.heap.size < g) ∧ Below w.heap.size w wr

theorem ref_mid0 (ks vs : List Int) : RefMid w ks vs 0 (.slice none 0 0) (w.alloc (.cells (madeCells #[.int .u64 0] 28) 23)) := by
  refine ⟨(row_zeros w 23 .u64 28).congr (fun i _ => ?_), OwnSl.nil _ _ _, fun g hg => by simp [Value.ownBlock] at hg, (Below.refl _ _).alloc (Nat.le_refl _) _⟩
  unfold encF; rw [if_neg (by omega), if_neg (by omega)]

theorem natsI_range (k : Nat) : natsI (List.range (k + 1)) = natsI (List.range k) ++ [.int .i64 k] := by simp [natsI, List.range_succ]

theorem ref_step {ks vs : List Int} {k : Nat} {lv : Value} {wr w1 wz : World} {v' : Value} (h : RefMid w ks vs k lv wr) {x y : Int} (hx : ks[k]? = some x) (hy : vs[k]? = some y) (hk : k < ks.length) (h12 : ks.length ≤ 12) {p1 p2 : Nat} {cc : Array Value} {kk : Int}
    (hz : wz = ((wr.setCell ⟨w.heap.size, p1, none⟩ (.int .u64 x)).setCell ⟨w.heap.size, p2, none⟩ (.int .u64 y)).alloc (.cells cc 3)) (hp1 : p1 = 4 + k) (hp2 : p2 = 16 + k) (hkk : kk = k)
    (o1 : OwnSl w1 3 1 v' (k + 1) (natsI (List.range k) ++ [.int .i64 kk])) (g1 : wz.grownBy w1 lv.ownBlock) {q : Nat} (b1 : slAddr v' = slAddr lv ∨ slAddr v' = some ⟨q, 0, none⟩) (hq : wr.heap.size ≤ q) :
    RefMid w ks vs (k + 1) v' w1 := by
  subst hp1 hp2 hkk
  obtain ⟨h1, h2, h3, h4⟩ := h
  have hb : Below w.heap.size w wz := by
    rw [hz]; exact ((h4.setCell (p := ⟨w.heap.size, 4 + k, none⟩) (by simp) _).setCell (p := ⟨w.heap.size, 16 + k, none⟩) (by simp) _).alloc (by have := h4.size; simp [World.setCell]; exact this) _
  have hr : Row wz w.heap.size 28 23 (fun i => .int .u64 (encF ks vs (k + 1) i)) := by
    rw [hz]
    refine (((h1.set (4 + k) (.int .u64 x)).set (16 + k) (.int .u64 y)).alloc _).congr (fun i _ => ?_)
    rw [encF_step ks vs k i x y hx hy (by omega)]
    by_cases e1 : i = 16 + k
    · rw [if_pos e1, if_pos e1]
    · rw [if_neg e1, if_neg e1]
      by_cases e2 : i = 4 + k
      · rw [if_pos e2, if_pos e2]
      · rw [if_neg e2, if_neg e2]
  have hlt := hr.lt
  refine ⟨?_, by rw [natsI_range]; exact o1, fun g hg => ?_, hb.grown g1 hb.size (fun g hg => by have := h3 g hg; omega)⟩
  · obtain ⟨c, p1, p2⟩ := hr
    exact ⟨c, (g1.block _ hlt (fun e => by have := h3 _ e.symm; omega)).trans p1, p2⟩
  · rcases b1 with b1 | b1
    · rw [ownBlock_addr, b1, ← ownBlock_addr] at hg; exact h3 g hg
    · rw [ownBlock_addr, b1] at hg; cases hg; show w.heap.size < q; have := h1.lt; omega

theorem one_int (k : IntKind) (x : Int) : ∀ u ∈ (#[Value.int k x] : Array Value).toList, u.oneCell' = true := by
  intro u hu; simp at hu; subst hu; rfl

set_option maxRecDepth 100000 in
set_option maxHeartbeats 2000000 in
theorem refEncode_any (kv vv : Value) (ks vs : List Int) (next high : Int) (b : Bool) (hk : RdSl w 1 kv ks.length (intsU ks)) (hv : RdSl w 1 vv vs.length (intsU vs)) (hl : ks.length = vs.length) (h12 : ks.length ≤ 12) :
    Calls Try.prog 10 #[kv, vv, .int .u64 next, .int .u64 high, .bool b] w (EncPost w ks vs next high b) := by
  obtain ⟨_, ka, kc, rfl, hkc, hka⟩ := hk
  obtain ⟨_, va, vc, rfl, hvc, hva⟩ := hv
  have hne : ((ks.length : Int) != (vs.length : Int)) = false := by simp; omega
  have h12' : ¬ (12 : Int) < ks.length := by omega
  have h1 := fun (wx : World) => mk28 wx
  have HK := Lib.hid hka; have HV := Lib.hid hva; have HL := Lib.hid hl; clear hka hva hl
  obtain ⟨i0, hi, hz0, hz1, hz2⟩ := info_parts infoInt
  have I := Lib.hid (And.intro hi (And.intro hz0 (And.intro hz1 hz2))); clear hi hz0 hz1 hz2
  go_enter Try.func10, Try.ntmps10
  go_wp2_with fail
  clear h1
  have hm0 := Lib.hid (ref_mid0 (w := w) ks vs)
  go_loopw [13, 29] (fun lv i wr => ∃ k : Nat, k ≤ ks.length ∧ i = .int .i64 k ∧ (∀ i, i < k → ¬ badAt ks high b i) ∧ RefMid w ks vs k lv wr) (fun _ i _ => ks.length - (intOf i).toNat)
  case atStart => exact ⟨0, Nat.zero_le _, rfl, fun i hi => absurd hi (Nat.not_lt_zero _), hm0.out⟩
  case round =>
    obtain ⟨k, hk, rfl, hgood, hmid⟩ := hrel
    obtain ⟨la, lc, hlv⟩ := hmid.2.1.slice
    subst hlv
    have HG := Lib.hid hgood; have HM := Lib.hid hmid; clear hgood hmid hm0
    have hold : ∀ bb o u, w.cell? ⟨bb, o, none⟩ = some u → wr.cell? ⟨bb, o, none⟩ = some u := fun bb o u h => (HM.out.2.2.2.cell (World.block_lt_of_cell? w _ h)).trans h
    by_cases hlt : k < ks.length
    · obtain ⟨x, hx⟩ : ∃ x, ks[k]? = some x := ⟨_, List.getElem?_eq_getElem hlt⟩
      obtain ⟨y, hy⟩ : ∃ y, vs[k]? = some y := ⟨_, List.getElem?_eq_getElem (by rw [← HL.out]; exact hlt)⟩
      obtain ⟨kb, ko, rfl, hkc'⟩ := rd_at HK.out (intsU_get ks k x hx)
      obtain ⟨vb, vo, rfl, hvc'⟩ := rd_at HV.out (intsU_get vs k y hy)
      have hv1 : vb ≠ w.heap.size := by have := World.block_lt_of_cell? w _ (hvc' _ _ (intsU_get vs k y hy)); simp only at this; omega
      have e1 := hold _ _ _ (hkc' _ _ (intsU_get ks k x hx))
      have e2 := hold _ _ _ (hvc' _ _ (intsU_get vs k y hy))
      have hlv : (k : Int) < vs.length := by have := HL.out; omega
      have hlk : (k : Int) < ks.length := by omega
      have xD : ks.getD k 0 = x := by simp [List.getD, hx]
      have w1 : wr.cell? ⟨w.heap.size, 4 + k, none⟩ = some (.int .u64 (encF ks vs k (4 + k))) := HM.out.1.cell (by omega)
      have w2 : wr.cell? ⟨w.heap.size, 16 + k, none⟩ = some (.int .u64 (encF ks vs k (16 + k))) := HM.out.1.cell (by omega)
      have w3 := HM.out.1.frozen (4 + k)
      have w4 := HM.out.1.frozen (16 + k)
      have ho2 : ∀ g, (Value.slice la k lc).ownBlock = some g → g ≠ w.heap.size := fun g hg => by have := HM.out.2.2.1 g hg; omega
      have HO2 := Lib.hid ho2; clear ho2
      have Hxy := Lib.hid (And.intro hx hy)
      have XD := Lib.hid xD
      have HB : Hid (badAt ks high b k → ¬ ∀ i, i < ks.length → ¬ badAt ks high b i) := fun h1 h2 => h2 k hlt h1
      have hgn : ¬ badAt ks high b k → ∀ i, i < k + 1 → ¬ badAt ks high b i := fun h i hi => by
        rcases Nat.lt_succ_iff_lt_or_eq.1 hi with h' | h'
        · exact HG.out i h'
        · rw [h']; exact h
      have HN := Lib.hid hgn
      have HW := Lib.hid HM.out.2.2.2
      rcases Nat.eq_zero_or_pos k with hk0 | hk0
      · subst hk0
        clear hold hkc' hvc' hx hy xD hgn
        simp only [Nat.add_zero] at e1 e2 w1 w2 w3 w4
        rw [show ((0 : Nat) : Int) = 0 from rfl]
        by_cases hb2 : b = true ∧ high ≤ x
        · have Hbad : Hid (badAt ks high b 0) := by show badAt ks high b 0; exact .inr ⟨hb2.1, by rw [XD.out]; exact hb2.2⟩
          obtain ⟨rfl, hb3⟩ := hb2
          go_wp2_with fail
          go_ret2
          exact ⟨fun h => absurd h (HB.out Hbad.out), fun _ => ⟨rfl, HW.out⟩⟩
        · have Hng : Hid (¬ badAt ks high b 0) := by
            show ¬ badAt ks high b 0
            rintro (⟨h, _⟩ | ⟨h, h'⟩)
            · omega
            · rw [XD.out] at h'; exact hb2 ⟨h, h'⟩
          cases b
          · clear hb2
            go_wp2_with (at_builtin; refine wpList_append_sl _ rfl _ _ 105 rfl 3 i0 _ 1 8 Try.underlying105 I.out.1 I.out.2.1 I.out.2.2.1 I.out.2.2.2 rfl (by decide) _ 0 (natsI (List.range 0)) rfl (by exact ((HM.out.2.1.other (a := ⟨w.heap.size, 4 + 0, none⟩) (fun g hg => HO2.out g hg) _).other (a := ⟨w.heap.size, 16 + 0, none⟩) (fun g hg => HO2.out g hg) _).alloc _) _ 1 _ rfl (RdSl.newAt _ _ _ 1 1 _ (by simp [World.setCell]) rfl) (one_int _ _) (by unfold maxLen; omega) (by omega) ?_)
            intro v' w1 o1 g1 b1 n1
            have M1 := Lib.hid (ref_step HM.out Hxy.out.1 Hxy.out.2 hlt h12 rfl (by omega) (by omega) (by omega) o1 g1 b1 (by omega))
            clear o1 g1 b1 n1
            go_wp2_with fail
            go_roundw
            case rel => exact ⟨1, by omega, by go_num, HN.out Hng.out, M1.out⟩
            case measure => simp [intOf]; omega
          · have hb3 : ¬ high ≤ x := fun h => hb2 ⟨rfl, h⟩
            clear hb2
            go_wp2_with (at_builtin; refine wpList_append_sl _ rfl _ _ 105 rfl 3 i0 _ 1 8 Try.underlying105 I.out.1 I.out.2.1 I.out.2.2.1 I.out.2.2.2 rfl (by decide) _ 0 (natsI (List.range 0)) rfl (by exact ((HM.out.2.1.other (a := ⟨w.heap.size, 4 + 0, none⟩) (fun g hg => HO2.out g hg) _).other (a := ⟨w.heap.size, 16 + 0, none⟩) (fun g hg => HO2.out g hg) _).alloc _) _ 1 _ rfl (RdSl.newAt _ _ _ 1 1 _ (by simp [World.setCell]) rfl) (one_int _ _) (by unfold maxLen; omega) (by omega) ?_)
            intro v' w1 o1 g1 b1 n1
            have M1 := Lib.hid (ref_step HM.out Hxy.out.1 Hxy.out.2 hlt h12 rfl (by omega) (by omega) (by omega) o1 g1 b1 (by omega))
            clear o1 g1 b1 n1
            go_wp2_with fail
            go_roundw
            case rel => exact ⟨1, by omega, by go_num, HN.out Hng.out, M1.out⟩
            case measure => simp [intOf]; omega
      · obtain ⟨m, rfl⟩ : ∃ m, k = m + 1 := ⟨k - 1, by omega⟩
        obtain ⟨z, hz⟩ : ∃ z, ks[m]? = some z := ⟨_, List.getElem?_eq_getElem (by omega)⟩
        have e3 := hold _ _ _ (hkc' _ _ (intsU_get ks m z hz))
        have ZD : Hid (ks.getD m 0 = z) := by show ks.getD m 0 = z; simp [List.getD, hz]
        clear hold hkc' hvc' hx hy hz xD hgn
        by_cases hb1 : x ≤ z
        · have Hbad : Hid (badAt ks high b (m + 1)) := by show badAt ks high b (m + 1); exact .inl ⟨by omega, by rw [XD.out, Nat.add_sub_cancel, ZD.out]; exact hb1⟩
          go_wp2_with fail
          all_goals
            go_ret2
            exact ⟨fun h => absurd h (HB.out Hbad.out), fun _ => ⟨rfl, HW.out⟩⟩
        · by_cases hb2 : b = true ∧ high ≤ x
          · have Hbad : Hid (badAt ks high b (m + 1)) := by show badAt ks high b (m + 1); exact .inr ⟨hb2.1, by rw [XD.out]; exact hb2.2⟩
            obtain ⟨rfl, hb3⟩ := hb2
            go_wp2_with fail
            go_ret2
            exact ⟨fun h => absurd h (HB.out Hbad.out), fun _ => ⟨rfl, HW.out⟩⟩
          · have Hng : Hid (¬ badAt ks high b (m + 1)) := by
              show ¬ badAt ks high b (m + 1)
              rintro (⟨_, h⟩ | ⟨h, h'⟩)
              · rw [XD.out, Nat.add_sub_cancel, ZD.out] at h; exact hb1 h
              · rw [XD.out] at h'; exact hb2 ⟨h, h'⟩
            cases b
            · clear hb2
              go_wp2_with (at_builtin; refine wpList_append_sl _ rfl _ _ 105 rfl 3 i0 _ 1 8 Try.underlying105 I.out.1 I.out.2.1 I.out.2.2.1 I.out.2.2.2 rfl (by decide) _ (m + 1) (natsI (List.range (m + 1))) rfl (by exact ((HM.out.2.1.other (a := ⟨w.heap.size, 4 + (m + 1), none⟩) (fun g hg => HO2.out g hg) _).other (a := ⟨w.heap.size, 16 + (m + 1), none⟩) (fun g hg => HO2.out g hg) _).alloc _) _ 1 _ rfl (RdSl.newAt _ _ _ 1 1 _ (by simp [World.setCell]) rfl) (one_int _ _) (by unfold maxLen; omega) (by omega) ?_)
              intro v' w1 o1 g1 b1 n1
              rw [← List.range_succ] at o1
              have M1 := Lib.hid (ref_step (k := m + 1) (kk := (m : Int) + 1) HM.out Hxy.out.1 Hxy.out.2 hlt h12 rfl (by omega) (by omega) (by omega) o1 g1 b1 (by omega))
              clear o1 g1 b1 n1
              go_wp2_with fail
              go_roundw
              case rel => exact ⟨m + 1 + 1, by omega, by go_num, HN.out Hng.out, M1.out⟩
              case measure => simp [intOf]; omega
            · have hb3 : ¬ high ≤ x := fun h => hb2 ⟨rfl, h⟩
              clear hb2
              go_wp2_with (at_builtin; refine wpList_append_sl _ rfl _ _ 105 rfl 3 i0 _ 1 8 Try.underlying105 I.out.1 I.out.2.1 I.out.2.2.1 I.out.2.2.2 rfl (by decide) _ (m + 1) (natsI (List.range (m + 1))) rfl (by exact ((HM.out.2.1.other (a := ⟨w.heap.size, 4 + (m + 1), none⟩) (fun g hg => HO2.out g hg) _).other (a := ⟨w.heap.size, 16 + (m + 1), none⟩) (fun g hg => HO2.out g hg) _).alloc _) _ 1 _ rfl (RdSl.newAt _ _ _ 1 1 _ (by simp [World.setCell]) rfl) (one_int _ _) (by unfold maxLen; omega) (by omega) ?_)
              intro v' w1 o1 g1 b1 n1
              rw [← List.range_succ] at o1
              have M1 := Lib.hid (ref_step (k := m + 1) (kk := (m : Int) + 1) HM.out Hxy.out.1 Hxy.out.2 hlt h12 rfl (by omega) (by omega) (by omega) o1 g1 b1 (by omega))
              clear o1 g1 b1 n1
              go_wp2_with fail
              go_roundw
              case rel => exact ⟨m + 1 + 1, by omega, by go_num, HN.out Hng.out, M1.out⟩
              case measure => simp [intOf]; omega
    · obtain rfl : k = ks.length := by omega
      have z0 : wr.cell? ⟨w.heap.size, 0, none⟩ = some (.int .u64 (encF ks vs ks.length 0)) := HM.out.1.cell (by omega)
      have z1 : wr.cell? ⟨w.heap.size, 1, none⟩ = some (.int .u64 (encF ks vs ks.length 1)) := HM.out.1.cell (by omega)
      have z2 : wr.cell? ⟨w.heap.size, 2, none⟩ = some (.int .u64 (encF ks vs ks.length 2)) := HM.out.1.cell (by omega)
      have z3 : wr.cell? ⟨w.heap.size, 3, none⟩ = some (.int .u64 (encF ks vs ks.length 3)) := HM.out.1.cell (by omega)
      have f0 := HM.out.1.frozen 0; have f1 := HM.out.1.frozen 1; have f2 := HM.out.1.frozen 2; have f3 := HM.out.1.frozen 3
      have hrd := HM.out.2.1.rd
      have hll : (List.range ks.length).length = ks.length := List.length_range
      have ho := permutation_any (w := wr) (.slice la ks.length lc) (List.range ks.length) 0 (by rw [hll]; exact hrd) (by simpa using h12) (fun s hs => by simp at hs; omega) (by omega)
      rw [show ((0 : Nat) : Int) = 0 from rfl] at ho
      have HO := Lib.hid ho; clear ho hrd hll
      clear hold
      cases b
      · go_wp2_with (go_at_call 46; (with_reducible refine HO.out.mono ?_); rintro e w' ⟨rfl, rfl⟩)
        go_ret2
        exact ⟨fun _ => enc_end ⟨HM.out.1, HM.out.2.2.2⟩ h12 next high false _ rfl, fun h => absurd HG.out h⟩
      · go_wp2_with (go_at_call 46; (with_reducible refine HO.out.mono ?_); rintro e w' ⟨rfl, rfl⟩)
        go_ret2
        exact ⟨fun _ => enc_end ⟨HM.out.1, HM.out.2.2.2⟩ h12 next high true _ rfl, fun h => absurd HG.out h⟩
end
end Go.Proofs.Ytkoijmoendepgaa
