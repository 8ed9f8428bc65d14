/- LeafPlays: the law's own walk. -/
import Derived.Test.YtkoijmoendepgaaJ7
import Derived.Test.YtkoijmoendepgaaJ2
import Derived.WalkKit
import Derived.ProofKit
import Derived.OpenShut
import Derived.Lib.SmallJoins
import Derived.Deep.Fields
import Derived.Deep.Slices
import Derived.ChangeSame
namespace Go.Proofs.Ytkoijmoendepgaa
open Go.RowKit

/-- The words of the empty node. -/
def empW (high : Int) (b : Bool) : List Int := (List.range 28).map (encW [] [] 0 high b)
def empC (high : Int) (b : Bool) : Nat → Int := laid (fun _ => 0) 5 (empW high b)
theorem empC_at (high : Int) (b : Bool) (i : Nat) (hi : i < 28) : wd5 (empC high b) i = encW [] [] 0 high b i := by
  unfold wd5 empC laid empW
  rw [if_pos (by simp; omega), show 5 + i - 5 = i by omega]
  simp [List.getD, hi]
theorem empC_ok (high : Int) (b : Bool) (hh : 0 ≤ high ∧ high < 18446744073709551616) : PlW high b (empC high b) [] := by
  have e0 : wd5 (empC high b) 0 = (ordN [] 0 : Nat) := by rw [empC_at _ _ _ (by omega)]; rfl
  have e1 : wd5 (empC high b) 1 = 0 := by rw [empC_at _ _ _ (by omega)]; rfl
  have e2 : wd5 (empC high b) 2 = if b then high else 0 := by rw [empC_at _ _ _ (by omega)]; rfl
  have e3 : wd5 (empC high b) 3 = if b then 1 else 0 := by rw [empC_at _ _ _ (by omega)]; rfl
  have hg : NGood (wd5 (empC high b)) [] 768 := by
    refine ⟨by simp, by simp, List.nodup_nil, List.Pairwise.nil, ?_, .inl e1⟩
    rw [e2, e3]
    cases b
    · exact .inl ⟨rfl, rfl⟩
    · exact .inr ⟨rfl, by simp⟩
  obtain ⟨h1, h2⟩ := good_ok hg e0
  refine ⟨h1, by rw [h2]; rfl, fun i hi => ?_, e3, e2⟩
  rw [empC_at _ _ _ hi]
  unfold encW
  split
  · simp [ordN, digs]
  · split
    · omega
    · split
      · cases b
        · simp
        · simpa using hh
      · split
        · cases b <;> simp
        · unfold encF; rw [if_neg (by simp), if_neg (by simp)]; omega

section
variable {w : World}
theorem emp_list {wx : World} {g : Nat} {high : Int} {b : Bool} (h : Row wx g 28 23 (fun i => .int .u64 (encW [] [] 0 high b i))) : RdSl wx 1 (.slice (some ⟨g, 0, none⟩) 28 28) (empW high b).length (intsV (empW high b)) := by
  refine ⟨by simp [intsV], _, _, by rw [show (empW high b).length = 28 by simp [empW]], by simp [empW], .inr ⟨g, 0, rfl, fun j u hu => ?_⟩⟩
  have hj : j < 28 := by
    rcases Nat.lt_or_ge j 28 with h | h
    · exact h
    · rw [List.getElem?_eq_none (by simp [intsV, empW]; exact h)] at hu; cases hu
  have : u = .int .u64 (encW [] [] 0 high b j) := by simp [intsV, empW, hj] at hu; exact hu.symm
  rw [this, Nat.zero_add]; exact h.cell hj
theorem actBd {l : List (Bool × Int × Int)} {k : Nat} {e : Bool × Int × Int} (hb : ∀ e ∈ l, (0 ≤ e.2.1 ∧ e.2.1 < 18446744073709551616) ∧ (0 ≤ e.2.2 ∧ e.2.2 < 18446744073709551616)) (h : l[k]? = some e) : (0 ≤ e.2.1 ∧ e.2.1 < 18446744073709551616) ∧ (0 ≤ e.2.2 ∧ e.2.2 < 18446744073709551616) := hb e (List.mem_of_getElem? h)
/-- What the switch of the law comes to. -/
theorem play_cases {high : Int} {b : Bool} {C : Nat → Int} {E : List (Int × Int)} (h : PlW high b C E) (d : Bool) (key value : Int) (hk : 0 ≤ key ∧ key < 18446744073709551616) (hv : 0 ≤ value ∧ value < 18446744073709551616) :
    (d = true ∧ hasL key E = false ∧ (planP (wd5 C) 40 d key value).2 = 5) ∨
    (d = true ∧ hasL key E = true ∧ (planP (wd5 C) 40 d key value).2 = 0 ∧ After C 40 (wd5 C) (planP (wd5 C) 40 d key value).1 (unsetL key E)) ∨
    (d = false ∧ b = true ∧ high ≤ key ∧ (planP (wd5 C) 40 d key value).2 = 2) ∨
    (d = false ∧ (b = false ∨ b = true ∧ ¬ high ≤ key) ∧ hasL key E = false ∧ ((E.length : Int) == 12) = true ∧ (planP (wd5 C) 40 d key value).2 = 4) ∨
    (d = false ∧ (b = false ∨ b = true ∧ ¬ high ≤ key) ∧ (hasL key E = true ∨ hasL key E = false ∧ ((E.length : Int) == 12) = false) ∧ (planP (wd5 C) 40 d key value).2 = 0 ∧ After C 40 (wd5 C) (planP (wd5 C) 40 d key value).1 (setL key value E)) := by
  have hg := ok_good h.node
  have hhas : hasL key E = foundB (wd5 C) key (slotsW (wd5 C)) := by
    rw [← h.ents]
    cases hf : foundB (wd5 C) key (slotsW (wd5 C))
    · exact (unset_none hg.asc hf).2
    · exact (unset_found hg.asc hf).2
  have hlen : E.length = (slotsW (wd5 C)).length := by rw [← h.ents]; simp [entsW]
  have hWC : ∀ i, wd5 C i = C (40 / 8 + i) := fun i => rfl
  cases d
  · have hp : planP (wd5 C) 40 false key value = putP (wd5 C) 40 key value := rfl
    rw [hp, hhas]
    have hput := fun he => put_after (value := value) h.node hWC h.bd hk hv (by omega) (by omega) he
    rw [h.ents] at hput
    by_cases hbk : b = true ∧ high ≤ key
    · refine .inr (.inr (.inl ⟨rfl, hbk.1, hbk.2, ?_⟩))
      unfold putP; rw [if_pos ⟨by rw [h.w3, hbk.1]; rfl, by rw [h.w2, hbk.1]; exact hbk.2⟩]
    · have hbk2 : b = false ∨ b = true ∧ ¬ high ≤ key := by
        cases b
        · exact .inl rfl
        · exact .inr ⟨rfl, fun h => hbk ⟨rfl, h⟩⟩
      have hnr : ¬ (wd5 C 3 = 1 ∧ wd5 C 2 ≤ key) := by
        rw [h.w3, h.w2]
        cases b
        · simp
        · simpa using hbk
      have he : (putP (wd5 C) 40 key value).2 = if foundB (wd5 C) key (slotsW (wd5 C)) then 0 else if (slotsW (wd5 C)).length = 12 then 4 else 0 := by
        unfold putP; rw [if_neg hnr]; split
        · rfl
        · split <;> rfl
      cases hf : foundB (wd5 C) key (slotsW (wd5 C))
      · rw [hf] at he
        by_cases h12 : (slotsW (wd5 C)).length = 12
        · exact .inr (.inr (.inr (.inl ⟨rfl, hbk2, rfl, by rw [hlen, h12]; rfl, by rw [he]; simp [h12]⟩)))
        · have he0 : (putP (wd5 C) 40 key value).2 = 0 := by rw [he]; simp [h12]
          exact .inr (.inr (.inr (.inr ⟨rfl, hbk2, .inr ⟨rfl, by rw [hlen]; simp; omega⟩, he0, hput he0⟩)))
      · rw [hf] at he
        have he0 : (putP (wd5 C) 40 key value).2 = 0 := by rw [he]; rfl
        exact .inr (.inr (.inr (.inr ⟨rfl, hbk2, .inl rfl, he0, hput he0⟩)))
  · have hp : planP (wd5 C) 40 true key value = delP (wd5 C) 40 key := rfl
    rw [hp, hhas]
    cases hf : foundB (wd5 C) key (slotsW (wd5 C))
    · exact .inl ⟨rfl, rfl, by unfold delP; rw [if_neg (by simp [hf])]⟩
    · have := del_after h.node hWC h.bd (by omega) (by omega) hf
      rw [h.ents] at this
      exact .inr (.inl ⟨rfl, rfl, this.2, this.1⟩)

set_option maxRecDepth 100000 in
set_option maxHeartbeats 8000000 in
theorem leafPlays_any (high : Int) (b : Bool) (av : Value) (l : List (Bool × Int × Int)) (h : RdSl w 3 av l.length (actC l)) (hlen : l.length ≤ maxLen) (hh : 0 ≤ high ∧ high < 18446744073709551616)
    (hbd : ∀ e ∈ l, (0 ≤ e.2.1 ∧ e.2.1 < 18446744073709551616) ∧ (0 ≤ e.2.2 ∧ e.2.2 < 18446744073709551616)) :
    Calls Try.prog 7 #[.int .u64 high, .bool b, av] w fun r w' => r = .returned (.bool true) ∧ Below w.heap.size w w' := by
  unfold maxLen at hlen
  have H := Lib.hid h; have HB := Lib.hid hbd; have HH := Lib.hid hh; clear hbd hh
  obtain ⟨_, aa, ac, rfl, hac, _⟩ := h
  generalize hn : l.length = n at *
  have HN := Lib.hid hn; clear hn
  have HE := Lib.hid (fun wx => encode_any (w := wx) (.slice none 0 0) (.slice none 0 0) [] [] 0 high b (OwnSl.nil wx 23 1).rd (OwnSl.nil wx 23 1).rd rfl (by decide))
  go_enter Try.func7, Try.ntmps7
  go_wp2_with fail
  (with_reducible refine awake_any.mono ?_)
  rintro e w1 ⟨rfl, b1⟩
  have B1 := Lib.hid b1; clear b1
  go_wp2_with fail
  (with_reducible refine (new12_any (w := w1)).mono ?_)
  rintro e w2 ⟨v, own, rfl, d2, o2, b2⟩
  have L2 : Hid (LiveSt w v own (Dev.fresh 12 fun _ => 0) 0 (fun _ => 0) w2) := ⟨⟨d2, fun k hk => Nat.le_trans B1.out.size (o2 k hk), B1.out.trans (b2.mono B1.out.size)⟩, Live.fresh 12 _⟩
  clear d2 o2 b2 B1
  go_wp2_with fail
  (with_reducible refine (HE.out w2).mono ?_)
  rintro e w3 ⟨he, _⟩
  obtain ⟨g, rfl, r3, g3, b3⟩ := he (by simp)
  have L3 := Lib.hid (L2.out.next b3)
  have hP := L3.out.put 40 (.slice (some ⟨g, 0, none⟩) 28 28) (empW high b) (by omega) (by simp [empW]) (by simp [empW]) (emp_list r3) (fun k hk => by
    simp [Value.ownBlock] at hk; subst hk
    exact Classical.byContradiction (fun h => by have := L2.out.dev.lt _ h; omega))
  rw [show ((40 : Nat) : Int) = 40 from rfl, show 40 / 8 = 5 from rfl] at hP
  have HP := Lib.hid hP
  clear he hP r3 g3 b3 L2 HE
  go_wp2_with fail
  (with_reducible refine HP.out.mono ?_)
  rintro e w4 ⟨rfl, own4, D4, l4, _, _⟩
  have L4 : Hid (LiveSt w v own4 D4 57 (empC high b) w4) := by have := l4; rw [show (empW high b).length = 28 by simp [empW]] at this; exact this
  clear l4 HP L3
  go_wp2_with fail
  (with_reducible refine (thread0_any L4.out.dev).mono ?_)
  rintro e w' ⟨rfl, rfl⟩
  have hPt := pointerN_any (w := w4) 40 (by omega) (by omega) (by omega)
  rw [show ((40 : Nat) : Int) = 40 from rfl] at hPt
  have HPt := Lib.hid hPt; clear hPt
  go_wp2_with fail
  (with_reducible refine HPt.out.mono ?_)
  rintro e w' ⟨rfl, rfl⟩
  go_wp2_with fail
  (with_reducible refine (at_any _ _ (.inr ⟨_, _, rfl⟩)).mono ?_)
  rintro e w5 ⟨rfl, b5⟩
  have P0 : Hid (PlSt w high b v w5.heap.size own4 D4 57 (empC high b) (.slice none 0 0) [] (w5.alloc (.cells #[.iface 39 (.pointer (some ⟨v.tb 0, 0, none⟩)), .int .u64 (ptrN 40 : Nat)] 47))) := by
    have hL := (L4.out.next b5).next (below_alloc w5 (.cells #[.iface 39 (.pointer (some ⟨v.tb 0, 0, none⟩)), .int .u64 (ptrN 40 : Nat)] 47))
    exact ⟨hL, Blk.new _ _ _, Classical.byContradiction (fun h => by have := (L4.out.next b5).dev.lt _ h; omega), Acc.nil w _ _ _ _ hL.bel hL.bel.size, fun g hg => by simp [Value.ownBlock] at hg⟩
  have W0 := Lib.hid (empC_ok high b HH.out)
  clear b5 L4 HPt HH
  go_wp2_with fail
  generalize w5.heap.size = lb at *
  go_loopw [12, 47] (fun ov y wr => ∃ k : Nat, k ≤ n ∧ k ≤ 40 ∧ y = .int .i64 k ∧ ∃ own D x C E, x ≤ 57 + 8 * k ∧ PlW high b C E ∧ PlSt w high b v lb own D x C ov E wr) (fun _ y _ => n - (intOf y).toNat)
  case atStart => exact ⟨0, by omega, by omega, rfl, own4, D4, 57, empC high b, [], by omega, W0.out, P0.out⟩
  case round =>
    obtain ⟨k, hk, hk40, rfl, own, D, x, C, E, hx, hw, hp⟩ := hrel
    have W1 := Lib.hid hw; have P1 := Lib.hid hp; clear hw hp P0 W0
    obtain ⟨oa, oc, rfl⟩ := P1.out.acc.slice
    by_cases hlt : k < n
    · have hk' : (k : Int) < n := by omega
      obtain ⟨e, he⟩ : ∃ e, l[k]? = some e := ⟨_, List.getElem?_eq_getElem (by rw [HN.out]; exact hlt)⟩
      obtain ⟨_, a', c', e', _, hE⟩ := (show RdSl wr 3 (.slice aa n ac) n (actC l) from H.out.kept (fun g _ hg => P1.out.live.bel.block g hg))
      cases e'
      have hg := actC_get l k e he
      obtain ⟨eb, eo, rfl, hE2⟩ := rd_at hE hg.1
      have c1 := hE2 _ _ hg.1; have c2 := hE2 _ _ hg.2.1; have c3 := hE2 _ _ hg.2.2
      rw [← Nat.add_assoc] at c2 c3
      obtain ⟨hkb, hvb⟩ := actBd HB.out he
      obtain ⟨d, key, value⟩ := e
      simp only at c1 c2 c3 hkb hvb
      have HC := Lib.hid (play_cases W1.out d key value hkb hvb)
      clear hE hE2 hg he hkb hvb
      have l0 : wr.cell? ⟨lb, 0, none⟩ = some (.iface 39 (.pointer (some ⟨v.tb 0, 0, none⟩))) := P1.out.leaf.cell rfl
      have l1 : wr.cell? ⟨lb, 1, none⟩ = some (.int .u64 (ptrN 40 : Nat)) := P1.out.leaf.cell rfl
      have ll := P1.out.leaf.lt
      by_cases h40 : k = 40
      · have h40' : ((k : Int) == 40) = true := by simp; omega
        clear h40
        go_wp2_with fail
        go_ret
        exact ⟨rfl, (P1.out.next (below_alloc wr _)).live.bel⟩
      · have h40' : ((k : Int) == 40) = false := by simp; omega
        have P2 := Lib.hid (P1.out.next (below_alloc wr (.cells #[.bool d, .int .u64 key, .int .u64 value] 95)))
        have HPL := Lib.hid (P2.out.plan W1.out d key value)
        have A2 : Hid (Blk (wr.alloc (.cells #[.bool d, .int .u64 key, .int .u64 value] 95)) wr.heap.size #[.bool d, .int .u64 key, .int .u64 value] 95) := Blk.new _ _ _
        go_wp2_with fail
        (with_reducible refine HPL.out.mono ?_)
        rintro e w3 ⟨b3, pv, rfl, o3, n3⟩
        have P3 := Lib.hid (P2.out.next b3); have A3 := Lib.hid (A2.out.below b3)
        have O3 := Lib.hid (And.intro o3 (fun g hg => show own g = none from Classical.byContradiction (fun hn => by have := P2.out.live.dev.lt g hn; have := n3 g hg; omega)))
        obtain ⟨pa, pc, hpv⟩ := o3.slice
        subst hpv
        clear b3 o3 n3 HPL P2 A2 l0 l1 ll c1 c2 c3
        have a0 : w3.cell? ⟨wr.heap.size, 0, none⟩ = some (.bool d) := A3.out.cell rfl
        have a1 : w3.cell? ⟨wr.heap.size, 1, none⟩ = some (.int .u64 key) := A3.out.cell rfl
        have HU := Lib.hid (refUnset_any (w := w3) (.slice oa E.length oc) E key P3.out.acc.rd (by rw [← W1.out.ents]; have := (ok_good W1.out.node).len; simp [entsW]; omega))
        go_wp2_with fail
        (with_reducible refine HU.out.mono ?_)
        rintro e w4 ⟨rv, rfl, acc4⟩
        obtain ⟨ra, rc, rfl⟩ := acc4.slice
        have ACC4 := Lib.hid acc4
        have P4 := Lib.hid (P3.out.next acc4.bel); have A4 := Lib.hid (A3.out.below acc4.bel)
        have O4 : Hid (OwnSl w4 104 3 (.slice pa (planP (wd5 C) 40 d key value).1.length pc) (planP (wd5 C) 40 d key value).1.length (instrC (planP (wd5 C) 40 d key value).1) ∧ ∀ g, (Value.slice pa (planP (wd5 C) 40 d key value).1.length pc).ownBlock = some g → own g = none) :=
          ⟨O3.out.1.below acc4.bel, O3.out.2⟩
        have hE : E.length ≤ 12 := by rw [← W1.out.ents]; have := (ok_good W1.out.node).len; simpa [entsW] using this
        clear acc4 HU O3 A3 a0 a1
        generalize planP (wd5 C) 40 d key value = pl at *
        obtain ⟨pp, pe⟩ := pl
        generalize hasL key E = hs at *
        have a0 : w4.cell? ⟨wr.heap.size, 0, none⟩ = some (.bool d) := A4.out.cell rfl
        have a1 : w4.cell? ⟨wr.heap.size, 1, none⟩ = some (.int .u64 key) := A4.out.cell rfl
        have a2 : w4.cell? ⟨wr.heap.size, 2, none⟩ = some (.int .u64 value) := A4.out.cell rfl
        simp only at O4 ⊢
        rcases HC.out with ⟨rfl, rfl, he⟩ | ⟨rfl, rfl, he, ha⟩ | ⟨rfl, hb, hhk, he⟩ | ⟨rfl, hbk, rfl, h12, he⟩ | ⟨rfl, hbk, hhs, he, ha⟩
        · simp only at he
          subst he
          clear HC O4 ACC4 P3
          go_wp2_with fail
          go_roundw
          case rel => exact ⟨k + 1, by omega, by omega, by go_num, own, D, x, C, E, by omega, W1.out, P4.out⟩
          case measure => simp [intOf]; omega
        · simp only at he ha
          subst he
          have HA := Lib.hid ha
          have P5 := Lib.hid (P3.out.want ACC4.out)
          clear HC ACC4 P4 ha P3
          have HR := Lib.hid (P5.out.run (by omega) HA.out.ok HA.out.len O4.out.1 O4.out.2)
          have HT := Lib.hid (thread0_any P5.out.live.dev)
          have W5 := Lib.hid (W1.out.next HA.out)
          have hE12 : (unsetL key E).length ≤ 12 := by rw [← W5.out.ents]; have := (ok_good W5.out.node).len; simpa [entsW] using this
          clear HA P5 O4 A4
          go_wp2_with fail
          (with_reducible refine HT.out.mono ?_)
          rintro e w' ⟨rfl, rfl⟩
          go_wp2_with fail
          (with_reducible refine HR.out.mono ?_)
          rintro e w6 ⟨rfl, own6, D6, p6⟩
          have P6 := Lib.hid p6; clear p6 HR HT
          have l0 : w6.cell? ⟨lb, 0, none⟩ = some (.iface 39 (.pointer (some ⟨v.tb 0, 0, none⟩))) := P6.out.leaf.cell rfl
          have l1 : w6.cell? ⟨lb, 1, none⟩ = some (.int .u64 (ptrN 40 : Nat)) := P6.out.leaf.cell rfl
          have ll := P6.out.leaf.lt
          go_wp2_with fail
          (with_reducible refine (P6.out.ents W5.out).mono ?_)
          rintro e w7 ⟨na, nc, rfl, r7, b7⟩
          have P7 := Lib.hid (P6.out.next b7); have R7 := Lib.hid r7
          clear r7 b7 l0 l1 ll
          go_wp2_with fail
          (with_reducible refine (refSame_same _ _ (unsetL key E) R7.out P7.out.acc.rd (by omega)).mono ?_)
          rintro e w8 ⟨rfl, b8⟩
          have P8 := Lib.hid (P7.out.next b8); clear b8 R7
          have l0 : w8.cell? ⟨lb, 0, none⟩ = some (.iface 39 (.pointer (some ⟨v.tb 0, 0, none⟩))) := P8.out.leaf.cell rfl
          have l1 : w8.cell? ⟨lb, 1, none⟩ = some (.int .u64 (ptrN 40 : Nat)) := P8.out.leaf.cell rfl
          have ll := P8.out.leaf.lt
          go_wp2_with fail
          (with_reducible refine (P8.out.len W5.out).mono ?_)
          rintro e w9 ⟨rfl, b9⟩
          have P9 := Lib.hid (P8.out.next b9); clear b9 l0 l1 ll
          go_wp2_with fail
          go_roundw
          case rel => exact ⟨k + 1, by omega, by omega, by go_num, own6, D6, x + 8, _, _, by omega, W5.out, P9.out⟩
          case measure => simp [intOf]; omega
        · simp only at he
          subst he
          subst hb
          clear HC O4 ACC4 P3
          go_wp2_with fail
          go_roundw
          case rel => exact ⟨k + 1, by omega, by omega, by go_num, own, D, x, C, E, by omega, W1.out, P4.out⟩
          case measure => simp [intOf]; omega
        · simp only at he
          subst he
          clear HC O4 ACC4 P3
          rcases hbk with rfl | ⟨rfl, hhk⟩
          all_goals
            go_wp2_with fail
            go_roundw
            case rel => exact ⟨k + 1, by omega, by omega, by go_num, own, D, x, C, E, by omega, W1.out, P4.out⟩
            case measure => simp [intOf]; omega
        · simp only at he ha
          subst he
          have HA := Lib.hid ha
          have HS := Lib.hid (refSet_any (w := w4) (.slice oa E.length oc) E key value P4.out.acc.rd (by omega))
          clear HC ACC4 ha P3
          rcases hbk with rfl | ⟨rfl, hhk⟩
          all_goals rcases hhs with rfl | ⟨rfl, h12⟩
          all_goals
            go_wp2_with fail
            (with_reducible refine HS.out.mono ?_)
            rintro e w5 ⟨sv, rfl, acc5⟩
            obtain ⟨sa, sc, rfl⟩ := acc5.slice
            have P5 := Lib.hid (P4.out.want acc5)
            have O5 := Lib.hid (And.intro (O4.out.1.below acc5.bel) O4.out.2)
            clear acc5 HS P4 O4 a0 a1 a2
            have HR := Lib.hid (P5.out.run (by omega) HA.out.ok HA.out.len O5.out.1 O5.out.2)
            have HT := Lib.hid (thread0_any P5.out.live.dev)
            have W5 := Lib.hid (W1.out.next HA.out)
            have hE12 : (setL key value E).length ≤ 12 := by rw [← W5.out.ents]; have := (ok_good W5.out.node).len; simpa [entsW] using this
            clear HA P5 O5 A4
            go_wp2_with fail
            (with_reducible refine HT.out.mono ?_)
            rintro e w' ⟨rfl, rfl⟩
            go_wp2_with fail
            (with_reducible refine HR.out.mono ?_)
            rintro e w6 ⟨rfl, own6, D6, p6⟩
            have P6 := Lib.hid p6; clear p6 HR HT
            have l0 : w6.cell? ⟨lb, 0, none⟩ = some (.iface 39 (.pointer (some ⟨v.tb 0, 0, none⟩))) := P6.out.leaf.cell rfl
            have l1 : w6.cell? ⟨lb, 1, none⟩ = some (.int .u64 (ptrN 40 : Nat)) := P6.out.leaf.cell rfl
            have ll := P6.out.leaf.lt
            go_wp2_with fail
            (with_reducible refine (P6.out.ents W5.out).mono ?_)
            rintro e w7 ⟨na, nc, rfl, r7, b7⟩
            have P7 := Lib.hid (P6.out.next b7); have R7 := Lib.hid r7
            clear r7 b7 l0 l1 ll
            go_wp2_with fail
            (with_reducible refine (refSame_same _ _ (setL key value E) R7.out P7.out.acc.rd (by omega)).mono ?_)
            rintro e w8 ⟨rfl, b8⟩
            have P8 := Lib.hid (P7.out.next b8); clear b8 R7
            have l0 : w8.cell? ⟨lb, 0, none⟩ = some (.iface 39 (.pointer (some ⟨v.tb 0, 0, none⟩))) := P8.out.leaf.cell rfl
            have l1 : w8.cell? ⟨lb, 1, none⟩ = some (.int .u64 (ptrN 40 : Nat)) := P8.out.leaf.cell rfl
            have ll := P8.out.leaf.lt
            go_wp2_with fail
            (with_reducible refine (P8.out.len W5.out).mono ?_)
            rintro e w9 ⟨rfl, b9⟩
            have P9 := Lib.hid (P8.out.next b9); clear b9 l0 l1 ll
            go_wp2_with fail
            go_roundw
            case rel => exact ⟨k + 1, by omega, by omega, by go_num, own6, D6, x + 8, _, _, by omega, W5.out, P9.out⟩
            case measure => simp [intOf]; omega
    · go_wp2_with fail
      go_ret
      exact ⟨rfl, P1.out.live.bel⟩
end
end Go.Proofs.Ytkoijmoendepgaa

/- From a walk to a given statement: a law that returns true and changes nothing that was there answers as its row says, whatever its arguments are. -/
namespace Go.Proofs.Ytkoijmoendepgaa
open Go.ChangeShapes Go.WideShapes Go.ChangeAt Go.RowKit

theorem own_knob : ownKnob Try.prog.godebug = none := by kernel_rfl
theorem laid_out : laidOutB Try.prog = true := by kernel_rfl

section
variable {H : Type} {enc : TypeId × Value → H}

theorem trodAll_stays {W W' : World} {sp' : Nat → Bool} : ∀ {ts : List TypeId} {vs : List Value} {ds : List (DataW H)} {ps : List MemPlace}, (∀ t ∈ ts, Try.prog.readableRec t = true ∧ t < Try.prog.types.size) →
    DataW.TrodAll enc Try.prog W 0 (fun _ => true) true ts vs ds ps → (∀ p ∈ ps, W.sameAt W' p) → (∀ p ∈ ps, sp' p.block = true) → DataW.TrodAll enc Try.prog W' 0 sp' true ts vs ds ps
  | [], [], [], _, _, h, _, _ => h
  | t :: _, _ :: _, _ :: _, _, hT, ⟨p, q, h1, h2, e⟩, hw, hs =>
    ⟨p, q, WideElems.Trod_stays laid_out (hT t (List.mem_cons.2 (.inl rfl))).1 (hT t (List.mem_cons.2 (.inl rfl))).2 h1 (fun x hx => hw x (by rw [e]; exact List.mem_append_left _ hx)) (fun x hx => hs x (by rw [e]; exact List.mem_append_left _ hx)),
      trodAll_stays (fun t ht => hT t (List.mem_cons.2 (.inr ht))) h2 (fun x hx => hw x (by rw [e]; exact List.mem_append_right _ hx)) (fun x hx => hs x (by rw [e]; exact List.mem_append_right _ hx)), e⟩

theorem law_post {f : Func} {s : ChangeSpec} {W W' : World} {args : Array Value} {ds gs : List (DataW H)} {before : List MemPlace}
    (hW : DataW.Whole enc Try.prog f.params.toList s.vars false W args.toList ds gs before) (hvars : s.vars = []) (hr : f.resultTypes = #[4])
    (hs : s.fn H ds = { results := [.lit (.bool true)], args := ds }) (hrd : ∀ t ∈ f.params.toList, Try.prog.readableRec t = true ∧ t < Try.prog.types.size) (hb : Below W.heap.size W W') :
    s.post enc Try.prog f false true false false W args (.bool true) W' := by
  have hlt : ∀ p ∈ before, p.block < W.heap.size := fun p hp => hW.lt p hp
  have hW' := hW
  obtain ⟨p, q, hA, hV, rfl, _, _⟩ := hW
  rw [hvars] at hV
  obtain ⟨rfl, rfl⟩ := trodVars_none hV
  simp only [List.append_nil] at hlt hW'
  refine ⟨ds, [], p, [], p, [], hW', ?_, ?_, ?_, World.keptBut_mono (fun x hx => ⟨hx, .inr (.inl hx)⟩) (hb.frame (· ∈ p)), fun h => (Bool.false_ne_true h).elim⟩
  · rw [hr, List.append_nil, hs]; exact trodAll_mk1 (shut_bool Try.underlying4 _)
  · rw [List.append_nil, hs]
    exact trodAll_stays hrd hA (fun x hx => hb.same (hlt x hx)) (fun x hx => by simpa using hlt x hx)
  · rw [hvars, List.append_nil, hs]; rfl

/-- A word that came in. -/
theorem u64_nat {x : Int} (h : (Lit.int .u64 x).wf = true) : ∃ n : Nat, x = n ∧ n < 18446744073709551616 := by
  simp [Lit.wf, IntKind.min, IntKind.max, IntKind.signed, IntKind.bits] at h
  exact ⟨x.toNat, by omega, by omega⟩
theorem cells_u64 : Try.prog.cellsOf 23 = 1 := by kernel_rfl
set_option maxRecDepth 100000 in
/-- A slice of words that came in. -/
theorem open_u64s {W : World} {base b : Nat} {sp : Nat → Bool} {hd : Bool} {v : Value} {d : DataW H} {p : List MemPlace} (hv : Value.okWide Try.prog W .any b 22 v) (h : DataW.Trod enc Try.prog W base sp hd 22 v d p) :
    ∃ a c xs, v = .slice a xs.length c ∧ RdSl W 1 (.slice a xs.length c) xs.length (intsU xs) ∧ xs.length ≤ maxLen := by
  obtain ⟨a0, len, cap, rfl⟩ := okWide_slice Try.underlying22 hv
  obtain ⟨fuel, hf⟩ := h
  rcases open_ints Try.underlying22 Try.underlying23 cells_u64 hf with ⟨hcs, _⟩ | ⟨a, len', cap', zs, hcs, _, hl, hm, hz, _, hcell, _⟩
  · simp [Value.cells] at hcs
    obtain ⟨rfl, rfl, rfl⟩ := hcs
    exact ⟨none, 0, [], rfl, (OwnSl.nil W 0 1).rd, by simp⟩
  · simp [Value.cells] at hcs
    obtain ⟨rfl, rfl, rfl⟩ := hcs
    have hlen : (zs.take len).length = len := by
      rw [List.length_take, hz]; split <;> omega
    refine ⟨some a, cap, zs.take len, by rw [hlen], ?_, by omega⟩
    rw [hlen]
    refine ⟨by rw [intsU, List.length_map, hlen, Nat.mul_one], some a, cap, rfl, hl, ?_⟩
    by_cases h0 : len = 0
    · left; simp [intsU, h0]
    · have hz1 : len ≤ zs.length := by rw [hz]; split <;> omega
      have c0 := hcell 0 (by omega)
      have hsp := World.cell?_spot c0
      simp only [Addr.add, if_true] at hsp
      refine .inr ⟨a.block, a.off, by rw [← hsp], fun j u hu => ?_⟩
      have hj : j < len := by
        rcases Nat.lt_or_ge j len with h | h
        · exact h
        · rw [List.getElem?_eq_none (by simp [intsU]; omega)] at hu; cases hu
      have hcj := hcell j (by omega)
      have ea : a.add j = ⟨a.block, a.off + j, none⟩ := by
        unfold Addr.add; split
        · rename_i e; subst e; rw [← hsp]; rfl
        · rfl
      rw [← ea, hcj]
      simp only [intsU, List.getElem?_map, List.getElem?_take, if_pos hj] at hu
      rw [List.getElem?_eq_getElem (by omega)] at hu
      rw [List.getD, List.getElem?_eq_getElem (by omega)]
      simpa using hu
end
end Go.Proofs.Ytkoijmoendepgaa

/- A slice of structs that came in as an argument: opened. -/
namespace Go.Proofs.Ytkoijmoendepgaa
open Go.ChangeShapes Go.WideShapes Go.ChangeAt Go.RowKit Go.Joins Go.Deep

section
variable {H : Type} {enc : TypeId × Value → H} {P : Program}
theorem addr_flat {W : World} {a : Addr} {u : Value} (h : W.cell? (a.add 0) = some u) : a = ⟨a.block, a.off, none⟩ ∧ ∀ j, a.add j = ⟨a.block, a.off + j, none⟩ := by
  have hsp := World.cell?_spot h
  simp only [Addr.add, if_true] at hsp
  have e : a = ⟨a.block, a.off, none⟩ := by rw [← hsp]
  refine ⟨e, fun j => ?_⟩
  unfold Addr.add; split
  · rename_i h0; subst h0; exact e
  · rfl
/-- The cells of a slice of structs, and each field's reading. -/
theorem open_structs {W : World} {base : Nat} {sp : Nat → Bool} {hd : Bool} {t e : TypeId} {fs : Array Field} {fuel : Nat} {v : Value} {x : DataW H × List MemPlace} (ht : P.underlying t = some (.slice e)) (he : P.underlying e = some (.struct fs))
    (hone : oneCellFields P fs = true) (hC : P.cellsOf e = fs.size) (hpos : 0 < fs.size) (h : DataW.trod enc P W base sp hd fuel t [v] = some x) :
    ∃ (a : Option Addr) (n c : Nat) (xs : List Value), v = .slice a n c ∧ RdSl W fs.size (.slice a n c) n xs ∧ n ≤ maxLen ∧
      ∀ i, i < n → ∃ q : Nat, ∀ (j : Nat) (f : Field), fs[j]? = some f → ∃ (u : Value) (y : DataW H × List MemPlace), xs[i * fs.size + j]? = some u ∧ DataW.trod enc P W base sp hd q f.type [u] = some y := by
  rcases open_slice ht h with ⟨h0, _⟩ | ⟨a, len, cap, m, n, D, Pl, hcs, hb, hl, hm, hmm, hx, hi⟩
  · simp at h0; subst h0
    exact ⟨none, 0, 0, [], rfl, (OwnSl.nil W 0 _).rd, by simp, fun i hi => by omega⟩
  · simp at hcs; subst hcs
    have hlm : len ≤ m := by rw [hmm]; split <;> omega
    have hcell : ∀ i, i < len → ∃ (q : Nat) (cs : List Value), cs.length = fs.size ∧ (∀ j, j < fs.size → W.cell? (a.add (i * fs.size + j)) = cs[j]?) ∧ ∀ (j : Nat) (f : Field), fs[j]? = some f → ∃ (u : Value) (y : DataW H × List MemPlace), cs[j]? = some u ∧ DataW.trod enc P W base sp hd q f.type [u] = some y := by
      intro i hil
      obtain ⟨cs', hc, ht'⟩ := hi i (by omega)
      rw [hC] at hc
      obtain ⟨ys, n', hn', hy, hlen, hyl, hf⟩ := DataW.trod_struct he ht'
      obtain ⟨_, hcl, hat⟩ := World.cells?_some hc
      refine ⟨n', cs', hcl, fun j hj => by rw [← Go.Deep.add_add]; exact hat j hj, fun j f hj => ?_⟩
      obtain ⟨ho, hk⟩ := hone_of hone j f hj
      have hjl : j < fs.size := (Array.getElem?_eq_some_iff.1 hj).1
      have h1 := hf j f hj
      rw [ho, hk] at h1
      have hone' : (cs'.drop j).take 1 = [cs'[j]'(by omega)] := by
        rw [List.drop_eq_getElem_cons (by omega)]; rfl
      rw [hone'] at h1
      have hys : ys[j]? = some (ys[j]'(by omega)) := List.getElem?_eq_getElem (by omega)
      exact ⟨_, _, List.getElem?_eq_getElem (by omega), h1.trans hys⟩
    refine ⟨some a, len, cap, (List.range (len * fs.size)).map fun j => (W.cell? (a.add j)).getD (.bool false), rfl, ⟨by simp, some a, cap, rfl, hl, ?_⟩, by omega, fun i hil => ?_⟩
    · by_cases h0 : len = 0
      · left; simp [h0]
      · obtain ⟨q, cs, hcl, hat, _⟩ := hcell 0 (by omega)
        have c0 := hat 0 hpos
        simp only [Nat.zero_mul, Nat.zero_add] at c0
        rw [List.getElem?_eq_getElem (by omega)] at c0
        obtain ⟨ha, hadd⟩ := addr_flat c0
        refine .inr ⟨a.block, a.off, by rw [← ha], fun j u hu => ?_⟩
        have hj : j < len * fs.size := by
          rcases Nat.lt_or_ge j (len * fs.size) with h | h
          · exact h
          · rw [List.getElem?_eq_none (by simpa using h)] at hu; cases hu
        have hd : j / fs.size < len := Nat.div_lt_of_lt_mul (by rw [Nat.mul_comm]; exact hj)
        obtain ⟨q, cs, hcl, hat, _⟩ := hcell (j / fs.size) hd
        have hmod := Nat.mod_lt j hpos
        have c1 := hat (j % fs.size) hmod
        rw [Nat.mul_comm, Nat.div_add_mod, List.getElem?_eq_getElem (by omega)] at c1
        simp only [List.getElem?_map, List.getElem?_range hj, Option.map_some, c1, Option.getD_some, Option.some.injEq] at hu
        rw [← hadd, c1, hu]
    · obtain ⟨q, cs, hcl, hat, hf⟩ := hcell i hil
      refine ⟨q, fun j f hj => ?_⟩
      have hjl : j < fs.size := (Array.getElem?_eq_some_iff.1 hj).1
      obtain ⟨u, y, hu, hy⟩ := hf j f hj
      refine ⟨u, y, ?_, hy⟩
      have hlt : i * fs.size + j < len * fs.size := by
        have : (i + 1) * fs.size ≤ len * fs.size := Nat.mul_le_mul_right _ hil
        rw [Nat.add_mul] at this; omega
      rw [List.getElem?_map, List.getElem?_range hlt, Option.map_some, hat j hjl, hu]; rfl
end
end Go.Proofs.Ytkoijmoendepgaa

/- The acts of LeafPlays: opened. -/
namespace Go.Proofs.Ytkoijmoendepgaa
open Go.ChangeShapes Go.WideShapes Go.ChangeAt Go.RowKit Go.Joins Go.Deep

section
variable {H : Type} {enc : TypeId × Value → H}
def boolV : Value → Bool | .bool b => b | _ => false
theorem actC_len (l : List (Bool × Int × Int)) : (actC l).length = l.length * 3 := by
  induction l with
  | nil => rfl
  | cons e l ih => simp [actC] at *; omega
set_option maxRecDepth 100000 in
theorem open_acts {W : World} {base b : Nat} {sp : Nat → Bool} {hd : Bool} {v : Value} {d : DataW H} {p : List MemPlace} (hv : Value.okWide Try.prog W .any b 93 v) (h : DataW.Trod enc Try.prog W base sp hd 93 v d p) :
    ∃ l : List (Bool × Int × Int), RdSl W 3 v l.length (actC l) ∧ l.length ≤ maxLen ∧ ∀ e ∈ l, (0 ≤ e.2.1 ∧ e.2.1 < 18446744073709551616) ∧ (0 ≤ e.2.2 ∧ e.2.2 < 18446744073709551616) := by
  obtain ⟨a0, len, cap, rfl⟩ := okWide_slice Try.underlying93 hv
  obtain ⟨fuel, hf⟩ := h
  obtain ⟨a, n, c, xs, hv', hrd, hn, hfl⟩ := open_structs Try.underlying93 Try.underlying95 (by kernel_rfl) (by kernel_rfl) (by decide) hf
  obtain ⟨rfl, rfl, rfl⟩ : a0 = a ∧ len = n ∧ cap = c := by simpa using hv'
  have key : ∀ i, i < len → ∃ (x : Bool) (y z : Int), xs[i * 3]? = some (.bool x) ∧ xs[i * 3 + 1]? = some (.int .u64 y) ∧ xs[i * 3 + 2]? = some (.int .u64 z) ∧ (0 ≤ y ∧ y < 18446744073709551616) ∧ (0 ≤ z ∧ z < 18446744073709551616) := by
    intro i hi
    obtain ⟨q, hq⟩ := hfl i hi
    obtain ⟨u0, y0, e0, t0⟩ := hq 0 _ rfl
    obtain ⟨u1, y1, e1, t1⟩ := hq 1 _ rfl
    obtain ⟨u2, y2, e2, t2⟩ := hq 2 _ rfl
    obtain ⟨x0, h0, _⟩ := DataW.trod_bool Try.underlying4 t0
    obtain ⟨x1, h1, _, w1⟩ := DataW.trod_int Try.underlying23 t1
    obtain ⟨x2, h2, _, w2⟩ := DataW.trod_int Try.underlying23 t2
    simp only [List.cons.injEq, and_true] at h0 h1 h2
    subst h0 h1 h2
    obtain ⟨m1, rfl, b1⟩ := u64_nat w1
    obtain ⟨m2, rfl, b2⟩ := u64_nat w2
    exact ⟨x0, m1, m2, e0, e1, e2, by omega, by omega⟩
  let l : List (Bool × Int × Int) := (List.range len).map fun i => (boolV (xs.getD (i * 3) (.bool false)), intOf (xs.getD (i * 3 + 1) (.bool false)), intOf (xs.getD (i * 3 + 2) (.bool false)))
  have hll : l.length = len := by simp [l]
  have hget : ∀ i, i < len → ∀ (x : Bool) (y z : Int), xs[i * 3]? = some (.bool x) → xs[i * 3 + 1]? = some (.int .u64 y) → xs[i * 3 + 2]? = some (.int .u64 z) → l[i]? = some (x, y, z) := by
    intro i hi x y z h0 h1 h2
    simp only [l, List.getElem?_map, List.getElem?_range hi, Option.map_some, List.getD, h0, h1, h2, Option.getD_some, boolV, intOf]
  have hx : actC l = xs := by
    have hxl : xs.length = len * 3 := hrd.1
    refine List.ext_getElem? fun j => ?_
    by_cases hj : j < len * 3
    · obtain ⟨x, y, z, h0, h1, h2, _, _⟩ := key (j / 3) (by omega)
      obtain ⟨g0, g1, g2⟩ := actC_get l (j / 3) _ (hget (j / 3) (by omega) x y z h0 h1 h2)
      obtain hm | hm | hm : j % 3 = 0 ∨ j % 3 = 1 ∨ j % 3 = 2 := by omega
      · rw [show j = j / 3 * 3 by omega, h0]; exact g0
      · rw [show j = j / 3 * 3 + 1 by omega, h1]; exact g1
      · rw [show j = j / 3 * 3 + 2 by omega, h2]; exact g2
    · rw [List.getElem?_eq_none (by rw [actC_len]; omega), List.getElem?_eq_none (by omega)]
  refine ⟨l, by rw [hll, hx]; exact hrd, by omega, fun e he => ?_⟩
  obtain ⟨i, hi, rfl⟩ := List.getElem_of_mem he
  have hi' : i < len := by omega
  obtain ⟨x, y, z, h0, h1, h2, hy, hz⟩ := key i hi'
  have := hget i hi' x y z h0 h1 h2
  rw [List.getElem?_eq_getElem hi] at this
  rw [Option.some.inj this]
  exact ⟨hy, hz⟩
end
end Go.Proofs.Ytkoijmoendepgaa
