/- The walk of leaf.parse. -/
import Derived.Test.YtkoijmoendepgaaLeafE
namespace Go.Proofs.Ytkoijmoendepgaa
open Go.RowKit

def nib (x i : Nat) : Nat := x / 2 ^ (4 + 4 * i) % 16
theorem nib_lt (x i : Nat) : nib x i < 16 := Nat.mod_lt _ (by omega)
/-- Digit i of a permutation with n entries is as it must be. -/
def goodNib (x n i : Nat) : Prop := (n ≤ i → nib x i = 0) ∧ (i < n → nib x i < 12 ∧ ∀ j, j < i → nib x j ≠ nib x i)
def parseOk (x : Nat) : Prop := x % 16 ≤ 12 ∧ ∀ i, i < 12 → goodNib x (x % 16) i
def slotsN (x n : Nat) : List Nat := (List.range n).map (nib x)
def seenB (x m j : Nat) : Bool := (List.range m).any (fun i => nib x i == j)
theorem slotsN_succ (x n : Nat) : slotsN x (n + 1) = slotsN x n ++ [nib x n] := by simp [slotsN, List.range_succ]
theorem seenB_succ (x m j : Nat) : seenB x (m + 1) j = (if j = nib x m then true else seenB x m j) := by
  simp only [seenB, List.range_succ, List.any_append, List.any_cons, List.any_nil, Bool.or_false]
  by_cases e : j = nib x m
  · subst e; simp
  · rw [if_neg e, show (nib x m == j) = false from by simp; exact fun h => e h.symm]; simp
theorem seenB_iff (x m j : Nat) : seenB x m j = true ↔ ∃ i, i < m ∧ nib x i = j := by simp [seenB]
theorem natsI_snoc (l : List Nat) (s : Nat) : natsI (l ++ [s]) = natsI l ++ [.int .i64 s] := by simp [natsI]

def ParsePost (w : World) (x : Nat) (r : Ending) (w' : World) : Prop :=
  Below w.heap.size w w' ∧ ((parseOk x ∧ ∃ sv, r = .returned (.tuple #[sv, .bool true]) ∧ OwnSl w' 3 1 sv (x % 16) (natsI (slotsN x (x % 16))) ∧ ∀ g, sv.ownBlock = some g → w.heap.size ≤ g) ∨
    (¬ parseOk x ∧ r = .returned (.tuple #[.slice none 0 0, .bool false])))

/-- m slots are collected. -/
def ParseMid (w : World) (x m : Nat) (lv : Value) (wr : World) : Prop :=
  Row wr w.heap.size 16 161 (fun j => .bool (seenB x m j)) ∧ OwnSl wr 3 1 lv m (natsI (slotsN x m)) ∧ (∀ g, lv.ownBlock = some g → w.heap.size < g) ∧ Below w.heap.size w wr

theorem parse_step {w : World} {x m : Nat} {lv v' : Value} {wr wz w1 : World} (h : ParseMid w x m lv wr) {s : Nat} (hs : s = nib x m) {c : Array Value} {q : Nat} {kk : Int}
    (hz : wz = (wr.setCell ⟨w.heap.size, s, none⟩ (.bool true)).alloc (.cells c 3)) (hkk : kk = s) (o1 : OwnSl w1 3 1 v' (m + 1) (natsI (slotsN x m) ++ [.int .i64 kk])) (g1 : wz.grownBy w1 lv.ownBlock)
    (b1 : slAddr v' = slAddr lv ∨ slAddr v' = some ⟨q, 0, none⟩) (hq : wr.heap.size ≤ q) : ParseMid w x (m + 1) v' w1 := by
  subst hkk
  obtain ⟨h1, h2, h3, h4⟩ := h
  have hb : Below w.heap.size w wz := by
    rw [hz]; exact (h4.setCell (p := ⟨w.heap.size, s, none⟩) (by simp) _).alloc (by have := h4.size; simp [World.setCell]; exact this) _
  have hr : Row wz w.heap.size 16 161 (fun j => .bool (seenB x (m + 1) j)) := by
    rw [hz]
    refine ((h1.set s (.bool true)).alloc _).congr (fun i _ => ?_)
    rw [seenB_succ, ← hs]
    by_cases e : i = s
    · rw [if_pos e, if_pos e]
    · rw [if_neg e, if_neg e]
  have hlt := hr.lt
  refine ⟨?_, by rw [slotsN_succ, natsI_snoc, ← hs]; exact o1, fun g hg => ?_, hb.grown g1 hb.size (fun g hg => by have := h3 g hg; omega)⟩
  · obtain ⟨c, p1, p2⟩ := hr
    exact ⟨c, (g1.block _ hlt (fun e => by have := h3 _ e.symm; omega)).trans p1, p2⟩
  · rcases b1 with b1 | b1
    · rw [ownBlock_addr, b1, ← ownBlock_addr] at hg; exact h3 g hg
    · rw [ownBlock_addr, b1] at hg; cases hg; show w.heap.size < q; have := h1.lt; omega

section
variable {w : World}

set_option maxRecDepth 100000 in
set_option maxHeartbeats 2000000 in
theorem parse_any (x : Nat) (hx : x < 18446744073709551616) : Calls Try.prog 80 #[.int .u64 x] w (ParsePost w x) := by
  have hand : bits .and .u64 (x : Int) 15 = ((x % 16 : Nat) : Int) := by
    rw [show (15 : Int) = ((15 : Nat) : Int) from rfl, u64_and_nat _ _ hx (by decide), nat_mask4]
  obtain ⟨i0, hi, hz0, hz1, hz2⟩ := info_parts infoInt
  have I := Lib.hid (And.intro hi (And.intro hz0 (And.intro hz1 hz2))); clear hi hz0 hz1 hz2
  obtain ⟨n, hne⟩ : ∃ n, n = x % 16 := ⟨_, rfl⟩
  rw [← hne] at hand
  have HN := Lib.hid hne
  have hn16 : n < 16 := by omega
  clear hne
  by_cases hn : n ≤ 12
  · have hn' : ¬ (12 : Int) < n := by omega
    go_enter Try.func80, Try.ntmps80
    go_wp2_with fail
    have hm0 : ParseMid w x 0 (.slice none 0 0) (w.alloc (.cells #[.bool false, .bool false, .bool false, .bool false, .bool false, .bool false, .bool false, .bool false, .bool false, .bool false, .bool false, .bool false, .bool false, .bool false, .bool false, .bool false] 161)) := by
      refine ⟨Row.new w _ _ _ _ (fun j hj => ?_), OwnSl.nil _ _ _, fun g hg => by simp [Value.ownBlock] at hg, (Below.refl _ _).alloc (Nat.le_refl _) _⟩
      obtain rfl | rfl | rfl | rfl | rfl | rfl | rfl | rfl | rfl | rfl | rfl | rfl | rfl | rfl | rfl | rfl : j = 0 ∨ j = 1 ∨ j = 2 ∨ j = 3 ∨ j = 4 ∨ j = 5 ∨ j = 6 ∨ j = 7 ∨ j = 8 ∨ j = 9 ∨ j = 10 ∨ j = 11 ∨ j = 12 ∨ j = 13 ∨ j = 14 ∨ j = 15 := by omega
      all_goals rfl
    have HM0 := Lib.hid hm0; clear hm0
    go_loopw [5, 14] (fun lv i wr => ∃ k : Nat, k ≤ 12 ∧ i = .int .i64 k ∧ (∀ i, i < k → goodNib x n i) ∧ ParseMid w x (min k n) lv wr) (fun _ i _ => 12 - (intOf i).toNat)
    case atStart => exact ⟨0, Nat.zero_le _, rfl, fun i hi => absurd hi (Nat.not_lt_zero _), by rw [Nat.zero_min]; exact HM0.out⟩
    case round =>
      obtain ⟨k, hk, rfl, hgood, hmid⟩ := hrel
      have HG := Lib.hid hgood; clear hgood HM0
      have hbelow := Lib.hid hmid.2.2.2
      by_cases hlt : k < 12
      · obtain ⟨s, hs⟩ : ∃ s, s = nib x k := ⟨_, rfl⟩
        have hs16 : s < 16 := by rw [hs]; exact nib_lt x k
        have hsh : bits .and .u64 ((x : Int) / 2 ^ (4 + 4 * k)) 15 = (s : Int) := by
          have hd : ((x : Int) / 2 ^ (4 + 4 * k)) = ((x / 2 ^ (4 + 4 * k) : Nat) : Int) := by simp
          rw [hd, show (15 : Int) = ((15 : Nat) : Int) from rfl, u64_and_nat _ _ (Nat.lt_of_le_of_lt (Nat.div_le_self _ _) hx) (by decide), nat_mask4, hs]; rfl
        have HS := Lib.hid hs; clear hs
        have hbad : ¬ goodNib x n k → ¬ parseOk x := fun h h2 => h (by have := h2.2 k hlt; rw [← HN.out] at this; exact this)
        have HB := Lib.hid hbad
        have hnext : goodNib x n k → ∀ i, i < k + 1 → goodNib x n i := fun h i hi => by
          rcases Nat.lt_succ_iff_lt_or_eq.1 hi with h' | h'
          · exact HG.out i h'
          · rw [h']; exact h
        have HX := Lib.hid hnext
        clear hbad hnext
        by_cases hkn : n ≤ k
        · have hkn' : (n : Int) ≤ k := by omega
          rw [Nat.min_eq_right hkn] at hmid
          obtain ⟨la, lc, hlv⟩ := hmid.2.1.slice
          subst hlv
          have HM := Lib.hid hmid; clear hmid
          by_cases hz : s = 0
          · have hz' : ((s : Int) != 0) = false := by simp; omega
            have Hg : Hid (goodNib x n k) := ⟨fun _ => by rw [← HS.out]; exact hz, fun h => absurd h (by omega)⟩
            have HZ := Lib.hid hz; clear hz
            go_wp2_with fail
            go_roundw
            case rel => exact ⟨k + 1, by omega, by go_num, HX.out Hg.out, by rw [Nat.min_eq_right (by omega)]; exact HM.out⟩
            case measure => simp [intOf]; omega
          · have hz' : ((s : Int) != 0) = true := by simp; omega
            have Hg : Hid (¬ parseOk x) := HB.out (fun h => hz (by rw [HS.out]; exact h.1 hkn))
            clear hz
            go_wp2_with fail
            go_ret2
            exact ⟨hbelow.out, .inr ⟨Hg.out, rfl⟩⟩
        · have hkn' : ¬ (n : Int) ≤ k := by omega
          rw [Nat.min_eq_left (by omega)] at hmid
          obtain ⟨la, lc, hlv⟩ := hmid.2.1.slice
          subst hlv
          have HM := Lib.hid hmid; clear hmid
          by_cases h12 : 12 ≤ s
          · have h12' : (12 : Int) ≤ s := by omega
            have Hg : Hid (¬ parseOk x) := HB.out (fun h => by have := (h.2 (by omega)).1; rw [← HS.out] at this; omega)
            go_wp2_with fail
            go_ret2
            exact ⟨hbelow.out, .inr ⟨Hg.out, rfl⟩⟩
          · have h12' : ¬ (12 : Int) ≤ s := by omega
            have hs16' : (s : Int) < 16 := by omega
            have c1 : wr.cell? ⟨w.heap.size, s, none⟩ = some (.bool (seenB x k s)) := HM.out.1.cell hs16
            have f1 := HM.out.1.frozen s
            have hsn : seenB x k s = true ∨ seenB x k s = false := by cases seenB x k s <;> simp
            rcases hsn with hsn | hsn
            · rw [hsn] at c1
              have Hg : Hid (¬ parseOk x) := HB.out (fun h => by
                obtain ⟨j, hj, he⟩ := (seenB_iff x k s).1 hsn
                exact (h.2 (by omega)).2 j hj (by rw [he, HS.out]))
              clear hsn
              go_wp2_with fail
              go_ret2
              exact ⟨hbelow.out, .inr ⟨Hg.out, rfl⟩⟩
            · rw [hsn] at c1
              have Hg : Hid (goodNib x n k) := ⟨fun h => absurd h (by omega), fun _ => ⟨by rw [← HS.out]; omega, fun j hj he => by
                have : seenB x k s = true := (seenB_iff x k s).2 ⟨j, hj, by rw [he, HS.out]⟩
                rw [hsn] at this; cases this⟩⟩
              have ho2 : ∀ g, (Value.slice la k lc).ownBlock = some g → g ≠ w.heap.size := fun g hg => by have := HM.out.2.2.1 g hg; omega
              have HO2 := Lib.hid ho2
              clear hsn ho2
              go_wp2_with (at_builtin; refine wpList_append_sl _ rfl _ _ 105 rfl 3 i0 _ 1 8 Try.underlying105 I.out.1 I.out.2.1 I.out.2.2.1 I.out.2.2.2 rfl (by decide) _ k (natsI (slotsN x k)) rfl (by exact (HM.out.2.1.other (a := ⟨w.heap.size, s, none⟩) (fun g hg => HO2.out g hg) _).alloc _) _ 1 _ rfl (RdSl.newAt _ _ _ 1 1 _ (by simp [World.setCell]) rfl) (one_int _ _) (by unfold maxLen; omega) (by omega) ?_)
              intro v' w1 o1 g1 b1 n1
              have M1 := Lib.hid (parse_step HM.out HS.out rfl rfl o1 g1 b1 (by omega))
              clear o1 g1 b1 n1
              go_wp2_with fail
              go_roundw
              case rel => exact ⟨k + 1, by omega, by go_num, HX.out Hg.out, by rw [Nat.min_eq_left (by omega)]; exact M1.out⟩
              case measure => simp [intOf]; omega
      · obtain rfl : k = 12 := by omega
        rw [Nat.min_eq_right hn] at hmid
        have HM := Lib.hid hmid; clear hmid
        go_wp2_with fail
        go_ret2
        exact ⟨hbelow.out, .inl ⟨⟨by rw [← HN.out]; exact hn, by rw [← HN.out]; exact HG.out⟩, _, rfl, by rw [← HN.out]; exact HM.out.2.1, fun g hg => Nat.le_of_lt (HM.out.2.2.1 g hg)⟩⟩
  · have hn' : (12 : Int) < n := by omega
    go_enter Try.func80, Try.ntmps80
    go_wp2_with fail
    go_ret2
    exact ⟨Below.refl _ _, .inr ⟨fun h => hn (by rw [HN.out]; exact h.1), rfl⟩⟩
end
end Go.Proofs.Ytkoijmoendepgaa
