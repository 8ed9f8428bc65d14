/- The walks of unused, inserted, lineOf and commit. -/
import Derived.Test.YtkoijmoendepgaaLeafH
import Derived.Deep.RegionLaw
namespace Go.Proofs.Ytkoijmoendepgaa
open Go.RowKit

section
variable {w : World}

theorem RdSl.takeG {size : Nat} {a : Option Addr} {n c : Nat} {xs : List Value} (h : RdSl w size (.slice a n c) n xs) (k : Nat) (hk : k ≤ n) : RdSl w size (.slice a k c) k (xs.take (k * size)) := by
  obtain ⟨h1, a', c', e, hc, h2⟩ := h
  cases e
  refine ⟨by rw [List.length_take, h1]; exact Nat.min_eq_left (Nat.mul_le_mul_right _ hk), a, c, rfl, by omega, ?_⟩
  rcases h2 with rfl | ⟨b, o, rfl, h3⟩
  · left; simp
  · right; refine ⟨b, o, rfl, fun j u hu => h3 j u ?_⟩
    rw [List.getElem?_take] at hu
    split at hu
    · exact hu
    · cases hu
theorem RdSl.dropG {size : Nat} {a : Option Addr} {n c : Nat} {xs : List Value} (h : RdSl w size (.slice a n c) n xs) (k : Nat) (hk : k ≤ n) : RdSl w size (.slice (if c = k then a else a.map (·.add (k * size))) (n - k) (c - k)) (n - k) (xs.drop (k * size)) := by
  obtain ⟨h1, a', c', e, hc, h2⟩ := h
  cases e
  refine ⟨by rw [List.length_drop, h1, Nat.sub_mul], _, c - k, rfl, by omega, ?_⟩
  by_cases hck : c = k
  · left; rw [List.drop_of_length_le]; rw [h1]; exact Nat.mul_le_mul_right _ (by omega)
  · rw [if_neg hck]
    rcases h2 with rfl | ⟨b, o, rfl, h3⟩
    · left; simp
    · right; refine ⟨b, o + k * size, by simp [Addr.add_lit], fun j u hu => ?_⟩
      rw [List.getElem?_drop] at hu
      rw [Nat.add_assoc]; exact h3 _ u hu

theorem step_append_sl {P : Program} {ops : Array Oper} {o : Oper} {a : Act} {K : Act → World → Prop} {Q : Exit → Act → World → Prop} {E : Prop} (hgd : o.guard = none) (s x : Operand) (t : TypeId)
    (ho : o.op = .call { callee := .builtin .append, args := #[s, x], argTypes := #[t, t] })
    (e : TypeId) (i : TypeInfo) (z : Value) (size bytes : Nat) (ht : P.underlying t = some (.slice e)) (hi : P.info? e = some i) (hz : i.zero = some z)
    (hsize : i.size = size) (hby : i.bytes = bytes) (hzs : z.cells.size = size) (hsz : 0 < size)
    (v : Value) (n : Nat) (xs : List Value) (hs : a.eval s = v) (hown : OwnSl w e size v n xs)
    (xv : Value) (m : Nat) (news : List Value) (hx : a.eval x = xv) (hnews : RdSl w size xv m news) (h1 : ∀ u ∈ news, u.oneCell' = true)
    (h63 : n + m ≤ maxLen) (hbytes : (n + m) * bytes ≤ 140737488355328)
    (h : ∀ v' w', OwnSl w' e size v' (n + m) (xs ++ news) → w.grownBy w' v.ownBlock → (slAddr v' = slAddr v ∨ slAddr v' = some ⟨w.heap.size, 0, none⟩) → K (a.put o.dst v') w') :
    if Region.wanted o (yielded ops a.tmps) = true then Oper.wp P o a w K Q else E := by
  have hw : Region.wanted o (yielded ops a.tmps) = true := by simp [Region.wanted, hgd]
  rw [if_pos hw]
  obtain ⟨v', w', hr, h2, h3, h4, _⟩ := run_append_sl (P := P) w t o.type e i z size bytes ht hi hz hsize hby hzs v n xs hown xv m news hnews h1 h63 hbytes hsz
  unfold Oper.wp execOp
  simp only [ho, resolve, invoke, builtin, Sem.run_bind, Sem.run_pure, Result.andThen_ok, List.map_toArray, List.map_cons, List.map_nil, hs, hx, hr]
  exact h v' w' h2 h3 h4

theorem natsI_one (l : List Nat) : ∀ u ∈ natsI l, u.oneCell' = true := by intro u hu; simp [natsI] at hu; obtain ⟨s, _, rfl⟩ := hu; rfl
theorem natsI_append (a b : List Nat) : natsI (a ++ b) = natsI a ++ natsI b := by simp [natsI]
theorem natsI_take (l : List Nat) (k : Nat) : (natsI l).take k = natsI (l.take k) := by simp [natsI, List.map_take]
theorem natsI_drop (l : List Nat) (k : Nat) : (natsI l).drop k = natsI (l.drop k) := by simp [natsI, List.map_drop]

/-- One more append to a slice of the call's own. -/
theorem own_chain {w1 wz w2 : World} {v1 v2 : Value} {q : Nat} (h : Below w.heap.size w w1 ∧ ∀ g, v1.ownBlock = some g → w.heap.size ≤ g) (hz : Below w1.heap.size w1 wz) (g2 : wz.grownBy w2 v1.ownBlock) (b2 : slAddr v2 = slAddr v1 ∨ slAddr v2 = some ⟨q, 0, none⟩) (hq : w.heap.size ≤ q) :
    Below w.heap.size w w2 ∧ ∀ g, v2.ownBlock = some g → w.heap.size ≤ g := by
  have h1 : Below w.heap.size w wz := h.1.trans (hz.mono h.1.size)
  refine ⟨h1.grown g2 h1.size h.2, fun g hg => ?_⟩
  rcases b2 with b2 | b2
  · rw [ownBlock_addr, b2, ← ownBlock_addr] at hg; exact h.2 g hg
  · rw [ownBlock_addr, b2] at hg; cases hg; exact hq
theorem below_alloc (w : World) (o : Obj) : Below w.heap.size w (w.alloc o) := (Below.refl _ _).alloc (Nat.le_refl _) _
theorem below_alloc_drew (w : World) (o : Obj) : Below w.heap.size w (w.alloc o).drew := ((Below.refl _ _).alloc (Nat.le_refl _) _).drew

/-- A new slice of ints. -/
def NewInts (w : World) (l : List Nat) (r : Ending) (w' : World) : Prop := ∃ v, r = .returned v ∧ OwnSl w' 3 1 v l.length (natsI l) ∧ (∀ g, v.ownBlock = some g → w.heap.size ≤ g) ∧ Below w.heap.size w w'

theorem ins_end {slots : List Nat} {i s : Nat} (hi : i ≤ slots.length) {w3 : World} {v3 : Value} (o : OwnSl w3 3 1 v3 (i + 1 + (slots.length - i)) ((natsI (slots.take i) ++ [.int .i64 s]) ++ natsI (slots.drop i))) (h : Below w.heap.size w w3 ∧ ∀ g, v3.ownBlock = some g → w.heap.size ≤ g) :
    NewInts w (slots.take i ++ s :: slots.drop i) (.returned v3) w3 := by
  refine ⟨v3, rfl, ?_, h.2, h.1⟩
  have e1 : (slots.take i ++ s :: slots.drop i).length = i + 1 + (slots.length - i) := by simp; omega
  have e2 : natsI (slots.take i ++ s :: slots.drop i) = (natsI (slots.take i) ++ [.int .i64 s]) ++ natsI (slots.drop i) := by simp [natsI]
  rw [e1, e2]; exact o

set_option maxRecDepth 100000 in
set_option maxHeartbeats 2000000 in
theorem inserted_any (sv : Value) (slots : List Nat) (i s : Nat) (hs : RdSl w 1 sv slots.length (natsI slots)) (hi : i ≤ slots.length) (hl : slots.length ≤ 1000) :
    Calls Try.prog 57 #[sv, .int .i64 i, .int .i64 s] w (NewInts w (slots.take i ++ s :: slots.drop i)) := by
  obtain ⟨i0, hi0, hz0, hz1, hz2⟩ := info_parts infoInt
  have I := Lib.hid (And.intro hi0 (And.intro hz0 (And.intro hz1 hz2))); clear hi0 hz0 hz1 hz2
  obtain ⟨a, c, rfl⟩ : ∃ a c, sv = .slice a slots.length c := by obtain ⟨_, a, c, e, _⟩ := hs; exact ⟨a, c, e⟩
  have hc : slots.length ≤ c := by obtain ⟨_, _, _, e, hc, _⟩ := hs; cases e; exact hc
  have hic : (i : Int) ≤ c := by omega
  have hil : (i : Int) ≤ slots.length := by omega
  have t1 : RdSl w 1 (.slice a i c) i (natsI (slots.take i)) := by have := hs.takeG i hi; rw [Nat.mul_one, natsI_take] at this; exact this
  have t2 : RdSl w 1 (.slice (if c = i then a else a.map (·.add i)) (slots.length - i) (c - i)) (slots.length - i) (natsI (slots.drop i)) := by have := hs.dropG i hi; rw [natsI_drop, Nat.mul_one] at this; exact this
  have T1 := Lib.hid t1; have T2 := Lib.hid t2
  clear hs t1 t2
  have hlen2 : (slots.take i).length = i := by rw [List.length_take]; omega
  have HL2 := Lib.hid hlen2; clear hlen2
  have key : ∀ (da : Option Addr), Hid (da = (if c = i then a else a.map (·.add i))) → RdSl w 1 (.slice da (slots.length - i) (c - i)) (slots.length - i) (natsI (slots.drop i)) := fun da h => by rw [h.out]; exact T2.out
  have KEY := Lib.hid key; clear key
  by_cases hci : c = i
  · have T3 := Lib.hid (KEY.out a (by show a = _; rw [if_pos hci]))
    clear KEY T2
    obtain rfl : i = c := hci.symm
    clear hci
    have hz : slots.length - i = 0 := by omega
    rw [Nat.sub_self, hz] at T3
    have HZ := Lib.hid hz; clear hz
    go_enter Try.func57, Try.ntmps57
    go_wp2_with (at_builtin; refine wpList_append_sl _ rfl _ _ 105 rfl 3 i0 _ 1 8 Try.underlying105 I.out.1 I.out.2.1 I.out.2.2.1 I.out.2.2.2 rfl (by decide) _ 0 [] rfl (by exact OwnSl.new _ _ _ 1 0 0 rfl (Nat.le_refl _) (Nat.zero_le _)) _ i (natsI (slots.take i)) rfl (by exact T1.out.alloc _) (natsI_one _) (by unfold maxLen; omega) (by omega) ?_)
    intro v1 w1 o1 g1 b1 n1
    have hb : Below w.heap.size w w1 ∧ ∀ g, v1.ownBlock = some g → w.heap.size ≤ g := own_chain (v1 := .slice (some ⟨w.heap.size, 0, none⟩) 0 0) ⟨below_alloc w (.cells #[] 3), fun g hg => by cases hg; exact Nat.le_refl _⟩ (Below.refl _ _) g1 b1 (by omega)
    have O1 := Lib.hid (And.intro o1 hb)
    clear o1 g1 b1 n1 hb
    go_wp2_with fail
    go_region_law (first | (refine step_append_sl rfl (.tmp 13) (.tmp 15) 105 rfl 3 i0 _ 1 8 Try.underlying105 I.out.1 I.out.2.1 I.out.2.2.1 I.out.2.2.2 rfl (by decide) v1 i (natsI (slots.take i)) rfl (by exact (O1.out.1.alloc _).drew) _ 1 _ rfl (by exact (RdSl.newAt _ _ _ 1 1 _ (by simp) rfl).drew) (one_int _ _) (by unfold maxLen; omega) (by omega) ?_; intro v2 w2 o2 g2 b2; have hb2 := own_chain O1.out.2 (below_alloc_drew w1 _) g2 b2 (by have := O1.out.2.1.size; simp [World.drew]; omega); have O2 := Lib.hid (And.intro o2 hb2); have R2 := Lib.hid (T3.out.below hb2.1); clear o2 g2 b2 hb2) | (refine step_append_sl rfl (.tmp 16) (.tmp 19) 105 rfl 3 i0 _ 1 8 Try.underlying105 I.out.1 I.out.2.1 I.out.2.2.1 I.out.2.2.2 rfl (by decide) v2 (i + 1) _ rfl (by exact O2.out.1) _ 0 (natsI (slots.drop i)) rfl (by exact R2.out) (natsI_one _) (by unfold maxLen; omega) (by omega) ?_; intro v3 w3 o3 g3 b3; have hb3 := own_chain O2.out.2 (Below.refl _ _) g3 b3 (by have := O2.out.2.1.size; omega); have O3 := Lib.hid (And.intro o3 hb3); clear o3 g3 b3 hb3))
    all_goals
      go_wp2_with fail
      go_ret
      exact ins_end hi (by rw [HZ.out]; exact O3.out.1) O3.out.2
  · have T3 := Lib.hid (KEY.out (a.map (·.add i)) (by show _ = _; rw [if_neg hci]))
    clear KEY T2
    go_enter Try.func57, Try.ntmps57
    go_wp2_with (at_builtin; refine wpList_append_sl _ rfl _ _ 105 rfl 3 i0 _ 1 8 Try.underlying105 I.out.1 I.out.2.1 I.out.2.2.1 I.out.2.2.2 rfl (by decide) _ 0 [] rfl (by exact OwnSl.new _ _ _ 1 0 0 rfl (Nat.le_refl _) (Nat.zero_le _)) _ i (natsI (slots.take i)) rfl (by exact T1.out.alloc _) (natsI_one _) (by unfold maxLen; omega) (by omega) ?_)
    intro v1 w1 o1 g1 b1 n1
    have hb : Below w.heap.size w w1 ∧ ∀ g, v1.ownBlock = some g → w.heap.size ≤ g := own_chain (v1 := .slice (some ⟨w.heap.size, 0, none⟩) 0 0) ⟨below_alloc w (.cells #[] 3), fun g hg => by cases hg; exact Nat.le_refl _⟩ (Below.refl _ _) g1 b1 (by omega)
    have O1 := Lib.hid (And.intro o1 hb)
    clear o1 g1 b1 n1 hb
    go_wp2_with fail
    go_region_law (first | (refine step_append_sl rfl (.tmp 13) (.tmp 15) 105 rfl 3 i0 _ 1 8 Try.underlying105 I.out.1 I.out.2.1 I.out.2.2.1 I.out.2.2.2 rfl (by decide) v1 i (natsI (slots.take i)) rfl (by exact (O1.out.1.alloc _).drew) _ 1 _ rfl (by exact (RdSl.newAt _ _ _ 1 1 _ (by simp) rfl).drew) (one_int _ _) (by unfold maxLen; omega) (by omega) ?_; intro v2 w2 o2 g2 b2; have hb2 := own_chain O1.out.2 (below_alloc_drew w1 _) g2 b2 (by have := O1.out.2.1.size; simp [World.drew]; omega); have O2 := Lib.hid (And.intro o2 hb2); have R2 := Lib.hid (T3.out.below hb2.1); clear o2 g2 b2 hb2) | (refine step_append_sl rfl (.tmp 16) (.tmp 19) 105 rfl 3 i0 _ 1 8 Try.underlying105 I.out.1 I.out.2.1 I.out.2.2.1 I.out.2.2.2 rfl (by decide) v2 (i + 1) _ rfl (by exact O2.out.1) _ (slots.length - i) (natsI (slots.drop i)) rfl (by exact R2.out) (natsI_one _) (by unfold maxLen; omega) (by omega) ?_; intro v3 w3 o3 g3 b3; have hb3 := own_chain O2.out.2 (Below.refl _ _) g3 b3 (by have := O2.out.2.1.size; omega); have O3 := Lib.hid (And.intro o3 hb3); clear o3 g3 b3 hb3))
    all_goals
      go_wp2_with fail
      go_ret
      exact ins_end hi O3.out.1 O3.out.2
end
end Go.Proofs.Ytkoijmoendepgaa
