/- The walks of unused, inserted, lineOf and commit. -/
import Derived.Test.YtgdcjedcinapdaaGreatJ4
import Derived.Deep.RegionLaw
import Derived.Test.YtgdcjedcinapdaaGreatJ1
import Derived.Deep.RegionHeld3
import Derived.Laws.CopyOwn
import Derived.RegionTactic
import Derived.BigRegion
namespace Go.Proofs.YtgdcjedcinapdaaGreat
open Go.RowKit

section
variable {w : World}

theorem RdSl.takeG {size : Nat} {a : Option Addr} {n c : Nat} {xs : List Value} (h : RdSl w size (.slice a n c) n xs) (k : Nat) (hk : k ≤ n) : RdSl w size (.slice a k c) k (xs.take (k * size)) := by
  obtain ⟨h1, a', c', e, hc, h2⟩ := h
  cases e
  refine ⟨by rw [List.length_take, h1]; exact Nat.min_eq_left (Nat.mul_le_mul_right _ hk), a, c, rfl, by omega, ?_⟩
  rcases h2 with rfl | ⟨b, o, rfl, h3⟩
  · left; simp
  · right; refine ⟨b, o, rfl, fun j u hu => h3 j u ?_⟩
    rw [List.getElem?_take] at hu
    split at hu
    · exact hu
    · cases hu
theorem RdSl.dropG {size : Nat} {a : Option Addr} {n c : Nat} {xs : List Value} (h : RdSl w size (.slice a n c) n xs) (k : Nat) (hk : k ≤ n) : RdSl w size (.slice (if c = k then a else a.map (·.add (k * size))) (n - k) (c - k)) (n - k) (xs.drop (k * size)) := by
  obtain ⟨h1, a', c', e, hc, h2⟩ := h
  cases e
  refine ⟨by rw [List.length_drop, h1, Nat.sub_mul], _, c - k, rfl, by omega, ?_⟩
  by_cases hck : c = k
  · left; rw [List.drop_of_length_le]; rw [h1]; exact Nat.mul_le_mul_right _ (by omega)
  · rw [if_neg hck]
    rcases h2 with rfl | ⟨b, o, rfl, h3⟩
    · left; simp
    · right; refine ⟨b, o + k * size, by simp [Addr.add_lit], fun j u hu => ?_⟩
      rw [List.getElem?_drop] at hu
      rw [Nat.add_assoc]; exact h3 _ u hu

theorem step_append_sl {P : Program} {ops : Array Oper} {o : Oper} {a : Act} {K : Act → World → Prop} {Q : Exit → Act → World → Prop} {E : Prop} (hgd : o.guard = none) (s x : Operand) (t : TypeId)
    (ho : o.op = .call { callee := .builtin .append, args := #[s, x], argTypes := #[t, t] })
    (e : TypeId) (i : TypeInfo) (z : Value) (size bytes : Nat) (ht : P.underlying t = some (.slice e)) (hi : P.info? e = some i) (hz : i.zero = some z)
    (hsize : i.size = size) (hby : i.bytes = bytes) (hzs : z.cells.size = size) (hsz : 0 < size)
    (v : Value) (n : Nat) (xs : List Value) (hs : a.eval s = v) (hown : OwnSl w e size v n xs)
    (xv : Value) (m : Nat) (news : List Value) (hx : a.eval x = xv) (hnews : RdSl w size xv m news) (h1 : ∀ u ∈ news, u.oneCell' = true)
    (h63 : n + m ≤ maxLen) (hbytes : (n + m) * bytes ≤ 140737488355328)
    (h : ∀ v' w', OwnSl w' e size v' (n + m) (xs ++ news) → w.grownBy w' v.ownBlock → (slAddr v' = slAddr v ∨ slAddr v' = some ⟨w.heap.size, 0, none⟩) → K (a.put o.dst v') w') :
    if Region.wanted o (yielded ops a.tmps) = true then Oper.wp P o a w K Q else E := by
  have hw : Region.wanted o (yielded ops a.tmps) = true := by simp [Region.wanted, hgd]
  rw [if_pos hw]
  obtain ⟨v', w', hr, h2, h3, h4, _⟩ := run_append_sl (P := P) w t o.type e i z size bytes ht hi hz hsize hby hzs v n xs hown xv m news hnews h1 h63 hbytes hsz
  unfold Oper.wp execOp
  simp only [ho, resolve, invoke, builtin, Sem.run_bind, Sem.run_pure, Result.andThen_ok, List.map_toArray, List.map_cons, List.map_nil, hs, hx, hr]
  exact h v' w' h2 h3 h4

theorem natsI_one (l : List Nat) : ∀ u ∈ natsI l, u.oneCell' = true := by intro u hu; simp [natsI] at hu; obtain ⟨s, _, rfl⟩ := hu; rfl
theorem natsI_append (a b : List Nat) : natsI (a ++ b) = natsI a ++ natsI b := by simp [natsI]
theorem natsI_take (l : List Nat) (k : Nat) : (natsI l).take k = natsI (l.take k) := by simp [natsI, List.map_take]
theorem natsI_drop (l : List Nat) (k : Nat) : (natsI l).drop k = natsI (l.drop k) := by simp [natsI, List.map_drop]

/-- One more append to a slice of the call's own. -/
theorem own_chain {w1 wz w2 : World} {v1 v2 : Value} {q : Nat} (h : Below w.heap.size w w1 ∧ ∀ g, v1.ownBlock = some g → w.heap.size ≤ g) (hz : Below w1.heap.size w1 wz) (g2 : wz.grownBy w2 v1.ownBlock) (b2 : slAddr v2 = slAddr v1 ∨ slAddr v2 = some ⟨q, 0, none⟩) (hq : w.heap.size ≤ q) :
    Below w.heap.size w w2 ∧ ∀ g, v2.ownBlock = some g → w.heap.size ≤ g := by
  have h1 : Below w.heap.size w wz := h.1.trans (hz.mono h.1.size)
  refine ⟨h1.grown g2 h1.size h.2, fun g hg => ?_⟩
  rcases b2 with b2 | b2
  · rw [ownBlock_addr, b2, ← ownBlock_addr] at hg; exact h.2 g hg
  · rw [ownBlock_addr, b2] at hg; cases hg; exact hq
theorem below_alloc (w : World) (o : Obj) : Below w.heap.size w (w.alloc o) := (Below.refl _ _).alloc (Nat.le_refl _) _
theorem below_alloc_drew (w : World) (o : Obj) : Below w.heap.size w (w.alloc o).drew := ((Below.refl _ _).alloc (Nat.le_refl _) _).drew

/-- A new slice of ints. -/
def NewInts (w : World) (l : List Nat) (r : Ending) (w' : World) : Prop := ∃ v, r = .returned v ∧ OwnSl w' 3 1 v l.length (natsI l) ∧ (∀ g, v.ownBlock = some g → w.heap.size ≤ g) ∧ Below w.heap.size w w'

theorem ins_end {slots : List Nat} {i s : Nat} (hi : i ≤ slots.length) {w3 : World} {v3 : Value} (o : OwnSl w3 3 1 v3 (i + 1 + (slots.length - i)) ((natsI (slots.take i) ++ [.int .i64 s]) ++ natsI (slots.drop i))) (h : Below w.heap.size w w3 ∧ ∀ g, v3.ownBlock = some g → w.heap.size ≤ g) :
    NewInts w (slots.take i ++ s :: slots.drop i) (.returned v3) w3 := by
  refine ⟨v3, rfl, ?_, h.2, h.1⟩
  have e1 : (slots.take i ++ s :: slots.drop i).length = i + 1 + (slots.length - i) := by simp; omega
  have e2 : natsI (slots.take i ++ s :: slots.drop i) = (natsI (slots.take i) ++ [.int .i64 s]) ++ natsI (slots.drop i) := by simp [natsI]
  rw [e1, e2]; exact o

set_option maxRecDepth 100000 in
set_option maxHeartbeats 2000000 in
theorem inserted_any (sv : Value) (slots : List Nat) (i s : Nat) (hs : RdSl w 1 sv slots.length (natsI slots)) (hi : i ≤ slots.length) (hl : slots.length ≤ 1000) :
    Calls Tryz.prog 72 #[sv, .int .i64 i, .int .i64 s] w (NewInts w (slots.take i ++ s :: slots.drop i)) := by
  obtain ⟨i0, hi0, hz0, hz1, hz2⟩ := info_parts infoInt
  have I := Lib.hid (And.intro hi0 (And.intro hz0 (And.intro hz1 hz2))); clear hi0 hz0 hz1 hz2
  obtain ⟨a, c, rfl⟩ : ∃ a c, sv = .slice a slots.length c := by obtain ⟨_, a, c, e, _⟩ := hs; exact ⟨a, c, e⟩
  have hc : slots.length ≤ c := by obtain ⟨_, _, _, e, hc, _⟩ := hs; cases e; exact hc
  have hic : (i : Int) ≤ c := by omega
  have hil : (i : Int) ≤ slots.length := by omega
  have t1 : RdSl w 1 (.slice a i c) i (natsI (slots.take i)) := by have := hs.takeG i hi; rw [Nat.mul_one, natsI_take] at this; exact this
  have t2 : RdSl w 1 (.slice (if c = i then a else a.map (·.add i)) (slots.length - i) (c - i)) (slots.length - i) (natsI (slots.drop i)) := by have := hs.dropG i hi; rw [natsI_drop, Nat.mul_one] at this; exact this
  have T1 := Lib.hid t1; have T2 := Lib.hid t2
  clear hs t1 t2
  have hlen2 : (slots.take i).length = i := by rw [List.length_take]; omega
  have HL2 := Lib.hid hlen2; clear hlen2
  have key : ∀ (da : Option Addr), Hid (da = (if c = i then a else a.map (·.add i))) → RdSl w 1 (.slice da (slots.length - i) (c - i)) (slots.length - i) (natsI (slots.drop i)) := fun da h => by rw [h.out]; exact T2.out
  have KEY := Lib.hid key; clear key
  by_cases hci : c = i
  · have T3 := Lib.hid (KEY.out a (by show a = _; rw [if_pos hci]))
    clear KEY T2
    obtain rfl : i = c := hci.symm
    clear hci
    have hz : slots.length - i = 0 := by omega
    rw [Nat.sub_self, hz] at T3
    have HZ := Lib.hid hz; clear hz
    go_enter Tryz.func72, Tryz.ntmps72
    go_wp2_with (at_builtin; refine wpList_append_sl _ rfl _ _ 113 rfl 3 i0 _ 1 8 Tryz.underlying113 I.out.1 I.out.2.1 I.out.2.2.1 I.out.2.2.2 rfl (by decide) _ 0 [] rfl (by exact OwnSl.new _ _ _ 1 0 0 rfl (Nat.le_refl _) (Nat.zero_le _)) _ i (natsI (slots.take i)) rfl (by exact T1.out.alloc _) (natsI_one _) (by unfold maxLen; omega) (by omega) ?_)
    intro v1 w1 o1 g1 b1 n1
    have hb : Below w.heap.size w w1 ∧ ∀ g, v1.ownBlock = some g → w.heap.size ≤ g := own_chain (v1 := .slice (some ⟨w.heap.size, 0, none⟩) 0 0) ⟨below_alloc w (.cells #[] 3), fun g hg => by cases hg; exact Nat.le_refl _⟩ (Below.refl _ _) g1 b1 (by omega)
    have O1 := Lib.hid (And.intro o1 hb)
    clear o1 g1 b1 n1 hb
    go_wp2_with fail
    go_region_law (first | (refine step_append_sl rfl (.tmp 13) (.tmp 15) 113 rfl 3 i0 _ 1 8 Tryz.underlying113 I.out.1 I.out.2.1 I.out.2.2.1 I.out.2.2.2 rfl (by decide) v1 i (natsI (slots.take i)) rfl (by exact (O1.out.1.alloc _).drew) _ 1 _ rfl (by exact (RdSl.newAt _ _ _ 1 1 _ (by simp) rfl).drew) (one_int _ _) (by unfold maxLen; omega) (by omega) ?_; intro v2 w2 o2 g2 b2; have hb2 := own_chain O1.out.2 (below_alloc_drew w1 _) g2 b2 (by have := O1.out.2.1.size; simp [World.drew]; omega); have O2 := Lib.hid (And.intro o2 hb2); have R2 := Lib.hid (T3.out.below hb2.1); clear o2 g2 b2 hb2) | (refine step_append_sl rfl (.tmp 16) (.tmp 19) 113 rfl 3 i0 _ 1 8 Tryz.underlying113 I.out.1 I.out.2.1 I.out.2.2.1 I.out.2.2.2 rfl (by decide) v2 (i + 1) _ rfl (by exact O2.out.1) _ 0 (natsI (slots.drop i)) rfl (by exact R2.out) (natsI_one _) (by unfold maxLen; omega) (by omega) ?_; intro v3 w3 o3 g3 b3; have hb3 := own_chain O2.out.2 (Below.refl _ _) g3 b3 (by have := O2.out.2.1.size; omega); have O3 := Lib.hid (And.intro o3 hb3); clear o3 g3 b3 hb3))
    all_goals
      go_wp2_with fail
      go_ret
      exact ins_end hi (by rw [HZ.out]; exact O3.out.1) O3.out.2
  · have T3 := Lib.hid (KEY.out (a.map (·.add i)) (by show _ = _; rw [if_neg hci]))
    clear KEY T2
    go_enter Tryz.func72, Tryz.ntmps72
    go_wp2_with (at_builtin; refine wpList_append_sl _ rfl _ _ 113 rfl 3 i0 _ 1 8 Tryz.underlying113 I.out.1 I.out.2.1 I.out.2.2.1 I.out.2.2.2 rfl (by decide) _ 0 [] rfl (by exact OwnSl.new _ _ _ 1 0 0 rfl (Nat.le_refl _) (Nat.zero_le _)) _ i (natsI (slots.take i)) rfl (by exact T1.out.alloc _) (natsI_one _) (by unfold maxLen; omega) (by omega) ?_)
    intro v1 w1 o1 g1 b1 n1
    have hb : Below w.heap.size w w1 ∧ ∀ g, v1.ownBlock = some g → w.heap.size ≤ g := own_chain (v1 := .slice (some ⟨w.heap.size, 0, none⟩) 0 0) ⟨below_alloc w (.cells #[] 3), fun g hg => by cases hg; exact Nat.le_refl _⟩ (Below.refl _ _) g1 b1 (by omega)
    have O1 := Lib.hid (And.intro o1 hb)
    clear o1 g1 b1 n1 hb
    go_wp2_with fail
    go_region_law (first | (refine step_append_sl rfl (.tmp 13) (.tmp 15) 113 rfl 3 i0 _ 1 8 Tryz.underlying113 I.out.1 I.out.2.1 I.out.2.2.1 I.out.2.2.2 rfl (by decide) v1 i (natsI (slots.take i)) rfl (by exact (O1.out.1.alloc _).drew) _ 1 _ rfl (by exact (RdSl.newAt _ _ _ 1 1 _ (by simp) rfl).drew) (one_int _ _) (by unfold maxLen; omega) (by omega) ?_; intro v2 w2 o2 g2 b2; have hb2 := own_chain O1.out.2 (below_alloc_drew w1 _) g2 b2 (by have := O1.out.2.1.size; simp [World.drew]; omega); have O2 := Lib.hid (And.intro o2 hb2); have R2 := Lib.hid (T3.out.below hb2.1); clear o2 g2 b2 hb2) | (refine step_append_sl rfl (.tmp 16) (.tmp 19) 113 rfl 3 i0 _ 1 8 Tryz.underlying113 I.out.1 I.out.2.1 I.out.2.2.1 I.out.2.2.2 rfl (by decide) v2 (i + 1) _ rfl (by exact O2.out.1) _ (slots.length - i) (natsI (slots.drop i)) rfl (by exact R2.out) (natsI_one _) (by unfold maxLen; omega) (by omega) ?_; intro v3 w3 o3 g3 b3; have hb3 := own_chain O2.out.2 (Below.refl _ _) g3 b3 (by have := O2.out.2.1.size; omega); have O3 := Lib.hid (And.intro o3 hb3); clear o3 g3 b3 hb3))
    all_goals
      go_wp2_with fail
      go_ret
      exact ins_end hi O3.out.1 O3.out.2
end
end Go.Proofs.YtgdcjedcinapdaaGreat

/- The walks of unused, lineOf and commit. -/
namespace Go.Proofs.YtgdcjedcinapdaaGreat
open Go.RowKit

/-- Instructions as cells. -/
def instrC (l : List (Nat × Nat × Int)) : List Value := l.flatMap fun e => [.int .u8 e.1, .int .u64 e.2.1, .int .u64 e.2.2]
theorem instrC_append (a b : List (Nat × Nat × Int)) : instrC (a ++ b) = instrC a ++ instrC b := by simp [instrC]
theorem instrC_length (l : List (Nat × Nat × Int)) : (instrC l).length = l.length * 3 := by
  induction l with
  | nil => rfl
  | cons e l ih => simp [instrC] at *; omega
theorem instrC_one (l : List (Nat × Nat × Int)) : ∀ u ∈ instrC l, u.oneCell' = true := by
  intro u hu
  simp [instrC] at hu
  obtain ⟨a, b, c, _, rfl | rfl | rfl⟩ := hu <;> rfl

/-- The lowest slot, from s on, that is not taken. -/
def unusedFrom (slots : List Nat) : Nat → Nat → Nat
  | 0, s => s
  | f + 1, s => if s ∈ slots then unusedFrom slots f (s + 1) else s
def unusedN (slots : List Nat) : Nat := unusedFrom slots 13 0
theorem unusedFrom_spec (slots : List Nat) (f : Nat) (h1 : f ∉ slots) : ∀ (n s : Nat), s ≤ f → f < s + n → (∀ t, s ≤ t → t < f → t ∈ slots) → unusedFrom slots n s = f := by
  intro n
  induction n with
  | zero => intro s h2 h3; omega
  | succ n ih =>
    intro s h2 h3 h4
    unfold unusedFrom
    by_cases e : s = f
    · subst e; rw [if_neg h1]
    · rw [if_pos (h4 s (Nat.le_refl _) (by omega))]
      exact ih (s + 1) (by omega) (by omega) (fun t h5 h6 => h4 t (by omega) h6)
theorem unusedN_spec (slots : List Nat) (f : Nat) (hf : f < 13) (h1 : f ∉ slots) (h2 : ∀ s, s < f → s ∈ slots) : unusedN slots = f :=
  unusedFrom_spec slots f h1 13 0 (by omega) (by omega) (fun t _ h => h2 t h)

theorem pigeon (n : Nat) : ∀ l : List Nat, (∀ s, s < n → s ∈ l) → n ≤ l.length := by
  induction n with
  | zero => intro l _; omega
  | succ n ih =>
    intro l h
    have h1 := h n (by omega)
    have h2 := ih (l.erase n) (fun s hs => (List.mem_erase_of_ne (by omega)).2 (h s (by omega)))
    rw [List.length_erase_of_mem h1] at h2
    have := List.length_pos_of_mem h1
    omega
theorem least_out (l : List Nat) : ∀ n, (∃ f, f < n ∧ f ∉ l) → ∃ f, f < n ∧ f ∉ l ∧ ∀ s, s < f → s ∈ l := by
  intro n
  induction n with
  | zero => rintro ⟨f, h, _⟩; omega
  | succ n ih =>
    intro h
    by_cases h' : ∃ f, f < n ∧ f ∉ l
    · obtain ⟨f, h1, h2⟩ := ih h'; exact ⟨f, by omega, h2⟩
    · obtain ⟨f, h1, h2⟩ := h
      refine ⟨f, h1, h2, fun s hs => ?_⟩
      exact Classical.byContradiction (fun h3 => h' ⟨s, by omega, h3⟩)
theorem free_slot (l : List Nat) (n : Nat) (h : l.length < n) : ∃ f, f < n ∧ f ∉ l ∧ ∀ s, s < f → s ∈ l :=
  least_out l n (Classical.byContradiction (fun h' => by
    have := pigeon n l (fun s hs => Classical.byContradiction (fun h3 => h' ⟨s, hs, h3⟩)); omega))

theorem infoInstr : (Tryz.prog.info? 110).map (fun i => (i.zero, i.size, i.bytes)) = some (some (.agg #[.int .u8 0, .int .u64 0, .int .u64 0]), 3, 24) := by kernel_rfl

section
variable {w : World}

set_option maxRecDepth 100000 in
set_option maxHeartbeats 1000000 in
theorem lineOf_any (off : Nat) (ho : off < 18446744073709551616) : Calls Tryz.prog 70 #[.int .u64 off] w fun r w' => r = .returned (.int .u64 (off - off % 64 : Nat)) ∧ w = w' := by
  have h1 : (off : Int) % 64 ≤ off := by omega
  go_enter Tryz.func70, Tryz.ntmps70
  go_wp2
  go_ret
  exact ⟨ret_int (by first | omega | (rw [IntKind.wrap_u64]; omega)), rfl⟩

/-- A program slice of the call's own, at its end. -/
def NewProg (w : World) (pv : Value) (l : List (Nat × Nat × Int)) (r : Ending) (w' : World) : Prop :=
  ∃ v, r = .returned v ∧ OwnSl w' 110 3 v l.length (instrC l) ∧ (slAddr v = slAddr pv ∨ ∃ g, slAddr v = some ⟨g, 0, none⟩ ∧ w.heap.size ≤ g) ∧ Upd (fun k => pv.ownBlock = some k) w w'

set_option maxRecDepth 100000 in
set_option maxHeartbeats 1000000 in
theorem commit_any (pv : Value) (l : List (Nat × Nat × Int)) (off : Nat) (x : Int) (hp : OwnSl w 110 3 pv l.length (instrC l)) (hl : l.length ≤ 100000) :
    Calls Tryz.prog 67 #[pv, .int .u64 off, .int .u64 x] w (NewProg w pv (l ++ [(1, off, x), (2, off, 0), (3, 0, 0)])) := by
  obtain ⟨i0, hi0, hz0, hz1, hz2⟩ := info_parts infoInstr
  have I := Lib.hid (And.intro hi0 (And.intro hz0 (And.intro hz1 hz2))); clear hi0 hz0 hz1 hz2
  obtain ⟨pa, pc, hpv⟩ := hp.slice
  subst hpv
  have HP := Lib.hid hp; clear hp
  go_enter Tryz.func67, Tryz.ntmps67
  go_wp2_with (at_builtin; refine wpList_append_sl _ rfl _ _ 53 rfl 110 i0 _ 3 24 Tryz.underlying53 I.out.1 I.out.2.1 I.out.2.2.1 I.out.2.2.2 rfl (by decide) _ l.length (instrC l) rfl (by exact HP.out.alloc _) _ 3 (instrC [(1, off, x), (2, off, 0), (3, 0, 0)]) rfl (by exact RdSl.newAt _ _ _ 3 3 _ rfl rfl) (instrC_one _) (by unfold maxLen; omega) (by omega) ?_)
  intro v1 w1 o1 g1 b1 n1
  have O1 := Lib.hid (And.intro o1 (And.intro g1 b1)); clear o1 g1 b1 n1
  obtain ⟨va, vc, hv⟩ := O1.out.1.slice
  go_wp2_with fail
  go_ret
  refine ⟨v1, rfl, by rw [instrC_append, List.length_append]; exact O1.out.1, ?_, ?_⟩
  · rcases O1.out.2.2 with h | h
    · exact .inl h
    · exact .inr ⟨_, h, by simp⟩
  · exact ((Upd.refl _ w).alloc _).grown O1.out.2.1 (fun k hk _ => hk)

theorem row13 (w : World) : Row (w.alloc (.cells #[.bool false, .bool false, .bool false, .bool false, .bool false, .bool false, .bool false, .bool false, .bool false, .bool false, .bool false, .bool false, .bool false] 180)) w.heap.size 13 180 (fun j => .bool (decide (j ∈ ([] : List Nat)))) := by
  refine Row.new w _ _ _ _ (fun j hj => ?_)
  obtain rfl | rfl | rfl | rfl | rfl | rfl | rfl | rfl | rfl | rfl | rfl | rfl | rfl : j = 0 ∨ j = 1 ∨ j = 2 ∨ j = 3 ∨ j = 4 ∨ j = 5 ∨ j = 6 ∨ j = 7 ∨ j = 8 ∨ j = 9 ∨ j = 10 ∨ j = 11 ∨ j = 12 := by omega
  all_goals simp

set_option maxRecDepth 100000 in
set_option maxHeartbeats 1000000 in
theorem unused_any (sv : Value) (slots : List Nat) (hs : RdSl w 1 sv slots.length (natsI slots)) (h12 : ∀ s ∈ slots, s < 12) (hl : slots.length < 12) :
    Calls Tryz.prog 69 #[sv] w fun r w' => r = .returned (.int .i64 (unusedN slots)) ∧ unusedN slots < 12 ∧ unusedN slots ∉ slots ∧ Below w.heap.size w w' := by
  obtain ⟨_, a, c, rfl, hc, ha⟩ := hs
  have HA := Lib.hid ha; have H12 := Lib.hid h12; clear ha h12
  obtain ⟨f, hf12, hfn, hfl⟩ := free_slot slots 12 hl
  have HU : Hid (unusedN slots = f) := unusedN_spec slots f (by omega) hfn hfl
  have HF := Lib.hid (And.intro hfn hfl); clear hfn hfl
  have M0 := Lib.hid (row13 w)
  go_enter Tryz.func69, Tryz.ntmps69
  go_wp2_with fail
  go_loopw [9] (fun x wr => ∃ k : Nat, k ≤ slots.length ∧ x = .int .i64 k ∧ Row wr w.heap.size 13 180 (fun j => .bool (decide (j ∈ slots.take k))) ∧ Below w.heap.size w wr) (fun x _ => slots.length - (intOf x).toNat)
  case atStart => exact ⟨0, Nat.zero_le _, rfl, by simpa using M0.out, below_alloc w _⟩
  case round =>
    obtain ⟨k, hk, rfl, hrow, hb⟩ := hrel
    have HR := Lib.hid (And.intro hrow hb)
    by_cases hlt : k < slots.length
    · obtain ⟨s, hs⟩ : ∃ s, slots[k]? = some s := ⟨_, List.getElem?_eq_getElem hlt⟩
      have hs12 := H12.out s (List.mem_of_getElem? hs)
      have hv : (natsI slots)[k]? = some (.int .i64 s) := by simp [natsI, hs]
      obtain ⟨sb, so, rfl, hcell⟩ := rd_at HA.out hv
      have e1 := (hb.cell (p := ⟨sb, so + k, none⟩) (World.block_lt_of_cell? w _ (hcell _ _ hv))).trans (hcell _ _ hv)
      have c2 : wr.cell? ⟨w.heap.size, s, none⟩ = some (.bool (decide (s ∈ slots.take k))) := hrow.cell (by omega)
      have f2 := hrow.frozen s
      have hs13 : (s : Int) < 13 := by omega
      have HS := Lib.hid hs
      clear hs hv hcell hrow hb
      go_wp2_with fail
      go_roundw
      case rel =>
        refine ⟨k + 1, by omega, by go_num, (HR.out.1.set s (.bool true)).congr (fun j _ => ?_), HR.out.2.setCell (p := ⟨w.heap.size, s, none⟩) (Nat.le_refl _) _⟩
        rw [List.take_add_one, HS.out]
        by_cases e : j = s
        · subst e; simp
        · rw [if_neg e]; simp [e]
      case measure => simp [intOf]; omega
    · obtain rfl : k = slots.length := by omega
      rw [List.take_length] at hrow
      have HR2 := Lib.hid (And.intro hrow hb)
      clear HR hrow hb hlt
      go_wp2_with fail
      go_loop [6] (fun x => ∃ i : Nat, i ≤ f ∧ x = .int .i64 i) (fun x => f - (intOf x).toNat)
      case atStart => exact ⟨0, Nat.zero_le _, rfl⟩
      case round =>
        obtain ⟨i, hi, rfl⟩ := hrel
        have c2 : wr.cell? ⟨w.heap.size, i, none⟩ = some (.bool (decide (i ∈ slots))) := HR2.out.1.cell (by omega)
        have hi13 : (i : Int) < 13 := by omega
        by_cases hif : i = f
        · subst hif
          rw [decide_eq_false HF.out.1] at c2
          go_wp2_with fail
          go_ret
          exact ⟨ret_int (by rw [HU.out]), by rw [HU.out]; exact hf12, by rw [HU.out]; exact HF.out.1, HR2.out.2⟩
        · rw [decide_eq_true (HF.out.2 i (by omega))] at c2
          go_wp2_with fail
          go_round
          case rel => exact ⟨i + 1, by omega, by go_num⟩
          case measure => simp [intOf]; omega
end
end Go.Proofs.YtgdcjedcinapdaaGreat

/- The node that the law draws: its keys. -/
namespace Go.Proofs.YtgdcjedcinapdaaGreat
open Go.RowKit

structure NodeP where
  pos : Nat
  ks : List Nat
  ss : List Nat
  vs : List Int
  high : Nat
  bounded : Bool
  next : Bool
  count : Nat

def natsK (k : IntKind) (l : List Nat) : List Value := l.map fun (s : Nat) => Value.int k s
theorem natsK_get (k : IntKind) (l : List Nat) (i x : Nat) (h : l[i]? = some x) : (natsK k l)[i]? = some (.int k x) := by simp [natsK, h]

/-- The node's value, and where its three slices lie. -/
structure NodeIn (w : World) (n : NodeP) (ka sa va : Option Addr) (kc sc vc : Nat) : Prop where
  ks : RdSl w 1 (.slice ka n.ks.length kc) n.ks.length (natsK .u8 n.ks)
  ss : RdSl w 1 (.slice sa n.ss.length sc) n.ss.length (natsK .u8 n.ss)
  vs : RdSl w 1 (.slice va n.vs.length vc) n.vs.length (intsK .u64 n.vs)
  kl : n.ks.length ≤ maxLen
  sl : n.ss.length ≤ maxLen
  vl : n.vs.length ≤ maxLen
  k8 : ∀ k ∈ n.ks, k < 256
  s8 : ∀ s ∈ n.ss, s < 256
  v64 : ∀ x ∈ n.vs, 0 ≤ x ∧ x < 18446744073709551616
  p8 : n.pos < 256
  h8 : n.high < 256
  c16 : n.count < 65536
theorem NodeIn.below {w w' : World} {n : NodeP} {ka sa va : Option Addr} {kc sc vc : Nat} (h : NodeIn w n ka sa va kc sc vc) (hb : Below w.heap.size w w') : NodeIn w' n ka sa va kc sc vc :=
  { h with ks := h.ks.below hb, ss := h.ss.below hb, vs := h.vs.below hb }

def addKey (out : List Int) (k : Nat) : List Int := if out.length < 12 ∧ (2 * (k : Int)) ∉ out then out ++ [2 * (k : Int)] else out
def rawKeys (l : List Nat) : List Int := l.foldl addKey []
theorem rawKeys_snoc (l : List Nat) (k : Nat) : rawKeys (l ++ [k]) = addKey (rawKeys l) k := by simp [rawKeys]
theorem addKey_len (out : List Int) (k : Nat) (h : out.length ≤ 12) : (addKey out k).length ≤ 12 := by
  unfold addKey; split
  · simp; omega
  · exact h
theorem rawKeys_inv (l : List Nat) : (rawKeys l).length ≤ 12 ∧ (rawKeys l).Nodup ∧ ∀ x ∈ rawKeys l, ∃ k ∈ l, x = 2 * (k : Int) := by
  have : ∀ (l pre : List Nat) (out : List Int), (out.length ≤ 12 ∧ out.Nodup ∧ ∀ x ∈ out, ∃ k ∈ pre, x = 2 * (k : Int)) → ((l.foldl addKey out).length ≤ 12 ∧ (l.foldl addKey out).Nodup ∧ ∀ x ∈ l.foldl addKey out, ∃ k ∈ pre ++ l, x = 2 * (k : Int)) := by
    intro l
    induction l with
    | nil => intro pre out h; simpa using h
    | cons k l ih =>
      intro pre out h
      have := ih (pre ++ [k]) (addKey out k) ?_
      · simpa using this
      · refine ⟨addKey_len out k h.1, ?_, fun x hx => ?_⟩
        · unfold addKey; split
          · rename_i hc; rw [List.nodup_append]; exact ⟨h.2.1, by simp, fun a ha b hb => by simp at hb; subst hb; exact fun e => hc.2 (e ▸ ha)⟩
          · exact h.2.1
        · unfold addKey at hx; split at hx
          · rcases List.mem_append.1 hx with hx | hx
            · obtain ⟨k', hk', e⟩ := h.2.2 x hx; exact ⟨k', by simp [hk'], e⟩
            · simp at hx; exact ⟨k, by simp, hx⟩
          · obtain ⟨k', hk', e⟩ := h.2.2 x hx; exact ⟨k', by simp [hk'], e⟩
  have := this l [] [] (by simp)
  simpa [rawKeys] using this
def sortI (l : List Int) : List Int := l.mergeSort (fun a b => decide (a ≤ b))
theorem take_snoc_get {α : Type} (l : List α) (k : Nat) (x : α) (h : l[k]? = some x) : l.take (k + 1) = l.take k ++ [x] := by rw [List.take_add_one, h]; rfl
theorem ascOn_pairwise (l : List Int) (h : ascOn l 0 l.length) : l.Pairwise (· ≤ ·) := by
  rw [List.pairwise_iff_getElem]
  intro i j hi hj hij
  have := h i j (by omega) hij hj
  simpa [at0, List.getD, hi, hj] using this
theorem sortI_unique {ys l : List Int} (hp : ys.Perm l) (ha : ys.Pairwise (· ≤ ·)) : ys = sortI l := by
  have h1 : (sortI l).Perm l := List.mergeSort_perm _ _
  have h2 : (sortI l).Pairwise (fun a b => decide (a ≤ b) = true) := List.pairwise_mergeSort (fun a b c h1 h2 => by simp at *; omega) (fun a b => by simp; omega) l
  refine List.Perm.eq_of_pairwise (le := (· ≤ ·)) (fun a b _ _ h1 h2 => Int.le_antisymm h1 h2) ha (h2.imp (by simp)) (hp.trans h1.symm)
/-- The node's keys. -/
def keysN (l : List Nat) : List Int := sortI (rawKeys l)
theorem keysN_perm (l : List Nat) : (keysN l).Perm (rawKeys l) := List.mergeSort_perm _ _
theorem keysN_len (l : List Nat) : (keysN l).length ≤ 12 := by rw [(keysN_perm l).length_eq]; exact (rawKeys_inv l).1
theorem keysN_asc (l : List Nat) : (keysN l).Pairwise (· < ·) := by
  have h2 : (keysN l).Pairwise (fun a b => decide (a ≤ b) = true) := List.pairwise_mergeSort (fun a b c h1 h2 => by simp at *; omega) (fun a b => by simp; omega) _
  have h3 : (keysN l).Nodup := (keysN_perm l).nodup_iff.2 (rawKeys_inv l).2.1
  refine (h2.and h3).imp ?_
  rintro a b ⟨h1, h2⟩
  simp at h1; omega
theorem keysN_mem (l : List Nat) (h : ∀ k ∈ l, k < 256) : ∀ x ∈ keysN l, 0 ≤ x ∧ x ≤ 510 := by
  intro x hx
  obtain ⟨k, hk, e⟩ := (rawKeys_inv l).2.2 x ((keysN_perm l).mem_iff.1 hx)
  have := h k hk; omega

section
variable {w : World}
abbrev nodeAgg (n : NodeP) (ka sa va : Option Addr) (kc sc vc : Nat) : Array Value :=
  #[.int .u8 n.pos, .slice ka n.ks.length kc, .slice sa n.ss.length sc, .slice va n.vs.length vc, .int .u8 n.high, .bool n.bounded, .bool n.next, .int .u16 n.count]

theorem keys_end {wr w1 : World} {sv : Value} {l : List Nat} {ys : List Int} (h : Acc w w.heap.size wr 28 1 sv (rawKeys l).length (intsU (rawKeys l))) (hm : Mixed (rawKeys l) ys 0 (rawKeys l).length) (ha : ascOn ys 0 (rawKeys l).length)
    (ho : OwnSl w1 28 1 sv (rawKeys l).length (intsU ys)) (hu : Upd (fun k => sv.ownBlock = some k) wr w1) : Acc w w.heap.size w1 28 1 sv (keysN l).length (intsU (keysN l)) := by
  have e : ys = keysN l := sortI_unique hm.perm (ascOn_pairwise ys (by rw [hm.len]; exact ha))
  refine ⟨by rw [← e, hm.len]; exact ho, h.new, ?_, Nat.le_trans h.lt hu.size⟩
  exact ⟨hu.os.trans h.bel.os, hu.tape.trans h.bel.tape, hu.output.trans h.bel.output, Nat.le_trans h.bel.size hu.size, fun k hk => (hu.block k (Nat.lt_of_lt_of_le hk h.lt) (fun hk2 => by have := h.new k hk2; omega)).trans (h.bel.block k hk)⟩

set_option maxRecDepth 100000 in
set_option maxHeartbeats 2000000 in
theorem keys_any {n : NodeP} {ka sa va : Option Addr} {kc sc vc : Nat} (h : NodeIn w n ka sa va kc sc vc) :
    Calls Tryz.prog 51 #[.agg (nodeAgg n ka sa va kc sc vc)] w fun r w' => ∃ sv, r = .returned sv ∧ Acc w w.heap.size w' 28 1 sv (keysN n.ks).length (intsU (keysN n.ks)) := by
  unfold nodeAgg
  have hl := h.kl
  unfold maxLen at hl
  obtain ⟨_, _, _, e, _, ha⟩ := h.ks
  cases e
  have HA := Lib.hid ha; have H8 := Lib.hid h.k8
  clear h ha
  obtain ⟨i0, hi, hz0, hz1, hz2⟩ := info_parts infoU64
  have I := Lib.hid (And.intro hi (And.intro hz0 (And.intro hz1 hz2))); clear hi hz0 hz1 hz2
  generalize hn : n.ks.length = m at *
  have HN := Lib.hid hn; clear hn
  go_enter Tryz.func51, Tryz.ntmps51
  go_wp2_with fail
  go_loopw [3, 9] (fun ov i wr => ∃ k : Nat, k ≤ m ∧ i = .int .i64 k ∧ Acc w w.heap.size wr 28 1 ov (rawKeys (n.ks.take k)).length (intsU (rawKeys (n.ks.take k)))) (fun _ i _ => m - (intOf i).toNat)
  case atStart => exact ⟨0, by omega, rfl, Acc.nil w _ _ _ _ (below_alloc _ _) (by simp)⟩
  case round =>
    obtain ⟨k, hk, rfl, hacc⟩ := hrel
    obtain ⟨oa, oc, rfl⟩ := hacc.slice
    have A := Lib.hid hacc; clear hacc
    have hr12 := (rawKeys_inv (n.ks.take k)).1
    by_cases hlt : k < m
    · obtain ⟨y, hy⟩ : ∃ y, n.ks[k]? = some y := ⟨_, List.getElem?_eq_getElem (by rw [HN.out]; exact hlt)⟩
      have hsn := rawKeys_snoc (n.ks.take k) y
      rw [← take_snoc_get n.ks k y hy] at hsn
      have HSN := Lib.hid hsn
      have hy8 := H8.out y (List.mem_of_getElem? hy)
      obtain ⟨b, o, rfl, hcl⟩ := rd_at HA.out (natsK_get .u8 n.ks k y hy)
      have c1 := (A.out.bel.cell (p := ⟨b, o + k, none⟩) (World.block_lt_of_cell? w _ (hcl k _ (natsK_get .u8 n.ks k y hy)))).trans (hcl k _ (natsK_get .u8 n.ks k y hy))
      have HC := Lib.hid (contains1 _ _ (2 * (y : Int)) (show RdSl wr 1 _ _ (intsK .u64 (rawKeys (n.ks.take k))) from A.out.rd) (by omega))
      clear hsn hy hcl
      generalize hrw : rawKeys (n.ks.take k) = raw at *
      have HRW := Lib.hid hrw; clear hrw
      generalize hrl : raw.length = rl at *
      have HRL := Lib.hid hrl; clear hrl
      by_cases h12 : rl < 12
      · have h12' : (rl : Int) < 12 := by omega
        have hc : decide (2 * (y : Int) ∈ raw) = true ∨ decide (2 * (y : Int) ∈ raw) = false := by cases decide (2 * (y : Int) ∈ raw) <;> simp
        rcases hc with hc | hc
        · have HD := Lib.hid hc
          rw [hc] at HC; clear hc
          go_wp2_with fail
          (with_reducible refine HC.out.mono ?_)
          rintro e w' ⟨rfl, rfl⟩
          go_wp2_with fail
          go_roundw
          case rel =>
            refine ⟨k + 1, by omega, by go_num, ?_⟩
            have e : addKey raw y = raw := by unfold addKey; rw [if_neg (fun h => h.2 (by simpa using HD.out))]
            rw [HSN.out, e, HRL.out]; exact A.out
          case measure => simp [intOf]; omega
        · have HD := Lib.hid hc
          rw [hc] at HC; clear hc
          go_wp2_with fail
          (with_reducible refine HC.out.mono ?_)
          rintro e w' ⟨rfl, rfl⟩
          go_wp2_with (at_builtin; refine wpList_append_sl _ rfl _ _ 23 rfl 28 i0 _ 1 8 Tryz.underlying23 I.out.1 I.out.2.1 I.out.2.2.1 I.out.2.2.2 rfl (by decide) _ rl (intsU raw) rfl (by exact A.out.own.alloc _) _ 1 _ rfl (by exact RdSl.newAt _ _ _ 1 1 _ rfl rfl) (one_int _ _) (by unfold maxLen; omega) (by omega) ?_)
          intro v1 w1 o1 g1 b1 n1
          have A1 := Lib.hid (A.out.next (below_alloc _ _) o1 g1 b1 (by simp)); clear o1 g1 b1 n1
          go_wp2_with fail
          go_roundw
          case rel =>
            refine ⟨k + 1, by omega, by go_num, ?_⟩
            have e : addKey raw y = raw ++ [2 * (y : Int)] := by unfold addKey; rw [if_pos ⟨by rw [HRL.out]; exact h12, by simpa using HD.out⟩]
            rw [HSN.out, e]
            exact A1.out.congr (by simp [HRL.out]) (by simp [intsU])
          case measure => simp [intOf]; omega
      · have h12' : ¬ (rl : Int) < 12 := by omega
        go_wp2_with fail
        go_roundw
        case rel =>
          refine ⟨k + 1, by omega, by go_num, ?_⟩
          have e : addKey raw y = raw := by unfold addKey; rw [if_neg (fun h => h12 (by rw [← HRL.out]; exact h.1))]
          rw [HSN.out, e, HRL.out]; exact A.out
        case measure => simp [intOf]; omega
    · have hfull : n.ks.take k = n.ks := List.take_of_length_le (by rw [HN.out]; omega)
      rw [hfull] at A hr12 ⊢
      clear hfull
      have HS := Lib.hid (sort_own _ _ A.out.own hr12)
      go_wp2_with fail
      (with_reducible refine HS.out.mono ?_)
      rintro e w1 ⟨rfl, ys, m1, a1, o1, u1⟩
      have A1 := Lib.hid (keys_end A.out m1 a1 o1 u1)
      clear m1 a1 o1 u1 HS
      go_wp2_with fail
      go_ret
      exact ⟨_, rfl, A1.out⟩
end
end Go.Proofs.YtgdcjedcinapdaaGreat

/- The node that the law draws: its slots. -/
namespace Go.Proofs.YtgdcjedcinapdaaGreat
open Go.RowKit

def addSlot (c : Nat) (out : List Nat) (s : Nat) : List Nat := if out.length < c ∧ s % 12 ∉ out then out ++ [s % 12] else out
def rawSlots (c : Nat) (l : List Nat) : List Nat := l.foldl (addSlot c) []
theorem rawSlots_snoc (c : Nat) (l : List Nat) (s : Nat) : rawSlots c (l ++ [s]) = addSlot c (rawSlots c l) s := by simp [rawSlots]
/-- Distinct slots, at most c of them. -/
def GoodSlots (c : Nat) (l : List Nat) : Prop := l.length ≤ c ∧ l.Nodup ∧ ∀ s ∈ l, s < 12
theorem good_add (c : Nat) (out : List Nat) (s : Nat) (hs : s < 12) (h : GoodSlots c out) (hl : out.length < c) (hn : s ∉ out) : GoodSlots c (out ++ [s]) := by
  refine ⟨by simp; omega, ?_, fun x hx => ?_⟩
  · rw [List.nodup_append]; exact ⟨h.2.1, by simp, fun a ha b hb => by simp at hb; subst hb; exact fun e => hn (e ▸ ha)⟩
  · rcases List.mem_append.1 hx with hx | hx
    · exact h.2.2 x hx
    · simp at hx; omega
theorem good_raw (c : Nat) (l : List Nat) : GoodSlots c (rawSlots c l) := by
  have : ∀ (l : List Nat) (out : List Nat), GoodSlots c out → GoodSlots c (l.foldl (addSlot c) out) := by
    intro l
    induction l with
    | nil => intro out h; exact h
    | cons s l ih =>
      intro out h
      refine ih _ ?_
      unfold addSlot; split
      · rename_i hc; exact good_add c out (s % 12) (by omega) h hc.1 hc.2
      · exact h
  exact this l [] ⟨by simp, by simp, fun _ h => by simp at h⟩
def fillS : Nat → Nat → List Nat → Nat → List Nat
  | 0, _, out, _ => out
  | f + 1, c, out, s => if out.length < c then fillS f c (if s ∈ out then out else out ++ [s]) (s + 1) else out
/-- The slots of a node with c entries. -/
def nodeSlots (c : Nat) (l : List Nat) : List Nat := fillS 13 c (rawSlots c l) 0
theorem fill_end (f c : Nat) (out : List Nat) (s : Nat) (h : c ≤ out.length) : fillS f c out s = out := by
  cases f with
  | zero => rfl
  | succ f => unfold fillS; rw [if_neg (by omega)]
theorem fill_good : ∀ (f c : Nat) (out : List Nat) (s : Nat), c ≤ 12 → GoodSlots c out → (∀ t, t < s → t ∈ out) → s + f = 13 → GoodSlots c (fillS f c out s) ∧ (fillS f c out s).length = c := by
  intro f
  induction f with
  | zero => intro c out s hc h hs hf; have := pigeon s out hs; have := h.1; omega
  | succ f ih =>
    intro c out s hc h hs hf
    by_cases hl : out.length < c
    · have hs12 : s < 12 := by have := pigeon s out hs; omega
      unfold fillS
      rw [if_pos hl]
      by_cases hm : s ∈ out
      · rw [if_pos hm]
        exact ih c out (s + 1) hc h (fun t ht => by rcases Nat.lt_succ_iff_lt_or_eq.1 ht with h' | h'; exact hs t h'; exact h' ▸ hm) (by omega)
      · rw [if_neg hm]
        exact ih c (out ++ [s]) (s + 1) hc (good_add c out s hs12 h hl hm) (fun t ht => by rcases Nat.lt_succ_iff_lt_or_eq.1 ht with h' | h'; exact List.mem_append_left _ (hs t h'); simp [h']) (by omega)
    · rw [fill_end _ _ _ _ (by omega)]; exact ⟨h, by have := h.1; omega⟩
theorem nodeSlots_good (c : Nat) (l : List Nat) (hc : c ≤ 12) : GoodSlots c (nodeSlots c l) ∧ (nodeSlots c l).length = c := fill_good 13 c _ 0 hc (good_raw c l) (fun t ht => by omega) rfl

theorem natsI_ints (l : List Nat) : natsI l = intsK .i64 (l.map fun (s : Nat) => (s : Int)) := by simp [natsI, intsK]
theorem mem_cast (l : List Nat) (s : Nat) : ((s : Int) ∈ l.map fun (s : Nat) => (s : Int)) ↔ s ∈ l := by
  rw [List.mem_map]
  exact ⟨fun ⟨a, h, e⟩ => by have : a = s := by omega
                             exact this ▸ h, fun h => ⟨s, h, rfl⟩⟩

section
variable {w : World}
theorem containsI (sv : Value) (l : List Nat) (s : Nat) (b : Bool) (hb : decide (s ∈ l) = b) (h : RdSl w 1 sv l.length (natsI l)) (hl : l.length ≤ 4611686018) :
    Calls Tryz.prog 94 #[sv, .int .i64 s] w fun r w' => r = .returned (.bool b) ∧ w = w' := by
  have h' : RdSl w 1 sv (l.map fun (s : Nat) => (s : Int)).length (intsK .i64 (l.map fun (s : Nat) => (s : Int))) := by rw [← natsI_ints, List.length_map]; exact h
  have := contains2 sv _ (s : Int) h' (by rw [List.length_map]; exact hl)
  rw [show decide ((s : Int) ∈ l.map fun (s : Nat) => (s : Int)) = b by rw [← hb, decide_eq_decide]; exact mem_cast l s] at this
  exact this

set_option maxRecDepth 100000 in
set_option maxHeartbeats 4000000 in
theorem slots_any {n : NodeP} {ka sa va : Option Addr} {kc sc vc : Nat} (h : NodeIn w n ka sa va kc sc vc) (c : Nat) (hc : c ≤ 12) :
    Calls Tryz.prog 52 #[.agg (nodeAgg n ka sa va kc sc vc), .int .i64 c] w fun r w' => ∃ sv, r = .returned sv ∧ Acc w w.heap.size w' 3 1 sv (nodeSlots c n.ss).length (natsI (nodeSlots c n.ss)) := by
  unfold nodeAgg
  have hl := h.sl
  unfold maxLen at hl
  obtain ⟨_, _, _, e, _, ha⟩ := h.ss
  cases e
  have HA := Lib.hid ha; have H8 := Lib.hid h.s8
  clear h ha
  obtain ⟨i0, hi, hz0, hz1, hz2⟩ := info_parts infoInt
  have I := Lib.hid (And.intro hi (And.intro hz0 (And.intro hz1 hz2))); clear hi hz0 hz1 hz2
  generalize hn : n.ss.length = m at *
  have HN := Lib.hid hn; clear hn
  go_enter Tryz.func52, Tryz.ntmps52
  go_wp2_with fail
  go_loopw [5, 12] (fun ov i wr => ∃ k : Nat, k ≤ m ∧ i = .int .i64 k ∧ Acc w w.heap.size wr 3 1 ov (rawSlots c (n.ss.take k)).length (natsI (rawSlots c (n.ss.take k)))) (fun _ i _ => m - (intOf i).toNat)
  case atStart => exact ⟨0, by omega, rfl, Acc.nil w _ _ _ _ (below_alloc _ _) (by simp)⟩
  case round =>
    obtain ⟨k, hk, rfl, hacc⟩ := hrel
    obtain ⟨oa, oc, rfl⟩ := hacc.slice
    have A := Lib.hid hacc; clear hacc
    have hgood := good_raw c (n.ss.take k)
    have hr12 := hgood.1
    by_cases hlt : k < m
    · clear hgood
      obtain ⟨y, hy⟩ : ∃ y, n.ss[k]? = some y := ⟨_, List.getElem?_eq_getElem (by rw [HN.out]; exact hlt)⟩
      have hsn := rawSlots_snoc c (n.ss.take k) y
      rw [← take_snoc_get n.ss k y hy] at hsn
      have HSN := Lib.hid hsn
      have hy8 := H8.out y (List.mem_of_getElem? hy)
      obtain ⟨b, o, rfl, hcl⟩ := rd_at HA.out (natsK_get .u8 n.ss k y hy)
      have c1 := (A.out.bel.cell (p := ⟨b, o + k, none⟩) (World.block_lt_of_cell? w _ (hcl k _ (natsK_get .u8 n.ss k y hy)))).trans (hcl k _ (natsK_get .u8 n.ss k y hy))
      have hC := fun b hb => containsI (w := wr) _ (rawSlots c (n.ss.take k)) (y % 12) b hb A.out.rd (by omega)
      rw [show ((y % 12 : Nat) : Int) = (y : Int) % 12 by omega] at hC
      have HC := Lib.hid hC
      clear hsn hy hcl hC
      generalize hrw : rawSlots c (n.ss.take k) = raw at *
      have HRW := Lib.hid hrw; clear hrw
      generalize hrl : raw.length = rl at *
      have HRL := Lib.hid hrl; clear hrl
      by_cases h12 : rl < c
      · have h12' : (rl : Int) < c := by omega
        by_cases hm : y % 12 ∈ raw
        · have HD := Lib.hid hm
          have HC' := Lib.hid (HC.out true (by simpa using hm)); clear hm HC
          go_wp2_with fail
          (with_reducible refine HC'.out.mono ?_)
          rintro e w' ⟨rfl, rfl⟩
          go_wp2_with fail
          go_roundw
          case rel =>
            refine ⟨k + 1, by omega, by go_num, ?_⟩
            have e : addSlot c raw y = raw := by unfold addSlot; rw [if_neg (fun h => h.2 HD.out)]
            rw [HSN.out, e, HRL.out]; exact A.out
          case measure => simp [intOf]; omega
        · have HD := Lib.hid hm
          have HC' := Lib.hid (HC.out false (by simpa using hm)); clear hm HC
          go_wp2_with fail
          (with_reducible refine HC'.out.mono ?_)
          rintro e w' ⟨rfl, rfl⟩
          go_wp2_with (at_builtin; refine wpList_append_sl _ rfl _ _ 113 rfl 3 i0 _ 1 8 Tryz.underlying113 I.out.1 I.out.2.1 I.out.2.2.1 I.out.2.2.2 rfl (by decide) _ rl (natsI raw) rfl (by exact A.out.own.alloc _) _ 1 _ rfl (by exact RdSl.newAt _ _ _ 1 1 _ rfl rfl) (one_int _ _) (by unfold maxLen; omega) (by omega) ?_)
          intro v1 w1 o1 g1 b1 n1
          have A1 := Lib.hid (A.out.next (below_alloc _ _) o1 g1 b1 (by simp)); clear o1 g1 b1 n1
          go_wp2_with fail
          go_roundw
          case rel =>
            refine ⟨k + 1, by omega, by go_num, ?_⟩
            have e : addSlot c raw y = raw ++ [y % 12] := by unfold addSlot; rw [if_pos ⟨by rw [HRL.out]; exact h12, HD.out⟩]
            rw [HSN.out, e]
            exact A1.out.congr (by simp [HRL.out]) (by simp [natsI])
          case measure => simp [intOf]; omega
      · have h12' : ¬ (rl : Int) < c := by omega
        go_wp2_with fail
        go_roundw
        case rel =>
          refine ⟨k + 1, by omega, by go_num, ?_⟩
          have e : addSlot c raw y = raw := by unfold addSlot; rw [if_neg (fun h => h12 (by rw [← HRL.out]; exact h.1))]
          rw [HSN.out, e, HRL.out]; exact A.out
        case measure => simp [intOf]; omega
    · have hfull : n.ss.take k = n.ss := List.take_of_length_le (by rw [HN.out]; omega)
      rw [hfull] at A hr12 hgood ⊢
      have HG := Lib.hid hgood
      clear hfull hgood
      obtain ⟨wo, hwo⟩ : ∃ wo : World, wo = wr := ⟨_, rfl⟩
      subst hwo
      go_wp2_with fail
      go_loopw [5, 8] (fun ov x wr => ∃ (s f : Nat) (out : List Nat), s + f = 13 ∧ x = .int .i64 s ∧ GoodSlots c out ∧ (∀ t, t < s → t ∈ out) ∧ fillS f c out s = nodeSlots c n.ss ∧ Acc w w.heap.size wr 3 1 ov out.length (natsI out)) (fun _ x _ => 13 - (intOf x).toNat)
      case atStart => exact ⟨0, 13, rawSlots c n.ss, rfl, rfl, HG.out, fun t ht => by omega, rfl, A.out⟩
      case round =>
        obtain ⟨s, f, out, hsf, rfl, hg, hall, hfill, hacc⟩ := hrel
        obtain ⟨oa2, oc2, rfl⟩ := hacc.slice
        have A2 := Lib.hid hacc; have HG2 := Lib.hid hg; have HALL := Lib.hid hall; have HF := Lib.hid hfill
        have hol := hg.1
        have hpig := pigeon s out hall
        clear hacc hg hall hfill A HG
        have hC := fun b hb => containsI (w := wr) _ out s b hb A2.out.rd (by omega)
        have HC := Lib.hid hC; clear hC
        generalize hrl : out.length = rl at *
        have HRL := Lib.hid hrl; clear hrl
        by_cases h12 : rl < c
        · have h12' : (rl : Int) < c := by omega
          obtain ⟨f, rfl⟩ : ∃ f', f = f' + 1 := ⟨f - 1, by omega⟩
          by_cases hm : s ∈ out
          · have HD := Lib.hid hm
            have HC' := Lib.hid (HC.out true (by simpa using hm)); clear hm HC
            go_wp2_with fail
            (with_reducible refine HC'.out.mono ?_)
            rintro e w' ⟨rfl, rfl⟩
            go_wp2_with fail
            go_roundw
            case rel => exact ⟨s + 1, f, out, by omega, by go_num, HG2.out, fun t ht => (by rcases Nat.lt_succ_iff_lt_or_eq.1 ht with h' | h'; exact HALL.out t h'; exact h' ▸ HD.out), (by rw [← HF.out]; unfold fillS; rw [if_pos (by rw [HRL.out]; exact h12), if_pos HD.out]; cases f <;> rfl), by rw [HRL.out]; exact A2.out⟩
            case measure => simp [intOf]; omega
          · have HD := Lib.hid hm
            have HC' := Lib.hid (HC.out false (by simpa using hm)); clear hm HC
            go_wp2_with fail
            (with_reducible refine HC'.out.mono ?_)
            rintro e w' ⟨rfl, rfl⟩
            go_wp2_with (at_builtin; refine wpList_append_sl _ rfl _ _ 113 rfl 3 i0 _ 1 8 Tryz.underlying113 I.out.1 I.out.2.1 I.out.2.2.1 I.out.2.2.2 rfl (by decide) _ rl (natsI out) rfl (by exact A2.out.own.alloc _) _ 1 _ rfl (by exact RdSl.newAt _ _ _ 1 1 _ rfl rfl) (one_int _ _) (by unfold maxLen; omega) (by omega) ?_)
            intro v1 w1 o1 g1 b1 n1
            have A3 := Lib.hid (A2.out.next (below_alloc _ _) o1 g1 b1 (by simp)); clear o1 g1 b1 n1
            go_wp2_with fail
            go_roundw
            case rel => exact ⟨s + 1, f, out ++ [s], by omega, by go_num, good_add c out s (by omega) HG2.out (by rw [HRL.out]; exact h12) HD.out, fun t ht => (by rcases Nat.lt_succ_iff_lt_or_eq.1 ht with h' | h'; exact List.mem_append_left _ (HALL.out t h'); simp [h']), (by rw [← HF.out]; conv => rhs; unfold fillS; rw [if_pos (by rw [HRL.out]; exact h12), if_neg HD.out]), A3.out.congr (by simp [HRL.out]) (by simp [natsI])⟩
            case measure => simp [intOf]; omega
        · have h12' : ¬ (rl : Int) < c := by omega
          go_wp2_with fail
          go_ret
          have e : nodeSlots c n.ss = out := by rw [← HF.out]; exact fill_end _ _ _ _ (by rw [HRL.out]; omega)
          exact ⟨_, rfl, by rw [e, HRL.out]; exact A2.out⟩
end
end Go.Proofs.YtgdcjedcinapdaaGreat

/- The walks of Get, Len, Check. -/
namespace Go.Proofs.YtgdcjedcinapdaaGreat
open Go.RowKit

def slotsW (W : Nat → Int) : List Nat := slotsN (W 0).toNat ((W 0).toNat % 16)
def nodeOk (W : Nat → Int) (size : Nat) : Prop := parseOk (W 0).toNat ∧ validC W (slotsW W) size
def nodeW (D : Dev) (p : Nat) : Nat → Int := fun i => D.cur (ptrOff p / 8 + i)

/-- A node that can be read through thread j. -/
structure NodeAt (w : World) (v : DV) (own : Nat → Option Role) (D : Dev) (j p : Nat) : Prop where
  dev : IsDev w v own D
  hj : j < 8
  hp : p < 18446744073709551616
  hp0 : 0 < p
  on : D.off = false
  err : D.err j = 0
  range : ptrOff p + 224 ≤ 64 * D.n
  hW : ∀ i, i < 28 → 0 ≤ nodeW D p i ∧ nodeW D p i < 18446744073709551616

section
variable {w : World} {v : DV} {own : Nat → Option Role} {D : Dev} {j p : Nat}

theorem NodeAt.alloc (h : NodeAt w v own D j p) (o : Obj) : NodeAt (w.alloc o) v own D j p := { h with dev := h.dev.alloc o }
theorem NodeAt.below {w' : World} (h : NodeAt w v own D j p) (hb : Below w.heap.size w w') : NodeAt w' v own D j p := { h with dev := h.dev.kept hb.size (fun k hk => hb.block k (h.dev.lt k hk)) }
theorem NodeAt.read (h : NodeAt w v own D j p) : Calls Tryz.prog 62 #[.agg #[.iface 76 (.pointer (some ⟨v.tb j, 0, none⟩)), .int .u64 p]] w (ReadPost w (nodeW D p) (D.n * 64)) :=
  read_good h.dev h.hj p h.hp h.hp0 h.on h.err h.range h.hW

/-- A result that depends on whether the node is valid. -/
def NodePost (w : World) (W : Nat → Int) (size : Nat) (good bad : Value) (r : Ending) (w' : World) : Prop :=
  Below w.heap.size w w' ∧ ((nodeOk W size ∧ r = .returned good) ∨ (¬ nodeOk W size ∧ r = .returned bad))

theorem below_of (_h1 : Below w.heap.size w w) {o : Obj} {w1 w2 : World} (hb : Below (w.alloc o).heap.size (w.alloc o) w1) (hq : Below w1.heap.size w1 w2) : Below w.heap.size w w2 := by
  have h2 : Below w.heap.size w w1 := (below_alloc w o).trans (hb.mono (by simp))
  exact h2.trans (hq.mono h2.size)

set_option maxRecDepth 100000 in
set_option maxHeartbeats 1000000 in
theorem len_any (h : NodeAt w v own D j p) : Calls Tryz.prog 26 #[.agg #[.iface 76 (.pointer (some ⟨v.tb j, 0, none⟩)), .int .u64 p]] w
    (NodePost w (nodeW D p) (D.n * 64) (.int .i64 (slotsW (nodeW D p)).length) (.int .i64 0)) := by
  have H := Lib.hid h; clear h
  go_enter Tryz.func26, Tryz.ntmps26
  go_wp2_with fail
  (with_reducible refine (H.out.alloc _).read.mono ?_)
  rintro e w1 ⟨hb, ⟨hok, cb, rfl, _, hc⟩ | ⟨hbad, rfl⟩⟩
  · obtain ⟨sv, c28, hrd⟩ := hc.sl
    obtain ⟨_, a, c, rfl, hcap, _⟩ := hrd
    have HB := Lib.hid hb; have HO := Lib.hid hok; clear hb hok hc
    go_wp2_with fail
    go_ret
    exact ⟨below_of (Below.refl _ _) HB.out (Below.refl _ _), .inl ⟨HO.out, rfl⟩⟩
  · have HB := Lib.hid hb; have HO := Lib.hid hbad; clear hb hbad
    go_wp2_with fail
    go_ret
    exact ⟨below_of (Below.refl _ _) HB.out (Below.refl _ _), .inr ⟨HO.out, rfl⟩⟩

set_option maxRecDepth 100000 in
set_option maxHeartbeats 1000000 in
theorem check_any (h : NodeAt w v own D j p) : Calls Tryz.prog 14 #[.agg #[.iface 76 (.pointer (some ⟨v.tb j, 0, none⟩)), .int .u64 p]] w
    (NodePost w (nodeW D p) (D.n * 64) (.int .i64 0) (.int .i64 11)) := by
  have H := Lib.hid h; clear h
  go_enter Tryz.func14, Tryz.ntmps14
  go_wp2_with fail
  (with_reducible refine (H.out.alloc _).read.mono ?_)
  rintro e w1 ⟨hb, ⟨hok, cb, rfl, _, hc⟩ | ⟨hbad, rfl⟩⟩
  · have HB := Lib.hid hb; have HO := Lib.hid hok; clear hb hok hc
    go_wp2_with fail
    go_ret
    exact ⟨below_of (Below.refl _ _) HB.out (Below.refl _ _), .inl ⟨HO.out, rfl⟩⟩
  · have HB := Lib.hid hb; have HO := Lib.hid hbad; clear hb hbad
    go_wp2_with fail
    go_ret
    exact ⟨below_of (Below.refl _ _) HB.out (Below.refl _ _), .inr ⟨HO.out, rfl⟩⟩

/-- What Get answers at a valid node. -/
def getV (W : Nat → Int) (k : Int) : Value :=
  if foundB W k (slotsW W) then .tuple #[.int .u64 (W (16 + (slotsW W).getD (findIdx W k (slotsW W)) 0)), .int .i64 0] else .tuple #[.int .u64 0, .int .i64 5]

theorem found_at (W : Nat → Int) (k : Int) (l : List Nat) (h : foundB W k l = true) : ∃ s, l[findIdx W k l]? = some s ∧ W (4 + s) = k := by
  unfold foundB at h
  split at h
  · rename_i s hs; exact ⟨s, hs, by simpa using h⟩
  · cases h

set_option maxRecDepth 100000 in
set_option maxHeartbeats 1000000 in
theorem get_any (h : NodeAt w v own D j p) (k : Int) : Calls Tryz.prog 18 #[.agg #[.iface 76 (.pointer (some ⟨v.tb j, 0, none⟩)), .int .u64 p], .int .u64 k] w
    (NodePost w (nodeW D p) (D.n * 64) (getV (nodeW D p) k) (.tuple #[.int .u64 0, .int .i64 11])) := by
  have H := Lib.hid h; clear h
  go_enter Tryz.func18, Tryz.ntmps18
  go_wp2_with fail
  (with_reducible refine (H.out.alloc _).read.mono ?_)
  rintro e w1 ⟨hb, ⟨hok, cb, rfl, _, hc⟩ | ⟨hbad, rfl⟩⟩
  · have HB := Lib.hid hb; have HO := Lib.hid hok; have HC : Hid (IsCont w1 cb (nodeW D p) (slotsW (nodeW D p)) ((nodeW D p 0).toNat / 4503599627370496)) := hc; clear hb hok hc
    go_wp2_with fail
    (with_reducible refine (find_any HC.out k).mono ?_)
    rintro e w2 ⟨rfl, q2⟩
    have HC2 := Lib.hid (HC.out.qt q2); have Q2 := Lib.hid q2; clear q2
    have hf : foundB (nodeW D p) k (slotsW (nodeW D p)) = true ∨ foundB (nodeW D p) k (slotsW (nodeW D p)) = false := by cases foundB (nodeW D p) k (slotsW (nodeW D p)) <;> simp
    rcases hf with hf | hf
    · obtain ⟨s, hs, _⟩ := found_at _ _ _ hf
      have hg : getV (nodeW D p) k = .tuple #[.int .u64 (nodeW D p (16 + s)), .int .i64 0] := by unfold getV; rw [if_pos hf]; simp [List.getD, hs]
      have HV := Lib.hid (value_any HC2.out _ s hs)
      have HG := Lib.hid hg
      rw [hf]
      clear hf hs hg
      go_wp2_with fail
      (with_reducible refine HV.out.mono ?_)
      rintro e w3 ⟨rfl, q3⟩
      have Q3 := Lib.hid (Q2.out.trans q3); clear q3
      go_wp2_with fail
      go_ret2
      exact ⟨below_of (Below.refl _ _) HB.out Q3.out.below, .inl ⟨HO.out, by rw [HG.out]; rfl⟩⟩
    · have hg : getV (nodeW D p) k = .tuple #[.int .u64 0, .int .i64 5] := by unfold getV; rw [if_neg (by simp [hf])]
      have HG := Lib.hid hg
      rw [hf]
      clear hf hg
      go_wp2_with fail
      go_ret2
      exact ⟨below_of (Below.refl _ _) HB.out Q2.out.below, .inl ⟨HO.out, by rw [HG.out]; rfl⟩⟩
  · have HB := Lib.hid hb; have HO := Lib.hid hbad; clear hb hbad
    go_wp2_with fail
    go_ret2
    exact ⟨below_of (Below.refl _ _) HB.out (Below.refl _ _), .inr ⟨HO.out, rfl⟩⟩
end
end Go.Proofs.YtgdcjedcinapdaaGreat

/- The walk of PlanPut. -/
namespace Go.Proofs.YtgdcjedcinapdaaGreat
open Go.RowKit

def lineN (o : Nat) : Nat := o - o % 64
def lastC (off : Nat) (x : Int) : List (Nat × Nat × Int) := [(1, off, x), (2, off, 0), (3, 0, 0)]
/-- The program that puts an entry into a free slot s as entry i. -/
def putNew (W : Nat → Int) (off : Nat) (key value : Int) (i s : Nat) : List (Nat × Nat × Int) :=
  [(1, off + 8 * (4 + s), key), (1, off + 8 * (16 + s), value), (2, lineN (off + 8 * (4 + s)), 0)] ++
    (if lineN (off + 8 * (16 + s)) = lineN (off + 8 * (4 + s)) then [] else [(2, lineN (off + 8 * (16 + s)), 0)]) ++ [(3, 0, 0)] ++
    lastC off (ordN ((slotsW W).take i ++ s :: (slotsW W).drop i) ((W 0).toNat / 4503599627370496 + 1) : Nat)
def putP (W : Nat → Int) (off : Nat) (key value : Int) : List (Nat × Nat × Int) × Nat :=
  if W 3 = 1 ∧ W 2 ≤ key then ([], 2)
  else if foundB W key (slotsW W) then (lastC (off + 8 * (16 + (slotsW W).getD (findIdx W key (slotsW W)) 0)) value, 0)
  else if (slotsW W).length = 12 then ([], 4)
  else (putNew W off key value (findIdx W key (slotsW W)) (unusedN (slotsW W)), 0)

/-- A program and an error. -/
def ProgPost (w : World) (l : List (Nat × Nat × Int)) (e : Nat) (r : Ending) (w' : World) : Prop :=
  ∃ pv, r = .returned (.tuple #[pv, .int .i64 e]) ∧ OwnSl w' 110 3 pv l.length (instrC l) ∧ ∀ g, pv.ownBlock = some g → w.heap.size ≤ g
def PlanPost (w : World) (W : Nat → Int) (size : Nat) (l : List (Nat × Nat × Int)) (e : Nat) (r : Ending) (w' : World) : Prop :=
  Below w.heap.size w w' ∧ ((nodeOk W size ∧ ProgPost w l e r w') ∨ (¬ nodeOk W size ∧ r = .returned (.tuple #[.slice none 0 0, .int .i64 11])))

section
variable {w : World} {v : DV} {own : Nat → Option Role} {D : Dev} {j p : Nat}

theorem nilProg (w w' : World) (e : Nat) : ProgPost w [] e (.returned (.tuple #[.slice none 0 0, .int .i64 e])) w' :=
  ⟨_, rfl, OwnSl.nil _ _ _, fun g hg => by simp [Value.ownBlock] at hg⟩


theorem cell_bel {w1 w2 : World} (hb : Below w1.heap.size w1 w2) {b o : Nat} {u : Value} (h : w1.cell? ⟨b, o, none⟩ = some u) : w2.cell? ⟨b, o, none⟩ = some u :=
  (hb.cell (p := ⟨b, o, none⟩) (World.block_lt_of_cell? w1 _ h)).trans h
theorem IsCont.below {w1 w2 : World} {cb : Nat} {W : Nat → Int} {slots : List Nat} {ch : Nat} (h : IsCont w1 cb W slots ch) (hb : Below w1.heap.size w1 w2) : IsCont w2 cb W slots ch :=
  ⟨fun i hi => cell_bel hb (h.words i hi), by obtain ⟨sv, h1, h2⟩ := h.sl; exact ⟨sv, cell_bel hb h1, h2.below hb⟩, cell_bel hb h.ch, h.lt12, h.len,
    by obtain ⟨c, hc⟩ := h.ty; exact ⟨c, hc.below hb⟩, fun sv hsv g hg => by
      obtain ⟨c, hc⟩ := h.ty
      rw [hb.cell (p := ⟨cb, 28, none⟩) hc.lt] at hsv
      obtain ⟨c2, hc2⟩ := h.ty2 sv hsv g hg
      exact ⟨c2, hc2.below hb⟩⟩

/-- The node is read, its content lies at cb; the boxed leaf at w.heap.size. -/
structure PutAt (w : World) (v : DV) (j p cb : Nat) (W : Nat → Int) (w1 : World) : Prop where
  cont : IsCont w1 cb W (slotsW W) ((W 0).toNat / 4503599627370496)
  l0 : w1.cell? ⟨w.heap.size, 0, none⟩ = some (.iface 76 (.pointer (some ⟨v.tb j, 0, none⟩)))
  l1 : w1.cell? ⟨w.heap.size, 1, none⟩ = some (.int .u64 p)
  bel : Below w.heap.size w w1
  lt : w.heap.size < w1.heap.size

theorem PutAt.next {cb : Nat} {W : Nat → Int} {w1 w2 : World} (h : PutAt w v j p cb W w1) (hb : Below w1.heap.size w1 w2) : PutAt w v j p cb W w2 :=
  ⟨h.cont.below hb, cell_bel hb h.l0, cell_bel hb h.l1, h.bel.trans (hb.mono h.bel.size), Nat.lt_of_lt_of_le h.lt hb.size⟩

theorem leafAt_int {w : World} {v : DV} {j : Nat} (p c s : Nat) (ci : Int) (hci : ci = (c : Nat)) (hp : p < 18446744073709551616) (hs : s < 12) (hc : c ≤ 16) :
    Calls Tryz.prog 68 #[.agg #[.iface 76 (.pointer (some ⟨v.tb j, 0, none⟩)), .int .u64 p], .int .i64 (ci + s)] w fun r w' => r = .returned (.int .u64 (ptrOff p + 8 * (c + s) : Nat)) ∧ w.alloc (.cells #[.iface 76 (.pointer (some ⟨v.tb j, 0, none⟩)), .int .u64 p] 35) = w' := by
  have e : ci + s = ((c + s : Nat) : Int) := by omega
  rw [e]
  exact leafAt_any _ p (c + s) hp (by omega) (.inr ⟨_, _, rfl⟩)
theorem below_two (w : World) (o1 o2 : Obj) : Below w.heap.size w ((w.alloc o1).alloc o2).drew :=
  (below_alloc w o1).trans ((below_alloc_drew _ o2).mono (by simp))

/-- The two places of the new entry are known. -/
def PutKV (w : World) (v : DV) (j p cb : Nat) (W : Nat → Int) (s : Nat) (a b : Value) (wx : World) : Prop :=
  a = .int .u64 (ptrOff p + 8 * (4 + s) : Nat) ∧ b = .int .u64 (ptrOff p + 8 * (16 + s) : Nat) ∧ PutAt w v j p cb W wx

/-- The program so far, behind the world wc. -/
def PAt (wc : World) (l : List (Nat × Nat × Int)) (pv : Value) (wx : World) : Prop :=
  OwnSl wx 110 3 pv l.length (instrC l) ∧ Below wc.heap.size wc wx ∧ ∀ g, pv.ownBlock = some g → wc.heap.size ≤ g
theorem PAt.start (wc : World) (l : List (Nat × Nat × Int)) (hl : l.length < 1000) :
    PAt wc l (.slice (some ⟨wc.heap.size, 0, none⟩) l.length l.length) (wc.alloc (.cells (instrC l).toArray 110)) := by
  have h := OwnSl.new wc (instrC l).toArray 110 3 l.length l.length (by simp [instrC_length]) (Nat.le_refl _) (by unfold maxLen; omega)
  rw [List.take_of_length_le (by simp [instrC_length])] at h
  exact ⟨h, below_alloc _ _, fun g hg => by simp [Value.ownBlock] at hg; omega⟩

theorem OwnSl.below {w w' : World} {e : TypeId} {size n : Nat} {v : Value} {xs : List Value} (h : OwnSl w e size v n xs) (hb : Below w.heap.size w w') : OwnSl w' e size v n xs := h.kept (fun k hk => hb.block k (h.lt k hk))
theorem PAt.keep2 {w4 w6 w6' w7 : World} {l : List (Nat × Nat × Int)} {pv : Value} (h : PAt w4 l pv w6) (h2 : Below w6'.heap.size w6' w7) (h1 : Below w6.heap.size w6 w6') : PAt w4 l pv w7 := by
  have hb := h1.trans (h2.mono h1.size)
  exact ⟨h.1.below hb, h.2.1.trans (hb.mono h.2.1.size), h.2.2⟩
theorem below_drew_alloc (w : World) (o : Obj) : Below w.heap.size w (w.drew.alloc o) := (Below.refl _ _).drew.alloc (Nat.le_refl _) _
theorem PutAt.four {cb : Nat} {W : Nat → Int} {w4 wx : World} {sv : Value} (h : PutAt w v j p cb W w4) (h28 : w4.cell? ⟨cb, 28, none⟩ = some sv) (hb : Below w4.heap.size w4 wx) :
    wx.cell? ⟨w.heap.size, 0, none⟩ = some (.iface 76 (.pointer (some ⟨v.tb j, 0, none⟩))) ∧ wx.cell? ⟨w.heap.size, 1, none⟩ = some (.int .u64 p) ∧ wx.cell? ⟨cb, 28, none⟩ = some sv ∧ wx.cell? ⟨cb, 29, none⟩ = some (.int .u64 ((W 0).toNat / 4503599627370496 : Nat)) :=
  ⟨cell_bel hb h.l0, cell_bel hb h.l1, cell_bel hb h28, cell_bel hb h.cont.ch⟩
theorem leafAt_zero {w : World} {v : DV} {j : Nat} (p : Nat) (hp : p < 18446744073709551616) :
    Calls Tryz.prog 68 #[.agg #[.iface 76 (.pointer (some ⟨v.tb j, 0, none⟩)), .int .u64 p], .int .i64 0] w fun r w' => r = .returned (.int .u64 (ptrOff p : Nat)) ∧ w.alloc (.cells #[.iface 76 (.pointer (some ⟨v.tb j, 0, none⟩)), .int .u64 p] 35) = w' :=
  leafAt_any _ p 0 hp (by omega) (.inr ⟨_, _, rfl⟩)
theorem order_next {w : World} (nv : Value) (slots : List Nat) (i s ch : Nat) (hl : slots.length < 12) (hs : s < 12) (h12 : ∀ s ∈ slots, s < 12) (hch : ch < 4096)
    (h : OwnSl w 3 1 nv (slots.take i ++ s :: slots.drop i).length (natsI (slots.take i ++ s :: slots.drop i))) :
    Calls Tryz.prog 71 #[nv, .int .u64 ((ch : Int) + 1)] w fun r w' => r = .returned (.int .u64 (ordN (slots.take i ++ s :: slots.drop i) (ch + 1) : Nat)) ∧ w = w' := by
  rw [show (ch : Int) + 1 = ((ch + 1 : Nat) : Int) by omega]
  refine order_any nv _ (ch + 1) h.rd (by simp; omega) (fun t ht => ?_) (by omega)
  rcases List.mem_append.1 ht with h1 | h1
  · have := h12 t (List.mem_of_mem_take h1); omega
  · rcases List.mem_cons.1 h1 with h1 | h1
    · omega
    · have := h12 t (List.mem_of_mem_drop h1); omega
theorem commitP {w4 w8 : World} (pv : Value) (l : List (Nat × Nat × Int)) (off : Nat) (x : Int) (hl : l.length ≤ 100000) (h : PAt w4 l pv w8) :
    Calls Tryz.prog 67 #[pv, .int .u64 off, .int .u64 x] w8 fun r w9 => ∃ v9, r = .returned v9 ∧ PAt w4 (l ++ lastC off x) v9 w9 := by
  refine (commit_any pv l off x h.1 hl).mono ?_
  rintro e w9 ⟨v9, rfl, o, ha, hu⟩
  refine ⟨v9, rfl, o, ⟨hu.os.trans h.2.1.os, hu.tape.trans h.2.1.tape, hu.output.trans h.2.1.output, Nat.le_trans h.2.1.size hu.size, fun k hk => ?_⟩, fun g hg => ?_⟩
  · rw [hu.block k (Nat.lt_of_lt_of_le hk h.2.1.size) (fun hk2 => by have := h.2.2 k hk2; omega)]; exact h.2.1.block k hk
  · rcases ha with ha | ⟨g2, ha, hg2⟩
    · rw [ownBlock_addr, ha, ← ownBlock_addr] at hg; exact h.2.2 g hg
    · rw [ownBlock_addr, ha] at hg; cases hg; exact Nat.le_trans h.2.1.size hg2

theorem put_end {w4 w9 : World} {v9 : Value} {l l2 : List (Nat × Nat × Int)} (hb : Below w.heap.size w w4) (h : PAt w4 l v9 w9) (he : l = l2) : Below w.heap.size w w9 ∧ ProgPost w l2 0 (.returned (.tuple #[v9, .int .i64 0])) w9 := by
  subst he
  exact ⟨hb.trans (h.2.1.mono hb.size), v9, rfl, h.1, fun g hg => Nat.le_trans hb.size (h.2.2 g hg)⟩

set_option maxRecDepth 100000 in
set_option maxHeartbeats 2000000 in
theorem planPut_new (h : NodeAt w v own D j p) (key value : Int) (hok : nodeOk (nodeW D p) (D.n * 64)) (hnr : ¬ (nodeW D p 3 = 1 ∧ nodeW D p 2 ≤ key)) (hnf : foundB (nodeW D p) key (slotsW (nodeW D p)) = false)
    (hlen : (slotsW (nodeW D p)).length < 12) : Calls Tryz.prog 19 #[.agg #[.iface 76 (.pointer (some ⟨v.tb j, 0, none⟩)), .int .u64 p], .int .u64 key, .int .u64 value] w
    fun r w' => Below w.heap.size w w' ∧ ProgPost w (putNew (nodeW D p) (ptrOff p) key value (findIdx (nodeW D p) key (slotsW (nodeW D p))) (unusedN (slotsW (nodeW D p)))) 0 r w' := by
  have H := Lib.hid h; clear h
  have hp := H.out.hp
  have hrd := (H.out.alloc (.cells #[.iface 76 (.pointer (some ⟨v.tb j, 0, none⟩)), .int .u64 p] 35)).read
  have hx0 : (nodeW D p 0).toNat < 18446744073709551616 := by have := H.out.hW 0 (by omega); omega
  have ho : ptrOff p ≤ 34359738360 := by unfold ptrOff; omega
  generalize nodeW D p = W at *
  have HR := Lib.hid hrd; have HO := Lib.hid hok; have HNR := Lib.hid hnr; have HNF := Lib.hid hnf; clear hrd hok hnr hnf
  have hn12 : (((slotsW W).length : Int) == 12) = false := by simp; omega
  go_enter Tryz.func19, Tryz.ntmps19
  go_wp2_with fail
  (with_reducible refine HR.out.mono ?_)
  rintro e w1 ⟨hb, ⟨_, cb, rfl, hcb, hc⟩ | ⟨hbad, rfl⟩⟩
  · have A1 : PutAt w v j p cb W w1 := ⟨hc, cell_bel hb ((Blk.new w _ 35).cell rfl), cell_bel hb ((Blk.new w _ 35).cell rfl), (below_alloc w _).trans (hb.mono (by simp)), by have := hb.size; simp at this; omega⟩
    have HA := Lib.hid A1
    have c3 := hc.words 3 (by omega); have c2 := hc.words 2 (by omega)
    clear hb hc A1 HR
    have hcase : (W 3 == 1) = true ∧ ¬ W 2 ≤ key ∨ (W 3 == 1) = false := by
      by_cases h : W 3 = 1
      · exact .inl ⟨by simp [h], fun h' => HNR.out ⟨h, h'⟩⟩
      · exact .inr (by simp [h])
    rcases hcase with ⟨e3, e2⟩ | e3
    all_goals
      go_wp2_with fail
      (with_reducible refine (find_any HA.out.cont key).mono ?_)
      rintro e w2 ⟨rfl, q2⟩
      have HA2 := Lib.hid (HA.out.next q2.below)
      rw [HNF.out]
      clear e3 c3 c2 q2 HA
      have l0 := HA2.out.l0; have l1 := HA2.out.l1
      obtain ⟨sv, c28, hsv⟩ := HA2.out.cont.sl
      obtain ⟨sa, sc, rfl⟩ : ∃ a c, sv = .slice a (slotsW W).length c := by obtain ⟨_, a, c, e, _⟩ := hsv; exact ⟨a, c, e⟩
      have HSV := Lib.hid hsv; clear hsv
      have hun := unused_any (w := w2) _ _ HSV.out HA2.out.cont.lt12 hlen
      have HU := Lib.hid hun; clear hun
      go_wp2_with fail
      (with_reducible refine HU.out.mono ?_)
      rintro e w3 ⟨rfl, hs12, hsn, hb3⟩
      have HA3 := Lib.hid (HA2.out.next hb3)
      clear HU hb3 l0 l1 c28 HSV HA2
      generalize hsd : unusedN (slotsW W) = s at *
      generalize hid : findIdx W key (slotsW W) = idx at *
      have Hsd := Lib.hid hsd; have Hid2 := Lib.hid hid; clear hsd hid
      have l0 := HA3.out.l0; have l1 := HA3.out.l1
      go_wp2_with fail
      have y1 : IntKind.i64.wrap (4 + (s : Int)) = 4 + (s : Int) := IntWalk.i64_in _ (by omega)
      have y2 : IntKind.i64.wrap (16 + (s : Int)) = 16 + (s : Int) := IntWalk.i64_in _ (by omega)
      have L4 := Lib.hid (fun wx => leafAt_int (w := wx) (v := v) (j := j) p 4 s 4 rfl hp hs12 (by omega))
      have L16 := Lib.hid (fun wx => leafAt_int (w := wx) (v := v) (j := j) p 16 s 16 rfl hp hs12 (by omega))
      have lt3 := HA3.out.lt
      have ne3 : w.heap.size ≠ w3.heap.size := by omega
      go_cut [13, 14] (PutKV w v j p cb W s)
      case first =>
        go_region_with (first | (go_at_call 68; (with_reducible refine (L4.out _).mono ?_); rintro e w' ⟨rfl, rfl⟩) | (go_at_call 68; (with_reducible refine (L16.out _).mono ?_); rintro e w' ⟨rfl, rfl⟩))
        all_goals go_wp2_with fail
        all_goals go_meet
        all_goals exact ⟨rfl, rfl, HA3.out.next (below_two _ _ _)⟩
      case rest =>
        obtain ⟨rfl, rfl, hA4⟩ := hcut
        clear l0 l1 HA3 L4 L16 y1 y2
        have HA4 := Lib.hid hA4; clear hA4 lt3 ne3
        obtain ⟨w4, hw4⟩ : ∃ x, x = wc := ⟨_, rfl⟩
        subst hw4
        generalize hkd : ptrOff p + 8 * (4 + s) = k at *
        generalize hvd : ptrOff p + 8 * (16 + s) = vv at *
        have hkb : k < 18446744073709551616 := by omega
        have hvb : vv < 18446744073709551616 := by omega
        have Hkd := Lib.hid hkd; have Hvd := Lib.hid hvd; clear hkd hvd
        have hcase2 : ((vv - vv % 64 : Nat) : Int) = ((k - k % 64 : Nat) : Int) ∨ ((vv - vv % 64 : Nat) : Int) ≠ ((k - k % 64 : Nat) : Int) := by omega
        generalize hlk : k - k % 64 = lk at *
        generalize hlv : vv - vv % 64 = lv at *
        have LK := Lib.hid (fun wx => lineOf_any (w := wx) k hkb)
        have LV := Lib.hid (fun wx => lineOf_any (w := wx) vv hvb)
        rw [hlk] at LK; rw [hlv] at LV
        have Hlk := Lib.hid hlk; have Hlv := Lib.hid hlv; clear hlk hlv
        obtain ⟨i0, hi0, hz0, hz1, hz2⟩ := info_parts infoInstr
        have I := Lib.hid (And.intro hi0 (And.intro hz0 (And.intro hz1 hz2))); clear hi0 hz0 hz1 hz2
        go_upto_region 13 with fail
        go_cut [15] (PAt w4 [(1, k, key), (1, vv, value), (2, lk, 0)])
        case first =>
          go_wp2_with (go_at_call 70; (with_reducible refine (LK.out _).mono ?_); rintro e w' ⟨rfl, rfl⟩)
          go_meet
          exact PAt.start _ [(1, k, key), (1, vv, value), (2, lk, 0)] (by simp)
        case rest =>
        obtain ⟨pa, pc, rfl⟩ := hcut.1.slice
        have O1 := Lib.hid hcut; clear hcut
        go_upto_if 91 with (first | (go_at_call 70; (with_reducible refine (LK.out _).mono ?_); rintro e w' ⟨rfl, rfl⟩) | (go_at_call 70; (with_reducible refine (LV.out _).mono ?_); rintro e w' ⟨rfl, rfl⟩))
        go_cut [15] (PAt w4 ([(1, k, key), (1, vv, value), (2, lk, 0)] ++ if lv = lk then [] else [(2, lv, 0)]))
        case first =>
          rcases hcase2 with hc2 | hc2
          · go_wp2_with fail
            go_meet
            rw [if_pos (by omega), List.append_nil]; exact O1.out
          · go_wp2_with (first | (go_at_call 70; (with_reducible refine (LV.out _).mono ?_); rintro e w' ⟨rfl, rfl⟩) | (at_builtin; refine wpList_append_sl _ rfl _ _ 53 rfl 110 i0 _ 3 24 Tryz.underlying53 I.out.1 I.out.2.1 I.out.2.2.1 I.out.2.2.2 rfl (by decide) _ 3 (instrC [(1, k, key), (1, vv, value), (2, lk, 0)]) rfl (by exact O1.out.1.alloc _) _ 1 (instrC [(2, lv, 0)]) rfl (by exact RdSl.newAt _ _ _ 3 1 _ rfl rfl) (instrC_one _) (by unfold maxLen; omega) (by omega) ?_))
            intro v1 w1 o1 g1 b1 n1
            have O2 := Lib.hid (And.intro o1 (own_chain O1.out.2 (below_alloc _ _) g1 b1 (by have := O1.out.2.1.size; simp; omega))); clear o1 g1 b1 n1
            go_wp2_with fail
            go_meet
            rw [if_neg (by omega)]; exact O2.out
        case rest =>
        clear hcase2 LK LV O1
        generalize hL : [(1, k, key), (1, vv, value), (2, lk, 0)] ++ (if lv = lk then [] else [(2, lv, 0)]) = L at *
        have hLl : L.length ≤ 4 := by rw [← hL]; split <;> simp
        have HL := Lib.hid hL; clear hL
        obtain ⟨pa2, pc2, hpv⟩ := hcut.1.slice
        subst hpv
        have O2 := Lib.hid hcut; clear hcut
        go_upto_region 16 with fail
        go_cut [15] (PAt w4 (L ++ [(3, 0, 0)]))
        case first =>
          go_wp2_with (at_builtin; refine wpList_append_sl _ rfl _ _ 53 rfl 110 i0 _ 3 24 Tryz.underlying53 I.out.1 I.out.2.1 I.out.2.2.1 I.out.2.2.2 rfl (by decide) _ L.length (instrC L) rfl (by exact O2.out.1.alloc _) _ 1 (instrC [(3, 0, 0)]) rfl (by exact RdSl.newAt _ _ _ 3 1 _ rfl rfl) (instrC_one _) (by unfold maxLen; omega) (by omega) ?_)
          intro v1 w1 o1 g1 b1 n1
          have O3 := Lib.hid (And.intro o1 (own_chain O2.out.2 (below_alloc _ _) g1 b1 (by have := O2.out.2.1.size; simp; omega))); clear o1 g1 b1 n1
          go_wp2_with fail
          go_meet
          exact ⟨by rw [instrC_append, List.length_append]; exact O3.out.1, O3.out.2⟩
        case rest =>
        clear O2
        obtain ⟨pa3, pc3, hpv⟩ := hcut.1.slice
        subst hpv
        have O3 := Lib.hid hcut; clear hcut
        go_upto_region 17 with fail
        obtain ⟨w6, hw6⟩ : ∃ x, x = wc := ⟨_, rfl⟩
        subst hw6
        obtain ⟨sv, c28, hsv⟩ := HA4.out.cont.sl
        obtain ⟨sa, sc, rfl⟩ : ∃ a c, sv = .slice a (slotsW W).length c := by obtain ⟨_, a, c, e, _⟩ := hsv; exact ⟨a, c, e⟩
        have HSV := Lib.hid (hsv.below (O3.out.2.1)); clear hsv
        have hlt12 := HA4.out.cont.lt12
        have hidx : idx ≤ (slotsW W).length := by rw [← Hid2.out]; exact findIdx_le _ _ _
        have K4 := Lib.hid (fun wx hx => PutAt.four HA4.out c28 (wx := wx) hx)
        have hbase := HA4.out.bel
        generalize hch : (W 0).toNat / 4503599627370496 = ch at *
        have hch4 : ch < 4096 := by omega
        have y1 : IntKind.u64.wrap ((ch : Int) + 1) = (ch : Int) + 1 := by rw [IntKind.wrap_u64]; omega
        have ORD := Lib.hid (fun wx nv => order_next (w := wx) nv (slotsW W) idx s ch hlen hs12 hlt12 hch4)
        have CM := Lib.hid (fun wx => commitP (w4 := w4) (w8 := wx) (.slice pa3 (L ++ [(3, 0, 0)]).length pc3) (L ++ [(3, 0, 0)]) (ptrOff p) (ordN ((slotsW W).take idx ++ s :: (slotsW W).drop idx) (ch + 1) : Nat) (by simp; omega))
        have L0 := Lib.hid (fun wx => leafAt_zero (w := wx) (v := v) (j := j) p hp)
        have Hch := Lib.hid hch; have HX := Lib.hid (And.intro hx0 (And.intro hch4 hlt12)); have HB := Lib.hid hbase; have HI := Lib.hid hidx
        clear hch hx0 hch4 hlt12 hbase hidx c28 HA4
        generalize hnl : (L ++ [(3, 0, 0)]).length = nl at *
        have Hnl := Lib.hid hnl; clear hnl
        go_region_held3 (fun wx => wx.cell? ⟨w.heap.size, 0, none⟩ = some (.iface 76 (.pointer (some ⟨v.tb j, 0, none⟩))) ∧ wx.cell? ⟨w.heap.size, 1, none⟩ = some (.int .u64 p) ∧ wx.cell? ⟨cb, 28, none⟩ = some (.slice sa (slotsW W).length sc) ∧ wx.cell? ⟨cb, 29, none⟩ = some (.int .u64 ch))
          (first | exact K4.out _ P9.out.2.1 | exact K4.out _ P7.out.2.1 | exact K4.out _ (O3.out.2.1.drew) | exact K4.out _ ((O3.out.2.1.alloc O3.out.2.1.size _).drew) | exact K4.out _ (O3.out.2.1.drew.alloc O3.out.2.1.size _))
          (first | (go_at_call 68; (with_reducible refine (L0.out _).mono ?_); rintro e w' ⟨rfl, rfl⟩) | (go_at_call 72; (with_reducible refine (inserted_any _ (slotsW W) idx s (by first | exact (HSV.out.alloc _).drew | exact HSV.out.drew.alloc _) HI.out (by omega)).mono ?_); rintro e w7 ⟨nv, rfl, n1, n2, n3⟩; have P7 := Lib.hid (PAt.keep2 O3.out n3 (by first | exact below_alloc_drew _ _ | exact below_drew_alloc _ _)); have N := Lib.hid n1; clear n1 n2 n3) | (go_at_call 71; (with_reducible refine (ORD.out _ _ N.out).mono ?_); rintro e w' ⟨rfl, rfl⟩) | (go_at_call 67; (with_reducible refine (CM.out _ (by exact P7.out)).mono ?_); rintro e w9 ⟨v9, rfl, q9⟩; have P9 := Lib.hid q9; clear q9))
        all_goals go_wp2_with fail
        go_ret2
        exact put_end HB.out P9.out (by rw [← HL.out, ← Hlk.out, ← Hlv.out, ← Hkd.out, ← Hvd.out, ← Hch.out, ← Hid2.out, ← Hsd.out]; rfl)
  · exact absurd HO.out hbad
end
end Go.Proofs.YtgdcjedcinapdaaGreat

/- slices.Repeat of one word, 28 times. -/
namespace Go.Proofs.YtgdcjedcinapdaaGreat
open Go.RowKit

def rep28 (y : Int) (k : Nat) : List Value := List.replicate k (.int .u64 y) ++ List.replicate (28 - k) (.int .u64 0)
theorem rep28_len (y : Int) (k : Nat) (hk : k ≤ 28) : (rep28 y k).length = 28 := by simp [rep28]; omega
theorem rep28_splice (y : Int) (k m : Nat) (hm : k + m ≤ 28) : splice (rep28 y k) k (List.replicate m (.int .u64 y)) = rep28 y (k + m) := by
  unfold splice rep28
  rw [List.take_left' (by simp), List.length_replicate, ← List.append_assoc]
  have e1 : List.drop (k + m) (List.replicate k (Value.int .u64 y) ++ List.replicate (28 - k) (.int .u64 0)) = List.replicate (28 - (k + m)) (.int .u64 0) := by
    rw [List.drop_append, List.drop_of_length_le (by simp), List.length_replicate, List.drop_replicate, List.nil_append]; congr 1; omega
  rw [List.append_assoc, e1, ← List.append_assoc, List.replicate_append_replicate]
theorem rep28_made (y : Int) : (madeCells #[.int .u64 0] 28) = (rep28 y 0).toArray := by
  refine Array.ext' (List.ext_getElem? fun i => ?_)
  by_cases h : i < 28
  · have e : (madeCells #[Value.int .u64 0] 28).toList[i]? = some (.int .u64 0) := by simp [madeCells, h, Nat.mod_one]
    have e2 : (rep28 y 0).toArray.toList[i]? = some (.int .u64 0) := by
      show (List.replicate 0 (Value.int .u64 y) ++ List.replicate (28 - 0) (Value.int .u64 0))[i]? = _
      rw [List.replicate_zero, List.nil_append, List.getElem?_replicate, if_pos h]
    rw [e, e2]
  · simp [madeCells, rep28, h]
theorem sizeU64 : (Tryz.prog.info? 28).map (·.size) = some 1 := by kernel_rfl
theorem rep28_at (y : Int) (k j : Nat) (hj : j < k) (_hk : k ≤ 28) : (rep28 y k)[j]? = some (.int .u64 y) := by simp [rep28, List.getElem?_append, hj]
theorem rep_one (y : Int) (m : Nat) : ∀ v ∈ List.replicate m (Value.int .u64 y), v.oneCell' = true := fun v hv => by rw [List.eq_of_mem_replicate hv]; rfl

section
variable {w : World}
def RepMid (w : World) (y : Int) (g k : Nat) (wr : World) : Prop := Blk wr g (rep28 y k).toArray 28 ∧ Below w.heap.size w wr
/-- copy into a row that the call made. -/
theorem copy_eq (W : World) (g o dLen dCap : Nat) (ad : Addr) (sLen sCap : Nat) (cur : List Value) (cs : List Value) (hg : Blk W g cur.toArray 28) (hn : cs.length = Nat.min sLen dLen) (hsrc : ∀ j v, cs[j]? = some v → W.cell? (ad.add j) = some v)
    (hfit : o + cs.length ≤ cur.length) (h1 : ∀ v ∈ cs, v.oneCell' = true) :
    ∃ w1, (Builtin.copy_ #[23, 23] 3 #[.slice (some ⟨g, o, none⟩) dLen dCap, .slice (some ad) sLen sCap]).run Tryz.prog W = .ok (.int .i64 cs.length) w1 ∧ Blk w1 g (splice cur o cs).toArray 28 ∧ ∀ B w0, Below B w0 W → B ≤ g → Below B w0 w1 := by
  refine ⟨_, run_copy_row (P := Tryz.prog) W 23 23 3 28 g o dLen dCap ad sLen sCap cur.toArray 28 cs Tryz.underlying23 sizeU64 hg hn hsrc (by simpa using hfit) h1, ?_, fun B w0 hb hB => below_setRow hb hB _⟩
  have := setRow_heap W g _ (cur.take o ++ cs ++ cur.drop (o + cs.length)).toArray 28 _ hg
  unfold splice; rw [← List.append_assoc]; exact this

set_option maxRecDepth 100000 in
set_option maxHeartbeats 2000000 in
theorem repeat_any (b : Nat) (y : Int) (hb : w.cell? ⟨b, 0, none⟩ = some (.int .u64 y)) :
    Calls Tryz.prog 50 #[.slice (some ⟨b, 0, none⟩) 1 1, .int .i64 28] w fun r w' => r = .returned (.slice (some ⟨w.heap.size, 0, none⟩) 28 28) ∧ RepMid w y w.heap.size 28 w' := by
  have hbl := World.block_lt_of_cell? w _ hb
  have hmk := mk28
  have hM : Calls Tryz.prog 92 #[.int .u64 1, .int .u64 28] w fun e w' => e = .returned (.tuple #[.int .u64 0, .int .u64 28]) ∧ w = w' := (Tryz.bits_Mul 1 28 (by omega) (by omega) w).mono fun _ _ h => ⟨h.1, h.2.symm⟩
  have HM := Lib.hid hM; clear hM
  go_enter Tryz.func50, Tryz.ntmps50
  go_wp2_with fail
  (with_reducible refine HM.out.mono ?_)
  rintro e w' ⟨rfl, rfl⟩
  have B0 : Blk (w.alloc (.cells (madeCells #[.int .u64 0] 28) 28)) w.heap.size (rep28 y 0).toArray 28 := by have := Blk.new w (madeCells #[.int .u64 0] 28) 28; rw [rep28_made y] at this ⊢; exact this
  have C0 : (w.alloc (.cells (madeCells #[.int .u64 0] 28) 28)).cell? ⟨b, 0, none⟩ = some (.int .u64 y) := cell_bel (below_alloc w _) hb
  obtain ⟨w1, hc1, k1, b1⟩ := copy_eq (w.alloc (.cells (madeCells #[.int .u64 0] 28) 28)) w.heap.size 0 28 28 ⟨b, 0, none⟩ 1 1 (rep28 y 0) (List.replicate 1 (.int .u64 y)) B0 rfl
    (fun j v hj => by
      have : j = 0 := by rcases Nat.eq_zero_or_pos j with h | h; exact h; rw [List.getElem?_eq_none (by simp; omega)] at hj; cases hj
      subst this; simp at hj; subst hj; exact C0) (by rw [rep28_len _ _ (by omega), List.length_replicate]; omega) (rep_one y 1)
  rw [rep28_splice y 0 1 (by omega)] at k1
  rw [List.length_replicate, show ((1 : Nat) : Int) = 1 from rfl] at hc1
  have K1 := Lib.hid (And.intro k1 (b1 _ _ (below_alloc w _) (Nat.le_refl _)))
  clear hb HM B0 C0 k1 b1
  go_wp2_with fail
  clear hc1
  go_loopw [8] (fun x wr => ∃ k : Nat, 1 ≤ k ∧ k ≤ 28 ∧ x = .int .i64 k ∧ RepMid w y w.heap.size k wr) (fun x _ => 28 - (intOf x).toNat)
  case atStart => exact ⟨1, by omega, by omega, rfl, K1.out⟩
  case round =>
    obtain ⟨k, h1, h2, rfl, hm1, hm2⟩ := hrel
    have M := Lib.hid (And.intro hm1 hm2)
    clear K1
    by_cases hlt : k < 28
    · have i1 : (0 : Int) ≤ k := by omega
      have i2 : (k : Int) ≤ 28 := by omega
      have i3 : ¬ 28 = k := by omega
      clear hm1 hm2
      go_wp2_with fail
      obtain ⟨mm, hmd⟩ : ∃ mm, mm = min k (28 - k) := ⟨_, rfl⟩
      have hm1 : mm ≤ k := by omega
      have hm2 : k + mm ≤ 28 := by omega
      have hm3 : 0 < mm := by omega
      obtain ⟨w2, hc2, k2, b2⟩ := copy_eq wr.drew w.heap.size k (28 - k) (28 - k) ⟨w.heap.size, 0, none⟩ k 28 (rep28 y k) (List.replicate mm (.int .u64 y)) M.out.1 (by rw [List.length_replicate, hmd])
        (fun j v hj => by
          have hj' : j < mm := by
            rcases Nat.lt_or_ge j mm with h | h
            · exact h
            · rw [List.getElem?_eq_none (by simpa using h)] at hj; cases hj
          have : v = .int .u64 y := List.eq_of_mem_replicate (List.mem_of_getElem? hj)
          subst this
          rw [Addr.add_lit, Nat.zero_add]
          exact M.out.1.cell (by simpa using rep28_at y k j (by omega) (by omega))) (by rw [rep28_len _ _ (by omega), List.length_replicate]; omega) (rep_one y _)
      rw [rep28_splice y k _ (by omega)] at k2
      rw [List.length_replicate] at hc2
      clear hmd
      have K2 := Lib.hid (And.intro k2 (b2 w.heap.size w ⟨M.out.2.os, M.out.2.tape, M.out.2.output, M.out.2.size, M.out.2.block⟩ (Nat.le_refl _)))
      clear k2 b2
      have i4 : IntKind.i64.wrap ((k : Int) + (mm : Int)) = (k : Int) + (mm : Int) := IntWalk.i64_in _ (by omega)
      go_region
      all_goals go_wp2_with fail
      go_roundw
      case rel => exact ⟨k + mm, by omega, by omega, by go_num, K2.out⟩
      case measure => simp [intOf]; omega
    · obtain rfl : k = 28 := by omega
      clear hm1 hm2
      rw [show ((28 : Nat) : Int) = 28 from rfl]
      go_wp2_with fail
      go_ret
      exact ⟨rfl, M.out⟩
end
end Go.Proofs.YtgdcjedcinapdaaGreat
