/- The walks of unused, lineOf and commit. -/
import Derived.Test.YtkoijmoendepgaaLeafI
namespace Go.Proofs.Ytkoijmoendepgaa
open Go.RowKit

/-- Instructions as cells. -/
def instrC (l : List (Nat × Nat × Int)) : List Value := l.flatMap fun e => [.int .u8 e.1, .int .u64 e.2.1, .int .u64 e.2.2]
theorem instrC_append (a b : List (Nat × Nat × Int)) : instrC (a ++ b) = instrC a ++ instrC b := by simp [instrC]
theorem instrC_length (l : List (Nat × Nat × Int)) : (instrC l).length = l.length * 3 := by
  induction l with
  | nil => rfl
  | cons e l ih => simp [instrC] at *; omega
theorem instrC_one (l : List (Nat × Nat × Int)) : ∀ u ∈ instrC l, u.oneCell' = true := by
  intro u hu
  simp [instrC] at hu
  obtain ⟨a, b, c, _, rfl | rfl | rfl⟩ := hu <;> rfl

/-- The lowest slot, from s on, that is not taken. -/
def unusedFrom (slots : List Nat) : Nat → Nat → Nat
  | 0, s => s
  | f + 1, s => if s ∈ slots then unusedFrom slots f (s + 1) else s
def unusedN (slots : List Nat) : Nat := unusedFrom slots 13 0
theorem unusedFrom_spec (slots : List Nat) (f : Nat) (h1 : f ∉ slots) : ∀ (n s : Nat), s ≤ f → f < s + n → (∀ t, s ≤ t → t < f → t ∈ slots) → unusedFrom slots n s = f := by
  intro n
  induction n with
  | zero => intro s h2 h3; omega
  | succ n ih =>
    intro s h2 h3 h4
    unfold unusedFrom
    by_cases e : s = f
    · subst e; rw [if_neg h1]
    · rw [if_pos (h4 s (Nat.le_refl _) (by omega))]
      exact ih (s + 1) (by omega) (by omega) (fun t h5 h6 => h4 t (by omega) h6)
theorem unusedN_spec (slots : List Nat) (f : Nat) (hf : f < 13) (h1 : f ∉ slots) (h2 : ∀ s, s < f → s ∈ slots) : unusedN slots = f :=
  unusedFrom_spec slots f h1 13 0 (by omega) (by omega) (fun t _ h => h2 t h)

theorem pigeon (n : Nat) : ∀ l : List Nat, (∀ s, s < n → s ∈ l) → n ≤ l.length := by
  induction n with
  | zero => intro l _; omega
  | succ n ih =>
    intro l h
    have h1 := h n (by omega)
    have h2 := ih (l.erase n) (fun s hs => (List.mem_erase_of_ne (by omega)).2 (h s (by omega)))
    rw [List.length_erase_of_mem h1] at h2
    have := List.length_pos_of_mem h1
    omega
theorem least_out (l : List Nat) : ∀ n, (∃ f, f < n ∧ f ∉ l) → ∃ f, f < n ∧ f ∉ l ∧ ∀ s, s < f → s ∈ l := by
  intro n
  induction n with
  | zero => rintro ⟨f, h, _⟩; omega
  | succ n ih =>
    intro h
    by_cases h' : ∃ f, f < n ∧ f ∉ l
    · obtain ⟨f, h1, h2⟩ := ih h'; exact ⟨f, by omega, h2⟩
    · obtain ⟨f, h1, h2⟩ := h
      refine ⟨f, h1, h2, fun s hs => ?_⟩
      exact Classical.byContradiction (fun h3 => h' ⟨s, by omega, h3⟩)
theorem free_slot (l : List Nat) (n : Nat) (h : l.length < n) : ∃ f, f < n ∧ f ∉ l ∧ ∀ s, s < f → s ∈ l :=
  least_out l n (Classical.byContradiction (fun h' => by
    have := pigeon n l (fun s hs => Classical.byContradiction (fun h3 => h' ⟨s, hs, h3⟩)); omega))

theorem infoInstr : (Try.prog.info? 104).map (fun i => (i.zero, i.size, i.bytes)) = some (some (.agg #[.int .u8 0, .int .u64 0, .int .u64 0]), 3, 24) := by kernel_rfl

section
variable {w : World}

set_option maxRecDepth 100000 in
set_option maxHeartbeats 1000000 in
theorem lineOf_any (off : Nat) (ho : off < 18446744073709551616) : Calls Try.prog 56 #[.int .u64 off] w fun r w' => r = .returned (.int .u64 (off - off % 64 : Nat)) ∧ w = w' := by
  have h1 : (off : Int) % 64 ≤ off := by omega
  go_enter Try.func56, Try.ntmps56
  go_wp2
  go_ret
  exact ⟨ret_int (by first | omega | (rw [IntKind.wrap_u64]; omega)), rfl⟩

/-- A program slice of the call's own, at its end. -/
def NewProg (w : World) (pv : Value) (l : List (Nat × Nat × Int)) (r : Ending) (w' : World) : Prop :=
  ∃ v, r = .returned v ∧ OwnSl w' 104 3 v l.length (instrC l) ∧ (slAddr v = slAddr pv ∨ ∃ g, slAddr v = some ⟨g, 0, none⟩ ∧ w.heap.size ≤ g) ∧ Upd (fun k => pv.ownBlock = some k) w w'

set_option maxRecDepth 100000 in
set_option maxHeartbeats 1000000 in
theorem commit_any (pv : Value) (l : List (Nat × Nat × Int)) (off : Nat) (x : Int) (hp : OwnSl w 104 3 pv l.length (instrC l)) (hl : l.length ≤ 100000) :
    Calls Try.prog 53 #[pv, .int .u64 off, .int .u64 x] w (NewProg w pv (l ++ [(1, off, x), (2, off, 0), (3, 0, 0)])) := by
  obtain ⟨i0, hi0, hz0, hz1, hz2⟩ := info_parts infoInstr
  have I := Lib.hid (And.intro hi0 (And.intro hz0 (And.intro hz1 hz2))); clear hi0 hz0 hz1 hz2
  obtain ⟨pa, pc, hpv⟩ := hp.slice
  subst hpv
  have HP := Lib.hid hp; clear hp
  go_enter Try.func53, Try.ntmps53
  go_wp2_with (at_builtin; refine wpList_append_sl _ rfl _ _ 52 rfl 104 i0 _ 3 24 Try.underlying52 I.out.1 I.out.2.1 I.out.2.2.1 I.out.2.2.2 rfl (by decide) _ l.length (instrC l) rfl (by exact HP.out.alloc _) _ 3 (instrC [(1, off, x), (2, off, 0), (3, 0, 0)]) rfl (by exact RdSl.newAt _ _ _ 3 3 _ rfl rfl) (instrC_one _) (by unfold maxLen; omega) (by omega) ?_)
  intro v1 w1 o1 g1 b1 n1
  have O1 := Lib.hid (And.intro o1 (And.intro g1 b1)); clear o1 g1 b1 n1
  obtain ⟨va, vc, hv⟩ := O1.out.1.slice
  go_wp2_with fail
  go_ret
  refine ⟨v1, rfl, by rw [instrC_append, List.length_append]; exact O1.out.1, ?_, ?_⟩
  · rcases O1.out.2.2 with h | h
    · exact .inl h
    · exact .inr ⟨_, h, by simp⟩
  · exact ((Upd.refl _ w).alloc _).grown O1.out.2.1 (fun k hk _ => hk)

theorem row13 (w : World) : Row (w.alloc (.cells #[.bool false, .bool false, .bool false, .bool false, .bool false, .bool false, .bool false, .bool false, .bool false, .bool false, .bool false, .bool false, .bool false] 153)) w.heap.size 13 153 (fun j => .bool (decide (j ∈ ([] : List Nat)))) := by
  refine Row.new w _ _ _ _ (fun j hj => ?_)
  obtain rfl | rfl | rfl | rfl | rfl | rfl | rfl | rfl | rfl | rfl | rfl | rfl | rfl : j = 0 ∨ j = 1 ∨ j = 2 ∨ j = 3 ∨ j = 4 ∨ j = 5 ∨ j = 6 ∨ j = 7 ∨ j = 8 ∨ j = 9 ∨ j = 10 ∨ j = 11 ∨ j = 12 := by omega
  all_goals simp

set_option maxRecDepth 100000 in
set_option maxHeartbeats 1000000 in
theorem unused_any (sv : Value) (slots : List Nat) (hs : RdSl w 1 sv slots.length (natsI slots)) (h12 : ∀ s ∈ slots, s < 12) (hl : slots.length < 12) :
    Calls Try.prog 55 #[sv] w fun r w' => r = .returned (.int .i64 (unusedN slots)) ∧ unusedN slots < 12 ∧ unusedN slots ∉ slots ∧ Below w.heap.size w w' := by
  obtain ⟨_, a, c, rfl, hc, ha⟩ := hs
  have HA := Lib.hid ha; have H12 := Lib.hid h12; clear ha h12
  obtain ⟨f, hf12, hfn, hfl⟩ := free_slot slots 12 hl
  have HU : Hid (unusedN slots = f) := unusedN_spec slots f (by omega) hfn hfl
  have HF := Lib.hid (And.intro hfn hfl); clear hfn hfl
  have M0 := Lib.hid (row13 w)
  go_enter Try.func55, Try.ntmps55
  go_wp2_with fail
  go_loopw [9] (fun x wr => ∃ k : Nat, k ≤ slots.length ∧ x = .int .i64 k ∧ Row wr w.heap.size 13 153 (fun j => .bool (decide (j ∈ slots.take k))) ∧ Below w.heap.size w wr) (fun x _ => slots.length - (intOf x).toNat)
  case atStart => exact ⟨0, Nat.zero_le _, rfl, by simpa using M0.out, below_alloc w _⟩
  case round =>
    obtain ⟨k, hk, rfl, hrow, hb⟩ := hrel
    have HR := Lib.hid (And.intro hrow hb)
    by_cases hlt : k < slots.length
    · obtain ⟨s, hs⟩ : ∃ s, slots[k]? = some s := ⟨_, List.getElem?_eq_getElem hlt⟩
      have hs12 := H12.out s (List.mem_of_getElem? hs)
      have hv : (natsI slots)[k]? = some (.int .i64 s) := by simp [natsI, hs]
      obtain ⟨sb, so, rfl, hcell⟩ := rd_at HA.out hv
      have e1 := (hb.cell (p := ⟨sb, so + k, none⟩) (World.block_lt_of_cell? w _ (hcell _ _ hv))).trans (hcell _ _ hv)
      have c2 : wr.cell? ⟨w.heap.size, s, none⟩ = some (.bool (decide (s ∈ slots.take k))) := hrow.cell (by omega)
      have f2 := hrow.frozen s
      have hs13 : (s : Int) < 13 := by omega
      have HS := Lib.hid hs
      clear hs hv hcell hrow hb
      go_wp2_with fail
      go_roundw
      case rel =>
        refine ⟨k + 1, by omega, by go_num, (HR.out.1.set s (.bool true)).congr (fun j _ => ?_), HR.out.2.setCell (p := ⟨w.heap.size, s, none⟩) (Nat.le_refl _) _⟩
        rw [List.take_add_one, HS.out]
        by_cases e : j = s
        · subst e; simp
        · rw [if_neg e]; simp [e]
      case measure => simp [intOf]; omega
    · obtain rfl : k = slots.length := by omega
      rw [List.take_length] at hrow
      have HR2 := Lib.hid (And.intro hrow hb)
      clear HR hrow hb hlt
      go_wp2_with fail
      go_loop [6] (fun x => ∃ i : Nat, i ≤ f ∧ x = .int .i64 i) (fun x => f - (intOf x).toNat)
      case atStart => exact ⟨0, Nat.zero_le _, rfl⟩
      case round =>
        obtain ⟨i, hi, rfl⟩ := hrel
        have c2 : wr.cell? ⟨w.heap.size, i, none⟩ = some (.bool (decide (i ∈ slots))) := HR2.out.1.cell (by omega)
        have hi13 : (i : Int) < 13 := by omega
        by_cases hif : i = f
        · subst hif
          rw [decide_eq_false HF.out.1] at c2
          go_wp2_with fail
          go_ret
          exact ⟨ret_int (by rw [HU.out]), by rw [HU.out]; exact hf12, by rw [HU.out]; exact HF.out.1, HR2.out.2⟩
        · rw [decide_eq_true (HF.out.2 i (by omega))] at c2
          go_wp2_with fail
          go_round
          case rel => exact ⟨i + 1, by omega, by go_num⟩
          case measure => simp [intOf]; omega
end
end Go.Proofs.Ytkoijmoendepgaa
