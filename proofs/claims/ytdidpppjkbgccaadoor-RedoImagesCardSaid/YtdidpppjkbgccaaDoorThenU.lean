/- Then of two programs: slices.Concat, slices.Grow of nil. -/
import Derived.Test.YtdidpppjkbgccaaDoorGen
import Derived.Test.YtdidpppjkbgccaaDoorStoU
import Derived.Lib.AppendZerosOnto
import Derived.Lib.Walk
namespace Go.Proofs.YtdidpppjkbgccaaDoor
open Go.RowKit

section
variable {w : World}
set_option maxRecDepth 100000 in
set_option maxHeartbeats 4000000 in
theorem grow_nil (n : Nat) (hn : n ≤ 1000000) : Calls Tryd.prog 70 #[.slice none 0 0, .int .i64 n] w fun r w' => ∃ v, r = .returned v ∧ Acc w w.heap.size w' 120 3 v 0 [] := by
  by_cases h0 : n = 0
  · subst h0
    rw [show ((0 : Nat) : Int) = 0 from rfl]
    go_enter Tryd.func70, Tryd.ntmps70
    go_wp2_with fail
    go_ret
    exact ⟨_, rfl, Acc.nil w _ _ _ _ (Below.refl _ _) (Nat.le_refl _)⟩
  · obtain ⟨i0, hi, hz0, hz1, hz2⟩ := info_parts infoInstr
    have hf : (Builtin.firstCells i0.size 0 (.slice none 0 0)).run Tryd.prog w.drew = .ok ([] : List Value).toArray w.drew := run_firstCells_none w.drew i0.size 0 0 0
    have hr := fun ty => Lib.run_append_grow_zeros (P := Tryd.prog) w 69 3 ty 120 i0 _ .i64 .i64 Tryd.underlying69 Tryd.underlying3 hi hz0 none 0 0 [] hf n (by omega) (by rw [hz1]; decide) (by omega) (by omega) (by rw [hz2]; omega) (growslice_fits (by omega) (by rw [hz2]; omega))
    have hge := grownCap_ge w (0 + n) 0 120
    have hle := grownCap_le_maxLen w (0 + n) 0 120 (by unfold maxLen; omega)
    generalize grownCap w (0 + n) 0 120 = G at *
    have h1 : ¬ ((n : Int) < 0) := by omega
    have h2 : (0 : Int) < n := by omega
    have hle2 : (0 : Int) ≤ (n : Int) := by omega
    rw [Nat.zero_add] at hr hge
    clear hf
    have hle' := hle
    unfold maxLen at hle'
    go_enter Tryd.func70, Tryd.ntmps70
    go_wp2_with (at_builtin; refine Lib.wpList_append_run _ rfl _ _ _ _ rfl _ _ rfl rfl _ _ (hr _) ?_)
    go_ret
    refine ⟨_, rfl, ?_⟩
    have hz : (Builtin.zeroCells #[.int .u8 0, .int .u64 0, .int .u64 0] n).size = n * 3 := by simp [Builtin.zeroCells]
    have hz2 : (Builtin.zeroCells #[.int .u8 0, .int .u64 0, .int .u64 0] (G - n)).size = (G - n) * 3 := by simp [Builtin.zeroCells]
    refine ⟨?_, fun g hg => ?_, ?_, ?_⟩
    · have := (OwnSl.new w (Builtin.zeroCells #[.int .u8 0, .int .u64 0, .int .u64 0] n ++ Builtin.zeroCells #[.int .u8 0, .int .u64 0, .int .u64 0] (G - n)) 120 3 0 G (by rw [Array.size_append, hz, hz2]; omega) (Nat.zero_le _) hle).drew
      simpa using this
    · simp [Value.ownBlock] at hg; omega
    · exact below_alloc_drew w _
    · simp [World.drew]
/-- Where the programs of a Concat lie. -/
structure TwoP (w : World) (b : Nat) (pv qv : Value) (p q : List (Nat × Nat × Int)) : Prop where
  c0 : w.cell? ⟨b, 0, none⟩ = some pv
  c1 : w.cell? ⟨b, 1, none⟩ = some qv
  p : RdSl w 3 pv p.length (instrC p)
  q : RdSl w 3 qv q.length (instrC q)
theorem TwoP.below {b : Nat} {pv qv : Value} {p q : List (Nat × Nat × Int)} {w' : World} (h : TwoP w b pv qv p q) (hb : Below w.heap.size w w') : TwoP w' b pv qv p q :=
  ⟨cell_bel hb h.c0, cell_bel hb h.c1, h.p.below hb, h.q.below hb⟩
set_option maxRecDepth 100000 in
set_option maxHeartbeats 4000000 in
theorem concat_two (b : Nat) (pv qv : Value) (p q : List (Nat × Nat × Int)) (h : TwoP w b pv qv p q) (hl : p.length + q.length ≤ 100000) :
    Calls Tryd.prog 64 #[.slice (some ⟨b, 0, none⟩) 2 2] w fun r w' => ∃ ov, r = .returned ov ∧ Acc w w.heap.size w' 120 3 ov (p ++ q).length (instrC (p ++ q)) := by
  have H := Lib.hid h
  obtain ⟨c0, c1, ⟨_, pa, pc, rfl, hpc, _⟩, ⟨_, qa, qc, rfl, hqc, _⟩⟩ := h
  obtain ⟨k0, hi0, hz0, hz1, hz2⟩ := info_parts infoInstr
  have I2 := Lib.hid (And.intro hi0 (And.intro hz0 (And.intro hz1 hz2))); clear hi0 hz0 hz1 hz2
  have HE : Hid ((p ++ q).length = p.length + q.length) := List.length_append
  generalize hn : p.length = n at *
  generalize hm : q.length = m at *
  have HN := Lib.hid (And.intro hn hm); clear hn hm
  have HG := Lib.hid (grow_nil (w := w) (n + m) (by omega))
  have hs1 : ¬ (n : Int) < 0 := by omega
  have hs2 : ¬ (n : Int) + m < 0 := by omega
  have e01 : ((n + m : Nat) : Int) = (n : Int) + m := by omega
  rw [e01] at HG
  clear e01
  go_enter Tryd.func64, Tryd.ntmps64
  go_wp2_with fail
  go_loop [3, 11] (fun y z => (z = .int .i64 0 ∧ y = .int .i64 0) ∨ (z = .int .i64 1 ∧ y = .int .i64 n) ∨ (z = .int .i64 2 ∧ y = .int .i64 ((n : Int) + m))) (fun _ z => 2 - (intOf z).toNat)
  case atStart => exact .inl ⟨rfl, rfl⟩
  case round =>
    rcases hrel with ⟨rfl, rfl⟩ | ⟨rfl, rfl⟩ | ⟨rfl, rfl⟩
    · go_wp2_with fail
      go_round
      case rel => exact .inr (.inl ⟨rfl, by simp⟩)
      case measure => simp [intOf]
    · go_wp2_with fail
      go_round
      case rel => exact .inr (.inr ⟨rfl, rfl⟩)
      case measure => simp [intOf]
    · go_wp2_with fail
      (with_reducible refine HG.out.mono ?_)
      rintro e w1 ⟨gv, rfl, a1⟩
      have A1 := Lib.hid a1
      have c0' := cell_bel a1.bel c0; have c1' := cell_bel a1.bel c1
      clear a1 HG c0 c1
      go_wp2_with fail
      go_loopw [6, 27] (fun v z wr => (z = .int .i64 0 ∧ Acc w w.heap.size wr 120 3 v 0 []) ∨ (z = .int .i64 1 ∧ Acc w w.heap.size wr 120 3 v n (instrC p)) ∨ (z = .int .i64 2 ∧ Acc w w.heap.size wr 120 3 v (n + m) (instrC p ++ instrC q))) (fun _ z _ => 2 - (intOf z).toNat)
      case atStart => exact .inl ⟨rfl, A1.out⟩
      case round =>
        clear A1
        rcases hrel with ⟨rfl, ha⟩ | ⟨rfl, ha⟩ | ⟨rfl, ha⟩
        · have T := Lib.hid (H.out.below ha.bel)
          obtain ⟨va, vc, rfl⟩ := ha.slice
          have A := Lib.hid ha; clear ha
          have d0 := T.out.c0; have d1 := T.out.c1
          go_wp2_with (at_builtin; refine wpList_append_sl _ rfl _ _ 69 rfl 120 k0 _ 3 24 Tryd.underlying69 I2.out.1 I2.out.2.1 I2.out.2.2.1 I2.out.2.2.2 rfl (by decide) _ 0 [] rfl (by exact A.out.own) _ n (instrC p) rfl (by have := T.out.p; rw [HN.out.1] at this; exact this) (instrC_one _) (by unfold maxLen; omega) (by omega) ?_)
          intro v1 w3 o1 g1 b1 n1
          have o1' : OwnSl w3 120 3 v1 (0 + n) ([] ++ instrC p) := by rw [Nat.zero_add]; exact o1
          have A2 := Lib.hid (A.out.next (Below.refl _ _) o1' g1 b1 (Nat.le_refl _)); clear o1 o1' g1 b1 n1
          go_wp2_with fail
          go_roundw
          case rel => exact .inr (.inl ⟨rfl, A2.out.congr (by omega) (by simp)⟩)
          case measure => simp [intOf]
        · have T := Lib.hid (H.out.below ha.bel)
          obtain ⟨va, vc, rfl⟩ := ha.slice
          have A := Lib.hid ha; clear ha
          have d0 := T.out.c0; have d1 := T.out.c1
          go_wp2_with (at_builtin; refine wpList_append_sl _ rfl _ _ 69 rfl 120 k0 _ 3 24 Tryd.underlying69 I2.out.1 I2.out.2.1 I2.out.2.2.1 I2.out.2.2.2 rfl (by decide) _ n (instrC p) rfl (by exact A.out.own) _ m (instrC q) rfl (by have := T.out.q; rw [HN.out.2] at this; exact this) (instrC_one _) (by unfold maxLen; omega) (by omega) ?_)
          intro v1 w3 o1 g1 b1 n1
          have A2 := Lib.hid (A.out.next (Below.refl _ _) o1 g1 b1 (Nat.le_refl _)); clear o1 g1 b1 n1
          go_wp2_with fail
          go_roundw
          case rel => exact .inr (.inr ⟨rfl, A2.out⟩)
          case measure => simp [intOf]
        · have A := Lib.hid ha
          obtain ⟨va, vc, rfl⟩ := ha.slice
          clear ha
          go_wp2_with fail
          go_ret
          exact ⟨_, rfl, A.out.congr (by rw [List.length_append, HN.out.1, HN.out.2]) (by rw [instrC_append])⟩
set_option maxRecDepth 100000 in
set_option maxHeartbeats 4000000 in
theorem then_any (pv qv : Value) (p q : List (Nat × Nat × Int)) (hp : RdSl w 3 pv p.length (instrC p)) (hq : RdSl w 3 qv q.length (instrC q)) (hl : p.length + q.length ≤ 100000) :
    Calls Tryd.prog 50 #[pv, qv] w fun r w' => ∃ ov, r = .returned ov ∧ Acc w w.heap.size w' 120 3 ov (p ++ q).length (instrC (p ++ q)) := by
  have hT : TwoP (w.alloc (.cells #[pv, qv] 69)) w.heap.size pv qv p q := ⟨(Blk.new w _ _).cell rfl, (Blk.new w _ _).cell rfl, hp.alloc _, hq.alloc _⟩
  have HC := Lib.hid (concat_two _ _ _ _ _ hT hl)
  obtain ⟨_, pa, pc, rfl, _, _⟩ := hp
  obtain ⟨_, qa, qc, rfl, _, _⟩ := hq
  clear hT
  generalize p.length = n at *
  generalize q.length = m at *
  go_enter Tryd.func50, Tryd.ntmps50
  go_wp2_with fail
  (with_reducible refine HC.out.mono ?_)
  rintro e w1 ⟨ov, rfl, a1⟩
  have A1 := Lib.hid (a1.deeper (below_alloc _ _)); clear a1 HC
  go_wp2_with fail
  go_ret
  exact ⟨_, rfl, A1.out⟩
end
end Go.Proofs.YtdidpppjkbgccaaDoor
