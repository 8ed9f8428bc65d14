/- The walks of Get, Len, Check. -/
import Derived.Test.YtkoijmoendepgaaLeafJ
namespace Go.Proofs.Ytkoijmoendepgaa
open Go.RowKit

def slotsW (W : Nat → Int) : List Nat := slotsN (W 0).toNat ((W 0).toNat % 16)
def nodeOk (W : Nat → Int) (size : Nat) : Prop := parseOk (W 0).toNat ∧ validC W (slotsW W) size
def nodeW (D : Dev) (p : Nat) : Nat → Int := fun i => D.cur (ptrOff p / 8 + i)

/-- A node that can be read through thread j. -/
structure NodeAt (w : World) (v : DV) (own : Nat → Option Role) (D : Dev) (j p : Nat) : Prop where
  dev : IsDev w v own D
  hj : j < 8
  hp : p < 18446744073709551616
  hp0 : 0 < p
  on : D.off = false
  err : D.err j = 0
  range : ptrOff p + 224 ≤ 64 * D.n
  hW : ∀ i, i < 28 → 0 ≤ nodeW D p i ∧ nodeW D p i < 18446744073709551616

section
variable {w : World} {v : DV} {own : Nat → Option Role} {D : Dev} {j p : Nat}

theorem NodeAt.alloc (h : NodeAt w v own D j p) (o : Obj) : NodeAt (w.alloc o) v own D j p := { h with dev := h.dev.alloc o }
theorem NodeAt.below {w' : World} (h : NodeAt w v own D j p) (hb : Below w.heap.size w w') : NodeAt w' v own D j p := { h with dev := h.dev.kept hb.size (fun k hk => hb.block k (h.dev.lt k hk)) }
theorem NodeAt.read (h : NodeAt w v own D j p) : Calls Try.prog 50 #[.agg #[.iface 39 (.pointer (some ⟨v.tb j, 0, none⟩)), .int .u64 p]] w (ReadPost w (nodeW D p) (D.n * 64)) :=
  read_good h.dev h.hj p h.hp h.hp0 h.on h.err h.range h.hW

/-- A result that depends on whether the node is valid. -/
def NodePost (w : World) (W : Nat → Int) (size : Nat) (good bad : Value) (r : Ending) (w' : World) : Prop :=
  Below w.heap.size w w' ∧ ((nodeOk W size ∧ r = .returned good) ∨ (¬ nodeOk W size ∧ r = .returned bad))

theorem below_of (_h1 : Below w.heap.size w w) {o : Obj} {w1 w2 : World} (hb : Below (w.alloc o).heap.size (w.alloc o) w1) (hq : Below w1.heap.size w1 w2) : Below w.heap.size w w2 := by
  have h2 : Below w.heap.size w w1 := (below_alloc w o).trans (hb.mono (by simp))
  exact h2.trans (hq.mono h2.size)

set_option maxRecDepth 100000 in
set_option maxHeartbeats 1000000 in
theorem len_any (h : NodeAt w v own D j p) : Calls Try.prog 21 #[.agg #[.iface 39 (.pointer (some ⟨v.tb j, 0, none⟩)), .int .u64 p]] w
    (NodePost w (nodeW D p) (D.n * 64) (.int .i64 (slotsW (nodeW D p)).length) (.int .i64 0)) := by
  have H := Lib.hid h; clear h
  go_enter Try.func21, Try.ntmps21
  go_wp2_with fail
  (with_reducible refine (H.out.alloc _).read.mono ?_)
  rintro e w1 ⟨hb, ⟨hok, cb, rfl, _, hc⟩ | ⟨hbad, rfl⟩⟩
  · obtain ⟨sv, c28, hrd⟩ := hc.sl
    obtain ⟨_, a, c, rfl, hcap, _⟩ := hrd
    have HB := Lib.hid hb; have HO := Lib.hid hok; clear hb hok hc
    go_wp2_with fail
    go_ret
    exact ⟨below_of (Below.refl _ _) HB.out (Below.refl _ _), .inl ⟨HO.out, rfl⟩⟩
  · have HB := Lib.hid hb; have HO := Lib.hid hbad; clear hb hbad
    go_wp2_with fail
    go_ret
    exact ⟨below_of (Below.refl _ _) HB.out (Below.refl _ _), .inr ⟨HO.out, rfl⟩⟩

set_option maxRecDepth 100000 in
set_option maxHeartbeats 1000000 in
theorem check_any (h : NodeAt w v own D j p) : Calls Try.prog 20 #[.agg #[.iface 39 (.pointer (some ⟨v.tb j, 0, none⟩)), .int .u64 p]] w
    (NodePost w (nodeW D p) (D.n * 64) (.int .i64 0) (.int .i64 11)) := by
  have H := Lib.hid h; clear h
  go_enter Try.func20, Try.ntmps20
  go_wp2_with fail
  (with_reducible refine (H.out.alloc _).read.mono ?_)
  rintro e w1 ⟨hb, ⟨hok, cb, rfl, _, hc⟩ | ⟨hbad, rfl⟩⟩
  · have HB := Lib.hid hb; have HO := Lib.hid hok; clear hb hok hc
    go_wp2_with fail
    go_ret
    exact ⟨below_of (Below.refl _ _) HB.out (Below.refl _ _), .inl ⟨HO.out, rfl⟩⟩
  · have HB := Lib.hid hb; have HO := Lib.hid hbad; clear hb hbad
    go_wp2_with fail
    go_ret
    exact ⟨below_of (Below.refl _ _) HB.out (Below.refl _ _), .inr ⟨HO.out, rfl⟩⟩

/-- What Get answers at a valid node. -/
def getV (W : Nat → Int) (k : Int) : Value :=
  if foundB W k (slotsW W) then .tuple #[.int .u64 (W (16 + (slotsW W).getD (findIdx W k (slotsW W)) 0)), .int .i64 0] else .tuple #[.int .u64 0, .int .i64 5]

theorem found_at (W : Nat → Int) (k : Int) (l : List Nat) (h : foundB W k l = true) : ∃ s, l[findIdx W k l]? = some s ∧ W (4 + s) = k := by
  unfold foundB at h
  split at h
  · rename_i s hs; exact ⟨s, hs, by simpa using h⟩
  · cases h

set_option maxRecDepth 100000 in
set_option maxHeartbeats 1000000 in
theorem get_any (h : NodeAt w v own D j p) (k : Int) : Calls Try.prog 18 #[.agg #[.iface 39 (.pointer (some ⟨v.tb j, 0, none⟩)), .int .u64 p], .int .u64 k] w
    (NodePost w (nodeW D p) (D.n * 64) (getV (nodeW D p) k) (.tuple #[.int .u64 0, .int .i64 11])) := by
  have H := Lib.hid h; clear h
  go_enter Try.func18, Try.ntmps18
  go_wp2_with fail
  (with_reducible refine (H.out.alloc _).read.mono ?_)
  rintro e w1 ⟨hb, ⟨hok, cb, rfl, _, hc⟩ | ⟨hbad, rfl⟩⟩
  · have HB := Lib.hid hb; have HO := Lib.hid hok; have HC : Hid (IsCont w1 cb (nodeW D p) (slotsW (nodeW D p)) ((nodeW D p 0).toNat / 4503599627370496)) := hc; clear hb hok hc
    go_wp2_with fail
    (with_reducible refine (find_any HC.out k).mono ?_)
    rintro e w2 ⟨rfl, q2⟩
    have HC2 := Lib.hid (HC.out.qt q2); have Q2 := Lib.hid q2; clear q2
    have hf : foundB (nodeW D p) k (slotsW (nodeW D p)) = true ∨ foundB (nodeW D p) k (slotsW (nodeW D p)) = false := by cases foundB (nodeW D p) k (slotsW (nodeW D p)) <;> simp
    rcases hf with hf | hf
    · obtain ⟨s, hs, _⟩ := found_at _ _ _ hf
      have hg : getV (nodeW D p) k = .tuple #[.int .u64 (nodeW D p (16 + s)), .int .i64 0] := by unfold getV; rw [if_pos hf]; simp [List.getD, hs]
      have HV := Lib.hid (value_any HC2.out _ s hs)
      have HG := Lib.hid hg
      rw [hf]
      clear hf hs hg
      go_wp2_with fail
      (with_reducible refine HV.out.mono ?_)
      rintro e w3 ⟨rfl, q3⟩
      have Q3 := Lib.hid (Q2.out.trans q3); clear q3
      go_wp2_with fail
      go_ret2
      exact ⟨below_of (Below.refl _ _) HB.out Q3.out.below, .inl ⟨HO.out, by rw [HG.out]; rfl⟩⟩
    · have hg : getV (nodeW D p) k = .tuple #[.int .u64 0, .int .i64 5] := by unfold getV; rw [if_neg (by simp [hf])]
      have HG := Lib.hid hg
      rw [hf]
      clear hf hg
      go_wp2_with fail
      go_ret2
      exact ⟨below_of (Below.refl _ _) HB.out Q2.out.below, .inl ⟨HO.out, by rw [HG.out]; rfl⟩⟩
  · have HB := Lib.hid hb; have HO := Lib.hid hbad; clear hb hbad
    go_wp2_with fail
    go_ret2
    exact ⟨below_of (Below.refl _ _) HB.out (Below.refl _ _), .inr ⟨HO.out, rfl⟩⟩
end
end Go.Proofs.Ytkoijmoendepgaa
