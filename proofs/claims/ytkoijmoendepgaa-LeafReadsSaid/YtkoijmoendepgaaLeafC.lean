/- The walks of leaf.Encode and the reference's Encode. -/
import Derived.Test.YtkoijmoendepgaaLeafB
namespace Go.Proofs.Ytkoijmoendepgaa
open Go.RowKit

/-- Entry i stops the encoding. -/
def badAt (ks : List Int) (high : Int) (b : Bool) (i : Nat) : Prop := (0 < i ∧ ks.getD i 0 ≤ ks.getD (i - 1) 0) ∨ (b = true ∧ high ≤ ks.getD i 0)
def encOk (ks vs : List Int) (high : Int) (b : Bool) : Prop := ks.length = vs.length ∧ ks.length ≤ 12 ∧ ∀ i, i < ks.length → ¬ badAt ks high b i
/-- The entries' words when k entries are in. -/
def encF (ks vs : List Int) (k i : Nat) : Int := if 4 ≤ i ∧ i < 4 + k then ks.getD (i - 4) 0 else if 16 ≤ i ∧ i < 16 + k then vs.getD (i - 16) 0 else 0
def encW (ks vs : List Int) (next high : Int) (b : Bool) (i : Nat) : Int :=
  if i = 0 then (ordN (List.range ks.length) 0 : Nat) else if i = 1 then next else if i = 2 then (if b then high else 0) else if i = 3 then (if b then 1 else 0) else encF ks vs ks.length i

theorem encF_step (ks vs : List Int) (k i : Nat) (x y : Int) (hx : ks[k]? = some x) (hy : vs[k]? = some y) (hk : k < 12) : encF ks vs (k + 1) i = if i = 16 + k then y else if i = 4 + k then x else encF ks vs k i := by
  unfold encF
  by_cases e1 : i = 16 + k
  · rw [if_pos e1, if_neg (by omega), if_pos (by omega), show i - 16 = k from by omega]
    simp [List.getD, hy]
  · rw [if_neg e1]
    by_cases e2 : i = 4 + k
    · rw [if_pos e2, if_pos (by omega), show i - 4 = k from by omega]
      simp [List.getD, hx]
    · rw [if_neg e2]
      by_cases e3 : 4 ≤ i ∧ i < 4 + k
      · rw [if_pos e3, if_pos (by omega)]
      · rw [if_neg e3, if_neg (by omega)]
        by_cases e4 : 16 ≤ i ∧ i < 16 + k
        · rw [if_pos e4, if_pos (by omega)]
        · rw [if_neg e4, if_neg (by omega)]

theorem infoInt : (Try.prog.info? 3).map (fun i => (i.zero, i.size, i.bytes)) = some (some (.int .i64 0), 1, 8) := by kernel_rfl

section
variable {w : World}

theorem mk28 (wx : World) : (Instr.makeSlice 22 (.int .i64 28) (.int .i64 28)).run Try.prog wx = .ok (.slice (some ⟨wx.heap.size, 0, none⟩) 28 28) (wx.alloc (.cells (madeCells #[.int .u64 0] 28) 23)) := by
  obtain ⟨i0, hi, hz0, hz1, hz2⟩ := info_parts infoU64
  have := run_make (P := Try.prog) wx 22 23 i0 _ Try.underlying22 hi hz0 .i64 .i64 28 28 (by omega) (by omega) (by rw [hz2]; decide) (by decide)
  rw [hz1] at this
  exact this
theorem mkInts (wx : World) (n : Nat) (hn : n ≤ 1000) : (Instr.makeSlice 105 (.int .i64 n) (.int .i64 n)).run Try.prog wx = .ok (.slice (some ⟨wx.heap.size, 0, none⟩) n n) (wx.alloc (.cells (madeCells #[.int .i64 0] n) 3)) := by
  obtain ⟨i0, hi, hz0, hz1, hz2⟩ := info_parts infoInt
  have := run_make (P := Try.prog) wx 105 3 i0 _ Try.underlying105 hi hz0 .i64 .i64 n n (by omega) (by omega) (by rw [hz2]; omega) (by omega)
  rw [hz1] at this
  simpa [Value.cells] using this
theorem row_zeros (w : World) (t : TypeId) (k : IntKind) (n : Nat) : Row (w.alloc (.cells (madeCells #[.int k 0] n) t)) w.heap.size n t (fun _ => .int k 0) :=
  Row.new w _ t _ _ (fun i hi => by simp [madeCells, hi, Nat.mod_one])

/-- Where the two new rows stand in a round of Encode. -/
def EncMid (w : World) (ks vs : List Int) (k : Nat) (wr : World) : Prop :=
  Row wr w.heap.size 28 23 (fun i => .int .u64 (encF ks vs k i)) ∧ Row wr (w.heap.size + 1) ks.length 3 (fun i => .int .i64 (if i < k then i else 0 : Nat)) ∧ Below w.heap.size w wr

theorem enc_mid0 (ks vs : List Int) : EncMid w ks vs 0 ((w.alloc (.cells (madeCells #[.int .u64 0] 28) 23)).alloc (.cells (madeCells #[.int .i64 0] ks.length) 3)) := by
  refine ⟨((row_zeros w 23 .u64 28).alloc _).congr (fun i _ => ?_), ?_, ((Below.refl _ _).alloc (Nat.le_refl _) _).alloc (by simp) _⟩
  · unfold encF; rw [if_neg (by omega), if_neg (by omega)]
  · have := row_zeros (w.alloc (.cells (madeCells #[.int .u64 0] 28) 23)) 3 .i64 ks.length
    rw [World.size_alloc] at this
    exact this.congr (fun i _ => by simp)
theorem enc_step {ks vs : List Int} {k : Nat} {wr : World} (h : EncMid w ks vs k wr) {x y : Int} (hx : ks[k]? = some x) (hy : vs[k]? = some y) (hk : k < ks.length) (h12 : ks.length ≤ 12) :
    EncMid w ks vs (k + 1) (((wr.setCell ⟨w.heap.size + 1, k, none⟩ (.int .i64 k)).setCell ⟨w.heap.size, 4 + k, none⟩ (.int .u64 x)).setCell ⟨w.heap.size, 16 + k, none⟩ (.int .u64 y)) := by
  obtain ⟨h1, h2, h3⟩ := h
  refine ⟨?_, ?_, ?_⟩
  · refine (((h1.other (a := ⟨w.heap.size + 1, k, none⟩) (by simp) _).set (4 + k) (.int .u64 x)).set (16 + k) (.int .u64 y)).congr (fun i _ => ?_)
    rw [encF_step ks vs k i x y hx hy (by omega)]
    by_cases e1 : i = 16 + k
    · rw [if_pos e1, if_pos e1]
    · rw [if_neg e1, if_neg e1]
      by_cases e2 : i = 4 + k
      · rw [if_pos e2, if_pos e2]
      · rw [if_neg e2, if_neg e2]
  · refine (((h2.set k (.int .i64 k)).other (a := ⟨w.heap.size, 4 + k, none⟩) (by simp) _).other (a := ⟨w.heap.size, 16 + k, none⟩) (by simp) _).congr (fun i _ => ?_)
    by_cases e : i = k
    · subst e; simp
    · rw [if_neg e]
      by_cases e2 : i < k
      · rw [if_pos e2, if_pos (by omega)]
      · rw [if_neg e2, if_neg (by omega)]
  · exact ((h3.setCell (p := ⟨w.heap.size + 1, k, none⟩) (by simp) _).setCell (p := ⟨w.heap.size, 4 + k, none⟩) (by simp) _).setCell (p := ⟨w.heap.size, 16 + k, none⟩) (by simp) _

/-- What a successful encoding leaves. -/
def Encoded (w : World) (ks vs : List Int) (next high : Int) (b : Bool) (r : Ending) (w' : World) : Prop :=
  ∃ g, r = .returned (.tuple #[.slice (some ⟨g, 0, none⟩) 28 28, .int .i64 0]) ∧ Row w' g 28 23 (fun i => .int .u64 (encW ks vs next high b i)) ∧ w.heap.size ≤ g ∧ Below w.heap.size w w'
def Refused (w : World) (r : Ending) (w' : World) : Prop := r = .returned (.tuple #[.slice none 0 0, .int .i64 1]) ∧ Below w.heap.size w w'

theorem enc_slots {ks vs : List Int} {wr : World} (h : EncMid w ks vs ks.length wr) : RdSl wr 1 (.slice (some ⟨w.heap.size + 1, 0, none⟩) ks.length ks.length) (List.range ks.length).length (natsI (List.range ks.length)) := by
  refine ⟨by simp [natsI], _, _, by rw [List.length_range], by simp, .inr ⟨_, 0, rfl, fun j u hu => ?_⟩⟩
  have hj : j < ks.length := by
    rcases Nat.lt_or_ge j ks.length with h | h
    · exact h
    · simp [natsI, List.getElem?_eq_none (show (List.range ks.length).length ≤ j by simpa using h)] at hu
  simp [natsI, List.getElem?_range hj] at hu
  subst hu
  rw [Nat.zero_add, h.2.1.cell hj]; simp [hj]

theorem enc_end {ks vs : List Int} {wr : World} (h : Row wr w.heap.size 28 23 (fun i => .int .u64 (encF ks vs ks.length i)) ∧ Below w.heap.size w wr) (_h12 : ks.length ≤ 12) (next high : Int) (b : Bool) (wx : World)
    (hx : wx = if b then ((((wr.setCell ⟨w.heap.size, 0, none⟩ (.int .u64 (ordN (List.range ks.length) 0 : Nat))).setCell ⟨w.heap.size, 1, none⟩ (.int .u64 next)).setCell ⟨w.heap.size, 2, none⟩ (.int .u64 high)).setCell ⟨w.heap.size, 3, none⟩ (.int .u64 1))
      else ((wr.setCell ⟨w.heap.size, 0, none⟩ (.int .u64 (ordN (List.range ks.length) 0 : Nat))).setCell ⟨w.heap.size, 1, none⟩ (.int .u64 next))) :
    Encoded w ks vs next high b (.returned (.tuple #[.slice (some ⟨w.heap.size, 0, none⟩) 28 28, .int .i64 0])) wx := by
  obtain ⟨h1, h3⟩ := h
  have hf : ∀ i, i < 4 → encF ks vs ks.length i = 0 := fun i hi => by unfold encF; rw [if_neg (by omega), if_neg (by omega)]
  cases b
  · rw [if_neg (by simp)] at hx
    subst hx
    refine ⟨_, rfl, ((h1.set 0 _).set 1 _).congr (fun i _ => ?_), Nat.le_refl _, (h3.setCell (p := ⟨w.heap.size, 0, none⟩) (by simp) _).setCell (p := ⟨w.heap.size, 1, none⟩) (by simp) _⟩
    unfold encW
    by_cases e1 : i = 1
    · simp [e1]
    · by_cases e0 : i = 0
      · simp [e0]
      · rw [if_neg e1, if_neg e0, if_neg e0, if_neg e1]
        by_cases e2 : i = 2
        · subst e2; simp [hf]
        · by_cases e3 : i = 3
          · subst e3; simp [hf]
          · rw [if_neg e2, if_neg e3]
  · rw [if_pos rfl] at hx
    subst hx
    refine ⟨_, rfl, ((((h1.set 0 _).set 1 _).set 2 _).set 3 _).congr (fun i _ => ?_), Nat.le_refl _, (((h3.setCell (p := ⟨w.heap.size, 0, none⟩) (by simp) _).setCell (p := ⟨w.heap.size, 1, none⟩) (by simp) _).setCell (p := ⟨w.heap.size, 2, none⟩) (by simp) _).setCell (p := ⟨w.heap.size, 3, none⟩) (by simp) _⟩
    unfold encW
    by_cases e3 : i = 3
    · simp [e3]
    · by_cases e2 : i = 2
      · simp [e2]
      · by_cases e1 : i = 1
        · simp [e1]
        · by_cases e0 : i = 0
          · simp [e0]
          · rw [if_neg e3, if_neg e2, if_neg e1, if_neg e0, if_neg e0, if_neg e1, if_neg e2, if_neg e3]

def EncPost (w : World) (ks vs : List Int) (next high : Int) (b : Bool) (r : Ending) (w' : World) : Prop :=
  ((∀ i, i < ks.length → ¬ badAt ks high b i) → Encoded w ks vs next high b r w') ∧ ((¬ ∀ i, i < ks.length → ¬ badAt ks high b i) → Refused w r w')

set_option maxRecDepth 100000 in
set_option maxHeartbeats 2000000 in
theorem encode_any (kv vv : Value) (ks vs : List Int) (next high : Int) (b : Bool) (hk : RdSl w 1 kv ks.length (intsU ks)) (hv : RdSl w 1 vv vs.length (intsU vs)) (hl : ks.length = vs.length) (h12 : ks.length ≤ 12) :
    Calls Try.prog 9 #[kv, vv, .int .u64 next, .int .u64 high, .bool b] w (EncPost w ks vs next high b) := by
  obtain ⟨_, ka, kc, rfl, hkc, hka⟩ := hk
  obtain ⟨_, va, vc, rfl, hvc, hva⟩ := hv
  have hne : ((ks.length : Int) != (vs.length : Int)) = false := by simp; omega
  have h12' : ¬ (12 : Int) < ks.length := by omega
  have h1 := fun (wx : World) => mk28 wx
  have h2 := fun (wx : World) => mkInts wx ks.length (by omega)
  have HK := Lib.hid hka; have HV := Lib.hid hva; have HL := Lib.hid hl; clear hka hva hl
  go_enter Try.func9, Try.ntmps9
  go_wp2_with fail
  clear h1 h2
  have hm0 := Lib.hid (enc_mid0 (w := w) ks vs)
  go_loopw [32] (fun i wr => ∃ k : Nat, k ≤ ks.length ∧ i = .int .i64 k ∧ (∀ i, i < k → ¬ badAt ks high b i) ∧ EncMid w ks vs k wr) (fun i _ => ks.length - (intOf i).toNat)
  case atStart => exact ⟨0, Nat.zero_le _, rfl, fun i hi => absurd hi (Nat.not_lt_zero _), hm0.out⟩
  case round =>
    obtain ⟨k, hk, rfl, hgood, hmid⟩ := hrel
    have HG := Lib.hid hgood; have HM := Lib.hid hmid; clear hgood hmid hm0
    have hold : ∀ bb o u, w.cell? ⟨bb, o, none⟩ = some u → wr.cell? ⟨bb, o, none⟩ = some u := fun bb o u h => (HM.out.2.2.cell (World.block_lt_of_cell? w _ h)).trans h
    by_cases hlt : k < ks.length
    · obtain ⟨x, hx⟩ : ∃ x, ks[k]? = some x := ⟨_, List.getElem?_eq_getElem hlt⟩
      obtain ⟨y, hy⟩ : ∃ y, vs[k]? = some y := ⟨_, List.getElem?_eq_getElem (by rw [← HL.out]; exact hlt)⟩
      obtain ⟨kb, ko, rfl, hkc'⟩ := rd_at HK.out (intsU_get ks k x hx)
      obtain ⟨vb, vo, rfl, hvc'⟩ := rd_at HV.out (intsU_get vs k y hy)
      have hv1 : vb ≠ w.heap.size + 1 := by have := World.block_lt_of_cell? w _ (hvc' _ _ (intsU_get vs k y hy)); simp only at this; omega
      have e1 := hold _ _ _ (hkc' _ _ (intsU_get ks k x hx))
      have e2 := hold _ _ _ (hvc' _ _ (intsU_get vs k y hy))
      have hlv : (k : Int) < vs.length := by have := HL.out; omega
      have hlk : (k : Int) < ks.length := by omega
      have xD : ks.getD k 0 = x := by simp [List.getD, hx]
      have s1 : wr.cell? ⟨w.heap.size + 1, k, none⟩ = some (.int .i64 ((if k < k then k else 0 : Nat) : Int)) := HM.out.2.1.cell hlt
      have s2 := HM.out.2.1.frozen k
      have w1 : wr.cell? ⟨w.heap.size, 4 + k, none⟩ = some (.int .u64 (encF ks vs k (4 + k))) := HM.out.1.cell (by omega)
      have w2 : wr.cell? ⟨w.heap.size, 16 + k, none⟩ = some (.int .u64 (encF ks vs k (16 + k))) := HM.out.1.cell (by omega)
      have w3 := HM.out.1.frozen (4 + k)
      have w4 := HM.out.1.frozen (16 + k)
      have M1 := Lib.hid (enc_step HM.out hx hy hlt h12)
      have XD := Lib.hid xD
      have HB : Hid (badAt ks high b k → ¬ ∀ i, i < ks.length → ¬ badAt ks high b i) := fun h1 h2 => h2 k hlt h1
      have hgn : ¬ badAt ks high b k → ∀ i, i < k + 1 → ¬ badAt ks high b i := fun h i hi => by
        rcases Nat.lt_succ_iff_lt_or_eq.1 hi with h' | h'
        · exact HG.out i h'
        · rw [h']; exact h
      have HN := Lib.hid hgn
      have HW := Lib.hid HM.out.2.2
      rcases Nat.eq_zero_or_pos k with hk0 | hk0
      · subst hk0
        clear hold hkc' hvc' hx hy xD hgn
        simp only [Nat.add_zero] at e1 e2 w1 w2 w3 w4
        rw [show ((0 : Nat) : Int) = 0 from rfl]
        by_cases hb2 : b = true ∧ high ≤ x
        · have Hbad : Hid (badAt ks high b 0) := by show badAt ks high b 0; exact .inr ⟨hb2.1, by rw [XD.out]; exact hb2.2⟩
          obtain ⟨rfl, hb3⟩ := hb2
          go_wp2_with fail
          go_ret2
          exact ⟨fun h => absurd h (HB.out Hbad.out), fun _ => ⟨rfl, HW.out⟩⟩
        · have Hng : Hid (¬ badAt ks high b 0) := by
            show ¬ badAt ks high b 0
            rintro (⟨h, _⟩ | ⟨h, h'⟩)
            · omega
            · rw [XD.out] at h'; exact hb2 ⟨h, h'⟩
          cases b
          · clear hb2
            go_wp2_with fail
            go_roundw
            case rel => exact ⟨1, by omega, by go_num, HN.out Hng.out, M1.out⟩
            case measure => simp [intOf]; omega
          · have hb3 : ¬ high ≤ x := fun h => hb2 ⟨rfl, h⟩
            clear hb2
            go_wp2_with fail
            go_roundw
            case rel => exact ⟨1, by omega, by go_num, HN.out Hng.out, M1.out⟩
            case measure => simp [intOf]; omega
      · obtain ⟨m, rfl⟩ : ∃ m, k = m + 1 := ⟨k - 1, by omega⟩
        obtain ⟨z, hz⟩ : ∃ z, ks[m]? = some z := ⟨_, List.getElem?_eq_getElem (by omega)⟩
        have e3 := hold _ _ _ (hkc' _ _ (intsU_get ks m z hz))
        have ZD : Hid (ks.getD m 0 = z) := by show ks.getD m 0 = z; simp [List.getD, hz]
        clear hold hkc' hvc' hx hy hz xD hgn
        by_cases hb1 : x ≤ z
        · have Hbad : Hid (badAt ks high b (m + 1)) := by show badAt ks high b (m + 1); exact .inl ⟨by omega, by rw [XD.out, Nat.add_sub_cancel, ZD.out]; exact hb1⟩
          go_wp2_with fail
          all_goals
            go_ret2
            exact ⟨fun h => absurd h (HB.out Hbad.out), fun _ => ⟨rfl, HW.out⟩⟩
        · by_cases hb2 : b = true ∧ high ≤ x
          · have Hbad : Hid (badAt ks high b (m + 1)) := by show badAt ks high b (m + 1); exact .inr ⟨hb2.1, by rw [XD.out]; exact hb2.2⟩
            obtain ⟨rfl, hb3⟩ := hb2
            go_wp2_with fail
            go_ret2
            exact ⟨fun h => absurd h (HB.out Hbad.out), fun _ => ⟨rfl, HW.out⟩⟩
          · have Hng : Hid (¬ badAt ks high b (m + 1)) := by
              show ¬ badAt ks high b (m + 1)
              rintro (⟨_, h⟩ | ⟨h, h'⟩)
              · rw [XD.out, Nat.add_sub_cancel, ZD.out] at h; exact hb1 h
              · rw [XD.out] at h'; exact hb2 ⟨h, h'⟩
            cases b
            · clear hb2
              go_wp2_with fail
              go_roundw
              case rel => exact ⟨m + 1 + 1, by omega, by go_num, HN.out Hng.out, M1.out⟩
              case measure => simp [intOf]; omega
            · have hb3 : ¬ high ≤ x := fun h => hb2 ⟨rfl, h⟩
              clear hb2
              go_wp2_with fail
              go_roundw
              case rel => exact ⟨m + 1 + 1, by omega, by go_num, HN.out Hng.out, M1.out⟩
              case measure => simp [intOf]; omega
    · obtain rfl : k = ks.length := by omega
      have z0 : wr.cell? ⟨w.heap.size, 0, none⟩ = some (.int .u64 (encF ks vs ks.length 0)) := HM.out.1.cell (by omega)
      have z1 : wr.cell? ⟨w.heap.size, 1, none⟩ = some (.int .u64 (encF ks vs ks.length 1)) := HM.out.1.cell (by omega)
      have z2 : wr.cell? ⟨w.heap.size, 2, none⟩ = some (.int .u64 (encF ks vs ks.length 2)) := HM.out.1.cell (by omega)
      have z3 : wr.cell? ⟨w.heap.size, 3, none⟩ = some (.int .u64 (encF ks vs ks.length 3)) := HM.out.1.cell (by omega)
      have f0 := HM.out.1.frozen 0; have f1 := HM.out.1.frozen 1; have f2 := HM.out.1.frozen 2; have f3 := HM.out.1.frozen 3
      have ho := order_any _ _ 0 (enc_slots HM.out) (by simpa using h12) (fun s hs => by simp at hs; omega) (by omega)
      rw [show ((0 : Nat) : Int) = 0 from rfl] at ho
      have HO := Lib.hid ho; clear ho
      clear hold
      cases b
      · go_wp2_with (go_at_call 45; (with_reducible refine HO.out.mono ?_); rintro e w' ⟨rfl, rfl⟩)
        go_ret2
        exact ⟨fun _ => enc_end ⟨HM.out.1, HM.out.2.2⟩ h12 next high false _ rfl, fun h => absurd HG.out h⟩
      · go_wp2_with (go_at_call 45; (with_reducible refine HO.out.mono ?_); rintro e w' ⟨rfl, rfl⟩)
        go_ret2
        exact ⟨fun _ => enc_end ⟨HM.out.1, HM.out.2.2⟩ h12 next high true _ rfl, fun h => absurd HG.out h⟩
end
end Go.Proofs.Ytkoijmoendepgaa
