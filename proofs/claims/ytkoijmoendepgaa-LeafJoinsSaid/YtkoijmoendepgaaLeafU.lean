/- The walk of LeafRefuses. -/
import Derived.Test.YtkoijmoendepgaaLeafT
namespace Go.Proofs.Ytkoijmoendepgaa
open Go.RowKit

section
variable {w : World} {v : DV} {own : Nat → Option Role} {D : Dev} {j p : Nat}
theorem isMem_nil : IsMem .nilIface := .inl rfl
theorem isMem_thr (a : Addr) : IsMem (.iface 39 (.pointer (some a))) := .inr ⟨a, rfl⟩
/-- Reading fails, the device stands, and nothing of w has changed. -/
structure RefSt (w : World) (v : DV) (own : Nat → Option Role) (D : Dev) (m : Value) (p : Nat) (e : Int) (wc : World) : Prop where
  read : ReadErr wc m p e
  dev : IsDev wc v own D
  bel : Below w.heap.size w wc
theorem RefSt.next {m : Value} {e : Int} {wc w1 : World} (h : RefSt w v own D m p e wc) (hb : Below wc.heap.size wc w1) : RefSt w v own D m p e w1 := ⟨h.read.below hb, h.dev.below hb, h.bel.trans (hb.mono h.bel.size)⟩
theorem RefSt.alloc {m : Value} {e : Int} {wc : World} (h : RefSt w v own D m p e wc) (o : Obj) : RefSt w v own D m p e (wc.alloc o) := h.next (below_alloc wc o)
/-- The device stands where nothing of w has changed. -/
structure DevSt (w : World) (v : DV) (own : Nat → Option Role) (D : Dev) (wc : World) : Prop where
  dev : IsDev wc v own D
  ob : ∀ k, own k ≠ none → w.heap.size ≤ k
  bel : Below w.heap.size w wc
theorem DevSt.step {wc w1 : World} {D' : Dev} (h : DevSt w v own D wc) (hp : DPost v own wc D' w1) : ∃ own', DevSt w v own' D' w1 := by
  obtain ⟨own', h1, h2, h3⟩ := hp.from h.ob h.bel.size
  exact ⟨own', h1, h2, h.bel.trans h3⟩
theorem err1_any (h : IsDev w v own D) (he : D.err 1 = 0) : Calls Try.prog 24 #[.pointer (some ⟨v.tb 1, 0, none⟩)] w fun r w' => r = .returned (.int .i64 0) ∧ w = w' := by
  have := err_any h (j := 1) (by omega); rw [he] at this; exact this
theorem thread0_any (h : IsDev w v own D) : Calls Try.prog 14 #[.pointer (some ⟨v.db, 0, none⟩), .int .i64 0] w fun r w' => r = .returned (.pointer (some ⟨v.tb 0, 0, none⟩)) ∧ w = w' := thread_any h (j := 0) (by omega)
theorem thread1_any (h : IsDev w v own D) : Calls Try.prog 14 #[.pointer (some ⟨v.db, 0, none⟩), .int .i64 1] w fun r w' => r = .returned (.pointer (some ⟨v.tb 1, 0, none⟩)) ∧ w = w' := thread_any h (j := 1) (by omega)
theorem arm0_any (h : IsDev w v own D) : Calls Try.prog 13 #[.pointer (some ⟨v.db, 0, none⟩), .int .i64 0] w fun r w' => r = .returned (.tuple #[]) ∧ DPost v own w (D.arm 0) w' := arm_any h 0 (by omega)
theorem new4_any : Calls Try.prog 12 #[.int .i64 4] w fun r w' => ∃ v own, r = .returned (.tuple #[.pointer (some ⟨v.db, 0, none⟩), .int .i64 0]) ∧ IsDev w' v own (Dev.fresh 4 (fun _ => 0)) ∧ (∀ k, own k ≠ none → w.heap.size ≤ k) ∧ Below w.heap.size w w' := new_any 4 (by omega) (by omega)
theorem new4_st {w1 w2 : World} (b1 : Below w.heap.size w w1) (h : IsDev w2 v own D ∧ (∀ k, own k ≠ none → w1.heap.size ≤ k) ∧ Below w1.heap.size w1 w2) : DevSt w v own D w2 :=
  ⟨h.1, fun k hk => Nat.le_trans b1.size (h.2.1 k hk), b1.trans (h.2.2.mono b1.size)⟩
theorem refuses_cases (off : Nat) (n p : Bool) : (wantE off n p = 1 ∧ n = true) ∨ (wantE off n p = 1 ∧ n = false ∧ ((makeP off).2 != 0) = true) ∨ (wantE off n p = 2 ∧ n = false ∧ ((makeP off).2 != 0) = false ∧ 32 < off) ∨
    (wantE off n p = 3 ∧ n = false ∧ ((makeP off).2 != 0) = false ∧ ¬ 32 < off ∧ p = true) ∨ (n = false ∧ makeP off = (ptrN off, 0) ∧ 0 < off ∧ off % 8 = 0 ∧ ¬ 32 < off ∧ p = false) := by
  by_cases hn : n = true
  · exact .inl ⟨by unfold wantE; rw [if_pos hn], hn⟩
  · have hn' : n = false := by simpa using hn
    by_cases hb : (makeP off).2 = 0
    · have hb' : ((makeP off).2 != 0) = false := by simp [hb]
      by_cases h32 : 32 < off
      · exact .inr (.inr (.inl ⟨by unfold wantE; rw [if_neg hn, if_neg (by simpa using hb), if_pos h32], hn', hb', h32⟩))
      · by_cases hp : p = true
        · exact .inr (.inr (.inr (.inl ⟨by unfold wantE; rw [if_neg hn, if_neg (by simpa using hb), if_neg h32, if_pos hp], hn', hb', h32, hp⟩)))
        · have he : ¬ (off = 0 ∨ off % 8 ≠ 0) := fun h => by unfold makeP at hb; rw [if_pos h] at hb; simp at hb
          have h2 : ¬ 34359738360 < off := fun h => by omega
          exact .inr (.inr (.inr (.inr ⟨hn', by unfold makeP; rw [if_neg he, if_neg h2], by omega, by omega, h32, by simpa using hp⟩)))
    · exact .inr (.inl ⟨by unfold wantE; rw [if_neg hn, if_pos (by simpa using hb)], hn', by simpa using hb⟩)

theorem refSt_at1 {e : Int} {wc w1 : World} {power none : Bool} {off : Nat} (h : DevSt w v own (refD power) wc) (hoff : off < 18446744073709551616) (hb : Below wc.heap.size wc w1) (hw : wantE off none power = e) (he : e ≠ 0)
    (hm : (if none then Value.nilIface else .iface 39 (.pointer (some ⟨v.tb 0, 0, .none⟩))) = .nilIface) : RefSt w v own (refD power) .nilIface (makeP off).1 e w1 := by
  have hd := h.dev.below hb
  have hr := refuses_err (none := none) hd hoff (by rw [hw]; exact he)
  rw [hm, hw] at hr
  exact ⟨hr, hd, h.bel.trans (hb.mono h.bel.size)⟩
theorem refSt_at2 {e : Int} {wc w1 : World} {power none : Bool} {off : Nat} (h : DevSt w v own (refD power) wc) (hoff : off < 18446744073709551616) (hb : Below wc.heap.size wc w1) (hw : wantE off none power = e) (he : e ≠ 0)
    (hm : (if none then Value.nilIface else .iface 39 (.pointer (some ⟨v.tb 0, 0, .none⟩))) = (.iface 39 (.pointer (some ⟨v.tb 0, 0, .none⟩)))) : RefSt w v own (refD power) (.iface 39 (.pointer (some ⟨v.tb 0, 0, .none⟩))) (makeP off).1 e w1 := by
  have hd := h.dev.below hb
  have hr := refuses_err (none := none) hd hoff (by rw [hw]; exact he)
  rw [hm, hw] at hr
  exact ⟨hr, hd, h.bel.trans (hb.mono h.bel.size)⟩
theorem ents_len {es : List (Int × Int)} {r : Ending} {w' : World} (h : EntsPost w es r w') : ∃ a c, r = .returned (.slice a es.length c) ∧ Below w.heap.size w w' := by
  obtain ⟨v, rfl, h1, h2⟩ := h
  obtain ⟨a, c, rfl⟩ := ownsRow_slice h1
  exact ⟨a, c, rfl, h2⟩

theorem zero_get {v : DV} {own : Nat → Option Role} {D : Dev} {p : Nat} (h : NodeAt w v own D 0 p) (he : nodeW D p = fun _ => 0) : Calls Try.prog 18 #[.agg #[.iface 39 (.pointer (some ⟨v.tb 0, 0, none⟩)), .int .u64 p], .int .u64 1] w
    fun r w' => r = .returned (.tuple #[.int .u64 0, .int .i64 5]) ∧ Below w.heap.size w w' := by
  refine (get_any h 1).mono ?_
  rintro r w' ⟨hb, ⟨_, rfl⟩ | ⟨hbad, _⟩⟩
  · rw [he]; refine ⟨?_, hb⟩; unfold getV; rw [zero_slots]; rfl
  · rw [he] at hbad; exact absurd (zero_ok _) hbad
theorem zero_len {v : DV} {own : Nat → Option Role} {D : Dev} {p : Nat} (h : NodeAt w v own D 0 p) (he : nodeW D p = fun _ => 0) : Calls Try.prog 21 #[.agg #[.iface 39 (.pointer (some ⟨v.tb 0, 0, none⟩)), .int .u64 p]] w
    fun r w' => r = .returned (.int .i64 0) ∧ Below w.heap.size w w' := by
  refine (len_any h).mono ?_
  rintro r w' ⟨hb, ⟨_, rfl⟩ | ⟨hbad, _⟩⟩
  · rw [he, zero_slots]; exact ⟨rfl, hb⟩
  · rw [he] at hbad; exact absurd (zero_ok _) hbad
theorem zero_check {v : DV} {own : Nat → Option Role} {D : Dev} {p : Nat} (h : NodeAt w v own D 0 p) (he : nodeW D p = fun _ => 0) : Calls Try.prog 20 #[.agg #[.iface 39 (.pointer (some ⟨v.tb 0, 0, none⟩)), .int .u64 p]] w
    fun r w' => r = .returned (.int .i64 0) ∧ Below w.heap.size w w' := by
  refine (check_any h).mono ?_
  rintro r w' ⟨hb, ⟨_, rfl⟩ | ⟨hbad, _⟩⟩
  · exact ⟨rfl, hb⟩
  · rw [he] at hbad; exact absurd (zero_ok _) hbad
theorem zero_plan {v : DV} {own : Nat → Option Role} {D : Dev} {p : Nat} (h : NodeAt w v own D 0 p) (he : nodeW D p = fun _ => 0) : Calls Try.prog 19 #[.agg #[.iface 39 (.pointer (some ⟨v.tb 0, 0, none⟩)), .int .u64 p], .int .u64 1, .int .u64 1] w
    fun r w' => ∃ pv, r = .returned (.tuple #[pv, .int .i64 0]) ∧ Below w.heap.size w w' := by
  refine (planPut_new h 1 1 (by rw [he]; exact zero_ok _) (by rw [he]; decide) (by rw [he, zero_slots]; decide) (by rw [he, zero_slots]; decide)).mono ?_
  rintro r w' ⟨hb, pv, rfl, _⟩
  exact ⟨pv, rfl, hb⟩

/-- The node can be read and is empty; nothing of w has changed. -/
structure OkSt (w : World) (v : DV) (own : Nat → Option Role) (D : Dev) (p : Nat) (wc : World) : Prop where
  node : NodeAt wc v own D 0 p
  zero : nodeW D p = fun _ => 0
  bel : Below w.heap.size w wc
theorem OkSt.next {wc w1 : World} (h : OkSt w v own D p wc) (hb : Below wc.heap.size wc w1) : OkSt w v own D p w1 := ⟨h.node.below hb, h.zero, h.bel.trans (hb.mono h.bel.size)⟩
theorem OkSt.alloc {wc : World} (h : OkSt w v own D p wc) (o : Obj) : OkSt w v own D p (wc.alloc o) := h.next (below_alloc wc o)

set_option maxRecDepth 100000 in
set_option maxHeartbeats 8000000 in
theorem leafRefuses_ok (off : Nat) (hoff : off < 18446744073709551616) (hmk : makeP off = (ptrN off, 0)) (h0 : 0 < off) (h8 : off % 8 = 0) (h32 : ¬ 32 < off) :
    Calls Try.prog 4 #[.int .u64 off, .bool false, .bool false] w fun r w' => r = .returned (.bool true) ∧ Below w.heap.size w w' := by
  have HN := Lib.hid (fun wx => new4_any (w := wx))
  have hK := fun wx => make_all (w := wx) off hoff
  rw [hmk] at hK
  have HK := Lib.hid hK
  have h32' : ¬ (32 : Int) < off := by omega
  clear hK hmk
  go_enter Try.func4, Try.ntmps4
  go_wp2_with fail
  (with_reducible refine awake_any.mono ?_)
  rintro e w1 ⟨rfl, b1⟩
  have HB1 := Lib.hid b1; clear b1
  go_wp2_with fail
  (with_reducible refine (HN.out _).mono ?_)
  rintro e w2 ⟨v, own, rfl, d2⟩
  have H2 := Lib.hid (new4_st HB1.out d2); clear d2 HN HB1
  go_wp2_with fail
  (with_reducible refine (HK.out _).mono ?_)
  rintro e w' ⟨rfl, rfl⟩
  go_wp2_with fail
  (with_reducible refine (thread0_any H2.out.dev).mono ?_)
  rintro e w' ⟨rfl, rfl⟩
  go_wp2_with fail
  (with_reducible refine (at_any _ _ (.inr ⟨_, _, rfl⟩)).mono ?_)
  rintro e w5 ⟨rfl, b5⟩
  have H5 : Hid (OkSt w v own (refD false) (ptrN off) w5) := by
    have hd := H2.out.dev.below b5
    have hz := zero_node (off := off) hd h0 h8 (by omega)
    exact ⟨hz.1, hz.2, H2.out.bel.trans (b5.mono H2.out.bel.size)⟩
  clear b5 H2 HK
  go_wp2_with fail
  (with_reducible refine (zero_get (H5.out.alloc _).node H5.out.zero).mono ?_)
  rintro e w6 ⟨rfl, b6⟩
  have l0 : w6.cell? ⟨w5.heap.size, 0, none⟩ = some _ := cell_bel b6 ((Blk.new w5 _ 47).cell (i := 0) rfl)
  have l1 : w6.cell? ⟨w5.heap.size, 1, none⟩ = some _ := cell_bel b6 ((Blk.new w5 _ 47).cell (i := 1) rfl)
  have H6 := Lib.hid ((H5.out.alloc _).next b6); clear b6 H5
  go_wp2_with fail
  (with_reducible refine (zero_plan H6.out.node H6.out.zero).mono ?_)
  rintro e w7 ⟨pv, rfl, b7⟩
  have l0' := cell_bel b7 l0; have l1' := cell_bel b7 l1
  have H7 := Lib.hid (H6.out.next b7); clear b7 H6 l0 l1
  go_wp2_with fail
  (with_reducible refine (zero_check H7.out.node H7.out.zero).mono ?_)
  rintro e w8 ⟨rfl, b8⟩
  have l0 := cell_bel b8 l0'; have l1 := cell_bel b8 l1'
  have H8 := Lib.hid (H7.out.next b8); clear b8 H7 l0' l1'
  go_wp2_with fail
  (with_reducible refine (zero_len H8.out.node H8.out.zero).mono ?_)
  rintro e w9 ⟨rfl, b9⟩
  have H9 := Lib.hid (H8.out.next b9); clear b9 H8 l0 l1
  go_wp2_with fail
  go_ret
  exact ⟨rfl, H9.out.bel⟩

set_option maxRecDepth 100000 in
set_option maxHeartbeats 8000000 in
theorem leafRefuses1 (off : Nat) (hoff : off < 18446744073709551616) (n : Bool) :
    Calls Try.prog 4 #[.int .u64 off, .bool n, .bool true] w fun r w' => r = .returned (.bool true) ∧ Below w.heap.size w w' := by
  have HN := Lib.hid (fun wx => new4_any (w := wx))
  have HK := Lib.hid (fun wx => make_all (w := wx) off hoff)
  rcases refuses_cases off n true with ⟨hw, rfl⟩ | ⟨hw, rfl, hb⟩ | ⟨hw, rfl, hb, h32⟩ | ⟨hw, rfl, hb, h32, hp⟩ | ⟨rfl, hmk, h0, h8, h32, hp⟩
  all_goals try cases hp
  all_goals try (have hmk2 := hmk; with_reducible exact leafRefuses_ok off hoff hmk2 h0 h8 h32)
  all_goals try (have h32' : (32 : Int) < off := by omega)
  all_goals try (have h32' : ¬ (32 : Int) < off := by omega)
  all_goals
    have HW := Lib.hid hw; clear hw
    skip
    go_enter Try.func4, Try.ntmps4
    go_wp2_with fail
    (with_reducible refine awake_any.mono ?_)
    rintro e w1 ⟨rfl, b1⟩
    have HB1 := Lib.hid b1; clear b1
    go_wp2_with fail
    (with_reducible refine (HN.out _).mono ?_)
    rintro e w2 ⟨v, own, rfl, d2⟩
    have H2 := Lib.hid (new4_st HB1.out d2); clear d2 HN HB1
    go_wp2_with fail
    first
    | ((with_reducible refine (arm0_any H2.out.dev).mono ?_); rintro e w3 ⟨rfl, p3⟩; obtain ⟨own3, s3⟩ := H2.out.step p3; have H3 := Lib.hid s3; clear p3 s3 H2; go_wp2_with fail; (with_reducible refine (thread0_any H3.out.dev).mono ?_); rintro e w' ⟨rfl, rfl⟩; go_wp2_with fail; (with_reducible refine (fence_any H3.out.dev (j := 0) (by omega) (by decide)).mono ?_); rintro e w4 ⟨rfl, p4⟩; obtain ⟨own4, s4⟩ := H3.out.step p4; have H4 : Hid (DevSt w v own4 (refD true) w4) := s4; clear p4 s4 H3; go_wp2_with fail)
    | (have H4 : Hid (DevSt w v own (refD false) w2) := H2.out; clear H2)
    (with_reducible refine (HK.out _).mono ?_)
    rintro e w' ⟨rfl, rfl⟩
    go_wp2_with fail
    (with_reducible refine (thread0_any H4.out.dev).mono ?_)
    rintro e w' ⟨rfl, rfl⟩
    go_wp2_with fail
    (with_reducible refine (at_any _ _ (by first | exact .inl rfl | exact .inr ⟨_, _, rfl⟩)).mono ?_)
    rintro e w5 ⟨rfl, b5⟩
    first
    | have H5 := Lib.hid (refSt_at1 (off := off) (none := true) H4.out hoff b5 HW.out (by decide) rfl)
    | have H5 := Lib.hid (refSt_at2 (off := off) (none := false) H4.out hoff b5 HW.out (by decide) rfl)
    clear b5 H4 HK HW
    try clear hb h32 h32'
    generalize (makeP off).1 = pp at *
    go_wp2_with fail
    (with_reducible refine (get_err (H5.out.alloc _).read (by first | exact isMem_nil | exact isMem_thr _) (by decide) 1).mono ?_)
    rintro e w6 ⟨rfl, b6⟩
    have l0 : w6.cell? ⟨w5.heap.size, 0, none⟩ = some _ := cell_bel b6 ((Blk.new w5 _ 47).cell (i := 0) rfl)
    have l1 : w6.cell? ⟨w5.heap.size, 1, none⟩ = some _ := cell_bel b6 ((Blk.new w5 _ 47).cell (i := 1) rfl)
    have H6 := Lib.hid ((H5.out.alloc _).next b6); clear b6 H5
    go_wp2_with fail
    (with_reducible refine (planPut_err H6.out.read (by first | exact isMem_nil | exact isMem_thr _) (by decide) 1 1).mono ?_)
    rintro e w7 ⟨rfl, b7⟩
    have l0' := cell_bel b7 l0; have l1' := cell_bel b7 l1
    have H7 := Lib.hid (H6.out.next b7); clear b7 H6 l0 l1
    go_wp2_with fail
    (with_reducible refine (planDelete_err H7.out.read (by first | exact isMem_nil | exact isMem_thr _) (by decide) 1).mono ?_)
    rintro e w8 ⟨rfl, b8⟩
    have l0 := cell_bel b8 l0'; have l1 := cell_bel b8 l1'
    have H8 := Lib.hid (H7.out.next b8); clear b8 H7 l0' l1'
    go_wp2_with fail
    (with_reducible refine (check_err H8.out.read (by first | exact isMem_nil | exact isMem_thr _) (by decide)).mono ?_)
    rintro e w9 ⟨rfl, b9⟩
    have l0' := cell_bel b9 l0; have l1' := cell_bel b9 l1
    have H9 := Lib.hid (H8.out.next b9); clear b9 H8 l0 l1
    go_wp2_with fail
    (with_reducible refine (len_err H9.out.read (by first | exact isMem_nil | exact isMem_thr _) (by decide)).mono ?_)
    rintro e w10 ⟨rfl, b10⟩
    have l0 := cell_bel b10 l0'; have l1 := cell_bel b10 l1'
    have H10 := Lib.hid (H9.out.next b10); clear b10 H9 l0' l1'
    go_wp2_with fail
    (with_reducible refine (entries_any _ _ [] (by first | exact isMem_nil | exact isMem_thr _) (yields_err H10.out.read (by decide)) (by simp)).mono ?_)
    rintro e w11 he
    obtain ⟨ea, ec, rfl, b11⟩ := ents_len he
    have H11 := Lib.hid (H10.out.next b11); clear b11 H10 l0 l1 he
    rw [show ([] : List (Int × Int)).length = 0 from rfl]
    go_wp2_with fail
    (with_reducible refine (thread1_any H11.out.dev).mono ?_)
    rintro e w' ⟨rfl, rfl⟩
    go_wp2_with fail
    (with_reducible refine (err1_any H11.out.dev (refD_err1 _)).mono ?_)
    rintro e w' ⟨rfl, rfl⟩
    go_wp2_with fail
    go_ret
    exact ⟨rfl, H11.out.bel⟩
set_option maxRecDepth 100000 in
set_option maxHeartbeats 8000000 in
theorem leafRefuses2 (off : Nat) (hoff : off < 18446744073709551616) (n : Bool) :
    Calls Try.prog 4 #[.int .u64 off, .bool n, .bool false] w fun r w' => r = .returned (.bool true) ∧ Below w.heap.size w w' := by
  have HN := Lib.hid (fun wx => new4_any (w := wx))
  have HK := Lib.hid (fun wx => make_all (w := wx) off hoff)
  rcases refuses_cases off n false with ⟨hw, rfl⟩ | ⟨hw, rfl, hb⟩ | ⟨hw, rfl, hb, h32⟩ | ⟨hw, rfl, hb, h32, hp⟩ | ⟨rfl, hmk, h0, h8, h32, hp⟩
  all_goals try cases hp
  all_goals try (have hmk2 := hmk; with_reducible exact leafRefuses_ok off hoff hmk2 h0 h8 h32)
  all_goals try (have h32' : (32 : Int) < off := by omega)
  all_goals try (have h32' : ¬ (32 : Int) < off := by omega)
  all_goals
    have HW := Lib.hid hw; clear hw
    skip
    go_enter Try.func4, Try.ntmps4
    go_wp2_with fail
    (with_reducible refine awake_any.mono ?_)
    rintro e w1 ⟨rfl, b1⟩
    have HB1 := Lib.hid b1; clear b1
    go_wp2_with fail
    (with_reducible refine (HN.out _).mono ?_)
    rintro e w2 ⟨v, own, rfl, d2⟩
    have H2 := Lib.hid (new4_st HB1.out d2); clear d2 HN HB1
    go_wp2_with fail
    first
    | ((with_reducible refine (arm0_any H2.out.dev).mono ?_); rintro e w3 ⟨rfl, p3⟩; obtain ⟨own3, s3⟩ := H2.out.step p3; have H3 := Lib.hid s3; clear p3 s3 H2; go_wp2_with fail; (with_reducible refine (thread0_any H3.out.dev).mono ?_); rintro e w' ⟨rfl, rfl⟩; go_wp2_with fail; (with_reducible refine (fence_any H3.out.dev (j := 0) (by omega) (by decide)).mono ?_); rintro e w4 ⟨rfl, p4⟩; obtain ⟨own4, s4⟩ := H3.out.step p4; have H4 : Hid (DevSt w v own4 (refD true) w4) := s4; clear p4 s4 H3; go_wp2_with fail)
    | (have H4 : Hid (DevSt w v own (refD false) w2) := H2.out; clear H2)
    (with_reducible refine (HK.out _).mono ?_)
    rintro e w' ⟨rfl, rfl⟩
    go_wp2_with fail
    (with_reducible refine (thread0_any H4.out.dev).mono ?_)
    rintro e w' ⟨rfl, rfl⟩
    go_wp2_with fail
    (with_reducible refine (at_any _ _ (by first | exact .inl rfl | exact .inr ⟨_, _, rfl⟩)).mono ?_)
    rintro e w5 ⟨rfl, b5⟩
    first
    | have H5 := Lib.hid (refSt_at1 (off := off) (none := true) H4.out hoff b5 HW.out (by decide) rfl)
    | have H5 := Lib.hid (refSt_at2 (off := off) (none := false) H4.out hoff b5 HW.out (by decide) rfl)
    clear b5 H4 HK HW
    try clear hb h32 h32'
    generalize (makeP off).1 = pp at *
    go_wp2_with fail
    (with_reducible refine (get_err (H5.out.alloc _).read (by first | exact isMem_nil | exact isMem_thr _) (by decide) 1).mono ?_)
    rintro e w6 ⟨rfl, b6⟩
    have l0 : w6.cell? ⟨w5.heap.size, 0, none⟩ = some _ := cell_bel b6 ((Blk.new w5 _ 47).cell (i := 0) rfl)
    have l1 : w6.cell? ⟨w5.heap.size, 1, none⟩ = some _ := cell_bel b6 ((Blk.new w5 _ 47).cell (i := 1) rfl)
    have H6 := Lib.hid ((H5.out.alloc _).next b6); clear b6 H5
    go_wp2_with fail
    (with_reducible refine (planPut_err H6.out.read (by first | exact isMem_nil | exact isMem_thr _) (by decide) 1 1).mono ?_)
    rintro e w7 ⟨rfl, b7⟩
    have l0' := cell_bel b7 l0; have l1' := cell_bel b7 l1
    have H7 := Lib.hid (H6.out.next b7); clear b7 H6 l0 l1
    go_wp2_with fail
    (with_reducible refine (planDelete_err H7.out.read (by first | exact isMem_nil | exact isMem_thr _) (by decide) 1).mono ?_)
    rintro e w8 ⟨rfl, b8⟩
    have l0 := cell_bel b8 l0'; have l1 := cell_bel b8 l1'
    have H8 := Lib.hid (H7.out.next b8); clear b8 H7 l0' l1'
    go_wp2_with fail
    (with_reducible refine (check_err H8.out.read (by first | exact isMem_nil | exact isMem_thr _) (by decide)).mono ?_)
    rintro e w9 ⟨rfl, b9⟩
    have l0' := cell_bel b9 l0; have l1' := cell_bel b9 l1
    have H9 := Lib.hid (H8.out.next b9); clear b9 H8 l0 l1
    go_wp2_with fail
    (with_reducible refine (len_err H9.out.read (by first | exact isMem_nil | exact isMem_thr _) (by decide)).mono ?_)
    rintro e w10 ⟨rfl, b10⟩
    have l0 := cell_bel b10 l0'; have l1 := cell_bel b10 l1'
    have H10 := Lib.hid (H9.out.next b10); clear b10 H9 l0' l1'
    go_wp2_with fail
    (with_reducible refine (entries_any _ _ [] (by first | exact isMem_nil | exact isMem_thr _) (yields_err H10.out.read (by decide)) (by simp)).mono ?_)
    rintro e w11 he
    obtain ⟨ea, ec, rfl, b11⟩ := ents_len he
    have H11 := Lib.hid (H10.out.next b11); clear b11 H10 l0 l1 he
    rw [show ([] : List (Int × Int)).length = 0 from rfl]
    go_wp2_with fail
    (with_reducible refine (thread1_any H11.out.dev).mono ?_)
    rintro e w' ⟨rfl, rfl⟩
    go_wp2_with fail
    (with_reducible refine (err1_any H11.out.dev (refD_err1 _)).mono ?_)
    rintro e w' ⟨rfl, rfl⟩
    go_wp2_with fail
    go_ret
    exact ⟨rfl, H11.out.bel⟩
end
end Go.Proofs.Ytkoijmoendepgaa
