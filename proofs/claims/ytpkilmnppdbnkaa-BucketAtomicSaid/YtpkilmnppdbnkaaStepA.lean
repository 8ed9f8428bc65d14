/- Steppers: a program that is executed instruction by instruction. -/
import Derived.Test.YtpkilmnppdbnkaaMemA
import Derived.Deep.RegionHeld3
namespace Go.Proofs.Ytpkilmnppdbnkaa
open Go.RowKit

section
variable {w : World} {v : DV} {own : Nat → Option Role} {D : Dev} {j : Nat}
set_option maxRecDepth 100000 in
set_option maxHeartbeats 1000000 in
theorem cloneP_any (a : Addr) (n c : Nat) (xs : List Value) (h : RdSl w 3 (.slice (some a) n c) n xs) (h1 : ∀ u ∈ xs, u.oneCell' = true) (hn : n ≤ 100000) :
    Calls Try.prog 68 #[.slice (some a) n c] w fun r w' => ∃ g cap, r = .returned (.slice (some ⟨g, 0, none⟩) n cap) ∧ OwnSl w' 98 3 (.slice (some ⟨g, 0, none⟩) n cap) n xs ∧ w.heap.size ≤ g ∧ Below w.heap.size w w' := by
  obtain ⟨i0, hi, hz0, hz1, hz2⟩ := info_parts infoInstr
  have I := Lib.hid (And.intro hi (And.intro hz0 (And.intro hz1 hz2))); clear hi hz0 hz1 hz2
  have H := Lib.hid h; have H1 := Lib.hid h1; clear h h1
  have hq := fun wx => Lib.run_eql_slice_nil (P := Try.prog) wx 48 98 (some a) n c 0 0 Try.underlying48
  go_enter Try.func68, Try.ntmps68
  go_wp2_with (at_builtin; refine wpList_append_sl _ rfl _ _ 48 rfl 98 i0 _ 3 24 Try.underlying48 I.out.1 I.out.2.1 I.out.2.2.1 I.out.2.2.2 rfl (by decide) _ 0 [] rfl ?h0 _ n xs rfl ?h1 ?h2 ?h3 ?h4 ?_)
  case h0 => exact OwnSl.new _ _ _ 3 0 0 rfl (Nat.le_refl _) (Nat.zero_le _)
  case h1 => exact H.out.alloc _
  case h2 => exact H1.out
  case h3 => unfold maxLen; omega
  case h4 => omega
  intro v' w1 o1 g1 b1 n1
  have O1 := Lib.hid o1; have G1 := Lib.hid g1; have B1 := Lib.hid b1; clear o1 g1 b1 n1
  go_wp2
  go_ret
  have hb : Below w.heap.size w w1 := ((Below.refl _ _).alloc (Nat.le_refl _) _).grown G1.out (by simp) (fun k hk => by cases hk; exact Nat.le_refl _)
  obtain ⟨a', c', hv⟩ := O1.out.slice
  have O2 := O1.out
  have B2 := B1.out
  rw [hv] at O2 B2
  rcases B2 with h | h
  · simp only [slAddr] at h
    subst h
    exact ⟨w.heap.size, c', by rw [← hv]; rfl, O2, Nat.le_refl _, hb⟩
  · simp only [slAddr] at h
    subst h
    exact ⟨w.heap.size + 1, c', by rw [← hv]; rfl, O2, Nat.le_succ _, hb⟩
/-- A stepper in block sb, before the program l; nothing of it is the device's. -/
structure StpAt (w : World) (own : Nat → Option Role) (sb : Nat) (t : Addr) (l : List (Nat × Nat × Int)) : Prop where
  rest : ∃ rv, Blk w sb #[.iface 56 (.pointer (some t)), rv] 137 ∧ RdSl w 3 rv l.length (instrC l) ∧ ∀ k, rv.ownBlock = some k → own k = none ∧ k ≠ sb ∧ k < w.heap.size
  osb : own sb = none
theorem StpAt.lt {sb : Nat} {t : Addr} {l : List (Nat × Nat × Int)} (h : StpAt w own sb t l) : sb < w.heap.size := by obtain ⟨_, h1, _⟩ := h.rest; exact h1.lt
theorem StpAt.below {sb : Nat} {t : Addr} {l : List (Nat × Nat × Int)} {w' : World} (h : StpAt w own sb t l) (hb : Below w.heap.size w w') : StpAt w' own sb t l := by
  obtain ⟨rv, h1, h2, h3⟩ := h.rest
  exact ⟨⟨rv, h1.below hb, h2.below hb, fun k hk => ⟨(h3 k hk).1, (h3 k hk).2.1, Nat.lt_of_lt_of_le (h3 k hk).2.2 hb.size⟩⟩, h.osb⟩
set_option maxRecDepth 100000 in
set_option maxHeartbeats 1000000 in
theorem memStep_any (t : Addr) (a : Addr) (c : Nat) (l : List (Nat × Nat × Int)) (h : RdSl w 3 (.slice (some a) l.length c) l.length (instrC l)) (hi : instrOk l) (hl : l.length ≤ 100000) :
    Calls Try.prog 32 #[.iface 56 (.pointer (some t)), .slice (some a) l.length c] w fun r w' => ∃ sb, r = .returned (.pointer (some ⟨sb, 0, none⟩)) ∧ (∀ own : Nat → Option Role, (∀ k, own k ≠ none → k < w.heap.size) → StpAt w' own sb t l) ∧ w.heap.size ≤ sb ∧ Below w.heap.size w w' := by
  have HV := Lib.hid (mvalid_any _ l h hi hl)
  have H := Lib.hid h
  clear h
  go_enter Try.func32, Try.ntmps32
  go_wp2_with fail
  (with_reducible refine HV.out.mono ?_)
  rintro e w1 ⟨rfl, b1⟩
  have B1 := Lib.hid b1; clear b1
  have HC := Lib.hid (cloneP_any a l.length c (instrC l) (H.out.below B1.out) (instrC_one l) hl)
  go_wp2_with fail
  (with_reducible refine HC.out.mono ?_)
  rintro e w2 ⟨g, cap, rfl, o2, hg, b2⟩
  have O2 := Lib.hid (And.intro o2 (And.intro hg b2)); clear o2 hg b2
  go_wp2_with fail
  go_ret
  refine ⟨w2.heap.size, rfl, fun own hown => ⟨⟨_, Blk.new _ _ _, O2.out.1.rd.alloc _, fun k hk => ?_⟩, ?_⟩, ?_, ?_⟩
  · have h1 := O2.out.1.lt k hk
    simp [Value.ownBlock] at hk; subst hk
    have := O2.out.2.1; have := B1.out.size
    exact ⟨Classical.byContradiction (fun h => by have := hown _ h; omega), by omega, by simp; omega⟩
  · exact Classical.byContradiction (fun h => by have := hown _ h; have := O2.out.2.2.size; have := B1.out.size; omega)
  · have := O2.out.2.2.size; have := B1.out.size; omega
  · exact B1.out.trans ((O2.out.2.2.mono B1.out.size).trans ((Below.refl _ _).alloc (by have := O2.out.2.2.size; have := B1.out.size; omega) _))
/-- One instruction is executed; the stepper stands before the rest. -/
def StpPost (w : World) (v : DV) (own : Nat → Option Role) (D' : Dev) (sb : Nat) (t : Addr) (l : List (Nat × Nat × Int)) (r : Ending) (w' : World) : Prop :=
  r = .returned (.bool (decide (l.length = 0))) ∧ ∃ own', StpAt w' own' sb t l ∧ IsDev w' v own' D' ∧ (∀ k, k < w.heap.size → own' k = own k) ∧ Upd (fun k => own k ≠ none ∨ k = sb) w w'
theorem stp_mid {sb : Nat} (h : IsDev w v own D) (hob : own sb = none) (o : Obj) (u : Value) : IsDev ((w.setCell ⟨sb, 1, none⟩ u).alloc o).drew v own D :=
  ((h.upd (S := fun k => k = sb) ((Upd.refl (fun k => k = sb) w).setCell (p := ⟨sb, 1, none⟩) (fun _ => rfl) u) (fun k hk e => hk (by rw [e]; exact hob))).alloc o).drew
theorem stp_end {sb n : Nat} {t : Addr} {l : List (Nat × Nat × Int)} {D' : Dev} {rv nv : Value} {o : Obj} {w' : World} (hsb : Blk w sb #[.iface 56 (.pointer (some t)), rv] 137) (hob : own sb = none) (hn : l.length = n)
    (hd : RdSl w 3 nv n (instrC l)) (hrb : ∀ k, nv.ownBlock = some k → own k = none ∧ k ≠ sb ∧ k < w.heap.size) (hp : DPost v own ((w.setCell ⟨sb, 1, none⟩ nv).alloc o).drew D' w') :
    ∃ own', StpAt w' own' sb t l ∧ IsDev w' v own' D' ∧ (∀ k, k < w.heap.size → own' k = own k) ∧ Upd (fun k => own k ≠ none ∨ k = sb) w w' := by
  obtain ⟨own', d, ho, u⟩ := hp
  have u0 : Upd (fun k => k = sb) w ((w.setCell ⟨sb, 1, none⟩ nv).alloc o).drew := (((Upd.refl (fun k => k = sb) w).setCell (p := ⟨sb, 1, none⟩) (fun _ => rfl) nv).alloc o).drew
  have hz : w.heap.size ≤ ((w.setCell ⟨sb, 1, none⟩ nv).alloc o).drew.heap.size := u0.size
  have b1 : Blk ((w.setCell ⟨sb, 1, none⟩ nv).alloc o).drew sb #[.iface 56 (.pointer (some t)), nv] 137 := ((hsb.set 1 nv).alloc o).drew
  have ut : Upd (fun k => own k ≠ none ∨ k = sb) w w' := (u0.mono (fun i _ h => .inr h)).trans u (fun i _ h => .inl h)
  have ho' : ∀ k, k < w.heap.size → own' k = own k := fun k hk => ho k (by omega)
  refine ⟨own', ⟨⟨nv, b1.upd u (by simpa using hob), ?_, fun k hk => ?_⟩, by rw [ho' _ hsb.lt]; exact hob⟩, d, ho', ut⟩
  · rw [hn]
    exact hd.kept (fun k hk hlt => ut.block k hlt (by
      have h1 := hrb k hk
      intro h
      rcases h with h | h
      · exact h h1.1
      · exact h1.2.1 h))
  · have h1 := hrb k hk
    exact ⟨by rw [ho' _ h1.2.2]; exact h1.1, h1.2.1, Nat.lt_of_lt_of_le h1.2.2 ut.size⟩
/-- What the region of the call reads. -/
abbrev StpS (w : World) (sb : Nat) (t : Addr) (op off : Nat) (x : Int) (wx : World) : Prop :=
  wx.cell? ⟨w.heap.size, 0, none⟩ = some (.int .u8 op) ∧ wx.cell? ⟨w.heap.size, 1, none⟩ = some (.int .u64 off) ∧ wx.cell? ⟨w.heap.size, 2, none⟩ = some (.int .u64 x) ∧ wx.cell? ⟨sb, 0, none⟩ = some (.iface 56 (.pointer (some t)))
theorem stp_s0 {sb op off : Nat} {x : Int} {t : Addr} {rv nv : Value} (hsb : Blk w sb #[.iface 56 (.pointer (some t)), rv] 137) : StpS w sb t op off x ((w.setCell ⟨sb, 1, none⟩ nv).alloc (.cells #[.int .u8 op, .int .u64 off, .int .u64 x] 98)).drew := by
  have h1 : Blk ((w.setCell ⟨sb, 1, none⟩ nv).alloc (.cells #[.int .u8 op, .int .u64 off, .int .u64 x] 98)) w.heap.size #[.int .u8 op, .int .u64 off, .int .u64 x] 98 := by
    have := Blk.new (w.setCell ⟨sb, 1, none⟩ nv) #[.int .u8 op, .int .u64 off, .int .u64 x] 98
    rwa [show (w.setCell ⟨sb, 1, none⟩ nv).heap.size = w.heap.size by simp [World.setCell]] at this
  have h2 := (((hsb.set 1 nv).alloc (.cells #[.int .u8 op, .int .u64 off, .int .u64 x] 98)).drew).cell (i := 0) (v := .iface 56 (.pointer (some t))) rfl
  exact ⟨h1.drew.cell rfl, h1.drew.cell rfl, h1.drew.cell rfl, h2⟩
theorem stp_s1 {sb op off : Nat} {x : Int} {t : Addr} {rv nv : Value} {D' : Dev} {w' : World} (hsb : Blk w sb #[.iface 56 (.pointer (some t)), rv] 137) (hob : own sb = none) (hB : ∀ k, own k ≠ none → k < w.heap.size)
    (hp : DPost v own ((w.setCell ⟨sb, 1, none⟩ nv).alloc (.cells #[.int .u8 op, .int .u64 off, .int .u64 x] 98)).drew D' w') : StpS w sb t op off x w' := by
  obtain ⟨own', d, ho, u⟩ := hp
  have hsz : w.heap.size = (w.setCell ⟨sb, 1, none⟩ nv).heap.size := by simp [World.setCell]
  have h1 : Blk ((w.setCell ⟨sb, 1, none⟩ nv).alloc (.cells #[.int .u8 op, .int .u64 off, .int .u64 x] 98)).drew w.heap.size #[.int .u8 op, .int .u64 off, .int .u64 x] 98 := by
    have := Blk.new (w.setCell ⟨sb, 1, none⟩ nv) #[.int .u8 op, .int .u64 off, .int .u64 x] 98
    rw [← hsz] at this; exact this.drew
  have h2 : Blk ((w.setCell ⟨sb, 1, none⟩ nv).alloc (.cells #[.int .u8 op, .int .u64 off, .int .u64 x] 98)).drew sb #[.iface 56 (.pointer (some t)), nv] 137 := ((hsb.set 1 nv).alloc _).drew
  have hlt := hsb.lt
  have h3 := h1.upd u (by intro h; have := hB _ h; omega)
  have h4 := h2.upd u (by simpa using hob)
  exact ⟨h3.cell rfl, h3.cell rfl, h3.cell rfl, h4.cell rfl⟩
set_option maxRecDepth 100000 in
set_option maxHeartbeats 2000000 in
theorem stpStep_any {sb : Nat} {e : Nat × Nat × Int} {l : List (Nat × Nat × Int)} (h : IsDev w v own D) (hj : j < 8) (hs : StpAt w own sb ⟨v.tb j, 0, none⟩ (e :: l)) (he : 1 ≤ e.1 ∧ e.1 ≤ 3 ∧ e.2.1 < 18446744073709551616) (hl : l.length ≤ 100000) (hx : D.exec < 4294967296) :
    Calls Try.prog 33 #[.pointer (some ⟨sb, 0, none⟩)] w (StpPost w v own (D.step j e) sb ⟨v.tb j, 0, none⟩ l) := by
  obtain ⟨rv, h1, h2, h3⟩ := hs.rest
  have hB : ∀ k, own k ≠ none → k < w.heap.size := h.lt
  have c0 : w.cell? ⟨sb, 0, none⟩ = some (.iface 56 (.pointer (some ⟨v.tb j, 0, none⟩))) := h1.cell rfl
  have c1 : w.cell? ⟨sb, 1, none⟩ = some rv := h1.cell rfl
  have f1 := h1.frozen 1
  have hsz := h1.lt
  have h1b := h1
  have HX := Lib.hid (fun (wx : World) (hx' : IsDev wx v own D) => execute_any hx' hj e he.1 he.2.1 he.2.2 hx)
  have hob : own sb = none := hs.osb
  obtain ⟨_, a, c, rfl, hc, h4⟩ := id h2
  have hg := instrC_get (e :: l) 0 e rfl
  obtain ⟨rb, ro, rfl, hE⟩ := rd_at h4 hg.1
  have c2 := hE _ _ hg.1; have c3 := hE _ _ hg.2.1; have c4 := hE _ _ hg.2.2
  simp only [Nat.zero_mul, Nat.zero_add] at c2 c3 c4
  rw [Nat.add_zero] at c2
  have hd := h2.dropG 1 (by simp)
  have H := Lib.hid h; have H3 := Lib.hid h3
  have hne := h3 rb rfl
  have HD : Hid (RdSl w 3 (.slice (if c = 1 then some ⟨rb, ro, none⟩ else (some (⟨rb, ro, none⟩ : Addr)).map (·.add (1 * 3))) l.length (c - 1)) l.length (instrC l)) := Lib.hid (by
    have e1 : (instrC (e :: l)).drop (1 * 3) = instrC l := rfl
    rw [e1] at hd
    simpa using hd)
  obtain ⟨op, off, x⟩ := e
  simp only at c2 c3 c4 he HX ⊢
  have hcl : (l.length : Int) + 1 ≤ c := by simp at hc; omega
  have HC := Lib.hid hc
  clear h h2 h3 h4 hE hg hd hs h1 hc
  have HB1 := Lib.hid h1b
  clear h1b
  by_cases hc1 : c = 1
  · subst hc1
    rw [if_pos rfl, Nat.sub_self] at HD
    go_enter Try.func33, Try.ntmps33
    go_wp2_with fail
    have S0 := Lib.hid (fun nv => stp_s0 (op := op) (off := off) (x := x) (nv := nv) HB1.out)
    go_region_held3 (fun wx => wx.cell? ⟨w.heap.size, 0, none⟩ = some (.int .u8 op) ∧ wx.cell? ⟨w.heap.size, 1, none⟩ = some (.int .u64 off) ∧ wx.cell? ⟨w.heap.size, 2, none⟩ = some (.int .u64 x) ∧ wx.cell? ⟨sb, 0, none⟩ = some (.iface 56 (.pointer (some ⟨v.tb j, 0, none⟩)))) (first | (with_reducible exact S1.out) | (with_reducible exact S0.out _)) (first | (go_at_call 67; (with_reducible refine (HX.out _ (stp_mid H.out hob _ _)).mono ?_); rintro e w1 ⟨rfl, hp⟩; have HE := Lib.hid (stp_end HB1.out hob rfl HD.out (fun k hk => by simp [Value.ownBlock] at hk; subst hk; exact hne) hp); have S1 := Lib.hid (stp_s1 HB1.out hob hB hp); clear hp))
    obtain ⟨own', hst, _⟩ := HE.out
    obtain ⟨rv', s1, s2, s3⟩ := hst.rest
    obtain ⟨_, a', c', rfl, _, _⟩ := s2
    have d1 : w1.cell? ⟨sb, 1, none⟩ = some (.slice a' l.length c') := s1.cell rfl
    clear s1 s3 hst S0 S1 c0 c1 c2 c3 c4 f1
    go_wp2_with fail
    go_ret
    exact ⟨congrArg (fun b => Ending.returned (.bool b)) (show ((l.length : Int) == 0) = decide (l.length = 0) by by_cases e : l.length = 0 <;> simp [e]), HE.out⟩
  · rw [if_neg hc1] at HD
    have hc1' : ¬ (c : Int) = 1 := by omega
    go_enter Try.func33, Try.ntmps33
    go_wp2_with fail
    have S0 := Lib.hid (fun nv => stp_s0 (op := op) (off := off) (x := x) (nv := nv) HB1.out)
    go_region_held3 (fun wx => wx.cell? ⟨w.heap.size, 0, none⟩ = some (.int .u8 op) ∧ wx.cell? ⟨w.heap.size, 1, none⟩ = some (.int .u64 off) ∧ wx.cell? ⟨w.heap.size, 2, none⟩ = some (.int .u64 x) ∧ wx.cell? ⟨sb, 0, none⟩ = some (.iface 56 (.pointer (some ⟨v.tb j, 0, none⟩)))) (first | (with_reducible exact S1.out) | (with_reducible exact S0.out _)) (first | (go_at_call 67; (with_reducible refine (HX.out _ (stp_mid H.out hob _ _)).mono ?_); rintro e w1 ⟨rfl, hp⟩; have HE := Lib.hid (stp_end HB1.out hob rfl HD.out (fun k hk => by simp [Value.ownBlock] at hk; subst hk; exact hne) hp); have S1 := Lib.hid (stp_s1 HB1.out hob hB hp); clear hp))
    obtain ⟨own', hst, _⟩ := HE.out
    obtain ⟨rv', s1, s2, s3⟩ := hst.rest
    obtain ⟨_, a', c', rfl, _, _⟩ := s2
    have d1 : w1.cell? ⟨sb, 1, none⟩ = some (.slice a' l.length c') := s1.cell rfl
    clear s1 s3 hst S0 S1 c0 c1 c2 c3 c4 f1
    go_wp2_with fail
    go_ret
    exact ⟨congrArg (fun b => Ending.returned (.bool b)) (show ((l.length : Int) == 0) = decide (l.length = 0) by by_cases e : l.length = 0 <;> simp [e]), HE.out⟩
end
end Go.Proofs.Ytpkilmnppdbnkaa
