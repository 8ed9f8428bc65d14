/- A directory on a clean device: what a change leaves. -/
import Derived.Test.YtmfchlliechikaaGreatDoorRtU
import Derived.Test.YtmfchlliechikaaGreatDoorRdoM
import Derived.Test.YtmfchlliechikaaGreatDoorDevN
namespace Go.Proofs.YtmfchlliechikaaGreatDoor
open Go.RowKit Go.Maps

/-- Nothing pending for thread j on n lines; not armed. -/
structure SCl (D : Dev) (j n : Nat) (C : Nat → Int) (x : Nat) : Prop where
  grp : Grp D j n C [] []
  vb : D.VB
  exec : D.exec ≤ x
  ar : D.armed = false
section
variable {D : Dev} {C : Nat → Int} {j n x : Nat}
theorem SCl.cur (h : SCl D j n C x) : D.cur = C := funext fun i => by rw [h.grp.hst.cur]; rfl
theorem SCl.img (h : SCl D j n C x) (ks : Nat → Nat) : D.img ks = C := funext fun i => h.grp.hst.clean ks i
theorem SCl.mono {y : Nat} (h : SCl D j n C x) (hxy : x ≤ y) : SCl D j n C y := ⟨h.grp, h.vb, Nat.le_trans h.exec hxy, h.ar⟩
theorem SCl.bd (h : SCl D j n C x) (i : Nat) : 0 ≤ C i ∧ C i < 18446744073709551616 := by rw [← h.cur]; exact h.vb.cur i
theorem fresh_scl {f : Nat → Int} (hf : ∀ i, 0 ≤ f i ∧ f i < 18446744073709551616) (j n : Nat) : SCl (Dev.fresh n f) j n f 0 :=
  ⟨⟨⟨rfl, rfl, rfl⟩, ⟨fun _ => rfl, fun _ => rfl⟩, fun o ho => by simp at ho, fun _ _ => rfl⟩, ⟨hf, fun l e he => by simp [Dev.fresh] at he⟩, Nat.le_refl _, rfl⟩
theorem SCl.stores (h : SCl D j n C x) {ws : List (Nat × Int)} (hw : ∀ e ∈ ws, e.1 % 8 = 0 ∧ e.1 < 64 * n) (hv : ∀ e ∈ ws, 0 ≤ e.2 ∧ e.2 < 18446744073709551616) :
    SCl (D.run j (storesL ws)) j n (fun i => look ws (C i) i) (x + (storesL ws).length) := by
  have hx := D.run_exec j (storesL ws)
  have := h.exec
  rw [stores_groups] at *
  rcases run_came h.grp (storesGs_ok hw) with ⟨h1, h2, _⟩ | ⟨_, _, _, _, _, _, _, _, h2, _⟩
  · have e : laidG C (storesGs ws) = fun i => look ws (C i) i := funext fun i => by rw [laidG_flat, storesGs_flat]
    rw [e] at h1
    exact ⟨h1, Dev.VB.run _ h.vb j (valP_groups (fun e he => by rw [storesGs_flat] at he; exact hv e he)), by omega, by rw [h2]; exact h.ar⟩
  · rw [h.ar] at h2; cases h2
end
theorem look_wrO (off : Nat) (h8 : off % 8 = 0) (i : Nat) (ws : List (Nat × Nat)) : ∀ (W : Nat → Nat) (d : Int), d = (W i : Nat) → look (wrO off ws) d (off / 8 + i) = (setWs ws W i : Nat) := by
  induction ws with
  | nil => intro W d hd; exact hd
  | cons e ws ih =>
    intro W d hd
    have e1 : look (wrO off (e :: ws)) d (off / 8 + i) = look (wrO off ws) (if (off + 8 * e.1) / 8 = off / 8 + i then (e.2 : Int) else d) (off / 8 + i) := rfl
    have e2 : setWs (e :: ws) W = setWs ws (fun k => if k = e.1 then e.2 else W k) := rfl
    rw [e1, e2]
    refine ih _ _ ?_
    have h1 : (off + 8 * e.1) / 8 = off / 8 + e.1 := by omega
    rw [h1]
    by_cases he : i = e.1
    · subst he; simp
    · rw [if_neg (by omega), if_neg he]; exact hd
theorem setWs_bd (ws : List (Nat × Nat)) : ∀ (W : Nat → Nat), (∀ e ∈ ws, e.2 < 18446744073709551616) → (∀ i, W i < 18446744073709551616) → ∀ i, setWs ws W i < 18446744073709551616 := by
  induction ws with
  | nil => intro W _ h i; exact h i
  | cons e ws ih =>
    intro W h1 h2 i
    refine ih _ (fun x hx => h1 x (List.mem_cons_of_mem _ hx)) (fun k => ?_) i
    show (if k = e.1 then e.2 else W k) < _
    split
    · exact h1 e (List.mem_cons_self ..)
    · exact h2 k
/-- Blocks that a device does not own are as they were. -/
def Kb (w : World) (own : Nat → Option Role) (w' : World) (own' : Nat → Option Role) : Prop := ∀ g c t, Blk w g c t → own g = none → Blk w' g c t ∧ own' g = none
/-- A directory at line 3 of a clean device of 20 lines that has been made since w0. -/
structure RtSt (w0 : World) (v : DV) (own : Nat → Option Role) (D : Dev) (b : Nat) (W : Nat → Nat) (x : Nat) (w : World) : Prop where
  dev : IsDev w v own D
  ob : ∀ k, own k ≠ none → w0.heap.size ≤ k
  bel : Below w0.heap.size w0 w
  cl : ∃ C, SCl D 0 20 C x ∧ ∀ i, i < 64 → C (24 + i) = (W i : Nat)
  bd : ∀ i, W i < 18446744073709551616
  dir : DirAt w b 192 (.iface 42 (.pointer (some ⟨v.tb 0, 0, none⟩)))
  nb : own b = none
section
variable {w0 w wx w' : World} {v : DV} {own : Nat → Option Role} {D : Dev} {b x y : Nat} {W : Nat → Nat}
theorem RtSt.next (h : RtSt w0 v own D b W x w) (hb : Below w.heap.size w wx) : RtSt w0 v own D b W x wx := ⟨h.dev.below hb, h.ob, h.bel.trans (hb.mono h.bel.size), h.cl, h.bd, h.dir.next hb, h.nb⟩
theorem RtSt.mono (h : RtSt w0 v own D b W x w) (hxy : x ≤ y) : RtSt w0 v own D b W y w := by
  obtain ⟨C, h1, h2⟩ := h.cl
  exact ⟨h.dev, h.ob, h.bel, ⟨C, h1.mono hxy, h2⟩, h.bd, h.dir, h.nb⟩
theorem RtSt.lines (h : RtSt w0 v own D b W x w) : D.n = 20 := let ⟨_, h1, _⟩ := h.cl; h1.grp.on.n
theorem RtSt.don (h : RtSt w0 v own D b W x w) : DOn w v own D 0 b 192 W := by
  obtain ⟨C, h1, h2⟩ := h.cl
  have hn := h1.grp.on.n
  exact ⟨h.dev, by omega, h.dir, h1.grp.on.off, h1.grp.on.err, ⟨rfl, by omega, fun i hi => by rw [h1.cur]; exact h2 i hi, h.bd⟩⟩
theorem wrO_in (off : Nat) (W : Nat → Nat) (l : List UInt8) (p sz : Nat) (h : errE W l p sz = 0) (hp : p < 18446744073709551616) (h8 : off % 8 = 0) {n : Nat} (hl : off + 512 ≤ 64 * n) :
    (∀ e ∈ wrO off (wrE W l p), e.1 % 8 = 0 ∧ e.1 < 64 * n) ∧ ∀ e ∈ wrO off (wrE W l p), 0 ≤ e.2 ∧ e.2 < 18446744073709551616 := by
  have hin := wrE_in W l p sz h hp
  refine ⟨fun e he => ?_, fun e he => ?_⟩
  · unfold wrO at he
    obtain ⟨y, hy, rfl⟩ := List.mem_map.1 he
    have := hin y hy
    show (off + 8 * y.1) % 8 = 0 ∧ off + 8 * y.1 < _
    omega
  · unfold wrO at he
    obtain ⟨y, hy, rfl⟩ := List.mem_map.1 he
    have := hin y hy
    show 0 ≤ ((y.2 : Nat) : Int) ∧ ((y.2 : Nat) : Int) < _
    omega
theorem RtSt.step (h : RtSt w0 v own D b W x w) {l : List UInt8} {p : Nat} (he : errE W l p 1280 = 0) (hp : p < 18446744073709551616) (hP : DPost v own w (D.run 0 (progR 192 W l p)) w') :
    ∃ own', RtSt w0 v own' (D.run 0 (progR 192 W l p)) b (setWs (wrE W l p) W) (x + 9) w' ∧ (D.run 0 (progR 192 W l p)).err 0 = 0 ∧ Kb w own w' own' := by
  obtain ⟨C, h1, h2⟩ := h.cl
  obtain ⟨i1, i2⟩ := wrO_in 192 W l p 1280 he hp rfl (n := 20) (by omega)
  have h3 := (h1.stores i1 i2)
  have hln := progR_len 192 W l p
  have h4 : SCl (D.run 0 (progR 192 W l p)) 0 20 (fun i => look (wrO 192 (wrE W l p)) (C i) i) (x + 9) := SCl.mono h3 (by unfold progR at hln; omega)
  obtain ⟨own', g1, g2, g3⟩ := hP
  have hkb : Kb w own w' own' := fun g c t hg ho => ⟨hg.upd g3 (by rw [ho]; simp), by rw [g2 _ hg.lt]; exact ho⟩
  refine ⟨own', ⟨g1, fun k hk => ?_, ?_, ⟨_, h4, fun i hi => ?_⟩, setWs_bd _ W (fun e hm => (wrE_in W l p 1280 he hp e hm).2) h.bd, ⟨(hkb _ _ _ h.dir.blk h.nb).1⟩, (hkb _ _ _ h.dir.blk h.nb).2⟩, h4.grp.on.err, hkb⟩
  · rcases Nat.lt_or_ge k w.heap.size with hlt | hge
    · rw [g2 k hlt] at hk; exact h.ob k hk
    · exact Nat.le_trans h.bel.size hge
  · exact h.bel.trans ⟨g3.os, g3.tape, g3.output, g3.size, fun k hk => g3.block k (Nat.lt_of_lt_of_le hk h.bel.size) (fun hk2 => by have := h.ob k hk2; omega)⟩
  · exact look_wrO 192 rfl i (wrE W l p) W _ (h2 i hi)
theorem kb_below (hb : Below w.heap.size w w') : Kb w own w' own := fun _ _ _ hg ho => ⟨hg.below hb, ho⟩
/-- The words behind Set. -/
def chgS (W : Nat → Nat) (l : List UInt8) (p : Nat) : Nat → Nat := if errS W l p 1280 = 0 then setWs (wrE W l p) W else W
theorem RtSt.set (h : RtSt w0 v own D b W x w) (hN : Nib w) (s : ByteArray) (p : Nat) (hp : p < 18446744073709551616) (hx : x < 1000000) :
    Calls Tryz.prog 30 #[.pointer (some ⟨b, 0, none⟩), .string s, .int .u64 p] w fun r w' => r = .returned (.int .i64 (errS W s.toList p 1280 : Nat)) ∧ ∃ own' D', RtSt w0 v own' D' b (chgS W s.toList p) (x + 9) w' ∧ Kb w own w' own' := by
  obtain ⟨C, h1, h2⟩ := h.cl
  have hex := h1.exec
  have := rtSet_any h.don hN s p hp (by omega)
  rw [h.lines] at this
  refine this.mono ?_
  rintro r w' (⟨he, rfl, hb⟩ | ⟨he, rfl, hP⟩)
  · refine ⟨rfl, own, D, ?_, kb_below hb⟩
    unfold chgS
    rw [if_neg he]
    exact (h.next hb).mono (by omega)
  · have he2 : errE W s.toList p 1280 = 0 := by
      have he' : errS W s.toList p 1280 = 0 := he
      unfold errS at he'
      split at he'
      · omega
      · split at he'
        · omega
        · exact he'
    obtain ⟨own', r1, r2, r3⟩ := h.step he2 hp hP
    refine ⟨by rw [r2, show errS W s.toList p 1280 = 0 from he]; rfl, own', D.run 0 (progR 192 W s.toList p), ?_, r3⟩
    unfold chgS
    rw [if_pos he]
    exact r1
theorem RtSt.remove (h : RtSt w0 v own D b W x w) (hN : Nib w) (s : ByteArray) (hx : x < 1000000) :
    Calls Tryz.prog 31 #[.pointer (some ⟨b, 0, none⟩), .string s] w fun r w' => r = .returned (.int .i64 (errE W s.toList 0 1280 : Nat)) ∧ ∃ own' D', RtSt w0 v own' D' b (chgE W s.toList 0 1280) (x + 9) w' ∧ Kb w own w' own' := by
  obtain ⟨C, h1, h2⟩ := h.cl
  have hex := h1.exec
  have := rtRemove_any h.don hN s (by omega)
  rw [h.lines] at this
  refine this.mono ?_
  rintro r w' (⟨he, rfl, hb⟩ | ⟨he, rfl, hP⟩)
  · refine ⟨rfl, own, D, ?_, kb_below hb⟩
    unfold chgE
    rw [if_neg he]
    exact (h.next hb).mono (by omega)
  · have he2 : errE W s.toList 0 1280 = 0 := he
    obtain ⟨own', r1, r2, r3⟩ := h.step he2 (by omega) hP
    refine ⟨by rw [r2, he2]; rfl, own', D.run 0 (progR 192 W s.toList 0), ?_, r3⟩
    unfold chgE
    rw [if_pos he2]
    exact r1
end
end Go.Proofs.YtmfchlliechikaaGreatDoor

/- The law's made and awake of layer 14. -/
namespace Go.Proofs.YtmfchlliechikaaGreatDoor
open Go.RowKit Go.Maps
attribute [local go_sem ↓] Go.wp_at_zero Go.wp_at_succ

theorem look_zero (l : List (Nat × Int)) (i : Nat) (h : ∀ e ∈ l, e.2 = 0) : look l 0 i = 0 := by
  rcases look_may l 0 i with h1 | ⟨e, he, _, h2⟩
  · exact h1
  · rw [h2]; exact h e he
theorem fmt_zero (off i : Nat) : look (fmtL off) 0 i = 0 := look_zero _ i fun e he => by
  unfold fmtL at he
  obtain ⟨x, _, rfl⟩ := List.mem_map.1 he
  rfl
def W0 : Nat → Nat := fun _ => 0
theorem opnE_W0 : opnE W0 = 0 := by decide +kernel
section
variable {w : World}
/-- A block that a device does not own lies behind it. -/
theorem own_no {wc : World} {v : DV} {own : Nat → Option Role} {D : Dev} {k : Nat} (h : IsDev wc v own D) (hk : wc.heap.size ≤ k) : own k = none := by
  cases ho : own k with
  | none => rfl
  | some r => have := h.lt k (by rw [ho]; simp); omega
theorem fmt_cl : SCl ((Dev.fresh 20 (fun _ => 0)).run 0 (fmtP 192)) 0 20 (fun i => look (fmtL 192) 0 i) 33 := by
  have h0 := fresh_scl (f := fun _ => 0) (fun _ => by omega) 0 20
  have h1 := h0.stores (ws := fmtL 192) (fun e he => by
    unfold fmtL at he
    obtain ⟨x, hx, rfl⟩ := List.mem_map.1 he
    have := List.mem_range.1 hx
    show (192 + 32 * x + 24) % 8 = 0 ∧ 192 + 32 * x + 24 < _
    omega) (fun e he => by
    unfold fmtL at he
    obtain ⟨x, hx, rfl⟩ := List.mem_map.1 he
    show (0 : Int) ≤ 0 ∧ (0 : Int) < _
    omega)
  exact h1.mono (by have := fmtP_len 192; show 0 + (fmtP 192).length ≤ 33; omega)
set_option maxRecDepth 100000 in
set_option maxHeartbeats 4000000 in
theorem made14 (hN : Nib w) : Calls Tryz.prog 13 #[] w fun r w' => ∃ v own D b, r = .returned (.tuple #[.pointer (some ⟨v.db, 0, none⟩), .pointer (some ⟨b, 0, none⟩)]) ∧ RtSt w v own D b W0 33 w' ∧ w.heap.size ≤ b := by
  have HNB := Lib.hid hN
  have hnew := fun (wx : World) => new_any (w := wx) 20 (by omega) (by omega)
  rw [show ((20 : Nat) : Int) = 20 from rfl] at hnew
  have HNW := Lib.hid hnew
  have hfm := fun (wx : World) (v : DV) (own : Nat → Option Role) (hd : IsDev wx v own (Dev.fresh 20 (fun _ => 0))) => rtFormat_any (j := 0) hd (by omega) 3 (show 3 + 8 ≤ 20 by omega) rfl (show (0 : Nat) + 100000 < 4294967296 by omega)
  have hcl := fmt_cl
  rw [show 64 * 3 = 192 from rfl, hcl.grp.on.err, show ((3 : Nat) : Int) = 3 from rfl] at hfm
  have hop := fun (wx : World) (v : DV) (own : Nat → Option Role) (hn : Nib wx) (hd : IsDev wx v own ((Dev.fresh 20 (fun _ => 0)).run 0 (fmtP 192))) => rtOpen_any (W := W0) hd hn (j := 0) (by omega) 3 hcl.grp.on.off hcl.grp.on.err
    ⟨rfl, by rw [hcl.grp.on.n]; decide, fun i _ => by rw [hcl.cur]; exact fmt_zero 192 _, fun _ => by show 0 < _; omega⟩
  rw [show 64 * 3 = 192 from rfl, show ((3 : Nat) : Int) = 3 from rfl] at hop
  have HFM := Lib.hid hfm; have HOP := Lib.hid hop
  have HCL : Hid (∃ C, SCl ((Dev.fresh 20 (fun _ => 0)).run 0 (fmtP 192)) 0 20 C 33 ∧ ∀ i, i < 64 → C (24 + i) = (W0 i : Nat)) := ⟨_, hcl, fun i _ => fmt_zero 192 _⟩
  have HE0 := Lib.hid opnE_W0
  generalize (Dev.fresh 20 (fun _ => 0)).run 0 (fmtP 192) = D1 at *
  generalize Dev.fresh 20 (fun _ => 0) = D0 at *
  clear hN hnew hfm hop hcl
  go_enter Tryz.func13, Tryz.ntmps13
  go_wp2_with fail
  (with_reducible refine (HNW.out _).mono ?_)
  rintro r w1 ⟨v, own, rfl, d1, o1, b1⟩
  have H1 := Lib.hid (And.intro d1 (And.intro o1 b1))
  clear d1 o1 b1
  go_wp2_with fail
  (with_reducible refine (thread0_any H1.out.1).mono ?_)
  rintro r w' ⟨rfl, rfl⟩
  go_wp2_with fail
  (with_reducible refine (HFM.out _ _ _ H1.out.1).mono ?_)
  rintro r w2 ⟨rfl, p2⟩
  obtain ⟨own2, d2, o2, b2⟩ := p2.from H1.out.2.1 H1.out.2.2.size
  have H2 := Lib.hid (And.intro d2 (And.intro o2 (H1.out.2.2.trans b2)))
  clear p2 d2 o2 b2 H1
  go_wp2_with fail
  (with_reducible refine (thread0_any H2.out.1).mono ?_)
  rintro r w' ⟨rfl, rfl⟩
  go_wp2_with fail
  (with_reducible refine (HOP.out _ _ _ (HNB.out.below H2.out.2.2) H2.out.1).mono ?_)
  rintro r w3 (⟨h0, _⟩ | ⟨_, rfl, dir, b3⟩)
  · exact absurd HE0.out h0
  · have H3 : Hid (RtSt w v own2 D1 w2.heap.size W0 33 w3) := ⟨H2.out.1.below b3, H2.out.2.1, H2.out.2.2.trans (b3.mono H2.out.2.2.size), HCL.out, fun _ => by show 0 < _; omega, dir, own_no H2.out.1 (Nat.le_refl _)⟩
    have HB := Lib.hid H2.out.2.2.size
    clear dir b3
    go_wp2_with fail
    go_ret2
    exact ⟨v, own2, D1, w2.heap.size, rfl, H3.out, HB.out⟩
end
end Go.Proofs.YtmfchlliechikaaGreatDoor

/- The law's awake of layer 14. -/
namespace Go.Proofs.YtmfchlliechikaaGreatDoor
open Go.RowKit Go.Maps
attribute [local go_sem ↓] Go.wp_at_zero Go.wp_at_succ

def p14 : Nat := 19703252664713224
def q14 : Nat := 19703252664713225
def W14a : Nat → Nat := chgS W0 [98] p14
def W14b : Nat → Nat := chgS W14a [97] q14
def W14c : Nat → Nat := chgS W14b [98] q14
def W14d : Nat → Nat := chgE W14c [98] 0 1280
theorem e14a : errS W0 [98] p14 1280 = 0 := by decide +kernel
theorem e14b : errS W14a [97] q14 1280 = 0 := by decide +kernel
theorem e14c : errS W14b [98] q14 1280 = 0 := by decide +kernel
theorem e14d : errE W14c [98] 0 1280 = 0 := by decide +kernel
theorem l14c : eC (srtR (entL W14c 16)) = [.string { data := #[97] }, .int .u64 19703252664713225, .string { data := #[98] }, .int .u64 19703252664713225] := by kernel_rfl
theorem n14c : (entL W14c 16).length = 2 := by decide +kernel
theorem n14d : (entL W14d 16).length = 1 := by decide +kernel
section
variable {w : World}
theorem make64 : Calls Tryz.prog 39 #[.int .u64 64, .int .u16 1, .int .u8 70] w fun r w' => r = .returned (.tuple #[.int .u64 19703252664713224, .int .i64 0]) ∧ w = w' := by
  have h1 : Go.bits .or .u64 (Go.bits .or .u64 8 4294967296) 19703248369745920 = 19703252664713224 := by decide +kernel
  go_enter Tryz.func39, Tryz.ntmps39
  go_wp2_with fail
  go_ret2
  exact ⟨rfl, rfl⟩
theorem make72 : Calls Tryz.prog 39 #[.int .u64 72, .int .u16 1, .int .u8 70] w fun r w' => r = .returned (.tuple #[.int .u64 19703252664713225, .int .i64 0]) ∧ w = w' := by
  have h1 : Go.bits .or .u64 (Go.bits .or .u64 9 4294967296) 19703248369745920 = 19703252664713225 := by decide +kernel
  go_enter Tryz.func39, Tryz.ntmps39
  go_wp2_with fail
  go_ret2
  exact ⟨rfl, rfl⟩
theorem sl98 : ({ data := #[98] } : ByteArray).toList = [98] := by kernel_rfl
theorem sl97 : ({ data := #[97] } : ByteArray).toList = [97] := by kernel_rfl
set_option maxRecDepth 100000 in
set_option maxHeartbeats 8000000 in
theorem awake14 (hN : Nib w) : Calls Tryz.prog 10 #[] w fun r w' => r = .returned (.bool true) ∧ Below w.heap.size w w' := by
  have HNB := Lib.hid hN; clear hN
  have HM1 := Lib.hid (fun wx : World => make64 (w := wx))
  have HM2 := Lib.hid (fun wx : World => make72 (w := wx))
  have HMD := Lib.hid (fun (wx : World) (h : Nib wx) => made14 h)
  have HS1 : Hid (∀ (w0 wx : World) (v : DV) (own : Nat → Option Role) (D : Dev) (b : Nat), Nib wx → RtSt w0 v own D b W0 33 wx → Calls Tryz.prog 30 #[.pointer (some ⟨b, 0, none⟩), .string { data := #[98] }, .int .u64 19703252664713224] wx fun r w' => r = .returned (.int .i64 0) ∧ ∃ own' D', RtSt w0 v own' D' b W14a 42 w' ∧ Kb wx own w' own') := fun w0 wx v own D b hx h => by
    have := h.set hx { data := #[98] } p14 (by decide) (by omega)
    rw [sl98, e14a] at this
    exact this
  have HS2 : Hid (∀ (w0 wx : World) (v : DV) (own : Nat → Option Role) (D : Dev) (b : Nat), Nib wx → RtSt w0 v own D b W14a 42 wx → Calls Tryz.prog 30 #[.pointer (some ⟨b, 0, none⟩), .string { data := #[97] }, .int .u64 19703252664713225] wx fun r w' => r = .returned (.int .i64 0) ∧ ∃ own' D', RtSt w0 v own' D' b W14b 51 w' ∧ Kb wx own w' own') := fun w0 wx v own D b hx h => by
    have := h.set hx { data := #[97] } q14 (by decide) (by omega)
    rw [sl97, e14b] at this
    exact this
  have HS3 : Hid (∀ (w0 wx : World) (v : DV) (own : Nat → Option Role) (D : Dev) (b : Nat), Nib wx → RtSt w0 v own D b W14b 51 wx → Calls Tryz.prog 30 #[.pointer (some ⟨b, 0, none⟩), .string { data := #[98] }, .int .u64 19703252664713225] wx fun r w' => r = .returned (.int .i64 0) ∧ ∃ own' D', RtSt w0 v own' D' b W14c 60 w' ∧ Kb wx own w' own') := fun w0 wx v own D b hx h => by
    have := h.set hx { data := #[98] } q14 (by decide) (by omega)
    rw [sl98, e14c] at this
    exact this
  have HS4 : Hid (∀ (w0 wx : World) (v : DV) (own : Nat → Option Role) (D : Dev) (b : Nat), Nib wx → RtSt w0 v own D b W14c 60 wx → Calls Tryz.prog 31 #[.pointer (some ⟨b, 0, none⟩), .string { data := #[98] }] wx fun r w' => r = .returned (.int .i64 0) ∧ ∃ own' D', RtSt w0 v own' D' b W14d 69 w' ∧ Kb wx own w' own') := fun w0 wx v own D b hx h => by
    have := h.remove hx { data := #[98] } (by omega)
    rw [sl98, e14d] at this
    exact this
  have HL1 : Hid (∀ (w0 wx : World) (v : DV) (own : Nat → Option Role) (D : Dev) (b : Nat), RtSt w0 v own D b W14c 60 wx → Calls Tryz.prog 29 #[.pointer (some ⟨b, 0, none⟩)] wx fun r w' => ∃ g o c, r = .returned (.slice (some ⟨g, o, none⟩) 2 c) ∧ Below wx.heap.size wx w' ∧ w'.cell? ⟨g, o, none⟩ = some (.string { data := #[97] }) ∧ w'.cell? ⟨g, o + 2, none⟩ = some (.string { data := #[98] }) ∧ w'.cell? ⟨g, o + 3, none⟩ = some (.int .u64 19703252664713225)) := fun w0 wx v own D b h => by
    refine (rtList_any h.don).mono ?_
    rintro r w' ⟨ov, rfl, ha⟩
    rw [l14c, n14c] at ha
    obtain ⟨a, c, rfl⟩ := ha.slice
    obtain ⟨_, a', c', e', _, hE⟩ := ha.rd
    cases e'
    obtain ⟨eb, eo, rfl, hE2⟩ := rd_at (k := 0) (u := .string { data := #[97] }) hE rfl
    exact ⟨eb, eo, c, rfl, ha.bel, hE2 0 _ rfl, hE2 2 _ rfl, hE2 3 _ rfl⟩
  have HL2 : Hid (∀ (w0 wx : World) (v : DV) (own : Nat → Option Role) (D : Dev) (b : Nat), RtSt w0 v own D b W14d 69 wx → Calls Tryz.prog 29 #[.pointer (some ⟨b, 0, none⟩)] wx fun r w' => ∃ a c, r = .returned (.slice a 1 c) ∧ Below wx.heap.size wx w') := fun w0 wx v own D b h => by
    refine (rtList_any h.don).mono ?_
    rintro r w' ⟨ov, rfl, ha⟩
    rw [n14d] at ha
    obtain ⟨a, c, rfl⟩ := ha.slice
    exact ⟨a, c, rfl, ha.bel⟩
  go_enter Tryz.func10, Tryz.ntmps10
  go_wp2_with fail
  (with_reducible refine (HM1.out _).mono ?_)
  rintro r w' ⟨rfl, rfl⟩
  go_wp2_with fail
  (with_reducible refine (HM2.out _).mono ?_)
  rintro r w' ⟨rfl, rfl⟩
  go_wp2_with fail
  (with_reducible refine (HMD.out _ HNB.out).mono ?_)
  rintro r w1 ⟨v, own, D, b, rfl, h1, hb⟩
  have S1 := Lib.hid h1
  have NB1 := Lib.hid (HNB.out.below h1.bel)
  clear h1 hb HM1 HM2 HMD
  go_wp2_with fail
  (with_reducible refine (HS1.out _ _ _ _ _ _ NB1.out S1.out).mono ?_)
  rintro r w2 ⟨rfl, own2, D2, h2, _⟩
  have S2 := Lib.hid h2
  have NB2 := Lib.hid (HNB.out.below h2.bel)
  clear h2 S1 NB1 HS1
  go_wp2_with fail
  (with_reducible refine (HS2.out _ _ _ _ _ _ NB2.out S2.out).mono ?_)
  rintro r w3 ⟨rfl, own3, D3, h3, _⟩
  have S3 := Lib.hid h3
  have NB3 := Lib.hid (HNB.out.below h3.bel)
  clear h3 S2 NB2 HS2
  go_wp2_with fail
  (with_reducible refine (HS3.out _ _ _ _ _ _ NB3.out S3.out).mono ?_)
  rintro r w4 ⟨rfl, own4, D4, h4, _⟩
  have S4 := Lib.hid h4
  have NB4 := Lib.hid (HNB.out.below h4.bel)
  clear h4 S3 NB3 HS3
  go_wp2_with fail
  (with_reducible refine (HL1.out _ _ _ _ _ _ S4.out).mono ?_)
  rintro r w5 ⟨g, o, c, rfl, b5, c0, c2, c3⟩
  have S5 := Lib.hid (S4.out.next b5)
  have NB5 := Lib.hid (NB4.out.below b5)
  clear b5 S4 NB4 HL1
  go_wp2_with fail
  (with_reducible refine (HS4.out _ _ _ _ _ _ NB5.out S5.out).mono ?_)
  rintro r w6 ⟨rfl, own6, D6, h6, _⟩
  have S6 := Lib.hid h6
  clear h6 S5 NB5 HS4 c0 c2 c3
  go_wp2_with fail
  (with_reducible refine (HL2.out _ _ _ _ _ _ S6.out).mono ?_)
  rintro r w7 ⟨a7, c7, rfl, b7⟩
  have S7 := Lib.hid (S6.out.next b7)
  clear b7 S6 HL2
  go_wp2_with fail
  go_ret
  exact ⟨rfl, S7.out.bel⟩
end
end Go.Proofs.YtmfchlliechikaaGreatDoor
