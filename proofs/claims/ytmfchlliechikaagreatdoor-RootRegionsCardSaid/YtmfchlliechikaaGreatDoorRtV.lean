/- A directory on a clean device: what a change leaves. -/
import Derived.Test.YtmfchlliechikaaGreatDoorRtU
import Derived.Test.YtmfchlliechikaaGreatDoorRdoM
namespace Go.Proofs.YtmfchlliechikaaGreatDoor
open Go.RowKit Go.Maps

/-- Nothing pending for thread j on n lines; not armed. -/
structure SCl (D : Dev) (j n : Nat) (C : Nat → Int) (x : Nat) : Prop where
  grp : Grp D j n C [] []
  vb : D.VB
  exec : D.exec ≤ x
  ar : D.armed = false
section
variable {D : Dev} {C : Nat → Int} {j n x : Nat}
theorem SCl.cur (h : SCl D j n C x) : D.cur = C := funext fun i => by rw [h.grp.hst.cur]; rfl
theorem SCl.img (h : SCl D j n C x) (ks : Nat → Nat) : D.img ks = C := funext fun i => h.grp.hst.clean ks i
theorem SCl.mono {y : Nat} (h : SCl D j n C x) (hxy : x ≤ y) : SCl D j n C y := ⟨h.grp, h.vb, Nat.le_trans h.exec hxy, h.ar⟩
theorem SCl.bd (h : SCl D j n C x) (i : Nat) : 0 ≤ C i ∧ C i < 18446744073709551616 := by rw [← h.cur]; exact h.vb.cur i
theorem fresh_scl {f : Nat → Int} (hf : ∀ i, 0 ≤ f i ∧ f i < 18446744073709551616) (j n : Nat) : SCl (Dev.fresh n f) j n f 0 :=
  ⟨⟨⟨rfl, rfl, rfl⟩, ⟨fun _ => rfl, fun _ => rfl⟩, fun o ho => by simp at ho, fun _ _ => rfl⟩, ⟨hf, fun l e he => by simp [Dev.fresh] at he⟩, Nat.le_refl _, rfl⟩
theorem SCl.stores (h : SCl D j n C x) {ws : List (Nat × Int)} (hw : ∀ e ∈ ws, e.1 % 8 = 0 ∧ e.1 < 64 * n) (hv : ∀ e ∈ ws, 0 ≤ e.2 ∧ e.2 < 18446744073709551616) :
    SCl (D.run j (storesL ws)) j n (fun i => look ws (C i) i) (x + (storesL ws).length) := by
  have hx := D.run_exec j (storesL ws)
  have := h.exec
  rw [stores_groups] at *
  rcases run_came h.grp (storesGs_ok hw) with ⟨h1, h2, _⟩ | ⟨_, _, _, _, _, _, _, _, h2, _⟩
  · have e : laidG C (storesGs ws) = fun i => look ws (C i) i := funext fun i => by rw [laidG_flat, storesGs_flat]
    rw [e] at h1
    exact ⟨h1, Dev.VB.run _ h.vb j (valP_groups (fun e he => by rw [storesGs_flat] at he; exact hv e he)), by omega, by rw [h2]; exact h.ar⟩
  · rw [h.ar] at h2; cases h2
end
theorem look_wrO (off : Nat) (h8 : off % 8 = 0) (i : Nat) (ws : List (Nat × Nat)) : ∀ (W : Nat → Nat) (d : Int), d = (W i : Nat) → look (wrO off ws) d (off / 8 + i) = (setWs ws W i : Nat) := by
  induction ws with
  | nil => intro W d hd; exact hd
  | cons e ws ih =>
    intro W d hd
    have e1 : look (wrO off (e :: ws)) d (off / 8 + i) = look (wrO off ws) (if (off + 8 * e.1) / 8 = off / 8 + i then (e.2 : Int) else d) (off / 8 + i) := rfl
    have e2 : setWs (e :: ws) W = setWs ws (fun k => if k = e.1 then e.2 else W k) := rfl
    rw [e1, e2]
    refine ih _ _ ?_
    have h1 : (off + 8 * e.1) / 8 = off / 8 + e.1 := by omega
    rw [h1]
    by_cases he : i = e.1
    · subst he; simp
    · rw [if_neg (by omega), if_neg he]; exact hd
theorem setWs_bd (ws : List (Nat × Nat)) : ∀ (W : Nat → Nat), (∀ e ∈ ws, e.2 < 18446744073709551616) → (∀ i, W i < 18446744073709551616) → ∀ i, setWs ws W i < 18446744073709551616 := by
  induction ws with
  | nil => intro W _ h i; exact h i
  | cons e ws ih =>
    intro W h1 h2 i
    refine ih _ (fun x hx => h1 x (List.mem_cons_of_mem _ hx)) (fun k => ?_) i
    show (if k = e.1 then e.2 else W k) < _
    split
    · exact h1 e (List.mem_cons_self ..)
    · exact h2 k
/-- Blocks that a device does not own are as they were. -/
def Kb (w : World) (own : Nat → Option Role) (w' : World) (own' : Nat → Option Role) : Prop := ∀ g c t, Blk w g c t → own g = none → Blk w' g c t ∧ own' g = none
/-- A directory at line 3 of a clean device of 20 lines that has been made since w0. -/
structure RtSt (w0 : World) (v : DV) (own : Nat → Option Role) (D : Dev) (b : Nat) (W : Nat → Nat) (x : Nat) (w : World) : Prop where
  dev : IsDev w v own D
  ob : ∀ k, own k ≠ none → w0.heap.size ≤ k
  bel : Below w0.heap.size w0 w
  cl : ∃ C, SCl D 0 20 C x ∧ ∀ i, i < 64 → C (24 + i) = (W i : Nat)
  bd : ∀ i, W i < 18446744073709551616
  dir : DirAt w b 192 (.iface 42 (.pointer (some ⟨v.tb 0, 0, none⟩)))
  nb : own b = none
section
variable {w0 w wx w' : World} {v : DV} {own : Nat → Option Role} {D : Dev} {b x y : Nat} {W : Nat → Nat}
theorem RtSt.next (h : RtSt w0 v own D b W x w) (hb : Below w.heap.size w wx) : RtSt w0 v own D b W x wx := ⟨h.dev.below hb, h.ob, h.bel.trans (hb.mono h.bel.size), h.cl, h.bd, h.dir.next hb, h.nb⟩
theorem RtSt.mono (h : RtSt w0 v own D b W x w) (hxy : x ≤ y) : RtSt w0 v own D b W y w := by
  obtain ⟨C, h1, h2⟩ := h.cl
  exact ⟨h.dev, h.ob, h.bel, ⟨C, h1.mono hxy, h2⟩, h.bd, h.dir, h.nb⟩
theorem RtSt.lines (h : RtSt w0 v own D b W x w) : D.n = 20 := let ⟨_, h1, _⟩ := h.cl; h1.grp.on.n
theorem RtSt.don (h : RtSt w0 v own D b W x w) : DOn w v own D 0 b 192 W := by
  obtain ⟨C, h1, h2⟩ := h.cl
  have hn := h1.grp.on.n
  exact ⟨h.dev, by omega, h.dir, h1.grp.on.off, h1.grp.on.err, ⟨rfl, by omega, fun i hi => by rw [h1.cur]; exact h2 i hi, h.bd⟩⟩
theorem wrO_in (off : Nat) (W : Nat → Nat) (l : List UInt8) (p sz : Nat) (h : errE W l p sz = 0) (hp : p < 18446744073709551616) (h8 : off % 8 = 0) {n : Nat} (hl : off + 512 ≤ 64 * n) :
    (∀ e ∈ wrO off (wrE W l p), e.1 % 8 = 0 ∧ e.1 < 64 * n) ∧ ∀ e ∈ wrO off (wrE W l p), 0 ≤ e.2 ∧ e.2 < 18446744073709551616 := by
  have hin := wrE_in W l p sz h hp
  refine ⟨fun e he => ?_, fun e he => ?_⟩
  · unfold wrO at he
    obtain ⟨y, hy, rfl⟩ := List.mem_map.1 he
    have := hin y hy
    show (off + 8 * y.1) % 8 = 0 ∧ off + 8 * y.1 < _
    omega
  · unfold wrO at he
    obtain ⟨y, hy, rfl⟩ := List.mem_map.1 he
    have := hin y hy
    show 0 ≤ ((y.2 : Nat) : Int) ∧ ((y.2 : Nat) : Int) < _
    omega
theorem RtSt.step (h : RtSt w0 v own D b W x w) {l : List UInt8} {p : Nat} (he : errE W l p 1280 = 0) (hp : p < 18446744073709551616) (hP : DPost v own w (D.run 0 (progR 192 W l p)) w') :
    ∃ own', RtSt w0 v own' (D.run 0 (progR 192 W l p)) b (setWs (wrE W l p) W) (x + 9) w' ∧ (D.run 0 (progR 192 W l p)).err 0 = 0 ∧ Kb w own w' own' := by
  obtain ⟨C, h1, h2⟩ := h.cl
  obtain ⟨i1, i2⟩ := wrO_in 192 W l p 1280 he hp rfl (n := 20) (by omega)
  have h3 := (h1.stores i1 i2)
  have hln := progR_len 192 W l p
  have h4 : SCl (D.run 0 (progR 192 W l p)) 0 20 (fun i => look (wrO 192 (wrE W l p)) (C i) i) (x + 9) := SCl.mono h3 (by unfold progR at hln; omega)
  obtain ⟨own', g1, g2, g3⟩ := hP
  have hkb : Kb w own w' own' := fun g c t hg ho => ⟨hg.upd g3 (by rw [ho]; simp), by rw [g2 _ hg.lt]; exact ho⟩
  refine ⟨own', ⟨g1, fun k hk => ?_, ?_, ⟨_, h4, fun i hi => ?_⟩, setWs_bd _ W (fun e hm => (wrE_in W l p 1280 he hp e hm).2) h.bd, ⟨(hkb _ _ _ h.dir.blk h.nb).1⟩, (hkb _ _ _ h.dir.blk h.nb).2⟩, h4.grp.on.err, hkb⟩
  · rcases Nat.lt_or_ge k w.heap.size with hlt | hge
    · rw [g2 k hlt] at hk; exact h.ob k hk
    · exact Nat.le_trans h.bel.size hge
  · exact h.bel.trans ⟨g3.os, g3.tape, g3.output, g3.size, fun k hk => g3.block k (Nat.lt_of_lt_of_le hk h.bel.size) (fun hk2 => by have := h.ob k hk2; omega)⟩
  · exact look_wrO 192 rfl i (wrE W l p) W _ (h2 i hi)
theorem kb_below (hb : Below w.heap.size w w') : Kb w own w' own := fun _ _ _ hg ho => ⟨hg.below hb, ho⟩
/-- The words behind Set. -/
def chgS (W : Nat → Nat) (l : List UInt8) (p : Nat) : Nat → Nat := if errS W l p 1280 = 0 then setWs (wrE W l p) W else W
theorem RtSt.set (h : RtSt w0 v own D b W x w) (hN : Nib w) (s : ByteArray) (p : Nat) (hp : p < 18446744073709551616) (hx : x < 1000000) :
    Calls Tryz.prog 30 #[.pointer (some ⟨b, 0, none⟩), .string s, .int .u64 p] w fun r w' => r = .returned (.int .i64 (errS W s.toList p 1280 : Nat)) ∧ ∃ own' D', RtSt w0 v own' D' b (chgS W s.toList p) (x + 9) w' ∧ Kb w own w' own' := by
  obtain ⟨C, h1, h2⟩ := h.cl
  have hex := h1.exec
  have := rtSet_any h.don hN s p hp (by omega)
  rw [h.lines] at this
  refine this.mono ?_
  rintro r w' (⟨he, rfl, hb⟩ | ⟨he, rfl, hP⟩)
  · refine ⟨rfl, own, D, ?_, kb_below hb⟩
    unfold chgS
    rw [if_neg he]
    exact (h.next hb).mono (by omega)
  · have he2 : errE W s.toList p 1280 = 0 := by
      have he' : errS W s.toList p 1280 = 0 := he
      unfold errS at he'
      split at he'
      · omega
      · split at he'
        · omega
        · exact he'
    obtain ⟨own', r1, r2, r3⟩ := h.step he2 hp hP
    refine ⟨by rw [r2, show errS W s.toList p 1280 = 0 from he]; rfl, own', D.run 0 (progR 192 W s.toList p), ?_, r3⟩
    unfold chgS
    rw [if_pos he]
    exact r1
theorem RtSt.remove (h : RtSt w0 v own D b W x w) (hN : Nib w) (s : ByteArray) (hx : x < 1000000) :
    Calls Tryz.prog 31 #[.pointer (some ⟨b, 0, none⟩), .string s] w fun r w' => r = .returned (.int .i64 (errE W s.toList 0 1280 : Nat)) ∧ ∃ own' D', RtSt w0 v own' D' b (chgE W s.toList 0 1280) (x + 9) w' ∧ Kb w own w' own' := by
  obtain ⟨C, h1, h2⟩ := h.cl
  have hex := h1.exec
  have := rtRemove_any h.don hN s (by omega)
  rw [h.lines] at this
  refine this.mono ?_
  rintro r w' (⟨he, rfl, hb⟩ | ⟨he, rfl, hP⟩)
  · refine ⟨rfl, own, D, ?_, kb_below hb⟩
    unfold chgE
    rw [if_neg he]
    exact (h.next hb).mono (by omega)
  · have he2 : errE W s.toList 0 1280 = 0 := he
    obtain ⟨own', r1, r2, r3⟩ := h.step he2 (by omega) hP
    refine ⟨by rw [r2, he2]; rfl, own', D.run 0 (progR 192 W s.toList 0), ?_, r3⟩
    unfold chgE
    rw [if_pos he2]
    exact r1
end
end Go.Proofs.YtmfchlliechikaaGreatDoor
