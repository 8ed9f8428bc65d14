/- Equality of superblocks; the law's same of any two. -/
import Derived.Test.YtbpaamnofkhonaaDoorSbO
import Derived.Laws.StructEq
import Derived.Test.YtbpaamnofkhonaaDoorSbQ
namespace Go.Proofs.YtbpaamnofkhonaaDoor
open Go.RowKit Go.Maps
attribute [local go_sem ↓] Go.wp_at_zero Go.wp_at_succ

def supEq (a b : Sup) : Bool := a.ver == b.ver && (a.lin == b.lin && (a.redo == b.redo && (a.und == b.und && (a.desc == b.desc && (a.que == b.que && (a.tab == b.tab && a.gen == b.gen))))))
theorem supEq_iff (a b : Sup) : supEq a b = true ↔ a = b := by
  obtain ⟨a1, a2, a3, a4, a5, a6, a7, a8⟩ := a
  obtain ⟨b1, b2, b3, b4, b5, b6, b7, b8⟩ := b
  unfold supEq
  simp
theorem supEq_refl (a : Sup) : supEq a a = true := (supEq_iff a a).2 rfl
theorem eqF {P : Program} {w : World} {d : Nat} {xs ys : Array Value} {f : Field} {fs : List Field} {c : Bool} (k k' : IntKind) (a b : Int) (hn : f.name ≠ "_") (hp : P.plainKey f.type = true) (hu : P.underlying f.type = some (.int k'))
    (hx : xs[f.offset]? = some (.int k a)) (hy : ys[f.offset]? = some (.int k b)) (h : (Op.eqFields (d + 1) xs ys fs).run P w = .ok c w) : (Op.eqFields (d + 1) xs ys (f :: fs)).run P w = .ok (a == b && c) w := by
  simp only [Op.eqFields, if_pos hn, Sem.run_bind, run_part_plain w hp hx, run_part_plain w hp hy, run_equalIn_int w d f.type k k' a b hu, Result.andThen_ok]
  cases hb : a == b
  · simp
  · simp [h]
set_option maxRecDepth 100000 in
set_option maxHeartbeats 4000000 in
theorem run_eqlS (w : World) (a b : Sup) : (binOp .eql 29 (.agg a.cells) (.agg b.cells)).run Tryd.prog w = .ok (.bool (supEq a b)) w := by
  obtain ⟨a1, a2, a3, a4, a5, a6, a7, a8⟩ := a
  obtain ⟨b1, b2, b3, b4, b5, b6, b7, b8⟩ := b
  have hf : Tryd.prog.underlying 29 = some (.struct (Tryd.prog.fieldsOf 29)) := by kernel_rfl
  have hp : Tryd.prog.stoodInHeld 29 = false := by kernel_rfl
  have p1 : Tryd.prog.plainKey 3 = true := by kernel_rfl
  have p2 : Tryd.prog.plainKey 22 = true := by kernel_rfl
  rw [run_eql_struct, run_equalIn_struct w 9999 29 _ _ hf hp]
  unfold supEq Sup.cells
  simp only
  unfold Program.fieldsOf
  rw [Tryd.underlying29]
  have hnil : ∀ xs ys, (Op.eqFields 9999 xs ys []).run Tryd.prog w = .ok true w := fun _ _ => by simp [Op.eqFields]
  have h := eqF (P := Tryd.prog) (w := w) (d := 9998) (f := ⟨ "Version", 3, 0, false, "", "", 0⟩) .i64 .i64 a1 b1 (by decide) p1 Tryd.underlying3 rfl rfl
    (eqF (f := ⟨ "Lines", 3, 1, false, "", "", 8⟩) .i64 .i64 a2 b2 (by decide) p1 Tryd.underlying3 rfl rfl
    (eqF (f := ⟨ "Redo", 3, 2, false, "", "", 16⟩) .i64 .i64 a3 b3 (by decide) p1 Tryd.underlying3 rfl rfl
    (eqF (f := ⟨ "Undo", 3, 3, false, "", "", 24⟩) .i64 .i64 a4 b4 (by decide) p1 Tryd.underlying3 rfl rfl
    (eqF (f := ⟨ "Descriptors", 3, 4, false, "", "", 32⟩) .i64 .i64 a5 b5 (by decide) p1 Tryd.underlying3 rfl rfl
    (eqF (f := ⟨ "Queue", 3, 5, false, "", "", 40⟩) .i64 .i64 a6 b6 (by decide) p1 Tryd.underlying3 rfl rfl
    (eqF (f := ⟨ "Table", 3, 6, false, "", "", 48⟩) .i64 .i64 a7 b7 (by decide) p1 Tryd.underlying3 rfl rfl
    (eqF (f := ⟨ "Gen", 22, 7, false, "", "", 56⟩) .u64 .u64 a8 b8 (by decide) p2 Tryd.underlying22 rfl rfl
    (hnil #[.int .i64 a1, .int .i64 a2, .int .i64 a3, .int .i64 a4, .int .i64 a5, .int .i64 a6, .int .i64 a7, .int .u64 a8] #[.int .i64 b1, .int .i64 b2, .int .i64 b3, .int .i64 b4, .int .i64 b5, .int .i64 b6, .int .i64 b7, .int .u64 b8]))))))))
  simp only [h, Result.andThen_ok, Bool.and_true]
section
variable {w : World}
set_option maxRecDepth 100000 in
set_option maxHeartbeats 4000000 in
theorem same13_gen (a b : Sup) : Calls Tryd.prog 24 #[.agg a.cells, .agg b.cells] w fun r w' => r = .returned (.bool (supEq a b)) ∧ Below w.heap.size w w' := by
  have hq := fun wx => run_eqlS wx a b
  obtain ⟨eb, heb⟩ : ∃ eb, supEq a b = eb := ⟨_, rfl⟩
  rw [heb] at hq ⊢
  obtain ⟨a1, a2, a3, a4, a5, a6, a7, a8⟩ := a
  obtain ⟨b1, b2, b3, b4, b5, b6, b7, b8⟩ := b
  unfold Sup.cells at *
  simp only at hq
  have hgu : Tryd.prog.eqGuardType Tryd.prog.depth 29 = false := by kernel_rfl
  have hb : ∀ o1 o2, Below w.heap.size w ((w.alloc o1).alloc o2) := fun o1 o2 => below_twice w o1 o2
  have HB := Lib.hid hb; clear hb heb
  go_enter Tryd.func24, Tryd.ntmps24
  go_wp2_with fail
  go_ret
  exact ⟨rfl, HB.out _ _⟩
end
end Go.Proofs.YtbpaamnofkhonaaDoor

/- A device and blocks besides; what a format of an armed device leaves. -/
namespace Go.Proofs.YtbpaamnofkhonaaDoor
open Go.RowKit Go.Maps

/-- A device that has been made since w0, and blocks that it does not own. -/
structure DsX (w0 : World) (v : DV) (own : Nat → Option Role) (D : Dev) (K : List (Nat × Array Value × TypeId)) (wx : World) : Prop where
  st : Ds w0 v own D wx
  blk : ∀ e ∈ K, Blk wx e.1 e.2.1 e.2.2 ∧ own e.1 = none
section
variable {w0 wx wy : World} {v : DV} {own : Nat → Option Role} {D D' : Dev} {K : List (Nat × Array Value × TypeId)}
theorem DsX.get (h : DsX w0 v own D K wx) {i g : Nat} {c : Array Value} {t : TypeId} (hi : K[i]? = some (g, c, t)) : Blk wx g c t := (h.blk _ (List.mem_of_getElem? hi)).1
theorem DsX.next (h : DsX w0 v own D K wx) (hb : Below wx.heap.size wx wy) : DsX w0 v own D K wy := ⟨h.st.next hb, fun e he => ⟨(h.blk e he).1.below hb, (h.blk e he).2⟩⟩
theorem DsX.add (h : DsX w0 v own D K wx) (c : Array Value) (t : TypeId) : DsX w0 v own D ((wx.heap.size, c, t) :: K) (wx.alloc (.cells c t)) :=
  ⟨h.st.next (below_alloc _ _), fun e he => by
    rcases List.mem_cons.1 he with rfl | he
    · exact ⟨Blk.new _ _ _, own_none h.st.dev (Nat.le_refl _)⟩
    · exact ⟨(h.blk e he).1.alloc _, (h.blk e he).2⟩⟩
theorem DsX.step (h : DsX w0 v own D K wx) (hp : DPost v own wx D' wy) : ∃ own', DsX w0 v own' D' K wy := by
  obtain ⟨own', h1, h2, h3⟩ := hp
  refine ⟨own', ⟨h1, fun k hk => ?_, ?_⟩, fun e he => ?_⟩
  · rcases Nat.lt_or_ge k wx.heap.size with hlt | hge
    · rw [h2 k hlt] at hk; exact h.st.ob k hk
    · exact Nat.le_trans h.st.bel.size hge
  · exact h.st.bel.trans ⟨h3.os, h3.tape, h3.output, h3.size, fun k hk => h3.block k (Nat.lt_of_lt_of_le hk h.st.bel.size) (fun hk2 => by have := h.st.ob k hk2; omega)⟩
  · obtain ⟨hb, ho⟩ := h.blk e he
    exact ⟨hb.upd h3 (by rw [ho]; simp), by rw [h2 _ hb.lt]; exact ho⟩
/-- A block besides the device is written. -/
theorem DsX.set (h : DsX w0 v own D K wx) {i g : Nat} {c : Array Value} {t : TypeId} (hi : K[i]? = some (g, c, t)) (hg : w0.heap.size ≤ g) (hd : ∀ j, j ≠ i → ∀ e, K[j]? = some e → e.1 ≠ g) (o : Nat) (u : Value) :
    DsX w0 v own D (K.set i (g, c.setIfInBounds o u, t)) (wx.setCell ⟨g, o, none⟩ u) := by
  have hm := List.mem_of_getElem? hi
  obtain ⟨hb, ho⟩ := h.blk _ hm
  have hne : ∀ k, own k ≠ none → k ≠ g := fun k hk e => hk (by rw [e]; exact ho)
  refine ⟨⟨h.st.dev.kept (by simp [World.setCell]) (fun k hk => Below.heap_setCell wx ⟨g, o, none⟩ u k (hne k hk)), h.st.ob, h.st.bel.setCell hg u⟩, fun e he => ?_⟩
  obtain ⟨j, hj, hje⟩ := List.getElem_of_mem he
  rw [List.length_set] at hj
  by_cases e1 : j = i
  · subst e1
    rw [List.getElem_set_self] at hje
    subst hje
    exact ⟨hb.set o u, ho⟩
  · rw [List.getElem_set_ne (Ne.symm e1)] at hje
    have hk : K[j]? = some e := by rw [List.getElem?_eq_getElem hj, hje]
    obtain ⟨hb2, ho2⟩ := h.blk e (List.mem_of_getElem? hk)
    exact ⟨hb2.other (hd j e1 e hk) u, ho2⟩
/-- The newest block besides the device is written. -/
theorem DsX.setHead {g : Nat} {c : Array Value} {t : TypeId} (h : DsX w0 v own D ((g, c, t) :: K) wx) (hg : w0.heap.size ≤ g) (hK : ∀ e ∈ K, e.1 < g) (o : Nat) (u : Value) :
    DsX w0 v own D ((g, c.setIfInBounds o u, t) :: K) (wx.setCell ⟨g, o, none⟩ u) := by
  refine h.set (i := 0) rfl hg (fun j hj e he => ?_) o u
  cases j with
  | zero => exact absurd rfl hj
  | succ j => have := hK e (List.mem_of_getElem? he); omega
theorem DsX.lt (h : DsX w0 v own D K wx) : ∀ e ∈ K, e.1 < wx.heap.size := fun e he => (h.blk e he).1.lt
end
/-- Blocks, ahead of the device. -/
structure KSt (w0 : World) (K : List (Nat × Array Value × TypeId)) (wx : World) : Prop where
  blk : ∀ e ∈ K, Blk wx e.1 e.2.1 e.2.2
  bel : Below w0.heap.size w0 wx
section
variable {w0 wx wy : World} {K : List (Nat × Array Value × TypeId)}
theorem KSt.get (h : KSt w0 K wx) {i g : Nat} {c : Array Value} {t : TypeId} (hi : K[i]? = some (g, c, t)) : Blk wx g c t := h.blk _ (List.mem_of_getElem? hi)
theorem KSt.next (h : KSt w0 K wx) (hb : Below wx.heap.size wx wy) : KSt w0 K wy := ⟨fun e he => (h.blk e he).below hb, h.bel.trans (hb.mono h.bel.size)⟩
theorem KSt.dev {v : DV} {own : Nat → Option Role} {D : Dev} (h : KSt w0 K wx) (hd : IsDev wy v own D) (ho : ∀ k, own k ≠ none → wx.heap.size ≤ k) (hb : Below wx.heap.size wx wy) : DsX wx v own D K wy :=
  ⟨⟨hd, ho, hb⟩, fun e he => ⟨(h.blk e he).below hb, by
    have := (h.blk e he).lt
    cases hq : own e.1 with
    | none => rfl
    | some r => have := ho e.1 (by rw [hq]; simp); omega⟩⟩
theorem DsX.kst {v : DV} {own : Nat → Option Role} {D : Dev} (h : DsX w0 v own D K wx) : KSt w0 K wx := ⟨fun e he => (h.blk e he).1, h.st.bel⟩
theorem KSt.start (w : World) (a b c : Array Value) (ta tb tc : TypeId) : KSt w [(w.heap.size, a, ta), (w.heap.size + 1, b, tb), (w.heap.size + 2, c, tc)] (((w.alloc (.cells a ta)).alloc (.cells b tb)).alloc (.cells c tc)) := by
  have hz1 : (w.alloc (.cells a ta)).heap.size = w.heap.size + 1 := by simp
  have hz2 : ((w.alloc (.cells a ta)).alloc (.cells b tb)).heap.size = w.heap.size + 2 := by simp
  have h1 := ((Blk.new w a ta).alloc (.cells b tb)).alloc (.cells c tc)
  have h2 := (Blk.new (w.alloc (.cells a ta)) b tb).alloc (.cells c tc)
  have h3 := Blk.new ((w.alloc (.cells a ta)).alloc (.cells b tb)) c tc
  rw [hz1] at h2
  rw [hz2] at h3
  refine ⟨fun e he => ?_, (below_twice w _ _).trans ((below_alloc _ _).mono (below_twice w _ _).size)⟩
  simp only [List.mem_cons, List.not_mem_nil, or_false] at he
  rcases he with rfl | rfl | rfl
  · exact h1
  · exact h2
  · exact h3
end
theorem Blk.c8 {wx : World} {g : Nat} {t : TypeId} {a0 a1 a2 a3 a4 a5 a6 a7 : Value} (h : Blk wx g #[a0, a1, a2, a3, a4, a5, a6, a7] t) :
    wx.cell? ⟨g, 0, none⟩ = some a0 ∧ wx.cell? ⟨g, 1, none⟩ = some a1 ∧ wx.cell? ⟨g, 2, none⟩ = some a2 ∧ wx.cell? ⟨g, 3, none⟩ = some a3 ∧ wx.cell? ⟨g, 4, none⟩ = some a4 ∧ wx.cell? ⟨g, 5, none⟩ = some a5 ∧ wx.cell? ⟨g, 6, none⟩ = some a6 ∧ wx.cell? ⟨g, 7, none⟩ = some a7 :=
  ⟨h.cell rfl, h.cell rfl, h.cell rfl, h.cell rfl, h.cell rfl, h.cell rfl, h.cell rfl, h.cell rfl⟩
/-- What Open answers behind a format that was cut. -/
theorem fmt_open {C F : Nat → Int} {s : Sup} {n : Nat} (h : FmtCut C F s) (hk : s.Ok) (hg : 0 ≤ s.gen) (hl : s.lin ≤ n) :
    opE F n = 10 ∨ (opE F n = 0 ∧ (opS F n = s ∨ (cpG C n 0 = true ∧ opS F n = cpS C n 0) ∨ (cpG C n 1 = true ∧ opS F n = cpS C n 1))) := by
  cases hG : newG F n
  · left; unfold opE; rw [hG]; rfl
  · right
    refine ⟨by unfold opE; rw [hG]; rfl, ?_⟩
    have hgd := newG_good hG
    have hS : opS F n = cpS F n (newA F n) := by unfold opS newS; rw [hG]; rfl
    have ha : newA F n = 0 ∨ newA F n = 1 := by unfold newA; split <;> simp
    have hno : ∀ i, (cpW F i).getD 7 0 = 0 → cpG F n i = false := fun i hi => goodB_seven hi
    rw [hS]
    rcases h with h | ⟨h1, h0⟩
    · rcases ha with ha | ha
      · rw [ha] at hgd ⊢
        rcases h 0 (by omega) with e | e
        · refine .inr (.inl ⟨?_, ?_⟩)
          · unfold cpG at hgd ⊢; rw [e] at hgd; exact hgd
          · unfold cpS; rw [e]
        · rw [hno 0 e] at hgd; cases hgd
      · rw [ha] at hgd ⊢
        rcases h 1 (by omega) with e | e
        · refine .inr (.inr ⟨?_, ?_⟩)
          · unfold cpG at hgd ⊢; rw [e] at hgd; exact hgd
          · unfold cpS; rw [e]
        · rw [hno 1 e] at hgd; cases hgd
    · rcases ha with ha | ha
      · rw [ha] at hgd ⊢
        rcases h0 with e | e
        · rw [hno 0 e] at hgd; cases hgd
        · left; unfold cpS; rw [e]; exact (goodB_words s hk hg hl).2
      · rw [ha] at hgd
        rw [hno 1 h1] at hgd; cases hgd
theorem VB_stores {D : Dev} (h : D.VB) (j : Nat) {ws : List (Nat × Int)} (hv : ∀ e ∈ ws, 0 ≤ e.2 ∧ e.2 < 18446744073709551616) : (D.run j (storesL ws)).VB := by
  rw [stores_groups]
  exact Dev.VB.run _ h j (valP_groups (fun e he => by rw [storesGs_flat] at he; exact hv e he))
/-- A format of an armed device of 200 lines: its error, Check behind it, and what Open answers of an image. -/
theorem at_fmt {D : Dev} {C : Nat → Int} {x : Nat} (h : SCl D 0 200 C x) {s : Sup} (hk : s.Ok) (hl : s.lin ≤ 200) (hx : x < 10000) (k : Nat) :
    ∃ (E : Dev) (e : Int), (e = 0 ∨ e = 3) ∧ E.n = 200 ∧ E.VB ∧ E.exec ≤ x + 24 ∧
      (∀ (wx : World) (v : DV) (own : Nat → Option Role), Nib wx → IsDev wx v own (D.arm k) → Calls Tryd.prog 28 #[.iface 49 (.pointer (some ⟨v.tb 0, 0, none⟩)), .agg s.cells] wx fun r w' => r = .returned (.int .i64 e) ∧ DPost v own wx E w') ∧
      (e = 0 → ∀ (wx : World) (v : DV) (own : Nat → Option Role), Nib wx → IsDev wx v own E → Calls Tryd.prog 22 #[.iface 49 (.pointer (some ⟨v.tb 0, 0, none⟩))] wx fun r w' => r = .returned (.tuple #[.int .i64 0, .int .i64 10]) ∧ Below wx.heap.size wx w') ∧
      ∀ ks, ∃ (res : Sup) (g : Int), ((g = 0 ∧ res = s.withGen 1) ∨ (e = 3 ∧ (g = 10 ∨ (g = 0 ∧ ((cpG C 200 0 = true ∧ res = cpS C 200 0) ∨ (cpG C 200 1 = true ∧ res = cpS C 200 1)))))) ∧
        ∀ (wx : World) (v : DV) (own : Nat → Option Role), Nib wx → IsDev wx v own (Dev.fresh 200 (E.img ks)) → Calls Tryd.prog 19 #[.iface 49 (.pointer (some ⟨v.tb 0, 0, none⟩))] wx fun r w' => r = .returned (.tuple #[.agg res.cells, .int .i64 g]) ∧ Below wx.heap.size wx w' := by
  obtain ⟨hgr, hvb, hex, hnn⟩ := h.armed k
  have hn := hgr.on.n
  have hk1 : (s.withGen 1).Ok := hk.withGen 1
  have hl1 : (s.withGen 1).lin ≤ (200 : Nat) := by show s.lin ≤ _; omega
  have hg1 : 0 ≤ (s.withGen 1).gen := by show (0 : Int) ≤ 1; omega
  have hf1 := hk1.fits hg1 (show (1 : Int) < 18446744073709551616 by omega)
  obtain ⟨E, hE⟩ : ∃ E, E = (D.arm k).run 0 (eraseP ++ sbP (s.withGen 1) 0) := ⟨_, rfl⟩
  have hv : E.VB := by
    rw [hE, Dev.run_append]
    exact VB_stores (VB_stores hvb 0 (fun e he => by simp at he; rcases he with rfl | rfl <;> simp)) 0 (sbWs_bd hf1 0)
  have hx2 : E.exec ≤ x + 24 := by
    have h1 := (D.arm k).run_exec 0 (eraseP ++ sbP (s.withGen 1) 0)
    have h2 := sbP_len (s.withGen 1) 0
    have h3 := eraseP_len
    have h4 := h.exec
    rw [List.length_append] at h1
    rw [hE]; omega
  obtain ⟨hEn, hcs⟩ := fmt_cut hgr (s.withGen 1) (by omega) E hE
  have hop : ∀ (F : Nat → Int), (∀ i, 0 ≤ F i ∧ F i < 18446744073709551616) → ∀ (wx : World) (v : DV) (own : Nat → Option Role), Nib wx → IsDev wx v own (Dev.fresh 200 F) → Calls Tryd.prog 19 #[.iface 49 (.pointer (some ⟨v.tb 0, 0, none⟩))] wx fun r w' => r = .returned (.tuple #[.agg (opS F 200).cells, .int .i64 (opE F 200)]) ∧ Below wx.heap.size wx w' := fun F hF wx v own hN hd => by
    have hfr := fresh_scl hF 0 200
    have := sbOpen_any hN hd (j := 0) (by omega) hfr.grp.on.off hfr.grp.on.err hfr.vb (by show 2 ≤ 200; omega)
    rw [hfr.cur, hfr.grp.on.n] at this
    exact this
  have hib : ∀ ks i, 0 ≤ E.img ks i ∧ E.img ks i < 18446744073709551616 := fun ks i => hv.img ks i
  have hfm : ∀ (wx : World) (v : DV) (own : Nat → Option Role), Nib wx → IsDev wx v own (D.arm k) → Calls Tryd.prog 28 #[.iface 49 (.pointer (some ⟨v.tb 0, 0, none⟩)), .agg s.cells] wx fun r w' => r = .returned (.int .i64 (E.err 0)) ∧ DPost v own wx E w' := fun wx v own hN hd => by
    have := sbFormat_any hN hd (by omega) hgr.on.err (by rw [hn]; omega) s hk (by rw [hn]; omega) (by rw [hex]; have := h.exec; omega)
    rw [← hE] at this
    exact this
  refine ⟨E, E.err 0, ?_, hEn, hv, hx2, hfm, fun he wx v own hN hd => ?_, fun ks => ?_⟩
  · rcases hcs with ⟨hg, _⟩ | ⟨he, _⟩
    · exact .inl hg.on.err
    · exact .inr he
  · rcases hcs with ⟨hg, _⟩ | ⟨he2, _⟩
    · have := sbCheck_any hN hd (j := 0) (by omega) hg.on.off hg.on.err hv (by rw [hEn]; omega)
      have hc : E.cur = prgC (s.withGen 1) 0 (ersC C) := funext fun i => by rw [hg.hst.cur]; rfl
      rw [hEn, hc] at this
      obtain ⟨c1, c0, _⟩ := new_format (s.withGen 1) hk1 hg1 C hl1
      unfold ckE at this
      rw [c1, c0] at this
      exact this
    · rw [he] at he2; cases he2
  · rcases hcs with ⟨hg, hi⟩ | ⟨he, hi⟩
    · obtain ⟨_, _, c3, _, c5⟩ := new_format (s.withGen 1) hk1 hg1 C hl1
      refine ⟨_, _, .inl ⟨rfl, rfl⟩, fun wx v own hN hd => ?_⟩
      have := hop _ (hib ks) wx v own hN hd
      rw [hi ks] at this
      unfold opS opE at this
      rw [c3, c5] at this
      exact this
    · rcases fmt_open (hi ks) hk1 hg1 hl1 with e10 | ⟨e0, hs | hs⟩
      · exact ⟨_, _, .inr ⟨he, .inl e10⟩, hop _ (hib ks)⟩
      · exact ⟨_, _, .inl ⟨e0, hs⟩, hop _ (hib ks)⟩
      · exact ⟨_, _, .inr ⟨he, .inr ⟨e0, hs⟩⟩, hop _ (hib ks)⟩
end Go.Proofs.YtbpaamnofkhonaaDoor
