/- The law's some of layer 13, an update wherever the power fails (plain), and the walk of SuperblockAtomic. -/
import Derived.Test.YtbpaamnofkhonaaDoorSbT
import Derived.Test.YtbpaamnofkhonaaDoorDevI
import Derived.Test.YtbpaamnofkhonaaDoorDevK
import Derived.Laws.IdiomArrays
import Derived.Deep.RegionHeld3
namespace Go.Proofs.YtbpaamnofkhonaaDoor
open Go.RowKit Go.Maps
attribute [local go_sem ↓] Go.wp_at_zero Go.wp_at_succ

/-- The superblock that some makes of four raw numbers. -/
def smS (a0 a1 a2 a3 : Nat) : Sup := ⟨1 + a0, 11 + (1 + (a1 : Int) % 30) + (1 + (a2 : Int) % 30) + (1 + (a3 : Int) % 8) + (a0 : Int) % 4 + (a1 : Int) % 4 + 32 + (a2 : Int) % 32, 1 + (a1 : Int) % 30, 1 + (a2 : Int) % 30, 1 + (a3 : Int) % 8, (a0 : Int) % 4, (a1 : Int) % 4, 0⟩
theorem smS_ok (a0 a1 a2 a3 : Nat) (h0 : a0 < 256) : (smS a0 a1 a2 a3).Ok ∧ (smS a0 a1 a2 a3).lin ≤ 160 := by
  have e1 : 0 ≤ (a1 : Int) % 30 ∧ (a1 : Int) % 30 < 30 := by omega
  have e2 : 0 ≤ (a2 : Int) % 30 ∧ (a2 : Int) % 30 < 30 := by omega
  have e3 : 0 ≤ (a3 : Int) % 8 ∧ (a3 : Int) % 8 < 8 := by omega
  have e4 : 0 ≤ (a0 : Int) % 4 ∧ (a0 : Int) % 4 < 4 := by omega
  have e5 : 0 ≤ (a1 : Int) % 4 ∧ (a1 : Int) % 4 < 4 := by omega
  have e6 : 0 ≤ (a2 : Int) % 32 ∧ (a2 : Int) % 32 < 32 := by omega
  unfold smS
  generalize (a1 : Int) % 30 = x1 at *
  generalize (a2 : Int) % 30 = x2 at *
  generalize (a3 : Int) % 8 = x3 at *
  generalize (a0 : Int) % 4 = x4 at *
  generalize (a1 : Int) % 4 = x5 at *
  generalize (a2 : Int) % 32 = x6 at *
  refine ⟨⟨?_, ?_, ?_, ?_, ?_, ?_, ?_, ?_, ?_, ?_, ?_, ?_, ?_, ?_, ?_⟩, ?_⟩
  all_goals simp only [Sup.rest]
  all_goals omega
/-- Equal copies have equal answers. -/
theorem new_same {C F : Nat → Int} (h0 : cpW F 0 = cpW C 0) (h1 : cpW F 1 = cpW C 1) (n : Nat) : newG F n = newG C n ∧ newS F n = newS C n ∧ newA F n = newA C n := by
  have hb : newB F n = newB C n := by unfold newB cpG cpS; rw [h0, h1]
  have ha : newA F n = newA C n := by unfold newA; rw [hb]
  refine ⟨?_, ?_, ha⟩
  · unfold newG cpG; rw [hb, h0]
  · unfold newS
    rw [ha]
    unfold cpS
    have : newA C n = 0 ∨ newA C n = 1 := by unfold newA; split <;> simp
    rcases this with h | h
    · rw [h, h0]
    · rw [h, h1]
/-- The older copy spoilt: the newest stays. -/
theorem new_spoilt {C F : Nat → Int} {n : Nat} (hG : newG C n = true) (hs : (cpW F (1 - newA C n)).getD 7 0 = 0) (ho : cpW F (newA C n) = cpW C (newA C n)) : newG F n = true ∧ newS F n = newS C n := by
  have hgd := newG_good hG
  have ha : newA C n = 0 ∨ newA C n = 1 := by unfold newA; split <;> simp
  have hbad : cpG F n (1 - newA C n) = false := goodB_seven hs
  have hgood : cpG F n (newA C n) = true := by unfold cpG; rw [ho]; exact hgd
  unfold newS
  rcases ha with ha | ha
  · rw [ha] at hbad hgood ho ⊢
    have hb : newB F n = false := by unfold newB; rw [show cpG F n 1 = false from hbad]; rfl
    have hA : newA F n = 0 := by unfold newA; rw [hb]; rfl
    exact ⟨by unfold newG; rw [hb]; exact hgood, by rw [hA]; unfold cpS; rw [ho]⟩
  · rw [ha] at hbad hgood ho ⊢
    have hb : newB F n = true := by unfold newB; rw [hgood, show cpG F n 0 = false from hbad]; rfl
    have hA : newA F n = 1 := by unfold newA; rw [hb]; rfl
    exact ⟨by unfold newG; rw [hb]; rfl, by rw [hA]; unfold cpS; rw [ho]⟩
/-- A program of an update that has stored k words. -/
theorem new_part (s : Sup) (hk : s.Ok) (C F : Nat → Int) {n k : Nat} (hl : s.lin ≤ n) (hG : newG C n = true) (hg : (newS C n).gen < s.gen) (h0 : 0 ≤ s.gen) (hk9 : k ≤ 9) (hF : ∀ x, F x = look ((sbWs s (1 - newA C n)).take k) (C x) x) :
    newG F n = true ∧ (newS F n = s ∨ newS F n = newS C n) := by
  have ha : newA C n = 0 ∨ newA C n = 1 := by unfold newA; split <;> simp
  obtain ⟨ho, h3, _⟩ := cp_part s (1 - newA C n) k C F hk9 hF
  have ho2 := ho (newA C n) (by omega)
  rcases h3 with h | h | h
  · obtain ⟨e1, e2, _⟩ := new_same (C := C) (F := F) (by rcases ha with a | a <;> rw [a] at h ho2 <;> assumption) (by rcases ha with a | a <;> rw [a] at h ho2 <;> assumption) n
    exact ⟨by rw [e1]; exact hG, .inr e2⟩
  · have := new_spoilt hG h ho2
    exact ⟨this.1, .inr this.2⟩
  · have := new_update s hk C F hl hG hg h0 h ho2
    exact ⟨this.1, .inl this.2.1⟩
theorem SCl.armed {D : Dev} {C : Nat → Int} {n x : Nat} (h : SCl D 0 n C x) (k : Nat) : Grp (D.arm k) 0 n C [] [] ∧ (D.arm k).VB ∧ (D.arm k).exec = D.exec ∧ (D.arm k).n = D.n := by
  have hoff := h.grp.on.off
  have e : D.arm k = { D with armed := true, left := k } := by unfold Dev.arm; rw [if_neg (by rw [hoff]; simp)]
  rw [e]
  exact ⟨⟨⟨h.grp.on.n, h.grp.on.off, h.grp.on.err⟩, ⟨h.grp.hst.pers, h.grp.hst.hist⟩, h.grp.yes, h.grp.no⟩, h.vb.same rfl rfl, rfl, rfl⟩
/-- An update on an armed device, wherever the power fails. -/
theorem SCl.cut {D : Dev} {C : Nat → Int} {n x : Nat} (h : SCl D 0 n C x) (k : Nat) (s : Sup) (hk : s.Ok) (hf : s.Fits) (hl : s.lin ≤ n) (hn : 2 ≤ n) (hG : newG C n = true) (hg : (newS C n).gen < s.gen) (h0 : 0 ≤ s.gen) (E : Dev) (hE : E = (D.arm k).run 0 (sbP s (1 - newA C n))) :
    E.n = n ∧ E.VB ∧ E.exec ≤ x + 19 ∧ (E.err 0 = 0 ∨ E.err 0 = 3) ∧ ∀ ks, newG (E.img ks) n = true ∧ (newS (E.img ks) n = s ∨ (newS (E.img ks) n = newS C n ∧ E.err 0 = 3)) := by
  obtain ⟨hgr, hvb, hex, hnn⟩ := h.armed k
  have hE2 : E = (D.arm k).run 0 (storesL (sbWs s (1 - newA C n))) := hE
  have hx := (D.arm k).run_exec 0 (sbP s (1 - newA C n))
  have hpl := sbP_len s (1 - newA C n)
  have hxe := h.exec
  have hv : E.VB := by
    rw [hE]
    show ((D.arm k).run 0 (storesL (sbWs s (1 - newA C n)))).VB
    rw [stores_groups]
    exact Dev.VB.run _ hvb 0 (valP_groups (fun e he => by rw [storesGs_flat] at he; exact sbWs_bd hf _ e he))
  have hx2 : E.exec ≤ x + 19 := by rw [hE]; omega
  have hlen : (sbWs s (1 - newA C n)).length = 9 := by rw [sbWs_eq]; rfl
  rcases run_line hgr (fun e he => sbWs_line s (1 - newA C n) n (by omega) e he) (by rw [sbWs_eq]; simp) with ⟨hd, _⟩ | ⟨_, h2, h3, h4, h5⟩
  · have hd' : Grp E 0 n (prgC s (1 - newA C n) C) [] [] := by rw [hE2]; exact hd
    refine ⟨hd'.on.n, hv, hx2, .inl hd'.on.err, fun ks => ?_⟩
    have he : E.img ks = prgC s (1 - newA C n) C := funext fun i => hd'.hst.clean ks i
    rw [he]
    obtain ⟨p1, p2⟩ := prg_cp s (1 - newA C n) C
    have := new_update s hk C _ hl hG hg h0 p1 (p2 _ (by have := newA_le C n; omega))
    exact ⟨this.1, .inl this.2.1⟩
  · have e3 : E.err 0 = 3 := by rw [hE2]; exact h3
    refine ⟨by rw [hE2]; exact h4, hv, hx2, .inr e3, fun ks => ?_⟩
    obtain ⟨q, hq, hF⟩ := h5 ks
    have := new_part s hk C (E.img ks) (k := q) hl hG hg h0 (by omega) (fun x => by rw [hE2]; exact hF x)
    exact ⟨this.1, this.2.imp id (fun h => ⟨h, e3⟩)⟩
section
variable {w : World}
set_option maxRecDepth 100000 in
set_option maxHeartbeats 4000000 in
theorem some_any (a0 a1 a2 a3 : Nat) (h0 : a0 < 256) (h1 : a1 < 256) (h2 : a2 < 256) (h3 : a3 < 256) : Calls Tryd.prog 32 #[.agg #[.int .u8 a0, .int .u8 a1, .int .u8 a2, .int .u8 a3]] w fun r w' => r = .returned (.agg (smS a0 a1 a2 a3).cells) ∧ Below w.heap.size w w' := by
  go_enter Tryd.func32, Tryd.ntmps32
  go_wp2_with fail
  refine bodyPost_ret (v := .agg (smS a0 a1 a2 a3).cells) (by simp [results, Tryd.results32, go_sem, smS, Sup.cells]) rfl ⟨rfl, ?_⟩
  exact (below_twice w _ _).trans ((below_alloc _ _).mono (below_twice w _ _).size)
end
/-- A device of 200 lines whose newest copy is so, of generation g. -/
def AtD (so : Sup) (D : Dev) (g x : Nat) : Prop := ∃ C, SCl D 0 200 C x ∧ newG C 200 = true ∧ newS C 200 = so.withGen g
theorem okG {s : Sup} (h : s.Ok) (g : Int) : (s.withGen g).Ok := h.withGen g
theorem at_format (so : Sup) (hk : so.Ok) (hl : so.lin ≤ 200) : AtD so ((Dev.fresh 200 (fun _ => 0)).run 0 (eraseP ++ sbP (so.withGen 1) 0)) 1 24 := by
  have h0 : SCl (Dev.fresh 200 (fun _ => 0)) 0 200 (fun _ => 0) 0 := fresh_scl (fun _ => by omega) 0 200
  have h1 := (h0.format ((okG hk 1).fits (show (0 : Int) ≤ 1 by omega) (show (1 : Int) < 18446744073709551616 by omega)) (by omega)).mono (y := 24) (by omega)
  have := new_format (so.withGen 1) (okG hk 1) (show (0 : Int) ≤ 1 by omega) (fun _ => 0) (n := 200) (by show so.lin ≤ _; omega)
  exact ⟨_, h1, this.2.2.1, this.2.2.2.2⟩
theorem at_open {so : Sup} {D : Dev} {g x : Nat} (h : AtD so D g x) (wx : World) (v : DV) (own : Nat → Option Role) (hN : Nib wx) (hd : IsDev wx v own D) :
    Calls Tryd.prog 19 #[.iface 49 (.pointer (some ⟨v.tb 0, 0, none⟩))] wx fun r w' => r = .returned (.tuple #[.agg (so.withGen g).cells, .int .i64 0]) ∧ Below wx.heap.size wx w' := by
  obtain ⟨C, hs, h1, h2⟩ := h
  have hn := hs.grp.on.n
  have hc := hs.cur
  have := sbOpen_any hN hd (j := 0) (by omega) hs.grp.on.off hs.grp.on.err hs.vb (by rw [hn]; omega)
  rw [hc, hn] at this
  unfold opS opE at this
  rw [h1, h2] at this
  exact this
theorem at_update {so : Sup} {D : Dev} {g x : Nat} (h : AtD so D g x) (hk : so.Ok) (hl : so.lin ≤ 200) (h0 : so.gen = 0) (hg : g < 1000) (hx : x < 10000) :
    ∃ D', AtD so D' (g + 1) (x + 19) ∧ ∀ (wx : World) (v : DV) (own : Nat → Option Role), Nib wx → IsDev wx v own D → Calls Tryd.prog 29 #[.iface 49 (.pointer (some ⟨v.tb 0, 0, none⟩)), .agg so.cells] wx fun r w' => r = .returned (.int .i64 0) ∧ DPost v own wx D' w' := by
  obtain ⟨C, hs, h1, h2⟩ := h
  have hn := hs.grp.on.n
  have hc := hs.cur
  have hgg : (newS C 200).gen = g := by rw [h2]; rfl
  have hA := newA_le C 200
  have hs' := hs.prog ((okG hk ((g : Int) + 1)).fits (show (0 : Int) ≤ (g : Int) + 1 by omega) (show (g : Int) + 1 < 18446744073709551616 by omega)) (i := 1 - newA C 200) (by omega)
  obtain ⟨p1, p2⟩ := prg_cp (so.withGen ((g : Int) + 1)) (1 - newA C 200) C
  have hu := new_update (so.withGen ((g : Int) + 1)) (okG hk _) C _ (n := 200) (by show so.lin ≤ _; omega) h1 (by rw [hgg]; show (g : Int) < (g : Int) + 1; omega) (by show (0 : Int) ≤ (g : Int) + 1; omega) p1 (p2 _ (by omega))
  refine ⟨_, ⟨_, hs', hu.1, by rw [hu.2.1]; congr 1⟩, fun wx v own hN hd => ?_⟩
  refine (sbUpdate_any hN hd (j := 0) (by omega) hs.grp.on.off hs.grp.on.err hs.vb (by rw [hn]; omega) so hk (by rw [hn]; omega) (by omega) (by omega) (by have := hs.exec; omega)).mono ?_
  rintro r w' (⟨e1, _⟩ | ⟨_, e2, _⟩ | ⟨_, _, e3, e4⟩)
  · rw [hc, hn, h1] at e1; cases e1
  · rw [hc, hn, hgg] at e2; omega
  · rw [hc, hn, hgg] at e3 e4
    rw [hs'.grp.on.err] at e3
    exact ⟨e3, e4⟩
/-- An update on an armed device: its error, and what Open answers behind the crash. -/
theorem at_cut {so sn : Sup} {D : Dev} {g x : Nat} (h : AtD so D g x) (hk : sn.Ok) (hl : sn.lin ≤ 200) (h0 : sn.gen = 0) (hg : g < 1000) (hx : x < 10000) (k : Nat) :
    ∃ (E : Dev) (e : Int), (e = 0 ∨ e = 3) ∧ E.n = 200 ∧ E.VB ∧ E.exec ≤ x + 19 ∧
      (∀ (wx : World) (v : DV) (own : Nat → Option Role), Nib wx → IsDev wx v own (D.arm k) → Calls Tryd.prog 29 #[.iface 49 (.pointer (some ⟨v.tb 0, 0, none⟩)), .agg sn.cells] wx fun r w' => r = .returned (.int .i64 e) ∧ DPost v own wx E w') ∧
      ∀ ks, ∃ res : Sup, (res = sn.withGen ((g : Int) + 1) ∨ (res = so.withGen g ∧ e = 3)) ∧ ∀ (wx : World) (v : DV) (own : Nat → Option Role), Nib wx → IsDev wx v own (Dev.fresh 200 (E.img ks)) → Calls Tryd.prog 19 #[.iface 49 (.pointer (some ⟨v.tb 0, 0, none⟩))] wx fun r w' => r = .returned (.tuple #[.agg res.cells, .int .i64 0]) ∧ Below wx.heap.size wx w' := by
  obtain ⟨C, hs, h1, h2⟩ := h
  have hgg : (newS C 200).gen = g := by rw [h2]; rfl
  obtain ⟨hgr, hvb, hex, hnn⟩ := hs.armed k
  have hn := hgr.on.n
  have hc : (D.arm k).cur = C := funext fun i => by rw [hgr.hst.cur]; rfl
  obtain ⟨c1, c2, c3, c4, c5⟩ := hs.cut k (sn.withGen ((g : Int) + 1)) (okG hk _) ((okG hk ((g : Int) + 1)).fits (show (0 : Int) ≤ (g : Int) + 1 by omega) (show (g : Int) + 1 < 18446744073709551616 by omega)) (by show sn.lin ≤ _; omega) (by omega) h1 (by rw [hgg]; show (g : Int) < (g : Int) + 1; omega) (by show (0 : Int) ≤ (g : Int) + 1; omega) _ rfl
  refine ⟨_, _, c4, c1, c2, c3, fun wx v own hN hd => ?_, fun ks => ?_⟩
  · refine (sbUpdate_any hN hd (j := 0) (by omega) hgr.on.off hgr.on.err hvb (by rw [hn]; omega) sn hk (by rw [hn]; omega) (by omega) (by omega) (by rw [hex]; have := hs.exec; omega)).mono ?_
    rintro r w' (⟨e1, _⟩ | ⟨_, e2, _⟩ | ⟨_, _, e3, e4⟩)
    · rw [hc, hn, h1] at e1; cases e1
    · rw [hc, hn, hgg] at e2; omega
    · rw [hc, hn, hgg] at e3 e4
      exact ⟨e3, e4⟩
  · obtain ⟨d1, d2⟩ := c5 ks
    refine ⟨_, by rw [← h2]; exact d2, fun wx v own hN hd => ?_⟩
    have hf := fresh_scl (fun i => c2.img ks i) 0 200
    have := sbOpen_any hN hd (j := 0) (by omega) hf.grp.on.off hf.grp.on.err hf.vb (by show 2 ≤ 200; omega)
    rw [hf.cur, hf.grp.on.n] at this
    unfold opS opE at this
    rw [d1] at this
    exact this
end Go.Proofs.YtbpaamnofkhonaaDoor
namespace Go.Proofs.YtbpaamnofkhonaaDoor
open Go.RowKit Go.Maps
attribute [local go_sem ↓] Go.wp_at_zero Go.wp_at_succ

theorem fresh200 {w : World} {v : DV} {own : Nat → Option Role} {n : Nat} {f g : Nat → Int} (h : IsDev w v own (Dev.fresh n f)) (hfg : ∀ i, i < 8 * n → f i = g i) : IsDev w v own (Dev.fresh n g) :=
  { wf := ⟨h.wf.pos, h.wf.le, h.wf.line, h.wf.cnt, h.wf.note, h.wf.left⟩, dev := h.dev, pers := h.pers.congr (fun i hi => by show Value.int .u64 (f i) = .int .u64 (g i); rw [hfg i hi]), cur := h.cur.congr (fun i hi => by show Value.int .u64 (f i) = .int .u64 (g i); rw [hfg i hi]),
    lines := h.lines, thr := h.thr, notes := h.notes, odb := h.odb, opb := h.opb, ocb := h.ocb, olb := h.olb, otb := h.otb, onb := h.onb, lt := h.lt, pcs := h.pcs }
/-- The crash of a device of 200 lines. -/
theorem crash200 {w : World} {v : DV} {own : Nat → Option Role} {D : Dev} (hL : IsDev w v own D) (hn : D.n = 200) (hvb : D.VB) (cv : Value) (cs : List Int) (hc : RdSl w 1 cv cs.length (cs.map fun x => .int .u8 x)) (hcb : ∀ x ∈ cs, 0 ≤ x ∧ x < 256) (hcl : cs.length ≤ maxLen) (hex : D.exec < 4611686018427387904) :
    Calls Tryd.prog 40 #[.pointer (some ⟨v.db, 0, none⟩), cv] w fun r w' => ∃ (ks : Nat → Nat) (v' : DV) (own' : Nat → Option Role), r = .returned (.pointer (some ⟨v'.db, 0, none⟩)) ∧ IsDev w' v' own' (Dev.fresh 200 (D.img ks)) ∧ (∀ k, own' k ≠ none → w.heap.size ≤ k) ∧ Below w.heap.size w w' := by
  refine (crash_any hL hvb cv cs hc hcb hcl hex).mono ?_
  rintro r w' ⟨ks, v', own', _, hr, ⟨f, hf, hd⟩, ho, hb⟩
  rw [hn] at hd hf
  exact ⟨ks, v', own', hr, fresh200 hd hf, ho, hb⟩
section
variable {w : World}
structure Bx8 (w : World) (o0 o1 o2 o3 s0 s1 s2 s3 c0 c1 c2 : Nat) (wx : World) : Prop where
  a : Blk wx w.heap.size #[.int .u8 o0, .int .u8 o1, .int .u8 o2, .int .u8 o3] 38
  b : Blk wx (w.heap.size + 1) #[.int .u8 s0, .int .u8 s1, .int .u8 s2, .int .u8 s3] 38
  c : Blk wx (w.heap.size + 2) #[.int .u8 c0, .int .u8 c1, .int .u8 c2] 80
  bel : Below w.heap.size w wx
section
variable {o0 o1 o2 o3 s0 s1 s2 s3 c0 c1 c2 : Nat} {wx wy : World}
theorem Bx8.next (h : Bx8 w o0 o1 o2 o3 s0 s1 s2 s3 c0 c1 c2 wx) (hb : Below wx.heap.size wx wy) : Bx8 w o0 o1 o2 o3 s0 s1 s2 s3 c0 c1 c2 wy := ⟨h.a.below hb, h.b.below hb, h.c.below hb, h.bel.trans (hb.mono h.bel.size)⟩
theorem Bx8.ca (h : Bx8 w o0 o1 o2 o3 s0 s1 s2 s3 c0 c1 c2 wx) : (fun wx => wx.cell? ⟨w.heap.size, 0, none⟩ = some (.int .u8 o0) ∧ wx.cell? ⟨w.heap.size, 1, none⟩ = some (.int .u8 o1) ∧ wx.cell? ⟨w.heap.size, 2, none⟩ = some (.int .u8 o2) ∧ wx.cell? ⟨w.heap.size, 3, none⟩ = some (.int .u8 o3)) wx := ⟨h.a.cell rfl, h.a.cell rfl, h.a.cell rfl, h.a.cell rfl⟩
theorem Bx8.cb (h : Bx8 w o0 o1 o2 o3 s0 s1 s2 s3 c0 c1 c2 wx) : (fun wx => wx.cell? ⟨w.heap.size + 1, 0, none⟩ = some (.int .u8 s0) ∧ wx.cell? ⟨w.heap.size + 1, 1, none⟩ = some (.int .u8 s1) ∧ wx.cell? ⟨w.heap.size + 1, 2, none⟩ = some (.int .u8 s2) ∧ wx.cell? ⟨w.heap.size + 1, 3, none⟩ = some (.int .u8 s3)) wx := ⟨h.b.cell rfl, h.b.cell rfl, h.b.cell rfl, h.b.cell rfl⟩
theorem Bx8.start (w : World) (o0 o1 o2 o3 s0 s1 s2 s3 c0 c1 c2 : Nat) : Bx8 w o0 o1 o2 o3 s0 s1 s2 s3 c0 c1 c2 (((w.alloc (.cells #[.int .u8 o0, .int .u8 o1, .int .u8 o2, .int .u8 o3] 38)).alloc (.cells #[.int .u8 s0, .int .u8 s1, .int .u8 s2, .int .u8 s3] 38)).alloc (.cells #[.int .u8 c0, .int .u8 c1, .int .u8 c2] 80)) := by
  have hz1 : (w.alloc (.cells #[.int .u8 o0, .int .u8 o1, .int .u8 o2, .int .u8 o3] 38)).heap.size = w.heap.size + 1 := by simp
  have hz2 : ((w.alloc (.cells #[.int .u8 o0, .int .u8 o1, .int .u8 o2, .int .u8 o3] 38)).alloc (.cells #[.int .u8 s0, .int .u8 s1, .int .u8 s2, .int .u8 s3] 38)).heap.size = w.heap.size + 2 := by simp
  have h1 := ((Blk.new w #[.int .u8 o0, .int .u8 o1, .int .u8 o2, .int .u8 o3] 38).alloc (.cells #[.int .u8 s0, .int .u8 s1, .int .u8 s2, .int .u8 s3] 38)).alloc (.cells #[.int .u8 c0, .int .u8 c1, .int .u8 c2] 80)
  have h2 := (Blk.new (w.alloc (.cells #[.int .u8 o0, .int .u8 o1, .int .u8 o2, .int .u8 o3] 38)) #[.int .u8 s0, .int .u8 s1, .int .u8 s2, .int .u8 s3] 38).alloc (.cells #[.int .u8 c0, .int .u8 c1, .int .u8 c2] 80)
  have h3 := Blk.new ((w.alloc (.cells #[.int .u8 o0, .int .u8 o1, .int .u8 o2, .int .u8 o3] 38)).alloc (.cells #[.int .u8 s0, .int .u8 s1, .int .u8 s2, .int .u8 s3] 38)) #[.int .u8 c0, .int .u8 c1, .int .u8 c2] 80
  rw [hz1] at h2
  rw [hz2] at h3
  exact ⟨h1, h2, h3, (below_twice w _ _).trans ((below_alloc _ _).mono (below_twice w _ _).size)⟩
end
theorem own_none {wc : World} {v : DV} {own : Nat → Option Role} {D : Dev} {k : Nat} (h : IsDev wc v own D) (hk : wc.heap.size ≤ k) : own k = none := by
  cases ho : own k with
  | none => rfl
  | some r => have := h.lt k (by rw [ho]; simp); omega
/-- A device, and a block besides that it does not own. -/
structure DsB (w0 : World) (v : DV) (own : Nat → Option Role) (D : Dev) (bw : Nat) (c : Array Value) (wx : World) : Prop where
  st : Ds w0 v own D wx
  blk : Blk wx bw c 29
  out : own bw = none
section
variable {w0 wx wy : World} {v : DV} {own : Nat → Option Role} {D D' : Dev} {bw : Nat} {c : Array Value}
theorem DsB.next (h : DsB w0 v own D bw c wx) (hb : Below wx.heap.size wx wy) : DsB w0 v own D bw c wy := ⟨h.st.next hb, h.blk.below hb, h.out⟩
theorem DsB.step (h : DsB w0 v own D bw c wx) (hp : DPost v own wx D' wy) : ∃ own', DsB w0 v own' D' bw c wy := by
  obtain ⟨own', h1, h2, h3⟩ := hp
  refine ⟨own', ⟨h1, fun k hk => ?_, ?_⟩, h.blk.upd h3 (by rw [h.out]; simp), by rw [h2 bw h.blk.lt]; exact h.out⟩
  · rcases Nat.lt_or_ge k wx.heap.size with hlt | hge
    · rw [h2 k hlt] at hk; exact h.st.ob k hk
    · exact Nat.le_trans h.st.bel.size hge
  · exact h.st.bel.trans ⟨h3.os, h3.tape, h3.output, h3.size, fun k hk => h3.block k (Nat.lt_of_lt_of_le hk h.st.bel.size) (fun hk2 => by have := h.st.ob k hk2; omega)⟩
end
set_option maxRecDepth 100000 in
set_option maxHeartbeats 16000000 in
theorem superblockAtomic_any (hN : Nib w) (o0 o1 o2 o3 s0 s1 s2 s3 c0 c1 c2 : Nat) (ho0 : o0 < 256) (ho1 : o1 < 256) (ho2 : o2 < 256) (ho3 : o3 < 256) (hs0 : s0 < 256) (hs1 : s1 < 256) (hs2 : s2 < 256) (hs3 : s3 < 256) (hc0 : c0 < 256) (hc1 : c1 < 256) (hc2 : c2 < 256) :
    Calls Tryd.prog 8 #[.agg #[.int .u8 o0, .int .u8 o1, .int .u8 o2, .int .u8 o3], .agg #[.int .u8 s0, .int .u8 s1, .int .u8 s2, .int .u8 s3], .agg #[.int .u8 c0, .int .u8 c1, .int .u8 c2]] w fun e w' => e = .returned (.bool true) ∧ Below w.heap.size w w' := by
  have HNB := Lib.hid hN; clear hN
  have HSO := Lib.hid (fun wx : World => some_any (w := wx) o0 o1 o2 o3 ho0 ho1 ho2 ho3)
  have HSN := Lib.hid (fun wx : World => some_any (w := wx) s0 s1 s2 s3 hs0 hs1 hs2 hs3)
  obtain ⟨ok1, lin1⟩ := smS_ok o0 o1 o2 o3 ho0
  obtain ⟨ok2, lin2⟩ := smS_ok s0 s1 s2 s3 hs0
  have g1 : (smS o0 o1 o2 o3).gen = 0 := rfl
  have g2 : (smS s0 s1 s2 s3).gen = 0 := rfl
  generalize smS o0 o1 o2 o3 = so at HSO ok1 lin1 g1
  generalize smS s0 s1 s2 s3 = sn at HSN ok2 lin2 g2
  have HRO := Lib.hid (fun wx => real_any (w := wx) so)
  have HRN := Lib.hid (fun wx => real_any (w := wx) sn)
  obtain ⟨DF, hDF, hfm⟩ : ∃ DF, AtD so DF 1 24 ∧ ∀ (wx : World) (v : DV) (own : Nat → Option Role), Nib wx → IsDev wx v own (Dev.fresh 200 (fun _ => 0)) → Calls Tryd.prog 28 #[.iface 49 (.pointer (some ⟨v.tb 0, 0, none⟩)), .agg so.cells] wx fun r w' => r = .returned (.int .i64 0) ∧ DPost v own wx DF w' := by
    have hA := at_format so ok1 (by omega)
    refine ⟨_, hA, fun wx v own hx hd => ?_⟩
    have := sbFormat_any hx hd (j := 0) (by omega) rfl (by show 2 ≤ 200; omega) so ok1 (by show so.lin ≤ 200; omega) (by show 0 + 100000 < 4294967296; omega)
    obtain ⟨C, hs, _⟩ := hA
    rw [hs.grp.on.err] at this
    exact this
  have HUP := Lib.hid (fun (D : Dev) (g x : Nat) (h : AtD so D g x) hg hx => at_update h ok1 (by omega) g1 hg hx)
  have HCU := Lib.hid (fun (D : Dev) (g x : Nat) (h : AtD so D g x) hg hx (k : Nat) => at_cut (sn := sn) h ok2 (by omega) g2 hg hx k)
  have HOA := Lib.hid (fun (D : Dev) (g x : Nat) (h : AtD so D g x) => at_open h)
  have HFM := Lib.hid hfm; clear hfm
  have HDF := Lib.hid hDF; clear hDF
  have hnew := fun (wx : World) => new_any (w := wx) 200 (by omega) (by omega)
  rw [show ((200 : Nat) : Int) = 200 from rfl] at hnew
  have HNW := Lib.hid hnew; clear hnew
  have HR1 := Lib.hid (fun wx : World => RdSl.new wx #[.int .u8 c1] 5 1 1 rfl)
  have HB1 : Hid (∀ x ∈ [(c1 : Int)], 0 ≤ x ∧ x < 256) := fun x hx => by simp at hx; subst hx; omega
  clear ok1 ok2 lin1 lin2
  obtain ⟨ver, lin, redo, und, desc, que, tab, gen⟩ := so
  obtain ⟨ver', lin', redo', und', desc', que', tab', gen'⟩ := sn
  obtain rfl : gen = 0 := g1
  obtain rfl : gen' = 0 := g2
  unfold Sup.cells at *
  have X0 := Lib.hid (Bx8.start w o0 o1 o2 o3 s0 s1 s2 s3 c0 c1 c2)
  obtain ⟨r, hr⟩ : ∃ r, c2 % 3 = r := ⟨_, rfl⟩
  have hr3 : r < 3 := by omega
  go_enter Tryd.func8, Tryd.ntmps8
  go_wp2_with fail
  (with_reducible refine (awake13 (HNB.out.below X0.out.bel)).mono ?_)
  rintro e w1 ⟨rfl, b1⟩
  have X1 := Lib.hid (X0.out.next b1); clear b1 X0
  go_wp2_with fail
  (with_reducible refine (HNW.out _).mono ?_)
  rintro e w2 ⟨v, own, rfl, d2, o2', b2⟩
  have S2 : Hid (Ds w1 v own (Dev.fresh 200 (fun _ => 0)) w2) := ⟨d2, o2', b2⟩
  clear d2 o2' b2 HNW
  go_upto_region 4 with fail
  go_cut [29] from 22 to 29 (fun u wx => u = .bool false ∧ ∃ own', Ds w1 v own' DF wx)
  case first =>
    have SD := Lib.hid (S2.out.next ((Below.refl _ _).drew))
    have XD := Lib.hid ((X1.out.next SD.out.bel).ca)
    go_region_held3 (fun wx => wx.cell? ⟨w.heap.size, 0, none⟩ = some (.int .u8 o0) ∧ wx.cell? ⟨w.heap.size, 1, none⟩ = some (.int .u8 o1) ∧ wx.cell? ⟨w.heap.size, 2, none⟩ = some (.int .u8 o2) ∧ wx.cell? ⟨w.heap.size, 3, none⟩ = some (.int .u8 o3)) (first | (with_reducible exact X5.out) | (with_reducible exact X4.out) | (with_reducible exact X3.out) | (with_reducible exact XD.out)) (first | (go_at_call 20; (with_reducible refine (thread0_any SD.out.dev).mono ?_); rintro e w' ⟨rfl, rfl⟩) | (go_at_call 32; (with_reducible refine (HSO.out _).mono ?_); rintro e w3 ⟨rfl, b3⟩; have S3 := Lib.hid (SD.out.next b3); have X3 := Lib.hid ((X1.out.next S3.out.bel).ca); clear b3) | (go_at_call 12; (with_reducible refine (HRO.out _).mono ?_); rintro e w4 ⟨rfl, b4⟩; have S4 := Lib.hid (S3.out.next b4); have X4 := Lib.hid ((X1.out.next S4.out.bel).ca); clear b4) | (go_at_call 28; (with_reducible refine (HFM.out _ _ _ (HNB.out.below (X1.out.next S4.out.bel).bel) S4.out.dev).mono ?_); rintro e w5 ⟨rfl, p5⟩; obtain ⟨own5, s5⟩ := S4.out.step p5; have S5 := Lib.hid s5; have X5 := Lib.hid ((X1.out.next S5.out.bel).ca); clear p5 s5))
    all_goals go_wp2_with fail
    all_goals go_meet
    all_goals exact ⟨rfl, _, S5.out⟩
  case rest =>
    obtain ⟨rfl, own3, hds⟩ := hcut
    rename World => w3
    have S3 := Lib.hid hds
    clear hds S2 HFM
    have kc2 : w3.cell? ⟨w.heap.size + 2, 2, none⟩ = some (.int .u8 c2) := (X1.out.next S3.out.bel).c.cell rfl
    go_wp2_with fail
    go_loopw [33] (fun x wr => ∃ q : Nat, q ≤ r ∧ x = .int .u8 q ∧ ∃ own' D, Ds w1 v own' D wr ∧ AtD ⟨ver, lin, redo, und, desc, que, tab, 0⟩ D (q + 1) (24 + 19 * q)) (fun x _ => r - (intOf x).toNat)
    case atStart => exact ⟨0, by omega, rfl, _, DF, S3.out, HDF.out⟩
    case round =>
      clear S3 kc2 HDF own3
      obtain ⟨q, hqr, rfl, own4, D, hds, hat⟩ := hrel
      have S4 := Lib.hid hds
      have AT := Lib.hid hat
      clear hds hat
      by_cases hlt : q < r
      · have hlt' : (q : Int) < (c2 : Int) % 3 := by omega
        obtain ⟨D', hD', hup⟩ := HUP.out D (q + 1) (24 + 19 * q) AT.out (by omega) (by omega)
        have HU := Lib.hid hup
        have AT' := Lib.hid hD'
        clear hup hD' AT HUP HCU HOA
        go_upto_region 8 with fail
        go_cut [33, 42] from 33 to 43 (fun i u wx => i = .int .u8 q ∧ u = .bool false ∧ ∃ own', Ds w1 v own' D' wx)
        case first =>
          have SD := Lib.hid (S4.out.next ((Below.refl _ _).drew))
          have XD := Lib.hid ((X1.out.next SD.out.bel).ca)
          go_region_held3 (fun wx => wx.cell? ⟨w.heap.size, 0, none⟩ = some (.int .u8 o0) ∧ wx.cell? ⟨w.heap.size, 1, none⟩ = some (.int .u8 o1) ∧ wx.cell? ⟨w.heap.size, 2, none⟩ = some (.int .u8 o2) ∧ wx.cell? ⟨w.heap.size, 3, none⟩ = some (.int .u8 o3)) (first | (with_reducible exact X5.out) | (with_reducible exact X4.out) | (with_reducible exact X3.out) | (with_reducible exact XD.out)) (first | (go_at_call 20; (with_reducible refine (thread0_any SD.out.dev).mono ?_); rintro e w' ⟨rfl, rfl⟩) | (go_at_call 32; (with_reducible refine (HSO.out _).mono ?_); rintro e w3 ⟨rfl, b3⟩; have S3 := Lib.hid (SD.out.next b3); have X3 := Lib.hid ((X1.out.next S3.out.bel).ca); clear b3) | (go_at_call 12; (with_reducible refine (HRO.out _).mono ?_); rintro e w4 ⟨rfl, b4⟩; have S4' := Lib.hid (S3.out.next b4); have X4 := Lib.hid ((X1.out.next S4'.out.bel).ca); clear b4) | (go_at_call 29; (with_reducible refine (HU.out _ _ _ (HNB.out.below (X1.out.next S4'.out.bel).bel) S4'.out.dev).mono ?_); rintro e w5 ⟨rfl, p5⟩; obtain ⟨own5, s5⟩ := S4'.out.step p5; have S5 := Lib.hid s5; have X5 := Lib.hid ((X1.out.next S5.out.bel).ca); clear p5 s5))
          all_goals go_wp2_with fail
          all_goals go_meet
          all_goals exact ⟨rfl, rfl, _, S5.out⟩
        case rest =>
          obtain ⟨rfl, rfl, own5, hds⟩ := hcut
          rename World => wy
          have S5 := Lib.hid hds
          clear hds S4 HU
          go_wp2_with fail
          go_roundw
          case rel => exact ⟨q + 1, by omega, by go_num, own5, D', S5.out, by rw [show 24 + 19 * (q + 1) = 24 + 19 * q + 19 by omega]; exact AT'.out⟩
          case measure => simp [intOf]; omega
      · have hlt' : ¬ (q : Int) < (c2 : Int) % 3 := by omega
        obtain ⟨G, hG⟩ : ∃ G : Int, ((q + 1 : Nat) : Int) = G := ⟨_, rfl⟩
        have hop := HOA.out D (q + 1) _ AT.out
        obtain ⟨E, e0, he, hn, hvb, hex, hup, hoq⟩ := HCU.out D (q + 1) (24 + 19 * q) AT.out (by omega) (by omega) (c0 % 16)
        rw [hG] at hop hoq
        have hG2 : 0 < G ∧ G < 1000 := by omega
        have HOP : Hid (∀ (wx : World) (v : DV) (own : Nat → Option Role), Nib wx → IsDev wx v own D → Calls Tryd.prog 19 #[.iface 49 (.pointer (some ⟨v.tb 0, 0, none⟩))] wx fun r w' => r = .returned (.tuple #[.agg #[.int .i64 ver, .int .i64 lin, .int .i64 redo, .int .i64 und, .int .i64 desc, .int .i64 que, .int .i64 tab, .int .u64 G], .int .i64 0]) ∧ Below wx.heap.size wx w') := hop
        have HU : Hid (∀ (wx : World) (v : DV) (own : Nat → Option Role), Nib wx → IsDev wx v own (D.arm (c0 % 16)) → Calls Tryd.prog 29 #[.iface 49 (.pointer (some ⟨v.tb 0, 0, none⟩)), .agg #[.int .i64 ver', .int .i64 lin', .int .i64 redo', .int .i64 und', .int .i64 desc', .int .i64 que', .int .i64 tab', .int .u64 0]] wx fun r w' => r = .returned (.int .i64 e0) ∧ DPost v own wx E w') := hup
        have HD : Hid (E.n = 200 ∧ E.VB ∧ E.exec < 4611686018427387904) := ⟨hn, hvb, by omega⟩
        have HOQ := Lib.hid hoq
        have HE := Lib.hid he
        have harm := fun (wx : World) (v : DV) (own : Nat → Option Role) (hd : IsDev wx v own D) => arm_any hd (c0 % 16) (by omega)
        rw [show ((c0 % 16 : Nat) : Int) = (c0 : Int) % 16 from by omega] at harm
        have HARM := Lib.hid harm
        clear hop hoq hn hvb hex hup he harm AT HOA HCU HUP hG HSO HRO
        go_wp2_with fail
        (with_reducible refine (thread0_any S4.out.dev).mono ?_)
        rintro e w' ⟨rfl, rfl⟩
        go_wp2_with fail
        (with_reducible refine (HOP.out _ _ _ (HNB.out.below (X1.out.next S4.out.bel).bel) S4.out.dev).mono ?_)
        rintro e w5 ⟨rfl, b5⟩
        obtain ⟨bw, hbw⟩ : ∃ bw, w5.heap.size = bw := ⟨_, rfl⟩
        have S5 : Hid (DsB w1 v own4 D w5.heap.size #[.int .i64 ver, .int .i64 lin, .int .i64 redo, .int .i64 und, .int .i64 desc, .int .i64 que, .int .i64 tab, .int .u64 G] (w5.alloc (.cells #[.int .i64 ver, .int .i64 lin, .int .i64 redo, .int .i64 und, .int .i64 desc, .int .i64 que, .int .i64 tab, .int .u64 G] 29))) := ⟨(S4.out.next b5).next (below_alloc _ _), Blk.new _ _ _, own_none (S4.out.next b5).dev (Nat.le_refl _)⟩
        have y0 : (w5.alloc (.cells #[.int .i64 ver, .int .i64 lin, .int .i64 redo, .int .i64 und, .int .i64 desc, .int .i64 que, .int .i64 tab, .int .u64 G] 29)).cell? ⟨w.heap.size + 2, 0, none⟩ = some (.int .u8 c0) := (X1.out.next S5.out.st.bel).c.cell rfl
        clear b5 HOP S4
        go_wp2_with fail
        (with_reducible refine (HARM.out _ _ _ S5.out.st.dev).mono ?_)
        rintro e w6 ⟨rfl, p6⟩
        obtain ⟨own6, s6⟩ := S5.out.step p6
        have S6 := Lib.hid s6
        clear p6 s6 S5 HARM y0
        rw [hbw] at S6
        clear hbw
        go_upto_region 13 with fail
        go_cut [11] from 57 to 63 (fun u wx => u = .int .i64 e0 ∧ ∃ own', DsB w1 v own' E bw #[.int .i64 ver, .int .i64 lin, .int .i64 redo, .int .i64 und, .int .i64 desc, .int .i64 que, .int .i64 tab, .int .u64 G] wx)
        case first =>
          have SD := Lib.hid (S6.out.next ((Below.refl _ _).drew))
          have XD := Lib.hid ((X1.out.next SD.out.st.bel).cb)
          go_region_held3 (fun wx => wx.cell? ⟨w.heap.size + 1, 0, none⟩ = some (.int .u8 s0) ∧ wx.cell? ⟨w.heap.size + 1, 1, none⟩ = some (.int .u8 s1) ∧ wx.cell? ⟨w.heap.size + 1, 2, none⟩ = some (.int .u8 s2) ∧ wx.cell? ⟨w.heap.size + 1, 3, none⟩ = some (.int .u8 s3)) (first | (with_reducible exact X5.out) | (with_reducible exact X4.out) | (with_reducible exact X3.out) | (with_reducible exact XD.out)) (first | (go_at_call 20; (with_reducible refine (thread0_any SD.out.st.dev).mono ?_); rintro e w' ⟨rfl, rfl⟩) | (go_at_call 32; (with_reducible refine (HSN.out _).mono ?_); rintro e w3 ⟨rfl, b3⟩; have S3 := Lib.hid (SD.out.next b3); have X3 := Lib.hid ((X1.out.next S3.out.st.bel).cb); clear b3) | (go_at_call 12; (with_reducible refine (HRN.out _).mono ?_); rintro e w4 ⟨rfl, b4⟩; have S4' := Lib.hid (S3.out.next b4); have X4 := Lib.hid ((X1.out.next S4'.out.st.bel).cb); clear b4) | (go_at_call 29; (with_reducible refine (HU.out _ _ _ (HNB.out.below (X1.out.next S4'.out.st.bel).bel) S4'.out.st.dev).mono ?_); rintro e w5 ⟨rfl, p5⟩; obtain ⟨own5, s5⟩ := S4'.out.step p5; have S5 := Lib.hid s5; have X5 := Lib.hid ((X1.out.next S5.out.st.bel).cb); clear p5 s5))
          all_goals go_wp2_with fail
          all_goals go_meet
          all_goals exact ⟨rfl, _, S5.out⟩
        case rest =>
          obtain ⟨rfl, own7, hds⟩ := hcut
          rename World => w7
          have S7 := Lib.hid hds
          clear hds S6 HU
          have y1 : w7.cell? ⟨w.heap.size + 2, 1, none⟩ = some (.int .u8 c1) := (X1.out.next S7.out.st.bel).c.cell rfl
          go_wp2_with fail
          (with_reducible refine (crash200 (S7.out.st.dev.alloc _) HD.out.1 HD.out.2.1 _ [(c1 : Int)] (HR1.out w7) HB1.out (by unfold maxLen; simp) HD.out.2.2).mono ?_)
          rintro e w8 ⟨ks, v1, own8, rfl, d8, ho8, b8⟩
          obtain ⟨res, hres, hopn⟩ := HOQ.out ks
          have D8 := Lib.hid d8
          have B8 : Hid (Below w7.heap.size w7 w8) := (below_alloc w7 (.cells #[.int .u8 c1] 5)).trans (b8.mono (by simp))
          have X8 := Lib.hid ((X1.out.next S7.out.st.bel).next B8.out)
          have K8 := Lib.hid (S7.out.blk.below B8.out)
          clear d8 ho8 b8 HOQ S7 HD HR1 HB1 y1
          have gne : (G = G + 1) = False := by simp; omega
          have hG3 : 0 ≤ G ∧ G + 1 < 18446744073709551616 := by omega
          have hb11 : ∀ w11 : World, Below w11.heap.size w11 (w11.alloc (.cells #[.int .i64 ver', .int .i64 lin', .int .i64 redo', .int .i64 und', .int .i64 desc', .int .i64 que', .int .i64 tab', .int .u64 (G + 1)] 29)) := fun w11 => below_alloc w11 _
          have HB11 := Lib.hid hb11; clear hb11
          rcases hres with rfl | ⟨rfl, rfl⟩
          · have HOR : Hid (∀ (wx : World) (v : DV) (own : Nat → Option Role), Nib wx → IsDev wx v own (Dev.fresh 200 (E.img ks)) → Calls Tryd.prog 19 #[.iface 49 (.pointer (some ⟨v.tb 0, 0, none⟩))] wx fun r w' => r = .returned (.tuple #[.agg #[.int .i64 ver', .int .i64 lin', .int .i64 redo', .int .i64 und', .int .i64 desc', .int .i64 que', .int .i64 tab', .int .u64 (G + 1)], .int .i64 0]) ∧ Below wx.heap.size wx w') := hopn
            clear hopn
            go_wp2_with fail
            (with_reducible refine (thread0_any D8.out).mono ?_)
            rintro e w' ⟨rfl, rfl⟩
            go_wp2_with fail
            (with_reducible refine (HOR.out _ _ _ (HNB.out.below X8.out.bel) D8.out).mono ?_)
            rintro e w9 ⟨rfl, b9⟩
            have B9 : Hid (Below w8.heap.size w8 (w9.alloc (.cells #[.int .i64 ver', .int .i64 lin', .int .i64 redo', .int .i64 und', .int .i64 desc', .int .i64 que', .int .i64 tab', .int .u64 (G + 1)] 29))) := b9.trans ((below_alloc w9 _).mono b9.size)
            have X9 := Lib.hid (X8.out.next B9.out)
            have K9 := Lib.hid (K8.out.below B9.out)
            have N9 := Lib.hid (Blk.new w9 #[.int .i64 ver', .int .i64 lin', .int .i64 redo', .int .i64 und', .int .i64 desc', .int .i64 que', .int .i64 tab', .int .u64 (G + 1)] 29)
            obtain ⟨u0, u1, u2, u3⟩ := X9.out.cb
            clear b9 B9 HOR D8 X8 K8
            go_wp2_with fail
            (with_reducible refine (HSN.out _).mono ?_)
            rintro e w10 ⟨rfl, b10⟩
            have X10 := Lib.hid (X9.out.next b10)
            have K10 := Lib.hid (K9.out.below b10)
            have N10 := Lib.hid (N9.out.below b10)
            clear b10 X9 K9 N9 u0 u1 u2 u3
            go_wp2_with fail
            (with_reducible refine (HRN.out _).mono ?_)
            rintro e w11 ⟨rfl, b11⟩
            have X11 := Lib.hid (X10.out.next b11)
            have K11 := Lib.hid (K10.out.below b11)
            have N11 := Lib.hid (N10.out.below b11)
            clear b11 X10 K10 N10
            have kG : (w11.alloc (.cells #[.int .i64 ver', .int .i64 lin', .int .i64 redo', .int .i64 und', .int .i64 desc', .int .i64 que', .int .i64 tab', .int .u64 0] 29)).cell? ⟨bw, 7, none⟩ = some (.int .u64 G) := (K11.out.alloc _).cell rfl
            have k0 : (w11.alloc (.cells #[.int .i64 ver', .int .i64 lin', .int .i64 redo', .int .i64 und', .int .i64 desc', .int .i64 que', .int .i64 tab', .int .u64 (G + 1)] 29)).cell? ⟨bw, 0, none⟩ = some (.int .i64 ver) := (K11.out.alloc _).cell rfl
            have k1 : (w11.alloc (.cells #[.int .i64 ver', .int .i64 lin', .int .i64 redo', .int .i64 und', .int .i64 desc', .int .i64 que', .int .i64 tab', .int .u64 (G + 1)] 29)).cell? ⟨bw, 1, none⟩ = some (.int .i64 lin) := (K11.out.alloc _).cell rfl
            have k2 : (w11.alloc (.cells #[.int .i64 ver', .int .i64 lin', .int .i64 redo', .int .i64 und', .int .i64 desc', .int .i64 que', .int .i64 tab', .int .u64 (G + 1)] 29)).cell? ⟨bw, 2, none⟩ = some (.int .i64 redo) := (K11.out.alloc _).cell rfl
            have k3 : (w11.alloc (.cells #[.int .i64 ver', .int .i64 lin', .int .i64 redo', .int .i64 und', .int .i64 desc', .int .i64 que', .int .i64 tab', .int .u64 (G + 1)] 29)).cell? ⟨bw, 3, none⟩ = some (.int .i64 und) := (K11.out.alloc _).cell rfl
            have k4 : (w11.alloc (.cells #[.int .i64 ver', .int .i64 lin', .int .i64 redo', .int .i64 und', .int .i64 desc', .int .i64 que', .int .i64 tab', .int .u64 (G + 1)] 29)).cell? ⟨bw, 4, none⟩ = some (.int .i64 desc) := (K11.out.alloc _).cell rfl
            have k5 : (w11.alloc (.cells #[.int .i64 ver', .int .i64 lin', .int .i64 redo', .int .i64 und', .int .i64 desc', .int .i64 que', .int .i64 tab', .int .u64 (G + 1)] 29)).cell? ⟨bw, 5, none⟩ = some (.int .i64 que) := (K11.out.alloc _).cell rfl
            have k6 : (w11.alloc (.cells #[.int .i64 ver', .int .i64 lin', .int .i64 redo', .int .i64 und', .int .i64 desc', .int .i64 que', .int .i64 tab', .int .u64 (G + 1)] 29)).cell? ⟨bw, 6, none⟩ = some (.int .i64 tab) := (K11.out.alloc _).cell rfl
            have k7 : (w11.alloc (.cells #[.int .i64 ver', .int .i64 lin', .int .i64 redo', .int .i64 und', .int .i64 desc', .int .i64 que', .int .i64 tab', .int .u64 (G + 1)] 29)).cell? ⟨bw, 7, none⟩ = some (.int .u64 G) := (K11.out.alloc _).cell rfl
            have n0 : (w11.alloc (.cells #[.int .i64 ver', .int .i64 lin', .int .i64 redo', .int .i64 und', .int .i64 desc', .int .i64 que', .int .i64 tab', .int .u64 (G + 1)] 29)).cell? ⟨w9.heap.size, 0, none⟩ = some (.int .i64 ver') := (N11.out.alloc _).cell rfl
            have n1 : (w11.alloc (.cells #[.int .i64 ver', .int .i64 lin', .int .i64 redo', .int .i64 und', .int .i64 desc', .int .i64 que', .int .i64 tab', .int .u64 (G + 1)] 29)).cell? ⟨w9.heap.size, 1, none⟩ = some (.int .i64 lin') := (N11.out.alloc _).cell rfl
            have n2 : (w11.alloc (.cells #[.int .i64 ver', .int .i64 lin', .int .i64 redo', .int .i64 und', .int .i64 desc', .int .i64 que', .int .i64 tab', .int .u64 (G + 1)] 29)).cell? ⟨w9.heap.size, 2, none⟩ = some (.int .i64 redo') := (N11.out.alloc _).cell rfl
            have n3 : (w11.alloc (.cells #[.int .i64 ver', .int .i64 lin', .int .i64 redo', .int .i64 und', .int .i64 desc', .int .i64 que', .int .i64 tab', .int .u64 (G + 1)] 29)).cell? ⟨w9.heap.size, 3, none⟩ = some (.int .i64 und') := (N11.out.alloc _).cell rfl
            have n4 : (w11.alloc (.cells #[.int .i64 ver', .int .i64 lin', .int .i64 redo', .int .i64 und', .int .i64 desc', .int .i64 que', .int .i64 tab', .int .u64 (G + 1)] 29)).cell? ⟨w9.heap.size, 4, none⟩ = some (.int .i64 desc') := (N11.out.alloc _).cell rfl
            have n5 : (w11.alloc (.cells #[.int .i64 ver', .int .i64 lin', .int .i64 redo', .int .i64 und', .int .i64 desc', .int .i64 que', .int .i64 tab', .int .u64 (G + 1)] 29)).cell? ⟨w9.heap.size, 5, none⟩ = some (.int .i64 que') := (N11.out.alloc _).cell rfl
            have n6 : (w11.alloc (.cells #[.int .i64 ver', .int .i64 lin', .int .i64 redo', .int .i64 und', .int .i64 desc', .int .i64 que', .int .i64 tab', .int .u64 (G + 1)] 29)).cell? ⟨w9.heap.size, 6, none⟩ = some (.int .i64 tab') := (N11.out.alloc _).cell rfl
            have n7 : (w11.alloc (.cells #[.int .i64 ver', .int .i64 lin', .int .i64 redo', .int .i64 und', .int .i64 desc', .int .i64 que', .int .i64 tab', .int .u64 (G + 1)] 29)).cell? ⟨w9.heap.size, 7, none⟩ = some (.int .u64 (G + 1)) := (N11.out.alloc _).cell rfl
            rcases HE.out with rfl | rfl
            · go_wp2_with fail
              go_ret
              exact ⟨rfl, (X11.out.next (HB11.out w11)).bel⟩
            · go_wp2_with fail
              go_ret
              exact ⟨rfl, (X11.out.next (HB11.out w11)).bel⟩
          · have HOR : Hid (∀ (wx : World) (v : DV) (own : Nat → Option Role), Nib wx → IsDev wx v own (Dev.fresh 200 (E.img ks)) → Calls Tryd.prog 19 #[.iface 49 (.pointer (some ⟨v.tb 0, 0, none⟩))] wx fun r w' => r = .returned (.tuple #[.agg #[.int .i64 ver, .int .i64 lin, .int .i64 redo, .int .i64 und, .int .i64 desc, .int .i64 que, .int .i64 tab, .int .u64 G], .int .i64 0]) ∧ Below wx.heap.size wx w') := hopn
            clear hopn
            go_wp2_with fail
            (with_reducible refine (thread0_any D8.out).mono ?_)
            rintro e w' ⟨rfl, rfl⟩
            go_wp2_with fail
            (with_reducible refine (HOR.out _ _ _ (HNB.out.below X8.out.bel) D8.out).mono ?_)
            rintro e w9 ⟨rfl, b9⟩
            have B9 : Hid (Below w8.heap.size w8 (w9.alloc (.cells #[.int .i64 ver, .int .i64 lin, .int .i64 redo, .int .i64 und, .int .i64 desc, .int .i64 que, .int .i64 tab, .int .u64 G] 29))) := b9.trans ((below_alloc w9 _).mono b9.size)
            have X9 := Lib.hid (X8.out.next B9.out)
            have K9 := Lib.hid (K8.out.below B9.out)
            have N9 := Lib.hid (Blk.new w9 #[.int .i64 ver, .int .i64 lin, .int .i64 redo, .int .i64 und, .int .i64 desc, .int .i64 que, .int .i64 tab, .int .u64 G] 29)
            obtain ⟨u0, u1, u2, u3⟩ := X9.out.cb
            clear b9 B9 HOR D8 X8 K8
            go_wp2_with fail
            (with_reducible refine (HSN.out _).mono ?_)
            rintro e w10 ⟨rfl, b10⟩
            have X10 := Lib.hid (X9.out.next b10)
            have K10 := Lib.hid (K9.out.below b10)
            have N10 := Lib.hid (N9.out.below b10)
            clear b10 X9 K9 N9 u0 u1 u2 u3
            go_wp2_with fail
            (with_reducible refine (HRN.out _).mono ?_)
            rintro e w11 ⟨rfl, b11⟩
            have X11 := Lib.hid (X10.out.next b11)
            have K11 := Lib.hid (K10.out.below b11)
            have N11 := Lib.hid (N10.out.below b11)
            clear b11 X10 K10 N10
            have kG : (w11.alloc (.cells #[.int .i64 ver', .int .i64 lin', .int .i64 redo', .int .i64 und', .int .i64 desc', .int .i64 que', .int .i64 tab', .int .u64 0] 29)).cell? ⟨bw, 7, none⟩ = some (.int .u64 G) := (K11.out.alloc _).cell rfl
            have k0 : (w11.alloc (.cells #[.int .i64 ver', .int .i64 lin', .int .i64 redo', .int .i64 und', .int .i64 desc', .int .i64 que', .int .i64 tab', .int .u64 (G + 1)] 29)).cell? ⟨bw, 0, none⟩ = some (.int .i64 ver) := (K11.out.alloc _).cell rfl
            have k1 : (w11.alloc (.cells #[.int .i64 ver', .int .i64 lin', .int .i64 redo', .int .i64 und', .int .i64 desc', .int .i64 que', .int .i64 tab', .int .u64 (G + 1)] 29)).cell? ⟨bw, 1, none⟩ = some (.int .i64 lin) := (K11.out.alloc _).cell rfl
            have k2 : (w11.alloc (.cells #[.int .i64 ver', .int .i64 lin', .int .i64 redo', .int .i64 und', .int .i64 desc', .int .i64 que', .int .i64 tab', .int .u64 (G + 1)] 29)).cell? ⟨bw, 2, none⟩ = some (.int .i64 redo) := (K11.out.alloc _).cell rfl
            have k3 : (w11.alloc (.cells #[.int .i64 ver', .int .i64 lin', .int .i64 redo', .int .i64 und', .int .i64 desc', .int .i64 que', .int .i64 tab', .int .u64 (G + 1)] 29)).cell? ⟨bw, 3, none⟩ = some (.int .i64 und) := (K11.out.alloc _).cell rfl
            have k4 : (w11.alloc (.cells #[.int .i64 ver', .int .i64 lin', .int .i64 redo', .int .i64 und', .int .i64 desc', .int .i64 que', .int .i64 tab', .int .u64 (G + 1)] 29)).cell? ⟨bw, 4, none⟩ = some (.int .i64 desc) := (K11.out.alloc _).cell rfl
            have k5 : (w11.alloc (.cells #[.int .i64 ver', .int .i64 lin', .int .i64 redo', .int .i64 und', .int .i64 desc', .int .i64 que', .int .i64 tab', .int .u64 (G + 1)] 29)).cell? ⟨bw, 5, none⟩ = some (.int .i64 que) := (K11.out.alloc _).cell rfl
            have k6 : (w11.alloc (.cells #[.int .i64 ver', .int .i64 lin', .int .i64 redo', .int .i64 und', .int .i64 desc', .int .i64 que', .int .i64 tab', .int .u64 (G + 1)] 29)).cell? ⟨bw, 6, none⟩ = some (.int .i64 tab) := (K11.out.alloc _).cell rfl
            have k7 : (w11.alloc (.cells #[.int .i64 ver', .int .i64 lin', .int .i64 redo', .int .i64 und', .int .i64 desc', .int .i64 que', .int .i64 tab', .int .u64 (G + 1)] 29)).cell? ⟨bw, 7, none⟩ = some (.int .u64 G) := (K11.out.alloc _).cell rfl
            have n0 : (w11.alloc (.cells #[.int .i64 ver', .int .i64 lin', .int .i64 redo', .int .i64 und', .int .i64 desc', .int .i64 que', .int .i64 tab', .int .u64 (G + 1)] 29)).cell? ⟨w9.heap.size, 0, none⟩ = some (.int .i64 ver) := (N11.out.alloc _).cell rfl
            have n1 : (w11.alloc (.cells #[.int .i64 ver', .int .i64 lin', .int .i64 redo', .int .i64 und', .int .i64 desc', .int .i64 que', .int .i64 tab', .int .u64 (G + 1)] 29)).cell? ⟨w9.heap.size, 1, none⟩ = some (.int .i64 lin) := (N11.out.alloc _).cell rfl
            have n2 : (w11.alloc (.cells #[.int .i64 ver', .int .i64 lin', .int .i64 redo', .int .i64 und', .int .i64 desc', .int .i64 que', .int .i64 tab', .int .u64 (G + 1)] 29)).cell? ⟨w9.heap.size, 2, none⟩ = some (.int .i64 redo) := (N11.out.alloc _).cell rfl
            have n3 : (w11.alloc (.cells #[.int .i64 ver', .int .i64 lin', .int .i64 redo', .int .i64 und', .int .i64 desc', .int .i64 que', .int .i64 tab', .int .u64 (G + 1)] 29)).cell? ⟨w9.heap.size, 3, none⟩ = some (.int .i64 und) := (N11.out.alloc _).cell rfl
            have n4 : (w11.alloc (.cells #[.int .i64 ver', .int .i64 lin', .int .i64 redo', .int .i64 und', .int .i64 desc', .int .i64 que', .int .i64 tab', .int .u64 (G + 1)] 29)).cell? ⟨w9.heap.size, 4, none⟩ = some (.int .i64 desc) := (N11.out.alloc _).cell rfl
            have n5 : (w11.alloc (.cells #[.int .i64 ver', .int .i64 lin', .int .i64 redo', .int .i64 und', .int .i64 desc', .int .i64 que', .int .i64 tab', .int .u64 (G + 1)] 29)).cell? ⟨w9.heap.size, 5, none⟩ = some (.int .i64 que) := (N11.out.alloc _).cell rfl
            have n6 : (w11.alloc (.cells #[.int .i64 ver', .int .i64 lin', .int .i64 redo', .int .i64 und', .int .i64 desc', .int .i64 que', .int .i64 tab', .int .u64 (G + 1)] 29)).cell? ⟨w9.heap.size, 6, none⟩ = some (.int .i64 tab) := (N11.out.alloc _).cell rfl
            have n7 : (w11.alloc (.cells #[.int .i64 ver', .int .i64 lin', .int .i64 redo', .int .i64 und', .int .i64 desc', .int .i64 que', .int .i64 tab', .int .u64 (G + 1)] 29)).cell? ⟨w9.heap.size, 7, none⟩ = some (.int .u64 G) := (N11.out.alloc _).cell rfl
            go_wp2_with fail
            go_ret
            exact ⟨rfl, (X11.out.next (HB11.out w11)).bel⟩
end
end Go.Proofs.YtbpaamnofkhonaaDoor
