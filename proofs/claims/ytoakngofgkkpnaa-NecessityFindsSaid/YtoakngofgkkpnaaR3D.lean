/- The walks of the reference's device: Flush. -/
import Derived.Test.YtoakngofgkkpnaaR3C
import Derived.Deep.RegionLaw
namespace Go.Proofs.Ytoakngofgkkpnaa
open Go.RowKit
attribute [local go_sem ↓] Go.wp_at_zero Go.wp_at_succ

theorem infoR3Note : (Try.prog.info? 127).map (fun i => (i.zero, i.size, i.bytes)) = some (some (.agg #[.int .i64 0, .int .i64 0]), 2, 16) := by kernel_rfl
section
variable {w : World} {D : Dev} {rb lb : Nat} {hv : Nat → Value} {nv : Value} {ns : List (Nat × Nat)}
/-- The notes without those of line l. -/
def nsF (ns : List (Nat × Nat)) (l : Nat) : List (Nat × Nat) := ns.filter fun e => decide (e.1 ≠ l)
theorem nsF_len (ns : List (Nat × Nat)) (l : Nat) : (nsF ns l).length ≤ ns.length := List.length_filter_le _ _
theorem nsF_snoc (ns : List (Nat × Nat)) (l : Nat) (e : Nat × Nat) : nsF (ns ++ [e]) l = nsF ns l ++ (if e.1 = l then [] else [e]) := by
  unfold nsF
  rw [List.filter_append]
  by_cases h : e.1 = l <;> simp [h]
/-- The thread's notes are replaced. -/
theorem R3.newNotes (h : R3 w D rb lb hv nv ns) {w1 : World} {v1 : Value} {ms : List (Nat × Nat)} {D' : Dev} (ha : Acc w w.heap.size w1 127 2 v1 ms.length (noteC ms))
    (hn : D'.n = D.n) (he : D'.exec = D.exec) (hp : D'.pers = D.pers) (hdn : D'.done = D.done) (hh : D'.hist = D.hist) (hnd : (ms.map (·.1)).Nodup) (hok : ∀ l p, D'.note 0 l = some p ↔ (l, p) ∈ ms) (hup : D'.Up) :
    R3 (w1.setCell ⟨rb, 1, none⟩ v1) D' rb lb hv v1 ms := by
  have hrl := h.row.lt
  have hdl := h.dev.lt
  have hwn : ∀ g, v1.ownBlock = some g → g ≠ rb ∧ g ≠ lb := fun g hg => by have := ha.new g hg; omega
  have hU : Upd (Two rb lb) w (w1.setCell ⟨rb, 1, none⟩ v1) := upd_set ha.bel ⟨rb, 1, none⟩ (Or.inl rfl) v1
  have hl3 : ln3 D' hv = ln3 D hv := by unfold ln3; rw [hp, hdn]
  refine ⟨?_, by rw [hn, hl3]; exact (h.row.below ha.bel).other (by intro e; exact h.ne e.symm) _, h.ne, fun l hl => ?_, (ha.own.other (fun k hk => (hwn k hk).1) _).rd, hwn, hnd, hok, hup⟩
  · have := (h.dev.below ha.bel).set 1 v1
    unfold dev3
    rw [hn, he]
    exact this
  · rw [hh]
    obtain ⟨h1, h2⟩ := h.hist l (by omega)
    exact ⟨h1.upd hU (fun g hg e => by rcases e with e | e; exact (h2 g hg).1 e; exact (h2 g hg).2 e), h2⟩
theorem jot_ok (h : ∀ l p, D.note 0 l = some p ↔ (l, p) ∈ ns) (l : Nat) (m p : Nat) : (D.jot 0 l).note 0 m = some p ↔ (m, p) ∈ nsF ns l ++ [(l, D.done l + (D.hist l).length)] := by
  unfold nsF
  simp only [Dev.jot, true_and, List.mem_append, List.mem_filter, List.mem_singleton, Prod.mk.injEq, decide_eq_true_eq]
  by_cases e : m = l
  · subst e
    rw [if_pos rfl]
    constructor
    · intro h1; cases h1; exact .inr ⟨rfl, rfl⟩
    · rintro (h1 | h1)
      · exact absurd rfl h1.2
      · rw [h1.2]
  · rw [if_neg e, h m p]
    constructor
    · intro h1; exact .inl ⟨h1, e⟩
    · rintro (h1 | h1)
      · exact h1.1
      · exact absurd h1.1 e
theorem jot_nd (h : (ns.map (·.1)).Nodup) (l p : Nat) : ((nsF ns l ++ [(l, p)]).map (·.1)).Nodup := by
  rw [List.map_append, List.map_cons, List.map_nil, List.nodup_append]
  refine ⟨(List.Sublist.map _ List.filter_sublist).nodup h, by simp, fun a ha b hb => ?_⟩
  rw [List.mem_singleton] at hb
  subst hb
  obtain ⟨e, he, rfl⟩ := List.mem_map.1 ha
  have := (List.mem_filter.1 he).2
  simpa using this
theorem below_two (w : World) (o o' : Obj) : Below w.heap.size w ((w.alloc o).alloc o') := ((Below.refl _ _).alloc (Nat.le_refl _) _).alloc (by simp) _
structure FlSt (w1 : World) (ns : List (Nat × Nat)) (l k : Nat) (v : Value) (wr : World) : Prop where
  acc : Acc w1 w1.heap.size wr 127 2 v (nsF (ns.take k) l).length (noteC (nsF (ns.take k) l))
theorem FlSt.skip {w1 : World} {l k : Nat} {v : Value} {wr wz : World} {e : Nat × Nat} (h : FlSt w1 ns l k v wr) (he : ns[k]? = some e) (hl : e.1 = l) (hb : Below wr.heap.size wr wz) : FlSt w1 ns l (k + 1) v wz := by
  refine ⟨?_⟩
  rw [List.take_add_one, he]
  show Acc _ _ _ _ _ _ (nsF (ns.take k ++ [e]) l).length (noteC (nsF (ns.take k ++ [e]) l))
  rw [nsF_snoc, if_pos hl, List.append_nil]
  exact h.acc.keep hb
theorem FlSt.add {w1 : World} {l k : Nat} {v : Value} {wz : World} {e : Nat × Nat} (he : ns[k]? = some e) (hl : e.1 ≠ l) (h : Acc w1 w1.heap.size wz 127 2 v ((nsF (ns.take k) l).length + 1) (noteC (nsF (ns.take k) l) ++ [.int .i64 e.1, .int .i64 e.2])) : FlSt w1 ns l (k + 1) v wz := by
  refine ⟨?_⟩
  rw [List.take_add_one, he]
  show Acc _ _ _ _ _ _ (nsF (ns.take k ++ [e]) l).length (noteC (nsF (ns.take k ++ [e]) l))
  rw [nsF_snoc, if_neg hl]
  refine h.congr (by simp) ?_
  rw [noteC_append]
  rfl
set_option maxRecDepth 100000 in
set_option maxHeartbeats 4000000 in
theorem r3Flush_any (h : R3 w D rb lb hv nv ns) (off : Nat) (hl : off < 64 * D.n) (he : D.exec < 100000000) (hns : ns.length ≤ 1000000) :
    Calls Try.prog 27 #[.pointer (some ⟨rb, 0, none⟩), .int .i64 0, .int .u64 off] w fun r w' => r = .returned (.tuple #[]) ∧ ∃ nv' ns', R3 w' (D.flush 0 off) rb lb hv nv' ns' ∧ ns'.length ≤ ns.length + 1 ∧ Upd (Two rb lb) w w' := by
  have hn := h.up.wf.le
  obtain ⟨i0, hi0, hz0, hz1, hz2⟩ := info_parts infoR3Note
  have I := Lib.hid (And.intro hi0 (And.intro hz0 (And.intro hz1 hz2))); clear hi0 hz0 hz1 hz2
  obtain ⟨l, hll⟩ : ∃ l, off / 64 = l := ⟨_, rfl⟩
  have g1 : (off : Int) / 64 = (l : Int) := by omega
  have hln : l < D.n := by omega
  have hln' : (l : Int) < D.n := by omega
  have g3 : IntKind.u64.wrap (D.n : Int) = (D.n : Int) := IntWalk.u64_in _ (by omega)
  have g4 : IntKind.i64.wrap (l : Int) = (l : Int) := IntWalk.i64_in _ (by omega)
  have c0 : w.cell? ⟨rb, 0, none⟩ = some (.slice (some ⟨lb, 0, none⟩) D.n D.n) := h.dev.cell rfl
  have HC := Lib.hid (r3counted_any h (by omega))
  rw [h.up.flush hl, hll]
  have H1 := Lib.hid h.exec
  have HUJ := Lib.hid (h.up.jot hln)
  have HCN := Lib.hid (h.up.wf.cnt l hln)
  have U1 : Hid (Upd (Two rb lb) w (w.setCell ⟨rb, 19, none⟩ (.int .u64 ((D.exec : Int) + 1)))) := Lib.hid ((Upd.refl _ _).setCell (fun _ => Or.inl rfl) _)
  have hnsl := nsF_len ns l
  generalize hTD : D.tick = TD at *
  have HN : Hid (TD.n = D.n ∧ TD.hist = D.hist ∧ TD.done = D.done) := by subst hTD; exact ⟨rfl, rfl, rfl⟩
  obtain ⟨na, m, nc, hnv, hmc⟩ : ∃ na m nc, nv = .slice na m nc ∧ m = ns.length := by obtain ⟨_, a, c, e, _, _⟩ := h.notes; exact ⟨a, _, c, e, rfl⟩
  subst hnv
  have HM := Lib.hid hmc
  have hmc2 : m ≤ nc := by obtain ⟨_, a, c, e, h1, _⟩ := h.notes; cases e; omega
  rw [← hmc] at hns hnsl
  clear h hll hTD hmc
  go_enter Try.func27, Try.ntmps27
  go_wp2_with fail
  (with_reducible refine HC.out.mono ?_)
  rintro r w0 ⟨rfl, rfl⟩
  generalize w.setCell ⟨rb, 19, none⟩ (.int .u64 ((D.exec : Int) + 1)) = w1 at *
  clear HC c0
  have c1 : w1.cell? ⟨rb, 1, none⟩ = some (.slice na m nc) := H1.out.dev.cell rfl
  have hrb1 := H1.out.dev.lt
  have F0 : Hid (FlSt w1 ns l 0 (.slice (some ⟨w1.heap.size, 0, none⟩) 0 0) (w1.alloc (.cells #[] 127))) := Lib.hid ⟨(acc_empty w1 127 2).congr rfl rfl⟩
  go_wp2_with fail
  go_loopw [7, 34] (fun v y wr => ∃ k : Nat, k ≤ m ∧ y = .int .i64 k ∧ FlSt w1 ns l k v wr) (fun _ y _ => m - (intOf y).toNat)
  case atStart => exact ⟨0, by omega, rfl, F0.out⟩
  case round =>
    clear F0
    obtain ⟨k, hk, rfl, hst⟩ := hrel
    obtain ⟨va, vc, hsv⟩ := hst.acc.slice
    subst hsv
    have S := Lib.hid hst
    clear hst
    have hfl := nsF_len (ns.take k) l
    have htk := List.length_take_le k ns
    by_cases hlt : k < m
    · have hlt' : (k : Int) < m := by omega
      obtain ⟨e, he⟩ : ∃ e, ns[k]? = some e := ⟨_, List.getElem?_eq_getElem (by rw [← HM.out]; exact hlt)⟩
      obtain ⟨_, a', c', e', _, hE⟩ := H1.out.notes.below S.out.acc.bel
      cases e'
      have hg := noteC_get ns k e he
      obtain ⟨fb, fo, rfl, hE2⟩ := rd_at hE hg.1
      have q1 := hE2 _ _ hg.1; have q2 := hE2 _ _ hg.2
      rw [← Nat.add_assoc] at q2
      have SK := Lib.hid (fun (hx : e.1 = l) (wz : World) (hb : Below _ _ wz) => S.out.skip he hx hb)
      have SA := Lib.hid (fun (v : Value) (wz : World) (hx : e.1 ≠ l) => FlSt.add (w1 := w1) (v := v) (wz := wz) he hx)
      clear hE hE2 he hg
      obtain ⟨el, ep⟩ := e
      simp only at q1 q2 SK SA
      have A2 := Lib.hid S.out.acc
      generalize hfq : nsF (ns.take k) l = fs at *
      clear hfq S
      by_cases hel : el = l
      · have hel' : ((el : Int) != (l : Int)) = false := by simp; omega
        go_wp2_with fail
        go_roundw
        case rel => exact ⟨k + 1, by omega, by go_num, SK.out hel _ (below_alloc _ _)⟩
        case measure => simp [intOf]; omega
      · have hel' : ((el : Int) != (l : Int)) = true := by simp; omega
        go_wp2_with (at_builtin; refine wpList_append_sl _ rfl _ _ 88 rfl 127 i0 _ 2 16 Try.underlying88 I.out.1 I.out.2.1 I.out.2.2.1 I.out.2.2.2 rfl (by decide) _ fs.length (noteC fs) rfl (by exact (A2.out.own.alloc _).alloc _) _ 1 [.int .i64 el, .int .i64 ep] rfl (by exact RdSl.newAt _ _ _ 2 1 _ (by simp) rfl) (by intro u hu; simp at hu; rcases hu with rfl | rfl <;> rfl) (by unfold maxLen; omega) (by omega) ?_)
        intro v1 w2 o1 g1 b1 n1
        have A3 := Lib.hid (A2.out.next (below_two _ _ _) o1 g1 b1 (by first | simp | omega)); clear o1 g1 b1 n1
        go_wp2_with fail
        go_roundw
        case rel => exact ⟨k + 1, by omega, by go_num, SA.out _ _ hel A3.out⟩
        case measure => simp [intOf]; omega
    · obtain rfl : k = m := by omega
      have A2 := Lib.hid S.out.acc
      have HTK : Hid (nsF (ns.take k) l = nsF ns l) := by show nsF (ns.take k) l = nsF ns l; rw [HM.out, List.take_length]
      have HR := Lib.hid (H1.out.keep A2.out.bel)
      have y0 : wr.cell? ⟨rb, 0, none⟩ = some (.slice (some ⟨lb, 0, none⟩) D.n D.n) := by rw [← HN.out.1]; exact HR.out.dev.cell rfl
      obtain ⟨_, y8, y9⟩ := HR.out.at (l := l) (by rw [HN.out.1]; exact hln)
      have hh1 := (HR.out.hist l (by rw [HN.out.1]; exact hln)).1
      rw [HN.out.2.1] at hh1
      rw [HN.out.2.2] at y9
      obtain ⟨ha, q, hc, hve, hqe⟩ : ∃ ha q hc, hv l = .slice ha q hc ∧ q = (D.hist l).length := by obtain ⟨_, a, c, e, _, _⟩ := hh1; exact ⟨a, _, c, e, rfl⟩
      rw [hve] at y8
      have hcn := HCN.out
      rw [← hqe] at hcn
      have HQ := Lib.hid hqe
      obtain ⟨dn, hdn⟩ : ∃ dn, D.done l = dn := ⟨_, rfl⟩
      have HDN := Lib.hid hdn
      rw [hdn] at hcn y9
      have ga : IntKind.i64.wrap ((dn : Int) + (q : Int)) = (dn : Int) + (q : Int) := IntWalk.i64_in _ (by omega)
      have fz := HR.out.dev.frozen 1
      have cz : wr.cell? ⟨rb, 1, none⟩ = some (.slice na k nc) := HR.out.dev.cell rfl
      have hrbz := HR.out.dev.lt
      generalize hfq : nsF (ns.take k) l = fs at *
      clear hfq S hve hqe hdn hh1
      go_wp2_with fail
      go_region_law (first | (refine step_append_sl rfl (.tmp 49) (.tmp 70) 88 rfl 127 i0 _ 2 16 Try.underlying88 I.out.1 I.out.2.1 I.out.2.2.1 I.out.2.2.2 rfl (by decide) (.slice va fs.length vc) fs.length (noteC fs) rfl (by exact (A2.out.own.alloc _).drew) _ 1 [.int .i64 l, .int .i64 ((dn : Int) + (q : Int))] rfl (by exact (RdSl.newAt _ _ _ 2 1 _ (by simp) rfl).drew) (by intro u hu; simp at hu; rcases hu with rfl | rfl <;> rfl) (by unfold maxLen; omega) (by omega) ?_; intro v2 w2 o2 g2 b2; obtain ⟨v2a, v2c, rfl⟩ := o2.slice; have A3 := Lib.hid (A2.out.next (below_alloc_drew _ _) o2 g2 b2 (by simp [World.drew])); have R2 := Lib.hid (H1.out.keep A3.out.bel); have cz2 : w2.cell? ⟨rb, 1, none⟩ = some (.slice na k nc) := R2.out.dev.cell rfl; have fz2 := R2.out.dev.frozen 1; have lz2 := R2.out.dev.lt; clear o2 g2 b2))
      all_goals
        go_wp2_with fail
        go_end0
        have HMS : nsF ns l = fs := by rw [← HTK.out]
        have hR := H1.out.newNotes (ms := nsF ns l ++ [(l, D.done l + (D.hist l).length)]) (D' := TD.jot 0 l) (A3.out.congr (by rw [HMS]; simp) (by rw [HMS, noteC_append, HDN.out, ← HQ.out]; rfl)) rfl rfl rfl rfl rfl (jot_nd H1.out.nd l _) (fun m p => by rw [← HN.out.2.1, ← HN.out.2.2]; exact jot_ok H1.out.ok l m p) HUJ.out
        refine ⟨rfl, _, _, hR, by have h9 := nsF_len ns l; rw [List.length_append, List.length_singleton]; omega, U1.out.trans (upd_set A3.out.bel ⟨rb, 1, none⟩ (Or.inl rfl) _) (fun _ _ h => h)⟩
end
end Go.Proofs.Ytoakngofgkkpnaa
