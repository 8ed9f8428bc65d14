/- The walks of the reference's device: Fence. -/
import Derived.Test.YtoakngofgkkpnaaR3D
import Derived.Test.YtoakngofgkkpnaaDevA
namespace Go.Proofs.Ytoakngofgkkpnaa
open Go.RowKit
attribute [local go_sem ↓] Go.wp_at_zero Go.wp_at_succ

section
variable {w : World} {D : Dev} {rb lb : Nat} {hv : Nat → Value} {nv : Value} {ns : List (Nat × Nat)}
/-- The lines whose notes are still to come. -/
def leftN (ns : List (Nat × Nat)) (k l : Nat) : Bool := ((ns.drop k).map (·.1)).contains l
theorem leftN_zero (h : ∀ l p, D.note 0 l = some p ↔ (l, p) ∈ ns) : D.part 0 (leftN ns 0) = D :=
  Dev.part_start D 0 _ (fun l hl => by
    cases hp : D.note 0 l with
    | none => rfl
    | some p =>
      have hm := (h l p).1 hp
      have : leftN ns 0 l = true := by
        unfold leftN
        rw [List.drop_zero, List.contains_iff_mem]
        exact List.mem_map.2 ⟨_, hm, rfl⟩
      rw [this] at hl
      cases hl)
theorem leftN_step {k : Nat} {e : Nat × Nat} (he : ns[k]? = some e) (hnd : (ns.map (·.1)).Nodup) : leftN ns k e.1 = true ∧ leftN ns (k + 1) = fun l => leftN ns k l && !(l == e.1) := by
  obtain ⟨hlt, hek⟩ := List.getElem?_eq_some_iff.1 he
  have hd : ns.drop k = e :: ns.drop (k + 1) := by rw [← hek]; exact List.drop_eq_getElem_cons hlt
  have hnd2 : ((ns.drop k).map (·.1)).Nodup := (List.Sublist.map _ (List.drop_sublist k ns)).nodup hnd
  rw [hd, List.map_cons, List.nodup_cons] at hnd2
  refine ⟨by unfold leftN; rw [hd]; simp, ?_⟩
  funext l
  unfold leftN
  rw [hd, List.map_cons, List.contains_cons]
  by_cases e1 : l = e.1
  · subst e1
    have : ((ns.drop (k + 1)).map (·.1)).contains e.1 = false := by
      rw [Bool.eq_false_iff]
      intro hc
      exact hnd2.1 (List.contains_iff_mem.1 hc)
    rw [this]
    simp
  · have h1 : (l == e.1) = false := by simpa using e1
    rw [h1]
    simp
theorem leftN_end (k : Nat) (hk : ns.length ≤ k) (l : Nat) : leftN ns k l = false := by
  unfold leftN
  rw [List.drop_of_length_le hk]
  rfl
theorem sync_up (h : D.Up) : (D.sync 0).Up := by
  refine ⟨h.off, h.armed, ⟨h.wf.pos, h.wf.le, fun i hi e he => h.wf.line i hi e (List.mem_of_mem_drop he), fun i hi => ?_, fun j m p hp => ?_, h.wf.left⟩, ⟨fun i => look_bd _ _ _ (h.vb.pers i) (fun e he => h.vb.hist _ e (List.mem_of_mem_take he)), fun i e he => h.vb.hist _ e (List.mem_of_mem_drop he)⟩⟩
  · have h1 := h.wf.cnt i hi
    show D.done i + D.owed 0 i + ((D.hist i).drop (D.owed 0 i)).length ≤ D.exec
    have h2 : D.owed 0 i ≤ (D.hist i).length := by
      unfold Dev.owed
      cases hp : D.note 0 i with
      | none => exact Nat.zero_le _
      | some p => have := (h.wf.note 0 i p hp).2; simp only; omega
    rw [List.length_drop]
    omega
  · simp only [Dev.sync] at hp
    split at hp
    · cases hp
    · obtain ⟨h1, h2⟩ := h.wf.note j m p hp
      refine ⟨h1, ?_⟩
      show p ≤ D.done m + D.owed 0 m + ((D.hist m).drop (D.owed 0 m)).length
      rw [List.length_drop]
      omega
structure FnSt (w1 : World) (D : Dev) (rb lb : Nat) (nv : Value) (ns : List (Nat × Nat)) (k : Nat) (wr : World) : Prop where
  dev : ∃ hv, R3 wr (D.part 0 (leftN ns k)) rb lb hv nv ns
  upd : Upd (Two rb lb) w1 wr
set_option maxRecDepth 100000 in
set_option maxHeartbeats 4000000 in
theorem r3Fence_any (h : R3 w D rb lb hv nv ns) (he : D.exec < 90000000) (hns : ns.length ≤ 1000000) :
    Calls Try.prog 28 #[.pointer (some ⟨rb, 0, none⟩), .int .i64 0] w fun r w' => r = .returned (.tuple #[]) ∧ ∃ hv', R3 w' (D.fence 0) rb lb hv' (.slice none 0 0) [] ∧ Upd (Two rb lb) w w' := by
  have hn := h.up.wf.le
  have HC := Lib.hid (r3counted_any h (by omega))
  rw [h.up.fence]
  have H1 := Lib.hid h.exec
  have U1 : Hid (Upd (Two rb lb) w (w.setCell ⟨rb, 19, none⟩ (.int .u64 ((D.exec : Int) + 1)))) := Lib.hid ((Upd.refl _ _).setCell (fun _ => Or.inl rfl) _)
  have HSU := Lib.hid (sync_up h.up.tick)
  have hex : D.tick.exec < 100000000 := by simp only [Dev.tick]; omega
  generalize hTD : D.tick = TD at *
  have hTN : TD.n ≤ 4096 := by subst hTD; exact hn
  obtain ⟨na, m, nc, hnv, hmc⟩ : ∃ na m nc, nv = .slice na m nc ∧ m = ns.length := by obtain ⟨_, a, c, e, _, _⟩ := h.notes; exact ⟨a, _, c, e, rfl⟩
  subst hnv
  have HM := Lib.hid hmc
  have hmc2 : m ≤ nc := by obtain ⟨_, a, c, e, h1, _⟩ := h.notes; cases e; omega
  rw [← hmc] at hns
  clear h hTD hmc
  go_enter Try.func28, Try.ntmps28
  go_wp2_with fail
  (with_reducible refine HC.out.mono ?_)
  rintro r w0 ⟨rfl, rfl⟩
  generalize w.setCell ⟨rb, 19, none⟩ (.int .u64 ((D.exec : Int) + 1)) = w1 at *
  clear HC
  have c1 : w1.cell? ⟨rb, 1, none⟩ = some (.slice na m nc) := H1.out.dev.cell rfl
  have hrb1 := H1.out.dev.lt
  have F0 : Hid (FnSt w1 TD rb lb (.slice na m nc) ns 0 w1) := Lib.hid ⟨⟨hv, by rw [leftN_zero H1.out.ok]; exact H1.out⟩, Upd.refl _ _⟩
  go_wp2_with fail
  go_loopw [6, 18] (fun _ y wr => ∃ k : Nat, k ≤ m ∧ y = .int .i64 k ∧ FnSt w1 TD rb lb (.slice na m nc) ns k wr) (fun _ y _ => m - (intOf y).toNat)
  case atStart => exact ⟨0, by omega, rfl, F0.out⟩
  case round =>
    clear F0
    obtain ⟨k, hk, rfl, hst⟩ := hrel
    obtain ⟨hv1, hr1⟩ := hst.dev
    have U := Lib.hid hst.upd
    have R := Lib.hid hr1
    clear hst hr1
    by_cases hlt : k < m
    · have hlt' : (k : Int) < m := by omega
      obtain ⟨e, he⟩ : ∃ e, ns[k]? = some e := ⟨_, List.getElem?_eq_getElem (by rw [← HM.out]; exact hlt)⟩
      obtain ⟨_, a', c', e', _, hE⟩ := R.out.notes
      cases e'
      have hg := noteC_get ns k e he
      obtain ⟨fb, fo, rfl, hE2⟩ := rd_at hE hg.1
      have q1 := hE2 _ _ hg.1; have q2 := hE2 _ _ hg.2
      rw [← Nat.add_assoc] at q2
      obtain ⟨hlk, hls⟩ := leftN_step he H1.out.nd
      have hno := (H1.out.ok e.1 e.2).2 (List.mem_of_getElem? he)
      obtain ⟨hl, hp⟩ := H1.out.up.wf.note 0 e.1 e.2 hno
      have hcn := H1.out.up.wf.cnt e.1 hl
      have hdn := Dev.part_done TD 0 _ e.1 hlk
      have hhi := Dev.part_hist TD 0 _ e.1 hlk
      have how : TD.owed 0 e.1 = e.2 - TD.done e.1 := by unfold Dev.owed; rw [hno]
      have HST := Lib.hid (Dev.part_step TD 0 _ e.1 hlk)
      have HSK := Lib.hid (Dev.part_skip TD 0 (leftN ns k) e.1)
      rw [← hls] at HST HSK
      rw [how] at HST HSK
      clear hE hE2 he hg hls hno
      obtain ⟨el, ep⟩ := e
      simp only at q1 q2 hlk hl hp hcn hdn hhi HST HSK
      have y0 : wr.cell? ⟨rb, 0, none⟩ = some (.slice (some ⟨lb, 0, none⟩) TD.n TD.n) := R.out.dev.cell rfl
      obtain ⟨_, _, y9⟩ := R.out.at (l := el) hl
      rw [hdn] at y9
      have hl' : (el : Int) < TD.n := by omega
      have HP := Lib.hid (fun (w2 : World) (hw : Below wr.heap.size wr w2) (hk1 : TD.done el < ep) => r3persist_any (R.out.keep hw) el (ep - TD.done el) hl (by rw [hhi]; omega) (by omega) hex)
      obtain ⟨dn, hdn2⟩ : ∃ dn, TD.done el = dn := ⟨_, rfl⟩
      rw [hdn2] at y9 hp hcn HST HSK HP
      clear hdn hhi how hdn2
      have lrb := R.out.dev.lt
      have llb := R.out.row.lt
      have BA := Lib.hid (below_alloc_drew wr (.cells #[.int .i64 (el : Int), .int .i64 (ep : Int)] 127))
      have ga : IntKind.i64.wrap ((ep : Int) - (dn : Int)) = (ep : Int) - (dn : Int) := IntWalk.i64_in _ (by omega)
      by_cases hgt : dn < ep
      · have hgt' : (0 : Int) < (ep : Int) - (dn : Int) := by omega
        have hsub : (ep : Int) - (dn : Int) = ((ep - dn : Nat) : Int) := by omega
        have HP1 := Lib.hid (HP.out _ BA.out hgt)
        go_wp2_with fail
        go_region
        go_wp2_with fail
        (with_reducible refine HP1.out.mono ?_)
        rintro r w2 ⟨rfl, hv2, r2, u2⟩
        have F2 : Hid (FnSt w1 TD rb lb (.slice (some ⟨fb, fo, none⟩) _ nc) ns (k + 1) w2) := Lib.hid ⟨⟨hv2, by rw [HST.out]; exact r2⟩, U.out.trans ((Upd.of_below BA.out).trans u2 (fun _ _ h => h)) (fun _ _ h => h)⟩
        clear r2 u2
        go_wp2_with fail
        go_roundw
        case rel => exact ⟨k + 1, by omega, by go_num, F2.out⟩
        case measure => simp [intOf]; omega
      · have hgt' : ¬ (0 : Int) < (ep : Int) - (dn : Int) := by omega
        have hz : ep - dn = 0 := by omega
        have F2 : Hid (FnSt w1 TD rb lb (.slice (some ⟨fb, fo, none⟩) _ nc) ns (k + 1) (wr.alloc (.cells #[.int .i64 (el : Int), .int .i64 (ep : Int)] 127)).drew) := Lib.hid ⟨⟨hv1, by rw [HSK.out hz]; exact R.out.keep BA.out⟩, U.out.trans (Upd.of_below BA.out) (fun _ _ h => h)⟩
        go_wp2_with fail
        go_region
        go_wp2_with fail
        go_roundw
        case rel => exact ⟨k + 1, by omega, by go_num, F2.out⟩
        case measure => simp [intOf]; omega
    · obtain rfl : k = m := by omega
      have HE := Lib.hid (Dev.part_end TD 0 (leftN ns k) (leftN_end k (by rw [HM.out]; exact Nat.le_refl _)))
      have cz : wr.cell? ⟨rb, 1, none⟩ = some (.slice na k nc) := R.out.dev.cell rfl
      have fz := R.out.dev.frozen 1
      have lz := R.out.dev.lt
      go_wp2_with fail
      go_end0
      have hR := R.out.newNotes (w1 := wr) (v1 := .slice none 0 0) (ms := []) (D' := TD.sync 0) ⟨OwnSl.nil _ _ _, fun g hg => by simp [Value.ownBlock] at hg, Below.refl _ _, Nat.le_refl _⟩ (by rw [HE.out]) (by rw [HE.out]) (by rw [HE.out]) (by rw [HE.out]) (by rw [HE.out]) List.nodup_nil (fun l p => by simp [Dev.sync]) HSU.out
      have hU2 : Upd (Two rb lb) w (wr.setCell ⟨rb, 1, none⟩ (.slice none 0 0)) := U1.out.trans (U.out.setCell (p := ⟨rb, 1, none⟩) (fun _ => Or.inl rfl) _) (fun _ _ h => h)
      first | exact ⟨rfl, _, hR, hU2⟩ | exact ⟨rfl, ⟨_, hR⟩, hU2⟩
end
end Go.Proofs.Ytoakngofgkkpnaa
