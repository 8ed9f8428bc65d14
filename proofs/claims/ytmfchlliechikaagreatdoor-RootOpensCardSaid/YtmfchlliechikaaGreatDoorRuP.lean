/- Plain: a change of a directory that is cut, and what an image of it opens as. -/
import Derived.Test.YtmfchlliechikaaGreatDoorRuK
import Derived.Test.YtmfchlliechikaaGreatDoorDevK
import Derived.Test.YtmfchlliechikaaGreatDoorRuI
import Derived.BigQuiet
namespace Go.Proofs.YtmfchlliechikaaGreatDoor
open Go.RowKit Go.Maps

/-- A group of stores that all lie in one line, wherever the power fails. -/
theorem run_line {D : Dev} {j n l : Nat} {C : Nat → Int} {ws : List (Nat × Int)} (h : Grp D j n C [] []) (hw : ∀ e ∈ ws, e.1 % 8 = 0 ∧ e.1 < 64 * n ∧ e.1 / 64 = l) (h0 : ws ≠ []) :
    (Grp (D.run j (storesL ws)) j n (fun x => look ws (C x) x) [] [] ∧ (D.run j (storesL ws)).armed = D.armed) ∨
      (D.armed = true ∧ (D.run j (storesL ws)).off = true ∧ (D.run j (storesL ws)).err j = 3 ∧ (D.run j (storesL ws)).n = n ∧ ∀ ks, ∃ k, k ≤ ws.length ∧ ∀ x, (D.run j (storesL ws)).img ks x = look (ws.take k) (C x) x) := by
  have hok := storesGs_ok (ws := ws) (n := n) (fun e he => ⟨(hw e he).1, (hw e he).2.1⟩)
  rw [stores_groups]
  have hgs : storesGs ws = [(ws, lineOffs (ws.map (·.1)))] := by unfold storesGs; rw [if_neg h0]
  rcases run_came h hok with ⟨h1, h2, _⟩ | ⟨h1, h2, h3, a, vs, le, ⟨t, ht⟩, hst, h4, _⟩
  · refine .inl ⟨?_, h2⟩
    have e : laidG C (storesGs ws) = fun x => look ws (C x) x := funext fun x => by rw [laidG_flat, storesGs_flat]
    rw [e] at h1; exact h1
  · refine .inr ⟨h4, h1, h2, h3, fun ks => ?_⟩
    rw [hgs] at le ht
    have ha : a = 0 ∨ a = 1 := by simp at le; omega
    rcases ha with rfl | rfl
    · have ht : ws = vs ++ t := by simpa using ht
      have hst : Hst _ C vs := hst
      refine ⟨min (ks l) vs.length, by rw [ht, List.length_append]; omega, fun x => ?_⟩
      unfold Dev.img
      rw [hst.pers, hst.hist]
      by_cases hx : x / 8 = l
      · have hf : (vs.filter fun e => e.1 / 64 == x / 8) = vs := List.filter_eq_self.2 (fun e he => by have := (hw e (by rw [ht]; exact List.mem_append_left _ he)).2.2; simp; omega)
        rw [hf, hx, ht, List.take_append_of_le_length (by omega)]
        by_cases hk : ks l ≤ vs.length
        · rw [Nat.min_eq_left hk]
        · rw [Nat.min_eq_right (by omega), List.take_of_length_le (by omega), List.take_of_length_le (Nat.le_refl _)]
      · have hf : (vs.filter fun e => e.1 / 64 == x / 8) = [] := List.filter_eq_nil_iff.2 (fun e he => by have := (hw e (by rw [ht]; exact List.mem_append_left _ he)).2.2; simp; omega)
        rw [hf]
        have : look (ws.take (min (ks l) vs.length)) (C x) x = C x := look_other _ _ _ (fun e he hx2 => by have := (hw e (List.mem_of_mem_take he)).2.2; omega)
        rw [this, List.take_nil]; rfl
    · have hv : vs = [] := (show vs = [] ∧ t = [] by simpa using ht).1
      subst hv
      refine ⟨ws.length, Nat.le_refl _, fun x => ?_⟩
      have e1 : laidG C (List.take 1 (storesGs ws)) = fun x => look ws (C x) x := by rw [hgs]; rfl
      rw [hst.clean ks x, List.take_length, e1]
theorem SCl.armed {D : Dev} {C : Nat → Int} {n x : Nat} (h : SCl D 0 n C x) (k : Nat) : Grp (D.arm k) 0 n C [] [] ∧ (D.arm k).VB ∧ (D.arm k).exec = D.exec := by
  have hoff := h.grp.on.off
  have e : D.arm k = { D with armed := true, left := k } := by unfold Dev.arm; rw [if_neg (by rw [hoff]; simp)]
  rw [e]
  exact ⟨⟨⟨h.grp.on.n, h.grp.on.off, h.grp.on.err⟩, ⟨h.grp.hst.pers, h.grp.hst.hist⟩, h.grp.yes, h.grp.no⟩, h.vb.same rfl rfl, rfl⟩
/-- The same entries. -/
def SameD (W' W : Nat → Nat) : Prop := ∀ e, e < 16 → W' (4 * e + 3) = W (4 * e + 3) ∧ (W (4 * e + 3) ≠ 0 → W' (4 * e) = W (4 * e) ∧ W' (4 * e + 1) = W (4 * e + 1) ∧ W' (4 * e + 2) = W (4 * e + 2))
section
variable {W W' : Nat → Nat}
theorem SameD.refl (W : Nat → Nat) : SameD W W := fun _ _ => ⟨rfl, fun _ => ⟨rfl, rfl, rfl⟩⟩
theorem SameD.name (h : SameD W' W) {e : Nat} (he : e < 16) (h3 : W (4 * e + 3) ≠ 0) : nameE W' e = nameE W e := by
  obtain ⟨_, hs⟩ := h e he
  obtain ⟨e0, e1, _⟩ := hs h3
  unfold nameE; rw [e0, e1]
theorem SameD.used (h : SameD W' W) {e : Nat} (he : e < 16) : usedE W' e = usedE W e := by unfold usedE; rw [(h e he).1]
theorem SameD.entL (h : SameD W' W) : entL W' 16 = entL W 16 := by
  unfold Go.Proofs.YtmfchlliechikaaGreatDoor.entL
  have hf : (List.range 16).filter (usedE W') = (List.range 16).filter (usedE W) := List.filter_congr fun e he => h.used (List.mem_range.1 he)
  rw [hf]
  refine List.map_congr_left fun e he => ?_
  rw [List.mem_filter, List.mem_range] at he
  obtain ⟨h1, h2⟩ := he
  obtain ⟨_, hs⟩ := h e h1
  obtain ⟨e0, e1, e2⟩ := hs (by unfold usedE at h2; simpa using h2)
  rw [e0, e1, e2]
theorem SameD.invW (h : SameD W' W) (hi : InvW W) : InvW W' := fun e he h3 => by
  rw [(h e he).1] at h3
  rw [h.name he h3]; exact hi e he h3
theorem SameD.invT (h : SameD W' W) (hi : InvT W) : InvT W' := fun e he h3 => by
  obtain ⟨a, hs⟩ := h e he
  rw [a] at h3 ⊢
  obtain ⟨e0, e1, _⟩ := hs h3
  rw [e0, e1]; exact hi e he h3
theorem SameD.invD (h : SameD W' W) (hi : InvD W) : InvD W' := fun e f he hf h3 k3 hn => by
  rw [(h e he).1] at h3
  rw [(h f hf).1] at k3
  rw [h.name he h3, h.name hf k3] at hn
  exact hi e f he hf h3 k3 hn
/-- A directory that is right opens. -/
theorem opn_ok (hW : InvW W) (hT : InvT W) (hD : InvD W) : opnE W = 0 := by
  have h1 : (List.range 16).any (badE W) = false := any_none fun e he => by
    unfold badE
    by_cases h3 : W (4 * e + 3) = 0
    · simp [usedE, h3]
    · rw [hW e he h3, ← hT e he h3]; simp
  have h2 : twE W 16 = false := any_none fun e he => by
    unfold dupE
    by_cases h3 : W (4 * e + 3) = 0
    · simp [usedE, h3]
    · have : ¬ nameE W e ∈ keysE W e := fun hm => by
        unfold keysE at hm
        obtain ⟨j, hj, hn⟩ := List.mem_map.1 hm
        rw [List.mem_filter, List.mem_range] at hj
        have := hD j e (by omega) he (by have := hj.2; unfold usedE at this; simpa using this) h3 hn
        omega
      simp [this]
  unfold opnE
  rw [h1, h2]; rfl
theorem wrE_ne (W : Nat → Nat) (l : List UInt8) (p : Nat) : wrE W l p ≠ [] := by
  unfold wrE newW
  split
  · simp
  · split <;> simp
/-- All writes of a change lie in one entry. -/
theorem wrE_one (W : Nat → Nat) (l : List UInt8) (p : Nat) : ∃ f, ∀ x ∈ wrE W l p, x.1 / 4 = f := by
  unfold wrE newW
  split
  · exact ⟨findE W l, fun x hx => by rw [List.mem_singleton] at hx; subst hx; show (4 * findE W l + 3) / 4 = _; omega⟩
  · split
    · exact ⟨findE W l, fun x hx => by rw [List.mem_singleton] at hx; subst hx; show (4 * findE W l + 2) / 4 = _; omega⟩
    · refine ⟨freeE W, fun x hx => ?_⟩
      simp only [List.mem_cons, List.not_mem_nil, or_false] at hx
      rcases hx with rfl | rfl | rfl | rfl
      · show 4 * freeE W / 4 = freeE W; omega
      · show (4 * freeE W + 1) / 4 = freeE W; omega
      · show (4 * freeE W + 2) / 4 = freeE W; omega
      · show (4 * freeE W + 3) / 4 = freeE W; omega
theorem setWs_not {j : Nat} : ∀ (ws : List (Nat × Nat)) (W : Nat → Nat), (∀ x ∈ ws, x.1 ≠ j) → setWs ws W j = W j := by
  intro ws
  induction ws with
  | nil => intro W _; rfl
  | cons x ws ih =>
    intro W hx
    show setWs ws (fun i => if i = x.1 then x.2 else W i) j = W j
    rw [ih _ fun y hy => hx y (List.mem_cons_of_mem _ hy)]
    have := hx x (List.mem_cons_self ..)
    exact if_neg (fun e => this e.symm)
theorem free_zero {f : Nat} (h : freeE W = f) (hf : f < 16) : W (4 * f + 3) = 0 := by
  have := (firstI_spec (fun e => !usedE W e) 16).2 (by show freeE W < 16; omega)
  have h2 : (!usedE W (freeE W)) = true := this
  rw [h] at h2
  unfold usedE at h2
  simpa using h2
/-- The words behind the first writes of a change: the old entries or the new ones. -/
theorem cut_words {l : List UInt8} {p : Nat} (he : errE W l p 1280 = 0) (k : Nat) : SameD (setWs ((wrE W l p).take k) W) W ∨ setWs ((wrE W l p).take k) W = chgE W l p 1280 := by
  have hc : chgE W l p 1280 = setWs (wrE W l p) W := if_pos he
  rcases Nat.lt_or_ge k (wrE W l p).length with hk | hk
  · refine .inl ?_
    by_cases h0 : p = 0
    · have hw : wrE W l p = [(4 * findE W l + 3, 0)] := by unfold wrE; rw [if_pos h0]
      rw [hw] at hk ⊢
      obtain rfl : k = 0 := by simp at hk; omega
      exact SameD.refl W
    · by_cases hf : findE W l < 16
      · have hw : wrE W l p = [(4 * findE W l + 2, p)] := by unfold wrE; rw [if_neg h0, if_pos hf]
        rw [hw] at hk ⊢
        obtain rfl : k = 0 := by simp at hk; omega
        exact SameD.refl W
      · have hw : wrE W l p = newW (freeE W) l p := by unfold wrE; rw [if_neg h0, if_neg hf]
        have hfr : freeE W < 16 := by
          have hnb : nameB l = true := by
            unfold errE at he
            split at he
            · omega
            · rename_i hx; simpa using hx
          rcases Nat.lt_or_ge (freeE W) 16 with hx | hx
          · exact hx
          · exfalso
            by_cases hpb : ptrB p 1280 = false <;> simp [errE, hnb, h0, hf, Nat.not_lt.2 hx, hpb] at he
        have hz := free_zero rfl hfr
        rw [hw] at hk ⊢
        generalize freeE W = f at *
        have hk4 : k < 4 := hk
        intro e he16
        by_cases hef : e = f
        · subst hef
          have h3 : setWs ((newW e l p).take k) W (4 * e + 3) = W (4 * e + 3) := setWs_not _ _ fun x hx => by
            obtain rfl | rfl | rfl | rfl : k = 0 ∨ k = 1 ∨ k = 2 ∨ k = 3 := by omega
            all_goals
              simp only [newW, List.take_zero, List.take_succ_cons, List.mem_cons, List.not_mem_nil, or_false] at hx
            · rcases hx with rfl; show 4 * e ≠ _; omega
            · rcases hx with rfl | rfl
              · show 4 * e ≠ _; omega
              · show 4 * e + 1 ≠ _; omega
            · rcases hx with rfl | rfl | rfl
              · show 4 * e ≠ _; omega
              · show 4 * e + 1 ≠ _; omega
              · show 4 * e + 2 ≠ _; omega
          exact ⟨h3, fun h => absurd hz h⟩
        · have hall : ∀ x ∈ (newW f l p).take k, x.1 / 4 = f := fun x hx => by
            have hx := List.mem_of_mem_take hx
            simp only [newW, List.mem_cons, List.not_mem_nil, or_false] at hx
            rcases hx with rfl | rfl | rfl | rfl
            · show 4 * f / 4 = f; omega
            · show (4 * f + 1) / 4 = f; omega
            · show (4 * f + 2) / 4 = f; omega
            · show (4 * f + 3) / 4 = f; omega
          exact ⟨setWs_other (by omega) _ _ hall, fun _ => ⟨setWs_other (by omega) _ _ hall, setWs_other (by omega) _ _ hall, setWs_other (by omega) _ _ hall⟩⟩
  · refine .inr ?_
    rw [List.take_of_length_le hk, hc]
/-- A change on an armed device, wherever the power fails. -/
theorem cut14 {D E : Dev} {C : Nat → Int} {x : Nat} (h : SCl D 0 20 C x) (hC : ∀ i, i < 64 → C (24 + i) = (W i : Nat)) (hb : ∀ i, W i < 18446744073709551616) (k : Nat) {l : List UInt8} {p : Nat} (he : errE W l p 1280 = 0) (hp : p < 18446744073709551616) (hE : E = (D.arm k).run 0 (progR 192 W l p)) :
    E.n = 20 ∧ E.VB ∧ E.exec ≤ x + 9 ∧ (E.err 0 = 0 ∨ E.err 0 = 3) ∧ ∀ ks, ∃ W', (∀ i, i < 64 → E.img ks (24 + i) = (W' i : Nat)) ∧ (∀ i, W' i < 18446744073709551616) ∧ (W' = chgE W l p 1280 ∨ (SameD W' W ∧ E.err 0 = 3)) := by
  obtain ⟨hgr, hvb, hex⟩ := h.armed k
  obtain ⟨i1, i2⟩ := wrO_in 192 W l p 1280 he hp rfl (n := 20) (by omega)
  have hin := wrE_in W l p 1280 he hp
  have hE2 : E = (D.arm k).run 0 (storesL (wrO 192 (wrE W l p))) := hE
  have hx := (D.arm k).run_exec 0 (progR 192 W l p)
  have hpl := progR_len 192 W l p
  have hxe := h.exec
  have hv : E.VB := by
    rw [hE2, stores_groups]
    exact Dev.VB.run _ hvb 0 (valP_groups (fun e he => by rw [storesGs_flat] at he; exact i2 e he))
  have hx2 : E.exec ≤ x + 9 := by rw [hE]; omega
  obtain ⟨f, hf⟩ := wrE_one W l p
  have hline : ∀ e ∈ wrO 192 (wrE W l p), e.1 % 8 = 0 ∧ e.1 < 64 * 20 ∧ e.1 / 64 = (192 + 32 * f) / 64 := fun e hm => by
    refine ⟨(i1 e hm).1, (i1 e hm).2, ?_⟩
    unfold wrO at hm
    obtain ⟨y, hy, rfl⟩ := List.mem_map.1 hm
    have := hf y hy
    show (192 + 8 * y.1) / 64 = _
    omega
  have hne : wrO 192 (wrE W l p) ≠ [] := fun e => wrE_ne W l p (List.map_eq_nil_iff.1 e)
  have hbd : ∀ k, ∀ i, setWs ((wrE W l p).take k) W i < 18446744073709551616 := fun k => setWs_bd _ W (fun e hm => (hin e (List.mem_of_mem_take hm)).2) hb
  rcases run_line hgr hline hne with ⟨hd, _⟩ | ⟨_, h2, h3, h4, h5⟩
  · have hd' : Grp E 0 20 (fun y => look (wrO 192 (wrE W l p)) (C y) y) [] [] := by rw [hE2]; exact hd
    refine ⟨hd'.on.n, hv, hx2, .inl hd'.on.err, fun ks => ⟨setWs (wrE W l p) W, fun i hi => ?_, ?_, .inl (if_pos he).symm⟩⟩
    · rw [hd'.hst.clean ks (24 + i)]
      exact look_wrO 192 rfl i (wrE W l p) W _ (hC i hi)
    · have := hbd (wrE W l p).length
      rw [List.take_of_length_le (Nat.le_refl _)] at this
      exact this
  · refine ⟨by rw [hE2]; exact h4, hv, hx2, .inr (by rw [hE2]; exact h3), fun ks => ?_⟩
    obtain ⟨q, _, hF⟩ := h5 ks
    refine ⟨setWs ((wrE W l p).take q) W, fun i hi => ?_, hbd q, ?_⟩
    · rw [hE2, hF (24 + i)]
      have e : (wrO 192 (wrE W l p)).take q = wrO 192 ((wrE W l p).take q) := by unfold wrO; rw [List.map_take]
      rw [e]
      exact look_wrO 192 rfl i _ W _ (hC i hi)
    · rcases cut_words he q with hs | hs
      · exact .inr ⟨hs, by rw [hE2]; exact h3⟩
      · exact .inl hs
end
end Go.Proofs.YtmfchlliechikaaGreatDoor

/- The law's listed: for any directory and any directory of the reference. -/
namespace Go.Proofs.YtmfchlliechikaaGreatDoor
open Go.RowKit Go.Maps
attribute [local go_sem ↓] Go.wp_at_zero Go.wp_at_succ

section
variable {w : World} {v : DV} {own : Nat → Option Role} {D : Dev} {j b rb : Nat} {W1 W2 : Nat → Nat}
theorem below_quiet (w : World) (q : Nat) : Below w.heap.size w (w.drewN q) := ⟨rfl, rfl, rfl, Nat.le_refl _, fun _ _ => rfl⟩
set_option maxRecDepth 100000 in
set_option maxHeartbeats 8000000 in
theorem listed_any (h : DOn w v own D j b 192 W1) (hr : RfAt w rb 192 W2) (hI : InvW W2) :
    Calls Tryz.prog 20 #[.pointer (some ⟨b, 0, none⟩), .pointer (some ⟨rb, 0, none⟩)] w fun r w' => ∃ bb, r = .returned (.bool bb) ∧ (srtR (entL W1 16) = (lstL W2).map (entF W2) → bb = true) ∧ Below w.heap.size w w' := by
  have H := Lib.hid hr
  have HL := Lib.hid (rtList_any h)
  have HR := Lib.hid (fun (wx : World) (hr : RfAt wx rb 192 W2) => r14List_any hr hI)
  have hl1 := srtR_len (entL W1 16)
  have hl2 := entL_len W1 16
  have hql := lstL_len W2
  obtain ⟨L1, hL1⟩ : ∃ L1, srtR (entL W1 16) = L1 := ⟨_, rfl⟩
  obtain ⟨n1, hn1⟩ : ∃ n1, (entL W1 16).length = n1 := ⟨_, rfl⟩
  obtain ⟨LS, hLS⟩ : ∃ LS, lstL W2 = LS := ⟨_, rfl⟩
  rw [hL1, hn1] at hl1 HL
  rw [hn1] at hl2
  rw [hL1, hLS]
  rw [hLS] at HR hql
  obtain ⟨n2, hn2⟩ : ∃ n2, LS.length = n2 := ⟨_, rfl⟩
  rw [hn2] at HR hql
  have hn16 : n2 ≤ 16 := hql.2
  have HN1 := Lib.hid hl1; have HN2 := Lib.hid hn2
  clear h hr hI hL1 hn1 hLS hl1 hn2 hql
  go_enter Tryz.func20, Tryz.ntmps20
  go_wp2_with fail
  (with_reducible refine HL.out.mono ?_)
  rintro r w1 ⟨ov, rfl, ha⟩
  obtain ⟨oa, oc, rfl⟩ := ha.slice
  have A1 := Lib.hid ha
  have H1 := Lib.hid (H.out.next ha.bel)
  clear ha HL
  go_wp2_with fail
  (with_reducible refine (HR.out _ H1.out).mono ?_)
  rintro r w2 ⟨rv, rfl, hr⟩
  obtain ⟨ra, rc, rfl⟩ := hr.slice
  have RD1 := Lib.hid (A1.out.rd.below hr.bel)
  have RD2 := Lib.hid hr.rd
  have B2 := Lib.hid (A1.out.bel.trans (hr.bel.mono A1.out.bel.size))
  clear hr HR A1 H1 H
  by_cases hne : n1 = n2
  · subst hne
    have z0 : ((n1 : Int) != n1) = false := by simp
    go_wp2_with fail
    go_loopw [7, 19] (fun _ y wr => ∃ m : Nat, m ≤ n1 ∧ y = .int .i64 m ∧ Below w2.heap.size w2 wr) (fun _ y _ => n1 - (intOf y).toNat)
    case atStart => exact ⟨0, by omega, rfl, Below.refl _ _⟩
    case round =>
      obtain ⟨m, hm, rfl, hb⟩ := hrel
      have B := Lib.hid hb
      clear hb
      rename World => wq
      by_cases hlt : m < n1
      · have hlt' : (m : Int) < n1 := by omega
        obtain ⟨y, hy⟩ : ∃ y, LS[m]? = some y := ⟨_, List.getElem?_eq_getElem (by rw [HN2.out]; exact hlt)⟩
        obtain ⟨e, he⟩ : ∃ e, L1[m]? = some e := ⟨_, List.getElem?_eq_getElem (by rw [HN1.out]; exact hlt)⟩
        obtain ⟨hg1, hg2⟩ := eC_get _ m _ he
        have hr0 := eR_get W2 LS m y hy 0 (by omega)
        have hr1 := eR_get W2 LS m y hy 1 (by omega)
        rw [Nat.add_zero] at hr0
        have hr0' : (eR W2 LS)[m * 6]? = some (.string (nmR W2 y)) := hr0
        have hr1' : (eR W2 LS)[m * 6 + 1]? = some (.int .u64 (ptR W2 y : Nat)) := hr1
        have HNE : Hid (∀ s p, e = (s, p) → (s.toList ≠ (nmR W2 y).toList ∨ p ≠ ptR W2 y) → ¬ L1 = LS.map (entF W2)) := fun s p hsp hor hL => by
          have h2 : (LS.map (entF W2))[m]? = some (entF W2 y) := by rw [List.getElem?_map, hy]; rfl
          rw [← hL, he] at h2
          have h3 : e = (nmR W2 y, ptR W2 y) := Option.some.inj h2
          rw [hsp] at h3
          obtain ⟨a1, a2⟩ := Prod.mk.inj h3
          rcases hor with h | h
          · exact h (by rw [a1])
          · exact h a2
        obtain ⟨ns, hns⟩ : ∃ ns, nmR W2 y = ns := ⟨_, rfl⟩
        obtain ⟨pv, hpv⟩ : ∃ pv, ptR W2 y = pv := ⟨_, rfl⟩
        rw [hns] at hr0' HNE
        rw [hpv] at hr1' HNE
        obtain ⟨s1, p1⟩ := e
        simp only at hg1 hg2
        have HNE2 := Lib.hid (HNE.out s1 p1 rfl)
        obtain ⟨_, _, _, e', _, hE⟩ := (show RdSl wq 2 (.slice oa n1 oc) n1 (eC L1) from RD1.out.below B.out)
        cases e'
        obtain ⟨g, o, rfl, hE2⟩ := rd_at hE hg1
        have c1 := hE2 _ _ hg1
        have c2 := hE2 _ _ hg2
        rw [← Nat.add_assoc] at c2
        obtain ⟨_, _, _, e', _, hF⟩ := (show RdSl wq 6 (.slice ra n1 rc) n1 (eR W2 LS) from RD2.out.below B.out)
        cases e'
        obtain ⟨g', o', rfl, hF2⟩ := rd_at hF hr0'
        have d1 := hF2 _ _ hr0'
        have d2 := hF2 _ _ hr1'
        rw [← Nat.add_assoc] at d2
        have BE := Lib.hid (fun q => B2.out.trans ((B.out.trans ((below_quiet wq q).mono B.out.size)).mono B2.out.size))
        have BR := Lib.hid (fun q => B.out.trans ((below_quiet wq q).mono B.out.size))
        clear hy he hg1 hg2 hr0 hr1 hr0' hr1' HNE hns hpv hE hE2 hF hF2
        by_cases hs : s1.toList = ns.toList
        · have z1 : (s1.toList == ns.toList) = true := by rw [hs]; exact beq_self_eq_true _
          have z2 : (s1.toList != ns.toList) = false := by rw [hs]; simp
          clear hs
          by_cases hp : p1 = pv
          · subst hp
            have z3 : ((p1 : Int) != p1) = false := by simp
            go_wp2_with fail
            go_quiet (fail)
            go_wp2_with fail
            go_roundw
            case rel => exact ⟨m + 1, by omega, by go_num, BR.out _⟩
            case measure => simp [intOf]; omega
          · have z3 : ((p1 : Int) != pv) = true := by simp; omega
            have HF := Lib.hid (HNE2.out (.inr hp))
            clear hp
            go_wp2_with fail
            go_quiet (fail)
            go_wp2_with fail
            go_ret
            exact ⟨false, rfl, fun h => absurd h HF.out, BE.out _⟩
        · have z1 : (s1.toList == ns.toList) = false := by rw [beq_eq_false_iff_ne]; exact hs
          have z2 : (s1.toList != ns.toList) = true := by rw [bne_iff_ne]; exact hs
          have HF := Lib.hid (HNE2.out (.inl hs))
          clear hs
          go_wp2_with fail
          go_quiet (fail)
          go_wp2_with fail
          go_ret
          exact ⟨false, rfl, fun h => absurd h HF.out, BE.out _⟩
      · obtain rfl : m = n1 := by omega
        have BE := Lib.hid (B2.out.trans (B.out.mono B2.out.size))
        go_wp2_with fail
        go_ret
        exact ⟨true, rfl, fun _ => rfl, BE.out⟩
  · have z0 : ((n1 : Int) != n2) = true := by simp; omega
    have HF : Hid (¬ L1 = LS.map (entF W2)) := fun h => hne (by rw [← HN1.out, h, List.length_map, HN2.out])
    clear hne
    go_wp2_with fail
    go_ret
    exact ⟨false, rfl, fun h => absurd h HF.out, B2.out⟩
end
end Go.Proofs.YtmfchlliechikaaGreatDoor

/- A device that a law of layer 14 arms and crashes: what a change on it leaves, what its image opens as. -/
namespace Go.Proofs.YtmfchlliechikaaGreatDoor
open Go.RowKit Go.Maps

theorem errS_ne {W : Nat → Nat} {l : List UInt8} {q sz : Nat} (h : q ≠ 0) : errS W l q sz = errE W l q sz := by
  unfold errS
  by_cases hn : nameB l = false
  · rw [if_pos hn]; unfold errE; rw [if_pos hn]
  · rw [if_neg hn, if_neg h]
theorem infoD14 (a : Nat) (nm : Nat → ByteArray) (pt W : Nat → Nat) : (Tryz.prog.info? 38).map (·.size) = some (rfA a nm pt W).size := by rw [rfA_size]; kernel_rfl
theorem sizeD14 (a : Nat) (nm : Nat → ByteArray) (pt W : Nat → Nat) : Tryz.zeroCells38.size = (rfA a nm pt W).size := by rw [rfA_size]; kernel_rfl
theorem rfA_one (a : Nat) (nm : Nat → ByteArray) (pt W : Nat → Nat) : (rfA a nm pt W).all (·.oneCell') = true := by kernel_rfl
theorem rf_alloc (w1 : World) (old A : Array Value) : ∃ w2, (w1.alloc (.cells old 38)).setRow w1.heap.size A = w2 ∧ Blk w2 w1.heap.size A 38 ∧ Below w1.heap.size w1 w2 :=
  ⟨_, rfl, setRow_heap _ _ _ A 38 (0, 0) (Blk.new w1 _ _), below_setRow (below_alloc w1 _) (Nat.le_refl _) A⟩
/-- A device in some state, a directory on it, the reference's and its copy. -/
structure CuS (w1 : World) (v : DV) (own : Nat → Option Role) (E : Dev) (b rb yb : Nat) (W Wy : Nat → Nat) (wx : World) : Prop where
  dev : IsDev wx v own E
  ob : ∀ k, own k ≠ none → w1.heap.size ≤ k
  bel : Below w1.heap.size w1 wx
  dir : DirAt wx b 192 (.iface 42 (.pointer (some ⟨v.tb 0, 0, none⟩)))
  rf : RfAt wx rb 192 W
  ry : RfAt wx yb 192 Wy
  nb : own b = none
  nr : own rb = none
  ny : own yb = none
  ne : yb ≠ rb
  nd : yb ≠ b
  new : w1.heap.size ≤ yb
/-- What may come of a change: its error and the images. -/
def OutC (E : Dev) (e : Int) (W W' : Nat → Nat) : Prop := E.n = 20 ∧ E.VB ∧ E.exec < 4611686018427387904 ∧
  ∀ ks, ∃ V : Nat → Nat, (∀ i, i < 64 → E.img ks (24 + i) = (V i : Nat)) ∧ (∀ i, V i < 18446744073709551616) ∧ opnE V = 0 ∧ ((e = 0 ∧ entL V 16 = entL W' 16) ∨ (e ≠ 0 ∧ entL V 16 = entL W 16) ∨ (e = 3 ∧ entL V 16 = entL W' 16))
section
variable {w0 w1 wt w wx wy : World} {v : DV} {own own0 : Nat → Option Role} {D E E' : Dev} {b rb yb x : Nat} {W Wy Wz : Nat → Nat}
theorem CuS.next (h : CuS w1 v own E b rb yb W Wy wx) (hb : Below wx.heap.size wx wy) : CuS w1 v own E b rb yb W Wy wy :=
  ⟨h.dev.below hb, h.ob, h.bel.trans (hb.mono h.bel.size), h.dir.next hb, h.rf.next hb, h.ry.next hb, h.nb, h.nr, h.ny, h.ne, h.nd, h.new⟩
theorem CuS.post (h : CuS w1 v own E b rb yb W Wy wx) (hP : DPost v own wx E' wy) : ∃ own', CuS w1 v own' E' b rb yb W Wy wy := by
  obtain ⟨own', g1, g2, g3⟩ := hP
  have hkb : Kb wx own wy own' := fun g c t hg ho => ⟨hg.upd g3 (by rw [ho]; simp), by rw [g2 _ hg.lt]; exact ho⟩
  obtain ⟨d1, d2⟩ := hkb _ _ _ h.dir.blk h.nb
  obtain ⟨r1, r2⟩ := hkb _ _ _ h.rf.blk h.nr
  obtain ⟨y1, y2⟩ := hkb _ _ _ h.ry.blk h.ny
  refine ⟨own', g1, fun k hk => ?_, ?_, ⟨d1⟩, ⟨r1⟩, ⟨y1⟩, d2, r2, y2, h.ne, h.nd, h.new⟩
  · rcases Nat.lt_or_ge k wx.heap.size with hlt | hge
    · rw [g2 k hlt] at hk; exact h.ob k hk
    · exact Nat.le_trans h.bel.size hge
  · exact h.bel.trans ⟨g3.os, g3.tape, g3.output, g3.size, fun k hk => g3.block k (Nat.lt_of_lt_of_le hk h.bel.size) (fun hk2 => by have := h.ob k hk2; omega)⟩
theorem CuS.other (h : CuS w1 v own E b rb yb W Wy wx) (hu : Upd (· = yb) wx wy) (hr : RfAt wy yb 192 Wz) : CuS w1 v own E b rb yb W Wz wy :=
  ⟨h.dev.upd hu (fun k hk e => hk (by rw [e]; exact h.ny)), h.ob,
    ⟨hu.os.trans h.bel.os, hu.tape.trans h.bel.tape, hu.output.trans h.bel.output, Nat.le_trans h.bel.size hu.size, fun k hk => (hu.block k (Nat.lt_of_lt_of_le hk h.bel.size) (fun e => by have e' : k = yb := e; have := h.new; omega)).trans (h.bel.block k hk)⟩,
    ⟨h.dir.blk.upd hu (fun e => h.nd (by have e' : b = yb := e; exact e'.symm))⟩, ⟨h.rf.blk.upd hu (fun e => h.ne (by have e' : rb = yb := e; exact e'.symm))⟩, hr, h.nb, h.nr, h.ny, h.ne, h.nd, h.new⟩
theorem cu_start (R : LwS w1 v own D b rb W x wt) (hk : Blk w wt.heap.size (rfA 192 (nmR W) (ptR W) W) 38) (hb : Below wt.heap.size wt w) : CuS w1 v own D b rb wt.heap.size W W w :=
  ⟨R.pl.st.dev.below hb, R.pl.st.ob, R.bel.trans (hb.mono R.bel.size), R.pl.st.dir.next hb, R.pl.rf.next hb, ⟨hk⟩, R.pl.st.nb, R.pl.nr, own_no R.pl.st.dev (Nat.le_refl _),
    fun e => by have := R.pl.rf.blk.lt; omega, fun e => by have := R.pl.st.dir.blk.lt; omega, R.bel.size⟩
theorem opn_lws (R : LwS w1 v own D b rb W x wt) (l : List UInt8) (p : Nat) : opnE W = 0 ∧ opnE (chgE W l p 1280) = 0 := ⟨opn_ok R.pl.inv R.t R.d, opn_ok (invW_chg R.pl.inv) (invT_chg R.t) (invD_chg R.d)⟩
theorem outC_cut (R : LwS w1 v own D b rb W x wt) (k : Nat) {l : List UInt8} {p : Nat} (he : errE W l p 1280 = 0) (hp : p < 18446744073709551616) (hx : x < 1000000) :
    OutC ((D.arm k).run 0 (progR 192 W l p)) (((D.arm k).run 0 (progR 192 W l p)).err 0) W (chgE W l p 1280) := by
  obtain ⟨C, h1, h2⟩ := R.pl.st.cl
  obtain ⟨c1, c2, c3, c4, c5⟩ := cut14 h1 h2 R.pl.st.bd k he hp rfl
  obtain ⟨o1, o2⟩ := opn_lws R l p
  refine ⟨c1, c2, by omega, fun ks => ?_⟩
  obtain ⟨V, v1, v2, v3⟩ := c5 ks
  refine ⟨V, v1, v2, ?_⟩
  rcases v3 with rfl | ⟨hs, h3⟩
  · refine ⟨o2, ?_⟩
    rcases c4 with h | h
    · exact .inl ⟨h, rfl⟩
    · exact .inr (.inr ⟨h, rfl⟩)
  · exact ⟨opn_ok (hs.invW R.pl.inv) (hs.invT R.t) (hs.invD R.d), .inr (.inl ⟨by rw [h3]; decide, hs.entL⟩)⟩
theorem outC_no (R : LwS w1 v own D b rb W x wt) (k : Nat) {l : List UInt8} {p : Nat} (he : errE W l p 1280 ≠ 0) (hx : x < 1000000) : OutC (D.arm k) ((errE W l p 1280 : Nat) : Int) W (chgE W l p 1280) := by
  obtain ⟨C, h1, h2⟩ := R.pl.st.cl
  obtain ⟨g1, g2, g3⟩ := h1.armed k
  have hex := h1.exec
  refine ⟨g1.on.n, g2, by omega, fun ks => ⟨W, fun i hi => ?_, R.pl.st.bd, (opn_lws R l p).1, .inr (.inl ⟨by omega, rfl⟩)⟩⟩
  rw [g1.hst.clean ks (24 + i)]
  exact h2 i hi
theorem cu_don (R : LwS w1 v own0 D b rb W x wt) (k : Nat) (h : CuS w1 v own (D.arm k) b rb yb W Wy wx) : DOn wx v own (D.arm k) 0 b 192 W ∧ (D.arm k).n = 20 ∧ (D.arm k).exec ≤ x := by
  obtain ⟨C, h1, h2⟩ := R.pl.st.cl
  obtain ⟨g1, g2, g3⟩ := h1.armed k
  have hn := g1.on.n
  have hex := h1.exec
  exact ⟨⟨h.dev, by omega, h.dir, g1.on.off, g1.on.err, ⟨rfl, by omega, fun i hi => by rw [g1.hst.cur]; exact h2 i hi, R.pl.st.bd⟩⟩, hn, by omega⟩
theorem cu_set (R : LwS w1 v own0 D b rb W x wt) (k : Nat) (h : CuS w1 v own (D.arm k) b rb yb W Wy wx) (hN : Nib wx) (t : ByteArray) (q : Nat) (hq : q < 18446744073709551616) (h0 : q ≠ 0) (hx : x < 1000000) :
    Calls Tryz.prog 30 #[.pointer (some ⟨b, 0, none⟩), .string t, .int .u64 q] wx fun r w' => ∃ (e : Int) (own' : Nat → Option Role) (E : Dev), r = .returned (.int .i64 e) ∧ CuS w1 v own' E b rb yb W Wy w' ∧ OutC E e W (chgE W t.toList q 1280) := by
  obtain ⟨d1, d2, d3⟩ := cu_don R k h
  have := rtSet_any d1 hN t q hq (by omega)
  rw [d2, errS_ne h0] at this
  refine this.mono ?_
  rintro r w' (⟨he, rfl, hb⟩ | ⟨he, rfl, hP⟩)
  · exact ⟨_, own, _, rfl, h.next hb, outC_no R k he hx⟩
  · obtain ⟨own', h'⟩ := h.post hP
    exact ⟨_, own', _, rfl, h', outC_cut R k he hq hx⟩
theorem cu_remove (R : LwS w1 v own0 D b rb W x wt) (k : Nat) (h : CuS w1 v own (D.arm k) b rb yb W Wy wx) (hN : Nib wx) (t : ByteArray) (hx : x < 1000000) :
    Calls Tryz.prog 31 #[.pointer (some ⟨b, 0, none⟩), .string t] wx fun r w' => ∃ (e : Int) (own' : Nat → Option Role) (E : Dev), r = .returned (.int .i64 e) ∧ CuS w1 v own' E b rb yb W Wy w' ∧ OutC E e W (chgE W t.toList 0 1280) := by
  obtain ⟨d1, d2, d3⟩ := cu_don R k h
  have := rtRemove_any d1 hN t (by omega)
  rw [d2] at this
  refine this.mono ?_
  rintro r w' (⟨he, rfl, hb⟩ | ⟨he, rfl, hP⟩)
  · exact ⟨_, own, _, rfl, h.next hb, outC_no R k he hx⟩
  · obtain ⟨own', h'⟩ := h.post hP
    exact ⟨_, own', _, rfl, h', outC_cut R k he (by omega) hx⟩
theorem cu_change (h : CuS w1 v own E b rb yb W Wy wx) (hI : InvW Wy) (t : ByteArray) (q : Nat) (hq : q < 18446744073709551616) :
    Calls Tryz.prog 37 #[.pointer (some ⟨yb, 0, none⟩), .string t, .int .u64 q, .int .u64 1280] wx fun r w' => r = .returned (.int .i64 (errE Wy t.toList q 1280 : Nat)) ∧ CuS w1 v own E b rb yb W (chgE Wy t.toList q 1280) w' := by
  refine (r14Change_any h.ry hI (by omega) t q hq).mono ?_
  rintro r w' ⟨e, h1, hu⟩
  exact ⟨e, h.other hu h1⟩
theorem crash14 {e : Int} {W' : Nat → Nat} (hL : IsDev wx v own E) (hO : OutC E e W W') (cv : Value) (c : Nat) (hc : RdSl wx 1 cv 1 [.int .u8 c]) (hcb : c < 256) :
    Calls Tryz.prog 38 #[.pointer (some ⟨v.db, 0, none⟩), cv] wx fun r w' => ∃ (v' : DV) (own' : Nat → Option Role) (f : Nat → Int) (V : Nat → Nat), r = .returned (.pointer (some ⟨v'.db, 0, none⟩)) ∧ IsDev w' v' own' (Dev.fresh 20 f) ∧ WAt (Dev.fresh 20 f) (64 * 3) V ∧ opnE V = 0 ∧
      ((e = 0 ∧ entL V 16 = entL W' 16) ∨ (e ≠ 0 ∧ entL V 16 = entL W 16) ∨ (e = 3 ∧ entL V 16 = entL W' 16)) ∧ Below wx.heap.size wx w' := by
  obtain ⟨hn, hvb, hex, hks⟩ := hO
  refine (crash_any hL hvb cv [(c : Int)] hc (fun y hy => by rw [List.mem_singleton] at hy; omega) (by unfold maxLen; simp) hex).mono ?_
  rintro r w' ⟨ks, v', own', _, hr, ⟨f, hf, hd⟩, _, hb⟩
  rw [hn] at hd hf
  obtain ⟨V, v1, v2, v3, v4⟩ := hks ks
  exact ⟨v', own', f, V, hr, hd, ⟨rfl, by show 64 * 3 + 512 ≤ 64 * 20; omega, fun i hi => by show look [] (f (24 + i)) (24 + i) = _; rw [← v1 i hi]; exact hf (24 + i) (by omega), v2⟩, v3, v4, hb⟩
theorem open14 {f : Nat → Int} {V : Nat → Nat} (hd : IsDev wx v own (Dev.fresh 20 f)) (hN : Nib wx) (hW : WAt (Dev.fresh 20 f) (64 * 3) V) (ho : opnE V = 0) :
    Calls Tryz.prog 18 #[.iface 42 (.pointer (some ⟨v.tb 0, 0, none⟩)), .int .i64 3] wx fun r w' => ∃ sb, r = .returned (.tuple #[.pointer (some ⟨sb, 0, none⟩), .int .i64 0]) ∧ DOn w' v own (Dev.fresh 20 f) 0 sb 192 V ∧ Below wx.heap.size wx w' := by
  have := rtOpen_any hd hN (j := 0) (by omega) 3 rfl rfl hW
  rw [show ((3 : Nat) : Int) = 3 from rfl] at this
  refine this.mono ?_
  rintro r w' (⟨h0, _⟩ | ⟨_, rfl, dir, hb⟩)
  · exact absurd ho h0
  · exact ⟨_, rfl, ⟨hd.below hb, by omega, dir, rfl, rfl, hW⟩, hb⟩
theorem listed14 {f : Nat → Int} {V : Nat → Nat} {sb : Nat} (hd : DOn wx v own (Dev.fresh 20 f) 0 sb 192 V) (hr : RfAt wx rb 192 W) (hI : InvW W) (hD : InvD W) :
    Calls Tryz.prog 20 #[.pointer (some ⟨sb, 0, none⟩), .pointer (some ⟨rb, 0, none⟩)] wx fun r w' => ∃ bb, r = .returned (.bool bb) ∧ (entL V 16 = entL W 16 → bb = true) ∧ Below wx.heap.size wx w' := by
  refine (listed_any hd hr hI).mono ?_
  rintro r w' ⟨bb, rfl, h, hb⟩
  exact ⟨bb, rfl, fun e => h (by rw [e]; exact (lstL_eq hD).1), hb⟩
end
end Go.Proofs.YtmfchlliechikaaGreatDoor
