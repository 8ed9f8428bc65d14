/- A rollback that is cut, and repeated on any image, plain. -/
import Derived.Test.YtokgplgdaememaaDoorUndH
import Derived.BigQuiet
import Derived.Test.YtokgplgdaememaaDoorFrame
import Derived.Lib.SmallJoins
import Derived.Deep.Fields
import Derived.Deep.Slices
import Derived.ChangeSame
namespace Go.Proofs.YtokgplgdaememaaDoor
open Go.RowKit

theorem look_hit (l : List (Nat × Int)) : ∀ (d d' : Int) (i : Nat), (∃ e ∈ l, e.1 / 8 = i) → look l d i = look l d' i := by
  induction l with
  | nil => intro d d' i h; obtain ⟨e, he, _⟩ := h; simp at he
  | cons x l ih =>
    intro d d' i h
    by_cases hx : x.1 / 8 = i
    · have e1 : ∀ d, look (x :: l) d i = look l x.2 i := fun d => by show look l (if x.1 / 8 = i then x.2 else d) i = _; rw [if_pos hx]
      rw [e1, e1]
    · have e1 : ∀ d, look (x :: l) d i = look l d i := fun d => by show look l (if x.1 / 8 = i then x.2 else d) i = _; rw [if_neg hx]
      rw [e1, e1]
      obtain ⟨e, he, h2⟩ := h
      rcases List.mem_cons.1 he with rfl | he
      · exact absurd h2 hx
      · exact ih d d' i ⟨e, he, h2⟩
/-- The entries that a rollback writes. -/
abbrev valC (C : Nat → Int) : List (Nat × Int) := validL 1536 192 5 (savedL C 192 5)
theorem valC_out {C : Nat → Int} {e : Nat × Int} (he : e ∈ valC C) : e.1 / 8 < 24 ∨ 64 ≤ e.1 / 8 := by
  unfold valC validL at he
  have := allowed_out (List.mem_filter.1 he).2; omega
theorem saved_pos {C : Nat → Int} (h : savedL C 192 5 ≠ []) : C 24 ≠ 0 := fun e => h (saved0 e)
/-- What a cut rollback may leave of the words f. -/
structure Half (f g : Nat → Int) : Prop where
  log : ∀ i, 25 ≤ i → i < 64 → g i = f i
  rest : ∀ i, i ≠ 24 → (∀ e ∈ valC f, e.1 / 8 ≠ i) → g i = f i
  cnt : g 24 = f 24 ∨ (g 24 = 0 ∧ ∀ i, i ≠ 24 → g i = look (valC f) (f i) i)
theorem res_half {f g : Nat → Int} (hs : savedL f 192 5 ≠ []) (h : Half f g) : resC g = resC f := by
  have hrf : ∀ i, resC f i = look (valC f ++ [(192, 0)]) (f i) i := fun i => by unfold resC; rw [if_neg hs]
  rcases h.cnt with hc | ⟨h0, hw⟩
  · have hsg : savedL g 192 5 = savedL f 192 5 := savedL_congr (fun i h1 h2 => by
      by_cases e : i = 24
      · subst e; exact hc
      · exact h.log i (by omega) h2)
    funext i
    rw [hrf]
    unfold resC
    rw [hsg, if_neg hs]
    show look (valC f ++ [(192, 0)]) (g i) i = _
    rw [look_snoc, look_snoc]
    by_cases e : 192 / 8 = i
    · rw [if_pos e, if_pos e]
    · rw [if_neg e, if_neg e]
      by_cases hit : ∃ e ∈ valC f, e.1 / 8 = i
      · exact look_hit _ _ _ _ hit
      · rw [h.rest i (by omega) (fun e he h2 => hit ⟨e, he, h2⟩)]
  · have hsg : savedL g 192 5 = [] := saved0 h0
    funext i
    rw [hrf]
    unfold resC
    rw [hsg, if_pos rfl, look_snoc]
    show g i = _
    by_cases e : 192 / 8 = i
    · rw [if_pos e]
      obtain rfl : i = 24 := by omega
      exact h0
    · rw [if_neg e]; exact hw i (by omega)
theorem halfA {f g : Nat → Int} (h : ∀ i, g i = f i ∨ ∃ e ∈ valC f, e.1 / 8 = i) : Half f g := by
  have key : ∀ i, 24 ≤ i → i < 64 → g i = f i := fun i h1 h2 => by
    rcases h i with h3 | ⟨e, he, h3⟩
    · exact h3
    · have := valC_out he; omega
  refine ⟨fun i h1 h2 => key i (by omega) h2, fun i _ hn => ?_, .inl (key 24 (by omega) (by omega))⟩
  rcases h i with h3 | ⟨e, he, h3⟩
  · exact h3
  · exact absurd h3 (hn e he)
theorem halfB {f g : Nat → Int} (h : ∀ i, i ≠ 24 → g i = look (valC f) (f i) i) (h0 : g 24 = f 24 ∨ g 24 = 0) : Half f g := by
  refine ⟨fun i h1 h2 => ?_, fun i hi hn => ?_, ?_⟩
  · rw [h i (by omega)]
    exact look_other _ _ _ (fun e he => by have := valC_out he; omega)
  · rw [h i hi]; exact look_other _ _ _ hn
  · rcases h0 with h0 | h0
    · exact .inl h0
    · exact .inr ⟨h0, h⟩
theorem laid_pers {s : PerH} {gs : List Gr} (h0 : ∀ l, s.2 l = []) (h : ∀ l, (laidX s gs).2 l = []) (i : Nat) : (laidX s gs).1 i = look (gs.flatMap (·.1)) (s.1 i) i := by
  have := curX_laid gs s i
  unfold curX at this
  rw [h, h0] at this
  exact this
theorem cut_half {f : Nat → Int} {E : Dev} {a : Nat} {ws : List (Nat × Int)} (le : a ≤ (restoreGs 192 (valC f)).length) (pre : ∃ t, ((restoreGs 192 (valC f))[a]?.map (·.1)).getD [] = ws ++ t)
    (pers : ∀ i, E.pers i = (laidX (f, fun _ => []) ((restoreGs 192 (valC f)).take a)).1 i) (hist : ∀ l, E.hist l = (laidX (f, fun _ => []) ((restoreGs 192 (valC f)).take a)).2 l ++ filtL ws l) (ks : Nat → Nat) : Half f (E.img ks) := by
  have hg : restoreGs 192 (valC f) = storesGs (valC f) ++ [([(192, 0)], lineOffs [192])] := rfl
  rw [hg] at le pre pers hist
  have hcl : ∀ l, (laidX (f, fun _ => []) (storesGs (valC f))).2 l = [] := clean_stores (fun _ => rfl) _
  have himg : ∀ i, E.img ks i = look ((E.hist (i / 8)).take (ks (i / 8))) (E.pers i) i := fun _ => rfl
  obtain ⟨t, ht⟩ := pre
  by_cases ha : a < (storesGs (valC f)).length
  · have hV : valC f ≠ [] := fun e => by rw [e] at ha; simp [storesGs] at ha
    have hsg : storesGs (valC f) = [(valC f, lineOffs ((valC f).map (·.1)))] := by unfold storesGs; rw [if_neg hV]
    rw [hsg] at ha
    have ha0 : a = 0 := by simpa using ha
    subst ha0
    rw [hsg] at ht
    have ht : valC f = ws ++ t := by simpa using ht
    refine halfA (fun i => ?_)
    rw [himg]
    have hp : E.pers i = f i := pers i
    have hh : E.hist (i / 8) = filtL ws (i / 8) := hist (i / 8)
    rw [hp, hh]
    rcases look_may ((filtL ws (i / 8)).take (ks (i / 8))) (f i) i with h1 | ⟨e, he, h2, _⟩
    · exact .inl h1
    · refine .inr ⟨e, ?_, h2⟩
      rw [ht]
      exact List.mem_append_left _ (List.mem_filter.1 (List.mem_of_mem_take he)).1
  · have hle : a = (storesGs (valC f)).length ∨ a = (storesGs (valC f)).length + 1 := by rw [List.length_append] at le; simp at le; omega
    have hw24 : ∀ e ∈ ws, e = (192, (0 : Int)) := by
      rcases hle with h | h
      · subst h
        rw [List.getElem?_append_right (Nat.le_refl _)] at ht
        have ht : [(192, (0 : Int))] = ws ++ t := by simpa using ht
        intro e he
        have : e ∈ [(192, (0 : Int))] := by rw [ht]; exact List.mem_append_left _ he
        simpa using this
      · subst h
        rw [List.getElem?_eq_none (by simp)] at ht
        have ht : ws ++ t = [] := by simpa using ht.symm
        intro e he
        rw [(List.append_eq_nil_iff.1 ht).1] at he
        simp at he
    have hbase : ∃ L, (∀ e ∈ L, e = (192, (0 : Int))) ∧ (∀ i, E.pers i = look (valC f ++ L) (f i) i) ∧ ∀ l, E.hist l = filtL ws l := by
      rcases hle with h | h
      · subst h
        rw [List.take_left'  rfl] at pers hist
        refine ⟨[], fun e he => by simp at he, fun i => ?_, fun l => by rw [hist, hcl, List.nil_append]⟩
        rw [pers, laid_pers (fun _ => rfl) hcl, storesGs_flat, List.append_nil]
      · subst h
        rw [List.take_of_length_le (by simp)] at pers hist
        have hcl2 : ∀ l, (laidX (f, fun _ => []) (storesGs (valC f) ++ storesGs [(192, 0)])).2 l = [] := fun l => by
          rw [laidX_append]; exact clean_stores hcl _ l
        refine ⟨[(192, 0)], fun e he => by simpa using he, fun i => ?_, fun l => ?_⟩
        · rw [pers]
          have := laid_pers (s := (f, fun _ => [])) (gs := storesGs (valC f) ++ storesGs [(192, 0)]) (fun _ => rfl) hcl2 i
          rw [List.flatMap_append, storesGs_flat, storesGs_flat] at this
          exact this
        · rw [hist]
          have := hcl2 l
          show (laidX (f, fun _ => []) (storesGs (valC f) ++ storesGs [(192, 0)])).2 l ++ _ = _
          rw [this, List.nil_append]
    obtain ⟨L, hL, hp, hh⟩ := hbase
    refine halfB (fun i hi => ?_) ?_
    · rw [himg, hh, look_other _ _ _ (fun e he => by rw [hw24 e (List.mem_filter.1 (List.mem_of_mem_take he)).1]; show 192 / 8 ≠ i; omega), hp, look_append]
      exact look_other _ _ _ (fun e he => by rw [hL e he]; show 192 / 8 ≠ i; omega)
    · rw [himg, hh]
      have hp24 : E.pers 24 = f 24 ∨ E.pers 24 = 0 := by
        rw [hp, look_append]
        rcases look_may L (look (valC f) (f 24) 24) 24 with h1 | ⟨e, he, _, h2⟩
        · rw [h1, look_other _ _ _ (fun e he => by have := valC_out he; omega)]; exact .inl rfl
        · rw [h2, hL e he]; exact .inr rfl
      rcases look_may ((filtL ws (24 / 8)).take (ks (24 / 8))) (E.pers 24) 24 with h1 | ⟨e, he, _, h2⟩
      · rw [h1]; exact hp24
      · rw [h2, hw24 e (List.mem_filter.1 (List.mem_of_mem_take he)).1]; exact .inr rfl
end Go.Proofs.YtokgplgdaememaaDoor

/- The law's recovered: a crash, a recovery that may be cut, again. -/
namespace Go.Proofs.YtokgplgdaememaaDoor
open Go.RowKit Go.Maps
attribute [local go_sem ↓] Go.wp_at_zero Go.wp_at_succ

theorem fresh_gx (f : Nat → Int) (k : Nat) : GX ((Dev.fresh 24 f).arm k) 0 24 (f, fun _ => []) [] [] := ⟨⟨rfl, rfl, rfl⟩, fun _ => rfl, fun _ => rfl, fun o ho => by simp at ho, fun _ _ => rfl⟩
theorem restore_valP {f : Nat → Int} (hf : ∀ i, 0 ≤ f i ∧ f i < 18446744073709551616) : valP (groupsP (restoreGs 192 (valC f))) := valP_groups (fun e he => by
  rw [restoreGs_flat] at he
  rcases List.mem_append.1 he with he | he
  · unfold valC validL at he
    exact (saved_lt hf e (List.mem_filter.1 he).1).2
  · simp at he; subst he; simp)
/-- A rollback on a fresh device that is armed. -/
theorem armed_restore {C : Dev} {f : Nat → Int} (hg : GX C 0 24 (f, fun _ => []) [] []) (hvb : C.VB) (hf : ∀ i, 0 ≤ f i ∧ f i < 18446744073709551616) (hs : savedL f 192 5 ≠ []) :
    (C.run 0 (restoreP 192 (valC f))).VB ∧ (C.run 0 (restoreP 192 (valC f))).n = 24 ∧
    (((C.run 0 (restoreP 192 (valC f))).err 0 = 0 ∧ (C.run 0 (restoreP 192 (valC f))).pers = resC f) ∨
     ((C.run 0 (restoreP 192 (valC f))).err 0 = 3 ∧ ∀ ks, resC ((C.run 0 (restoreP 192 (valC f))).img ks) = resC f)) := by
  rw [restore_groups]
  refine ⟨Dev.VB.run _ hvb 0 (restore_valP hf), (Dev.run_n 0 _ _).trans hg.on.n, ?_⟩
  rcases runX_came hg (restoreGs_ok (off := 192) (n := 24) (V := valC f) (by omega) (by omega) valid_ok) with ⟨h1, _, _⟩ | ⟨_, he, _, a, ws, le, pre, pers, hist, _, _⟩
  · refine .inl ⟨h1.on.err, ?_⟩
    funext i
    have hcl : ∀ l, (laidX (f, fun _ => []) (restoreGs 192 (valC f))).2 l = [] := fun l => by
      unfold restoreGs; rw [laidX_append]; exact clean_stores (clean_stores (fun _ => rfl) _) _ l
    rw [h1.pers, laid_pers (fun _ => rfl) hcl, restoreGs_flat]
    unfold resC; rw [if_neg hs]
  · exact .inr ⟨he, fun ks => res_half hs (cut_half le pre pers hist ks)⟩
theorem crashF {w : World} {v : DV} {own : Nat → Option Role} {D : Dev} (hL : IsDev w v own D) (hn : D.n = 24) (hvb : D.VB) (cv : Value) (cs : List Int) (hc : RdSl w 1 cv cs.length (cs.map fun x => .int .u8 x)) (hcb : ∀ x ∈ cs, 0 ≤ x ∧ x < 256) (hcl : cs.length ≤ maxLen) (hex : D.exec < 4611686018427387904) :
    Calls Tryd.prog 47 #[.pointer (some ⟨v.db, 0, none⟩), cv] w fun r w' => ∃ (ks : Nat → Nat) (v' : DV) (own' : Nat → Option Role), (∀ l, ks l ≤ (D.hist l).length) ∧ r = .returned (.pointer (some ⟨v'.db, 0, none⟩)) ∧ IsDev w' v' own' (Dev.fresh 24 (D.img ks)) ∧ (∀ k, own' k ≠ none → w.heap.size ≤ k) ∧ Below w.heap.size w w' := by
  refine (crash_any hL hvb cv cs hc hcb hcl hex).mono ?_
  rintro r w' ⟨ks, v', own', hk, hr, ⟨f, hf, hd⟩, ho, hb⟩
  rw [hn] at hd hf
  exact ⟨ks, v', own', hk, hr, fresh_same hd hf, ho, hb⟩
section
variable {w : World} {v : DV} {own : Nat → Option Role} {D : Dev}
set_option maxRecDepth 100000 in
set_option maxHeartbeats 16000000 in
theorem l16recovered_any (h : IsDev w v own D) (hn : D.n = 24) (hvb : D.VB) (hex : D.exec < 4611686018427387904) (c0 c1 c2 c3 : Int) (h1 : 0 ≤ c1 ∧ c1 < 65536) (h2 : 0 ≤ c2 ∧ c2 < 65536) (h3 : 0 ≤ c3 ∧ c3 < 65536) :
    Calls Tryd.prog 48 #[.pointer (some ⟨v.db, 0, none⟩), .agg #[.int .u16 c0, .int .u16 c1, .int .u16 c2, .int .u16 c3]] w fun r w' =>
      ∃ (ks : Nat → Nat) (g : Nat), (∀ l, ks l ≤ (D.hist l).length) ∧ r = .returned (.tuple #[.slice (some ⟨g, 0, none⟩) 192 192, .bool true]) ∧ RdSl w' 1 (.slice (some ⟨g, 0, none⟩) 192 192) 192 (intsU (getL (resC (D.img ks)) 192)) ∧ Below w.heap.size w w' := by
  have H := Lib.hid h
  have HV := Lib.hid hvb
  go_enter Tryd.func48, Tryd.ntmps48
  have hm1 : 0 ≤ c1 % 256 ∧ c1 % 256 < 256 := by omega
  have hm2 : 0 ≤ c1 / 256 ∧ c1 / 256 < 256 := by omega
  have hm3 : 0 ≤ c3 % 256 ∧ c3 % 256 < 256 := by omega
  have hm4 : 0 ≤ c3 / 256 ∧ c3 / 256 < 256 := by omega
  obtain ⟨k2, hk2⟩ : ∃ k2 : Nat, (k2 : Int) = c2 % 60 := ⟨(c2 % 60).toNat, by omega⟩
  have q1 : c2 % 60 = (k2 : Int) := hk2.symm
  have q2 : c2.tmod 60 = (k2 : Int) := by rw [Int.tmod_eq_emod_of_nonneg h2.1]; omega
  have hk60 : k2 < 60 := by omega
  have HB1 : Hid (∀ x ∈ [c1 % 256, c1 / 256], 0 ≤ x ∧ x < 256) := fun x hx => by simp at hx; rcases hx with rfl | rfl <;> omega
  have HB2 : Hid (∀ x ∈ [c3 % 256, c3 / 256], 0 ≤ x ∧ x < 256) := fun x hx => by simp at hx; rcases hx with rfl | rfl <;> omega
  have HBX := Lib.hid (below_alloc w (.cells #[.int .u16 c0, .int .u16 c1, .int .u16 c2, .int .u16 c3] 90))
  have HC2 : Hid ((w.alloc (.cells #[.int .u16 c0, .int .u16 c1, .int .u16 c2, .int .u16 c3] 90)).cell? ⟨w.heap.size, 2, none⟩ = some (.int .u16 c2)) := (Blk.new w _ _).cell rfl
  have HC3 : Hid ((w.alloc (.cells #[.int .u16 c0, .int .u16 c1, .int .u16 c2, .int .u16 c3] 90)).cell? ⟨w.heap.size, 3, none⟩ = some (.int .u16 c3)) := (Blk.new w _ _).cell rfl
  have HRD1 : Hid (RdSl ((w.alloc (.cells #[.int .u16 c0, .int .u16 c1, .int .u16 c2, .int .u16 c3] 90)).alloc (.cells #[.int .u8 (c1 % 256), .int .u8 (c1 / 256)] 5)) 1 (.slice (some ⟨w.heap.size + 1, 0, none⟩) 2 2) [c1 % 256, c1 / 256].length ([c1 % 256, c1 / 256].map fun x => .int .u8 x)) := by
    have := RdSl.new (w.alloc (.cells #[.int .u16 c0, .int .u16 c1, .int .u16 c2, .int .u16 c3] 90)) #[.int .u8 (c1 % 256), .int .u8 (c1 / 256)] 5 1 2 rfl
    rw [show (w.alloc (.cells #[.int .u16 c0, .int .u16 c1, .int .u16 c2, .int .u16 c3] 90)).heap.size = w.heap.size + 1 by simp] at this
    exact this
  have HN := Lib.hid hn; have HEX := Lib.hid hex
  clear hk2 h hvb hn hex hm1 hm2 hm3 hm4
  go_wp2_with fail
  (with_reducible refine (crashF ((H.out.alloc _).alloc _) HN.out HV.out _ [c1 % 256, c1 / 256] HRD1.out HB1.out (by unfold maxLen; simp) HEX.out).mono ?_)
  rintro e w1 ⟨ks, v1, own1, hks, rfl, d1, ho1, b1⟩
  have HKS := Lib.hid hks
  have hf0 := HV.out.img ks
  obtain ⟨f, hfe⟩ : ∃ f, D.img ks = f := ⟨_, rfl⟩
  rw [hfe] at d1 hf0
  have HFE := Lib.hid hfe; clear hfe
  have HF := Lib.hid hf0
  have HRB : Hid (∀ i, 0 ≤ resC f i ∧ resC f i < 18446744073709551616) := by
    intro i
    unfold resC
    refine look_bd _ _ _ (HF.out i) (fun e he => ?_)
    split at he
    · simp at he
    · rcases List.mem_append.1 he with he | he
      · unfold validL at he; exact (saved_lt HF.out e (List.mem_filter.1 he).1).2
      · simp at he; subst he; simp
  have D1 := Lib.hid d1
  have HOW : Hid (own1 w.heap.size = none) := by
    show own1 w.heap.size = none
    cases ho : own1 w.heap.size with
    | none => rfl
    | some r => have := ho1 w.heap.size (by rw [ho]; simp); simp at this; omega
  have HO1 : Hid (∀ k, own1 k ≠ none → w.heap.size ≤ k) := fun k hk => by have := ho1 k hk; simp at this; omega
  have BA : Hid (Below (w.heap.size + 1) (w.alloc (.cells #[.int .u16 c0, .int .u16 c1, .int .u16 c2, .int .u16 c3] 90)) w1) := by
    have h1 := below_alloc (w.alloc (.cells #[.int .u16 c0, .int .u16 c1, .int .u16 c2, .int .u16 c3] 90)) (.cells #[.int .u8 (c1 % 256), .int .u8 (c1 / 256)] 5)
    have hle : (w.alloc (.cells #[.int .u16 c0, .int .u16 c1, .int .u16 c2, .int .u16 c3] 90)).heap.size ≤ ((w.alloc (.cells #[.int .u16 c0, .int .u16 c1, .int .u16 c2, .int .u16 c3] 90)).alloc (.cells #[.int .u8 (c1 % 256), .int .u8 (c1 / 256)] 5)).heap.size := by simp
    have h2 := h1.trans (b1.mono hle)
    rw [show (w.alloc (.cells #[.int .u16 c0, .int .u16 c1, .int .u16 c2, .int .u16 c3] 90)).heap.size = w.heap.size + 1 by simp] at h2
    exact h2
  clear d1 ho1 b1 hks hf0
  go_wp2_with fail
  (with_reducible refine (thread0_any D1.out).mono ?_)
  rintro e w' ⟨rfl, rfl⟩
  go_wp2_with fail
  (with_reducible refine (open24 D1.out rfl (j := 0) (by omega)).mono ?_)
  rintro e w2 ⟨rfl, g2, b2⟩
  have hsz := BA.out.size
  have L2 : Hid (LSt w v1 own1 (Dev.fresh 24 f) w1.heap.size 0 192 5 w2) := ⟨g2, HO1.out, by simp at hsz; omega, (HBX.out.trans (BA.out.mono (by omega))).trans (b2.mono (by simp at hsz; omega))⟩
  have B2 : Hid (Below (w.heap.size + 1) (w.alloc (.cells #[.int .u16 c0, .int .u16 c1, .int .u16 c2, .int .u16 c3] 90)) w2) := BA.out.trans (b2.mono (by simp at hsz; omega))
  have BK2 : Hid (Blk w2 w.heap.size #[.int .u16 c0, .int .u16 c1, .int .u16 c2, .int .u16 c3] 90) := by
    have hb := B2.out
    rw [show w.heap.size + 1 = (w.alloc (.cells #[.int .u16 c0, .int .u16 c1, .int .u16 c2, .int .u16 c3] 90)).heap.size by simp] at hb
    exact (Blk.new w _ _).upd (Upd.of_below (S := fun _ => False) hb) (fun h => h)
  have x2 : w2.cell? ⟨w.heap.size, 2, none⟩ = some (.int .u16 c2) := BK2.out.cell rfl
  clear g2 b2 BA D1 hsz
  generalize w1.heap.size = lb at *
  obtain ⟨C, hC⟩ : ∃ C, (Dev.fresh 24 f).arm k2 = C := ⟨_, rfl⟩
  have hgx := fresh_gx f k2
  have hcv : ((Dev.fresh 24 f).arm k2).VB := ⟨HF.out, fun l e he => by simp [Dev.arm, Dev.fresh] at he⟩
  have hce : ((Dev.fresh 24 f).arm k2).exec = 0 := rfl
  have hcc : ((Dev.fresh 24 f).arm k2).cur = f := rfl
  have hcp : ((Dev.fresh 24 f).arm k2).pers = f := rfl
  have HARM := Lib.hid (arm_any L2.out.dev k2 (by omega))
  rw [hC] at hgx hcv hce hcc hcp HARM
  have HG := Lib.hid hgx; have HCV := Lib.hid hcv
  have HCX : Hid (C.exec = 0 ∧ C.cur = f ∧ C.pers = f) := ⟨hce, hcc, hcp⟩
  clear hC hgx hcv hce hcc hcp
  go_wp2_with fail
  (with_reducible refine HARM.out.mono ?_)
  rintro e w3 ⟨rfl, p3⟩
  obtain ⟨own3, l3, m3⟩ := L2.out.stepM (D' := C) (by rw [HG.out.on.n]; rfl) p3
  have L3 := Lib.hid l3
  have BK3 := Lib.hid (BK2.out.upd m3.upd (fun h => h HOW.out))
  have HOW3 : Hid (own3 w.heap.size = none) := by have h1 := m3.old w.heap.size (World.block_lt_of_cell? w2 _ x2); rw [HOW.out] at h1; exact h1
  clear p3 l3 m3 HARM x2 L2 BK2
  have HREC : Hid (Calls Tryd.prog 39 #[.pointer (some ⟨lb, 0, none⟩)] w3 (RecPost w3 v1 own3 C 0 192 (savedL f 192 5) (valC f))) := by
    have h1 := uload_any L3.out.log HG.out.on.off HG.out.on.err HCV.out
    rw [HG.out.on.n, HCX.out.2.1] at h1
    exact uRecover_any L3.out.log _ _ h1 (saved_vin HF.out) (by rw [HCX.out.1]; omega)
  go_wp2_with fail
  (with_reducible refine HREC.out.mono ?_)
  rintro e w4 (⟨hs, rfl, b4⟩ | ⟨hs, p4, ⟨he, rfl⟩ | ⟨he, rfl⟩⟩)
  · have L4 := Lib.hid (L3.out.next b4)
    have HPE : Hid (C.pers = resC f) := by
      show C.pers = resC f
      rw [HCX.out.2.2]; funext i; unfold resC; rw [if_pos hs]; rfl
    clear hs b4 L3 HREC
    go_wp2_with fail
    (with_reducible refine (persisted24 L4.out.dev HCV.out HG.out.on.n).mono ?_)
    rintro e u1 ⟨rfl, r1, b1⟩
    rw [HPE.out] at r1
    have R1 := Lib.hid r1; have N1 := Lib.hid (L4.out.next b1); clear r1 b1
    go_wp2_with fail
    (with_reducible refine (words24 HRB.out R1.out).mono ?_)
    rintro e u2 ⟨rfl, d2⟩
    have Q2 := Lib.hid d2.rd
    have N2 := Lib.hid (N1.out.next d2.bel); clear d2 R1 N1
    go_wp2_with fail
    go_ret2
    exact ⟨ks, _, HKS.out, rfl, by rw [HFE.out]; exact Q2.out, N2.out.bel⟩
  · obtain ⟨a1, a2, a3⟩ := armed_restore HG.out HCV.out HF.out hs
    have HA : Hid ((C.run 0 (restoreP 192 (valC f))).VB ∧ (C.run 0 (restoreP 192 (valC f))).n = 24 ∧ (C.run 0 (restoreP 192 (valC f))).pers = resC f) := ⟨a1, a2, by
      rcases a3 with a3 | a3
      · exact a3.2
      · rw [he] at a3; exact absurd a3.1 (by omega)⟩
    obtain ⟨own4, l4, m4⟩ := L3.out.stepM (D' := C.run 0 (restoreP 192 (valC f))) (by rw [a2, HG.out.on.n]) p4
    have L4 := Lib.hid l4
    clear hs he p4 a1 a2 a3 l4 m4 L3 HREC
    generalize C.run 0 (restoreP 192 (valC f)) = E at *
    go_wp2_with fail
    (with_reducible refine (persisted24 L4.out.dev HA.out.1 HA.out.2.1).mono ?_)
    rintro e u1 ⟨rfl, r1, b1⟩
    rw [HA.out.2.2] at r1
    have R1 := Lib.hid r1; have N1 := Lib.hid (L4.out.next b1); clear r1 b1
    go_wp2_with fail
    (with_reducible refine (words24 HRB.out R1.out).mono ?_)
    rintro e u2 ⟨rfl, d2⟩
    have Q2 := Lib.hid d2.rd
    have N2 := Lib.hid (N1.out.next d2.bel); clear d2 R1 N1
    go_wp2_with fail
    go_ret2
    exact ⟨ks, _, HKS.out, rfl, by rw [HFE.out]; exact Q2.out, N2.out.bel⟩
  · obtain ⟨a1, a2, a3⟩ := armed_restore HG.out HCV.out HF.out hs
    have hex4 := C.run_exec 0 (restoreP 192 (valC f))
    have hpl := restoreP_len (off := 192) (valC f) (saved_vin HF.out)
    have HA : Hid ((C.run 0 (restoreP 192 (valC f))).VB ∧ (C.run 0 (restoreP 192 (valC f))).n = 24 ∧ (C.run 0 (restoreP 192 (valC f))).exec < 4611686018427387904 ∧ ∀ ks, resC ((C.run 0 (restoreP 192 (valC f))).img ks) = resC f) := ⟨a1, a2, by rw [HCX.out.1] at hex4; omega, by
      rcases a3 with a3 | a3
      · exact absurd a3.1 he
      · exact a3.2⟩
    have he3 : (C.run 0 (restoreP 192 (valC f))).err 0 = 3 := by
      rcases a3 with a3 | a3
      · exact absurd a3.1 he
      · exact a3.1
    obtain ⟨own4, l4, m4⟩ := L3.out.stepM (D' := C.run 0 (restoreP 192 (valC f))) (by rw [a2, HG.out.on.n]) p4
    have L4 := Lib.hid l4
    have BK4 := Lib.hid (BK3.out.upd m4.upd (fun h => h HOW3.out))
    rw [he3]
    clear hs he he3 p4 a1 a2 a3 l4 m4 L3 HREC hex4 hpl BK3 HOW3
    generalize C.run 0 (restoreP 192 (valC f)) = E at *
    have x3 : w4.cell? ⟨w.heap.size, 3, none⟩ = some (.int .u16 c3) := BK4.out.cell rfl
    have HRD2 : Hid (RdSl (w4.alloc (.cells #[.int .u8 (c3 % 256), .int .u8 (c3 / 256)] 5)) 1 (.slice (some ⟨w4.heap.size, 0, none⟩) 2 2) [c3 % 256, c3 / 256].length ([c3 % 256, c3 / 256].map fun x => .int .u8 x)) := RdSl.new w4 _ _ 1 2 rfl
    go_wp2_with fail
    (with_reducible refine (crashF ((L4.out.alloc _).dev) HA.out.2.1 HA.out.1 _ [c3 % 256, c3 / 256] HRD2.out HB2.out (by unfold maxLen; simp) HA.out.2.2.1).mono ?_)
    rintro e w5 ⟨ks5, v5, own5, _, rfl, d5, ho5, b5⟩
    have D5 := Lib.hid d5
    have hf5 := HA.out.1.img ks5
    have hr5 := HA.out.2.2.2 ks5
    have L5 := Lib.hid ((L4.out.alloc (.cells #[.int .u8 (c3 % 256), .int .u8 (c3 / 256)] 5)).next b5)
    have HO5 : Hid (∀ k, own5 k ≠ none → w.heap.size ≤ k) := fun k hk => by have h1 := ho5 k hk; have h2 := L4.out.bel.size; simp at h1; omega
    generalize E.img ks5 = f5 at *
    have HR5 := Lib.hid hr5
    have CJ : Hid (Cj (Dev.fresh 24 f5) 0 0) := ⟨⟨⟨rfl, rfl, rfl⟩, rfl, fun _ => rfl, Nat.le_refl _, fresh_vb hf5⟩, fun _ => rfl⟩
    clear d5 ho5 b5 hf5 hr5 L4 x3 BK4 HRD2
    go_wp2_with fail
    (with_reducible refine (thread0_any D5.out).mono ?_)
    rintro e w' ⟨rfl, rfl⟩
    go_wp2_with fail
    (with_reducible refine (open24 D5.out rfl (j := 0) (by omega)).mono ?_)
    rintro e w6 ⟨rfl, g6, b6⟩
    have L6 : Hid (LSt w v5 own5 (Dev.fresh 24 f5) w5.heap.size 0 192 5 w6) := ⟨g6, HO5.out, L5.out.bel.size, L5.out.bel.trans (b6.mono L5.out.bel.size)⟩
    clear g6 b6 D5 L5
    generalize w5.heap.size = lb5 at *
    go_wp2_with fail
    (with_reducible refine (recover_lv L6.out CJ.out (by omega)).mono ?_)
    rintro e w7 ⟨own7, rfl, l7, m7⟩
    have L7 := Lib.hid l7
    have HJ := Lib.hid (resD_cj CJ.out)
    have HPE : Hid ((resD (Dev.fresh 24 f5) 0).pers = resC f) := by
      show (resD (Dev.fresh 24 f5) 0).pers = resC f
      rw [HJ.out.1.pers, HJ.out.2]; exact HR5.out
    clear l7 m7 L6
    go_wp2_with fail
    (with_reducible refine (persisted24 L7.out.dev HJ.out.1.lv.vb HJ.out.1.lv.on.n).mono ?_)
    rintro e u1 ⟨rfl, r1, b1⟩
    rw [HPE.out] at r1
    have R1 := Lib.hid r1; have N1 := Lib.hid (L7.out.next b1); clear r1 b1
    go_wp2_with fail
    (with_reducible refine (words24 HRB.out R1.out).mono ?_)
    rintro e u2 ⟨rfl, d2⟩
    have Q2 := Lib.hid d2.rd
    have N2 := Lib.hid (N1.out.next d2.bel); clear d2 R1 N1
    go_wp2_with fail
    go_ret2
    exact ⟨ks, _, HKS.out, rfl, by rw [HFE.out]; exact Q2.out, N2.out.bel⟩
end
end Go.Proofs.YtokgplgdaememaaDoor

/- What a crash finds of an undo log while words are saved, stored to and committed, plain. No program in sight. -/
namespace Go.Proofs.YtokgplgdaememaaDoor
open Go.RowKit

/-- Equal outside of the log, and the count is 0. -/
def OutEq (f g : Nat → Int) : Prop := f 24 = 0 ∧ ∀ i, (i < 24 ∨ 64 ≤ i) → f i = g i
/-- The words f have a log that leads back to the words old. -/
structure Fit (old f : Nat → Int) : Prop where
  c0 : 0 ≤ f 24
  c1 : f 24 ≤ 16
  ok : ∀ e ∈ savedL f 192 5, allowedB 1536 192 5 e.1 = true
  val : ∀ e ∈ savedL f 192 5, e.2 = old (e.1 / 8)
  rest : ∀ i, (i < 24 ∨ 64 ≤ i) → (∀ e ∈ savedL f 192 5, e.1 / 8 ≠ i) → f i = old i
theorem Fit.vls {old f : Nat → Int} (h : Fit old f) : valC f = savedL f 192 5 := by
  show validL 1536 192 5 (savedL f 192 5) = _
  unfold validL
  exact List.filter_eq_self.2 h.ok
theorem look_val (l : List (Nat × Int)) (d x : Int) (i : Nat) (hv : ∀ e ∈ l, e.1 / 8 = i → e.2 = x) (hit : ∃ e ∈ l, e.1 / 8 = i) : look l d i = x := by
  rw [look_hit l d x i hit]
  rcases look_may l x i with h | ⟨e, he, h1, h2⟩
  · exact h
  · rw [h2]; exact hv e he h1
theorem saved_cnt {f : Nat → Int} (h0 : 0 ≤ f 24) (h1 : f 24 ≤ 16) (hs : savedL f 192 5 = []) : f 24 = 0 := by
  have : (savedL f 192 5).length = 0 := by rw [hs]; rfl
  unfold savedL at this
  rw [entsL_len] at this
  unfold cntL at this
  rw [show 192 / 8 = 24 from rfl, if_neg (by omega)] at this
  omega
theorem sN_cnt {f : Nat → Int} (h0 : 0 ≤ f 24) (h1 : f 24 ≤ 16) : (sN f : Int) = f 24 := by
  unfold sN savedL
  rw [entsL_len]
  unfold cntL
  rw [show 192 / 8 = 24 from rfl, if_neg (by omega)]
  omega
theorem Fit.res {old f : Nat → Int} (h : Fit old f) : OutEq (resC f) old := by
  by_cases hs : savedL f 192 5 = []
  · have hr : ∀ i, resC f i = f i := fun i => by unfold resC; rw [if_pos hs]; rfl
    refine ⟨by rw [hr]; exact saved_cnt h.c0 h.c1 hs, fun i hi => ?_⟩
    rw [hr]
    exact h.rest i hi (fun e he => by rw [hs] at he; simp at he)
  · have hr : ∀ i, resC f i = look (valC f ++ [(192, 0)]) (f i) i := fun i => by unfold resC; rw [if_neg hs]
    refine ⟨by rw [hr, look_snoc, if_pos (show 192 / 8 = 24 from rfl)], fun i hi => ?_⟩
    rw [hr, look_snoc, if_neg (by show ¬ 192 / 8 = i; omega), h.vls]
    by_cases hit : ∃ e ∈ savedL f 192 5, e.1 / 8 = i
    · exact look_val _ _ _ _ (fun e he h2 => by rw [h.val e he, h2]) hit
    · have hn : ∀ e ∈ savedL f 192 5, e.1 / 8 ≠ i := fun e he h2 => hit ⟨e, he, h2⟩
      rw [look_other _ _ _ hn]
      exact h.rest i hi hn
theorem Fit.congr {old f g : Nat → Int} (h : Fit old f) (h24 : g 24 = f 24) (hs : savedL g 192 5 = savedL f 192 5) (ho : ∀ i, (i < 24 ∨ 64 ≤ i) → (∀ e ∈ savedL f 192 5, e.1 / 8 ≠ i) → g i = f i) : Fit old g :=
  ⟨by rw [h24]; exact h.c0, by rw [h24]; exact h.c1, by rw [hs]; exact h.ok, by rw [hs]; exact h.val, fun i hi hn => by rw [hs] at hn; rw [ho i hi hn]; exact h.rest i hi hn⟩
theorem savedL_pre {f g : Nat → Int} (h24 : g 24 = f 24) (h : ∀ i, 32 ≤ i → i < 32 + 2 * sN f → g i = f i) : savedL g 192 5 = savedL f 192 5 := by
  have hc : cntL g 192 5 = cntL f 192 5 := by unfold cntL; rw [show 192 / 8 = 24 from rfl, h24]
  have hn : sN f = cntL f 192 5 := by unfold sN savedL; rw [entsL_len]
  unfold savedL
  rw [hc]
  unfold entsL
  refine List.map_congr_left (fun i hi => ?_)
  have hi := List.mem_range.1 hi
  rw [h (192 / 8 + 8 + 2 * i) (by omega) (by omega), h (192 / 8 + 9 + 2 * i) (by omega) (by omega)]
theorem cur_img (D : Dev) : D.cur = D.img (fun l => (D.hist l).length) := by
  funext i
  unfold Dev.img Dev.cur
  rw [List.take_length]
theorem W0_fit : Fit W0 W0 := by
  have hs : savedL W0 192 5 = [] := saved0 W0_24
  exact ⟨by rw [W0_24]; omega, by rw [W0_24]; omega, fun e he => by rw [hs] at he; simp at he, fun e he => by rw [hs] at he; simp at he, fun i _ _ => rfl⟩
/-- The power is on; whatever a crash finds leads back to the words old. -/
structure Al (old : Nat → Int) (D : Dev) (x : Nat) : Prop where
  on : OnJ D 0 24
  no : ∀ l, D.note 0 l = none
  exec : D.exec ≤ x
  vb : D.VB
  log : ∀ l, 3 ≤ l → l < 8 → D.hist l = []
  hist : ∀ l, D.hist l ≠ [] → ∃ e ∈ savedL D.cur 192 5, e.1 / 64 = l
  fit : ∀ ks, Fit old (D.img ks)
/-- The power has failed; whatever a crash finds leads back to the words old. -/
structure Dd (old : Nat → Int) (D : Dev) (x : Nat) : Prop where
  n : D.n = 24
  off : D.off = true
  err : D.err 0 = 3
  exec : D.exec ≤ x
  vb : D.VB
  res : ∀ ks, OutEq (resC (D.img ks)) old
theorem Al.mono {old : Nat → Int} {D : Dev} {x y : Nat} (h : Al old D x) (hxy : x ≤ y) : Al old D y := ⟨h.on, h.no, Nat.le_trans h.exec hxy, h.vb, h.log, h.hist, h.fit⟩
theorem Dd.mono {old : Nat → Int} {D : Dev} {x y : Nat} (h : Dd old D x) (hxy : x ≤ y) : Dd old D y := ⟨h.n, h.off, h.err, Nat.le_trans h.exec hxy, h.vb, h.res⟩
theorem D0_al (k : Nat) : Al W0 (D0.arm k) 0 := by
  have hi : ∀ ks, (D0.arm k).img ks = W0 := fun ks => by
    funext i
    show look (List.take (ks (i / 8)) []) (W0 i) i = _
    rw [List.take_nil]; rfl
  exact ⟨⟨rfl, rfl, rfl⟩, fun _ => rfl, Nat.le_refl _, D0_vb.same rfl rfl, fun _ _ _ => rfl, fun l h => absurd rfl h, fun ks => by rw [hi]; exact W0_fit⟩
section
variable {old : Nat → Int} {D : Dev} {x : Nat}
theorem Al.fitc (h : Al old D x) : Fit old D.cur := by rw [cur_img]; exact h.fit _
theorem Al.gx (h : Al old D x) : GX D 0 24 (perH D) [] [] := ⟨h.on, fun _ => rfl, fun l => by simp [perH, filtL], fun o ho => by simp at ho, fun l _ => h.no l⟩
theorem Al.logw (h : Al old D x) (i : Nat) (h1 : 24 ≤ i) (h2 : i < 64) : D.pers i = D.cur i := by
  unfold Dev.cur
  rw [h.log (i / 8) (by omega) (by omega)]; rfl
theorem Al.imgw (h : Al old D x) (ks : Nat → Nat) (i : Nat) (h1 : 24 ≤ i) (h2 : i < 64) : D.img ks i = D.cur i := by
  unfold Dev.img
  rw [h.log (i / 8) (by omega) (by omega), List.take_nil]
  exact h.logw i h1 h2
theorem Al.imgs (h : Al old D x) (ks : Nat → Nat) : savedL (D.img ks) 192 5 = savedL D.cur 192 5 := savedL_congr (fun i h1 h2 => h.imgw ks i h1 h2)
theorem freshF_not (C : Nat → Int) (K offs : List Nat) : ∀ F : List (Nat × Int), (∀ e ∈ F, e.1 ∉ K) → ∀ e ∈ offs.foldl (freshStep C K) F, e.1 ∉ K := by
  induction offs with
  | nil => intro F h; exact h
  | cons o offs ih =>
    intro F h
    refine ih _ (fun e he => ?_)
    unfold freshStep at he
    split at he
    · exact h e he
    · rename_i hn
      rcases List.mem_append.1 he with h1 | h1
      · exact h e h1
      · simp at h1; subst h1
        intro hk
        apply hn
        simp [hk]
theorem fL_not (C : Nat → Int) (offs : List Nat) : ∀ e ∈ fL C offs, ∀ s ∈ savedL C 192 5, s.1 ≠ e.1 := fun e he s hs h => freshF_not C _ offs [] (fun e he => by simp at he) e he (List.mem_map.2 ⟨s, hs, h⟩)
/-- The words of an image while Save's program runs. -/
theorem Al.mid (h : Al old D x) {offs : List Nat} (hg : ∀ o ∈ offs, allowedB 1536 192 5 o = true) (hf : ¬ 16 < sN D.cur + (fL D.cur offs).length) (hF : fL D.cur offs ≠ []) (ks : Nat → Nat) {g : Nat → Int} (ho : ∀ i, (i < 24 ∨ 64 ≤ i) → g i = D.img ks i)
    (hl : (g 24 = D.cur 24 ∧ ∀ i, 32 ≤ i → i < 32 + 2 * sN D.cur → g i = D.cur i) ∨ (g 24 = ((sN D.cur + (fL D.cur offs).length : Nat) : Int) ∧ ∀ i, 25 ≤ i → i < 64 → g i = look (planWs (192 + 64 + 16 * sN D.cur) (fL D.cur offs)) (D.cur i) i)) : Fit old g := by
  rcases hl with ⟨h1, h2⟩ | ⟨h1, h2⟩
  · refine (h.fit ks).congr (by rw [h1, h.imgw ks 24 (by omega) (by omega)]) ?_ (fun i hi _ => ho i hi)
    rw [h.imgs ks]
    exact savedL_pre h1 h2
  · obtain ⟨hs, _, _⟩ := saved_plan (C := D.cur) (C' := fun i => look (if fL D.cur offs = [] then [] else planWs (192 + 64 + 16 * sN D.cur) (fL D.cur offs) ++ [(192, ((sN D.cur + (fL D.cur offs).length : Nat) : Int))]) (D.cur i) i) (F := fL D.cur offs) h.fitc.c0 h.fitc.c1 (by omega) (fun i => rfl)
    have hsg : savedL g 192 5 = savedL D.cur 192 5 ++ fL D.cur offs := by
      rw [← hs]
      refine savedL_congr (fun i h3 h4 => ?_)
      show g i = look _ (D.cur i) i
      rw [if_neg hF, look_snoc]
      by_cases e : i = 24
      · subst e; rw [h1, if_pos (show 192 / 8 = 24 from rfl)]
      · rw [if_neg (by show ¬ 192 / 8 = i; omega)]; exact h2 i (by omega) h4
    have hm := fun e he => freshL_mem D.cur ((savedL D.cur 192 5).map (·.1)) offs e he
    refine ⟨by rw [h1]; omega, by rw [h1]; omega, fun e he => ?_, fun e he => ?_, fun i hi hn => ?_⟩
    · rw [hsg] at he
      rcases List.mem_append.1 he with he | he
      · exact h.fitc.ok e he
      · exact hg _ (hm e he).1
    · rw [hsg] at he
      rcases List.mem_append.1 he with he | he
      · exact h.fitc.val e he
      · rw [(hm e he).2]
        have hao := allowed_out (hg _ (hm e he).1)
        refine h.fitc.rest _ (by omega) (fun s hs2 h3 => ?_)
        have hso := allowed_out (h.fitc.ok s hs2)
        exact fL_not D.cur offs e he s hs2 (by omega)
    · rw [hsg] at hn
      rw [ho i hi]
      exact (h.fit ks).rest i hi (fun e he => by rw [h.imgs ks] at he; exact hn e (List.mem_append_left _ he))
theorem plan_lines {k : Nat} {F : List (Nat × Int)} (hk : k + F.length ≤ 16) : ∀ e ∈ planWs (192 + 64 + 16 * k) F, 32 + 2 * k ≤ e.1 / 8 ∧ e.1 / 8 < 64 := fun e he => by
  have := planWs_bd F _ e he; omega
theorem filt_nil {ws : List (Nat × Int)} {l : Nat} (h : ∀ e ∈ ws, e.1 / 64 ≠ l) : filtL ws l = [] := by
  unfold filtL
  rw [List.filter_eq_nil_iff]
  intro e he h2
  exact h e he (by simpa using h2)
/-- An image while Save's program runs. -/
theorem Al.plan_img (h : Al old D x) {offs : List Nat} (hg : ∀ o ∈ offs, allowedB 1536 192 5 o = true) (hf : ¬ 16 < sN D.cur + (fL D.cur offs).length) {E : Dev} {a : Nat} {ws : List (Nat × Int)}
    (le : a ≤ (planGs 192 (sN D.cur) (fL D.cur offs)).length) (pre : ∃ t, ((planGs 192 (sN D.cur) (fL D.cur offs))[a]?.map (·.1)).getD [] = ws ++ t)
    (pers : ∀ i, E.pers i = (laidX (perH D) ((planGs 192 (sN D.cur) (fL D.cur offs)).take a)).1 i) (hist : ∀ l, E.hist l = (laidX (perH D) ((planGs 192 (sN D.cur) (fL D.cur offs)).take a)).2 l ++ filtL ws l) (ks : Nat → Nat) : Fit old (E.img ks) := by
  obtain ⟨t, ht⟩ := pre
  by_cases hF : fL D.cur offs = []
  · have h0 : planGs 192 (sN D.cur) (fL D.cur offs) = [] := by unfold planGs; rw [if_pos hF]
    rw [h0] at le ht pers hist
    have ha : a = 0 := by simpa using le
    subst ha
    have hw : ws = [] := (List.append_eq_nil_iff.1 (show ws ++ t = [] by simpa using ht.symm)).1
    subst hw
    have : E.img ks = D.img ks := by
      funext i
      unfold Dev.img
      rw [pers, hist]
      simp [laidX, perH, filtL]
    rw [this]; exact h.fit ks
  · have hpl := plan_lines (k := sN D.cur) (F := fL D.cur offs) (by omega)
    have hne : planWs (192 + 64 + 16 * sN D.cur) (fL D.cur offs) ≠ [] := fun e => by
      have := congrArg List.length e
      rw [planWs_len] at this
      have : (fL D.cur offs).length = 0 := by simp only [List.length_nil] at this; omega
      exact hF (List.length_eq_zero_iff.1 this)
    have hgs : planGs 192 (sN D.cur) (fL D.cur offs) = [(planWs (192 + 64 + 16 * sN D.cur) (fL D.cur offs), lineOffs ((planWs (192 + 64 + 16 * sN D.cur) (fL D.cur offs)).map (·.1))), ([(192, ((sN D.cur + (fL D.cur offs).length : Nat) : Int))], lineOffs [192])] := by
      unfold planGs storesGs
      rw [if_neg hF, if_neg hne, if_neg (by simp)]; rfl
    rw [hgs] at le ht pers hist
    have key := h.mid hg hf hF ks (g := E.img ks)
    generalize planWs (192 + 64 + 16 * sN D.cur) (fL D.cur offs) = W at *
    generalize ((sN D.cur + (fL D.cur offs).length : Nat) : Int) = c at *
    have hW : ∀ l, (l < 4 ∨ 8 ≤ l) → filtL W l = [] := fun l hl => filt_nil (fun e he h2 => by have := hpl e he; omega)
    have hlk : ∀ i, (i < 32 + 2 * sN D.cur ∨ 64 ≤ i) → ∀ L : List (Nat × Int), (∀ e ∈ L, e ∈ W) → ∀ d, look L d i = d := fun i hi L hL d => look_other _ _ _ (fun e he h2 => by have := hpl e (hL e he); omega)
    have himg : ∀ i, E.img ks i = look ((E.hist (i / 8)).take (ks (i / 8))) (E.pers i) i := fun _ => rfl
    have hle : a = 0 ∨ a = 1 ∨ a = 2 := by simp at le; omega
    rcases hle with ha | ha
    · subst ha
      have hp : ∀ i, E.pers i = D.pers i := pers
      have hh : ∀ l, E.hist l = D.hist l ++ filtL ws l := hist
      have htw : W = ws ++ t := by simpa using ht
      have hwW : ∀ e ∈ ws, e ∈ W := fun e he => by rw [htw]; exact List.mem_append_left _ he
      have hfw : ∀ l, (l < 4 ∨ 8 ≤ l) → filtL ws l = [] := fun l hl => filt_nil (fun e he h2 => by have := hpl e (hwW e he); omega)
      refine key (fun i hi => ?_) (.inl ⟨?_, fun i h1 h2 => ?_⟩)
      · rw [himg, hh, hp, hfw _ (by omega), List.append_nil]; rfl
      · rw [himg, hh, hp, hfw _ (by omega), List.append_nil]; exact h.imgw ks 24 (by omega) (by omega)
      · rw [himg, hh, hp, h.log _ (by omega) (by have := sN_le D.cur; omega), List.nil_append, hlk i (by omega) ((filtL ws (i / 8)).take (ks (i / 8))) (fun e he => hwW e (List.mem_filter.1 (List.mem_of_mem_take he)).1)]
        exact h.logw i (by omega) (by have := sN_le D.cur; omega)
    · have hhit : ∀ l, D.hist l ≠ [] → hitB (lineOffs (W.map (·.1))) l = false := fun l hl => by
        cases hb : hitB (lineOffs (W.map (·.1))) l
        · rfl
        · obtain ⟨o, ho, h2⟩ := (lineOffs_hit _ _).1 hb
          obtain ⟨e, he, rfl⟩ := List.mem_map.1 ho
          have := hpl e he
          exact absurd (h.log l (by omega) (by omega)) hl
      have hmis : ∀ l, hitB (lineOffs (W.map (·.1))) l = false → filtL W l = [] := fun l hb => filt_nil (fun e he h2 => by
        have := (lineOffs_hit (W.map (·.1)) l).2 ⟨e.1, List.mem_map.2 ⟨e, he, rfl⟩, h2⟩
        rw [hb] at this; cases this)
      have hp1 : ∀ i, (nextX (perH D) (W, lineOffs (W.map (·.1)))).1 i = look W (D.pers i) i := fun i => by
        show (if hitB (lineOffs (W.map (·.1))) (i / 8) = true then look (D.hist (i / 8) ++ filtL W (i / 8)) (D.pers i) i else D.pers i) = _
        cases hb : hitB (lineOffs (W.map (·.1))) (i / 8)
        · rw [if_neg (by simp), ← look_filt W, hmis _ hb]; rfl
        · rw [if_pos rfl]
          have : D.hist (i / 8) = [] := by
            by_cases hd : D.hist (i / 8) = []
            · exact hd
            · rw [hhit _ hd] at hb; cases hb
          rw [this, List.nil_append, look_filt]
      have hh1 : ∀ l, (nextX (perH D) (W, lineOffs (W.map (·.1)))).2 l = D.hist l := fun l => by
        show (if hitB (lineOffs (W.map (·.1))) l = true then [] else D.hist l ++ filtL W l) = _
        cases hb : hitB (lineOffs (W.map (·.1))) l
        · rw [if_neg (by simp), hmis _ hb, List.append_nil]
        · rw [if_pos rfl]
          by_cases hd : D.hist l = []
          · exact hd.symm
          · rw [hhit _ hd] at hb; cases hb
      have hbase : ∃ L M : List (Nat × Int), (∀ e ∈ L, e = (192, c)) ∧ (∀ e ∈ M, e = (192, c)) ∧ (∀ i, E.pers i = look L (look W (D.pers i) i) i) ∧ ∀ l, E.hist l = D.hist l ++ filtL M l := by
        rcases ha with ha | ha
        · subst ha
          have htw : [(192, c)] = ws ++ t := by simpa using ht
          refine ⟨[], ws, fun e he => by simp at he, fun e he => ?_, fun i => ?_, fun l => ?_⟩
          · have : e ∈ [(192, c)] := by rw [htw]; exact List.mem_append_left _ he
            simpa using this
          · rw [pers]; exact hp1 i
          · rw [hist]; exact congrArg (· ++ filtL ws l) (hh1 l)
        · subst ha
          have hw : ws = [] := (List.append_eq_nil_iff.1 (show ws ++ t = [] by simpa using ht.symm)).1
          subst hw
          have h3 : ∀ l, hitB (lineOffs [192]) l = true ↔ l = 3 := fun l => by
            rw [lineOffs_hit]; simp; omega
          refine ⟨[(192, c)], [], fun e he => by simpa using he, fun e he => by simp at he, fun i => ?_, fun l => ?_⟩
          · rw [pers]
            show (if hitB (lineOffs [192]) (i / 8) = true then look ((nextX (perH D) (W, lineOffs (W.map (·.1)))).2 (i / 8) ++ filtL [(192, c)] (i / 8)) ((nextX (perH D) (W, lineOffs (W.map (·.1)))).1 i) i else (nextX (perH D) (W, lineOffs (W.map (·.1)))).1 i) = _
            rw [hh1, hp1]
            by_cases e : i / 8 = 3
            · rw [if_pos ((h3 _).2 e), h.log _ (by omega) (by omega), List.nil_append, look_filt]
            · rw [if_neg (fun h' => e ((h3 _).1 h'))]
              show look W (D.pers i) i = if 192 / 8 = i then c else look W (D.pers i) i
              rw [if_neg (by omega)]
          · rw [hist]
            show (if hitB (lineOffs [192]) l = true then [] else (nextX (perH D) (W, lineOffs (W.map (·.1)))).2 l ++ filtL [(192, c)] l) ++ filtL [] l = _
            rw [hh1]
            by_cases e : l = 3
            · rw [if_pos ((h3 _).2 e), e, h.log 3 (by omega) (by omega)]
            · rw [if_neg (fun h' => e ((h3 _).1 h')), filt_nil (ws := [(192, c)]) (fun e' he' h2 => by simp at he'; subst he'; simp at h2; omega)]; simp [filtL]
      obtain ⟨L, M, hL, hM, hp, hh⟩ := hbase
      have hLo : ∀ i, i ≠ 24 → ∀ d, look L d i = d := fun i hi d => look_other _ _ _ (fun e he h2 => by rw [hL e he] at h2; simp at h2; omega)
      have hMf : ∀ l, l ≠ 3 → filtL M l = [] := fun l hl => filt_nil (fun e he h2 => by rw [hM e he] at h2; simp at h2; omega)
      have hout : ∀ i, (i < 24 ∨ 64 ≤ i) → E.img ks i = D.img ks i := fun i hi => by
        rw [himg, hh, hp, hLo i (by omega), hMf _ (by omega), List.append_nil, hlk i (by omega) W (fun e he => he)]; rfl
      have hin : ∀ i, 25 ≤ i → i < 64 → E.img ks i = look W (D.cur i) i := fun i h1 h2 => by
        rw [himg, hh, hp, hLo i (by omega), h.log _ (by omega) (by omega), List.nil_append, h.logw i (by omega) h2]
        exact look_other _ _ _ (fun e he h3 => by rw [hM e (List.mem_filter.1 (List.mem_of_mem_take he)).1] at h3; simp at h3; omega)
      have hc : E.img ks 24 = D.cur 24 ∨ E.img ks 24 = c := by
        rw [himg, hh, hp, hlk 24 (by omega) W (fun e he => he), h.log _ (by omega) (by omega), List.nil_append]
        rcases look_may ((filtL M (24 / 8)).take (ks (24 / 8))) (look L (D.pers 24) 24) 24 with h1 | ⟨e, he, _, h1⟩
        · rw [h1]
          rcases look_may L (D.pers 24) 24 with h2 | ⟨e, he, _, h2⟩
          · rw [h2]; exact .inl (h.logw 24 (by omega) (by omega))
          · rw [h2, hL e he]; exact .inr rfl
        · rw [h1, hM e (List.mem_filter.1 (List.mem_of_mem_take he)).1]; exact .inr rfl
      rcases hc with hc | hc
      · exact key hout (.inl ⟨hc, fun i h1 h2 => by rw [hin i (by omega) (by have := sN_le D.cur; omega)]; exact hlk i (by omega) W (fun e he => he) _⟩)
      · exact key hout (.inr ⟨hc, hin⟩)
/-- Save, wherever the power fails. -/
theorem Al.save (h : Al old D x) {offs : List Nat} (ho : ∀ o ∈ offs, o < 2048) (hg : ∀ o ∈ offs, allowedB 1536 192 5 o = true) (hl : offs.length ≤ 24) (hf : ¬ 16 < sN D.cur + (fL D.cur offs).length) :
    ((D.run 0 (planP 192 (sN D.cur) (fL D.cur offs))).err 0 = 0 ∧ Al old (D.run 0 (planP 192 (sN D.cur) (fL D.cur offs))) (x + 100) ∧ (∀ o ∈ offs, ∃ e ∈ savedL (D.run 0 (planP 192 (sN D.cur) (fL D.cur offs))).cur 192 5, e.1 = o) ∧ ∀ i, (i < 24 ∨ 64 ≤ i) → (D.run 0 (planP 192 (sN D.cur) (fL D.cur offs))).cur i = D.cur i) ∨
    ((D.run 0 (planP 192 (sN D.cur) (fL D.cur offs))).err 0 = 3 ∧ Dd old (D.run 0 (planP 192 (sN D.cur) (fL D.cur offs))) (x + 100)) := by
  have hln := planP_len 192 (sN D.cur) (fL D.cur offs)
  have hfl := fL_len D.cur offs
  have hex := D.run_exec 0 (planP 192 (sN D.cur) (fL D.cur offs))
  have hx := h.exec
  rw [plan_groups] at *
  have hvp := planGs_val (off := 192) (fL_in D.cur offs h.vb.cur ho) (s := sN D.cur) (by omega)
  have hvb := Dev.VB.run _ h.vb 0 hvp
  have hn : (D.run 0 (groupsP (planGs 192 (sN D.cur) (fL D.cur offs)))).n = 24 := (Dev.run_n 0 _ _).trans h.on.n
  have himg := fun a ws le pre pers hist ks => h.plan_img hg hf (E := D.run 0 (groupsP (planGs 192 (sN D.cur) (fL D.cur offs)))) (a := a) (ws := ws) le pre pers hist ks
  have hcame := runX_came h.gx (plan_fit hf)
  generalize hE : D.run 0 (groupsP (planGs 192 (sN D.cur) (fL D.cur offs))) = E at *
  rcases hcame with ⟨h1, _, _⟩ | ⟨hoff, he, _, a, ws, le, pre, pers, hist, _, _⟩
  · left
    have hcur : ∀ i, E.cur i = look (if fL D.cur offs = [] then [] else planWs (192 + 64 + 16 * sN D.cur) (fL D.cur offs) ++ [(192, ((sN D.cur + (fL D.cur offs).length : Nat) : Int))]) (D.cur i) i := fun i => by
      rw [h1.cur, curX_laid, planGs_flat]; rfl
    obtain ⟨hs, _, _⟩ := saved_plan (C := D.cur) h.fitc.c0 h.fitc.c1 (by omega) hcur
    have hh : ∀ l, E.hist l ≠ [] → D.hist l ≠ [] := fun l hl => by
      rw [h1.hist l] at hl
      simp only [filtL, List.filter_nil, List.append_nil] at hl
      exact plan_hist (s := perH D) _ _ _ _ hl
    refine ⟨h1.on.err, ⟨⟨h1.on.n, h1.on.off, h1.on.err⟩, fun l => h1.no l (by simp), by omega, hvb, fun l h3 h8 => ?_, fun l hl => ?_, fun ks => ?_⟩, fun o hm => ?_, fun i hi => ?_⟩
    · by_cases hd : E.hist l = []
      · exact hd
      · exact absurd (h.log l h3 h8) (hh l hd)
    · obtain ⟨e, he, h2⟩ := h.hist l (hh l hl)
      exact ⟨e, by rw [hs]; exact List.mem_append_left _ he, h2⟩
    · exact himg _ [] (Nat.le_refl _) ⟨[], by rw [List.getElem?_eq_none (Nat.le_refl _)]; rfl⟩ (fun i => by rw [List.take_length]; exact h1.pers i) (fun l => by rw [List.take_length]; exact h1.hist l) ks
    · rw [hs]
      rcases freshL_all D.cur ((savedL D.cur 192 5).map (·.1)) offs o hm with h2 | h2
      · obtain ⟨e, he, rfl⟩ := List.mem_map.1 h2
        exact ⟨e, List.mem_append_left _ he, rfl⟩
      · obtain ⟨e, he, rfl⟩ := List.mem_map.1 h2
        exact ⟨e, List.mem_append_right _ he, rfl⟩
    · rw [hcur]
      refine look_other _ _ _ (fun e he h2 => ?_)
      split at he
      · simp at he
      · rcases List.mem_append.1 he with he | he
        · have := plan_lines (k := sN D.cur) (F := fL D.cur offs) (by omega) e he; omega
        · simp at he; subst he; simp at h2; omega
  · exact .inr ⟨he, hn, hoff, he, by omega, hvb, fun ks => (himg a ws le pre pers hist ks).res⟩
/-- A store to a word that is saved, wherever the power fails. -/
theorem Al.store (h : Al old D x) (o : Nat) (v : Int) (hs : ∃ e ∈ savedL D.cur 192 5, e.1 = o) (hv : 0 ≤ v ∧ v < 18446744073709551616) :
    (Al old (D.store 0 o v) (x + 1) ∧ savedL (D.store 0 o v).cur 192 5 = savedL D.cur 192 5 ∧ ∀ i, (D.store 0 o v).cur i = if o / 8 = i then v else D.cur i) ∨ Dd old (D.store 0 o v) (x + 1) := by
  obtain ⟨e0, he0, heo⟩ := hs
  have hao := allowed_out (heo ▸ h.fitc.ok e0 he0)
  have hx := h.exec
  have hex : (D.store 0 o v).exec ≤ D.exec + 1 := D.step_exec 0 (1, o, v)
  have hvb : (D.store 0 o v).VB := h.vb.step 0 (1, o, v) (fun _ => hv)
  by_cases hm : D.may (0 + 1)
  · left
    obtain ⟨g, _⟩ := h.gx.store hm o v hao.1 (by omega)
    have hh : ∀ l, (D.store 0 o v).hist l = D.hist l ++ filtL [(o, v)] l := fun l => by rw [g.hist]; rfl
    have hcur : ∀ i, (D.store 0 o v).cur i = if o / 8 = i then v else D.cur i := fun i => by
      unfold Dev.cur
      rw [g.pers, hh, look_append, look_filt]
      rfl
    have hsv : savedL (D.store 0 o v).cur 192 5 = savedL D.cur 192 5 := savedL_congr (fun i h1 h2 => by rw [hcur, if_neg (by omega)])
    have hfo : ∀ l, l ≠ o / 64 → filtL [(o, v)] l = [] := fun l hl => filt_nil (fun e he h2 => by simp at he; subst he; exact hl h2.symm)
    refine ⟨⟨⟨g.on.n, g.on.off, g.on.err⟩, fun l => g.no l (by simp), by omega, hvb, fun l h1 h2 => ?_, fun l hl => ?_, fun ks => ?_⟩, hsv, hcur⟩
    · rw [hh, h.log l h1 h2, List.nil_append]; exact hfo l (by omega)
    · rw [hsv]
      rw [hh] at hl
      by_cases hd : D.hist l = []
      · refine ⟨e0, he0, ?_⟩
        by_cases e : l = o / 64
        · rw [heo]; exact e.symm
        · rw [hd, hfo l e] at hl; exact absurd rfl hl
      · exact h.hist l hd
    · have hi : ∀ i, o / 8 ≠ i → (D.store 0 o v).img ks i = D.img ks i := fun i hi => by
        unfold Dev.img
        rw [g.pers, hh]
        show look ((D.hist (i / 8) ++ filtL [(o, v)] (i / 8)).take (ks (i / 8))) (D.pers i) i = _
        rw [List.take_append, look_append]
        exact look_other _ _ _ (fun e he h2 => by
          have := (List.mem_filter.1 (List.mem_of_mem_take he)).1
          simp at this; subst this; exact hi h2)
      have h24 : (D.store 0 o v).img ks 24 = D.img ks 24 := hi 24 (by omega)
      have hss : savedL ((D.store 0 o v).img ks) 192 5 = savedL (D.img ks) 192 5 := savedL_congr (fun i h1 h2 => hi i (by omega))
      refine (h.fit ks).congr h24 hss (fun i _ hn => hi i (fun e => ?_))
      rw [h.imgs ks] at hn
      exact hn e0 he0 (by rw [heo]; exact e)
  · right
    have ha : D.armed = true := by
      cases e : D.armed
      · exact absurd (.inl e) hm
      · rfl
    have hl : D.left = 0 := by
      have : ¬ (0 + 1 ≤ D.left) := fun h' => hm (.inr h')
      omega
    have hst : D.store 0 o v = ({ D with off := true } : Dev).setErr 0 3 := step_cut (e := (1, o, v)) h.on ha hl (.inl ⟨rfl, hao.1, by show o < 64 * 24; omega⟩)
    refine ⟨by rw [hst]; exact h.on.n, by rw [hst]; rfl, by rw [hst]; rfl, by omega, hvb, fun ks => ?_⟩
    have : (D.store 0 o v).img ks = D.img ks := by rw [hst]; rfl
    rw [this]; exact (h.fit ks).res
theorem Dd.store (h : Dd old D x) (o : Nat) (v : Int) (ho : o % 8 = 0 ∧ o < 1536) : D.store 0 o v = D :=
  step_off (n := 24) (e := (1, o, v)) h.off (by rw [h.err]; decide) h.n (.inl ⟨rfl, ho.1, by show o < 64 * 24; omega⟩)
/-- Commit, wherever the power fails. -/
theorem Al.commit (h : Al old D x) :
    let E := D.run 0 (commitP 192 (savedL D.cur 192 5) (validL 1536 192 5 (savedL D.cur 192 5)))
    E.n = 24 ∧ E.VB ∧ E.exec ≤ x + 100 ∧ ((E.err 0 = 0 ∧ ∀ ks, OutEq (resC (E.img ks)) D.cur) ∨ (E.err 0 = 3 ∧ ∀ ks, OutEq (resC (E.img ks)) old ∨ OutEq (resC (E.img ks)) D.cur)) := by
  intro E
  have hV : validL 1536 192 5 (savedL D.cur 192 5) = savedL D.cur 192 5 := h.fitc.vls
  have hE : E = D.run 0 (groupsP (commitGs 192 (savedL D.cur 192 5) (savedL D.cur 192 5))) := by
    show D.run 0 (commitP 192 (savedL D.cur 192 5) (validL 1536 192 5 (savedL D.cur 192 5))) = _
    rw [hV, commit_groups]
  have hsl := savedL_le D.cur
  have hgl : (groupsP (commitGs 192 (savedL D.cur 192 5) (savedL D.cur 192 5))).length ≤ 100 := by
    rw [← commit_groups]
    unfold commitP
    split
    · simp
    · have a1 := flushL_len ((savedL D.cur 192 5).map (·.1)); have a2 := store1_len 192 0
      rw [List.length_map] at a1
      rw [List.length_append]; omega
  have hgo : ∀ g ∈ commitGs 192 (savedL D.cur 192 5) (savedL D.cur 192 5), groupOkX 24 g := commitGs_ok (by omega) (by omega) (fun e he => by have := allowed_out (h.fitc.ok e he); omega)
  have hgv : valP (groupsP (commitGs 192 (savedL D.cur 192 5) (savedL D.cur 192 5))) := valP_groups (fun e he => by
    rw [commitGs_flat] at he
    split at he
    · simp at he
    · simp at he; subst he; simp)
  have hx := h.exec
  have hex := D.run_exec 0 (groupsP (commitGs 192 (savedL D.cur 192 5) (savedL D.cur 192 5)))
  have hvb := Dev.VB.run _ h.vb 0 hgv
  have hn : (D.run 0 (groupsP (commitGs 192 (savedL D.cur 192 5) (savedL D.cur 192 5)))).n = 24 := (Dev.run_n 0 _ _).trans h.on.n
  rw [← hE] at hex hvb hn
  refine ⟨hn, hvb, by omega, ?_⟩
  -- the words with the count 0
  have hz : ∀ g : Nat → Int, g 24 = 0 → (∀ i, i ≠ 24 → g i = D.cur i) → OutEq (resC g) D.cur := fun g h0 hg => by
    have hr : ∀ i, resC g i = g i := fun i => by unfold resC; rw [if_pos (saved0 h0)]; rfl
    exact ⟨by rw [hr]; exact h0, fun i hi => by rw [hr]; exact hg i (by omega)⟩
  by_cases hS : savedL D.cur 192 5 = []
  · have hg0 : commitGs 192 (savedL D.cur 192 5) (savedL D.cur 192 5) = [] := by unfold commitGs; rw [if_pos hS]
    rw [hg0] at hE
    have hED : E = D := hE
    left
    rw [hED]
    refine ⟨h.on.err, fun ks => ?_⟩
    have hD : ∀ i, (i < 24 ∨ 64 ≤ i) → D.img ks i = D.cur i := fun i hi => by
      rw [(h.fit ks).rest i hi (fun e he => by rw [h.imgs ks, hS] at he; simp at he), h.fitc.rest i hi (fun e he => by rw [hS] at he; simp at he)]
    have hr : ∀ i, resC (D.img ks) i = D.img ks i := fun i => by unfold resC; rw [if_pos (by rw [h.imgs ks]; exact hS)]; rfl
    exact ⟨by rw [hr, h.imgw ks 24 (by omega) (by omega)]; exact saved_cnt h.fitc.c0 h.fitc.c1 hS, fun i hi => by rw [hr]; exact hD i hi⟩
  · have hne : (savedL D.cur 192 5).map (·.1) ≠ [] := fun e => hS (by simpa using e)
    have hgs : commitGs 192 (savedL D.cur 192 5) (savedL D.cur 192 5) = [([], lineOffs ((savedL D.cur 192 5).map (·.1))), ([(192, (0 : Int))], lineOffs [192])] := by
      unfold commitGs flushGs storesGs
      rw [if_neg hS, if_neg hne, if_neg (by simp)]; rfl
    have hcame := runX_came h.gx hgo
    rw [← hE, hgs] at hcame
    have hhit : ∀ l, D.hist l ≠ [] → hitB (lineOffs ((savedL D.cur 192 5).map (·.1))) l = true := fun l hl => by
      obtain ⟨e, he, h2⟩ := h.hist l hl
      exact (lineOffs_hit _ _).2 ⟨e.1, List.mem_map.2 ⟨e, he, rfl⟩, h2⟩
    have hp1 : ∀ i, (nextX (perH D) ([], lineOffs ((savedL D.cur 192 5).map (·.1)))).1 i = D.cur i := fun i => by
      show (if hitB (lineOffs ((savedL D.cur 192 5).map (·.1))) (i / 8) = true then look (D.hist (i / 8) ++ filtL [] (i / 8)) (D.pers i) i else D.pers i) = look (D.hist (i / 8)) (D.pers i) i
      split
      · simp [filtL]
      · rename_i hb
        have : D.hist (i / 8) = [] := by
          by_cases hd : D.hist (i / 8) = []
          · exact hd
          · exact absurd (hhit _ hd) hb
        rw [this]; rfl
    have hh1 : ∀ l, (nextX (perH D) ([], lineOffs ((savedL D.cur 192 5).map (·.1)))).2 l = [] := fun l => by
      show (if hitB (lineOffs ((savedL D.cur 192 5).map (·.1))) l = true then [] else D.hist l ++ filtL [] l) = []
      split
      · rfl
      · rename_i hb
        by_cases hd : D.hist l = []
        · rw [hd]; rfl
        · exact absurd (hhit _ hd) hb
    have h3 : ∀ l, hitB (lineOffs [192]) l = true ↔ l = 3 := fun l => by
      rw [lineOffs_hit]; simp; omega
    have hp2 : ∀ i, (nextX (nextX (perH D) ([], lineOffs ((savedL D.cur 192 5).map (·.1)))) ([(192, (0 : Int))], lineOffs [192])).1 i = if i = 24 then 0 else D.cur i := fun i => by
      show (if hitB (lineOffs [192]) (i / 8) = true then look ((nextX (perH D) ([], lineOffs ((savedL D.cur 192 5).map (·.1)))).2 (i / 8) ++ filtL [(192, (0 : Int))] (i / 8)) ((nextX (perH D) ([], lineOffs ((savedL D.cur 192 5).map (·.1)))).1 i) i else (nextX (perH D) ([], lineOffs ((savedL D.cur 192 5).map (·.1)))).1 i) = _
      rw [hh1, hp1, List.nil_append, look_filt]
      have hlk : look [(192, (0 : Int))] (D.cur i) i = if i = 24 then 0 else D.cur i := by
        show (if 192 / 8 = i then (0 : Int) else D.cur i) = _
        by_cases e : i = 24
        · subst e; rfl
        · rw [if_neg (by omega), if_neg e]
      split
      · exact hlk
      · rename_i hb
        rw [if_neg (fun e => hb ((h3 _).2 (by omega)))]
    have hh2 : ∀ l, (nextX (nextX (perH D) ([], lineOffs ((savedL D.cur 192 5).map (·.1)))) ([(192, (0 : Int))], lineOffs [192])).2 l = [] := fun l => by
      show (if hitB (lineOffs [192]) l = true then [] else (nextX (perH D) ([], lineOffs ((savedL D.cur 192 5).map (·.1)))).2 l ++ filtL [(192, (0 : Int))] l) = []
      rw [hh1, List.nil_append]
      split
      · rfl
      · rename_i hb
        exact filt_nil (fun e he h2 => by simp at he; subst he; exact hb ((h3 _).2 (by simp at h2; omega)))
    have himg : ∀ ks i, E.img ks i = look ((E.hist (i / 8)).take (ks (i / 8))) (E.pers i) i := fun _ _ => rfl
    rcases hcame with ⟨h1, _, _⟩ | ⟨_, he, _, a, ws, le, pre, pers, hist, _, _⟩
    · left
      refine ⟨h1.on.err, fun ks => hz _ ?_ (fun i hi => ?_)⟩
      · rw [himg, h1.hist, h1.pers]
        show look (((nextX (nextX (perH D) ([], lineOffs ((savedL D.cur 192 5).map (·.1)))) ([(192, (0 : Int))], lineOffs [192])).2 (24 / 8) ++ filtL [] (24 / 8)).take _) ((nextX (nextX (perH D) ([], lineOffs ((savedL D.cur 192 5).map (·.1)))) ([(192, (0 : Int))], lineOffs [192])).1 24) 24 = 0
        rw [hh2, hp2]; simp [filtL, look]
      · rw [himg, h1.hist, h1.pers]
        show look (((nextX (nextX (perH D) ([], lineOffs ((savedL D.cur 192 5).map (·.1)))) ([(192, (0 : Int))], lineOffs [192])).2 (i / 8) ++ filtL [] (i / 8)).take _) ((nextX (nextX (perH D) ([], lineOffs ((savedL D.cur 192 5).map (·.1)))) ([(192, (0 : Int))], lineOffs [192])).1 i) i = _
        rw [hh2, hp2, if_neg hi]; simp [filtL, look]
    · right
      refine ⟨he, fun ks => ?_⟩
      obtain ⟨t, ht⟩ := pre
      have hle : a = 0 ∨ a = 1 ∨ a = 2 := by simp at le; omega
      rcases hle with ha | ha | ha
      · subst ha
        have hw : ws = [] := (List.append_eq_nil_iff.1 (show ws ++ t = [] by simpa using ht.symm)).1
        subst hw
        have : E.img ks = D.img ks := by
          funext i
          rw [himg, pers, hist]
          show look (((perH D).2 (i / 8) ++ filtL [] (i / 8)).take _) ((perH D).1 i) i = _
          simp [filtL, perH, Dev.img]
        rw [this]
        exact .inl (h.fit ks).res
      · subst ha
        have htw : [(192, (0 : Int))] = ws ++ t := by simpa using ht
        have hw : ∀ e ∈ ws, e = (192, (0 : Int)) := fun e he => by
          have : e ∈ [(192, (0 : Int))] := by rw [htw]; exact List.mem_append_left _ he
          simpa using this
        have hp : ∀ i, E.pers i = D.cur i := fun i => by rw [pers]; exact hp1 i
        have hh : ∀ l, E.hist l = filtL ws l := fun l => by
          rw [hist]
          show (nextX (perH D) ([], lineOffs ((savedL D.cur 192 5).map (·.1)))).2 l ++ filtL ws l = _
          rw [hh1]; rfl
        have hne24 : ∀ i, i ≠ 24 → E.img ks i = D.cur i := fun i hi => by
          rw [himg, hh, hp]
          exact look_other _ _ _ (fun e he h2 => by rw [hw e (List.mem_filter.1 (List.mem_of_mem_take he)).1] at h2; simp at h2; omega)
        rcases look_may ((E.hist (24 / 8)).take (ks (24 / 8))) (E.pers 24) 24 with h1 | ⟨e, he, _, h1⟩
        · left
          have : E.img ks = D.cur := by
            funext i
            by_cases e : i = 24
            · subst e; rw [himg, h1, hp]
            · exact hne24 i e
          rw [this]; exact h.fitc.res
        · right
          refine hz _ ?_ hne24
          rw [himg, h1]
          rw [hh] at he
          rw [hw e (List.mem_filter.1 (List.mem_of_mem_take he)).1]
      · subst ha
        have hw : ws = [] := (List.append_eq_nil_iff.1 (show ws ++ t = [] by simpa using ht.symm)).1
        subst hw
        right
        have hi : ∀ i, E.img ks i = if i = 24 then 0 else D.cur i := fun i => by
          rw [himg, pers, hist]
          show look (((nextX (nextX (perH D) ([], lineOffs ((savedL D.cur 192 5).map (·.1)))) ([(192, (0 : Int))], lineOffs [192])).2 (i / 8) ++ filtL [] (i / 8)).take _) ((nextX (nextX (perH D) ([], lineOffs ((savedL D.cur 192 5).map (·.1)))) ([(192, (0 : Int))], lineOffs [192])).1 i) i = _
          rw [hh2, hp2]; simp [filtL, look]
        exact hz _ (by rw [hi, if_pos rfl]) (fun i h2 => by rw [hi, if_neg h2])
end
end Go.Proofs.YtokgplgdaememaaDoor

/- slices.Equal of words and the law's outside: they only read. -/
namespace Go.Proofs.YtokgplgdaememaaDoor
open Go.RowKit Go.Maps
attribute [local go_sem ↓] Go.wp_at_zero Go.wp_at_succ
section
variable {w : World}
theorem Kp.poke {own : Nat → Option Role} {wc w1 : World} {s g m : Nat} {sv : Value} {xs : List Value} (h : Kp own wc s sv m xs) (hu : Upd (fun k => k = g) wc w1) (hg : sv.ownBlock ≠ some g) : Kp own w1 s sv m xs :=
  ⟨h.rd.upd hu (fun k hk e => hg (by rw [hk, e])), fun k hk => ⟨(h.fr k hk).1, Nat.lt_of_lt_of_le (h.fr k hk).2 hu.size⟩⟩
set_option maxRecDepth 100000 in
set_option maxHeartbeats 1000000 in
theorem equalU_quiet (u v : Value) (xs ys : List Int) (hx : RdSl w 1 u xs.length (intsU xs)) (hy : RdSl w 1 v ys.length (intsU ys)) (hl : xs.length ≤ 4611686018) (_hl2 : ys.length ≤ 4611686018) :
    Calls Tryd.prog 31 #[u, v] w fun r w' => r = .returned (.bool (decide (xs = ys))) ∧ ∃ q, w' = w.drewN q := by
  obtain ⟨_, a, ca, rfl, hca, ha⟩ := hx
  obtain ⟨_, b, cb, rfl, hcb, hb⟩ := hy
  have HA := Lib.hid ha; have HB := Lib.hid hb; clear ha hb
  by_cases hlen : xs.length = ys.length
  · have hne : ((xs.length : Int) != (ys.length : Int)) = false := by simp; omega
    have Hlen := Lib.hid hlen
    go_enter Tryd.func31, Tryd.ntmps31
    clear hlen
    go_wp2_with fail
    go_loopw [13] (fun i wr => ∃ k : Nat, k ≤ xs.length ∧ i = .int .i64 k ∧ xs.take k = ys.take k ∧ ∃ q, wr = w.drewN q) (fun i _ => xs.length - (intOf i).toNat)
    case atStart => exact ⟨0, Nat.zero_le _, rfl, rfl, 0, rfl⟩
    case round =>
      obtain ⟨k, hk, rfl, heq, q, rfl⟩ := hrel
      have Heq := Lib.hid heq; clear heq
      by_cases hlt : k < xs.length
      · obtain ⟨x, hx⟩ : ∃ x, xs[k]? = some x := ⟨_, List.getElem?_eq_getElem hlt⟩
        obtain ⟨y, hy⟩ : ∃ y, ys[k]? = some y := ⟨_, List.getElem?_eq_getElem (by rw [← Hlen.out]; exact hlt)⟩
        obtain ⟨ba, oa, rfl, hca'⟩ := rd_at HA.out (intsU_get xs k x hx)
        obtain ⟨bb, ob, rfl, hcb'⟩ := rd_at HB.out (intsU_get ys k y hy)
        have e1 := hca' _ _ (intsU_get xs k x hx)
        have e2 := hcb' _ _ (intsU_get ys k y hy)
        have hlt2 : (k : Int) < ys.length := by have := Hlen.out; omega
        have hlt1 : (k : Int) < xs.length := by omega
        have Hx := Lib.hid hx; have Hy := Lib.hid hy
        clear hca' hcb' hx hy
        go_wp2_with fail
        go_quiet (fail)
        by_cases hxy : x = y
        · have hb : (x != y) = false := by simp [hxy]
          have Hxy := Lib.hid hxy; clear hxy
          go_wp2_with fail
          go_roundw
          case rel => exact ⟨k + 1, by omega, by go_num, by rw [List.take_add_one, List.take_add_one, Hx.out, Hy.out, Heq.out, Hxy.out], _, rfl⟩
          case measure => simp [intOf]; omega
        · have hb : (x != y) = true := by simp [hxy]
          have Hd : Hid (decide (xs = ys) = false) := by
            show decide (xs = ys) = false
            simp; intro h; apply hxy
            have h1 := Hx.out; rw [h, Hy.out] at h1; exact (Option.some.inj h1).symm
          clear hxy
          go_wp2_with fail
          go_ret
          exact ⟨ret_bool Hd.out.symm, _, World.drewN_drewN _ _ _⟩
      · have Hd : Hid (decide (xs = ys) = true) := by
          show decide (xs = ys) = true
          have h1 := Heq.out
          rw [List.take_of_length_le (by omega), List.take_of_length_le (by have := Hlen.out; omega)] at h1
          simp [h1]
        go_wp2_with fail
        go_ret
        exact ⟨ret_bool Hd.out.symm, _, rfl⟩
  · have hne : ((xs.length : Int) != (ys.length : Int)) = true := by simp; omega
    have hd : decide (xs = ys) = false := by simp; intro h; exact hlen (by rw [h])
    have Hd := Lib.hid hd; clear hd hlen
    go_enter Tryd.func31, Tryd.ntmps31
    go_wp2_with fail
    go_ret
    exact ⟨ret_bool Hd.out.symm, 0, rfl⟩
/-- The law's outside, on words. -/
def outB (f g : Nat → Int) : Bool := decide (getL f 24 = getL g 24) && (decide ((getL f 192).drop 64 = (getL g 192).drop 64) && (f 24 == 0))
theorem getL_get (f : Nat → Int) (n i : Nat) (h : i < n) : (getL f n)[i]? = some (f i) := by
  unfold getL
  rw [List.getElem?_map, List.getElem?_range h]; rfl
theorem outB_of {f g : Nat → Int} (h : OutEq f g) : outB f g = true := by
  unfold outB
  have h1 : getL f 24 = getL g 24 := by
    unfold getL
    exact List.map_congr_left (fun i hi => h.2 i (.inl (List.mem_range.1 hi)))
  have h2 : (getL f 192).drop 64 = (getL g 192).drop 64 := by
    refine List.ext_getElem? fun k => ?_
    rw [List.getElem?_drop, List.getElem?_drop]
    by_cases hk : 64 + k < 192
    · rw [getL_get f 192 _ hk, getL_get g 192 _ hk, h.2 _ (.inr (by omega))]
    · rw [List.getElem?_eq_none (by rw [getL_len]; omega), List.getElem?_eq_none (by rw [getL_len]; omega)]
  simp [h1, h2, h.1]
set_option maxRecDepth 100000 in
set_option maxHeartbeats 4000000 in
theorem l16outside_any (h : Wh w) {ga gb : Nat} {f g : Nat → Int} (ha : RdSl w 1 (.slice (some ⟨ga, 0, none⟩) 192 192) 192 (intsU (getL f 192))) (hb : RdSl w 1 (.slice (some ⟨gb, 0, none⟩) 192 192) 192 (intsU (getL g 192))) :
    Calls Tryd.prog 50 #[.slice (some ⟨ga, 0, none⟩) 192 192, .slice (some ⟨gb, 0, none⟩) 192 192] w fun r w' => r = .returned (.bool (outB f g)) ∧ ∃ q, w' = w.drewN q := by
  have t1 := ha.takeG 24 (by omega); have t2 := hb.takeG 24 (by omega)
  have d1 := ha.dropG 64 (by omega); have d2 := hb.dropG 64 (by omega)
  have et : ∀ f : Nat → Int, (intsU (getL f 192)).take (24 * 1) = intsU (getL f 24) := fun f => by
    refine List.ext_getElem? fun k => ?_
    simp only [intsU, getL, List.map_map, ← List.map_take, List.getElem?_map, List.take_range]
    rw [show min (24 * 1) 192 = 24 from rfl]
  have ed : ∀ f : Nat → Int, (intsU (getL f 192)).drop (64 * 1) = intsU ((getL f 192).drop 64) := fun f => by unfold intsU; rw [List.map_drop]
  have eL : ∀ f : Nat → Int, ((getL f 192).drop 64).length = 128 := fun f => by rw [List.length_drop, getL_len]
  rw [et] at t1 t2
  rw [ed] at d1 d2
  have H1 := Lib.hid (fun p q => equalU_quiet (w := (w.drewN p).drewN q) (.slice (some ⟨ga, 0, none⟩) 24 192) (.slice (some ⟨gb, 0, none⟩) 24 192) (getL f 24) (getL g 24) (by rw [getL_len]; exact t1.kept (fun _ _ _ => rfl)) (by rw [getL_len]; exact t2.kept (fun _ _ _ => rfl)) (by rw [getL_len]; omega) (by rw [getL_len]; omega))
  have H2 := Lib.hid (fun p q => equalU_quiet (w := (w.drewN p).drewN q) (.slice (some ⟨ga, 64, none⟩) 128 128) (.slice (some ⟨gb, 64, none⟩) 128 128) ((getL f 192).drop 64) ((getL g 192).drop 64) (by rw [eL]; exact d1.kept (fun _ _ _ => rfl)) (by rw [eL]; exact d2.kept (fun _ _ _ => rfl)) (by rw [eL]; omega) (by rw [eL]; omega))
  have hc : w.cell? ⟨ga, 24, none⟩ = some (.int .u64 (f 24)) := by
    obtain ⟨_, a, c, e, _, hE⟩ := ha
    cases e
    rcases hE with hE | ⟨b, o, e, hE⟩
    · cases hE
    · cases e
      have := hE 24 _ (by simp only [intsU, List.getElem?_map, getL_get f 192 24 (by omega)]; rfl)
      simpa using this
  obtain ⟨g0, g1, g2⟩ := h.all'
  have HO : Hid (outB f g = (decide (getL f 24 = getL g 24) && (decide ((getL f 192).drop 64 = (getL g 192).drop 64) && (f 24 == 0)))) := rfl
  clear ha hb t1 t2 d1 d2 et ed eL h
  generalize outB f g = ob at *
  generalize decide (getL f 24 = getL g 24) = b1 at *
  generalize decide ((getL f 192).drop 64 = (getL g 192).drop 64) = b2 at *
  generalize hz : (f 24 == 0) = b3 at *
  go_enter Tryd.func50, Tryd.ntmps50
  go_wp2_with fail
  go_quiet (fail)
  have K1 := Lib.hid (fun q => H1.out nq q); have K2 := Lib.hid (fun q => H2.out nq q)
  have kc : (w.drewN nq).cell? ⟨ga, 24, none⟩ = some (.int .u64 (f 24)) := hc
  have HQ : Hid (∀ q, ∃ p, (w.drewN nq).drewN q = w.drewN p) := fun q => ⟨_, World.drewN_drewN _ _ _⟩
  clear H1 H2 hc g0 g1 g2
  generalize w.drewN nq = wd at *
  go_wp2_with fail
  cases b1
  · go_quiet (first | (go_at_call 31; exact Calls.quiet_of (K1.out _)))
    go_wp2_with fail
    go_ret
    exact ⟨by rw [HO.out]; rfl, HQ.out _⟩
  · cases b2
    · go_quiet (first | (go_at_call 31; with_reducible exact Calls.quiet_of (K1.out _)) | (go_at_call 31; with_reducible exact Calls.quiet_of (K2.out _)))
      go_wp2_with fail
      go_ret
      exact ⟨by rw [HO.out]; rfl, HQ.out _⟩
    · cases b3
      · go_quiet (first | (go_at_call 31; with_reducible exact Calls.quiet_of (K1.out _)) | (go_at_call 31; with_reducible exact Calls.quiet_of (K2.out _)))
        go_wp2_with fail
        go_ret
        exact ⟨by rw [HO.out]; rfl, HQ.out _⟩
      · go_quiet (first | (go_at_call 31; with_reducible exact Calls.quiet_of (K1.out _)) | (go_at_call 31; with_reducible exact Calls.quiet_of (K2.out _)))
        go_wp2_with fail
        go_ret
        exact ⟨by rw [HO.out]; rfl, HQ.out _⟩
end
end Go.Proofs.YtokgplgdaememaaDoor

/- Arguments opened: structs of one-cell fields, slices of numbers, bytes. For seats without package leaf. -/
namespace Go.Proofs.YtokgplgdaememaaDoor
open Go.ChangeShapes Go.WideShapes Go.ChangeAt Go.RowKit Go.Joins Go.Deep

section
variable {H : Type} {enc : TypeId × Value → H} {P : Program}
/-- A struct of one-cell fields, by value, opened: each field's value and its reading. -/
theorem open_fields {W : World} {base b : Nat} {sp : Nat → Bool} {hd : Bool} {r : Reach} {t : TypeId} {fs : Array Field} {v : Value} {d : DataW H} {p : List MemPlace} (hs : P.underlying t = some (.struct fs)) (hone : oneCellFields P fs = true)
    (hC : P.cellsOf t = fs.size) (hv : Value.okWide P W r b t v) (h : DataW.Trod enc P W base sp hd t v d p) :
    ∃ (l : List Value) (n : Nat), v = .agg l.toArray ∧ l.length = fs.size ∧ ∀ (j : Nat) (f : Field), fs[j]? = some f → ∃ (c : Value) (y : DataW H × List MemPlace), l[j]? = some c ∧ DataW.trod enc P W base sp hd n f.type [c] = some y := by
  obtain ⟨cs, rfl, hsz⟩ := okWide_struct hs hv
  obtain ⟨l⟩ := cs
  obtain ⟨fuel, hf⟩ := h
  obtain ⟨xs, n, _, hx, _, hlen, hg⟩ := DataW.trod_struct hs hf
  have hl : l.length = fs.size := by simpa using hsz.trans hC
  refine ⟨l, n, rfl, hl, fun j f hj => ?_⟩
  obtain ⟨ho, hk⟩ := hone_of hone j f hj
  have hjl : j < fs.size := (Array.getElem?_eq_some_iff.1 hj).1
  have h1 := hg j f hj
  rw [ho, hk] at h1
  have hone' : (l.drop j).take 1 = [l[j]'(by omega)] := by
    rw [List.drop_eq_getElem_cons (by omega)]; rfl
  have hys : xs[j]? = some (xs[j]'(by omega)) := List.getElem?_eq_getElem (by omega)
  refine ⟨l[j]'(by omega), xs[j]'(by omega), List.getElem?_eq_getElem (by omega), ?_⟩
  rw [← hys, ← h1, ← hone']
  rfl
/-- A slice of numbers that came in. -/
theorem open_nums {W : World} {base : Nat} {sp : Nat → Bool} {hd : Bool} {t e : TypeId} {k : IntKind} {fuel : Nat} {v : Value} {x : DataW H × List MemPlace} (ht : P.underlying t = some (.slice e)) (he : P.underlying e = some (.int k)) (hc : P.cellsOf e = 1)
    (hf : DataW.trod enc P W base sp hd fuel t [v] = some x) :
    ∃ (a : Option Addr) (c : Nat) (xs : List Int), v = .slice a xs.length c ∧ RdSl W 1 (.slice a xs.length c) xs.length (xs.map fun n => .int k n) ∧ xs.length ≤ maxLen ∧ ∀ n ∈ xs, (Lit.int k n).wf = true := by
  rcases open_ints ht he hc hf with ⟨hcs, _⟩ | ⟨a, len', cap', zs, hcs, _, hl, hm, hz, _, hcell, hwf⟩
  · simp at hcs
    subst hcs
    exact ⟨none, 0, [], rfl, (OwnSl.nil W 0 1).rd, by simp, by simp⟩
  · simp at hcs
    subst hcs
    have hlen : (zs.take len').length = len' := by
      rw [List.length_take, hz]; split <;> omega
    refine ⟨some a, cap', zs.take len', by rw [hlen], ?_, by omega, fun n hn => hwf n (List.mem_of_mem_take hn)⟩
    rw [hlen]
    refine ⟨by rw [List.length_map, hlen, Nat.mul_one], some a, cap', rfl, hl, ?_⟩
    by_cases h0 : len' = 0
    · left; simp [h0]
    · have hz1 : len' ≤ zs.length := by rw [hz]; split <;> omega
      have c0 := hcell 0 (by omega)
      have hsp := World.cell?_spot c0
      simp only [Addr.add, if_true] at hsp
      refine .inr ⟨a.block, a.off, by rw [← hsp], fun j u hu => ?_⟩
      have hj : j < len' := by
        rcases Nat.lt_or_ge j len' with h | h
        · exact h
        · rw [List.getElem?_eq_none (by simp; omega)] at hu; cases hu
      have hcj := hcell j (by omega)
      have ea : a.add j = ⟨a.block, a.off + j, none⟩ := by
        unfold Addr.add; split
        · rename_i e; subst e; rw [← hsp]; rfl
        · rfl
      rw [← ea, hcj]
      simp only [List.getElem?_map, List.getElem?_take, if_pos hj] at hu
      rw [List.getElem?_eq_getElem (by omega)] at hu
      rw [List.getD, List.getElem?_eq_getElem (by omega)]
      simpa using hu
theorem addr_flat {W : World} {a : Addr} {u : Value} (h : W.cell? (a.add 0) = some u) : a = ⟨a.block, a.off, none⟩ ∧ ∀ j, a.add j = ⟨a.block, a.off + j, none⟩ := by
  have hsp := World.cell?_spot h
  simp only [Addr.add, if_true] at hsp
  have e : a = ⟨a.block, a.off, none⟩ := by rw [← hsp]
  refine ⟨e, fun j => ?_⟩
  unfold Addr.add; split
  · rename_i h0; subst h0; exact e
  · rfl
/-- The cells of a slice of structs, and each field's reading. -/
theorem open_structs {W : World} {base : Nat} {sp : Nat → Bool} {hd : Bool} {t e : TypeId} {fs : Array Field} {fuel : Nat} {v : Value} {x : DataW H × List MemPlace} (ht : P.underlying t = some (.slice e)) (he : P.underlying e = some (.struct fs))
    (hone : oneCellFields P fs = true) (hC : P.cellsOf e = fs.size) (hpos : 0 < fs.size) (h : DataW.trod enc P W base sp hd fuel t [v] = some x) :
    ∃ (a : Option Addr) (n c : Nat) (xs : List Value), v = .slice a n c ∧ RdSl W fs.size (.slice a n c) n xs ∧ n ≤ maxLen ∧
      ∀ i, i < n → ∃ q : Nat, ∀ (j : Nat) (f : Field), fs[j]? = some f → ∃ (u : Value) (y : DataW H × List MemPlace), xs[i * fs.size + j]? = some u ∧ DataW.trod enc P W base sp hd q f.type [u] = some y := by
  rcases open_slice ht h with ⟨h0, _⟩ | ⟨a, len, cap, m, n, D, Pl, hcs, hb, hl, hm, hmm, hx, hi⟩
  · simp at h0; subst h0
    exact ⟨none, 0, 0, [], rfl, (OwnSl.nil W 0 _).rd, by simp, fun i hi => by omega⟩
  · simp at hcs; subst hcs
    have hlm : len ≤ m := by rw [hmm]; split <;> omega
    have hcell : ∀ i, i < len → ∃ (q : Nat) (cs : List Value), cs.length = fs.size ∧ (∀ j, j < fs.size → W.cell? (a.add (i * fs.size + j)) = cs[j]?) ∧ ∀ (j : Nat) (f : Field), fs[j]? = some f → ∃ (u : Value) (y : DataW H × List MemPlace), cs[j]? = some u ∧ DataW.trod enc P W base sp hd q f.type [u] = some y := by
      intro i hil
      obtain ⟨cs', hc, ht'⟩ := hi i (by omega)
      rw [hC] at hc
      obtain ⟨ys, n', hn', hy, hlen, hyl, hf⟩ := DataW.trod_struct he ht'
      obtain ⟨_, hcl, hat⟩ := World.cells?_some hc
      refine ⟨n', cs', hcl, fun j hj => by rw [← Go.Deep.add_add]; exact hat j hj, fun j f hj => ?_⟩
      obtain ⟨ho, hk⟩ := hone_of hone j f hj
      have hjl : j < fs.size := (Array.getElem?_eq_some_iff.1 hj).1
      have h1 := hf j f hj
      rw [ho, hk] at h1
      have hone' : (cs'.drop j).take 1 = [cs'[j]'(by omega)] := by
        rw [List.drop_eq_getElem_cons (by omega)]; rfl
      rw [hone'] at h1
      have hys : ys[j]? = some (ys[j]'(by omega)) := List.getElem?_eq_getElem (by omega)
      exact ⟨_, _, List.getElem?_eq_getElem (by omega), h1.trans hys⟩
    refine ⟨some a, len, cap, (List.range (len * fs.size)).map fun j => (W.cell? (a.add j)).getD (.bool false), rfl, ⟨by simp, some a, cap, rfl, hl, ?_⟩, by omega, fun i hil => ?_⟩
    · by_cases h0 : len = 0
      · left; simp [h0]
      · obtain ⟨q, cs, hcl, hat, _⟩ := hcell 0 (by omega)
        have c0 := hat 0 hpos
        simp only [Nat.zero_mul, Nat.zero_add] at c0
        rw [List.getElem?_eq_getElem (by omega)] at c0
        obtain ⟨ha, hadd⟩ := addr_flat c0
        refine .inr ⟨a.block, a.off, by rw [← ha], fun j u hu => ?_⟩
        have hj : j < len * fs.size := by
          rcases Nat.lt_or_ge j (len * fs.size) with h | h
          · exact h
          · rw [List.getElem?_eq_none (by simpa using h)] at hu; cases hu
        have hd : j / fs.size < len := Nat.div_lt_of_lt_mul (by rw [Nat.mul_comm]; exact hj)
        obtain ⟨q, cs, hcl, hat, _⟩ := hcell (j / fs.size) hd
        have hmod := Nat.mod_lt j hpos
        have c1 := hat (j % fs.size) hmod
        rw [Nat.mul_comm, Nat.div_add_mod, List.getElem?_eq_getElem (by omega)] at c1
        simp only [List.getElem?_map, List.getElem?_range hj, Option.map_some, c1, Option.getD_some, Option.some.injEq] at hu
        rw [← hadd, c1, hu]
    · obtain ⟨q, cs, hcl, hat, hf⟩ := hcell i hil
      refine ⟨q, fun j f hj => ?_⟩
      have hjl : j < fs.size := (Array.getElem?_eq_some_iff.1 hj).1
      obtain ⟨u, y, hu, hy⟩ := hf j f hj
      refine ⟨u, y, ?_, hy⟩
      have hlt : i * fs.size + j < len * fs.size := by
        have : (i + 1) * fs.size ≤ len * fs.size := Nat.mul_le_mul_right _ hil
        rw [Nat.add_mul] at this; omega
      rw [List.getElem?_map, List.getElem?_range hlt, Option.map_some, hat j hjl, hu]; rfl
theorem cells_u8 : Tryd.prog.cellsOf 5 = 1 := by kernel_rfl
theorem u8_nat {x : Int} (h : (Lit.int .u8 x).wf = true) : ∃ n : Nat, x = n ∧ n < 256 := by
  simp [Lit.wf, IntKind.min, IntKind.max, IntKind.signed, IntKind.bits] at h
  exact ⟨x.toNat, by omega, by omega⟩
theorem u16_nat {x : Int} (h : (Lit.int .u16 x).wf = true) : ∃ n : Nat, x = n ∧ n < 65536 := by
  simp [Lit.wf, IntKind.min, IntKind.max, IntKind.signed, IntKind.bits] at h
  exact ⟨x.toNat, by omega, by omega⟩
theorem nums_natB (xs : List Int) (h : ∀ x ∈ xs, ∃ n : Nat, x = n ∧ n < 256) : ∃ l : List Nat, (xs.map fun n => Value.int .u8 n) = natsB l ∧ l.length = xs.length ∧ ∀ n ∈ l, n < 256 := by
  refine ⟨xs.map Int.toNat, ?_, by simp, fun n hn => ?_⟩
  · unfold natsB
    rw [List.map_map]
    refine List.map_congr_left fun x hx => ?_
    obtain ⟨n, rfl, _⟩ := h x hx
    simp
  · simp at hn
    obtain ⟨x, hx, rfl⟩ := hn
    obtain ⟨n, rfl, hn⟩ := h x hx
    simpa using hn
set_option maxRecDepth 100000 in
theorem open_bytesN {W : World} {base b : Nat} {sp : Nat → Bool} {hd : Bool} {v : Value} {d : DataW H} {p : List MemPlace} (hv : Value.okWide Tryd.prog W .any b 41 v) (h : DataW.Trod enc Tryd.prog W base sp hd 41 v d p) :
    ∃ l : List Nat, RdSl W 1 v l.length (natsB l) ∧ (∀ n ∈ l, n < 256) ∧ l.length ≤ maxLen := by
  obtain ⟨fuel, hf⟩ := h
  obtain ⟨a0, len, cap, rfl⟩ := okWide_slice Tryd.underlying41 hv
  obtain ⟨a, c, xs, e, rd, hl, hw⟩ := open_nums Tryd.underlying41 Tryd.underlying5 cells_u8 hf
  obtain ⟨l, h1, h2, h3⟩ := nums_natB xs (fun x hx => u8_nat (hw x hx))
  rw [e]
  refine ⟨l, ?_, h3, by omega⟩
  rw [h2, ← h1]; exact rd
theorem u64_in {x : Int} (h : (Lit.int .u64 x).wf = true) : 0 ≤ x ∧ x < 18446744073709551616 := by
  simp [Lit.wf, IntKind.min, IntKind.max, IntKind.signed, IntKind.bits] at h
  exact ⟨by omega, by omega⟩
set_option maxRecDepth 100000 in
theorem open_acts {W : World} {base b : Nat} {sp : Nat → Bool} {hd : Bool} {v : Value} {d : DataW H} {p : List MemPlace} (hv : Value.okWide Tryd.prog W .any b 40 v) (h : DataW.Trod enc Tryd.prog W base sp hd 40 v d p) :
    ∃ (n : Nat) (xs : List Value), RdSl W 2 v n xs ∧ n ≤ maxLen ∧ ∀ i, i < n → ActAt W xs i := by
  obtain ⟨a0, len, cap, rfl⟩ := okWide_slice Tryd.underlying40 hv
  obtain ⟨fuel, hf⟩ := h
  obtain ⟨a, n, c, xs, hv', hrd, hn, hfl⟩ := open_structs Tryd.underlying40 Tryd.underlying43 (by kernel_rfl) (by kernel_rfl) (by decide) hf
  obtain ⟨rfl, rfl, rfl⟩ : a0 = a ∧ len = n ∧ cap = c := by simpa using hv'
  refine ⟨len, xs, hrd, hn, fun i hi => ?_⟩
  obtain ⟨q, hq⟩ := hfl i hi
  obtain ⟨u0, y0, e0, t0⟩ := hq 0 _ rfl
  obtain ⟨u1, y1, e1, t1⟩ := hq 1 _ rfl
  obtain ⟨x1, h1, _, w1⟩ := DataW.trod_int Tryd.underlying35 t1
  simp only [List.cons.injEq, and_true] at h1
  subst h1
  obtain ⟨a, c, ys, e, rd, hl, hw⟩ := open_nums Tryd.underlying41 Tryd.underlying5 cells_u8 t0
  obtain ⟨l, g1, g2, g3⟩ := nums_natB ys (fun x hx => u8_nat (hw x hx))
  subst e
  refine ⟨_, l, x1, e0, e1, u64_in w1, ?_, g3, by omega⟩
  rw [g2, ← g1]; exact rd
end
end Go.Proofs.YtokgplgdaememaaDoor
