/- A rollback that is cut, and repeated on any image, plain. -/
import Derived.Test.YtokgplgdaememaaDoorUndH
import Derived.Test.YtokgplgdaememaaDoorOpenF
import Derived.Laws.IdiomArrays
import Derived.Test.YtokgplgdaememaaDoorCardU
import Derived.Test.YtokgplgdaememaaDoorCards
import Derived.Lib.SmallJoins
import Derived.SevenTiedAt
namespace Go.Proofs.YtokgplgdaememaaDoor
open Go.RowKit

theorem look_hit (l : List (Nat × Int)) : ∀ (d d' : Int) (i : Nat), (∃ e ∈ l, e.1 / 8 = i) → look l d i = look l d' i := by
  induction l with
  | nil => intro d d' i h; obtain ⟨e, he, _⟩ := h; simp at he
  | cons x l ih =>
    intro d d' i h
    by_cases hx : x.1 / 8 = i
    · have e1 : ∀ d, look (x :: l) d i = look l x.2 i := fun d => by show look l (if x.1 / 8 = i then x.2 else d) i = _; rw [if_pos hx]
      rw [e1, e1]
    · have e1 : ∀ d, look (x :: l) d i = look l d i := fun d => by show look l (if x.1 / 8 = i then x.2 else d) i = _; rw [if_neg hx]
      rw [e1, e1]
      obtain ⟨e, he, h2⟩ := h
      rcases List.mem_cons.1 he with rfl | he
      · exact absurd h2 hx
      · exact ih d d' i ⟨e, he, h2⟩
/-- The entries that a rollback writes. -/
abbrev valC (C : Nat → Int) : List (Nat × Int) := validL 1536 192 5 (savedL C 192 5)
theorem valC_out {C : Nat → Int} {e : Nat × Int} (he : e ∈ valC C) : e.1 / 8 < 24 ∨ 64 ≤ e.1 / 8 := by
  unfold valC validL at he
  have := allowed_out (List.mem_filter.1 he).2; omega
theorem saved_pos {C : Nat → Int} (h : savedL C 192 5 ≠ []) : C 24 ≠ 0 := fun e => h (saved0 e)
/-- What a cut rollback may leave of the words f. -/
structure Half (f g : Nat → Int) : Prop where
  log : ∀ i, 25 ≤ i → i < 64 → g i = f i
  rest : ∀ i, i ≠ 24 → (∀ e ∈ valC f, e.1 / 8 ≠ i) → g i = f i
  cnt : g 24 = f 24 ∨ (g 24 = 0 ∧ ∀ i, i ≠ 24 → g i = look (valC f) (f i) i)
theorem res_half {f g : Nat → Int} (hs : savedL f 192 5 ≠ []) (h : Half f g) : resC g = resC f := by
  have hrf : ∀ i, resC f i = look (valC f ++ [(192, 0)]) (f i) i := fun i => by unfold resC; rw [if_neg hs]
  rcases h.cnt with hc | ⟨h0, hw⟩
  · have hsg : savedL g 192 5 = savedL f 192 5 := savedL_congr (fun i h1 h2 => by
      by_cases e : i = 24
      · subst e; exact hc
      · exact h.log i (by omega) h2)
    funext i
    rw [hrf]
    unfold resC
    rw [hsg, if_neg hs]
    show look (valC f ++ [(192, 0)]) (g i) i = _
    rw [look_snoc, look_snoc]
    by_cases e : 192 / 8 = i
    · rw [if_pos e, if_pos e]
    · rw [if_neg e, if_neg e]
      by_cases hit : ∃ e ∈ valC f, e.1 / 8 = i
      · exact look_hit _ _ _ _ hit
      · rw [h.rest i (by omega) (fun e he h2 => hit ⟨e, he, h2⟩)]
  · have hsg : savedL g 192 5 = [] := saved0 h0
    funext i
    rw [hrf]
    unfold resC
    rw [hsg, if_pos rfl, look_snoc]
    show g i = _
    by_cases e : 192 / 8 = i
    · rw [if_pos e]
      obtain rfl : i = 24 := by omega
      exact h0
    · rw [if_neg e]; exact hw i (by omega)
theorem halfA {f g : Nat → Int} (h : ∀ i, g i = f i ∨ ∃ e ∈ valC f, e.1 / 8 = i) : Half f g := by
  have key : ∀ i, 24 ≤ i → i < 64 → g i = f i := fun i h1 h2 => by
    rcases h i with h3 | ⟨e, he, h3⟩
    · exact h3
    · have := valC_out he; omega
  refine ⟨fun i h1 h2 => key i (by omega) h2, fun i _ hn => ?_, .inl (key 24 (by omega) (by omega))⟩
  rcases h i with h3 | ⟨e, he, h3⟩
  · exact h3
  · exact absurd h3 (hn e he)
theorem halfB {f g : Nat → Int} (h : ∀ i, i ≠ 24 → g i = look (valC f) (f i) i) (h0 : g 24 = f 24 ∨ g 24 = 0) : Half f g := by
  refine ⟨fun i h1 h2 => ?_, fun i hi hn => ?_, ?_⟩
  · rw [h i (by omega)]
    exact look_other _ _ _ (fun e he => by have := valC_out he; omega)
  · rw [h i hi]; exact look_other _ _ _ hn
  · rcases h0 with h0 | h0
    · exact .inl h0
    · exact .inr ⟨h0, h⟩
theorem laid_pers {s : PerH} {gs : List Gr} (h0 : ∀ l, s.2 l = []) (h : ∀ l, (laidX s gs).2 l = []) (i : Nat) : (laidX s gs).1 i = look (gs.flatMap (·.1)) (s.1 i) i := by
  have := curX_laid gs s i
  unfold curX at this
  rw [h, h0] at this
  exact this
theorem cut_half {f : Nat → Int} {E : Dev} {a : Nat} {ws : List (Nat × Int)} (le : a ≤ (restoreGs 192 (valC f)).length) (pre : ∃ t, ((restoreGs 192 (valC f))[a]?.map (·.1)).getD [] = ws ++ t)
    (pers : ∀ i, E.pers i = (laidX (f, fun _ => []) ((restoreGs 192 (valC f)).take a)).1 i) (hist : ∀ l, E.hist l = (laidX (f, fun _ => []) ((restoreGs 192 (valC f)).take a)).2 l ++ filtL ws l) (ks : Nat → Nat) : Half f (E.img ks) := by
  have hg : restoreGs 192 (valC f) = storesGs (valC f) ++ [([(192, 0)], lineOffs [192])] := rfl
  rw [hg] at le pre pers hist
  have hcl : ∀ l, (laidX (f, fun _ => []) (storesGs (valC f))).2 l = [] := clean_stores (fun _ => rfl) _
  have himg : ∀ i, E.img ks i = look ((E.hist (i / 8)).take (ks (i / 8))) (E.pers i) i := fun _ => rfl
  obtain ⟨t, ht⟩ := pre
  by_cases ha : a < (storesGs (valC f)).length
  · have hV : valC f ≠ [] := fun e => by rw [e] at ha; simp [storesGs] at ha
    have hsg : storesGs (valC f) = [(valC f, lineOffs ((valC f).map (·.1)))] := by unfold storesGs; rw [if_neg hV]
    rw [hsg] at ha
    have ha0 : a = 0 := by simpa using ha
    subst ha0
    rw [hsg] at ht
    have ht : valC f = ws ++ t := by simpa using ht
    refine halfA (fun i => ?_)
    rw [himg]
    have hp : E.pers i = f i := pers i
    have hh : E.hist (i / 8) = filtL ws (i / 8) := hist (i / 8)
    rw [hp, hh]
    rcases look_may ((filtL ws (i / 8)).take (ks (i / 8))) (f i) i with h1 | ⟨e, he, h2, _⟩
    · exact .inl h1
    · refine .inr ⟨e, ?_, h2⟩
      rw [ht]
      exact List.mem_append_left _ (List.mem_filter.1 (List.mem_of_mem_take he)).1
  · have hle : a = (storesGs (valC f)).length ∨ a = (storesGs (valC f)).length + 1 := by rw [List.length_append] at le; simp at le; omega
    have hw24 : ∀ e ∈ ws, e = (192, (0 : Int)) := by
      rcases hle with h | h
      · subst h
        rw [List.getElem?_append_right (Nat.le_refl _)] at ht
        have ht : [(192, (0 : Int))] = ws ++ t := by simpa using ht
        intro e he
        have : e ∈ [(192, (0 : Int))] := by rw [ht]; exact List.mem_append_left _ he
        simpa using this
      · subst h
        rw [List.getElem?_eq_none (by simp)] at ht
        have ht : ws ++ t = [] := by simpa using ht.symm
        intro e he
        rw [(List.append_eq_nil_iff.1 ht).1] at he
        simp at he
    have hbase : ∃ L, (∀ e ∈ L, e = (192, (0 : Int))) ∧ (∀ i, E.pers i = look (valC f ++ L) (f i) i) ∧ ∀ l, E.hist l = filtL ws l := by
      rcases hle with h | h
      · subst h
        rw [List.take_left'  rfl] at pers hist
        refine ⟨[], fun e he => by simp at he, fun i => ?_, fun l => by rw [hist, hcl, List.nil_append]⟩
        rw [pers, laid_pers (fun _ => rfl) hcl, storesGs_flat, List.append_nil]
      · subst h
        rw [List.take_of_length_le (by simp)] at pers hist
        have hcl2 : ∀ l, (laidX (f, fun _ => []) (storesGs (valC f) ++ storesGs [(192, 0)])).2 l = [] := fun l => by
          rw [laidX_append]; exact clean_stores hcl _ l
        refine ⟨[(192, 0)], fun e he => by simpa using he, fun i => ?_, fun l => ?_⟩
        · rw [pers]
          have := laid_pers (s := (f, fun _ => [])) (gs := storesGs (valC f) ++ storesGs [(192, 0)]) (fun _ => rfl) hcl2 i
          rw [List.flatMap_append, storesGs_flat, storesGs_flat] at this
          exact this
        · rw [hist]
          have := hcl2 l
          show (laidX (f, fun _ => []) (storesGs (valC f) ++ storesGs [(192, 0)])).2 l ++ _ = _
          rw [this, List.nil_append]
    obtain ⟨L, hL, hp, hh⟩ := hbase
    refine halfB (fun i hi => ?_) ?_
    · rw [himg, hh, look_other _ _ _ (fun e he => by rw [hw24 e (List.mem_filter.1 (List.mem_of_mem_take he)).1]; show 192 / 8 ≠ i; omega), hp, look_append]
      exact look_other _ _ _ (fun e he => by rw [hL e he]; show 192 / 8 ≠ i; omega)
    · rw [himg, hh]
      have hp24 : E.pers 24 = f 24 ∨ E.pers 24 = 0 := by
        rw [hp, look_append]
        rcases look_may L (look (valC f) (f 24) 24) 24 with h1 | ⟨e, he, _, h2⟩
        · rw [h1, look_other _ _ _ (fun e he => by have := valC_out he; omega)]; exact .inl rfl
        · rw [h2, hL e he]; exact .inr rfl
      rcases look_may ((filtL ws (24 / 8)).take (ks (24 / 8))) (E.pers 24) 24 with h1 | ⟨e, he, _, h2⟩
      · rw [h1]; exact hp24
      · rw [h2, hw24 e (List.mem_filter.1 (List.mem_of_mem_take he)).1]; exact .inr rfl
end Go.Proofs.YtokgplgdaememaaDoor

/- The law's recovered: a crash, a recovery that may be cut, again. -/
namespace Go.Proofs.YtokgplgdaememaaDoor
open Go.RowKit Go.Maps
attribute [local go_sem ↓] Go.wp_at_zero Go.wp_at_succ

theorem fresh_gx (f : Nat → Int) (k : Nat) : GX ((Dev.fresh 24 f).arm k) 0 24 (f, fun _ => []) [] [] := ⟨⟨rfl, rfl, rfl⟩, fun _ => rfl, fun _ => rfl, fun o ho => by simp at ho, fun _ _ => rfl⟩
theorem restore_valP {f : Nat → Int} (hf : ∀ i, 0 ≤ f i ∧ f i < 18446744073709551616) : valP (groupsP (restoreGs 192 (valC f))) := valP_groups (fun e he => by
  rw [restoreGs_flat] at he
  rcases List.mem_append.1 he with he | he
  · unfold valC validL at he
    exact (saved_lt hf e (List.mem_filter.1 he).1).2
  · simp at he; subst he; simp)
/-- A rollback on a fresh device that is armed. -/
theorem armed_restore {C : Dev} {f : Nat → Int} (hg : GX C 0 24 (f, fun _ => []) [] []) (hvb : C.VB) (hf : ∀ i, 0 ≤ f i ∧ f i < 18446744073709551616) (hs : savedL f 192 5 ≠ []) :
    (C.run 0 (restoreP 192 (valC f))).VB ∧ (C.run 0 (restoreP 192 (valC f))).n = 24 ∧
    (((C.run 0 (restoreP 192 (valC f))).err 0 = 0 ∧ (C.run 0 (restoreP 192 (valC f))).pers = resC f) ∨
     ((C.run 0 (restoreP 192 (valC f))).err 0 = 3 ∧ ∀ ks, resC ((C.run 0 (restoreP 192 (valC f))).img ks) = resC f)) := by
  rw [restore_groups]
  refine ⟨Dev.VB.run _ hvb 0 (restore_valP hf), (Dev.run_n 0 _ _).trans hg.on.n, ?_⟩
  rcases runX_came hg (restoreGs_ok (off := 192) (n := 24) (V := valC f) (by omega) (by omega) valid_ok) with ⟨h1, _, _⟩ | ⟨_, he, _, a, ws, le, pre, pers, hist, _, _⟩
  · refine .inl ⟨h1.on.err, ?_⟩
    funext i
    have hcl : ∀ l, (laidX (f, fun _ => []) (restoreGs 192 (valC f))).2 l = [] := fun l => by
      unfold restoreGs; rw [laidX_append]; exact clean_stores (clean_stores (fun _ => rfl) _) _ l
    rw [h1.pers, laid_pers (fun _ => rfl) hcl, restoreGs_flat]
    unfold resC; rw [if_neg hs]
  · exact .inr ⟨he, fun ks => res_half hs (cut_half le pre pers hist ks)⟩
theorem crashF {w : World} {v : DV} {own : Nat → Option Role} {D : Dev} (hL : IsDev w v own D) (hn : D.n = 24) (hvb : D.VB) (cv : Value) (cs : List Int) (hc : RdSl w 1 cv cs.length (cs.map fun x => .int .u8 x)) (hcb : ∀ x ∈ cs, 0 ≤ x ∧ x < 256) (hcl : cs.length ≤ maxLen) (hex : D.exec < 4611686018427387904) :
    Calls Tryd.prog 47 #[.pointer (some ⟨v.db, 0, none⟩), cv] w fun r w' => ∃ (ks : Nat → Nat) (v' : DV) (own' : Nat → Option Role), (∀ l, ks l ≤ (D.hist l).length) ∧ r = .returned (.pointer (some ⟨v'.db, 0, none⟩)) ∧ IsDev w' v' own' (Dev.fresh 24 (D.img ks)) ∧ (∀ k, own' k ≠ none → w.heap.size ≤ k) ∧ Below w.heap.size w w' := by
  refine (crash_any hL hvb cv cs hc hcb hcl hex).mono ?_
  rintro r w' ⟨ks, v', own', hk, hr, ⟨f, hf, hd⟩, ho, hb⟩
  rw [hn] at hd hf
  exact ⟨ks, v', own', hk, hr, fresh_same hd hf, ho, hb⟩
section
variable {w : World} {v : DV} {own : Nat → Option Role} {D : Dev}
set_option maxRecDepth 100000 in
set_option maxHeartbeats 16000000 in
theorem l16recovered_any (h : IsDev w v own D) (hn : D.n = 24) (hvb : D.VB) (hex : D.exec < 4611686018427387904) (c0 c1 c2 c3 : Int) (h1 : 0 ≤ c1 ∧ c1 < 65536) (h2 : 0 ≤ c2 ∧ c2 < 65536) (h3 : 0 ≤ c3 ∧ c3 < 65536) :
    Calls Tryd.prog 48 #[.pointer (some ⟨v.db, 0, none⟩), .agg #[.int .u16 c0, .int .u16 c1, .int .u16 c2, .int .u16 c3]] w fun r w' =>
      ∃ (ks : Nat → Nat) (g : Nat), (∀ l, ks l ≤ (D.hist l).length) ∧ r = .returned (.tuple #[.slice (some ⟨g, 0, none⟩) 192 192, .bool true]) ∧ RdSl w' 1 (.slice (some ⟨g, 0, none⟩) 192 192) 192 (intsU (getL (resC (D.img ks)) 192)) ∧ Below w.heap.size w w' := by
  have H := Lib.hid h
  have HV := Lib.hid hvb
  go_enter Tryd.func48, Tryd.ntmps48
  have hm1 : 0 ≤ c1 % 256 ∧ c1 % 256 < 256 := by omega
  have hm2 : 0 ≤ c1 / 256 ∧ c1 / 256 < 256 := by omega
  have hm3 : 0 ≤ c3 % 256 ∧ c3 % 256 < 256 := by omega
  have hm4 : 0 ≤ c3 / 256 ∧ c3 / 256 < 256 := by omega
  obtain ⟨k2, hk2⟩ : ∃ k2 : Nat, (k2 : Int) = c2 % 60 := ⟨(c2 % 60).toNat, by omega⟩
  have q1 : c2 % 60 = (k2 : Int) := hk2.symm
  have q2 : c2.tmod 60 = (k2 : Int) := by rw [Int.tmod_eq_emod_of_nonneg h2.1]; omega
  have hk60 : k2 < 60 := by omega
  have HB1 : Hid (∀ x ∈ [c1 % 256, c1 / 256], 0 ≤ x ∧ x < 256) := fun x hx => by simp at hx; rcases hx with rfl | rfl <;> omega
  have HB2 : Hid (∀ x ∈ [c3 % 256, c3 / 256], 0 ≤ x ∧ x < 256) := fun x hx => by simp at hx; rcases hx with rfl | rfl <;> omega
  have HBX := Lib.hid (below_alloc w (.cells #[.int .u16 c0, .int .u16 c1, .int .u16 c2, .int .u16 c3] 90))
  have HC2 : Hid ((w.alloc (.cells #[.int .u16 c0, .int .u16 c1, .int .u16 c2, .int .u16 c3] 90)).cell? ⟨w.heap.size, 2, none⟩ = some (.int .u16 c2)) := (Blk.new w _ _).cell rfl
  have HC3 : Hid ((w.alloc (.cells #[.int .u16 c0, .int .u16 c1, .int .u16 c2, .int .u16 c3] 90)).cell? ⟨w.heap.size, 3, none⟩ = some (.int .u16 c3)) := (Blk.new w _ _).cell rfl
  have HRD1 : Hid (RdSl ((w.alloc (.cells #[.int .u16 c0, .int .u16 c1, .int .u16 c2, .int .u16 c3] 90)).alloc (.cells #[.int .u8 (c1 % 256), .int .u8 (c1 / 256)] 5)) 1 (.slice (some ⟨w.heap.size + 1, 0, none⟩) 2 2) [c1 % 256, c1 / 256].length ([c1 % 256, c1 / 256].map fun x => .int .u8 x)) := by
    have := RdSl.new (w.alloc (.cells #[.int .u16 c0, .int .u16 c1, .int .u16 c2, .int .u16 c3] 90)) #[.int .u8 (c1 % 256), .int .u8 (c1 / 256)] 5 1 2 rfl
    rw [show (w.alloc (.cells #[.int .u16 c0, .int .u16 c1, .int .u16 c2, .int .u16 c3] 90)).heap.size = w.heap.size + 1 by simp] at this
    exact this
  have HN := Lib.hid hn; have HEX := Lib.hid hex
  clear hk2 h hvb hn hex hm1 hm2 hm3 hm4
  go_wp2_with fail
  (with_reducible refine (crashF ((H.out.alloc _).alloc _) HN.out HV.out _ [c1 % 256, c1 / 256] HRD1.out HB1.out (by unfold maxLen; simp) HEX.out).mono ?_)
  rintro e w1 ⟨ks, v1, own1, hks, rfl, d1, ho1, b1⟩
  have HKS := Lib.hid hks
  have hf0 := HV.out.img ks
  obtain ⟨f, hfe⟩ : ∃ f, D.img ks = f := ⟨_, rfl⟩
  rw [hfe] at d1 hf0
  have HFE := Lib.hid hfe; clear hfe
  have HF := Lib.hid hf0
  have HRB : Hid (∀ i, 0 ≤ resC f i ∧ resC f i < 18446744073709551616) := by
    intro i
    unfold resC
    refine look_bd _ _ _ (HF.out i) (fun e he => ?_)
    split at he
    · simp at he
    · rcases List.mem_append.1 he with he | he
      · unfold validL at he; exact (saved_lt HF.out e (List.mem_filter.1 he).1).2
      · simp at he; subst he; simp
  have D1 := Lib.hid d1
  have HOW : Hid (own1 w.heap.size = none) := by
    show own1 w.heap.size = none
    cases ho : own1 w.heap.size with
    | none => rfl
    | some r => have := ho1 w.heap.size (by rw [ho]; simp); simp at this; omega
  have HO1 : Hid (∀ k, own1 k ≠ none → w.heap.size ≤ k) := fun k hk => by have := ho1 k hk; simp at this; omega
  have BA : Hid (Below (w.heap.size + 1) (w.alloc (.cells #[.int .u16 c0, .int .u16 c1, .int .u16 c2, .int .u16 c3] 90)) w1) := by
    have h1 := below_alloc (w.alloc (.cells #[.int .u16 c0, .int .u16 c1, .int .u16 c2, .int .u16 c3] 90)) (.cells #[.int .u8 (c1 % 256), .int .u8 (c1 / 256)] 5)
    have hle : (w.alloc (.cells #[.int .u16 c0, .int .u16 c1, .int .u16 c2, .int .u16 c3] 90)).heap.size ≤ ((w.alloc (.cells #[.int .u16 c0, .int .u16 c1, .int .u16 c2, .int .u16 c3] 90)).alloc (.cells #[.int .u8 (c1 % 256), .int .u8 (c1 / 256)] 5)).heap.size := by simp
    have h2 := h1.trans (b1.mono hle)
    rw [show (w.alloc (.cells #[.int .u16 c0, .int .u16 c1, .int .u16 c2, .int .u16 c3] 90)).heap.size = w.heap.size + 1 by simp] at h2
    exact h2
  clear d1 ho1 b1 hks hf0
  go_wp2_with fail
  (with_reducible refine (thread0_any D1.out).mono ?_)
  rintro e w' ⟨rfl, rfl⟩
  go_wp2_with fail
  (with_reducible refine (open24 D1.out rfl (j := 0) (by omega)).mono ?_)
  rintro e w2 ⟨rfl, g2, b2⟩
  have hsz := BA.out.size
  have L2 : Hid (LSt w v1 own1 (Dev.fresh 24 f) w1.heap.size 0 192 5 w2) := ⟨g2, HO1.out, by simp at hsz; omega, (HBX.out.trans (BA.out.mono (by omega))).trans (b2.mono (by simp at hsz; omega))⟩
  have B2 : Hid (Below (w.heap.size + 1) (w.alloc (.cells #[.int .u16 c0, .int .u16 c1, .int .u16 c2, .int .u16 c3] 90)) w2) := BA.out.trans (b2.mono (by simp at hsz; omega))
  have BK2 : Hid (Blk w2 w.heap.size #[.int .u16 c0, .int .u16 c1, .int .u16 c2, .int .u16 c3] 90) := by
    have hb := B2.out
    rw [show w.heap.size + 1 = (w.alloc (.cells #[.int .u16 c0, .int .u16 c1, .int .u16 c2, .int .u16 c3] 90)).heap.size by simp] at hb
    exact (Blk.new w _ _).upd (Upd.of_below (S := fun _ => False) hb) (fun h => h)
  have x2 : w2.cell? ⟨w.heap.size, 2, none⟩ = some (.int .u16 c2) := BK2.out.cell rfl
  clear g2 b2 BA D1 hsz
  generalize w1.heap.size = lb at *
  obtain ⟨C, hC⟩ : ∃ C, (Dev.fresh 24 f).arm k2 = C := ⟨_, rfl⟩
  have hgx := fresh_gx f k2
  have hcv : ((Dev.fresh 24 f).arm k2).VB := ⟨HF.out, fun l e he => by simp [Dev.arm, Dev.fresh] at he⟩
  have hce : ((Dev.fresh 24 f).arm k2).exec = 0 := rfl
  have hcc : ((Dev.fresh 24 f).arm k2).cur = f := rfl
  have hcp : ((Dev.fresh 24 f).arm k2).pers = f := rfl
  have HARM := Lib.hid (arm_any L2.out.dev k2 (by omega))
  rw [hC] at hgx hcv hce hcc hcp HARM
  have HG := Lib.hid hgx; have HCV := Lib.hid hcv
  have HCX : Hid (C.exec = 0 ∧ C.cur = f ∧ C.pers = f) := ⟨hce, hcc, hcp⟩
  clear hC hgx hcv hce hcc hcp
  go_wp2_with fail
  (with_reducible refine HARM.out.mono ?_)
  rintro e w3 ⟨rfl, p3⟩
  obtain ⟨own3, l3, m3⟩ := L2.out.stepM (D' := C) (by rw [HG.out.on.n]; rfl) p3
  have L3 := Lib.hid l3
  have BK3 := Lib.hid (BK2.out.upd m3.upd (fun h => h HOW.out))
  have HOW3 : Hid (own3 w.heap.size = none) := by have h1 := m3.old w.heap.size (World.block_lt_of_cell? w2 _ x2); rw [HOW.out] at h1; exact h1
  clear p3 l3 m3 HARM x2 L2 BK2
  have HREC : Hid (Calls Tryd.prog 39 #[.pointer (some ⟨lb, 0, none⟩)] w3 (RecPost w3 v1 own3 C 0 192 (savedL f 192 5) (valC f))) := by
    have h1 := uload_any L3.out.log HG.out.on.off HG.out.on.err HCV.out
    rw [HG.out.on.n, HCX.out.2.1] at h1
    exact uRecover_any L3.out.log _ _ h1 (saved_vin HF.out) (by rw [HCX.out.1]; omega)
  go_wp2_with fail
  (with_reducible refine HREC.out.mono ?_)
  rintro e w4 (⟨hs, rfl, b4⟩ | ⟨hs, p4, ⟨he, rfl⟩ | ⟨he, rfl⟩⟩)
  · have L4 := Lib.hid (L3.out.next b4)
    have HPE : Hid (C.pers = resC f) := by
      show C.pers = resC f
      rw [HCX.out.2.2]; funext i; unfold resC; rw [if_pos hs]; rfl
    clear hs b4 L3 HREC
    go_wp2_with fail
    (with_reducible refine (persisted24 L4.out.dev HCV.out HG.out.on.n).mono ?_)
    rintro e u1 ⟨rfl, r1, b1⟩
    rw [HPE.out] at r1
    have R1 := Lib.hid r1; have N1 := Lib.hid (L4.out.next b1); clear r1 b1
    go_wp2_with fail
    (with_reducible refine (words24 HRB.out R1.out).mono ?_)
    rintro e u2 ⟨rfl, d2⟩
    have Q2 := Lib.hid d2.rd
    have N2 := Lib.hid (N1.out.next d2.bel); clear d2 R1 N1
    go_wp2_with fail
    go_ret2
    exact ⟨ks, _, HKS.out, rfl, by rw [HFE.out]; exact Q2.out, N2.out.bel⟩
  · obtain ⟨a1, a2, a3⟩ := armed_restore HG.out HCV.out HF.out hs
    have HA : Hid ((C.run 0 (restoreP 192 (valC f))).VB ∧ (C.run 0 (restoreP 192 (valC f))).n = 24 ∧ (C.run 0 (restoreP 192 (valC f))).pers = resC f) := ⟨a1, a2, by
      rcases a3 with a3 | a3
      · exact a3.2
      · rw [he] at a3; exact absurd a3.1 (by omega)⟩
    obtain ⟨own4, l4, m4⟩ := L3.out.stepM (D' := C.run 0 (restoreP 192 (valC f))) (by rw [a2, HG.out.on.n]) p4
    have L4 := Lib.hid l4
    clear hs he p4 a1 a2 a3 l4 m4 L3 HREC
    generalize C.run 0 (restoreP 192 (valC f)) = E at *
    go_wp2_with fail
    (with_reducible refine (persisted24 L4.out.dev HA.out.1 HA.out.2.1).mono ?_)
    rintro e u1 ⟨rfl, r1, b1⟩
    rw [HA.out.2.2] at r1
    have R1 := Lib.hid r1; have N1 := Lib.hid (L4.out.next b1); clear r1 b1
    go_wp2_with fail
    (with_reducible refine (words24 HRB.out R1.out).mono ?_)
    rintro e u2 ⟨rfl, d2⟩
    have Q2 := Lib.hid d2.rd
    have N2 := Lib.hid (N1.out.next d2.bel); clear d2 R1 N1
    go_wp2_with fail
    go_ret2
    exact ⟨ks, _, HKS.out, rfl, by rw [HFE.out]; exact Q2.out, N2.out.bel⟩
  · obtain ⟨a1, a2, a3⟩ := armed_restore HG.out HCV.out HF.out hs
    have hex4 := C.run_exec 0 (restoreP 192 (valC f))
    have hpl := restoreP_len (off := 192) (valC f) (saved_vin HF.out)
    have HA : Hid ((C.run 0 (restoreP 192 (valC f))).VB ∧ (C.run 0 (restoreP 192 (valC f))).n = 24 ∧ (C.run 0 (restoreP 192 (valC f))).exec < 4611686018427387904 ∧ ∀ ks, resC ((C.run 0 (restoreP 192 (valC f))).img ks) = resC f) := ⟨a1, a2, by rw [HCX.out.1] at hex4; omega, by
      rcases a3 with a3 | a3
      · exact absurd a3.1 he
      · exact a3.2⟩
    have he3 : (C.run 0 (restoreP 192 (valC f))).err 0 = 3 := by
      rcases a3 with a3 | a3
      · exact absurd a3.1 he
      · exact a3.1
    obtain ⟨own4, l4, m4⟩ := L3.out.stepM (D' := C.run 0 (restoreP 192 (valC f))) (by rw [a2, HG.out.on.n]) p4
    have L4 := Lib.hid l4
    have BK4 := Lib.hid (BK3.out.upd m4.upd (fun h => h HOW3.out))
    rw [he3]
    clear hs he he3 p4 a1 a2 a3 l4 m4 L3 HREC hex4 hpl BK3 HOW3
    generalize C.run 0 (restoreP 192 (valC f)) = E at *
    have x3 : w4.cell? ⟨w.heap.size, 3, none⟩ = some (.int .u16 c3) := BK4.out.cell rfl
    have HRD2 : Hid (RdSl (w4.alloc (.cells #[.int .u8 (c3 % 256), .int .u8 (c3 / 256)] 5)) 1 (.slice (some ⟨w4.heap.size, 0, none⟩) 2 2) [c3 % 256, c3 / 256].length ([c3 % 256, c3 / 256].map fun x => .int .u8 x)) := RdSl.new w4 _ _ 1 2 rfl
    go_wp2_with fail
    (with_reducible refine (crashF ((L4.out.alloc _).dev) HA.out.2.1 HA.out.1 _ [c3 % 256, c3 / 256] HRD2.out HB2.out (by unfold maxLen; simp) HA.out.2.2.1).mono ?_)
    rintro e w5 ⟨ks5, v5, own5, _, rfl, d5, ho5, b5⟩
    have D5 := Lib.hid d5
    have hf5 := HA.out.1.img ks5
    have hr5 := HA.out.2.2.2 ks5
    have L5 := Lib.hid ((L4.out.alloc (.cells #[.int .u8 (c3 % 256), .int .u8 (c3 / 256)] 5)).next b5)
    have HO5 : Hid (∀ k, own5 k ≠ none → w.heap.size ≤ k) := fun k hk => by have h1 := ho5 k hk; have h2 := L4.out.bel.size; simp at h1; omega
    generalize E.img ks5 = f5 at *
    have HR5 := Lib.hid hr5
    have CJ : Hid (Cj (Dev.fresh 24 f5) 0 0) := ⟨⟨⟨rfl, rfl, rfl⟩, rfl, fun _ => rfl, Nat.le_refl _, fresh_vb hf5⟩, fun _ => rfl⟩
    clear d5 ho5 b5 hf5 hr5 L4 x3 BK4 HRD2
    go_wp2_with fail
    (with_reducible refine (thread0_any D5.out).mono ?_)
    rintro e w' ⟨rfl, rfl⟩
    go_wp2_with fail
    (with_reducible refine (open24 D5.out rfl (j := 0) (by omega)).mono ?_)
    rintro e w6 ⟨rfl, g6, b6⟩
    have L6 : Hid (LSt w v5 own5 (Dev.fresh 24 f5) w5.heap.size 0 192 5 w6) := ⟨g6, HO5.out, L5.out.bel.size, L5.out.bel.trans (b6.mono L5.out.bel.size)⟩
    clear g6 b6 D5 L5
    generalize w5.heap.size = lb5 at *
    go_wp2_with fail
    (with_reducible refine (recover_lv L6.out CJ.out (by omega)).mono ?_)
    rintro e w7 ⟨own7, rfl, l7, m7⟩
    have L7 := Lib.hid l7
    have HJ := Lib.hid (resD_cj CJ.out)
    have HPE : Hid ((resD (Dev.fresh 24 f5) 0).pers = resC f) := by
      show (resD (Dev.fresh 24 f5) 0).pers = resC f
      rw [HJ.out.1.pers, HJ.out.2]; exact HR5.out
    clear l7 m7 L6
    go_wp2_with fail
    (with_reducible refine (persisted24 L7.out.dev HJ.out.1.lv.vb HJ.out.1.lv.on.n).mono ?_)
    rintro e u1 ⟨rfl, r1, b1⟩
    rw [HPE.out] at r1
    have R1 := Lib.hid r1; have N1 := Lib.hid (L7.out.next b1); clear r1 b1
    go_wp2_with fail
    (with_reducible refine (words24 HRB.out R1.out).mono ?_)
    rintro e u2 ⟨rfl, d2⟩
    have Q2 := Lib.hid d2.rd
    have N2 := Lib.hid (N1.out.next d2.bel); clear d2 R1 N1
    go_wp2_with fail
    go_ret2
    exact ⟨ks, _, HKS.out, rfl, by rw [HFE.out]; exact Q2.out, N2.out.bel⟩
end
end Go.Proofs.YtokgplgdaememaaDoor

/- The walk of UndoTwice. -/
namespace Go.Proofs.YtokgplgdaememaaDoor
open Go.RowKit Go.Maps
attribute [local go_sem ↓] Go.wp_at_zero Go.wp_at_succ
section
variable {w : World}
set_option maxRecDepth 100000 in
set_option maxHeartbeats 32000000 in
theorem undoTwice_any (h : Wh w) (c : Int) (hc : 0 ≤ c ∧ c < 18446744073709551616) (sv : Value) (l : List (Nat × Int)) (hs : RdSl w 2 sv l.length (spoB l)) (hlb : ∀ e ∈ l, e.1 < 256 ∧ 0 ≤ e.2 ∧ e.2 < 18446744073709551616) (hll : l.length ≤ maxLen)
    (c0 c1 c2 c3 : Int) (h1 : 0 ≤ c1 ∧ c1 < 65536) (h2 : 0 ≤ c2 ∧ c2 < 65536) (h3 : 0 ≤ c3 ∧ c3 < 65536) :
    Calls Tryd.prog 9 #[.int .u64 c, sv, .agg #[.int .u16 c0, .int .u16 c1, .int .u16 c2, .int .u16 c3]] w fun r w' => r = .returned (.bool true) ∧ Below w.heap.size w w' := by
  have HW := Lib.hid h; clear h
  obtain ⟨hcl, _⟩ := spP_cl hc hlb
  have HSP := Lib.hid (fun (wx : World) (hb : Below w.heap.size w wx) => l16spoilt_any (HW.out.below hb) c sv l (hs.below hb) hlb hll)
  clear hs hlb hll hc
  generalize D0.run 0 (spP c l) = D at *
  have CL := Lib.hid hcl
  have HRC := Lib.hid (fun (wx : World) (v : DV) (own : Nat → Option Role) (hx : IsDev wx v own D) => l16recovered_any hx CL.out.lv.on.n CL.out.lv.vb (by have := CL.out.lv.exec; omega) c0 c1 c2 c3 h1 h2 h3)
  have HRS := Lib.hid (fun (wx : World) (u : Value) (hu : WIn wx u D.cur) => r16Restored_any hu)
  generalize (validL 1536 192 5 (savedL D.cur 192 5)).length = vn at *
  have HBX := Lib.hid (below_alloc w (.cells #[.int .u16 c0, .int .u16 c1, .int .u16 c2, .int .u16 c3] 90))
  clear hcl h1 h2 h3
  go_enter Tryd.func9, Tryd.ntmps9
  go_wp2_with fail
  (with_reducible refine awake16.mono ?_)
  rintro e w1 ⟨rfl, b1⟩
  have B1 := Lib.hid (HBX.out.trans (b1.mono HBX.out.size))
  have BK1 : Hid (Blk w1 w.heap.size #[.int .u16 c0, .int .u16 c1, .int .u16 c2, .int .u16 c3] 90) := (Blk.new w _ _).upd (Upd.of_below (S := fun _ => False) b1) (fun h => h)
  have W1 := Lib.hid (HW.out.below B1.out); clear b1
  go_wp2_with fail
  (with_reducible refine (HSP.out _ B1.out).mono ?_)
  rintro e w2 ⟨v, own, lb, rfl, l2⟩
  have L2 := Lib.hid l2; clear l2 HSP
  have LD := Lib.hid (L2.out.next ((Below.refl _ _).drew))
  have XD : Hid (w2.drew.cell? ⟨0, 0, none⟩ = some (.int .u64 192) ∧ w2.drew.cell? ⟨0, 1, none⟩ = some (.int .u64 512) ∧ w2.drew.cell? ⟨0, 2, none⟩ = some (.int .u64 1536)) := (W1.out.below LD.out.bel).all'
  have HC1 := Lib.hid (current24 LD.out.dev CL.out.lv)
  go_wp2_with fail
  go_region_held3 (fun wx => wx.cell? ⟨0, 0, none⟩ = some (.int .u64 192) ∧ wx.cell? ⟨0, 1, none⟩ = some (.int .u64 512) ∧ wx.cell? ⟨0, 2, none⟩ = some (.int .u64 1536)) (first | (with_reducible exact X5.out) | (with_reducible exact X4.out) | (with_reducible exact X3.out) | (with_reducible exact XD.out)) (first | (go_at_call 20; (with_reducible refine HC1.out.mono ?_); rintro e w3 ⟨rfl, r3, b3⟩; have L3 := Lib.hid (LD.out.next b3); have X3 := Lib.hid ((W1.out.below L3.out.bel).all'); have HW3 := Lib.hid (words24 (w := w3) (g := w2.heap.size) CL.out.lv.vb.cur r3); clear r3 b3) | (go_at_call 19; (with_reducible refine HW3.out.mono ?_); rintro e w4 ⟨rfl, d4⟩; have L4 := Lib.hid (L3.out.next d4.bel); have X4 := Lib.hid ((W1.out.below L4.out.bel).all'); have HR4 := Lib.hid (HRS.out w4 _ (d4.win CL.out.lv.vb.cur)); clear d4) | (go_at_call 44; (with_reducible refine HR4.out.mono ?_); rintro e w5 ⟨ov, rfl, a5⟩; obtain ⟨oa, oc, hov⟩ := a5.slice; subst hov; have T5 := Lib.hid a5.rd; have L5 := Lib.hid (L4.out.next a5.bel); have X5 := Lib.hid ((W1.out.below L5.out.bel).all'); clear a5))
  all_goals
    have BK5 := Lib.hid (BK1.out.upd (Upd.of_below (S := fun _ => False) L5.out.bel) (fun h => h))
    have y0 : w5.cell? ⟨w.heap.size, 0, none⟩ = some (.int .u16 c0) := BK5.out.cell rfl
    have y1 : w5.cell? ⟨w.heap.size, 1, none⟩ = some (.int .u16 c1) := BK5.out.cell rfl
    have y2 : w5.cell? ⟨w.heap.size, 2, none⟩ = some (.int .u16 c2) := BK5.out.cell rfl
    have y3 : w5.cell? ⟨w.heap.size, 3, none⟩ = some (.int .u16 c3) := BK5.out.cell rfl
    clear X3 X4 X5 XD HC1 HW3 HR4 L2 LD L3 L4 BK1
    go_wp2_with fail
    (with_reducible refine (HRC.out _ _ _ L5.out.dev).mono ?_)
    rintro e w6 ⟨ks, g, _, rfl, q6, b6⟩
    rw [show D.img ks = D.cur from funext (CL.out.img ks)] at q6
    have Q6 := Lib.hid q6; have T6 := Lib.hid (T5.out.below b6); have L6 := Lib.hid (L5.out.next b6)
    clear q6 b6 y0 y1 y2 y3 T5 L5
    go_wp2_with fail
    (with_reducible refine (eqW Q6.out T6.out).mono ?_)
    rintro e w7 ⟨rfl, b7⟩
    have L7 := Lib.hid (L6.out.next b7); clear b7
    go_wp2_with fail
    go_ret
    exact ⟨rfl, B1.out.trans (L7.out.bel.mono B1.out.size)⟩
end
end Go.Proofs.YtokgplgdaememaaDoor

/- The arguments of UndoTwice: opened. -/
namespace Go.Proofs.YtokgplgdaememaaDoor
open Go.ChangeShapes Go.WideShapes Go.ChangeAt Go.RowKit Go.Joins Go.Deep

section
variable {H : Type} {enc : TypeId × Value → H}
theorem spoB_len (l : List (Nat × Int)) : (spoB l).length = l.length * 2 := by
  induction l with
  | nil => rfl
  | cons e l ih => simp [spoB] at *; omega
set_option maxRecDepth 100000 in
theorem open_spoils16 {W : World} {base b : Nat} {sp : Nat → Bool} {hd : Bool} {v : Value} {d : DataW H} {p : List MemPlace} (hv : Value.okWide Tryd.prog W .any b 80 v) (h : DataW.Trod enc Tryd.prog W base sp hd 80 v d p) :
    ∃ l : List (Nat × Int), RdSl W 2 v l.length (spoB l) ∧ l.length ≤ maxLen ∧ ∀ e ∈ l, e.1 < 256 ∧ 0 ≤ e.2 ∧ e.2 < 18446744073709551616 := by
  obtain ⟨a0, len, cap, rfl⟩ := okWide_slice Tryd.underlying80 hv
  obtain ⟨fuel, hf⟩ := h
  obtain ⟨a, n, c, xs, hv', hrd, hn, hfl⟩ := open_structs Tryd.underlying80 Tryd.underlying140 (by kernel_rfl) (by kernel_rfl) (by decide) hf
  obtain ⟨rfl, rfl, rfl⟩ : a0 = a ∧ len = n ∧ cap = c := by simpa using hv'
  have key : ∀ i, i < len → ∃ (x : Nat) (y : Int), xs[i * 2]? = some (.int .u8 x) ∧ xs[i * 2 + 1]? = some (.int .u64 y) ∧ x < 256 ∧ (0 ≤ y ∧ y < 18446744073709551616) := by
    intro i hi
    obtain ⟨q, hq⟩ := hfl i hi
    obtain ⟨u0, y0, e0, t0⟩ := hq 0 _ rfl
    obtain ⟨u1, y1, e1, t1⟩ := hq 1 _ rfl
    obtain ⟨x0, h0, _, w0⟩ := DataW.trod_int Tryd.underlying5 t0
    obtain ⟨x1, h1, _, w1⟩ := DataW.trod_int Tryd.underlying35 t1
    simp only [List.cons.injEq, and_true] at h0 h1
    subst h0 h1
    obtain ⟨m0, rfl, b0⟩ := u8_nat w0
    have b1 := u64_in w1
    exact ⟨m0, _, e0, e1, b0, b1⟩
  let l : List (Nat × Int) := (List.range len).map fun i => ((intOf (xs.getD (i * 2) (.bool false))).toNat, intOf (xs.getD (i * 2 + 1) (.bool false)))
  have hll : l.length = len := by simp [l]
  have hget : ∀ i, i < len → ∀ (x : Nat) (y : Int), xs[i * 2]? = some (.int .u8 x) → xs[i * 2 + 1]? = some (.int .u64 y) → l[i]? = some (x, y) := by
    intro i hi x y h0 h1
    simp only [l, List.getElem?_map, List.getElem?_range hi, Option.map_some, List.getD, h0, h1, Option.getD_some, intOf, Int.toNat_natCast]
  have hx : spoB l = xs := by
    have hxl : xs.length = len * 2 := hrd.1
    refine List.ext_getElem? fun j => ?_
    by_cases hj : j < len * 2
    · obtain ⟨x, y, h0, h1, _, _⟩ := key (j / 2) (by omega)
      obtain ⟨g0, g1⟩ := spoB_get l (j / 2) _ (hget (j / 2) (by omega) x y h0 h1)
      obtain hm | hm : j % 2 = 0 ∨ j % 2 = 1 := by omega
      · rw [show j = j / 2 * 2 by omega, h0]; exact g0
      · rw [show j = j / 2 * 2 + 1 by omega, h1]; exact g1
    · rw [List.getElem?_eq_none (by rw [spoB_len]; omega), List.getElem?_eq_none (by omega)]
  refine ⟨l, by rw [hll, hx]; exact hrd, by omega, fun e he => ?_⟩
  obtain ⟨i, hi, rfl⟩ := List.getElem_of_mem he
  have hi' : i < len := by omega
  obtain ⟨x, y, h0, h1, hy, hz⟩ := key i hi'
  have := hget i hi' x y h0 h1
  rw [List.getElem?_eq_getElem hi] at this
  rw [Option.some.inj this]
  exact ⟨hy, hz⟩
theorem cells_u16 : Tryd.prog.cellsOf 89 = 1 := by kernel_rfl
theorem cells_arr : Tryd.prog.cellsOf 90 = 4 := by kernel_rfl
theorem u16_in {x : Int} (h : (Lit.int .u16 x).wf = true) : 0 ≤ x ∧ x < 65536 := by
  simp [Lit.wf, IntKind.min, IntKind.max, IntKind.signed, IntKind.bits] at h
  exact ⟨by omega, by omega⟩
set_option maxRecDepth 100000 in
theorem open_cut {W : World} {base b : Nat} {sp : Nat → Bool} {hd : Bool} {v : Value} {d : DataW H} {p : List MemPlace} (hv : Value.okWide Tryd.prog W .any b 90 v) (h : DataW.Trod enc Tryd.prog W base sp hd 90 v d p) :
    ∃ c0 c1 c2 c3 : Int, v = .agg #[.int .u16 c0, .int .u16 c1, .int .u16 c2, .int .u16 c3] ∧ (0 ≤ c1 ∧ c1 < 65536) ∧ (0 ≤ c2 ∧ c2 < 65536) ∧ (0 ≤ c3 ∧ c3 < 65536) := by
  simp only [Value.okWide, Tryd.underlying90] at hv
  obtain ⟨cs, rfl, hsz, _⟩ := hv
  rw [cells_arr] at hsz
  obtain ⟨l⟩ := cs
  obtain ⟨v0, v1, v2, v3, rfl⟩ : ∃ v0 v1 v2 v3, l = [v0, v1, v2, v3] := by
    match l, hsz with
    | [a, b, c, d], _ => exact ⟨a, b, c, d, rfl⟩
  obtain ⟨fuel, hf⟩ := h
  obtain ⟨y0, y1, y2, y3, m, _, hy0, hy1, hy2, hy3⟩ := trod_array4 Tryd.underlying90 cells_u16 hf
  obtain ⟨x0, e0, _, w0⟩ := DataW.trod_int Tryd.underlying89 hy0
  obtain ⟨x1, e1, _, w1⟩ := DataW.trod_int Tryd.underlying89 hy1
  obtain ⟨x2, e2, _, w2⟩ := DataW.trod_int Tryd.underlying89 hy2
  obtain ⟨x3, e3, _, w3⟩ := DataW.trod_int Tryd.underlying89 hy3
  simp at e0 e1 e2 e3
  subst e0 e1 e2 e3
  exact ⟨x0, x1, x2, x3, rfl, u16_in w1, u16_in w2, u16_in w3⟩
end
end Go.Proofs.YtokgplgdaememaaDoor

/- UndoTwice returns true for every input, over the listed variable as the program's text lays it: a recovery that is cut at any instruction, and repeated on any image, has the same result as one that is not. No condition besides. -/
namespace Go.Proofs.YtokgplgdaememaaDoor
open Go.ChangeShapes Go.WideShapes Go.ChangeAt Go.RowKit Go.Joins

set_option maxRecDepth 100000 in
theorem undoTwice_lifted (os : Os) (started : os.Started) (H : Type) (enc : TypeId × Value → H) :
    ReturnsInHanded {} Tryd.checked os 9 .any (fun w args => (Rows.undoTwiceSpec.pre enc Tryd.prog Tryd.f9 Rows.undoTwiceRow.domain false w args ∧ laidMetH Tryd.prog laidU w) ∧ sizedMet enc Tryd.prog Tryd.f9 (OpenSpec.ofChange Rows.undoTwiceSpec) false w args)
      (Rows.undoTwiceSpec.post enc Tryd.prog Tryd.f9 false true false false) := by
  refine returnsInHanded_of_change_and (C := Tryd.checked) (X := fun w _ => laidMetH Tryd.prog laidU w) (fun _ _ _ hh h => h.of_heap hh) own_knob started (by kernel_rfl) Tryd.func9
    (ChangeSpec.witness_shaped (enc := enc) (C := Tryd.checked) (os := os) (X := fun w _ => laidMetH Tryd.prog laidU w) false (World.laidAll Tryd.prog os laidU) #[.int .u64 0, .slice none 0 0, .agg #[.int .u16 0, .int .u16 0, .int .u16 0, .int .u16 0]] 8 (World.laidAll_os _ _ _)
      (World.shaped_of_ZipB (by kernel_rfl) (by kernel_rfl)) (by kernel_rfl) (by kernel_rfl) (by kernel_rfl)
      (by rw [MakeChecks.laidMetH_plain _ _ _ (by kernel_rfl)]; exact laidMet_laidAll _ (by kernel_rfl) (by kernel_rfl))) ?_
  intro W base args ds gs before hval0 hW _ _ hL _
  have hval : ∀ (j : Nat) t v, Tryd.f9.params[j]? = some t → args[j]? = some v → Value.okWide Tryd.prog W .any base t v := hval0
  have hW' := hW
  have HWH := wh_of_laid hL
  obtain ⟨p, q, hA0, hV, rfl, hfz, hnd⟩ := hW
  have hA : DataW.TrodAll enc Tryd.prog W 0 (fun _ => true) true Tryd.f9.params.toList args.toList ds p := hA0
  rw [Tryd.params9] at hA hval
  clear hA0 hval0
  obtain ⟨v0, vs0, d0, ds0, p0, q0, hargs, rfl, rfl, h0, r0⟩ := trodAll_cons hA
  obtain ⟨v1, vs1, d1, ds1, p1, q1, hargs1, rfl, rfl, h1, r1⟩ := trodAll_cons r0
  obtain ⟨v2, vs2, d2, ds2, p2, q2, hargs2, rfl, rfl, h2, r2⟩ := trodAll_cons r1
  obtain ⟨rfl, rfl, rfl⟩ := trodAll_nil r2
  obtain rfl : args = #[v0, v1, v2] := by cases args; simp_all
  obtain ⟨l, hs, hn, hb⟩ := open_spoils16 (hval 1 80 v1 rfl rfl) h1
  obtain ⟨x0, rfl, _, _, hw0⟩ := open_int Tryd.underlying35 (hval 0 35 v0 rfl rfl) h0
  obtain ⟨c0, c1, c2, c3, rfl, k1, k2, k3⟩ := open_cut (hval 2 90 v2 rfl rfl) h2
  refine (undoTwice_any HWH x0 (u64_in hw0) v1 l hs hb hn c0 c1 c2 c3 k1 k2 k3).mono fun e W' ⟨he, hg⟩ => ?_
  subst he
  refine ⟨_, rfl, law_post hW' rfl (by kernel_rfl) rfl ?_ hg⟩
  rw [Tryd.params9]
  intro t ht
  have hall : ([35, 80, 90].all fun t => Tryd.prog.readableRec t && decide (t < Tryd.prog.types.size)) = true := by kernel_rfl
  have := List.all_eq_true.1 hall t ht
  simpa using this

theorem undoTwice_row : Rows.UndoTwiceSaid :=
  OpenClaim.holds_of_wide 9 Tryd.f9 rfl rfl rfl rfl rfl rfl rfl ⟨rfl, rfl, rfl, rfl, rfl⟩ rfl rfl rfl rfl rfl (by kernel_rfl) Tryd.func9 (by kernel_rfl)
    (of_decide_eq_true (by kernel_rfl)) (by unfold Func.isWrapper; first | (rw [if_pos (by decide +kernel)]; kernel_rfl) | (rw [if_neg (by decide +kernel)]; exact ⟨rfl, rfl⟩))
    (fun os started H enc _ => undoTwice_lifted os started H enc)
theorem undoTwice_holds : Rows.UndoTwiceCardSaid :=
  Claim7.holds_tied_plain_at .later [] [.data] true (true, "5d02ff41f4c91551bdde88e9d7154ed27509754a1175b7e710bd6818def5a27d") false undoTwice_row (fun _ h => by cases h) (by kernel_rfl) (fun _ h => by cases h) undoTwice_row_tie rfl ⟨rfl, rfl⟩ (by kernel_rfl) rfl
    (fun f fn hf hfn => by
      obtain rfl : f = 9 := Option.some.inj ((show Tryd.prog.funcNamed "bedrock/bedrocklaw16.UndoTwice" = some 9 by kernel_rfl).symm.trans hf) |>.symm
      obtain rfl : fn = Tryd.f9 := (Option.some.inj (Tryd.func9.symm.trans hfn)).symm
      exact ⟨by kernel_rfl, fun j t ht => by
        rw [Tryd.params9] at ht
        have hm : t ∈ [35, 80, 90] := by simpa using Array.mem_of_getElem? ht
        have hall : ([35, 80, 90].all fun u => !Tryd.prog.wantsStandIn u) = true := by kernel_rfl
        exact (show Tryd.prog.wantsStandIn t = false by simpa using List.all_eq_true.1 hall t hm)⟩)
    (by kernel_rfl)
#print axioms undoTwice_holds
end Go.Proofs.YtokgplgdaememaaDoor
