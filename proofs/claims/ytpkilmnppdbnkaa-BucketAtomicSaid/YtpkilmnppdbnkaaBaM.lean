/- Plain: a bucket's program that is cut: what its words read as, now and in every image. No program in sight. -/
import Derived.Test.YtpkilmnppdbnkaaCsG
import Derived.Test.YtpkilmnppdbnkaaBkL
namespace Go.Proofs.Ytpkilmnppdbnkaa
open Go.RowKit

/-- The device behind some instructions of a program. -/
structure BaAt (D : Dev) (off : Nat) (E0 E1 : List (Int × Int)) (n x : Nat) : Prop where
  vb : D.VB
  on : OnJ D 0 n
  img : ∀ ks, entB (D.img ks) off 7 = E0 ∨ entB (D.img ks) off 7 = E1
  cnt : prodN (basesL D) ≤ 64
  few : ∀ l, (D.hist l).length ≤ 6
  ex : D.exec ≤ x
theorem BaAt.cur {D : Dev} {off : Nat} {E0 E1 : List (Int × Int)} {n x : Nat} (h : BaAt D off E0 E1 n x) : entB D.cur off 7 = E0 ∨ entB D.cur off 7 = E1 := by
  rw [← img_all]
  exact h.img _
/-- A program of groups in whose midst a bucket has one of two contents. -/
structure TwoB (C : Nat → Int) (off : Nat) (E0 E1 : List (Int × Int)) (gs : List Gr) (n : Nat) : Prop where
  ok : ∀ g ∈ gs, groupOkX n g
  val : ∀ e ∈ gs.flatMap (·.1), 0 ≤ e.2 ∧ e.2 < 18446744073709551616
  few : (gs.flatMap (·.1)).length ≤ 3
  two : ∀ (a : Nat) (ws : List (Nat × Int)), a ≤ gs.length → (∃ t, (gs[a]?.map (·.1)).getD [] = ws ++ t) → ∀ (f : Nat → Int) (ks : Nat → Nat),
    (∀ i, f i = look (((laidX (C, fun _ => []) (gs.take a)).2 (i / 8) ++ filtL ws (i / 8)).take (ks (i / 8))) ((laidX (C, fun _ => []) (gs.take a)).1 i) i) → entB f off 7 = E0 ∨ entB f off 7 = E1
theorem groups_val {gs : List Gr} (hv : ∀ e ∈ gs.flatMap (·.1), 0 ≤ e.2 ∧ e.2 < 18446744073709551616) : valP (groupsP gs) := by
  intro e he h1
  obtain ⟨g, hg2, he⟩ := List.mem_flatMap.1 he
  unfold groupP at he
  rcases List.mem_append.1 he with he | he
  · rcases List.mem_append.1 he with he | he
    · obtain ⟨y, hy, rfl⟩ := List.mem_map.1 he
      exact hv y (List.mem_flatMap.2 ⟨g, hg2, hy⟩)
    · obtain ⟨y, hy, rfl⟩ := List.mem_map.1 he; cases h1
  · simp at he; subst he; cases h1
theorem ba_at_k {D : Dev} {n x off : Nat} {C : Nat → Int} {E0 E1 : List (Int × Int)} {gs : List Gr} (T : TwoB C off E0 E1 gs n) (h : BCl D n C x) (k : Nat) (hk : k ≤ (groupsP gs).length) : BaAt (D.run 0 ((groupsP gs).take k)) off E0 E1 n (x + k) := by
  obtain ⟨a, ws, hF, _⟩ := runX_far gs k h.grp.gx T.ok hk (.inl h.ar)
  obtain ⟨fs, hG⟩ := hF.grp
  obtain ⟨vs, v1, v2⟩ := laid_filt (gs.take a) (C, fun _ => []) [] (fun l => rfl)
  have hh : ∀ l, (D.run 0 ((groupsP gs).take k)).hist l = filtL (vs ++ ws) l := fun l => by rw [hG.hist, v1, filtL_append]
  have hl1 : ((gs.take a).flatMap (·.1)).length ≤ 3 := by
    refine Nat.le_trans ?_ T.few
    have e : gs.flatMap (·.1) = (gs.take a).flatMap (·.1) ++ (gs.drop a).flatMap (·.1) := by rw [← List.flatMap_append, List.take_append_drop]
    rw [e, List.length_append]; omega
  have hl2 : ws.length ≤ 3 := by
    obtain ⟨t, ht⟩ := hF.pre
    cases hg : gs[a]? with
    | none =>
      rw [hg] at ht
      have := congrArg List.length ht
      simp at this; omega
    | some g =>
      rw [hg] at ht
      simp at ht
      have hm := List.mem_of_getElem? hg
      obtain ⟨l1, l2, e⟩ := List.append_of_mem hm
      have := T.few
      rw [e, List.flatMap_append, List.flatMap_cons, ht] at this
      simp at this; omega
  have hlen : (vs ++ ws).length ≤ 6 := by have v3 : vs.length ≤ 0 + ((gs.take a).flatMap (·.1)).length := v2; rw [List.length_append]; omega
  refine ⟨Dev.VB.run _ h.vb 0 (fun e he => groups_val T.val e (List.mem_of_mem_take he)), hG.on, fun ks => ?_, ?_, fun l => ?_, ?_⟩
  · refine T.two a ws hF.le hF.pre _ ks fun i => ?_
    show look (((D.run 0 ((groupsP gs).take k)).hist (i / 8)).take (ks (i / 8))) ((D.run 0 ((groupsP gs).take k)).pers i) i = _
    rw [hG.hist, hG.pers]
  · refine Nat.le_trans (bases_le hh) ?_
    exact Nat.le_trans (Nat.pow_le_pow_right (by omega) hlen) (by decide)
  · rw [hh]
    exact Nat.le_trans (List.length_filter_le _ _) hlen
  · have h1 := D.run_exec 0 ((groupsP gs).take k)
    have h2 := h.exec
    have h3 : ((groupsP gs).take k).length ≤ k := by rw [List.length_take]; omega
    omega
theorem entB_congr {f g : Nat → Int} (h : ∀ i, f i = g i) (off : Nat) : entB f off 7 = entB g off 7 := by rw [show f = g from funext h]
/-- The words of a free slot are not read. -/
theorem entB_free {f C : Nat → Int} {off s : Nat} (hu : usedB (bkH C off) s = false) (h : ∀ i, i ≠ off / 8 + 2 + 2 * s → i ≠ off / 8 + 3 + 2 * s → f i = C i) : entB f off 7 = entB C off 7 := by
  have hH : bkH f off = bkH C off := by unfold bkH; rw [h _ (by omega) (by omega)]
  unfold entB
  refine congrArg (fun g => (List.range 7).flatMap g) (funext fun t => ?_)
  unfold slotE
  rw [hH]
  by_cases e : t = s
  · subst e; rw [hu]; rfl
  · unfold bkK bkV
    rw [h _ (by omega) (by omega), h _ (by omega) (by omega)]
theorem getD_pre {α : Type} {gs : List (List α × List Nat)} {a : Nat} {ws : List α} (h : ∃ t, (gs[a]?.map (·.1)).getD [] = ws ++ t) (ha : gs.length ≤ a) : ws = [] := by
  obtain ⟨t, ht⟩ := h
  rw [List.getElem?_eq_none ha] at ht
  have := congrArg List.length ht
  simp at this
  exact List.eq_nil_of_length_eq_zero (by omega)
theorem filt_one (o : Nat) (v : Int) (l : Nat) : filtL [(o, v)] l = if o / 64 = l then [(o, v)] else [] := by
  unfold filtL
  by_cases h : o / 64 = l <;> simp [h]
theorem hit_one (o l : Nat) : hitB [64 * (o / 64)] l = decide (o / 64 = l) := by
  unfold hitB
  rw [Bool.eq_iff_iff]
  simp
/-- A program that stores one word. -/
theorem two_one {C : Nat → Int} {off o n : Nat} {v : Int} (h8 : o % 8 = 0) (hl : o < 64 * n) (hv : 0 ≤ v ∧ v < 18446744073709551616) :
    TwoB C off (entB C off 7) (entB (fun i => if o / 8 = i then v else C i) off 7) [([(o, v)], [64 * (o / 64)])] n := by
  refine ⟨fun g hg => ?_, fun e he => ?_, by simp, fun a ws ha hpre f ks hf => ?_⟩
  · simp at hg; subst hg
    exact ⟨fun e he => by simp at he; subst he; exact ⟨h8, hl⟩, fun q hq => by simp at hq; subst hq; omega⟩
  · simp at he; subst he; exact hv
  · have ha1 : a = 0 ∨ a = 1 := by simp at ha; omega
    rcases ha1 with rfl | rfl
    · obtain ⟨t, ht⟩ := hpre
      have ht2 : [(o, v)] = ws ++ t := by simpa using ht
      cases ws with
      | nil =>
        left
        refine entB_congr (fun i => ?_) off
        rw [hf]
        show look ((([] : List (Nat × Int)) ++ []).take _) (C i) i = C i
        simp [look]
      | cons e ws =>
        obtain ⟨rfl, h2⟩ : (o, v) = e ∧ [] = ws ++ t := by simpa using ht2
        obtain ⟨rfl, rfl⟩ : ws = [] ∧ t = [] := by simpa using h2.symm
        have hf2 : ∀ i, f i = look ((if o / 64 = i / 8 then [(o, v)] else []).take (ks (i / 8))) (C i) i := fun i => by
          rw [hf, filt_one]; rfl
        by_cases hk : ks (o / 64) = 0
        · left
          refine entB_congr (fun i => ?_) off
          rw [hf2]
          by_cases e : o / 64 = i / 8
          · rw [← e, hk]; rfl
          · rw [if_neg e]; simp [look]
        · right
          refine entB_congr (fun i => ?_) off
          rw [hf2]
          by_cases e : o / 64 = i / 8
          · rw [if_pos e, ← e, List.take_of_length_le (by simp; omega)]
            rfl
          · rw [if_neg e, if_neg (by omega)]; simp [look]
    · have hw := getD_pre hpre (by simp)
      subst hw
      right
      refine entB_congr (fun i => ?_) off
      rw [hf]
      show look (((if hitB [64 * (o / 64)] (i / 8) = true then [] else [] ++ filtL [(o, v)] (i / 8)) ++ []).take _) (if hitB [64 * (o / 64)] (i / 8) = true then look ([] ++ filtL [(o, v)] (i / 8)) (C i) i else C i) i = _
      rw [hit_one, filt_one]
      by_cases e : o / 64 = i / 8
      · simp [e, look]
      · rw [if_neg (by omega : ¬ o / 8 = i)]
        simp [e, look]
/-- A new entry's program. -/
theorem two_new {C : Nat → Int} {off s n : Nat} {k v : Int} {hd : Nat} (h8 : off % 8 = 0) (hs : s < 7) (hl : off + 128 ≤ 64 * n) (hk : 0 ≤ k ∧ k < 18446744073709551616) (hv : 0 ≤ v ∧ v < 18446744073709551616) (hh : hd < 18446744073709551616) (hu : usedB (bkH C off) s = false) :
    TwoB C off (entB C off 7) (entB (newC C off s k v hd) off 7) (newGs off s k v hd) n := by
  have e1 : bkKey off s / 8 = off / 8 + 2 + 2 * s := by unfold bkKey; omega
  have e2 : (bkKey off s + 8) / 8 = off / 8 + 3 + 2 * s := by unfold bkKey; omega
  have hnew : ∀ i, newC C off s k v hd i = look [(bkKey off s, k), (bkKey off s + 8, v), (off, (hd : Int))] (C i) i := fun i => by
    unfold newC
    simp only [look, List.foldl_cons, List.foldl_nil, e1, e2]
  have hold : ∀ (f : Nat → Int) (q : Nat → List (Nat × Int)), (∀ i, f i = look (q i) (C i) i) → (∀ i, ∀ e ∈ q i, e = (bkKey off s, k) ∨ e = (bkKey off s + 8, v)) → entB f off 7 = entB C off 7 := fun f q hf hq => by
    refine entB_free hu fun i h1 h2 => ?_
    rw [hf]
    refine look_other _ _ _ fun e he => ?_
    rcases hq i e he with rfl | rfl
    · rw [e1]; exact fun h => h1 h.symm
    · rw [e2]; exact fun h => h2 h.symm
  have hall : ∀ (f : Nat → Int), (∀ i, f i = look [(bkKey off s, k), (bkKey off s + 8, v), (off, (hd : Int))] (C i) i) → entB f off 7 = entB (newC C off s k v hd) off 7 := fun f hf => entB_congr (fun i => by rw [hf, hnew]) off
  refine ⟨newGs_ok k v hd h8 hs hl, fun e he => ?_, by rw [newGs_flat]; simp, fun a ws ha hpre f ks hf => ?_⟩
  · rw [newGs_flat] at he
    simp at he
    rcases he with rfl | rfl | rfl
    · exact hk
    · exact hv
    · exact ⟨by simp only; omega, by simp only; omega⟩
  · by_cases hend : (newGs off s k v hd).length ≤ a
    · right
      have hw := getD_pre hpre hend
      subst hw
      rw [List.take_of_length_le hend] at hf
      refine hall f fun i => ?_
      have hc := newGs_clean off s k v hd (S := (C, fun _ => [])) (fun _ => rfl) (i / 8)
      have := curX_laid (newGs off s k v hd) (C, fun _ => []) i
      unfold curX at this
      rw [hc, newGs_flat] at this
      rw [hf, hc]
      simpa [look, filtL] using this
    · obtain ⟨t, ht⟩ := hpre
      unfold newGs at hend hf ht
      by_cases ho : bkOther off s = []
      · rw [if_pos ho] at hend hf ht
        obtain rfl : a = 0 := by simp at hend; omega
        have ht2 : [(bkKey off s, k), (bkKey off s + 8, v), (off, (hd : Int))] = ws ++ t := by simpa using ht
        have hf2 : ∀ i, f i = look ((filtL ws (i / 8)).take (ks (i / 8))) (C i) i := fun i => by rw [hf]; rfl
        have hin : ∀ q ∈ [bkKey off s, bkKey off s + 8], q / 64 = off / 64 := fun q hq => by
          by_cases hx : q / 64 = off / 64
          · exact hx
          · have : q ∈ bkOther off s := List.mem_filter.2 ⟨hq, by simpa using hx⟩
            rw [ho] at this; simp at this
        have l1 := hin (bkKey off s) (by simp); have l2 := hin (bkKey off s + 8) (by simp)
        have hsub : ∀ j, j ≤ 2 → ∀ e ∈ ([(bkKey off s, k), (bkKey off s + 8, v), (off, (hd : Int))] : List (Nat × Int)).take j, e = (bkKey off s, k) ∨ e = (bkKey off s + 8, v) := fun j hj e he => by
          have h2 : ([(bkKey off s, k), (bkKey off s + 8, v), (off, (hd : Int))] : List (Nat × Int)).take j = ([(bkKey off s, k), (bkKey off s + 8, v)] : List (Nat × Int)).take j := by
            obtain rfl | rfl | rfl : j = 0 ∨ j = 1 ∨ j = 2 := by omega
            all_goals rfl
          rw [h2] at he
          have := List.mem_of_mem_take he
          simpa using this
        have hwt : ws = ([(bkKey off s, k), (bkKey off s + 8, v), (off, (hd : Int))] : List (Nat × Int)).take ws.length := by rw [ht2]; simp
        by_cases h3 : ws.length ≤ 2
        · left
          exact hold f _ hf2 fun i e he => hsub ws.length h3 e (by rw [← hwt]; exact (List.mem_filter.1 (List.mem_of_mem_take he)).1)
        · have hA : ws = [(bkKey off s, k), (bkKey off s + 8, v), (off, (hd : Int))] := by
            rw [hwt]
            exact List.take_of_length_le (by simp; omega)
          subst hA
          have hfl : ∀ l, filtL [(bkKey off s, k), (bkKey off s + 8, v), (off, (hd : Int))] l = if off / 64 = l then [(bkKey off s, k), (bkKey off s + 8, v), (off, (hd : Int))] else [] := fun l => by
            unfold filtL
            by_cases e : off / 64 = l
            · simp [l1, l2, e]
            · simp [l1, l2, e]
          by_cases hj : ks (off / 64) ≤ 2
          · left
            refine hold f _ hf2 fun i e he => ?_
            rw [hfl] at he
            by_cases e : off / 64 = i / 8
            · rw [if_pos e, ← e] at he
              exact hsub _ hj _ he
            · rw [if_neg e] at he; simp at he
          · right
            refine hall f fun i => ?_
            rw [hf2, hfl]
            by_cases e : off / 64 = i / 8
            · rw [if_pos e, ← e, List.take_of_length_le (by simp; omega)]
            · rw [if_neg e, List.take_nil]
              symm
              refine look_other _ _ _ fun x hx => ?_
              simp at hx
              rcases hx with rfl | rfl | rfl
              · simp only; omega
              · simp only; omega
              · simp only; omega
      · rw [if_neg ho] at hend hf ht
        have ha2 : a = 0 ∨ a = 1 := by simp at hend; omega
        rcases ha2 with rfl | rfl
        · have ht2 : [(bkKey off s, k), (bkKey off s + 8, v)] = ws ++ t := by simpa using ht
          left
          refine hold f (fun i => (filtL ws (i / 8)).take (ks (i / 8))) (fun i => by rw [hf]; rfl) fun i e he => ?_
          have h1 := (List.mem_filter.1 (List.mem_of_mem_take he)).1
          have h2 : e ∈ [(bkKey off s, k), (bkKey off s + 8, v)] := by rw [ht2]; exact List.mem_append_left _ h1
          simpa using h2
        · have ht2 : [(off, (hd : Int))] = ws ++ t := by simpa using ht
          have hnh : hitB (lineOffs (bkOther off s)) (off / 64) = false := by
            cases e : hitB (lineOffs (bkOther off s)) (off / 64)
            · rfl
            · obtain ⟨q, hq, hq2⟩ := (hitB_iff _ _).1 e
              obtain ⟨l, hlm, rfl⟩ := List.mem_map.1 hq
              obtain ⟨x, hx, rfl⟩ := (linesL_mem _ _).1 hlm
              have := (List.mem_filter.1 hx).2
              simp at this
              omega
          have hhit : ∀ l, hitB (lineOffs (bkOther off s)) l = false → l ≠ off / 64 → ∀ q ∈ [bkKey off s, bkKey off s + 8], q / 64 ≠ l := fun l h1 h2 q hq he => by
            have : hitB (lineOffs (bkOther off s)) l = true := (hitB_iff _ _).2 ⟨64 * (q / 64), List.mem_map.2 ⟨q / 64, (linesL_mem _ _).2 ⟨q, List.mem_filter.2 ⟨hq, by simpa using fun e => h2 (by omega)⟩, rfl⟩, rfl⟩, by omega⟩
            rw [h1] at this; cases this
          have hf2 : ∀ i, f i = look (((if hitB (lineOffs (bkOther off s)) (i / 8) = true then [] else filtL [(bkKey off s, k), (bkKey off s + 8, v)] (i / 8)) ++ filtL ws (i / 8)).take (ks (i / 8))) (if hitB (lineOffs (bkOther off s)) (i / 8) = true then look (filtL [(bkKey off s, k), (bkKey off s + 8, v)] (i / 8)) (C i) i else C i) i := fun i => by rw [hf]; rfl
          obtain ⟨G, hG⟩ : ∃ G : List (Nat × Int), [(bkKey off s, k), (bkKey off s + 8, v)] = G := ⟨_, rfl⟩
          rw [hG] at hf2
          have hGm : ∀ e ∈ G, e = (bkKey off s, k) ∨ e = (bkKey off s + 8, v) := fun e he => by rw [← hG] at he; simpa using he
          have hwl : ∀ l, l ≠ off / 64 → filtL ws l = [] := fun l hne => by
            unfold filtL
            rw [List.filter_eq_nil_iff]
            intro e he
            have : e ∈ [(off, (hd : Int))] := by rw [ht2]; exact List.mem_append_left _ he
            simp at this
            subst this
            simp
            omega
          by_cases hcase : ws = [] ∨ ks (off / 64) ≤ (filtL G (off / 64)).length
          · left
            refine hold f (fun i => if hitB (lineOffs (bkOther off s)) (i / 8) = true then filtL G (i / 8) else ((filtL G (i / 8)).take (ks (i / 8)))) (fun i => ?_) fun i e he => ?_
            · rw [hf2]
              by_cases hh : hitB (lineOffs (bkOther off s)) (i / 8) = true
              · simp only [if_pos hh]
                rw [hwl (i / 8) (fun e => by rw [e, hnh] at hh; cases hh)]
                simp [look]
              · simp only [if_neg hh]
                rcases hcase with rfl | hc
                · rw [show filtL [] (i / 8) = [] from rfl, List.append_nil]
                · by_cases e : i / 8 = off / 64
                  · rw [e, List.take_append_of_le_length hc]
                  · rw [hwl _ e, List.append_nil]
            · by_cases hh : hitB (lineOffs (bkOther off s)) (i / 8) = true
              · simp only [if_pos hh] at he
                exact hGm e (List.mem_filter.1 he).1
              · simp only [if_neg hh] at he
                exact hGm e (List.mem_filter.1 (List.mem_of_mem_take he)).1
          · right
            have hwne : ws ≠ [] := fun h => hcase (.inl h)
            have hkk : (filtL G (off / 64)).length < ks (off / 64) := Nat.lt_of_not_le fun h => hcase (.inr h)
            have hws : ws = [(off, (hd : Int))] := by
              cases ws with
              | nil => exact absurd rfl hwne
              | cons e ws =>
                obtain ⟨rfl, h2⟩ : (off, (hd : Int)) = e ∧ [] = ws ++ t := by simpa using ht2
                obtain ⟨rfl, rfl⟩ : ws = [] ∧ t = [] := by simpa using h2.symm
                rfl
            refine hall f fun i => ?_
            have hsp : ([(bkKey off s, k), (bkKey off s + 8, v), (off, (hd : Int))] : List (Nat × Int)) = G ++ [(off, (hd : Int))] := by rw [← hG]; rfl
            rw [hsp, look_append, hf2]
            by_cases e : i / 8 = off / 64
            · rw [e, hnh, hws, filt_one, if_pos rfl, List.take_of_length_le (by simp; omega)]
              simp only [Bool.false_eq_true, if_false]
              rw [look_append, ← e, look_filt]
            · rw [hwl _ e]
              have ho1 : ∀ d : Int, look [(off, (hd : Int))] d i = d := fun d => look_other _ _ _ fun x hx => by simp at hx; subst hx; simp only; omega
              rw [ho1, List.append_nil]
              by_cases hh : hitB (lineOffs (bkOther off s)) (i / 8) = true
              · simp only [if_pos hh]
                rw [look_filt]; simp [look]
              · simp only [if_neg hh]
                have hno := hhit (i / 8) (by simpa using hh) e
                have hGo : ∀ x ∈ G, x.1 / 8 ≠ i := fun x hx => by
                  rcases hGm x hx with rfl | rfl
                  · have := hno (bkKey off s) (by simp); simp only; omega
                  · have := hno (bkKey off s + 8) (by simp); simp only; omega
                rw [look_other _ _ _ hGo]
                refine look_other _ _ _ fun x hx => ?_
                exact hGo x (List.mem_filter.1 (List.mem_of_mem_take hx)).1
/-- Put's program. -/
theorem two_put {C : Nat → Int} {off k n : Nat} {v : Int} (h8 : off % 8 = 0) (hl : off + 128 ≤ 64 * n) (hk : k < 18446744073709551616) (hv : 0 ≤ v ∧ v < 18446744073709551616) (hh : bkH C off < 18446744073709551616) (h0 : putE C off k = 0) :
    ∃ gs, putL C off k v = groupsP gs ∧ TwoB C off (entB C off 7) (entB (putC C off k v) off 7) gs n := by
  unfold putE at h0
  unfold putL putC
  rcases fnd_cases C off k with ⟨e, _⟩ | ⟨s, e, hs, _⟩
  · have hz : ¬ (0 : Int) ≤ fstK (rfB C off k) 7 := by omega
    rw [if_neg hz] at h0
    rw [if_neg hz, if_neg hz]
    rcases fre_cases (bkH C off) with ⟨e2, _⟩ | ⟨s, e2, hs, hu⟩
    · rw [if_neg (by omega)] at h0; cases h0
    · have hz2 : (0 : Int) ≤ freI (bkH C off) := by omega
      rw [if_pos hz2, if_pos hz2, e2]
      simp only [Int.toNat_natCast]
      exact ⟨newGs off s k v (markN (bkH C off) s k), newGs_eq _ _ _ _ _, two_new h8 hs hl ⟨by omega, by omega⟩ hv (markN_lt hh hs k) hu⟩
  · rw [if_pos (by omega), if_pos (by omega), e]
    simp only [Int.toNat_natCast]
    have e2 : (bkKey off s + 8) / 8 = off / 8 + 3 + 2 * s := by unfold bkKey; omega
    have := two_one (C := C) (off := off) (o := bkKey off s + 8) (n := n) (v := v) (by unfold bkKey; omega) (by unfold bkKey; omega) hv
    rw [e2] at this
    exact ⟨_, rfl, this⟩
/-- Delete's program. -/
theorem two_del {C : Nat → Int} {off k n : Nat} (h8 : off % 8 = 0) (hl : off + 128 ≤ 64 * n) (hh : bkH C off < 18446744073709551616) (h0 : delE C off k = 0) :
    ∃ gs, delL C off k = groupsP gs ∧ TwoB C off (entB C off 7) (entB (delC C off k) off 7) gs n := by
  unfold delE at h0
  unfold delL delC
  rcases fnd_cases C off k with ⟨e, _⟩ | ⟨s, e, hs, _⟩
  · rw [if_neg (by omega)] at h0; cases h0
  · rw [if_pos (by omega), if_pos (by omega), e]
    simp only [Int.toNat_natCast]
    have hc := clearN_lt hh hs
    exact ⟨_, rfl, two_one (C := C) (off := off) (o := off) (n := n) (v := (clearN (bkH C off) s : Nat)) h8 (by omega) ⟨by omega, by omega⟩⟩
end Go.Proofs.Ytpkilmnppdbnkaa
