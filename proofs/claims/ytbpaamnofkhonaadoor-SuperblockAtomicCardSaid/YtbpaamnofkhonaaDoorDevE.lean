/- The walks of apply and persist. -/
import Derived.Test.YtbpaamnofkhonaaDoorDevD
import Derived.Deep.QuietTactic
import Derived.BigQuiet
namespace Go.Proofs.YtbpaamnofkhonaaDoor
open Go.RowKit Go.Maps

section
variable {w : World}

/-- What lies behind k of the stores. -/
def applied (l : List (Nat × Int)) (f : Nat → Int) (i : Nat) : Int := look l (f i) i

set_option maxRecDepth 100000 in
set_option maxHeartbeats 1000000 in
/-- apply(words, stores): each store's word, in order. The words lie in block b, not in the stores' block. -/
theorem apply_any (b n c : Nat) (f : Nat → Int) (sv : Value) (l : List (Nat × Int)) (hr : Row w b n 22 (fun i => .int .u64 (f i))) (hs : RdSl w 2 sv l.length (flat l)) (hne : ∀ k, sv.ownBlock = some k → k ≠ b)
    (hl : ∀ e ∈ l, e.1 / 8 < n) (hn : n ≤ 32768) (hlen : l.length ≤ 4611686018427387904) :
    Calls Tryd.prog 75 #[.slice (some ⟨b, 0, none⟩) n c, sv] w fun r w' => r = .returned (.tuple #[]) ∧ Row w' b n 22 (fun i => .int .u64 (applied l f i)) ∧ Upd (fun k => k = b) w w' := by
  obtain ⟨_, a, cap, rfl, hcap, ha⟩ := hs
  have HA := Lib.hid ha; have HR := Lib.hid hr; have HL := Lib.hid hl; have HNE := Lib.hid hne; clear ha hr hl hne
  go_enter Tryd.func75, Tryd.ntmps75
  go_wp2
  go_loopw [8] (fun i wr => ∃ k : Nat, k ≤ l.length ∧ i = .int .i64 k ∧ Row wr b n 22 (fun i => .int .u64 (applied (l.take k) f i)) ∧ Upd (fun k => k = b) w wr) (fun i _ => l.length - (intOf i).toNat)
  case atStart => exact ⟨0, Nat.zero_le _, rfl, HR.out, Upd.refl _ _⟩
  case round =>
    obtain ⟨k, hk, rfl, hr, hu⟩ := hrel
    have Hr := Lib.hid hr; have Hu := Lib.hid hu; clear hr hu
    by_cases hlt : k < l.length
    · obtain ⟨e, he⟩ : ∃ e, l[k]? = some e := ⟨_, List.getElem?_eq_getElem hlt⟩
      have hf := flat_get l k e he
      obtain ⟨sb, so, rfl, hc⟩ : ∃ sb so, a = some ⟨sb, so, none⟩ ∧ ∀ j u, (flat l)[j]? = some u → w.cell? ⟨sb, so + j, none⟩ = some u := by
        rcases HA.out with h0 | h0
        · rw [h0] at hf; simp at hf
        · exact h0
      have hsb : sb ≠ b := HNE.out sb rfl
      have hbl : ∀ o, wr.cell? ⟨sb, o, none⟩ = w.cell? ⟨sb, o, none⟩ := fun o => by
        have hlt' := World.block_lt_of_cell? w _ (hc _ _ hf.1)
        exact World.cell?_of_block (Hu.out.block sb hlt' hsb)
      have e1 : wr.cell? ⟨sb, so + k * 2, none⟩ = some (.int .u64 e.1) := by rw [hbl, Nat.mul_comm k 2]; exact hc _ _ hf.1
      have e2 : wr.cell? ⟨sb, so + k * 2 + 1, none⟩ = some (.int .u64 e.2) := by rw [hbl, Nat.mul_comm k 2]; exact hc _ _ hf.2
      have hen := HL.out e (List.mem_of_getElem? he)
      have hen' : (e.1 : Int) / 8 < n := by omega
      have cb : wr.cell? ⟨b, e.1 / 8, none⟩ = some (.int .u64 (applied (l.take k) f (e.1 / 8))) := Hr.out.cell hen
      have fb : wr.frozen? ⟨b, e.1 / 8, none⟩ = false := Hr.out.frozen _
      have hbs : b < wr.heap.size := Hr.out.lt
      have He := Lib.hid he
      clear hf hc hbl he
      go_wp2
      go_roundw
      case rel =>
        refine ⟨k + 1, by omega, by go_num, ?_, (Hu.out.setCell (p := ⟨b, e.1 / 8, none⟩) (fun _ => rfl) _).alloc _⟩
        refine ((Hr.out.set (e.1 / 8) (.int .u64 e.2)).alloc _).congr (fun i hi => ?_)
        have ht : l.take (k + 1) = l.take k ++ [e] := by rw [List.take_add_one, He.out]; rfl
        simp only [applied, ht, look_snoc]
        by_cases ei : i = e.1 / 8
        · rw [if_pos ei, if_pos ei.symm]
        · rw [if_neg ei, if_neg (fun h => ei h.symm)]
      case measure => simp [intOf]; omega
    · go_wp2
      go_end0
      have ht : l.take k = l := List.take_of_length_le (by omega)
      refine ⟨rfl, ?_, Hu.out⟩
      have := Hr.out
      rw [ht] at this
      exact this
end

section
variable {w : World} {v : DV} {own : Nat → Option Role} {D : Dev}

theorem Dev.persist_cur (D : Dev) (l k i : Nat) : (D.persist l k).cur i = D.cur i := by
  simp only [Dev.cur, Dev.persist]
  by_cases h : i / 8 = l
  · rw [if_pos h, if_pos h, h, ← look_append, List.take_append_drop]
  · rw [if_neg h, if_neg h]

theorem RdSl.take {w : World} {a : Option Addr} {n c : Nat} {xs : List (Nat × Int)} (h : RdSl w 2 (.slice a n c) xs.length (flat xs)) (k : Nat) (hk : k ≤ xs.length) : RdSl w 2 (.slice a k c) k (flat (xs.take k)) := by
  obtain ⟨h1, a', c', e, hc, h2⟩ := h
  cases e
  have ht : flat (xs.take k) = (flat xs).take (k * 2) := by
    have h3 : flat xs = flat (xs.take k) ++ flat (xs.drop k) := by rw [← flat_append, List.take_append_drop]
    rw [h3, List.take_left' (by rw [flat_length, List.length_take, Nat.min_eq_left hk])]
  refine ⟨by rw [flat_length, List.length_take, Nat.min_eq_left hk], a, c, rfl, by omega, ?_⟩
  rcases h2 with h2 | ⟨b, o, rfl, h3⟩
  · left; rw [ht, h2]; simp
  · right; refine ⟨b, o, rfl, fun j u hu => h3 j u ?_⟩
    rw [ht, List.getElem?_take] at hu
    split at hu
    · exact hu
    · cases hu
theorem OwnSl.drop {w : World} {e : TypeId} {a : Option Addr} {c : Nat} {xs : List (Nat × Int)} (h : OwnSl w e 2 (.slice a xs.length c) xs.length (flat xs)) (k : Nat) (hk : k < xs.length) :
    OwnSl w e 2 (.slice (a.map (·.add (k * 2))) (xs.length - k) (c - k)) (xs.drop k).length (flat (xs.drop k)) := by
  rcases h with ⟨h1, ⟨e1, e2⟩ | ⟨g, o, cap, cur, e1, hg, hc, hm, hs, ht⟩⟩
  · omega
  · cases e1
    refine ⟨flat_length _, .inr ⟨g, o + k * 2, c - k, cur, ?_, hg, ?_, by omega, by omega, ?_⟩⟩
    · simp [Addr.add_lit]
    · rw [List.length_drop]; omega
    · rw [← flat_drop, ← ht, List.length_drop, Nat.sub_mul]
      rw [← List.drop_drop]
      rw [List.drop_take]

theorem ownBlock_len {a : Option Addr} {n c n' c' : Nat} : (Value.slice a n c).ownBlock = (Value.slice a n' c').ownBlock := by cases a <;> rfl

theorem setCell_twice (w : World) (a : Addr) (u u' : Value) : (w.setCell a u).setCell a u' = w.setCell a u' := by
  unfold World.setCell
  simp only [World.mk.injEq, and_true]
  apply Array.ext
  · simp
  · intro i h1 h2
    simp only [Array.getElem_modify]
    split
    · have hi : i < w.heap.size := by simpa using h2
      cases w.heap[i] <;> simp
      split <;> simp
    · rfl

/-- The device behind the persisting of k stores of line l, the new history value being hl. -/
theorem IsDev.persist_post (h : IsDev w v own D) {l k : Nat} (hl : l < D.n) (hk : k ≤ (D.hist l).length) {w1 : World} (ne1 : ∀ g r, own g = some r → r ≠ .pers → w1.heap[g]? = w.heap[g]?)
    (hU : Upd (fun k => own k = some .pers ∨ own k = some .lines) w w1) (hp : Row w1 v.pb (8 * D.n) 22 (fun i => .int .u64 (applied ((D.hist l).take k) D.pers i)))
    (hv' : Value) (hh : HistAt w1 own 114 l hv' ((D.hist l).drop k)) (wx : World) (hx : wx = ((w1.setCell ⟨v.lb, l * 2, none⟩ (.int .u64 ((D.done l : Int) + (k : Int)))).setCell ⟨v.lb, l * 2 + 1, none⟩ hv')) :
    IsDev wx v own (D.persist l k) ∧ Upd (fun k => own k = some .pers ∨ own k = some .lines) w wx := by
  obtain ⟨hv, l1, l2⟩ := h.lines
  have wne : ∀ g, g ≠ v.lb → wx.heap[g]? = w1.heap[g]? := fun g hg => by
    rw [hx]; exact (Below.heap_setCell _ _ _ _ hg).trans (Below.heap_setCell _ _ _ _ hg)
  have wn : ∀ g r, own g = some r → r ≠ .pers → r ≠ .lines → wx.heap[g]? = w.heap[g]? := fun g r hg r1 r2 => (wne g (own_ne hg h.olb r2)).trans (ne1 g r hg r1)
  have nB : ∀ k r c t, own k = some r → r ≠ .pers → r ≠ .lines → Blk w k c t → Blk wx k c t := fun k r c t hk r1 r2 hb => (wn k r hk r1 r2).trans hb
  refine ⟨?_, ?_⟩
  · exact {
      wf := ⟨h.wf.pos, h.wf.le, fun i hi e he => by
          simp only [Dev.persist] at he
          split at he
          · exact h.wf.line i hi e (List.mem_of_mem_drop he)
          · exact h.wf.line i hi e he,
        fun i hi => by
          have := h.wf.cnt i hi
          simp only [Dev.persist]
          split
          · rename_i e; subst e; rw [List.length_drop]; omega
          · exact this,
        fun j' l' p' hp => by
          have := h.wf.note j' l' p' hp
          refine ⟨this.1, ?_⟩
          simp only [Dev.persist]
          split
          · rename_i e; subst e; rw [List.length_drop]; omega
          · exact this.2, h.wf.left⟩
      dev := nB _ _ _ _ h.odb (by simp) (by simp) h.dev
      pers := by
        obtain ⟨c, p1, p2⟩ := hp
        refine Row.congr (f := fun i => .int .u64 (applied ((D.hist l).take k) D.pers i)) ⟨c, (wne _ (own_ne h.opb h.olb (by simp))).trans p1, p2⟩ (fun i hi => ?_)
        simp only [Dev.persist, applied]
        split
        · rfl
        · rename_i e
          congr 1
          have : ∀ (L : List (Nat × Int)) (d : Int), (∀ x ∈ L, x.1 / 64 = l) → look L d i = d := by
            intro L
            induction L with
            | nil => intro d _; rfl
            | cons x L ih =>
              intro d hL
              have hx' := hL x (by simp)
              have hne : ¬ x.1 / 8 = i := by omega
              show look L (if x.1 / 8 = i then x.2 else d) i = d
              rw [if_neg hne]; exact ih d (fun y hy => hL y (by simp [hy]))
          exact this _ _ (fun x hx => (h.wf.line l hl x (List.mem_of_mem_take hx)).1)
      cur := by
        have : (D.persist l k).cur = D.cur := funext (Dev.persist_cur D l k)
        rw [this]
        obtain ⟨c, p1, p2⟩ := h.cur
        exact ⟨c, nB _ _ _ _ h.ocb (by simp) (by simp) p1, p2⟩
      lines := by
        have : Row w1 v.lb (2 * D.n) 122 (fun j => if j % 2 = 0 then .int .u64 (D.done (j / 2)) else hv (j / 2)) := by
          obtain ⟨c, p1, p2⟩ := l1
          exact ⟨c, (ne1 _ _ h.olb (by simp)).trans p1, p2⟩
        refine ⟨fun i => if i = l then hv' else hv i, ?_, fun i hi => ?_⟩
        · rw [hx]
          refine ((this.set (l * 2) (.int .u64 ((D.done l : Int) + (k : Int)))).set (l * 2 + 1) hv').congr (fun i _ => ?_)
          simp only [Dev.persist]
          by_cases e : i = l * 2 + 1
          · rw [if_pos e, if_neg (by omega), if_pos (by omega)]
          · rw [if_neg e]
            by_cases e2 : i % 2 = 0
            · rw [if_pos e2, if_pos e2]
              by_cases e3 : i = l * 2
              · rw [if_pos e3, if_pos (by omega), show i / 2 = l from by omega, Int.natCast_add]
              · rw [if_neg e3, if_neg (by omega)]
            · rw [if_neg e2, if_neg e2, if_neg (by omega), if_neg (by omega)]
        · simp only [Dev.persist]
          by_cases e : i = l
          · subst e
            simp only [if_true]
            exact hh.mono (fun g hg _ => hg) (fun g hg _ => wne g (own_ne hg h.olb (by simp)))
          · rw [if_neg e, if_neg e]
            exact (l2 i hi).mono (fun g hg _ => hg) (fun g hg _ => wn g _ hg (by simp) (by simp))
      thr := fun j hj => nB _ _ _ _ (h.otb j hj) (by simp) (by simp) (h.thr j hj)
      notes := fun j hj => (h.notes j hj).kept (Nat.le_refl _) (wn _ _ (h.onb j hj) (by simp) (by simp))
      odb := h.odb, opb := h.opb, ocb := h.ocb, olb := h.olb, otb := h.otb, onb := h.onb
      lt := fun g hg => by rw [hx]; simp only [World.setCell, Array.size_modify]; exact Nat.lt_of_lt_of_le (h.lt g hg) hU.size
      pcs := h.pcs }
  · rw [hx]
    exact (hU.setCell (p := ⟨v.lb, l * 2, none⟩) (fun _ => by simp [h.olb]) _).setCell (p := ⟨v.lb, l * 2 + 1, none⟩) (fun _ => by simp [h.olb]) _

set_option maxRecDepth 100000 in
set_option maxHeartbeats 1000000 in
theorem persist_any (h : IsDev w v own D) (l k : Nat) (hl : l < D.n) (hk : k ≤ (D.hist l).length) (hx : D.exec < 4611686018) :
    Calls Tryd.prog 57 #[.pointer (some ⟨v.db, 0, none⟩), .int .i64 l, .int .i64 k] w fun r w' => r = .returned (.tuple #[]) ∧ IsDev w' v own (D.persist l k) ∧ Upd (fun k => own k = some .pers ∨ own k = some .lines) w w' := by
  have c0 : w.cell? ⟨v.db, 0, none⟩ = some (.slice (some ⟨v.pb, 0, none⟩) (8 * D.n) v.pc) := h.dev.cell rfl
  have c2 : w.cell? ⟨v.db, 2, none⟩ = some (.slice (some ⟨v.lb, 0, none⟩) D.n D.n) := h.dev.cell rfl
  obtain ⟨hv, l1, l2⟩ := line_at h
  have e0 := (l1 _ hl).1
  have e1 := (l1 _ hl).2
  have hh := l2 _ hl
  obtain ⟨a, c, hve⟩ := hh.1.slice
  rw [hve] at e1 hh
  have hn := h.wf.le
  have hl' : (l : Int) < D.n := by omega
  have hcnt := h.wf.cnt l hl
  have hcap : (D.hist l).length ≤ c := by obtain ⟨_, _, _, e, hc, _⟩ := hh.1.rd; cases e; exact hc
  have hk' : (k : Int) ≤ c := by omega
  have H := Lib.hid h; have HH := Lib.hid hh; clear h hh hve l1 l2
  go_enter Tryd.func57, Tryd.ntmps57
  go_wp2_with fail
  go_still_tail 10, (by kernel_rfl)
  change wpList _ _ _ _ _ w.drew
  go_wp2_with fail
  have hrd : RdSl w.drew 2 (.slice a k c) ((D.hist l).take k).length (flat ((D.hist l).take k)) := by
    rw [List.length_take, Nat.min_eq_left hk]; exact HH.out.1.rd.take k hk
  have hkl : ((D.hist l).take k).length = k := by rw [List.length_take, Nat.min_eq_left hk]
  refine (apply_any v.pb (8 * D.n) v.pc D.pers _ _ H.out.pers.drew hrd ?_ ?_ (by omega) (by omega)).mono ?_
  · intro g hg; rw [ownBlock_len (n' := (D.hist l).length) (c' := c)] at hg; exact own_ne (HH.out.2 g hg) H.out.opb (by simp)
  · intro e he; have := H.out.wf.line l hl e (List.mem_of_mem_take he); omega
  rintro e w1 ⟨rfl, r1, u1⟩
  have ne1 : ∀ g r, own g = some r → r ≠ .pers → w1.heap[g]? = w.heap[g]? := fun g r hg hr => u1.block g (H.out.lt g (by simp [hg])) (own_ne hg H.out.opb hr)
  have hU : Upd (fun k => own k = some .pers ∨ own k = some .lines) w w1 := (Upd.refl _ w).drew.trans u1 (fun i _ hi => by rw [hi]; simp [H.out.opb])
  have e0' : w1.cell? ⟨v.lb, l * 2, none⟩ = some (.int .u64 (D.done l)) := (World.cell?_of_block (ne1 _ _ H.out.olb (by simp))).trans e0
  have e1' : w1.cell? ⟨v.lb, l * 2 + 1, none⟩ = some (.slice a (D.hist l).length c) := (World.cell?_of_block (ne1 _ _ H.out.olb (by simp))).trans e1
  have f' : ∀ o, w1.frozen? ⟨v.lb, o, none⟩ = false := fun o => by
    rw [World.frozen?_of_block (w := w) (ne1 _ _ H.out.olb (by simp))]; obtain ⟨_, l1, _⟩ := H.out.lines; exact l1.frozen _
  have f0 := f' (l * 2); have f1 := f' (l * 2 + 1)
  have HH1 : HistAt w1 own 114 l (.slice a (D.hist l).length c) (D.hist l) := HH.out.mono (fun g hg _ => hg) (fun g hg _ => ne1 g _ hg (by simp))
  have HP := Lib.hid (And.intro r1 (And.intro ne1 (And.intro hU HH1)))
  clear hrd r1 u1 ne1 hU f' HH1 c0 c2 e0 e1 hkl
  by_cases hkk : k = (D.hist l).length
  · have hkb : ((((D.hist l).length - k : Nat) : Int) == 0) = true := by simp; omega
    have Hk := Lib.hid hkk; clear hkk
    go_wp2_with fail
    all_goals
      go_end0
      refine ⟨rfl, H.out.persist_post hl hk HP.out.2.1 HP.out.2.2.1 HP.out.1 (.slice none 0 0) ?_ _ (by first | rfl | exact setCell_twice _ _ _ _)⟩
      rw [List.drop_of_length_le (by rw [Hk.out]; exact Nat.le_refl _)]
      exact ⟨OwnSl.nil _ _ _, fun g hg => by simp [Value.ownBlock] at hg⟩
  · have hkb : ((((D.hist l).length - k : Nat) : Int) == 0) = false := by simp; omega
    have hck : ¬ c = k := by omega
    go_wp2_with fail
    go_end0
    refine ⟨rfl, H.out.persist_post hl hk HP.out.2.1 HP.out.2.2.1 HP.out.1 _ ⟨HP.out.2.2.2.1.drop k (by omega), fun g hg => ?_⟩ _ rfl⟩
    refine HP.out.2.2.2.2 g ?_
    rw [← hg]
    cases a with
    | none => rfl
    | some a => simp [Value.ownBlock, Addr.add]; split <;> rfl
end
end Go.Proofs.YtbpaamnofkhonaaDoor
