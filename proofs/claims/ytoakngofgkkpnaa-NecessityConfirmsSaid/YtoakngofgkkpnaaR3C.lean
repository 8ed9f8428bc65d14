/- The walks of the reference's device: Words, persist. -/
import Derived.Test.YtoakngofgkkpnaaR3B
import Derived.RegionTactic
import Derived.Deep.MidRow
import Derived.BigRegion
namespace Go.Proofs.Ytoakngofgkkpnaa
open Go.RowKit
attribute [local go_sem ↓] Go.wp_at_zero Go.wp_at_succ

/-- Eight words as cells. -/
def w8 (F : Nat → Int) : Array Value := #[.int .u64 (F 0), .int .u64 (F 1), .int .u64 (F 2), .int .u64 (F 3), .int .u64 (F 4), .int .u64 (F 5), .int .u64 (F 6), .int .u64 (F 7)]
/-- The words of a line behind its first k stores. -/
def wdsF (l : Nat) (hs : List (Nat × Int)) (F : Nat → Int) (k j : Nat) : Int := look (hs.take k) (F j) (8 * l + j)
theorem row_w8 (w : World) (t : TypeId) (F : Nat → Int) : Row (w.alloc (.cells (w8 F) t)) w.heap.size 8 t (fun j => .int .u64 (F j)) :=
  Row.new w _ t 8 _ (fun i hi => by
    obtain rfl | rfl | rfl | rfl | rfl | rfl | rfl | rfl : i = 0 ∨ i = 1 ∨ i = 2 ∨ i = 3 ∨ i = 4 ∨ i = 5 ∨ i = 6 ∨ i = 7 := by omega
    all_goals rfl)
theorem wdsF_step {l : Nat} {hs : List (Nat × Int)} {F : Nat → Int} {k j : Nat} {e : Nat × Int} (he : hs[k]? = some e) (h1 : e.1 / 64 = l) (h8 : e.1 % 8 = 0) (_hj : j < 8) :
    (if j = e.1 % 64 / 8 then e.2 else wdsF l hs F k j) = wdsF l hs F (k + 1) j := by
  unfold wdsF
  rw [List.take_add_one, he]
  show _ = look (hs.take k ++ [e]) _ _
  rw [look_snoc]
  by_cases hh : j = e.1 % 64 / 8
  · rw [if_pos hh, if_pos (by omega)]
  · rw [if_neg hh, if_neg (by omega)]
theorem below8 {w wx : World} {b B : Nat} (h : Below B w wx) (hb : B ≤ b) (o : Nat) (v0 v1 v2 v3 v4 v5 v6 v7 : Value) :
    Below B w ((((((((wx.setCell ⟨b, o, none⟩ v0).setCell ⟨b, o + 1, none⟩ v1).setCell ⟨b, o + 2, none⟩ v2).setCell ⟨b, o + 3, none⟩ v3).setCell ⟨b, o + 4, none⟩ v4).setCell ⟨b, o + 5, none⟩ v5).setCell ⟨b, o + 6, none⟩ v6).setCell ⟨b, o + 7, none⟩ v7) :=
  (((((((h.setCell hb _).setCell hb _).setCell hb _).setCell hb _).setCell hb _).setCell hb _).setCell hb _).setCell hb _
section
variable {w : World}
structure WdSt (w : World) (l : Nat) (hs : List (Nat × Int)) (F : Nat → Int) (hv : Value) (dn : Int) (k : Nat) (wr : World) : Prop where
  arg : Blk wr w.heap.size #[.int .u64 (F 0), .int .u64 (F 1), .int .u64 (F 2), .int .u64 (F 3), .int .u64 (F 4), .int .u64 (F 5), .int .u64 (F 6), .int .u64 (F 7), hv, .int .i64 dn] 86
  res : Blk wr (w.heap.size + 1) #[.int .u64 0, .int .u64 0, .int .u64 0, .int .u64 0, .int .u64 0, .int .u64 0, .int .u64 0, .int .u64 0] 83
  out : Row wr (w.heap.size + 1 + 1) 8 83 (fun j => .int .u64 (wdsF l hs F k j))
  bel : Below w.heap.size w wr
theorem WdSt.start (l : Nat) (hs : List (Nat × Int)) (F : Nat → Int) (hv : Value) (dn : Int) : WdSt w l hs F hv dn 0 (((w.alloc (.cells #[.int .u64 (F 0), .int .u64 (F 1), .int .u64 (F 2), .int .u64 (F 3), .int .u64 (F 4), .int .u64 (F 5), .int .u64 (F 6), .int .u64 (F 7), hv, .int .i64 dn] 86)).alloc (.cells #[.int .u64 0, .int .u64 0, .int .u64 0, .int .u64 0, .int .u64 0, .int .u64 0, .int .u64 0, .int .u64 0] 83)).alloc (.cells (w8 F) 83)) := by
  have h1 := (Blk.new w #[.int .u64 (F 0), .int .u64 (F 1), .int .u64 (F 2), .int .u64 (F 3), .int .u64 (F 4), .int .u64 (F 5), .int .u64 (F 6), .int .u64 (F 7), hv, .int .i64 dn] 86).alloc (.cells #[.int .u64 0, .int .u64 0, .int .u64 0, .int .u64 0, .int .u64 0, .int .u64 0, .int .u64 0, .int .u64 0] 83)
  have h2 := Blk.new (w.alloc (.cells #[.int .u64 (F 0), .int .u64 (F 1), .int .u64 (F 2), .int .u64 (F 3), .int .u64 (F 4), .int .u64 (F 5), .int .u64 (F 6), .int .u64 (F 7), hv, .int .i64 dn] 86)) #[.int .u64 0, .int .u64 0, .int .u64 0, .int .u64 0, .int .u64 0, .int .u64 0, .int .u64 0, .int .u64 0] 83
  have h3 := row_w8 ((w.alloc (.cells #[.int .u64 (F 0), .int .u64 (F 1), .int .u64 (F 2), .int .u64 (F 3), .int .u64 (F 4), .int .u64 (F 5), .int .u64 (F 6), .int .u64 (F 7), hv, .int .i64 dn] 86)).alloc (.cells #[.int .u64 0, .int .u64 0, .int .u64 0, .int .u64 0, .int .u64 0, .int .u64 0, .int .u64 0, .int .u64 0] 83)) 83 F
  rw [World.size_alloc] at h2
  rw [World.size_alloc, World.size_alloc] at h3
  refine ⟨h1.alloc _, h2.alloc _, h3.congr (fun i _ => by simp [wdsF, look_nil]), ?_⟩
  exact (((Below.refl _ _).alloc (Nat.le_refl _) _).alloc (by simp) _).alloc (by simp only [World.size_alloc]; omega) _
theorem WdSt.step {l : Nat} {hs : List (Nat × Int)} {F : Nat → Int} {hv : Value} {dn : Int} {k : Nat} {wr : World} (h : WdSt w l hs F hv dn k wr) {e : Nat × Int} (he : hs[k]? = some e) (h1 : e.1 / 64 = l) (h8 : e.1 % 8 = 0) :
    WdSt w l hs F hv dn (k + 1) (wr.setCell ⟨w.heap.size + 1 + 1, e.1 % 64 / 8, none⟩ (.int .u64 e.2)) := by
  refine ⟨h.arg.other (by show w.heap.size ≠ w.heap.size + 1 + 1; omega) _, h.res.other (by show w.heap.size + 1 ≠ w.heap.size + 1 + 1; omega) _, (h.out.set (e.1 % 64 / 8) (.int .u64 e.2)).congr (fun j hj => ?_), h.bel.setCell (by show w.heap.size ≤ w.heap.size + 1 + 1; omega) _⟩
  rw [← wdsF_step he h1 h8 hj]
  split <;> rfl
theorem WdSt.drew {l : Nat} {hs : List (Nat × Int)} {F : Nat → Int} {hv : Value} {dn : Int} {k : Nat} {wr : World} (h : WdSt w l hs F hv dn k wr) : WdSt w l hs F hv dn k wr.drew :=
  ⟨h.arg.drew, h.res.drew, h.out.drew, h.bel.drew⟩
set_option maxRecDepth 100000 in
set_option maxHeartbeats 4000000 in
theorem r3Words_any (l : Nat) (hs : List (Nat × Int)) (F : Nat → Int) (hv : Value) (dn : Int) (k : Nat) (hk : k ≤ hs.length) (hr : RdSl w 2 hv hs.length (flat hs)) (hl : ∀ e ∈ hs, e.1 / 64 = l ∧ e.1 % 8 = 0) (_hm : l < 4096) (hn : hs.length < 1000000000) :
    Calls Try.prog 53 #[.agg #[.int .u64 (F 0), .int .u64 (F 1), .int .u64 (F 2), .int .u64 (F 3), .int .u64 (F 4), .int .u64 (F 5), .int .u64 (F 6), .int .u64 (F 7), hv, .int .i64 dn], .int .i64 k] w fun r w' => r = .returned (.agg (w8 (wdsF l hs F k))) ∧ Below w.heap.size w w' := by
  have HR := Lib.hid hr; have HL := Lib.hid hl
  have S0 := Lib.hid (WdSt.start (w := w) l hs F hv dn)
  clear hl
  obtain ⟨_, ha, hc, rfl, hhc, _⟩ := hr
  obtain ⟨n, hnn⟩ : ∃ n, hs.length = n := ⟨_, rfl⟩
  rw [hnn] at hk hn hhc HR S0 ⊢
  have HN := Lib.hid hnn
  clear hnn
  go_enter Try.func53, Try.ntmps53
  go_wp2_with fail
  go_loopw [6] (fun y wr => ∃ i : Nat, i ≤ k ∧ y = .int .i64 i ∧ WdSt w l hs F (.slice ha n hc) dn i wr) (fun y _ => k - (intOf y).toNat)
  case atStart => exact ⟨0, by omega, rfl, S0.out⟩
  case round =>
    clear S0
    obtain ⟨i, hi, rfl, hst⟩ := hrel
    have S := Lib.hid hst
    clear hst
    by_cases hlt : i < k
    · have hlt' : (i : Int) < k := by omega
      obtain ⟨e, he⟩ : ∃ e, hs[i]? = some e := ⟨_, List.getElem?_eq_getElem (by rw [HN.out]; omega)⟩
      have a8 := S.out.arg.cell (i := 8) (v := .slice ha n hc) rfl
      obtain ⟨_, a', c', e', _, hE⟩ := HR.out.below S.out.bel
      cases e'
      have hg := flat_get' hs i e he
      obtain ⟨fb, fo, rfl, hE2⟩ := rd_at hE hg.1
      have c1 := hE2 _ _ hg.1; have c2 := hE2 _ _ hg.2
      rw [← Nat.add_assoc] at c2
      obtain ⟨h1, h8⟩ := HL.out e (List.mem_of_getElem? he)
      have S1 := Lib.hid (fun (wx : World) (hx : WdSt w l hs F (.slice (some ⟨fb, fo, none⟩) n hc) dn i wx) => hx.step he h1 h8)
      have hj8 : e.1 % 64 / 8 < 8 := by omega
      obtain ⟨off, x⟩ := e
      simp only at c1 c2 h1 h8 hj8 S1
      obtain ⟨j, hj⟩ : ∃ j, off % 64 / 8 = j := ⟨_, rfl⟩
      rw [hj] at S1 hj8
      have g1 : (off : Int) % 64 / 8 = (j : Int) := by omega
      have hj8' : (j : Int) < 8 := by omega
      have d1 := S.out.out.cell (i := j) hj8
      have d2 := S.out.out.frozen j
      have hgl := S.out.out.lt
      have hin : (i : Int) < n := by omega
      clear hE hE2 he hg hj h1 h8
      go_wp2_with fail
      go_region
      go_wp2_with fail
      go_roundw
      case rel => exact ⟨i + 1, by omega, by go_num, S1.out _ S.out.drew⟩
      case measure => simp [intOf]; omega
    · obtain rfl : i = k := by omega
      have r0 := S.out.res.frozen 0; have r1 := S.out.res.frozen 1; have r2 := S.out.res.frozen 2; have r3 := S.out.res.frozen 3
      have r4 := S.out.res.frozen 4; have r5 := S.out.res.frozen 5; have r6 := S.out.res.frozen 6; have r7 := S.out.res.frozen 7
      have s0 := S.out.res.cell (i := 0) rfl; have s1 := S.out.res.cell (i := 1) rfl; have s2 := S.out.res.cell (i := 2) rfl; have s3 := S.out.res.cell (i := 3) rfl
      have s4 := S.out.res.cell (i := 4) rfl; have s5 := S.out.res.cell (i := 5) rfl; have s6 := S.out.res.cell (i := 6) rfl; have s7 := S.out.res.cell (i := 7) rfl
      have q0 := S.out.out.cell (i := 0) (by omega); have q1 := S.out.out.cell (i := 1) (by omega); have q2 := S.out.out.cell (i := 2) (by omega); have q3 := S.out.out.cell (i := 3) (by omega)
      have q4 := S.out.out.cell (i := 4) (by omega); have q5 := S.out.out.cell (i := 5) (by omega); have q6 := S.out.out.cell (i := 6) (by omega); have q7 := S.out.out.cell (i := 7) (by omega)
      have hgl := S.out.out.lt
      go_wp2_with fail
      refine bodyPost_ret (v := .agg (w8 (wdsF l hs F i))) (by simp [results, Try.results53, go_sem, s0, s1, s2, s3, s4, s5, s6, s7, w8]) rfl ⟨rfl, ?_⟩
      exact below8 S.out.bel (by omega) 0 _ _ _ _ _ _ _ _
end
section
variable {w : World} {D : Dev} {rb lb : Nat} {hv : Nat → Value} {nv : Value} {ns : List (Nat × Nat)}
theorem upd_cells {S : Nat → Prop} {w : World} {b : Nat} (hb : S b) : ∀ (vs : List Value) (o : Nat) {wx : World}, Upd S w wx → Upd S w (wx.setCells b o vs)
  | [], _, _, h => h
  | v :: r, o, _, h => upd_cells hb r (o + 1) (h.setCell (p := ⟨b, o, none⟩) (fun _ => hb) v)
theorem row_cells {b n : Nat} {t : TypeId} : ∀ (vs : List Value) (o : Nat) {wx : World} {f : Nat → Value}, Row wx b n t f → Row (wx.setCells b o vs) b n t (fun i => if o ≤ i ∧ i < o + vs.length then vs.getD (i - o) undef else f i)
  | [], o, _, f, h => h.congr (fun i _ => by rw [if_neg (by simp only [List.length_nil]; omega)])
  | v :: r, o, _, f, h => (row_cells r (o + 1) (h.set o v)).congr (fun i _ => by
      simp only [List.length_cons]
      by_cases e : i = o
      · subst e
        rw [if_neg (by omega), if_pos rfl, if_pos (by omega), Nat.sub_self]
        rfl
      · by_cases e2 : o + 1 ≤ i ∧ i < o + 1 + r.length
        · rw [if_pos e2, if_pos (by omega)]
          obtain ⟨j, rfl⟩ : ∃ j, i = o + 1 + j := ⟨i - (o + 1), by omega⟩
          rw [show o + 1 + j - (o + 1) = j by omega, show o + 1 + j - o = j + 1 by omega]
          rfl
        · rw [if_neg e2, if_neg e, if_neg (by omega)])
theorem w8_one (F : Nat → Int) : (w8 F).all (·.oneCell') = true :=
  all_oneCell_toArray (cs := [.int .u64 (F 0), .int .u64 (F 1), .int .u64 (F 2), .int .u64 (F 3), .int .u64 (F 4), .int .u64 (F 5), .int .u64 (F 6), .int .u64 (F 7)]) (by
    intro v hv
    simp only [List.mem_cons, List.not_mem_nil, or_false] at hv
    rcases hv with rfl | rfl | rfl | rfl | rfl | rfl | rfl | rfl <;> rfl)
theorem blk_cellsX {b g : Nat} {c : Array Value} {t : TypeId} (hg : b ≠ g) : ∀ (vs : List Value) (o : Nat) {wx : World}, Blk wx b c t → Blk (wx.setCells g o vs) b c t
  | [], _, _, h => h
  | v :: r, o, _, h => blk_cellsX hg r (o + 1) (Blk.other h (a := ⟨g, o, none⟩) hg v)
/-- A line in the midst of a persist: its words are written. -/
structure MidL (w : World) (D : Dev) (rb lb : Nat) (hv : Nat → Value) (nv : Value) (l : Nat) (F : Nat → Int) (wz : World) : Prop where
  dev : Blk wz rb (dev3 D lb nv) 92
  row : Row wz lb (10 * D.n) 86 (fun i => if l * 10 ≤ i ∧ i < l * 10 + 8 then .int .u64 (F (i - l * 10)) else ln3 D hv i)
  upd : Upd (Two rb lb) w wz
theorem R3.mid (h : R3 w D rb lb hv nv ns) {w1 : World} (hb : Below w.heap.size w w1) (l : Nat) (F : Nat → Int) : MidL w D rb lb hv nv l F (w1.setCells lb (l * 10) (w8 F).toList) := by
  have h1 := h.keep hb
  refine ⟨blk_cellsX h.ne _ _ h1.dev, (row_cells (w8 F).toList (l * 10) h1.row).congr (fun i hi => ?_), upd_cells (Or.inr rfl) _ _ (Upd.of_below hb)⟩
  have hl : (w8 F).toList.length = 8 := rfl
  rw [hl]
  by_cases e : l * 10 ≤ i ∧ i < l * 10 + 8
  · rw [if_pos e, if_pos e]
    obtain ⟨k, hk⟩ : ∃ k, i - l * 10 = k := ⟨_, rfl⟩
    rw [hk]
    obtain rfl | rfl | rfl | rfl | rfl | rfl | rfl | rfl : k = 0 ∨ k = 1 ∨ k = 2 ∨ k = 3 ∨ k = 4 ∨ k = 5 ∨ k = 6 ∨ k = 7 := by omega
    all_goals rfl
  · rw [if_neg e, if_neg e]
theorem MidL.at {l : Nat} {F : Nat → Int} {wz : World} (h : MidL w D rb lb hv nv l F wz) (hl : l < D.n) : wz.cell? ⟨lb, l * 10 + 8, none⟩ = some (hv l) ∧ wz.cell? ⟨lb, l * 10 + 9, none⟩ = some (.int .i64 (D.done l)) := by
  refine ⟨?_, ?_⟩
  · rw [h.row.cell (by omega), if_neg (by omega), ln3_hist]
  · rw [h.row.cell (by omega), if_neg (by omega), ln3_done]
theorem wdsF_pers {l k : Nat} {F : Nat → Int} (hF : ∀ j, D.pers (8 * l + j) = F j) (j : Nat) (hj : j < 8) : wdsF l (D.hist l) F k j = (D.persist l k).pers (8 * l + j) := by
  unfold wdsF Dev.persist
  simp only
  rw [if_pos (by omega), hF]
theorem MidL.end {l k : Nat} {F : Nat → Int} {wz w2 : World} {v2 : Value} (h : MidL w D rb lb hv nv l (wdsF l (D.hist l) F k) wz) (h0 : R3 w D rb lb hv nv ns) (_hl : l < D.n) (hk : k ≤ (D.hist l).length) (hF : ∀ j, D.pers (8 * l + j) = F j)
    (ha : Acc wz wz.heap.size w2 146 2 v2 ((D.hist l).drop k).length (flat ((D.hist l).drop k))) :
    ∃ hv', R3 ((w2.setCell ⟨lb, l * 10 + 8, none⟩ v2).setCell ⟨lb, l * 10 + 9, none⟩ (.int .i64 ((D.done l : Int) + (k : Int)))) (D.persist l k) rb lb hv' nv ns ∧ Upd (Two rb lb) w ((w2.setCell ⟨lb, l * 10 + 8, none⟩ v2).setCell ⟨lb, l * 10 + 9, none⟩ (.int .i64 ((D.done l : Int) + (k : Int)))) := by
  have hsz := h.upd.size
  have hrl := h0.row.lt
  have hdl := h0.dev.lt
  have hwn : ∀ g, v2.ownBlock = some g → g ≠ rb ∧ g ≠ lb := fun g hg => by have := ha.new g hg; omega
  have hU : Upd (Two rb lb) w ((w2.setCell ⟨lb, l * 10 + 8, none⟩ v2).setCell ⟨lb, l * 10 + 9, none⟩ (.int .i64 ((D.done l : Int) + (k : Int)))) :=
    h.upd.trans (((Upd.of_below (S := Two rb lb) ha.bel).setCell (fun _ => Or.inr rfl) _).setCell (fun _ => Or.inr rfl) _) (fun _ _ h => h)
  have hdone : (D.persist l k).done l = D.done l + k := by simp [Dev.persist]
  refine ⟨fun m => if m = l then v2 else hv m, h0.line (l := l) rfl rfl hU (((h.dev.below ha.bel).other h0.ne _).other h0.ne _) ?_ (fun m hm => ⟨if_neg hm, by simp [Dev.persist, hm]⟩) ?_ ?_ rfl (h0.up.persist hk), hU⟩
  · refine ((((h.row.below ha.bel).set (l * 10 + 8) v2).set (l * 10 + 9) _).congr (fun i hi => ?_))
    unfold ln3
    by_cases e9 : i = l * 10 + 9
    · subst e9
      rw [if_pos rfl, show (l * 10 + 9) % 10 = 9 by omega, show (l * 10 + 9) / 10 = l by omega, if_neg (by omega), if_neg (by omega), hdone]
      simp
    · rw [if_neg e9]
      by_cases e8 : i = l * 10 + 8
      · subst e8
        rw [if_pos rfl, show (l * 10 + 8) % 10 = 8 by omega, show (l * 10 + 8) / 10 = l by omega, if_neg (by omega), if_pos rfl]
        exact (if_pos rfl).symm
      · rw [if_neg e8]
        by_cases e : l * 10 ≤ i ∧ i < l * 10 + 8
        · rw [if_pos e, if_pos (by omega), wdsF_pers hF _ (by omega), show 8 * l + (i - l * 10) = 8 * (i / 10) + i % 10 by omega]
        · rw [if_neg e]
          by_cases e1 : i % 10 < 8
          · have hne : ¬ (8 * (i / 10) + i % 10) / 8 = l := by omega
            simp only [if_pos e1, Dev.persist, if_neg hne]
          · rw [if_neg e1, if_neg e1]
            have hne : ¬ i / 10 = l := by omega
            by_cases e2 : i % 10 = 8
            · rw [if_pos e2, if_pos e2]
              exact (if_neg hne).symm
            · simp only [if_neg e2, Dev.persist, if_neg hne]
  · simp only [if_pos]
    have : (D.persist l k).hist l = (D.hist l).drop k := by simp [Dev.persist]
    rw [this]
    exact ((ha.own.other (fun k hk => (hwn k hk).2) _).other (fun k hk => (hwn k hk).2) _).rd
  · simp only [if_pos]; exact hwn
theorem RdSl.dropW {w : World} {b o n c : Nat} {xs : List (Nat × Int)} (h : RdSl w 2 (.slice (some ⟨b, o, none⟩) n c) n (flat xs)) (k : Nat) (hk : k ≤ n) : RdSl w 2 (.slice (some ⟨b, o + k * 2, none⟩) (n - k) (c - k)) (n - k) (flat (xs.drop k)) := by
  obtain ⟨h1, a', c', e, hc, h2⟩ := h
  cases e
  rw [← flat_drop]
  refine ⟨by rw [List.length_drop, h1]; omega, _, _, rfl, by omega, ?_⟩
  rcases h2 with h2 | ⟨b, o, e, h3⟩
  · left; rw [h2]; simp
  · cases e
    right
    refine ⟨b, o + k * 2, rfl, fun j u hu => ?_⟩
    rw [List.getElem?_drop] at hu
    rw [Nat.add_assoc]
    exact h3 _ u hu
theorem RdSl.none0 (w : World) (a : Option Addr) (c : Nat) : RdSl w 2 (.slice a 0 c) 0 [] := ⟨rfl, a, c, rfl, Nat.zero_le _, .inl rfl⟩
set_option maxRecDepth 100000 in
set_option maxHeartbeats 4000000 in
theorem r3persist_any (h : R3 w D rb lb hv nv ns) (l k : Nat) (hl : l < D.n) (hk : k ≤ (D.hist l).length) (hk0 : 0 < k) (he : D.exec < 100000000) :
    Calls Try.prog 47 #[.pointer (some ⟨rb, 0, none⟩), .int .i64 l, .int .i64 k] w fun r w' => r = .returned (.tuple #[]) ∧ ∃ hv', R3 w' (D.persist l k) rb lb hv' nv ns ∧ Upd (Two rb lb) w w' := by
  have hn := h.up.wf.le
  have hcn := h.up.wf.cnt l hl
  obtain ⟨i0, hi0, hz0, hz1, hz2⟩ := info_parts infoR3Write
  have I := Lib.hid (And.intro hi0 (And.intro hz0 (And.intro hz1 hz2))); clear hi0 hz0 hz1 hz2
  have hln' : (l : Int) < D.n := by omega
  have c0 : w.cell? ⟨rb, 0, none⟩ = some (.slice (some ⟨lb, 0, none⟩) D.n D.n) := h.dev.cell rfl
  obtain ⟨cw, ch, cd⟩ := h.at hl
  obtain ⟨F, hF⟩ : ∃ F : Nat → Int, ∀ j, D.pers (8 * l + j) = F j := ⟨fun j => D.pers (8 * l + j), fun _ => rfl⟩
  have HFF := Lib.hid hF
  have k0 := cw 0 (by omega); have k1 := cw 1 (by omega); have k2 := cw 2 (by omega); have k3 := cw 3 (by omega); have k4 := cw 4 (by omega); have k5 := cw 5 (by omega); have k6 := cw 6 (by omega); have k7 := cw 7 (by omega)
  rw [hF] at k0 k1 k2 k3 k4 k5 k6 k7
  rw [Nat.add_zero] at k0
  have HW := Lib.hid (r3Words_any (w := w) l (D.hist l) F (hv l) (D.done l) k hk (h.hist l hl).1 (h.up.wf.line l hl) (by omega) (by omega))
  have H := Lib.hid h; have HU := Lib.hid (h.up.persist hk)
  obtain ⟨n, hnn⟩ : ∃ n, (D.hist l).length = n := ⟨_, rfl⟩
  have HR := Lib.hid (h.hist l hl).1
  rw [hnn] at hk hcn HR
  obtain ⟨hb, ho, hc, hve, hnc⟩ : ∃ hb ho hc, hv l = .slice (some ⟨hb, ho, none⟩) n hc ∧ n ≤ hc := by
    obtain ⟨b, o, c, e, h1, _⟩ := rd_some HR.out (by intro e; have := congrArg List.length e; rw [flat_length, hnn] at this; simp at this; omega)
    exact ⟨b, o, c, e, h1⟩
  rw [hve] at ch HW HR
  have HX := Lib.hid hve
  have HN := Lib.hid hnn
  clear h cw hF hve hnn
  go_enter Try.func47, Try.ntmps47
  go_wp2_with fail
  (with_reducible refine HW.out.mono ?_)
  rintro r w1 ⟨rfl, b1⟩
  have H1 := Lib.hid (H.out.keep b1)
  have B1 := Lib.hid b1
  clear b1 HW c0 k0 k1 k2 k3 k4 k5 k6 k7 ch cd
  obtain ⟨cw, ch, cd⟩ := H1.out.at hl
  rw [HX.out] at ch
  have k0 := cw 0 (by omega); have k1 := cw 1 (by omega); have k2 := cw 2 (by omega); have k3 := cw 3 (by omega); have k4 := cw 4 (by omega); have k5 := cw 5 (by omega); have k6 := cw 6 (by omega); have k7 := cw 7 (by omega)
  have HT : Hid (w1.there lb (l * 10) 8) := fun j hj => by
    refine ⟨by rw [cw j hj]; rfl, H1.out.row.frozen _⟩
  clear cw ch cd k0 k1 k2 k3 k4 k5 k6 k7
  have MM := Lib.hid (H.out.mid B1.out l (wdsF l (D.hist l) F k))
  rename_i Q K hK
  refine hK _ _ ?_
  refine wpList_plain rfl fun K1 hK1 => ?_
  go_simp
  refine hK1 _ _ ?_
  refine wpList_plain rfl fun K2 hK2 => ?_
  go_simp
  refine hK2 _ _ ?_
  refine wpList_store_mid rfl 83 (.tmp 20) (.tmp 18) rfl lb (l * 10) (w8 (wdsF l (D.hist l) F k)) rfl rfl HT.out (by kernel_rfl) (w8_one _) ?_
  clear hK hK1 hK2 K K1 K2 HT
  generalize w1.setCells lb (l * 10) (w8 (wdsF l (D.hist l) F k)).toList = wz at *
  obtain ⟨z8, z9⟩ := MM.out.at hl
  rw [HX.out] at z8
  have hlbz := MM.out.row.lt
  have A0 := Lib.hid (acc_empty wz 146 2)
  have HRZ := Lib.hid (HR.out.upd MM.out.upd (fun g hg e => by
    have := (H.out.hist l hl).2 g (by rw [HX.out]; exact hg)
    rcases e with e | e
    · exact this.1 e
    · exact this.2 e))
  have HRD := Lib.hid (HRZ.out.dropW k hk)
  have HDL : Hid (((D.hist l).drop k).length = n - k) := by show _ = _; rw [List.length_drop, HN.out]
  have HF1 := Lib.hid (flat_one ((D.hist l).drop k))
  have hkc : (k : Int) ≤ hc := by omega
  have ga : IntKind.i64.wrap ((D.done l : Int) + (k : Int)) = (D.done l : Int) + (k : Int) := IntWalk.i64_in _ (by omega)
  have HL0 : Hid (hc = k → n - k = 0) := fun e => by omega
  generalize hds : (D.hist l).drop k = ds at *
  have HDS := Lib.hid hds
  clear hds
  by_cases hck : hc = k
  · have hm0 : n - k = 0 := HL0.out hck
    have hnk : n = k := by omega
    have HE : Hid (ds = []) := List.eq_nil_of_length_eq_zero (by rw [HDL.out]; exact hm0)
    clear HRD HF1
    go_wp2_with (at_builtin; refine wpList_append_sl _ rfl _ _ 84 rfl 146 i0 _ 2 16 Try.underlying84 I.out.1 I.out.2.1 I.out.2.2.1 I.out.2.2.2 rfl (by decide) _ 0 [] rfl (by exact A0.out.own) _ 0 [] rfl (by exact RdSl.none0 _ _ _) (by simp) (by unfold maxLen; omega) (by omega) ?_)
    intro v1 w1 o1 g1 b1 n1
    have A1 : Hid (Acc wz wz.heap.size w1 146 2 v1 0 []) := by
      have h0 := A0.out.next (Below.refl _ _) (m := 0) (news := []) (by simpa using o1) g1 b1 (by simp)
      exact h0.congr (by simp) (by simp)
    clear o1 g1 b1 n1 A0
    obtain ⟨va, vc, rfl⟩ := A1.out.slice
    have y8 := (A1.out.bel.cell (p := ⟨lb, l * 10 + 8, none⟩) hlbz).trans z8
    have y9 := (A1.out.bel.cell (p := ⟨lb, l * 10 + 9, none⟩) hlbz).trans z9
    have g8 := (MM.out.row.below A1.out.bel).frozen (l * 10 + 8)
    have g9 := (MM.out.row.below A1.out.bel).frozen (l * 10 + 9)
    have hlb2 := (MM.out.row.below A1.out.bel).lt
    go_wp2_with fail
    go_end0
    refine ⟨rfl, MM.out.end H.out hl (by rw [HN.out]; exact hk) HFF.out (v2 := .slice va 0 vc) ?_⟩
    rw [HDS.out]
    have e := HE.out
    subst e
    exact A1.out.congr rfl rfl
  · go_wp2_with (at_builtin; refine wpList_append_sl _ rfl _ _ 84 rfl 146 i0 _ 2 16 Try.underlying84 I.out.1 I.out.2.1 I.out.2.2.1 I.out.2.2.2 rfl (by decide) _ 0 [] rfl (by exact A0.out.own) _ (n - k) (flat ds) rfl (by exact HRD.out.alloc _) HF1.out (by unfold maxLen; omega) (by omega) ?_)
    intro v1 w1 o1 g1 b1 n1
    have A1 : Hid (Acc wz wz.heap.size w1 146 2 v1 (n - k) (flat ds)) := by
      have h0 := A0.out.next (Below.refl _ _) (m := n - k) (news := flat ds) (by simpa using o1) g1 b1 (by simp)
      exact h0.congr (by simp) (by simp)
    clear o1 g1 b1 n1 A0
    obtain ⟨va, vc, rfl⟩ := A1.out.slice
    have y8 := (A1.out.bel.cell (p := ⟨lb, l * 10 + 8, none⟩) hlbz).trans z8
    have y9 := (A1.out.bel.cell (p := ⟨lb, l * 10 + 9, none⟩) hlbz).trans z9
    have g8 := (MM.out.row.below A1.out.bel).frozen (l * 10 + 8)
    have g9 := (MM.out.row.below A1.out.bel).frozen (l * 10 + 9)
    have hlb2 := (MM.out.row.below A1.out.bel).lt
    go_wp2_with fail
    go_end0
    refine ⟨rfl, MM.out.end H.out hl (by rw [HN.out]; exact hk) HFF.out (v2 := .slice va (n - k) vc) ?_⟩
    rw [HDS.out]
    exact A1.out.congr HDL.out.symm rfl
end
end Go.Proofs.Ytoakngofgkkpnaa
