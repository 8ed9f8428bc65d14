/- The redo log's device while stores to the log are not persistent, plain. No program in sight. -/
import Derived.Test.YtfigngoojphffaaDoorPenM
import Derived.Test.YtfigngoojphffaaDoorRdoM
import Derived.Test.YtfigngoojphffaaDoorRdoF
import Derived.Test.YtfigngoojphffaaDoorRdoZ
import Derived.Deep.CutBlock
import Derived.OwnWalk
import Derived.Test.YtfigngoojphffaaDoorOpenR
namespace Go.Proofs.YtfigngoojphffaaDoor
open Go.RowKit

/-- The law's device, on and unarmed; only the log's lines hold stores that are not persistent. -/
structure Rv (D : Dev) (x : Nat) : Prop where
  on : OnJ D 0 40
  armed : D.armed = false
  no : ∀ l, D.note 0 l = none
  exec : D.exec ≤ x
  vb : D.VB
  out : ∀ l, (l < 5 ∨ 31 ≤ l) → D.hist l = []
theorem RCl.rv {D : Dev} {C : Nat → Int} {x : Nat} (h : RCl D C x) (ha : D.armed = false) : Rv D x :=
  ⟨h.grp.on, ha, fun l => h.grp.no l (by simp), h.exec, h.vb, fun l _ => by rw [h.grp.hst.hist l]; rfl⟩
theorem laidX_clean (gs : List Gr) : ∀ (s : PerH) (l : Nat), (∀ g ∈ gs, ∀ e ∈ g.1, ∃ o ∈ g.2, o / 64 = e.1 / 64) → s.2 l = [] → (laidX s gs).2 l = [] := by
  induction gs with
  | nil => intro s l _ h; exact h
  | cons g gs ih =>
    intro s l hg h
    show (laidX (nextX s g) gs).2 l = []
    refine ih _ l (fun x hx => hg x (List.mem_cons_of_mem _ hx)) ?_
    show (if hitB g.2 l = true then [] else s.2 l ++ filtL g.1 l) = []
    by_cases hh : hitB g.2 l = true
    · rw [if_pos hh]
    · rw [if_neg hh, h, List.nil_append]
      unfold filtL
      rw [List.filter_eq_nil_iff]
      intro e he hl
      obtain ⟨o, ho, h2⟩ := hg g (List.mem_cons_self ..) e he
      refine hh ((hitB_iff _ _).2 ⟨o, ho, ?_⟩)
      have : e.1 / 64 = l := by simpa using hl
      omega
section
variable {D : Dev} {x : Nat}
theorem Rv.mono {y : Nat} (h : Rv D x) (hxy : x ≤ y) : Rv D y := ⟨h.on, h.armed, h.no, Nat.le_trans h.exec hxy, h.vb, h.out⟩
theorem Rv.gx (h : Rv D x) : GX D 0 40 (D.pers, D.hist) [] [] := ⟨h.on, fun _ => rfl, fun l => by simp [filtL], fun o ho => by simp at ho, fun l _ => h.no l⟩
/-- A store to a word of the log. -/
theorem Rv.store (h : Rv D x) (o : Nat) (v : Int) (ho : o % 8 = 0 ∧ 320 ≤ o ∧ o < 1984) (hv : 0 ≤ v ∧ v < 18446744073709551616) : Rv (D.store 0 o v) (x + 1) := by
  have hm : D.may (0 + 1) := .inl h.armed
  obtain ⟨g, _⟩ := h.gx.store hm o v ho.1 (by omega)
  have ha := (run_unarmed [(1, o, v)] h.on h.armed (fun e he => by simp at he; subst he; exact .inl ⟨rfl, ho.1, by show o < 64 * 40; omega⟩)).1
  have he := D.run_exec 0 [(1, o, v)]
  have hb := h.vb.step 0 (1, o, v) (fun _ => hv)
  refine ⟨g.on, ha, fun l => g.no l (by simp), by have := h.exec; have e2 : D.run 0 [(1, o, v)] = D.store 0 o v := rfl; rw [e2] at he; simp at he; omega, hb, fun l hl => ?_⟩
  rw [g.hist]
  show D.hist l ++ filtL ([] ++ [(o, v)]) l = []
  rw [h.out l hl]
  simp [filtL]
  omega
/-- A program of groups whose stores are all flushed. -/
theorem Rv.go (h : Rv D x) {gs : List Gr} (hg : ∀ g ∈ gs, groupOk 40 g) (hv : valP (groupsP gs)) :
    Rv (D.run 0 (groupsP gs)) (x + (groupsP gs).length) ∧ ∀ i, (D.run 0 (groupsP gs)).cur i = look (gs.flatMap (·.1)) (D.cur i) i := by
  have hx := D.run_exec 0 (groupsP gs)
  have := h.exec
  have hgX : ∀ g ∈ gs, groupOkX 40 g := fun g hgm => ⟨fun e he => ⟨((hg g hgm).1 e he).1, ((hg g hgm).1 e he).2.1⟩, (hg g hgm).2⟩
  rcases runX_came h.gx hgX with ⟨h1, h2, _⟩ | ⟨_, _, _, _, _, _, _, _, _, h2, _⟩
  · refine ⟨⟨h1.on, by rw [h2]; exact h.armed, fun l => h1.no l (by simp), by omega, Dev.VB.run _ h.vb 0 hv, fun l hl => ?_⟩, fun i => ?_⟩
    · rw [h1.hist]
      have : (laidX (D.pers, D.hist) gs).2 l = [] := laidX_clean gs _ l (fun g hgm e he => by obtain ⟨_, _, o, ho, h3⟩ := (hg g hgm).1 e he; exact ⟨o, ho, h3⟩) (h.out l hl)
      rw [this]; rfl
    · rw [h1.cur, curX_laid]; rfl
  · rw [h.armed] at h2; cases h2
/-- Outside of the log nothing is pending. -/
theorem Rv.pers (h : Rv D x) (i : Nat) (hi : i < 40 ∨ 248 ≤ i) : D.pers i = D.cur i := by
  unfold Dev.cur
  rw [h.out (i / 8) (by omega)]; rfl
theorem Rv.commit (h : Rv D x) {W : List (Nat × Int)} (hW : WOk W) : Rv (D.run 0 (rPlanP 320 W)) (x + (rPlanP 320 W).length) := by
  rw [rPlan_groups]; exact (h.go hW.plan hW.planV).1
theorem Rv.recov (h : Rv D x) {W : List (Nat × Int)} (hl : lk D.cur = (2, W)) : Rv (D.run 0 (rFinP 320 W)) (x + (rFinP 320 W).length) ∧ OutR (D.run 0 (rFinP 320 W)).cur (fun i => look W (D.cur i) i) := by
  obtain ⟨hW, h0, hL⟩ := lk_two h.vb.cur hl
  rw [rFin_groups]
  obtain ⟨h1, h2⟩ := h.go hW.fin hW.finV
  refine ⟨h1, ?_, fun i hi => ?_⟩
  · rw [h2, flat_fin, look_snoc, if_pos (show 320 / 8 = 40 from rfl)]
  · rw [h2, flat_fin, look_snoc, if_neg (by show ¬ 320 / 8 = i; omega)]
end
/-- The first instructions of a commit's program store the entries. -/
theorem plan_first {W : List (Nat × Int)} {k : Nat} (hk : k < 2 * W.length) : ∃ e : Nat × Int, e ∈ planWs 384 W ∧ (rPlanP 320 W)[k]? = some (1, e.1, e.2) := by
  have h0 : W ≠ [] := fun h => by subst h; simp at hk
  have hk2 : k < (planWs 384 W).length := by rw [planWs_len]; exact hk
  refine ⟨(planWs 384 W)[k], List.getElem_mem hk2, ?_⟩
  unfold rPlanP
  rw [if_neg h0]
  unfold storesL
  rw [List.append_assoc, List.append_assoc, List.getElem?_append_left (by simpa using hk2), List.getElem?_map, List.getElem?_eq_getElem hk2]
  rfl
end Go.Proofs.YtfigngoojphffaaDoor

/- The reference of layer 15: Look. -/
namespace Go.Proofs.YtfigngoojphffaaDoor
open Go.RowKit Go.Maps
attribute [local go_sem ↓] Go.wp_at_zero Go.wp_at_succ

/-- The entries that lie in the log. -/
def wlk (C : Nat → Int) (n : Nat) : List (Nat × Int) := (List.range n).map fun i => ((C (48 + 2 * i)).toNat, C (49 + 2 * i))
theorem wlk_len (C : Nat → Int) (n : Nat) : (wlk C n).length = n := by simp [wlk]
theorem wlk_succ (C : Nat → Int) (n : Nat) : wlk C (n + 1) = wlk C n ++ [((C (48 + 2 * n)).toNat, C (49 + 2 * n))] := by simp [wlk, List.range_succ]
theorem wlk_mem {C : Nat → Int} {n k : Nat} (hk : k < n) : ((C (48 + 2 * k)).toNat, C (49 + 2 * k)) ∈ wlk C n := List.mem_map.2 ⟨k, List.mem_range.2 hk, rfl⟩
theorem lk_eq (C : Nat → Int) {c : Nat} (hc : (C 40).toNat = c) : lk C = (if c = 0 then (1, []) else if c % 65536 = 0 ∨ 96 < c % 65536 ∨ c / 65536 % 65536 ≠ 0 then (3, [])
    else if crcN (entW (wlk C (c % 65536))) ≠ c / 4294967296 then (3, []) else if (wlk C (c % 65536)).all (fun e => rAllowB 2560 320 1664 e.1) then (2, wlk C (c % 65536)) else (3, [])) := by
  subst hc; rfl
theorem lk_bad {C : Nat → Int} {c : Nat} (hc : (C 40).toNat = c) (h0 : c ≠ 0) (hn : c % 4294967296 < 1 ∨ 96 < c % 4294967296) : lk C = (3, []) := by
  rw [lk_eq C hc, if_neg h0]
  by_cases h : c % 65536 = 0 ∨ 96 < c % 65536 ∨ c / 65536 % 65536 ≠ 0
  · rw [if_pos h]
  · omega
theorem lk_good {C : Nat → Int} {c n : Nat} (hc : (C 40).toNat = c) (hn : c % 4294967296 = n) (h1 : 1 ≤ n) (h2 : n ≤ 96) : lk C = if crcN (entW (wlk C n)) ≠ c / 4294967296 then (3, []) else if (wlk C n).all (fun e => rAllowB 2560 320 1664 e.1) then (2, wlk C n) else (3, []) := by
  have hm : c % 65536 = n := by omega
  rw [lk_eq C hc, if_neg (by omega), if_neg (by omega), hm]
theorem lk_out {C : Nat → Int} {c n : Nat} (hc : (C 40).toNat = c) (hn : c % 4294967296 = n) (h1 : 1 ≤ n) (h2 : n ≤ 96) {e : Nat × Int} (he : e ∈ wlk C n) (hf : rAllowB 2560 320 1664 e.1 = false) : lk C = (3, []) := by
  rw [lk_good hc hn h1 h2]
  split
  · rfl
  · rw [if_neg]
    intro ha
    have := List.all_eq_true.1 ha e he
    rw [hf] at this; cases this
theorem lk_in {C : Nat → Int} {c n : Nat} (hc : (C 40).toNat = c) (hn : c % 4294967296 = n) (h1 : 1 ≤ n) (h2 : n ≤ 96) (ha : ∀ e ∈ wlk C n, rAllowB 2560 320 1664 e.1 = true) : lk C = if c = cmtN (wlk C n) then (2, wlk C n) else (3, []) := by
  rw [lk_good hc hn h1 h2]
  have hcm : cmtN (wlk C n) = n + crcN (entW (wlk C n)) * 4294967296 := by unfold cmtN; rw [wlk_len]
  by_cases h : crcN (entW (wlk C n)) = c / 4294967296
  · rw [if_neg (by simpa using h), if_pos (List.all_eq_true.2 ha), if_pos (by omega)]
  · rw [if_pos h, if_neg (by omega)]
section
variable {w : World}
set_option maxRecDepth 100000 in
set_option maxHeartbeats 8000000 in
theorem r15Look_any (C : Nat → Int) (hC : ∀ i, 0 ≤ C i ∧ C i < 18446744073709551616) (wv : Value) (hw : RdSl w 1 wv 208 (intsU (getL (fun i => C (40 + i)) 208))) :
    Calls Tryd.prog 23 #[.agg #[.int .u64 320, .int .u64 1984, .int .u64 2560], wv] w fun r w' => ∃ sv, r = .returned (.tuple #[.int .i64 ((lk C).1 : Nat), sv]) ∧ RdSl w' 2 sv (lk C).2.length (flat (lk C).2) ∧ Below w.heap.size w w' ∧ ∀ k, sv.ownBlock = some k → w.heap.size ≤ k ∧ k < w'.heap.size := by
  have HC := Lib.hid hC; have HW := Lib.hid hw
  obtain ⟨_, wa, wc, rfl, hwc, _⟩ := hw
  obtain ⟨k1, hi0, hz0, hz1, hz2⟩ := info_parts infoRW
  have I3 := Lib.hid (And.intro hi0 (And.intro hz0 (And.intro hz1 hz2))); clear hi0 hz0 hz1 hz2
  have HG : Hid (∀ i, i < 208 → (intsU (getL (fun i => C (40 + i)) 208))[i]? = some (.int .u64 (C (40 + i)))) := fun i hi => intsU_get _ _ _ (by simp [getL, List.getElem?_range hi])
  obtain ⟨_, a', c', e', _, hE⟩ := HW.out
  cases e'
  obtain ⟨eb, eo, rfl, hE2⟩ := rd_at hE (HG.out 0 (by omega))
  have HR : Hid (∀ (wx : World), Below w.heap.size w wx → ∀ i, i < 208 → wx.cell? ⟨eb, eo + i, none⟩ = some (.int .u64 (C (40 + i)))) := fun wx hb i hi => by
    obtain ⟨_, a', c', e', _, hE⟩ := HW.out.below hb
    cases e'
    obtain ⟨_, _, e2, hE2⟩ := rd_at hE (HG.out i hi)
    cases e2
    exact hE2 _ _ (HG.out i hi)
  have L0 := Lib.hid (Lg.new w)
  have BX := Lib.hid (below_alloc w (.cells #[.int .u64 320, .int .u64 1984, .int .u64 2560] 42))
  obtain ⟨c, hc⟩ : ∃ c, (C 40).toNat = c := ⟨_, rfl⟩
  have hcI : C 40 = (c : Int) := by have := hC 40; omega
  have hc64 : c < 18446744073709551616 := by have := hC 40; omega
  have c0 : ((w.alloc (.cells #[.int .u64 320, .int .u64 1984, .int .u64 2560] 42))).cell? ⟨eb, eo, none⟩ = some (.int .u64 (c : Int)) := by
    have := HR.out _ BX.out 0 (by omega)
    rw [Nat.add_zero, Nat.add_zero, hcI] at this
    exact this
  have HCC := Lib.hid hc; have HCI := Lib.hid hcI
  clear hE hE2 hC hc hcI
  go_enter Tryd.func23, Tryd.ntmps23
  by_cases h0 : c = 0
  · have hb0 : ((c : Int) == 0) = true := by simp; omega
    have HL := Lib.hid (lk_zero (f := C) (by rw [HCI.out, h0]; rfl))
    clear h0
    go_wp2_with fail
    go_ret2
    exact ⟨_, by rw [HL.out]; rfl, by rw [HL.out]; exact (OwnSl.nil _ 0 _).rd, BX.out, fun k hk => by simp [Value.ownBlock] at hk⟩
  have hb0 : ((c : Int) == 0) = false := by simp; omega
  by_cases hn1 : c % 4294967296 < 1
  · have hn1' : ((c % 4294967296 : Nat) : Int) < 1 := by omega
    have HL := Lib.hid (lk_bad HCC.out h0 (.inl hn1))
    clear h0 hn1
    go_wp2_with fail
    go_ret2
    exact ⟨_, by rw [HL.out]; rfl, by rw [HL.out]; exact (OwnSl.nil _ 0 _).rd, BX.out, fun k hk => by simp [Value.ownBlock] at hk⟩
  by_cases hn2 : 96 < c % 4294967296
  · have HL := Lib.hid (lk_bad HCC.out h0 (.inr hn2))
    have hn1' : ¬ (c : Int) % 4294967296 < 1 := by omega
    have hn2' : (96 : Int) < (c : Int) % 4294967296 := by omega
    clear h0 hn1 hn2
    go_wp2_with fail
    go_ret2
    exact ⟨_, by rw [HL.out]; rfl, by rw [HL.out]; exact (OwnSl.nil _ 0 _).rd, BX.out, fun k hk => by simp [Value.ownBlock] at hk⟩
  obtain ⟨n, hn⟩ : ∃ n, c % 4294967296 = n := ⟨_, rfl⟩
  have hnI : (c : Int) % 4294967296 = (n : Int) := by omega
  have hn1' : ¬ (n : Int) < 1 := by omega
  have hn2' : ¬ (96 : Int) < (n : Int) := by omega
  have hnl : n ≤ 96 := by omega
  have HK := Lib.hid (fun h => lk_in HCC.out hn (by omega) (by omega) h)
  have HKO := Lib.hid (fun e he hf => lk_out HCC.out hn (by omega) (by omega) (e := e) he hf)
  clear h0 hn1 hn2 hn
  go_wp2_with fail
  go_loopw [7, 8] (fun sv y wr => ∃ k : Nat, k ≤ n ∧ y = .int .i64 k ∧ Acc (w.alloc (.cells #[.int .u64 320, .int .u64 1984, .int .u64 2560] 42)) ((w.alloc (.cells #[.int .u64 320, .int .u64 1984, .int .u64 2560] 42))).heap.size wr 68 2 sv k (flat (wlk C k)) ∧ ∀ e ∈ wlk C k, rAllowB 2560 320 1664 e.1 = true) (fun _ y _ => n - (intOf y).toNat)
  case atStart => exact ⟨0, by omega, rfl, Acc.nil _ _ _ _ _ (Below.refl _ _) (Nat.le_refl _), fun e he => by simp [wlk] at he⟩
  case round =>
    clear c0
    obtain ⟨k, hk, rfl, ha, hal⟩ := hrel
    obtain ⟨oa, oc, hov⟩ := ha.slice
    subst hov
    have A := Lib.hid ha; have HAL := Lib.hid hal; clear ha hal
    by_cases hlt : k < n
    · have hk' : (k : Int) < n := by omega
      obtain ⟨t, ht⟩ : ∃ t, 8 + 2 * k = t := ⟨_, rfl⟩
      obtain ⟨t2, ht2⟩ : ∃ t2, 9 + 2 * k = t2 := ⟨_, rfl⟩
      have y0 : IntKind.i64.wrap (2 * (k : Int)) = 2 * (k : Int) := by rw [IntKind.wrap_i64]; omega
      have y1 : IntKind.i64.wrap (8 + 2 * (k : Int)) = (t : Int) := by rw [IntKind.wrap_i64]; omega
      have y2 : IntKind.i64.wrap (9 + 2 * (k : Int)) = (t2 : Int) := by rw [IntKind.wrap_i64]; omega
      have htl : (t : Int) < 208 := by omega
      have htl2 : (t2 : Int) < 208 := by omega
      obtain ⟨e1, he1⟩ : ∃ e1, (C (48 + 2 * k)).toNat = e1 := ⟨_, rfl⟩
      obtain ⟨e2, he2⟩ : ∃ e2, C (49 + 2 * k) = e2 := ⟨_, rfl⟩
      have BW : Hid (Below w.heap.size w wr) := BX.out.trans (A.out.bel.mono BX.out.size)
      have cc : ∀ wx, Below w.heap.size w wx → wx.cell? ⟨eb, eo + t, none⟩ = some (.int .u64 (e1 : Int)) ∧ wx.cell? ⟨eb, eo + t2, none⟩ = some (.int .u64 e2) := fun wx hb => by
        have h1 := HR.out _ hb t (by omega)
        have h2 := HR.out _ hb t2 (by omega)
        rw [show 40 + t = 48 + 2 * k by omega] at h1
        rw [show 40 + t2 = 49 + 2 * k by omega, he2] at h2
        exact ⟨by rw [h1, ← he1, Int.toNat_of_nonneg (HC.out _).1], h2⟩
      obtain ⟨c1, c2⟩ := cc wr BW.out
      obtain ⟨c3, c4⟩ := cc (wr.alloc (.cells #[.int .u64 0, .int .u64 0] 68)) (BW.out.alloc BW.out.size _)
      clear cc
      have hb1 : e1 < 18446744073709551616 := by have := HC.out (48 + 2 * k); omega
      have HS := Lib.hid (show wlk C (k + 1) = wlk C k ++ [(e1, e2)] by rw [wlk_succ, he1, he2])
      have HME := Lib.hid (show (e1, e2) ∈ wlk C n by have := wlk_mem (C := C) hlt; rw [he1, he2] at this; exact this)
      clear ht ht2 he1 he2
      go_upto_region 10 with fail
      go_cut [9] from 30 to 42 (fun p wx => p = .pointer (some ⟨wr.heap.size, 0, none⟩) ∧ wx.cell? ⟨wr.heap.size, 0, none⟩ = some (.int .u64 (e1 : Int)) ∧ wx.cell? ⟨wr.heap.size, 1, none⟩ = some (.int .u64 e2) ∧ Below wr.heap.size wr wx)
      case first =>
        go_region
        all_goals go_wp2_with fail
        all_goals go_meet
        all_goals exact ⟨rfl, (Blk.new wr _ _).cell rfl, (Blk.new wr _ _).cell rfl, (below_alloc wr _).drew⟩
      case rest =>
        obtain ⟨rfl, z0, z1, hbx⟩ := hcut
        rename World => wx
        have AX := Lib.hid (A.out.keep hbx)
        have LX := Lib.hid (L0.out.acc AX.out.bel)
        have x0 := LX.out.c0; have x1 := LX.out.c1; have x2 := LX.out.c2
        have HWD := Lib.hid (r15Word_any (w := wx) e1)
        have Z := Lib.hid (And.intro z0 z1)
        clear c1 c2 c3 c4 y0 y1 y2 hbx A BW
        cases hf : rAllowB 2560 320 1664 e1
        · rw [hf] at HWD
          have HL := Lib.hid (HKO.out _ HME.out hf)
          clear hf
          go_wp2_with fail
          (with_reducible refine HWD.out.mono ?_)
          rintro e w4 ⟨rfl, b4⟩
          have B4 : Hid (Below w.heap.size w w4) := (BX.out.trans (AX.out.bel.mono BX.out.size)).trans (b4.mono (Nat.le_trans BX.out.size AX.out.bel.size))
          clear b4
          go_wp2_with fail
          go_ret2
          exact ⟨_, by rw [HL.out]; rfl, by rw [HL.out]; exact (OwnSl.nil _ 0 _).rd, B4.out, fun k hk => by simp [Value.ownBlock] at hk⟩
        · rw [hf] at HWD
          have HF := Lib.hid hf; clear hf
          go_wp2_with fail
          (with_reducible refine HWD.out.mono ?_)
          rintro e w4 ⟨rfl, b4⟩
          have A4 := Lib.hid (AX.out.keep b4)
          have z0 := cell_bel b4 Z.out.1
          have z1 := cell_bel b4 Z.out.2
          clear b4 x0 x1 x2 AX LX
          go_wp2_with (at_builtin; refine wpList_append_sl _ rfl _ _ 31 rfl 68 k1 _ 2 16 Tryd.underlying31 I3.out.1 I3.out.2.1 I3.out.2.2.1 I3.out.2.2.2 rfl (by decide) _ k (flat (wlk C k)) rfl (by exact A4.out.own.alloc _) _ 1 (flat [(e1, e2)]) rfl (by exact RdSl.newAt _ _ _ 2 1 _ (by simp) rfl) (flat_one _) (by unfold maxLen; omega) (by omega) ?_)
          intro v1 w5 o1 g1 b1 n1
          have A5 := Lib.hid (A4.out.next (below_alloc _ _) o1 g1 b1 (by simp)); clear o1 g1 b1 n1
          go_wp2_with fail
          go_roundw
          case rel => exact ⟨k + 1, by omega, by go_num, A5.out.congr rfl (by rw [HS.out, flat_append]), fun e he => by
            rw [HS.out] at he
            rcases List.mem_append.1 he with he | he
            · exact HAL.out e he
            · simp at he; subst he; exact HF.out⟩
          case measure => simp [intOf]; omega
    · obtain rfl : k = n := by omega
      have HL := Lib.hid (HK.out HAL.out)
      have hwb : ∀ e ∈ wlk C k, e.1 < 18446744073709551616 ∧ 0 ≤ e.2 ∧ e.2 < 18446744073709551616 := fun e he => by
        obtain ⟨i, _, rfl⟩ := List.mem_map.1 he
        have := HC.out (48 + 2 * i)
        exact ⟨by simp only; omega, HC.out _⟩
      have BW : Hid (Below w.heap.size w wr) := BX.out.trans (A.out.bel.mono BX.out.size)
      have HLN := Lib.hid (wlk_len C k)
      have c0 : wr.cell? ⟨eb, eo, none⟩ = some (.int .u64 (c : Int)) := by
        have := HR.out _ BW.out 0 (by omega)
        rw [Nat.add_zero, Nat.add_zero, HCI.out] at this
        exact this
      have HCM := Lib.hid (fun (wx : World) (h : RdSl wx 2 (.slice oa k oc) k (flat (wlk C k))) => r15Commit_any (.slice oa k oc) (wlk C k) (by rw [HLN.out]; exact h) (by rw [HLN.out]; omega) hwb)
      generalize cmtN (wlk C k) = cm at *
      clear hwb
      go_upto_region 14 with fail
      go_cut [57] from 52 to 56 (fun b wx => b = .bool ((c : Int) != (cm : Int)) ∧ Below wr.heap.size wr wx)
      case first =>
        go_region_with (go_at_call 56; (with_reducible refine (HCM.out _ A.out.rd.drew).mono ?_); rintro e w3 ⟨rfl, b3⟩; have B3 := Lib.hid (bdrew b3); have d0 := cell_bel B3.out c0; clear b3)
        all_goals go_wp2_with fail
        all_goals go_meet
        all_goals exact ⟨rfl, B3.out⟩
      case rest =>
        obtain ⟨rfl, hbx⟩ := hcut
        rename World => wx
        have AX := Lib.hid (A.out.keep hbx)
        have BX2 : Hid (Below w.heap.size w wx) := BW.out.trans (hbx.mono BW.out.size)
        clear hbx A BW
        by_cases he : c = cm
        · have hb : ((c : Int) != (cm : Int)) = false := by simp; omega
          rw [if_pos he] at HL
          clear he
          go_wp2_with fail
          go_ret2
          exact ⟨_, by rw [HL.out]; rfl, by rw [HL.out]; show RdSl wx 2 _ (wlk C k).length (flat (wlk C k)); rw [HLN.out]; exact AX.out.rd, BX2.out, fun k hk => ⟨by have := AX.out.new k hk; simp at this; omega, AX.out.own.lt k hk⟩⟩
        · have hb : ((c : Int) != (cm : Int)) = true := by simp; omega
          rw [if_neg he] at HL
          clear he
          go_wp2_with fail
          go_ret2
          exact ⟨_, by rw [HL.out]; rfl, by rw [HL.out]; exact (OwnSl.nil _ 0 _).rd, BX2.out, fun k hk => by simp [Value.ownBlock] at hk⟩
end
end Go.Proofs.YtfigngoojphffaaDoor

/- The law's logged: a device whose log holds any words. -/
namespace Go.Proofs.YtfigngoojphffaaDoor
open Go.RowKit Go.Maps
attribute [local go_sem ↓] Go.wp_at_zero Go.wp_at_succ

/-- A slice that lies apart from the device. -/
structure Kr (own : Nat → Option Role) (wr : World) (sz : Nat) (v : Value) (n : Nat) (xs : List Value) : Prop where
  rd : RdSl wr sz v n xs
  fr : ∀ k, v.ownBlock = some k → own k = none ∧ k < wr.heap.size
/-- A spoil among the law's argument. -/
def SpAt (xs : List Value) (i : Nat) : Prop := ∃ (x : Nat) (b : Bool) (y : Int), xs[i * 3]? = some (.int .u8 x) ∧ xs[i * 3 + 1]? = some (.bool b) ∧ xs[i * 3 + 2]? = some (.int .u64 y) ∧ x < 256 ∧ 0 ≤ y ∧ y < 18446744073709551616
theorem store_n (D : Dev) (o : Nat) (v : Int) : (D.store 0 o v).n = D.n := step_n D 0 (1, o, v)
section
variable {w1 wc wd : World} {v : DV} {lb y : Nat} {D : Dev} {C : Nat → Int} {own own' : Nat → Option Role} {sz n : Nat} {u : Value} {xs : List Value}
theorem Kr.next (h : Kr own wc sz u n xs) (hb : Below wc.heap.size wc wd) : Kr own wd sz u n xs := ⟨h.rd.below hb, fun k hk => ⟨(h.fr k hk).1, Nat.lt_of_lt_of_le (h.fr k hk).2 hb.size⟩⟩
theorem Kr.step (h : Kr own wc sz u n xs) (m : Mv own own' wc wd) : Kr own' wd sz u n xs :=
  ⟨h.rd.upd m.upd (fun k hk => by simpa using (h.fr k hk).1), fun k hk => ⟨by rw [m.old k (h.fr k hk).2]; exact (h.fr k hk).1, Nat.lt_of_lt_of_le (h.fr k hk).2 m.upd.size⟩⟩
theorem Kr.of {e : TypeId} (h : IsDev wc v own D) (ha : Acc wc wc.heap.size wd e sz u n xs) : Kr own wd sz u n xs := ⟨ha.rd, fun k hk => ⟨own_none h (ha.new k hk), ha.own.lt k hk⟩⟩
/-- Plan of writes that are allowed, on a clean device. -/
theorem plan15g (h : RSt w1 v own D lb 0 320 1664 wc) (hN : Nib wc) (hc : RCl D C y) (hC : C 40 = 0) (l : List (Nat × Int)) (hl : ∀ e ∈ l, 0 ≤ e.2 ∧ e.2 < 18446744073709551616) (hu : RdSl wc 2 u (gwL l).length (flat (gwL l))) :
    Calls Tryd.prog 14 #[.pointer (some ⟨lb, 0, none⟩), u] wc fun r w' => ∃ (pa : Option Addr) (pl pc : Nat) (e : Int), r = .returned (.tuple #[.slice pa pl pc, .int .i64 e]) ∧ Below wc.heap.size wc w' ∧
      (e ≠ 0 ∨ (e = 0 ∧ ¬ 96 < (lastL (gwL l)).length ∧ pl = (rPlanP 320 (lastL (gwL l))).length ∧ Kr own w' 3 (.slice pa pl pc) pl (instrC (rPlanP 320 (lastL (gwL l)))))) := by
  have hok := gwL_ok hl
  have hgl := gwL_len l
  have hb : ∀ e ∈ gwL l, e.1 < 18446744073709551616 ∧ 0 ≤ e.2 ∧ e.2 < 18446744073709551616 := fun e he => ⟨by have := allow_out (hok e he).1; omega, (hok e he).2⟩
  refine (plan15 h hN hc hC u (gwL l) (by omega) hb hu).mono ?_
  have hch := chkR_good (fun e he => (hok e he).1)
  rintro r w' (⟨h1, h2, h3⟩ | ⟨h1, ov, h2, h3⟩)
  · exact ⟨none, 0, 0, _, h2, h3, .inl h1⟩
  · obtain ⟨a, c, rfl⟩ := h3.slice
    refine ⟨a, _, c, 0, h2, h3.bel, .inr ⟨rfl, ?_, rfl, Kr.of h.log.dev h3⟩⟩
    intro h96
    rw [h1, if_pos h96] at hch
    cases hch
end
section
variable {w : World}
set_option maxRecDepth 100000 in
set_option maxHeartbeats 16000000 in
theorem l15logged_any (hN : Nib w) (hW : Wr w) (lv sv : Value) (l : List (Nat × Int)) (m : Nat) (xs : List Value) (hs : RdSl w 2 lv l.length (pairC l)) (hb : ∀ e ∈ l, e.1 < 256 ∧ 0 ≤ e.2 ∧ e.2 < 18446744073709551616) (hl : l.length ≤ maxLen)
    (hx : RdSl w 3 sv m xs) (hm : m ≤ maxLen) (hxs : ∀ i, i < m → SpAt xs i) :
    Calls Tryd.prog 20 #[lv, sv] w fun r w' => ∃ (v : DV) (own : Nat → Option Role) (lb : Nat) (D : Dev) (wa : Option Addr) (wc : Nat), r = .returned (.tuple #[.pointer (some ⟨v.db, 0, none⟩), .pointer (some ⟨lb, 0, none⟩), .slice wa 208 wc]) ∧
      RSt w v own D lb 0 320 1664 w' ∧ Rv D 1000 ∧ Kr own w' 1 (.slice wa 208 wc) 208 (intsU (getL (fun i => D.cur (40 + i)) 208)) := by
  have HNB := Lib.hid hN; have HWR := Lib.hid hW; clear hN hW
  have HS := Lib.hid hs; have HB := Lib.hid hb; have HX := Lib.hid hx; have HXS := Lib.hid hxs; have HML := Lib.hid (And.intro hl hm)
  obtain ⟨_, sa, sc, rfl, hsc, _⟩ := hs
  obtain ⟨_, ta, tc, rfl, htc, _⟩ := hx
  obtain ⟨i0, hi0, hz0, hz1, hz2⟩ := info_parts infoU64
  have I := Lib.hid (And.intro hi0 (And.intro hz0 (And.intro hz1 hz2))); clear hi0 hz0 hz1 hz2 hb hxs hl
  obtain ⟨n, hn⟩ : ∃ n, l.length = n := ⟨_, rfl⟩
  have HLN := Lib.hid hn
  rw [hn] at hsc HS HML
  rw [hn]
  clear hn
  go_enter Tryd.func20, Tryd.ntmps20
  go_wp2_with fail
  (with_reducible refine made15.mono ?_)
  rintro e w2 ⟨v, own, lb, rfl, l2⟩
  have L2 := Lib.hid l2; clear l2
  have HGD := Lib.hid (l15good_any (.slice sa n sc) l (by rw [HLN.out]; exact HS.out.below L2.out.bel) (fun e he => (HB.out e he).1) (by rw [HLN.out]; exact HML.out.1))
  have HBD : Hid (∀ e ∈ l, 0 ≤ e.2 ∧ e.2 < 18446744073709551616) := fun e he => (HB.out e he).2
  have hgl := goodL_len l
  have HGB := Lib.hid (goodL_bd HBD.out)
  go_wp2_with fail
  (with_reducible refine HGD.out.mono ?_)
  rintro e w3 ⟨ov, rfl, a3⟩
  obtain ⟨oa, oc, hov⟩ := a3.slice
  subst hov
  have HWT := Lib.hid (l15writes_any _ (goodL l) a3.rd (fun e he => by have := (HGB.out e he).1; omega) (by omega))
  have L3 := Lib.hid (L2.out.next a3.bel)
  clear a3 HGD L2
  go_wp2_with fail
  (with_reducible refine HWT.out.mono ?_)
  rintro e w4 ⟨u4, v4, rfl, p4⟩
  have hgw : wrL (goodL l) = gwL l := rfl
  rw [hgw] at p4
  obtain ⟨ua, uc, hu4⟩ := p4.a.slice
  subst hu4
  obtain ⟨va, vc, hv4⟩ := p4.b.slice
  subst hv4
  have L4 := Lib.hid (L3.out.next p4.a.bel)
  have HPL := Lib.hid (plan15g L4.out (HNB.out.below L4.out.bel) D15_rcl.1 C15_40 (u := .slice ua (gwL l).length uc) l HBD.out p4.a.rd)
  have V4 := Lib.hid (Kr.of L3.out.log.dev p4.b)
  clear p4 hgw HWT L3 HGB
  go_wp2_with fail
  (with_reducible refine HPL.out.mono ?_)
  rintro e w5 ⟨pa, pl, pc, ec, rfl, b5, h5⟩
  have L5 := Lib.hid (L4.out.next b5); have V5 := Lib.hid (V4.out.next b5); have H5 := Lib.hid h5
  have R5 := Lib.hid (D15_rcl.1.rv D15_rcl.2)
  clear b5 h5 HPL L4 V4
  go_wp2_with fail
  (with_reducible refine (thread0_any L5.out.log.dev).mono ?_)
  rintro e w' ⟨rfl, rfl⟩
  have hg2 := gwL_len l
  obtain ⟨gl, hgl2⟩ : ∃ gl, (gwL l).length = gl := ⟨_, rfl⟩
  rw [hgl2] at hg2 V5
  rw [hgl2]
  obtain ⟨bt, hbt⟩ : ∃ bt, decide (ec = 0 ∧ 0 < gl) = bt := ⟨_, rfl⟩
  have HBT := Lib.hid hbt; have HGL := Lib.hid hgl2
  clear hbt hgl2
  go_upto_region 5 with fail
  go_cut [45] from 39 to 44 (fun b wx => b = .bool bt ∧ w5 = wx)
  case first =>
    by_cases he : ec = 0
    · have hb1 : (ec == 0) = true := by simpa using he
      by_cases h0 : 0 < gl
      · have h0' : (0 : Int) < gl := by omega
        have HR : Hid (bt = true) := by show bt = true; rw [← HBT.out]; simp [he, h0]
        clear he
        go_wp2_with fail
        go_meet
        exact ⟨by rw [HR.out], rfl⟩
      · have h0' : ¬ (0 : Int) < gl := by omega
        have HR : Hid (bt = false) := by show bt = false; rw [← HBT.out]; simp [h0]
        clear he
        go_wp2_with fail
        go_meet
        exact ⟨by rw [HR.out], rfl⟩
    · have hb1 : (ec == 0) = false := by simpa using he
      have HR : Hid (bt = false) := by show bt = false; rw [← HBT.out]; simp [he]
      clear he
      go_wp2_with fail
      go_meet
      exact ⟨by rw [HR.out], rfl⟩
  case rest =>
  obtain ⟨rfl, rfl⟩ := hcut
  go_upto_if 45 with fail
  go_cut [15] from 46 to 70 (fun _ wx => ∃ (D : Dev) (own : Nat → Option Role), RSt w v own D lb 0 320 1664 wx ∧ Rv D 500)
  case first =>
    cases bt
    · clear H5 HBT
      go_wp2_with fail
      go_meet
      exact ⟨D15, own, L5.out, R5.out.mono (by omega)⟩
    · obtain ⟨he, h0⟩ := of_decide_eq_true HBT.out
      obtain ⟨h96, hpl, kp⟩ : ¬ 96 < (lastL (gwL l)).length ∧ pl = (rPlanP 320 (lastL (gwL l))).length ∧ Kr own w5 3 (.slice pa pl pc) pl (instrC (rPlanP 320 (lastL (gwL l)))) := by
        rcases H5.out with h | ⟨_, h⟩
        · exact absurd he h
        · exact h
      have HRW := Lib.hid (fun (wx : World) (h : RdSl wx 2 (.slice va gl vc) gl (flat (gwL l))) => r15Writes_any (.slice va gl vc) (gwL l) (by rw [HGL.out]; exact h) (by rw [HGL.out]; omega))
      have hWK := gwL_w HBD.out h96
      have hne : lastL (gwL l) ≠ [] := fun h => by
        have := lastL_nil.1 h
        rw [← HGL.out, this] at h0
        simp at h0
      have HFI := Lib.hid (fun k hk => plan_first (W := lastL (gwL l)) (k := k) hk)
      clear H5 HBT HBD HB
      generalize lastL (gwL l) = W at *
      have HWK := Lib.hid hWK; have HPL := Lib.hid hpl
      obtain ⟨wl, hwl⟩ : ∃ wl, W.length = wl := ⟨_, rfl⟩
      rw [hwl] at h96 HFI HRW
      have h1 : 0 < wl := by
        rcases Nat.eq_zero_or_pos wl with h | h
        · exact absurd (List.length_eq_zero_iff.1 (hwl.trans h)) hne
        · exact h
      have HWL := Lib.hid hwl
      have hple : 2 * wl ≤ pl := by
        obtain ⟨e, _, he⟩ := HFI.out (2 * wl - 1) (by omega)
        have := (List.getElem?_eq_some_iff.1 he).1
        rw [hpl]; omega
      obtain ⟨_, pa', pc', e', hpc, hE⟩ := kp.rd
      cases e'
      obtain ⟨e0, _, he0⟩ := HFI.out 0 (by omega)
      obtain ⟨eb, eo, rfl, _⟩ := rd_at hE (instrC_get _ 0 _ he0).1
      have KP := Lib.hid kp
      have hcm := cmtN_bd (W := W) (by omega)
      have HCM := Lib.hid (fun (wx : World) (zv : Value) (h : RdSl wx 2 zv wl (flat W)) => r15Commit_any zv W (by rw [HWL.out]; exact h) (by rw [HWL.out]; omega) (fun e he => ⟨by have := allow_out (HWK.out.ok e he); omega, HWK.out.bd e he⟩))
      generalize rPlanP 320 W = P at *
      generalize cmtN W = cm at *
      have hs1 : (2 : Int) * (wl : Int) ≤ (pc : Int) := by omega
      have hs2 : ¬ pc = 0 := by omega
      have hs3 : (2 * (wl : Int)).toNat = 2 * wl := by omega
      clear hpl hwl hne he0 hE hWK he kp
      go_wp2_with fail
      (with_reducible refine (HRW.out _ V5.out.rd).mono ?_)
      rintro e w6 ⟨ov, rfl, a6⟩
      obtain ⟨za, zc, hz⟩ := a6.slice
      subst hz
      have L6 := Lib.hid (L5.out.next a6.bel); have V6 := Lib.hid (V5.out.next a6.bel); have P6 := Lib.hid (KP.out.next a6.bel)
      clear a6 L5 V5 KP
      go_wp2_with fail
      go_loopw [53] (fun y wr => ∃ (k : Nat) (D : Dev) (own : Nat → Option Role), k ≤ 2 * wl ∧ y = .int .i64 k ∧ RSt w v own D lb 0 320 1664 wr ∧ Rv D (3 + k) ∧ Kr own wr 3 (.slice (some ⟨eb, eo, none⟩) pl pc) pl (instrC P) ∧ Kr own wr 2 (.slice va gl vc) gl (flat (gwL l))) (fun y _ => 2 * wl - (intOf y).toNat)
      case atStart => exact ⟨0, D15, own, by omega, rfl, L6.out, R5.out, P6.out, V6.out⟩
      case round =>
        clear L6 R5 P6 V6
        obtain ⟨k, D, ownr, hk, rfl, hl, hr, hp, hv⟩ := hrel
        have L := Lib.hid hl; have R := Lib.hid hr; have PK := Lib.hid hp; have VK := Lib.hid hv
        clear hl hr hp hv
        by_cases hlt : k < 2 * wl
        · have hk' : (k : Int) < 2 * (wl : Int) := by omega
          have hk2 : (k : Int) < ((2 * wl : Nat) : Int) := by omega
          obtain ⟨e, hem, he⟩ := HFI.out k hlt
          have hbd := planWs_bd W 384 e hem
          have h8 := planWs_8 (l := W) (b := 384) (by omega) e hem
          have hvb := planWs_val (fun e he => ⟨by have := allow_out (HWK.out.ok e he); omega, HWK.out.bd e he⟩) e hem
          rw [HWL.out] at hbd
          obtain ⟨_, a', c', e', _, hE⟩ := PK.out.rd
          cases e'
          have hg := instrC_get P k _ he
          obtain ⟨xb, xo, hxa, hE2⟩ := rd_at hE hg.1
          cases hxa
          have c1 := hE2 _ _ hg.1; have c2 := hE2 _ _ hg.2.1; have c3 := hE2 _ _ hg.2.2
          rw [← Nat.add_assoc] at c2 c3
          obtain ⟨e1, e2⟩ := e
          simp only at hbd h8 hvb c1 c2 c3
          rw [show ((1 : Nat) : Int) = 1 from rfl] at c1
          have LA := Lib.hid (L.out.next (below_alloc wr (.cells #[.int .u8 1, .int .u64 (e1 : Int), .int .u64 e2] 47)))
          have PA := Lib.hid (PK.out.next (below_alloc wr (.cells #[.int .u8 1, .int .u64 (e1 : Int), .int .u64 e2] 47)))
          have VA := Lib.hid (VK.out.next (below_alloc wr (.cells #[.int .u8 1, .int .u64 (e1 : Int), .int .u64 e2] 47)))
          have HST := Lib.hid (store_any LA.out.log.dev (j := 0) (by omega) e1 e2 (by have := R.out.exec; omega))
          have RS := Lib.hid (R.out.store e1 e2 ⟨h8, by omega, by omega⟩ hvb)
          clear hE hE2 he hg hem L PK VK
          go_wp2_with fail
          (with_reducible refine HST.out.mono ?_)
          rintro e w7 ⟨rfl, p7⟩
          obtain ⟨own7, l7, m7⟩ := LA.out.stepM (store_n D e1 e2) p7
          have L7 := Lib.hid l7; have P7 := Lib.hid (PA.out.step m7); have V7 := Lib.hid (VA.out.step m7)
          clear p7 l7 m7 HST LA PA VA
          go_wp2_with fail
          go_roundw
          case rel => exact ⟨k + 1, D.store 0 e1 e2, own7, by omega, by go_num, L7.out, RS.out.mono (by omega), P7.out, V7.out⟩
          case measure => simp [intOf]; omega
        · obtain rfl : k = 2 * wl := by omega
          have hk' : ¬ ((2 * wl : Nat) : Int) < 2 * (wl : Int) := by omega
          have g0 : wr.drew.cell? ⟨0, 0, none⟩ = some (.int .u64 320) := (HWR.out.below L.out.bel).c0
          have HS9 : Hid (∀ wx, RSt w v ownr D lb 0 320 1664 wx → Calls Tryd.prog 57 #[.pointer (some ⟨v.tb 0, 0, none⟩), .int .u64 320, .int .u64 (cm : Int)] wx fun r w' => r = .returned (.tuple #[]) ∧ DPost v ownr wx (D.store 0 320 cm) w') :=
            fun wx h => store_any h.log.dev (j := 0) (by omega) 320 cm (by have := R.out.exec; omega)
          have RS := Lib.hid (R.out.store 320 cm ⟨by omega, by omega, by omega⟩ ⟨by omega, by omega⟩)
          go_upto_region 11 with fail
          go_cut [] from 64 to 70 (fun wx => ∃ (D : Dev) (own : Nat → Option Role), RSt w v own D lb 0 320 1664 wx ∧ Rv D 500)
          case first =>
            go_region_with (first | (go_at_call 25; (with_reducible refine (HRW.out _ VK.out.rd.drew).mono ?_); rintro e w8 ⟨ov, rfl, a8⟩; obtain ⟨ya, yc, hy⟩ := a8.slice; subst hy; have L8 := Lib.hid (L.out.next (bdrew a8.bel)); have y8 := (HWR.out.below L8.out.bel).c0; have HC8 := Lib.hid (HCM.out _ _ a8.rd); clear a8) | (go_at_call 56; (with_reducible refine HC8.out.mono ?_); rintro e w9 ⟨rfl, b9⟩; have L9 := Lib.hid (L8.out.next b9); have y9 := (HWR.out.below L9.out.bel).c0; clear b9) | (go_at_call 57; (with_reducible refine (HS9.out _ L9.out).mono ?_); rintro e w10 ⟨rfl, p10⟩; obtain ⟨own10, l10, m10⟩ := L9.out.stepM (store_n D 320 cm) p10; have L10 := Lib.hid l10; clear p10 l10 m10))
            all_goals go_wp2_with fail
            all_goals go_meet
            all_goals exact ⟨D.store 0 320 cm, own10, L10.out, RS.out.mono (by omega)⟩
          case rest =>
            obtain ⟨D2, own2, l2, r2⟩ := hcut
            go_wp2_with fail
            go_meet
            exact ⟨D2, own2, l2, r2⟩
  case rest =>
    obtain ⟨D, ownx, lx, rx⟩ := hcut
    rename World => wx
    have LX := Lib.hid lx; have RX := Lib.hid rx
    clear lx rx H5 HBT L5 V5 R5 HBD
    go_upto_block 2 with fail
    go_cut [16, 17, 18] from 73 to 111 (fun _ _ _ wy => ∃ (D : Dev) (own : Nat → Option Role), RSt w v own D lb 0 320 1664 wy ∧ Rv D 600)
    case first =>
      go_wp2_with fail
      go_loopw [73] (fun y wr => ∃ (k : Nat) (D : Dev) (own : Nat → Option Role), k ≤ m ∧ k ≤ 3 ∧ y = .int .i64 k ∧ RSt w v own D lb 0 320 1664 wr ∧ Rv D (500 + k)) (fun y _ => m - (intOf y).toNat)
      case atStart => exact ⟨0, D, ownx, by omega, by omega, rfl, LX.out, RX.out⟩
      case round =>
        clear LX RX
        obtain ⟨k, D, ownr, hk, hk3, rfl, hl, hr⟩ := hrel
        have L := Lib.hid hl; have R := Lib.hid hr
        clear hl hr
        by_cases hlt : k < m
        · have hk' : (k : Int) < m := by omega
          obtain ⟨x, b, z, hx0, hx1, hx2, hxb, hzb⟩ := HXS.out k hlt
          obtain ⟨_, a', c', e', _, hE⟩ := HX.out.below L.out.bel
          cases e'
          obtain ⟨eb, eo, rfl, hE2⟩ := rd_at hE hx0
          have c1 := hE2 _ _ hx0; have c2 := hE2 _ _ hx1; have c3 := hE2 _ _ hx2
          rw [← Nat.add_assoc] at c2 c3
          have LA := Lib.hid (L.out.next (below_alloc wr (.cells #[.int .u8 (x : Int), .bool b, .int .u64 z] 131)))
          have HZ := Lib.hid hzb
          clear hE hE2 hx0 hx1 hx2 L hzb
          by_cases h3 : k = 3
          · have hb3 : ((k : Int) == 3) = true := by simp; omega
            clear h3
            go_wp2_with fail
            go_meet
            exact ⟨D, ownr, LA.out, R.out.mono (by omega)⟩
          · have hb3 : ((k : Int) == 3) = false := by simp; omega
            have HK3 : Hid (k + 1 ≤ 3) := by show k + 1 ≤ 3; omega
            have g0 := (HWR.out.below LA.out.bel).c0
            have z0 : (wr.alloc (.cells #[.int .u8 (x : Int), .bool b, .int .u64 z] 131)).cell? ⟨wr.heap.size, 0, none⟩ = some (.int .u8 (x : Int)) := (Blk.new wr _ _).cell rfl
            have z1 : (wr.alloc (.cells #[.int .u8 (x : Int), .bool b, .int .u64 z] 131)).cell? ⟨wr.heap.size, 1, none⟩ = some (.bool b) := (Blk.new wr _ _).cell rfl
            have z2 : (wr.alloc (.cells #[.int .u8 (x : Int), .bool b, .int .u64 z] 131)).cell? ⟨wr.heap.size, 2, none⟩ = some (.int .u64 z) := (Blk.new wr _ _).cell rfl
            have x1 : (x : Int).tmod 205 = (x : Int) % 205 := Int.tmod_eq_emod_of_nonneg (by omega)
            clear h3
            go_upto_if 90 with fail
            generalize hwa : wr.alloc (.cells #[.int .u8 (x : Int), .bool b, .int .u64 z] 131) = wA at *
            go_cut [18] from 91 to 92 (fun ov wz => ∃ o : Nat, ov = .int .u64 o ∧ (o % 8 = 0 ∧ 320 ≤ o ∧ o < 1984) ∧ wA = wz)
            case first =>
              by_cases h25 : 250 ≤ x
              · have h25' : (250 : Int) ≤ x := by omega
                go_wp2_with fail
                go_meet
                exact ⟨320, rfl, by omega, rfl⟩
              · have h25' : ¬ (250 : Int) ≤ x := by omega
                go_wp2_with fail
                go_meet
                exact ⟨320 + 8 * (x % 205), by congr 1, by omega, rfl⟩
            case rest =>
              obtain ⟨o, rfl, ho, rfl⟩ := hcut
              have HST : Hid (∀ (wz : World) (q : Int), RSt w v ownr D lb 0 320 1664 wz → Calls Tryd.prog 57 #[.pointer (some ⟨v.tb 0, 0, none⟩), .int .u64 o, .int .u64 q] wz fun r w' => r = .returned (.tuple #[]) ∧ DPost v ownr wz (D.store 0 o q) w') :=
                fun wz q h => store_any h.log.dev (j := 0) (by omega) o q (by have := R.out.exec; omega)
              have HLD : Hid (∀ (wz : World), RSt w v ownr D lb 0 320 1664 wz → Calls Tryd.prog 36 #[.pointer (some ⟨v.tb 0, 0, none⟩), .int .u64 o] wz fun r w' => r = .returned (.int .u64 (D.cur (o / 8))) ∧ wz = w') :=
                fun wz h => load_ok h.log.dev (j := 0) (by omega) o R.out.on.off ho.1 (by rw [R.out.on.n]; omega)
              have RSF : Hid (∀ q : Int, 0 ≤ q ∧ q < 18446744073709551616 → Rv (D.store 0 o q) (500 + (k + 1))) := fun q hq => (R.out.store o q ho hq).mono (by omega)
              have z2d : wA.drew.cell? ⟨wr.heap.size, 2, none⟩ = some (.int .u64 z) := z2
              clear R z0 g0 ho
              cases b
              · obtain ⟨sh, hsh⟩ : ∃ sh : Nat, z.tmod 64 = (sh : Int) := ⟨(z % 64).toNat, by rw [Int.tmod_eq_emod_of_nonneg HZ.out.1]; omega⟩
                have hsh2 : sh < 64 := by rw [Int.tmod_eq_emod_of_nonneg HZ.out.1] at hsh; omega
                go_wp2_with fail
                go_region_with (first | (go_at_call 36; (with_reducible refine (HLD.out _ (LA.out.next ((Below.refl _ _).drew))).mono ?_); rintro e w8 ⟨rfl, rfl⟩) | (go_at_call 57; (with_reducible refine (HST.out _ _ (LA.out.next ((Below.refl _ _).drew))).mono ?_); rintro e w9 ⟨rfl, p9⟩; obtain ⟨own9, l9, m9⟩ := (LA.out.next ((Below.refl _ _).drew)).stepM (store_n D o _) p9; have L9 := Lib.hid l9; clear p9 l9 m9))
                all_goals go_wp2_with fail
                all_goals
                  go_roundw
                  case rel => exact ⟨k + 1, _, own9, by omega, HK3.out, by go_num, L9.out, RSF.out _ ⟨Go.bits_lo_u64 _ _ _, Int.lt_of_le_of_lt (Go.bits_hi_u64 _ _ _) (by decide)⟩⟩
                  case measure => simp [intOf]; omega
              · go_wp2_with fail
                (with_reducible refine (HST.out _ _ LA.out).mono ?_)
                rintro e w9 ⟨rfl, p9⟩
                obtain ⟨own9, l9, m9⟩ := LA.out.stepM (store_n D o z) p9
                have L9 := Lib.hid l9; have R9 := Lib.hid (RSF.out z HZ.out)
                clear p9 l9 m9 HST HLD RSF LA z1 z2 z2d
                go_wp2_with fail
                go_roundw
                case rel => exact ⟨k + 1, _, own9, by omega, HK3.out, by go_num, L9.out, R9.out⟩
                case measure => simp [intOf]; omega
        · obtain rfl : k = m := by omega
          go_wp2_with fail
          go_meet
          exact ⟨D, ownr, L.out, R.out.mono (by omega)⟩
    case rest =>
      obtain ⟨D, ownx, lx, rx⟩ := hcut
      rename World => wy
      have LY := Lib.hid lx; have RY := Lib.hid rx
      clear lx rx LX RX
      go_wp2_with fail
      go_loopw [19, 112] (fun ov y wr => ∃ k : Nat, k ≤ 208 ∧ y = .int .u64 k ∧ Acc wy wy.heap.size wr 40 1 ov k (intsU (getL (fun i => D.cur (40 + i)) k))) (fun _ y _ => 208 - (intOf y).toNat)
      case atStart => exact ⟨0, by omega, rfl, Acc.nil _ _ _ _ _ (Below.refl _ _) (Nat.le_refl _)⟩
      case round =>
        obtain ⟨k, hk, rfl, ha⟩ := hrel
        obtain ⟨qa, qc, hov⟩ := ha.slice
        subst hov
        have A := Lib.hid ha; clear ha
        have L := Lib.hid (LY.out.next A.out.bel)
        by_cases hlt : k < 208
        · have hk' : (k : Int) < 208 := by omega
          obtain ⟨t, ht⟩ : ∃ t, 320 + 8 * k = t := ⟨_, rfl⟩
          have y1 : (320 : Int) + 8 * (k : Int) = (t : Int) := by omega
          have g0 := (HWR.out.below L.out.bel).c0
          have HLD : Hid (Calls Tryd.prog 36 #[.pointer (some ⟨v.tb 0, 0, none⟩), .int .u64 t] wr fun r w' => r = .returned (.int .u64 (D.cur (40 + k))) ∧ wr = w') := by
            have := load_ok L.out.log.dev (j := 0) (by omega) t RY.out.on.off (by omega) (by rw [RY.out.on.n]; omega)
            rw [show t / 8 = 40 + k by omega] at this
            exact this
          have HG : Hid (intsU (getL (fun i => D.cur (40 + i)) (k + 1)) = intsU (getL (fun i => D.cur (40 + i)) k) ++ intsU [D.cur (40 + k)]) := by
            show _ = _
            simp [getL, intsU, List.range_succ]
          clear ht
          go_wp2_with fail
          (with_reducible refine HLD.out.mono ?_)
          rintro e w' ⟨rfl, rfl⟩
          go_wp2_with (at_builtin; refine wpList_append_sl _ rfl _ _ 56 rfl 40 i0 _ 1 8 Tryd.underlying56 I.out.1 I.out.2.1 I.out.2.2.1 I.out.2.2.2 rfl (by decide) _ k (intsU (getL (fun i => D.cur (40 + i)) k)) rfl (by exact A.out.own.alloc _) _ 1 (intsU [D.cur (40 + k)]) rfl (by exact RdSl.newAt _ _ _ 1 1 _ (by simp) rfl) (intsU_one _) (by unfold maxLen; omega) (by omega) ?_)
          intro v1 w3 o1 g1 b1 n1
          have A1 := Lib.hid (A.out.next (below_alloc _ _) o1 g1 b1 (by simp)); clear o1 g1 b1 n1
          go_wp2_with fail
          go_roundw
          case rel => exact ⟨k + 1, by omega, by go_num, A1.out.congr rfl HG.out.symm⟩
          case measure => simp [intOf]; omega
        · obtain rfl : k = 208 := by omega
          rw [show ((208 : Nat) : Int) = 208 from rfl]
          go_wp2_with fail
          go_ret3
          exact ⟨v, ownx, lb, D, qa, qc, rfl, L.out, RY.out.mono (by omega), Kr.of LY.out.log.dev A.out⟩
end
end Go.Proofs.YtfigngoojphffaaDoor

/- The walk of RedoLooks. -/
namespace Go.Proofs.YtfigngoojphffaaDoor
open Go.RowKit Go.Maps
attribute [local go_sem ↓] Go.wp_at_zero Go.wp_at_succ

theorem lk_state (C : Nat → Int) : (lk C).1 = 1 ∨ (lk C).1 = 2 ∨ (lk C).1 = 3 := by
  rcases rLook_cases 2560 320 1664 C with h | h | ⟨h, _⟩
  · exact .inl h
  · exact .inr (.inr h)
  · exact .inr (.inl h)
theorem lk_short (C : Nat → Int) : (lk C).2.length ≤ 96 := by
  show (rLook 2560 320 1664 C).2.length ≤ 96
  unfold rLook
  simp only
  split
  · simp
  · split
    · simp
    · split
      · simp
      · split
        · simp only [List.length_map, List.length_range]; omega
        · simp
section
variable {w1 wc wd : World} {v : DV} {lb y : Nat} {D : Dev} {own : Nat → Option Role}
theorem look15 (h : IsDev wc v own D) (hN : Nib wc) (hr : Rv D y) : Calls Tryd.prog 21 #[.iface 62 (.pointer (some ⟨v.tb 0, 0, none⟩)), .int .i64 5, .int .i64 26] wc fun r w' => ∃ sv, r = .returned (.tuple #[.int .u8 ((lk D.cur).1 : Nat), sv]) ∧
      Acc wc wc.heap.size w' 67 2 sv (lk D.cur).2.length (flat (lk D.cur).2) := by
  have := rdLook_any hN h (j := 0) (by omega) 5 26 (by omega) (by rw [hr.on.n]; omega) hr.on.off hr.vb
  rw [hr.on.n] at this
  exact this
end
section
variable {w : World}
set_option maxRecDepth 100000 in
set_option maxHeartbeats 16000000 in
theorem redoLooks_any (hN : Nib w) (hW : Wr w) (lv sv : Value) (l : List (Nat × Int)) (m : Nat) (xs : List Value) (hs : RdSl w 2 lv l.length (pairC l)) (hb : ∀ e ∈ l, e.1 < 256 ∧ 0 ≤ e.2 ∧ e.2 < 18446744073709551616) (hl : l.length ≤ maxLen)
    (hx : RdSl w 3 sv m xs) (hm : m ≤ maxLen) (hxs : ∀ i, i < m → SpAt xs i) :
    Calls Tryd.prog 4 #[lv, sv] w fun r w' => r = .returned (.bool true) ∧ Below w.heap.size w w' := by
  have HNB := Lib.hid hN; have HWR := Lib.hid hW; clear hN hW
  have HLG := Lib.hid (fun (wx : World) (hb' : Below w.heap.size w wx) => l15logged_any (HNB.out.below hb') (HWR.out.below hb') lv sv l m xs (hs.below hb') hb hl (hx.below hb') hm hxs)
  clear hs hx hb hl hm hxs
  go_enter Tryd.func4, Tryd.ntmps4
  go_wp2_with fail
  (with_reducible refine (awake15 HNB.out).mono ?_)
  rintro e w1 ⟨rfl, b1⟩
  have B1 := Lib.hid b1; clear b1
  go_wp2_with fail
  (with_reducible refine (HLG.out _ B1.out).mono ?_)
  rintro e w2 ⟨v, own, lb, D, wa, wc, rfl, l2, r2, k2⟩
  have L2 := Lib.hid l2; have R2 := Lib.hid r2; have K2 := Lib.hid k2
  clear l2 r2 k2 HLG
  go_wp2_with fail
  (with_reducible refine (thread0_any L2.out.log.dev).mono ?_)
  rintro e w' ⟨rfl, rfl⟩
  have HLK := Lib.hid (look15 L2.out.log.dev (HNB.out.below (B1.out.trans (L2.out.bel.mono B1.out.size))) R2.out)
  have HRL := Lib.hid (fun (wx : World) (h : RdSl wx 1 (.slice wa 208 wc) 208 (intsU (getL (fun i => D.cur (40 + i)) 208))) => r15Look_any D.cur R2.out.vb.cur _ h)
  have hst := lk_state D.cur
  have hsh := lk_short D.cur
  generalize (lk D.cur).1 = s at *
  generalize (lk D.cur).2 = W at *
  obtain ⟨n, hn⟩ : ∃ n, W.length = n := ⟨_, rfl⟩
  rw [hn] at HLK HRL hsh
  have HN := Lib.hid hn; clear hn
  have hs3 : s ≤ 3 := by omega
  have hss : ((s : Int) != (s : Int)) = false := by simp
  have hnn : ((n : Int) != (n : Int)) = false := by simp
  clear hst
  go_wp2_with fail
  (with_reducible refine HLK.out.mono ?_)
  rintro e w3 ⟨ov, rfl, a3⟩
  obtain ⟨oa, oc, hov⟩ := a3.slice
  subst hov
  have L3 := Lib.hid (L2.out.next a3.bel); have K3 := Lib.hid (K2.out.next a3.bel); have O3 := Lib.hid a3.rd
  clear a3 HLK L2 K2
  have W3 := Lib.hid (HWR.out.below (B1.out.trans (L3.out.bel.mono B1.out.size)))
  have g0 := W3.out.c0; have g1 := W3.out.c1; have g2 := W3.out.c2
  go_wp2_with fail
  (with_reducible refine (HRL.out _ K3.out.rd).mono ?_)
  rintro e w4 ⟨rv, rfl, q4, b4, _⟩
  have L4 := Lib.hid (L3.out.next b4); have O4 := Lib.hid (O3.out.below b4); have Q4 := Lib.hid q4
  obtain ⟨_, ra, rc, rfl, hrc, hra⟩ := q4
  obtain ⟨_, oa', oc', e', _, hoa⟩ := O4.out
  cases e'
  have HO := Lib.hid hoa; have HR := Lib.hid hra
  clear b4 hra hoa HRL L3 K3 O3 W3 g0 g1 g2
  go_wp2_with fail
  go_loopw [48] (fun y wr => ∃ k : Nat, k ≤ n ∧ y = .int .i64 k ∧ Qt w4 wr) (fun y _ => n - (intOf y).toNat)
  case atStart => exact ⟨0, by omega, rfl, Qt.refl w4⟩
  case round =>
    obtain ⟨k, hk, rfl, q⟩ := hrel
    obtain ⟨nq, rfl⟩ := q
    by_cases hlt : k < n
    · obtain ⟨e, he⟩ : ∃ e, W[k]? = some e := ⟨_, List.getElem?_eq_getElem (by rw [HN.out]; exact hlt)⟩
      have hg := flat_get' W k e he
      obtain ⟨b1, o1, rfl, hc1⟩ := rd_at HO.out hg.1
      obtain ⟨b2, o2, rfl, hc2⟩ := rd_at HR.out hg.1
      have c1 := hc1 _ _ hg.1; have c2 := hc1 _ _ hg.2
      have d1 := hc2 _ _ hg.1; have d2 := hc2 _ _ hg.2
      rw [← Nat.add_assoc] at c2 d2
      have hk' : (k : Int) < n := by omega
      clear hc1 hc2 he hg
      obtain ⟨e1, e2⟩ := e
      simp only at c1 c2 d1 d2
      have q1 : ((e1 : Int) != (e1 : Int)) = false := by simp
      have q2 : (e2 != e2) = false := by simp
      go_wp2_with fail
      go_quiet (fail)
      go_wp2_with fail
      go_roundw
      case rel => exact ⟨k + 1, by omega, by go_num, ⟨_, rfl⟩⟩
      case measure => simp [intOf]; omega
    · go_wp2_with fail
      go_ret
      exact ⟨rfl, B1.out.trans ((L4.out.bel.trans ((Qt.drewN w4 nq).below.mono L4.out.bel.size)).mono B1.out.size)⟩
end
end Go.Proofs.YtfigngoojphffaaDoor

/- Arguments opened: the spoils of layer 15. -/
namespace Go.Proofs.YtfigngoojphffaaDoor
open Go.ChangeShapes Go.WideShapes Go.ChangeAt Go.RowKit Go.Joins Go.Deep

section
variable {H : Type} {enc : TypeId × Value → H}
set_option maxRecDepth 100000 in
theorem open_spoils15 {W : World} {base b : Nat} {sp : Nat → Bool} {hd : Bool} {v : Value} {d : DataW H} {p : List MemPlace} (hv : Value.okWide Tryd.prog W .any b 55 v) (h : DataW.Trod enc Tryd.prog W base sp hd 55 v d p) :
    ∃ (m : Nat) (xs : List Value), RdSl W 3 v m xs ∧ m ≤ maxLen ∧ ∀ i, i < m → SpAt xs i := by
  obtain ⟨a0, len, cap, rfl⟩ := okWide_slice Tryd.underlying55 hv
  obtain ⟨fuel, hf⟩ := h
  obtain ⟨a, n, c, xs, e, hrd, hn, hfl⟩ := open_structs Tryd.underlying55 Tryd.underlying131 (by kernel_rfl) (by kernel_rfl) (by decide) hf
  rw [e]
  refine ⟨n, xs, hrd, hn, fun i hi => ?_⟩
  obtain ⟨q, hq⟩ := hfl i hi
  obtain ⟨u0, y0, e0, t0⟩ := hq 0 _ rfl
  obtain ⟨u1, y1, e1, t1⟩ := hq 1 _ rfl
  obtain ⟨u2, y2, e2, t2⟩ := hq 2 _ rfl
  obtain ⟨x0, h0, _, w0⟩ := DataW.trod_int Tryd.underlying5 t0
  obtain ⟨x1, h1, _⟩ := DataW.trod_bool Tryd.underlying4 t1
  obtain ⟨x2, h2, _, w2⟩ := DataW.trod_int Tryd.underlying40 t2
  simp only [List.cons.injEq, and_true] at h0 h1 h2
  subst h0 h1 h2
  obtain ⟨m0, rfl, b0⟩ := u8_nat w0
  have b2 := u64_in w2
  exact ⟨m0, x1, x2, e0, e1, e2, b0, b2.1, b2.2⟩
end
end Go.Proofs.YtfigngoojphffaaDoor
