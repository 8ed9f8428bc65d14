/- The crash images of a device, and the device after a crash. -/
import Derived.Test.YtahpadhejjlpoaaGreatDoorDevI
import Derived.Test.YtahpadhejjlpoaaGreatDoorGen
import Derived.Test.YtahpadhejjlpoaaGreatDoorDevP
namespace Go.Proofs.YtahpadhejjlpoaaGreatDoor
open Go.RowKit

section
variable {w : World} {v : DV} {own : Nat → Option Role} {D : Dev}
/-- The image while it is made: the lines of L that have been taken have come through in part. -/
structure ImSt (w : World) (D : Dev) (g : Nat) (L : List Nat) (cz : Nat → Nat → Nat) (k : Nat) (wr : World) : Prop where
  ks : ∃ ks : Nat → Nat, ((∀ l, ks l ≤ (D.hist l).length) ∧ ∀ i l : Nat, i < k → L[i]? = some l → ks l = cz i l) ∧ (∀ l, l ∉ L.take k → ks l = 0) ∧ Row wr g (8 * D.n) 39 (fun i => .int .u64 (D.img ks i))
  upd : Upd (fun j => j = g) w wr
theorem ImSt.start {g : Nat} {L : List Nat} {cz : Nat → Nat → Nat} (hr : Row w g (8 * D.n) 39 (fun i => .int .u64 (D.pers i))) : ImSt w D g L cz 0 w :=
  ⟨⟨fun _ => 0, ⟨fun _ => Nat.zero_le _, fun _ _ h => absurd h (by omega)⟩, fun _ _ => rfl, hr.congr (fun i _ => by simp [Dev.img, look])⟩, Upd.refl _ _⟩
theorem ImSt.step {g l k q : Nat} {L : List Nat} {cz : Nat → Nat → Nat} {wr w1 : World} (hw : D.WF) (hnd : L.Nodup) (hl : L[k]? = some l) (hln : l < D.n) (hq : q ≤ (D.hist l).length ∧ q = cz k l)
    (ks : Nat → Nat) (h1 : (∀ l, ks l ≤ (D.hist l).length) ∧ ∀ i l : Nat, i < k → L[i]? = some l → ks l = cz i l) (h2 : ∀ l, l ∉ L.take k → ks l = 0) (hbw : Upd (fun j => j = g) w wr)
    (hr : Row w1 g (8 * D.n) 39 (fun i => .int .u64 (applied ((D.hist l).take q) (D.img ks) i))) (hu : Upd (fun j => j = g) wr w1) : ImSt w D g L cz (k + 1) w1 := by
  have hlt : l ∉ L.take k := fun hm => by
    obtain ⟨i, hi, e⟩ := List.mem_iff_getElem.1 hm
    have hik : i < k := by simp at hi; omega
    obtain ⟨hkl, e2⟩ := List.getElem?_eq_some_iff.1 hl
    have e3 : L[i]'(by omega) = L[k] := by rw [e2, ← e]; simp
    exact List.pairwise_iff_getElem.1 hnd i k (by omega) hkl hik e3
  have ht : L.take (k + 1) = L.take k ++ [l] := by rw [List.take_add_one, hl]; rfl
  refine ⟨⟨fun m => if m = l then q else ks m, ⟨fun m => ?_, fun i m hi hm => ?_⟩, fun m hm => ?_, hr.congr (fun i _ => by rw [img_step D hw ks l q hln (h2 l hlt)])⟩, hbw.trans hu (fun _ _ h => h)⟩
  · by_cases e : m = l
    · subst e; simpa using hq.1
    · simpa [e] using h1.1 m
  · by_cases e : i = k
    · subst e
      rw [hl] at hm
      cases hm
      simpa using hq.2
    · have hik : i < k := by omega
      have hne : m ≠ l := fun e2 => by
        subst e2
        exact hlt (List.mem_iff_getElem?.2 ⟨i, by rw [List.getElem?_take, if_pos hik]; exact hm⟩)
      simpa [hne] using h1.2 i m hik hm
  · rw [ht] at hm
    have e : m ≠ l := fun e => hm (by simp [e])
    simp only [if_neg e]
    exact h2 m (fun h => hm (by simp [h]))
theorem below_upd {wr : World} {B g : Nat} {w0 : World} (h : Below B w0 w) (hu : Upd (fun j => j = g) w wr) (hB : B ≤ w.heap.size) (hg : B ≤ g) : Below B w0 wr :=
  ⟨hu.os.trans h.os, hu.tape.trans h.tape, hu.output.trans h.output, Nat.le_trans h.size hu.size, fun j hj => (hu.block j (by omega) (by omega)).trans (h.block j hj)⟩
/-- The digit that a choice gives the i-th dirty line l. -/
def chD (D : Dev) (cs : List Int) (i l : Nat) : Nat := (cs.getD (i % cs.length) 0 % (((D.hist l).length : Int) + 1)).toNat
/-- What Image leaves: the bytes of a crash image, and which. -/
def ImPostN (w : World) (D : Dev) (cs : List Int) (r : Ending) (w' : World) : Prop := ∃ (ks : Nat → Nat) (g : Nat), ((∀ l, ks l ≤ (D.hist l).length) ∧ ∀ i l : Nat, D.dirtyL[i]? = some l → ks l = chD D cs i l) ∧ w.heap.size ≤ g ∧ r = .returned (.slice (some ⟨g, 0, none⟩) (64 * D.n) (64 * D.n)) ∧ Row w' g (64 * D.n) 5 (fun i => .int .u8 (byteAt (D.img ks) i)) ∧ Below w.heap.size w w'
/-- What Image leaves: the bytes of a crash image. -/
def ImPost (w : World) (D : Dev) (r : Ending) (w' : World) : Prop := ∃ (ks : Nat → Nat) (g : Nat), (∀ l, ks l ≤ (D.hist l).length) ∧ w.heap.size ≤ g ∧ r = .returned (.slice (some ⟨g, 0, none⟩) (64 * D.n) (64 * D.n)) ∧ Row w' g (64 * D.n) 5 (fun i => .int .u8 (byteAt (D.img ks) i)) ∧ Below w.heap.size w w'
set_option maxRecDepth 100000 in
set_option maxHeartbeats 4000000 in
theorem imageN_any (h : IsDev w v own D) (hvb : D.VB) (cv : Value) (cs : List Int) (hc : RdSl w 1 cv cs.length (cs.map fun x => .int .u8 x)) (hcb : ∀ x ∈ cs, 0 ≤ x ∧ x < 256) (hcl : cs.length ≤ maxLen) (hex : D.exec < 4611686018427387904) :
    Calls Tryz.prog 15 #[.pointer (some ⟨v.db, 0, none⟩), cv] w (ImPostN w D cs) := by
  have hn := h.wf.le; have hn0 := h.wf.pos
  have HZ0 : Hid (cs = [] → ∀ i l : Nat, chD D cs i l = 0) := fun e i l => by subst e; simp [chD]
  have HZ : Hid (∀ (i l : Nat) (x : Int), cs[i % cs.length]? = some x → chD D cs i l = (x % (((D.hist l).length : Int) + 1)).toNat) := fun i l x e => by unfold chD; rw [List.getD_eq_getElem?_getD, e]; rfl
  generalize hcz : chD D cs = cz at *
  unfold ImPostN
  rw [hcz]
  clear hcz
  unfold maxLen at hcl
  have d0 : w.cell? ⟨v.db, 0, none⟩ = some (.slice (some ⟨v.pb, 0, none⟩) (8 * D.n) v.pc) := h.dev.cell rfl
  have d2 : w.cell? ⟨v.db, 2, none⟩ = some (.slice (some ⟨v.lb, 0, none⟩) D.n D.n) := h.dev.cell rfl
  have HCL := Lib.hid (cloneU_any (w := w) ⟨v.pb, 0, none⟩ (8 * D.n) v.pc ((List.range (8 * D.n)).map fun i => .int .u64 (D.pers i)) ⟨by simp, _, _, rfl, h.pcs.1, .inr ⟨_, _, rfl, fun j u hu => by
    obtain ⟨hj, e⟩ := List.getElem?_eq_some_iff.1 hu
    have hj' : j < 8 * D.n := by simpa using hj
    rw [Nat.zero_add, h.pers.cell hj', ← e]; simp⟩⟩ (fun u hu => by simp at hu; obtain ⟨i, _, rfl⟩ := hu; rfl) (by omega))
  have H := Lib.hid h; have HV := Lib.hid hvb; have HC := Lib.hid hc; have HCB := Lib.hid hcb
  clear h hvb hcb
  obtain ⟨_, ca, cc, rfl, hcc, _⟩ := hc
  generalize hm : cs.length = m at *
  have HM := Lib.hid hm; clear hm
  obtain ⟨n8, h8⟩ : ∃ k, 8 * D.n = k := ⟨_, rfl⟩
  rw [h8] at d0 HCL
  have H8 := Lib.hid h8; clear h8
  go_enter Tryz.func15, Tryz.ntmps15
  go_wp2_with fail
  (with_reducible refine HCL.out.mono ?_)
  rintro e w1 ⟨g, cap, rfl, co, hg, b1⟩
  have CO : Hid (Row w1 g (8 * D.n) 39 (fun i => .int .u64 (D.pers i)) ∧ 8 * D.n ≤ cap) := Lib.hid (by have := OwnSl.row (F := fun i => .int .u64 (D.pers i)) co; rwa [H8.out])
  have B1 := Lib.hid b1
  clear co b1 HCL d0
  have HBY := Lib.hid (fun wx (f : Nat → Int) (hr : Row wx g (8 * D.n) 39 (fun i => .int .u64 (f i))) (hf : ∀ i, 0 ≤ f i ∧ f i < 18446744073709551616) => by
    have := bytesOf_at hr CO.out.2 hn0 hn hf
    rwa [H8.out] at this)
  by_cases hm0 : 0 < m
  · have hm0' : (0 : Int) < m := by omega
    have HD := Lib.hid (dirty_any (H.out.kept B1.out.size (fun k hk => B1.out.block k (H.out.lt k hk))))
    go_wp2_with fail
    (with_reducible refine HD.out.mono ?_)
    rintro e w2 ⟨lv, rfl, ha⟩
    obtain ⟨la, lc, hlv⟩ := ha.slice
    subst hlv
    have A := Lib.hid ha; clear ha HD
    have HND : Hid (D.dirtyL.Nodup ∧ ∀ l ∈ D.dirtyL, l < D.n) := Lib.hid ⟨List.Nodup.sublist List.filter_sublist List.nodup_range, fun l hl => by
      have := (List.mem_filter.1 hl).1; simpa using this⟩
    have hdl : D.dirtyL.length ≤ D.n := by unfold Dev.dirtyL; exact filt_len D D.n
    have B2 : Hid (Below w.heap.size w w2) := Lib.hid (B1.out.trans (A.out.bel.mono B1.out.size))
    have I0 : Hid (ImSt w2 D g D.dirtyL cz 0 w2) := Lib.hid (ImSt.start (CO.out.1.below A.out.bel))
    have HG1 : Hid (g < w1.heap.size ∧ w.heap.size ≤ w2.heap.size) := Lib.hid ⟨CO.out.1.lt, B2.out.size⟩
    generalize hL : D.dirtyL = L at *
    have HLD : Hid (D.dirtyL = L) := Lib.hid hL
    clear hL
    go_wp2_with fail
    go_loopw [6, 7, 8, 9, 23] (fun _ _ _ _ y wr => ∃ k : Nat, k ≤ L.length ∧ y = .int .i64 k ∧ ImSt w2 D g L cz k wr) (fun _ _ _ _ y _ => L.length - (intOf y).toNat)
    case atStart => exact ⟨0, by omega, rfl, I0.out⟩
    case round =>
      obtain ⟨k, hk, rfl, hI⟩ := hrel
      have IS := Lib.hid hI; clear hI I0
      obtain ⟨ks, k1, k2, k3⟩ := IS.out.ks
      have KS := Lib.hid (And.intro k1 (And.intro k2 k3)); clear k1 k2 k3
      have BR : Hid (Below w.heap.size w wr) := Lib.hid (below_upd B2.out IS.out.upd HG1.out.2 hg)
      by_cases hlt : k < L.length
      · have hlt' : (k : Int) < L.length := by omega
        obtain ⟨l, hl⟩ : ∃ l, L[k]? = some l := ⟨_, List.getElem?_eq_getElem hlt⟩
        have hln := HND.out.2 l (List.mem_of_getElem? hl)
        have hln' : (l : Int) < D.n := by omega
        have hrd := A.out.rd.upd IS.out.upd (fun j hj e => by have := A.out.new j hj; have := HG1.out.1; omega)
        obtain ⟨_, a', c', e', _, hE⟩ := hrd
        cases e'
        have hxl : (natsI L)[k]? = some (.int .i64 l) := by simp [natsI, hl]
        obtain ⟨lb, lo, rfl, hE2⟩ := rd_at hE hxl
        have c1 := hE2 k _ hxl
        have hcr := HC.out.below BR.out
        obtain ⟨_, a', c', e', _, hE3⟩ := hcr
        cases e'
        obtain ⟨r, hr⟩ : ∃ r, k % m = r := ⟨_, rfl⟩
        have hrm : r < m := by rw [← hr]; exact Nat.mod_lt _ hm0
        have q1 : (k : Int) % m = r := by rw [← hr]; rfl
        obtain ⟨x, hx⟩ : ∃ x, cs[r]? = some x := ⟨_, List.getElem?_eq_getElem (by rw [HM.out]; exact hrm)⟩
        have hxc : (cs.map fun x => Value.int .u8 x)[r]? = some (.int .u8 x) := by simp [hx]
        obtain ⟨cb, co, rfl, hE4⟩ := rd_at hE3 hxc
        have c2 := hE4 r _ hxc
        obtain ⟨hx0, hx1⟩ := HCB.out x (List.mem_of_getElem? hx)
        have d3 : wr.cell? ⟨v.db, 2, none⟩ = some (.slice (some ⟨v.lb, 0, none⟩) D.n D.n) := (BR.out.cell (p := ⟨v.db, 2, none⟩) H.out.dev.lt).trans d2
        obtain ⟨hv, l1, l2⟩ := line_at H.out
        have hlb : v.lb < w.heap.size := by obtain ⟨_, h1, _⟩ := H.out.lines; exact h1.lt
        obtain ⟨ha, hcap, hve⟩ := (l2 l hln).1.slice
        have hh := (l2 l hln).1
        have c3 := (BR.out.cell (p := ⟨v.lb, l * 2 + 1, none⟩) hlb).trans (l1 l hln).2
        rw [hve] at c3 hh
        have HH := Lib.hid hh
        have hcapl : (D.hist l).length ≤ hcap := by obtain ⟨_, _, _, e, hc, _⟩ := hh.rd; cases e; exact hc
        have hb : (D.hist l).length < 4611686018427387904 := by have := H.out.wf.cnt l hln; omega
        have HX := Lib.hid (And.intro hl hln); have HR := Lib.hid hr
        have hrm' : (r : Int) < m := by omega
        obtain ⟨z, hz⟩ : ∃ z : Nat, x % (((D.hist l).length : Int) + 1) = z := ⟨_, (Int.toNat_of_nonneg (Int.emod_nonneg _ (by omega))).symm⟩
        have HZK : Hid (cz k l = z) := by
          show _ = _
          rw [HZ.out k l x (by rw [hr]; exact hx), hz]
          rfl
        have hzq : z ≤ (D.hist l).length := by have := Int.emod_lt_of_pos x (show (0 : Int) < ((D.hist l).length : Int) + 1 by omega); omega
        have hzc : (z : Int) ≤ hcap := by omega
        have HAP := Lib.hid (fun (wx : World) (hx : wx = wr) => by
          have hrw : RdSl wr 2 (.slice ha z hcap) ((D.hist l).take z).length (flat ((D.hist l).take z)) := by
            rw [List.length_take, Nat.min_eq_left hzq]
            exact (HH.out.rd.below BR.out).take z hzq
          have := apply_any g (8 * D.n) cap (D.img ks) (.slice ha z hcap) ((D.hist l).take z) KS.out.2.2 hrw (fun j hj => by
            have h3 := HH.out.lt j (by rw [ownBlock_len (n' := z) (c' := hcap)]; exact hj)
            omega) (fun e he => by have := (H.out.wf.line l hln e (List.mem_of_mem_take he)).1; omega) (by omega) (by rw [List.length_take]; omega)
          rw [H8.out] at this
          exact this)
        clear hE hE2 hE3 hE4 hx hxc hxl l1 l2 hve hv hlb hh hl hr hrm
        generalize hq : (D.hist l).length = q at *
        have HQ := Lib.hid hq; clear hq
        go_wp2_with fail
        (with_reducible refine (HAP.out _ rfl).mono ?_)
        rintro e w3 ⟨rfl, r3, u3⟩
        have I3 : Hid (ImSt w2 D g L cz (k + 1) w3) := Lib.hid (IS.out.upd |> fun hu => ImSt.step H.out.wf HND.out.1 HX.out.1 HX.out.2 ⟨by rw [HQ.out]; exact hzq, HZK.out.symm⟩ ks KS.out.1 KS.out.2.1 hu (by rw [H8.out]; exact r3) u3)
        clear r3 u3
        go_wp2_with fail
        go_roundw
        case rel => exact ⟨k + 1, by omega, by go_num, I3.out⟩
        case measure => simp [intOf]; omega
      · obtain rfl : k = L.length := by omega
        have HB2 := Lib.hid (HBY.out wr (D.img ks) KS.out.2.2 (fun i => HV.out.img ks i))
        go_wp2_with fail
        (with_reducible refine HB2.out.mono ?_)
        rintro e w3 ⟨rfl, r2, b2⟩
        have R2 := Lib.hid (And.intro r2 b2); clear r2 b2
        go_wp2_with fail
        go_ret
        exact ⟨ks, wr.heap.size, ⟨KS.out.1.1, fun i l hl => by
          rw [HLD.out] at hl
          exact KS.out.1.2 i l (List.getElem?_eq_some_iff.1 hl).1 hl⟩, BR.out.size, rfl, R2.out.1, BR.out.trans (R2.out.2.mono BR.out.size)⟩
  · have hm0' : ¬ (0 : Int) < m := by omega
    have HB2 := Lib.hid (HBY.out w1 D.pers CO.out.1 HV.out.pers)
    go_wp2_with fail
    (with_reducible refine HB2.out.mono ?_)
    rintro e w2 ⟨rfl, r2, b2⟩
    have R2 := Lib.hid (And.intro r2 b2); clear r2 b2
    go_wp2_with fail
    go_ret
    exact ⟨fun _ => 0, w1.heap.size, ⟨fun _ => Nat.zero_le _, fun i l _ => (HZ0.out (List.eq_nil_of_length_eq_zero (by have := HM.out; omega)) i l).symm⟩, B1.out.size, rfl, R2.out.1.congr (fun i _ => by
      have : D.img (fun _ => 0) = D.pers := by funext i; simp [Dev.img, look]
      rw [this]), B1.out.trans (R2.out.2.mono B1.out.size)⟩
theorem image_any (h : IsDev w v own D) (hvb : D.VB) (cv : Value) (cs : List Int) (hc : RdSl w 1 cv cs.length (cs.map fun x => .int .u8 x)) (hcb : ∀ x ∈ cs, 0 ≤ x ∧ x < 256) (hcl : cs.length ≤ maxLen) (hex : D.exec < 4611686018427387904) :
    Calls Tryz.prog 15 #[.pointer (some ⟨v.db, 0, none⟩), cv] w (ImPost w D) := by
  refine (imageN_any h hvb cv cs hc hcb hcl hex).mono ?_
  rintro r w' ⟨ks, g, h1, h2⟩
  exact ⟨ks, g, h1.1, h2⟩
end
end Go.Proofs.YtahpadhejjlpoaaGreatDoor
