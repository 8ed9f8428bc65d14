/- What a repair of an armed device leaves, plain; the walk of the superblock's Repair. -/
import Derived.Test.YtbpaamnofkhonaaDoorSbS
namespace Go.Proofs.YtbpaamnofkhonaaDoor
open Go.RowKit Go.Maps
attribute [local go_sem ↓] Go.wp_at_zero Go.wp_at_succ

/-- The newest copy is good, and the other says the same. -/
theorem new_again {C F : Nat → Int} {n : Nat} (hG : newG C n = true) (hn : cpW F (1 - newA C n) = (newS C n).words) (ho : cpW F (newA C n) = cpW C (newA C n)) : newG F n = true ∧ newS F n = newS C n ∧ cpG F n 0 = true ∧ cpG F n 1 = true := by
  have hgd := newG_good hG
  have ha : newA C n = 0 ∨ newA C n = 1 := by unfold newA; split <;> simp
  have hS : newS C n = Sup.of (cpW C (newA C n)) := by unfold newS cpS; exact decoded_true hgd
  have hgi := goodB_true (W := cpW C (newA C n)) (n := n) hgd
  have hw : (newS C n).words = cpW C (newA C n) := by rw [hS]; exact hgi.eq
  rw [hw] at hn
  have h0 : cpW F 0 = cpW C (newA C n) := by rcases ha with a | a <;> rw [a] at hn ho ⊢ <;> assumption
  have h1 : cpW F 1 = cpW C (newA C n) := by rcases ha with a | a <;> rw [a] at hn ho ⊢ <;> assumption
  have g0 : cpG F n 0 = true := by unfold cpG; rw [h0]; exact hgd
  have g1 : cpG F n 1 = true := by unfold cpG; rw [h1]; exact hgd
  have s0 : cpS F n 0 = newS C n := by unfold cpS newS; rw [h0]; rfl
  have s1 : cpS F n 1 = newS C n := by unfold cpS newS; rw [h1]; rfl
  have hb : newB F n = false := by unfold newB; rw [g1, g0, s0, s1]; simp
  have hA : newA F n = 0 := by unfold newA; rw [hb]; rfl
  exact ⟨by unfold newG; rw [hb]; exact g0, by unfold newS; rw [hA]; exact s0, g0, g1⟩
theorem newS_ok {C : Nat → Int} {n : Nat} (hG : newG C n = true) (hC : ∀ i, 0 ≤ C i ∧ C i < 18446744073709551616) : (newS C n).Ok ∧ (newS C n).lin ≤ n ∧ (newS C n).Fits := by
  have hgd := newG_good hG
  have hS : newS C n = Sup.of (cpW C (newA C n)) := by unfold newS cpS; exact decoded_true hgd
  have hgi := goodB_true (W := cpW C (newA C n)) (n := n) hgd
  have hg := cpS_gen hC n (newA C n)
  exact ⟨by rw [hS]; exact hgi.ok, by rw [hS]; exact hgi.lin, Sup.Ok.fits (by rw [hS]; exact hgi.ok) hg.1 hg.2⟩
/-- A program of a repair that has stored k words. -/
theorem new_rep (C F : Nat → Int) {n k : Nat} (hG : newG C n = true) (hk9 : k ≤ 9) (hF : ∀ x, F x = look ((sbWs (newS C n) (1 - newA C n)).take k) (C x) x) : newG F n = true ∧ newS F n = newS C n := by
  have ha : newA C n = 0 ∨ newA C n = 1 := by unfold newA; split <;> simp
  obtain ⟨ho, h3, _⟩ := cp_part (newS C n) (1 - newA C n) k C F hk9 hF
  have ho2 := ho (newA C n) (by omega)
  rcases h3 with h | h | h
  · obtain ⟨e1, e2, _⟩ := new_same (C := C) (F := F) (by rcases ha with a | a <;> rw [a] at h ho2 <;> assumption) (by rcases ha with a | a <;> rw [a] at h ho2 <;> assumption) n
    exact ⟨by rw [e1]; exact hG, e2⟩
  · exact new_spoilt hG h ho2
  · have := new_again hG h ho2
    exact ⟨this.1, this.2.1⟩
/-- Both copies are good. -/
def bothG (C : Nat → Int) (n : Nat) : Bool := cpG C n 0 && cpG C n 1
/-- The program of a repair. -/
def repP (C : Nat → Int) (n : Nat) : List (Nat × Nat × Int) := if bothG C n then [] else if newG C n then sbP (newS C n) (1 - newA C n) else []
theorem repP_ok (C : Nat → Int) (n : Nat) : instrOk (repP C n) ∧ (repP C n).length ≤ 19 := by
  unfold repP
  split
  · exact ⟨fun e he => by simp at he, by simp⟩
  · split
    · exact ⟨sbP_ok _ _ (by omega), sbP_len _ _⟩
    · exact ⟨fun e he => by simp at he, by simp⟩
/-- The error of a repair, and how many copies it wrote. -/
def repE (C : Nat → Int) (n : Nat) (e : Int) : Int := if bothG C n then 0 else if newG C n then e else 10
def repN (C : Nat → Int) (n : Nat) (e : Int) : Int := if bothG C n then 0 else if newG C n then (if e = 0 then 1 else 0) else 0
theorem bothG_newG {C : Nat → Int} {n : Nat} (h : bothG C n = true) : newG C n = true := by
  unfold bothG at h
  simp only [Bool.and_eq_true] at h
  unfold newG
  cases newB C n
  · exact h.1
  · rfl
/-- A repair of an armed device, wherever the power fails. -/
theorem SCl.rep {D : Dev} {C : Nat → Int} {n x : Nat} (h : SCl D 0 n C x) (k : Nat) (hn : 2 ≤ n) (E : Dev) (hE : E = (D.arm k).run 0 (repP C n)) :
    E.n = n ∧ E.VB ∧ E.exec ≤ x + 19 ∧ ((E.err 0 = 0 ∧ E.off = false ∧ (newG C n = true → cpG E.cur n 0 = true ∧ cpG E.cur n 1 = true)) ∨ (E.err 0 = 3 ∧ bothG C n = false ∧ newG C n = true)) ∧ (newG C n = true → ∀ ks, newG (E.img ks) n = true ∧ newS (E.img ks) n = newS C n) := by
  obtain ⟨hgr, hvb, hex, hnn⟩ := h.armed k
  have hxe := h.exec
  cases hb : bothG C n
  · cases hG : newG C n
    · have hp : repP C n = [] := by unfold repP; rw [hb, hG]; rfl
      rw [hp] at hE
      have hE : E = D.arm k := hE
      subst hE
      exact ⟨hgr.on.n, hvb, by omega, .inl ⟨hgr.on.err, hgr.on.off, fun h => by cases h⟩, fun h => by cases h⟩
    · have hp : repP C n = sbP (newS C n) (1 - newA C n) := by unfold repP; rw [hb, hG]; rfl
      rw [hp] at hE
      obtain ⟨hk, hl, hf⟩ := newS_ok (n := n) hG h.bd
      have hE2 : E = (D.arm k).run 0 (storesL (sbWs (newS C n) (1 - newA C n))) := hE
      have hx := (D.arm k).run_exec 0 (sbP (newS C n) (1 - newA C n))
      have hpl := sbP_len (newS C n) (1 - newA C n)
      have hv : E.VB := by rw [hE2]; exact VB_stores hvb 0 (sbWs_bd hf _)
      have hx2 : E.exec ≤ x + 19 := by rw [hE]; omega
      have hlen : (sbWs (newS C n) (1 - newA C n)).length = 9 := by rw [sbWs_eq]; rfl
      rcases run_line hgr (fun e he => sbWs_line (newS C n) (1 - newA C n) n (by omega) e he) (by rw [sbWs_eq]; simp) with ⟨hd, _⟩ | ⟨_, h2, h3, h4, h5⟩
      · have hd' : Grp E 0 n (prgC (newS C n) (1 - newA C n) C) [] [] := by rw [hE2]; exact hd
        obtain ⟨p1, p2⟩ := prg_cp (newS C n) (1 - newA C n) C
        have ha := new_again (F := prgC (newS C n) (1 - newA C n) C) hG p1 (p2 _ (by have := newA_le C n; omega))
        have hc : E.cur = prgC (newS C n) (1 - newA C n) C := funext fun i => by rw [hd'.hst.cur]; rfl
        refine ⟨hd'.on.n, hv, hx2, .inl ⟨hd'.on.err, hd'.on.off, fun _ => by rw [hc]; exact ha.2.2⟩, fun _ ks => ?_⟩
        have he : E.img ks = prgC (newS C n) (1 - newA C n) C := funext fun i => hd'.hst.clean ks i
        rw [he]
        exact ⟨ha.1, ha.2.1⟩
      · have e3 : E.err 0 = 3 := by rw [hE2]; exact h3
        refine ⟨by rw [hE2]; exact h4, hv, hx2, .inr ⟨e3, rfl, rfl⟩, fun _ ks => ?_⟩
        obtain ⟨q, hq, hF⟩ := h5 ks
        exact new_rep C (E.img ks) (k := q) hG (by omega) (fun x => by rw [hE2]; exact hF x)
  · have hG := bothG_newG hb
    have hp : repP C n = [] := by unfold repP; rw [hb]; rfl
    rw [hp] at hE
    have hE : E = D.arm k := hE
    have hc : E.cur = C := by rw [hE]; exact funext fun i => by rw [hgr.hst.cur]; rfl
    refine ⟨by rw [hE]; exact hgr.on.n, by rw [hE]; exact hvb, by rw [hE]; omega, .inl ⟨by rw [hE]; exact hgr.on.err, by rw [hE]; exact hgr.on.off, fun _ => ?_⟩, fun _ ks => ?_⟩
    · rw [hc]; unfold bothG at hb; simpa using hb
    · have he : E.img ks = C := by rw [hE]; exact funext fun i => hgr.hst.clean ks i
      rw [he]; exact ⟨hG, rfl⟩
section
variable {w w' : World} {v : DV} {own : Nat → Option Role} {D : Dev} {j : Nat}
/-- What Repair leaves on a device that is on. -/
def RpPost (w : World) (v : DV) (own : Nat → Option Role) (D : Dev) (j : Nat) (r : Ending) (w' : World) : Prop :=
  r = .returned (.tuple #[.int .i64 (repN D.cur D.n ((D.run j (repP D.cur D.n)).err j)), .int .i64 (repE D.cur D.n ((D.run j (repP D.cur D.n)).err j))]) ∧ DPost v own w (D.run j (repP D.cur D.n)) w'
theorem RpPost.both (h : IsDev w v own D) (hb : bothG D.cur D.n = true) (hB : Below w.heap.size w w') : RpPost w v own D j (.returned (.tuple #[.int .i64 0, .int .i64 0])) w' := by
  have hp : repP D.cur D.n = [] := by unfold repP; rw [hb]; rfl
  unfold RpPost repN repE
  rw [hp, hb]
  exact ⟨rfl, (DPost.refl (h.below hB)).past hB⟩
theorem RpPost.none (h : IsDev w v own D) (hb : bothG D.cur D.n = false) (hG : newG D.cur D.n = false) (hB : Below w.heap.size w w') : RpPost w v own D j (.returned (.tuple #[.int .i64 0, .int .i64 10])) w' := by
  have hp : repP D.cur D.n = [] := by unfold repP; rw [hb, hG]; rfl
  unfold RpPost repN repE
  rw [hp, hb, hG]
  exact ⟨rfl, (DPost.refl (h.below hB)).past hB⟩
theorem RpPost.ran {P : List (Nat × Nat × Int)} (hP : repP D.cur D.n = P) (hb : bothG D.cur D.n = false) (hG : newG D.cur D.n = true) {e : Int} (he : (D.run j P).err j = e) (hp : DPost v own w (D.run j P) w') {m : Int} (hm : m = if e = 0 then 1 else 0) : RpPost w v own D j (.returned (.tuple #[.int .i64 m, .int .i64 e])) w' := by
  subst hP
  subst hm
  unfold RpPost repN repE
  rw [hb, hG, he]
  exact ⟨rfl, hp⟩
set_option maxRecDepth 100000 in
set_option maxHeartbeats 16000000 in
theorem sbRepair_any (hN : Nib w) (h : IsDev w v own D) (hj : j < 8) (hof : D.off = false) (he : D.err j = 0) (hvb : D.VB) (hn : 2 ≤ D.n) (hx : D.exec + 100000 < 4294967296) :
    Calls Tryd.prog 27 #[.iface 49 (.pointer (some ⟨v.tb j, 0, none⟩))] w (RpPost w v own D j) := by
  have H := Lib.hid h; have HNB := Lib.hid hN
  have hus := fun wx (hx : IsDev wx v own D) => usable_any hx hj hn
  rw [he] at hus
  have HU := Lib.hid hus
  have hld := fun wx (hx : IsDev wx v own D) (hnx : Nib wx) => sbload_any hnx hx hj hof hvb hn
  rw [he] at hld
  have HLD := Lib.hid hld
  have HCA := Lib.hid (ldA_cpA D.cur D.n)
  have HNW := Lib.hid (fun (wx : World) => newest_any (w := wx) (cpS D.cur D.n 0) (cpS D.cur D.n 1) (cpG D.cur D.n 0) (cpG D.cur D.n 1) (newA D.cur D.n) (newG D.cur D.n) rfl rfl)
  have HAE : Hid (ldA D.cur D.n 2 = cpsA (cpS D.cur D.n 0) (cpS D.cur D.n 1) (cpG D.cur D.n 0) (cpG D.cur D.n 1)) := rfl
  rw [← HAE.out] at HNW
  have HBG : Hid (bothG D.cur D.n = (cpG D.cur D.n 0 && cpG D.cur D.n 1)) := rfl
  have HNO := Lib.hid (fun (wx : World) (hb : bothG D.cur D.n = false) (hG : newG D.cur D.n = false) (hB : Below w.heap.size w wx) => RpPost.none (j := j) h hb hG hB)
  have HBO := Lib.hid (fun (wx : World) (hb : bothG D.cur D.n = true) (hB : Below w.heap.size w wx) => RpPost.both (j := j) h hb hB)
  have HPG := Lib.hid (fun (wx : World) (hb : bothG D.cur D.n = false) (hG : newG D.cur D.n = true) (q : Nat) (hq : newA D.cur D.n = q) (i : Nat) (hi : 1 - q = i) (hx : Nib wx) =>
    (show Calls Tryd.prog 53 #[.agg (cpS D.cur D.n q).cells, .int .i64 (i : Nat)] wx fun r w' => ∃ ov, r = .returned ov ∧ Acc wx wx.heap.size w' 131 3 ov (repP D.cur D.n).length (instrC (repP D.cur D.n)) from by
      have hp : repP D.cur D.n = sbP (newS D.cur D.n) (1 - newA D.cur D.n) := by unfold repP; rw [hb, hG]; rfl
      have hs : newS D.cur D.n = cpS D.cur D.n q := by unfold newS; rw [hq]
      rw [hp, hs, hq, hi, ← hs]
      exact program_any hx _ (newS_ok hG hvb.cur).2.2 i (by omega)))
  have HR := Lib.hid (fun (wb : World) (pv : Value) (ha : Acc w w.heap.size wb 131 3 pv (repP D.cur D.n).length (instrC (repP D.cur D.n))) => run_acc h hj ha (repP_ok D.cur D.n).1 (by have := (repP_ok D.cur D.n).2; omega) hx)
  have HRA := Lib.hid (fun (wx : World) (hb : bothG D.cur D.n = false) (hG : newG D.cur D.n = true) (e : Int) (he : (D.run j (repP D.cur D.n)).err j = e) (hp : DPost v own w (D.run j (repP D.cur D.n)) wx) (m : Int) (hm : m = if e = 0 then 1 else 0) => RpPost.ran rfl hb hG he hp hm)
  obtain ⟨e9, he9⟩ : ∃ e9, (D.run j (repP D.cur D.n)).err j = e9 := ⟨_, rfl⟩
  rw [he9] at HR
  have HE9 := Lib.hid he9
  generalize repP D.cur D.n = P at *
  generalize hg0 : cpG D.cur D.n 0 = g0 at *
  generalize hg1 : cpG D.cur D.n 1 = g1 at *
  generalize ldA D.cur D.n 2 = A at *
  clear h hN hvb hus hld he9 hg0 hg1
  go_enter Tryd.func27, Tryd.ntmps27
  go_wp2_with fail
  (with_reducible refine (HU.out _ H.out).mono ?_)
  rintro e w' ⟨rfl, rfl⟩
  go_wp2_with fail
  (with_reducible refine (HLD.out _ H.out HNB.out).mono ?_)
  rintro e w1 ⟨rfl, b1⟩
  have B1 := Lib.hid b1
  clear b1 HU HLD
  obtain ⟨w2, hw2, k2, b2⟩ := cpA_alloc (A := A) B1.out B1.out.size
  have K2 := Lib.hid k2
  have B3 := Lib.hid (B1.out.trans (b2.mono B1.out.size))
  clear k2 b2
  have K4 := K2.out
  rw [HAE.out] at K4
  have c16 : w2.cell? ⟨w1.heap.size, 16, none⟩ = some (.bool g0) := K4.cell rfl
  have c17 : w2.cell? ⟨w1.heap.size, 17, none⟩ = some (.bool g1) := K4.cell rfl
  clear K4
  have HBF : Hid ((g0 && g1) = false → bothG D.cur D.n = false) := fun h => by rw [HBG.out, h]
  cases g0
  · have HBF := Lib.hid (HBF.out rfl)
    clear HBG HBO
    go_wp2_with (first | (refine wpList_store_row rfl 99 (.tmp 5) (.tmp 18) rfl w1.heap.size A rfl rfl 99 #[.int .i64 0, .int .i64 0, .int .i64 0, .int .i64 0, .int .i64 0, .int .i64 0, .int .i64 0, .int .u64 0, .int .i64 0, .int .i64 0, .int .i64 0, .int .i64 0, .int .i64 0, .int .i64 0, .int .i64 0, .int .u64 0, .bool false, .bool false] (Blk.new w1 _ _) HCA.out.info HCA.out.sz HCA.out.one ?_; rw [hw2]) | (refine wpList_load_row rfl 99 (.tmp 5) rfl w1.heap.size rfl 99 A (0, 0) _ K2.out Tryd.underlying99 rfl HCA.out.info ?_))
    (with_reducible refine (HNW.out _).mono ?_)
    rintro e w3 ⟨rfl, b3⟩
    have K3 := Lib.hid (K2.out.below b3)
    have B4 := Lib.hid (B3.out.trans (b3.mono B3.out.size))
    clear b3 HNW hw2 K2 B3 B1 c16 c17
    generalize w1.heap.size = cb at *
    cases hG : newG D.cur D.n
    · have HG := Lib.hid hG
      clear hG
      go_wp2_with fail
      go_ret2
      exact HNO.out _ HBF.out HG.out B4.out
    · have HG := Lib.hid hG
      clear hG HNO
      obtain ⟨q, hq⟩ : ∃ q, newA D.cur D.n = q := ⟨_, rfl⟩
      have hq1 : q = 0 ∨ q = 1 := by rw [← hq]; unfold newA; split <;> simp
      rw [hq]
      have HQ := Lib.hid hq
      clear hq
      obtain rfl | rfl := hq1
      · obtain ⟨z0, z1, z2, z3, z4, z5, z6, z7, hz⟩ := Sup.ex (cpS D.cur D.n 0)
        have K4 := K3.out
        rw [HAE.out, hz] at K4
        have c0 : w3.cell? ⟨cb, 0, none⟩ = some (.int .i64 z0) := K4.cell rfl
        have c1 : w3.cell? ⟨cb, 1, none⟩ = some (.int .i64 z1) := K4.cell rfl
        have c2 : w3.cell? ⟨cb, 2, none⟩ = some (.int .i64 z2) := K4.cell rfl
        have c3 : w3.cell? ⟨cb, 3, none⟩ = some (.int .i64 z3) := K4.cell rfl
        have c4 : w3.cell? ⟨cb, 4, none⟩ = some (.int .i64 z4) := K4.cell rfl
        have c5 : w3.cell? ⟨cb, 5, none⟩ = some (.int .i64 z5) := K4.cell rfl
        have c6 : w3.cell? ⟨cb, 6, none⟩ = some (.int .i64 z6) := K4.cell rfl
        have c7 : w3.cell? ⟨cb, 7, none⟩ = some (.int .u64 z7) := K4.cell rfl
        have HP1 : Hid (∀ wx, Nib wx → Calls Tryd.prog 53 #[.agg #[.int .i64 z0, .int .i64 z1, .int .i64 z2, .int .i64 z3, .int .i64 z4, .int .i64 z5, .int .i64 z6, .int .u64 z7], .int .i64 1] wx fun r w' => ∃ ov, r = .returned ov ∧ Acc wx wx.heap.size w' 131 3 ov P.length (instrC P)) := fun wx hx => by
          have := HPG.out wx HBF.out HG.out 0 HQ.out 1 rfl hx
          rw [hz] at this
          exact this
        clear K4 hz K3 HPG HQ
        rw [show ((0 : Nat) : Int) = 0 from rfl]
        go_wp2_with fail
        (with_reducible refine (HP1.out _ (HNB.out.below B4.out)).mono ?_)
        rintro e w5 ⟨ov, rfl, a5⟩
        have HR1 := Lib.hid (HR.out _ _ (a5.deeper B4.out))
        obtain ⟨oa, oc, hov⟩ := a5.slice
        subst hov
        clear a5 HR HP1
        go_wp2_with fail
        (with_reducible refine HR1.out.mono ?_)
        rintro e w6 ⟨rfl, p6⟩
        have P6 := Lib.hid p6
        clear p6
        by_cases h0 : e9 = 0
        · subst h0
          go_wp2_with fail
          go_ret2
          exact HRA.out _ HBF.out HG.out _ HE9.out P6.out _ rfl
        · have hb9 : (e9 == 0) = false := by simpa using h0
          have H0 := Lib.hid h0
          clear h0
          go_wp2_with fail
          go_ret2
          exact HRA.out _ HBF.out HG.out _ HE9.out P6.out _ (by rw [if_neg H0.out])
      · obtain ⟨z0, z1, z2, z3, z4, z5, z6, z7, hz⟩ := Sup.ex (cpS D.cur D.n 1)
        have K4 := K3.out
        rw [HAE.out, hz] at K4
        have c0 : w3.cell? ⟨cb, 8, none⟩ = some (.int .i64 z0) := K4.cell rfl
        have c1 : w3.cell? ⟨cb, 9, none⟩ = some (.int .i64 z1) := K4.cell rfl
        have c2 : w3.cell? ⟨cb, 10, none⟩ = some (.int .i64 z2) := K4.cell rfl
        have c3 : w3.cell? ⟨cb, 11, none⟩ = some (.int .i64 z3) := K4.cell rfl
        have c4 : w3.cell? ⟨cb, 12, none⟩ = some (.int .i64 z4) := K4.cell rfl
        have c5 : w3.cell? ⟨cb, 13, none⟩ = some (.int .i64 z5) := K4.cell rfl
        have c6 : w3.cell? ⟨cb, 14, none⟩ = some (.int .i64 z6) := K4.cell rfl
        have c7 : w3.cell? ⟨cb, 15, none⟩ = some (.int .u64 z7) := K4.cell rfl
        have HP1 : Hid (∀ wx, Nib wx → Calls Tryd.prog 53 #[.agg #[.int .i64 z0, .int .i64 z1, .int .i64 z2, .int .i64 z3, .int .i64 z4, .int .i64 z5, .int .i64 z6, .int .u64 z7], .int .i64 0] wx fun r w' => ∃ ov, r = .returned ov ∧ Acc wx wx.heap.size w' 131 3 ov P.length (instrC P)) := fun wx hx => by
          have := HPG.out wx HBF.out HG.out 1 HQ.out 0 rfl hx
          rw [hz] at this
          exact this
        clear K4 hz K3 HPG HQ
        rw [show ((1 : Nat) : Int) = 1 from rfl]
        go_wp2_with fail
        (with_reducible refine (HP1.out _ (HNB.out.below B4.out)).mono ?_)
        rintro e w5 ⟨ov, rfl, a5⟩
        have HR1 := Lib.hid (HR.out _ _ (a5.deeper B4.out))
        obtain ⟨oa, oc, hov⟩ := a5.slice
        subst hov
        clear a5 HR HP1
        go_wp2_with fail
        (with_reducible refine HR1.out.mono ?_)
        rintro e w6 ⟨rfl, p6⟩
        have P6 := Lib.hid p6
        clear p6
        by_cases h0 : e9 = 0
        · subst h0
          go_wp2_with fail
          go_ret2
          exact HRA.out _ HBF.out HG.out _ HE9.out P6.out _ rfl
        · have hb9 : (e9 == 0) = false := by simpa using h0
          have H0 := Lib.hid h0
          clear h0
          go_wp2_with fail
          go_ret2
          exact HRA.out _ HBF.out HG.out _ HE9.out P6.out _ (by rw [if_neg H0.out])
  · cases g1
    · have HBF := Lib.hid (HBF.out rfl)
      clear HBG HBO
      go_wp2_with (first | (refine wpList_store_row rfl 99 (.tmp 5) (.tmp 18) rfl w1.heap.size A rfl rfl 99 #[.int .i64 0, .int .i64 0, .int .i64 0, .int .i64 0, .int .i64 0, .int .i64 0, .int .i64 0, .int .u64 0, .int .i64 0, .int .i64 0, .int .i64 0, .int .i64 0, .int .i64 0, .int .i64 0, .int .i64 0, .int .u64 0, .bool false, .bool false] (Blk.new w1 _ _) HCA.out.info HCA.out.sz HCA.out.one ?_; rw [hw2]) | (refine wpList_load_row rfl 99 (.tmp 5) rfl w1.heap.size rfl 99 A (0, 0) _ K2.out Tryd.underlying99 rfl HCA.out.info ?_))
      (with_reducible refine (HNW.out _).mono ?_)
      rintro e w3 ⟨rfl, b3⟩
      have K3 := Lib.hid (K2.out.below b3)
      have B4 := Lib.hid (B3.out.trans (b3.mono B3.out.size))
      clear b3 HNW hw2 K2 B3 B1 c16 c17
      generalize w1.heap.size = cb at *
      cases hG : newG D.cur D.n
      · have HG := Lib.hid hG
        clear hG
        go_wp2_with fail
        go_ret2
        exact HNO.out _ HBF.out HG.out B4.out
      · have HG := Lib.hid hG
        clear hG HNO
        obtain ⟨q, hq⟩ : ∃ q, newA D.cur D.n = q := ⟨_, rfl⟩
        have hq1 : q = 0 ∨ q = 1 := by rw [← hq]; unfold newA; split <;> simp
        rw [hq]
        have HQ := Lib.hid hq
        clear hq
        obtain rfl | rfl := hq1
        · obtain ⟨z0, z1, z2, z3, z4, z5, z6, z7, hz⟩ := Sup.ex (cpS D.cur D.n 0)
          have K4 := K3.out
          rw [HAE.out, hz] at K4
          have c0 : w3.cell? ⟨cb, 0, none⟩ = some (.int .i64 z0) := K4.cell rfl
          have c1 : w3.cell? ⟨cb, 1, none⟩ = some (.int .i64 z1) := K4.cell rfl
          have c2 : w3.cell? ⟨cb, 2, none⟩ = some (.int .i64 z2) := K4.cell rfl
          have c3 : w3.cell? ⟨cb, 3, none⟩ = some (.int .i64 z3) := K4.cell rfl
          have c4 : w3.cell? ⟨cb, 4, none⟩ = some (.int .i64 z4) := K4.cell rfl
          have c5 : w3.cell? ⟨cb, 5, none⟩ = some (.int .i64 z5) := K4.cell rfl
          have c6 : w3.cell? ⟨cb, 6, none⟩ = some (.int .i64 z6) := K4.cell rfl
          have c7 : w3.cell? ⟨cb, 7, none⟩ = some (.int .u64 z7) := K4.cell rfl
          have HP1 : Hid (∀ wx, Nib wx → Calls Tryd.prog 53 #[.agg #[.int .i64 z0, .int .i64 z1, .int .i64 z2, .int .i64 z3, .int .i64 z4, .int .i64 z5, .int .i64 z6, .int .u64 z7], .int .i64 1] wx fun r w' => ∃ ov, r = .returned ov ∧ Acc wx wx.heap.size w' 131 3 ov P.length (instrC P)) := fun wx hx => by
            have := HPG.out wx HBF.out HG.out 0 HQ.out 1 rfl hx
            rw [hz] at this
            exact this
          clear K4 hz K3 HPG HQ
          rw [show ((0 : Nat) : Int) = 0 from rfl]
          go_wp2_with fail
          (with_reducible refine (HP1.out _ (HNB.out.below B4.out)).mono ?_)
          rintro e w5 ⟨ov, rfl, a5⟩
          have HR1 := Lib.hid (HR.out _ _ (a5.deeper B4.out))
          obtain ⟨oa, oc, hov⟩ := a5.slice
          subst hov
          clear a5 HR HP1
          go_wp2_with fail
          (with_reducible refine HR1.out.mono ?_)
          rintro e w6 ⟨rfl, p6⟩
          have P6 := Lib.hid p6
          clear p6
          by_cases h0 : e9 = 0
          · subst h0
            go_wp2_with fail
            go_ret2
            exact HRA.out _ HBF.out HG.out _ HE9.out P6.out _ rfl
          · have hb9 : (e9 == 0) = false := by simpa using h0
            have H0 := Lib.hid h0
            clear h0
            go_wp2_with fail
            go_ret2
            exact HRA.out _ HBF.out HG.out _ HE9.out P6.out _ (by rw [if_neg H0.out])
        · obtain ⟨z0, z1, z2, z3, z4, z5, z6, z7, hz⟩ := Sup.ex (cpS D.cur D.n 1)
          have K4 := K3.out
          rw [HAE.out, hz] at K4
          have c0 : w3.cell? ⟨cb, 8, none⟩ = some (.int .i64 z0) := K4.cell rfl
          have c1 : w3.cell? ⟨cb, 9, none⟩ = some (.int .i64 z1) := K4.cell rfl
          have c2 : w3.cell? ⟨cb, 10, none⟩ = some (.int .i64 z2) := K4.cell rfl
          have c3 : w3.cell? ⟨cb, 11, none⟩ = some (.int .i64 z3) := K4.cell rfl
          have c4 : w3.cell? ⟨cb, 12, none⟩ = some (.int .i64 z4) := K4.cell rfl
          have c5 : w3.cell? ⟨cb, 13, none⟩ = some (.int .i64 z5) := K4.cell rfl
          have c6 : w3.cell? ⟨cb, 14, none⟩ = some (.int .i64 z6) := K4.cell rfl
          have c7 : w3.cell? ⟨cb, 15, none⟩ = some (.int .u64 z7) := K4.cell rfl
          have HP1 : Hid (∀ wx, Nib wx → Calls Tryd.prog 53 #[.agg #[.int .i64 z0, .int .i64 z1, .int .i64 z2, .int .i64 z3, .int .i64 z4, .int .i64 z5, .int .i64 z6, .int .u64 z7], .int .i64 0] wx fun r w' => ∃ ov, r = .returned ov ∧ Acc wx wx.heap.size w' 131 3 ov P.length (instrC P)) := fun wx hx => by
            have := HPG.out wx HBF.out HG.out 1 HQ.out 0 rfl hx
            rw [hz] at this
            exact this
          clear K4 hz K3 HPG HQ
          rw [show ((1 : Nat) : Int) = 1 from rfl]
          go_wp2_with fail
          (with_reducible refine (HP1.out _ (HNB.out.below B4.out)).mono ?_)
          rintro e w5 ⟨ov, rfl, a5⟩
          have HR1 := Lib.hid (HR.out _ _ (a5.deeper B4.out))
          obtain ⟨oa, oc, hov⟩ := a5.slice
          subst hov
          clear a5 HR HP1
          go_wp2_with fail
          (with_reducible refine HR1.out.mono ?_)
          rintro e w6 ⟨rfl, p6⟩
          have P6 := Lib.hid p6
          clear p6
          by_cases h0 : e9 = 0
          · subst h0
            go_wp2_with fail
            go_ret2
            exact HRA.out _ HBF.out HG.out _ HE9.out P6.out _ rfl
          · have hb9 : (e9 == 0) = false := by simpa using h0
            have H0 := Lib.hid h0
            clear h0
            go_wp2_with fail
            go_ret2
            exact HRA.out _ HBF.out HG.out _ HE9.out P6.out _ (by rw [if_neg H0.out])
    · have HBT : Hid (bothG D.cur D.n = true) := HBG.out
      clear HBF
      go_wp2_with (first | (refine wpList_store_row rfl 99 (.tmp 5) (.tmp 18) rfl w1.heap.size A rfl rfl 99 #[.int .i64 0, .int .i64 0, .int .i64 0, .int .i64 0, .int .i64 0, .int .i64 0, .int .i64 0, .int .u64 0, .int .i64 0, .int .i64 0, .int .i64 0, .int .i64 0, .int .i64 0, .int .i64 0, .int .i64 0, .int .u64 0, .bool false, .bool false] (Blk.new w1 _ _) HCA.out.info HCA.out.sz HCA.out.one ?_; rw [hw2]) | (refine wpList_load_row rfl 99 (.tmp 5) rfl w1.heap.size rfl 99 A (0, 0) _ K2.out Tryd.underlying99 rfl HCA.out.info ?_))
      go_ret2
      exact HBO.out _ HBT.out B3.out
end
/-- Open and Check on a clean device of 200 lines. -/
theorem open_scl {D : Dev} {C : Nat → Int} {x : Nat} (h : SCl D 0 200 C x) (wx : World) (v : DV) (own : Nat → Option Role) (hN : Nib wx) (hd : IsDev wx v own D) :
    Calls Tryd.prog 19 #[.iface 49 (.pointer (some ⟨v.tb 0, 0, none⟩))] wx fun r w' => r = .returned (.tuple #[.agg (opS C 200).cells, .int .i64 (if newG C 200 then 0 else 10)]) ∧ Below wx.heap.size wx w' := by
  have hn : D.n = 200 := h.grp.on.n
  have := sbOpen_any hN hd (j := 0) (by omega) h.grp.on.off h.grp.on.err h.vb (by omega)
  rw [h.cur, hn] at this
  exact this
theorem check_scl {D : Dev} {C : Nat → Int} {x : Nat} (h : SCl D 0 200 C x) (wx : World) (v : DV) (own : Nat → Option Role) (hN : Nib wx) (hd : IsDev wx v own D) :
    Calls Tryd.prog 22 #[.iface 49 (.pointer (some ⟨v.tb 0, 0, none⟩))] wx fun r w' => r = .returned (.tuple #[.int .i64 (if cpG C 200 0 then 0 else 10), .int .i64 (if cpG C 200 1 then 0 else 10)]) ∧ Below wx.heap.size wx w' := by
  have hn : D.n = 200 := h.grp.on.n
  have := sbCheck_any hN hd (j := 0) (by omega) h.grp.on.off h.grp.on.err h.vb (by omega)
  rw [h.cur, hn] at this
  exact this
/-- A repair of an armed device of 200 lines: what it answers, and what Check and Open answer behind it. -/
theorem at_rep {D : Dev} {C : Nat → Int} {x : Nat} (h : SCl D 0 200 C x) (hx : x < 10000) (k : Nat) :
    ∃ (E : Dev) (m e : Int), E.n = 200 ∧ E.VB ∧ E.exec ≤ x + 19 ∧
      (∀ (wx : World) (v : DV) (own : Nat → Option Role), Nib wx → IsDev wx v own (D.arm k) → Calls Tryd.prog 27 #[.iface 49 (.pointer (some ⟨v.tb 0, 0, none⟩))] wx fun r w' => r = .returned (.tuple #[.int .i64 m, .int .i64 e]) ∧ DPost v own wx E w') ∧
      (newG C 200 = false → e = 10 ∧ m = 0) ∧
      (newG C 200 = true → (e = 0 ∧ m = (if cpG C 200 0 && cpG C 200 1 then 0 else 1)) ∨ (e = 3 ∧ m = 0)) ∧
      (newG C 200 = true → e = 0 → ∀ (wx : World) (v : DV) (own : Nat → Option Role), Nib wx → IsDev wx v own E → Calls Tryd.prog 22 #[.iface 49 (.pointer (some ⟨v.tb 0, 0, none⟩))] wx fun r w' => r = .returned (.tuple #[.int .i64 0, .int .i64 0]) ∧ Below wx.heap.size wx w') ∧
      (newG C 200 = true → ∀ (ks : Nat → Nat) (wx : World) (v : DV) (own : Nat → Option Role), Nib wx → IsDev wx v own (Dev.fresh 200 (E.img ks)) → Calls Tryd.prog 19 #[.iface 49 (.pointer (some ⟨v.tb 0, 0, none⟩))] wx fun r w' => r = .returned (.tuple #[.agg (opS C 200).cells, .int .i64 0]) ∧ Below wx.heap.size wx w') := by
  obtain ⟨hgr, hvb, hex, hnn⟩ := h.armed k
  have hn := hgr.on.n
  have hc : (D.arm k).cur = C := funext fun i => by rw [hgr.hst.cur]; rfl
  obtain ⟨E, hE⟩ : ∃ E, E = (D.arm k).run 0 (repP C 200) := ⟨_, rfl⟩
  obtain ⟨hEn, hEv, hEx, hcs, him⟩ := h.rep k (by omega) E hE
  refine ⟨E, repN C 200 (E.err 0), repE C 200 (E.err 0), hEn, hEv, hEx, fun wx v own hN hd => ?_, fun hG => ?_, fun hG => ?_, fun hG he wx v own hN hd => ?_, fun hG ks wx v own hN hd => ?_⟩
  · have := sbRepair_any hN hd (j := 0) (by omega) hgr.on.off hgr.on.err hvb (by rw [hn]; omega) (by rw [hex]; have := h.exec; omega)
    unfold RpPost at this
    rw [hc, hn, ← hE] at this
    exact this
  · have hb : bothG C 200 = false := by
      cases hq : bothG C 200
      · rfl
      · rw [bothG_newG hq] at hG; cases hG
    unfold repE repN
    rw [hb, hG]
    exact ⟨rfl, rfl⟩
  · unfold repE repN
    rw [hG]
    rcases hcs with ⟨he, _⟩ | ⟨he, hb, _⟩
    · rw [he]
      left
      cases hq : bothG C 200
      · unfold bothG at hq; rw [hq]; exact ⟨rfl, rfl⟩
      · unfold bothG at hq; rw [hq]; exact ⟨rfl, rfl⟩
    · rw [he, hb]
      exact .inr ⟨rfl, rfl⟩
  · rcases hcs with ⟨he0, hof, hg⟩ | ⟨he3, hb, _⟩
    · have := sbCheck_any hN hd (j := 0) (by omega) hof he0 hEv (by rw [hEn]; omega)
      obtain ⟨h0, h1⟩ := hg hG
      rw [hEn] at this
      unfold ckE at this
      rw [h0, h1] at this
      exact this
    · unfold repE at he
      rw [hb, hG, he3] at he
      cases he
  · obtain ⟨h1, h2⟩ := him hG ks
    have hfr := fresh_scl (f := E.img ks) (fun i => hEv.img ks i) 0 200
    have := open_scl hfr wx v own hN hd
    have e1 : opS (E.img ks) 200 = opS C 200 := by unfold opS; rw [h1, hG, h2]
    rw [h1, e1] at this
    exact this
end Go.Proofs.YtbpaamnofkhonaaDoor
