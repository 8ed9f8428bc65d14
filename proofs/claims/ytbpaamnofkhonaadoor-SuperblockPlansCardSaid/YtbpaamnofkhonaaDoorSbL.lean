/- The law's awake and real of layer 13. -/
import Derived.Test.YtbpaamnofkhonaaDoorSbR
import Derived.Test.YtbpaamnofkhonaaDoorDevN
namespace Go.Proofs.YtbpaamnofkhonaaDoor
open Go.RowKit Go.Maps
attribute [local go_sem ↓] Go.wp_at_zero Go.wp_at_succ

def sA : Sup := ⟨1, 128, 26, 26, 8, 0, 0, 0⟩
theorem sA_ok : sA.Ok := ⟨by decide, by decide, by decide, by decide, by decide, by decide, by decide, by decide, by decide, by decide, by decide, by decide, by decide, by decide, by decide⟩
def DA0 : Dev := Dev.fresh 128 (fun _ => 0)
def DA1 : Dev := DA0.run 0 (eraseP ++ sbP (sA.withGen 1) 0)
def CA1 : Nat → Int := prgC (sA.withGen 1) 0 (ersC (fun _ => 0))
theorem sA1_ok (g : Int) : (sA.withGen g).Ok := sA_ok.withGen g
theorem DA0_cl : SCl DA0 0 128 (fun _ => 0) 0 := fresh_scl (fun _ => by omega) 0 128
theorem DA1_cl : SCl DA1 0 128 CA1 24 := (DA0_cl.format ((sA1_ok 1).fits (by decide) (by decide)) (by omega)).mono (by omega)
theorem DA1_new : newG CA1 128 = true ∧ newA CA1 128 = 0 ∧ newS CA1 128 = sA.withGen 1 := by
  have := new_format (sA.withGen 1) (sA1_ok 1) (by decide) (fun _ => 0) (n := 128) (by decide)
  exact ⟨this.2.2.1, this.2.2.2.1, this.2.2.2.2⟩
def DA2 : Dev := DA1.run 0 (sbP (sA.withGen 2) 1)
def CA2 : Nat → Int := prgC (sA.withGen 2) 1 CA1
theorem DA2_cl : SCl DA2 0 128 CA2 43 := (DA1_cl.prog ((sA1_ok 2).fits (by decide) (by decide)) (by omega)).mono (by omega)
theorem DA2_new : newG CA2 128 = true ∧ newS CA2 128 = sA.withGen 2 := by
  obtain ⟨h1, h2, h3⟩ := DA1_new
  obtain ⟨p1, p2⟩ := prg_cp (sA.withGen 2) 1 CA1
  have := new_update (sA.withGen 2) (sA1_ok 2) CA1 CA2 (n := 128) (by decide) h1 (by rw [h3]; decide) (by decide) (by rw [h2]; exact p1) (by rw [h2]; exact p2 0 (by omega))
  exact ⟨this.1, this.2.1⟩
/-- A device that has been made since w0. -/
structure Ds (w0 : World) (v : DV) (own : Nat → Option Role) (D : Dev) (wx : World) : Prop where
  dev : IsDev wx v own D
  ob : ∀ k, own k ≠ none → w0.heap.size ≤ k
  bel : Below w0.heap.size w0 wx
section
variable {w0 wx wy : World} {v : DV} {own : Nat → Option Role} {D D' : Dev}
theorem Ds.next (h : Ds w0 v own D wx) (hb : Below wx.heap.size wx wy) : Ds w0 v own D wy := ⟨h.dev.below hb, h.ob, h.bel.trans (hb.mono h.bel.size)⟩
theorem Ds.step (h : Ds w0 v own D wx) (hp : DPost v own wx D' wy) : ∃ own', Ds w0 v own' D' wy := by
  obtain ⟨own', d, o, b⟩ := hp.from h.ob h.bel.size
  exact ⟨own', d, o, h.bel.trans b⟩
end
section
variable {w : World}
set_option maxRecDepth 100000 in
set_option maxHeartbeats 8000000 in
theorem awake13 (hN : Nib w) : Calls Tryd.prog 11 #[] w fun r w' => r = .returned (.bool true) ∧ Below w.heap.size w w' := by
  have HNB := Lib.hid hN; clear hN
  have hreg := fun wx => region_any (w := wx) sA 9 sA_ok (by omega) (by omega)
  rw [show regL sA (9 - 1) = 71 from by decide, show (szL sA).getD (9 - 1) 0 = 32 from by decide] at hreg
  have HRG : Hid (∀ wx, Calls Tryd.prog 13 #[.agg #[.int .i64 1, .int .i64 128, .int .i64 26, .int .i64 26, .int .i64 8, .int .i64 0, .int .i64 0, .int .u64 0], .int .u8 9] wx fun e w' => e = .returned (.tuple #[.int .i64 71, .int .i64 32, .int .i64 0]) ∧ Below wx.heap.size wx w') := hreg
  have hnew := fun (wx : World) => new_any (w := wx) 128 (by omega) (by omega)
  rw [show ((128 : Nat) : Int) = 128 from rfl] at hnew
  have HNW := Lib.hid hnew
  have HFM : Hid (∀ (wx : World) (v : DV) (own : Nat → Option Role), Nib wx → IsDev wx v own DA0 → Calls Tryd.prog 28 #[.iface 49 (.pointer (some ⟨v.tb 0, 0, none⟩)), .agg #[.int .i64 1, .int .i64 128, .int .i64 26, .int .i64 26, .int .i64 8, .int .i64 0, .int .i64 0, .int .u64 0]] wx fun r w' => r = .returned (.int .i64 (DA1.err 0)) ∧ DPost v own wx DA1 w') :=
    fun wx v own hx hd => sbFormat_any hx hd (by omega) rfl (by decide) sA sA_ok (by decide) (by decide)
  rw [DA1_cl.grp.on.err] at HFM
  have HUP : Hid (∀ (wx : World) (v : DV) (own : Nat → Option Role), Nib wx → IsDev wx v own DA1 → Calls Tryd.prog 29 #[.iface 49 (.pointer (some ⟨v.tb 0, 0, none⟩)), .agg #[.int .i64 1, .int .i64 128, .int .i64 26, .int .i64 26, .int .i64 8, .int .i64 0, .int .i64 0, .int .u64 0]] wx fun r w' => r = .returned (.int .i64 0) ∧ DPost v own wx DA2 w') := fun wx v own hx hd => by
    obtain ⟨h1, h2, h3⟩ := DA1_new
    have hn := DA1_cl.grp.on.n
    have hc := DA1_cl.cur
    refine (sbUpdate_any hx hd (j := 0) (by omega) DA1_cl.grp.on.off DA1_cl.grp.on.err DA1_cl.vb (by rw [hn]; omega) sA sA_ok (by rw [hn]; decide) (by decide) (by decide) (by have := DA1_cl.exec; omega)).mono ?_
    rintro r w' (⟨e1, _⟩ | ⟨_, e2, _⟩ | ⟨_, _, e3, e4⟩)
    · rw [hc, hn, h1] at e1; cases e1
    · rw [hc, hn, h3] at e2; exact absurd e2 (by decide)
    · rw [hc, hn, h2, h3] at e3 e4
      have e5 : DA1.run 0 (sbP (sA.withGen ((sA.withGen 1).gen + 1)) (1 - 0)) = DA2 := rfl
      rw [e5] at e3 e4
      rw [DA2_cl.grp.on.err] at e3
      exact ⟨e3, e4⟩
  have HOP : Hid (∀ (wx : World) (v : DV) (own : Nat → Option Role), Nib wx → IsDev wx v own DA2 → Calls Tryd.prog 19 #[.iface 49 (.pointer (some ⟨v.tb 0, 0, none⟩))] wx fun r w' => r = .returned (.tuple #[.agg #[.int .i64 1, .int .i64 128, .int .i64 26, .int .i64 26, .int .i64 8, .int .i64 0, .int .i64 0, .int .u64 2], .int .i64 0]) ∧ Below wx.heap.size wx w') := fun wx v own hx hd => by
    obtain ⟨h1, h2⟩ := DA2_new
    have hn := DA2_cl.grp.on.n
    have hc := DA2_cl.cur
    have := sbOpen_any hx hd (j := 0) (by omega) DA2_cl.grp.on.off DA2_cl.grp.on.err DA2_cl.vb (by rw [hn]; omega)
    rw [hc, hn] at this
    unfold opS opE at this
    rw [h1, h2] at this
    exact this
  clear hreg hnew
  go_enter Tryd.func11, Tryd.ntmps11
  have BX := Lib.hid (below_alloc w (.cells #[.int .i64 1, .int .i64 128, .int .i64 26, .int .i64 26, .int .i64 8, .int .i64 0, .int .i64 0, .int .u64 0] 29))
  have KX := Lib.hid (Blk.new w #[.int .i64 1, .int .i64 128, .int .i64 26, .int .i64 26, .int .i64 8, .int .i64 0, .int .i64 0, .int .u64 0] 29)
  go_wp2_with fail
  (with_reducible refine (HRG.out _).mono ?_)
  rintro e w1 ⟨rfl, b1⟩
  have B1 := Lib.hid (BX.out.trans (b1.mono BX.out.size))
  have K1 := Lib.hid (KX.out.below b1)
  clear b1 HRG BX KX
  go_wp2_with fail
  (with_reducible refine (HNW.out _).mono ?_)
  rintro e w2 ⟨v, own, rfl, d2, o2, b2⟩
  have S2 : Hid (Ds w1 v own DA0 w2) := ⟨d2, o2, b2⟩
  clear d2 o2 b2 HNW
  go_wp2_with fail
  (with_reducible refine (thread0_any S2.out.dev).mono ?_)
  rintro e w' ⟨rfl, rfl⟩
  have z0 : w2.cell? ⟨w.heap.size, 0, none⟩ = some (.int .i64 1) := (K1.out.below S2.out.bel).cell rfl
  have z1 : w2.cell? ⟨w.heap.size, 1, none⟩ = some (.int .i64 128) := (K1.out.below S2.out.bel).cell rfl
  have z2 : w2.cell? ⟨w.heap.size, 2, none⟩ = some (.int .i64 26) := (K1.out.below S2.out.bel).cell rfl
  have z3 : w2.cell? ⟨w.heap.size, 3, none⟩ = some (.int .i64 26) := (K1.out.below S2.out.bel).cell rfl
  have z4 : w2.cell? ⟨w.heap.size, 4, none⟩ = some (.int .i64 8) := (K1.out.below S2.out.bel).cell rfl
  have z5 : w2.cell? ⟨w.heap.size, 5, none⟩ = some (.int .i64 0) := (K1.out.below S2.out.bel).cell rfl
  have z6 : w2.cell? ⟨w.heap.size, 6, none⟩ = some (.int .i64 0) := (K1.out.below S2.out.bel).cell rfl
  have z7 : w2.cell? ⟨w.heap.size, 7, none⟩ = some (.int .u64 0) := (K1.out.below S2.out.bel).cell rfl
  have NB2 := Lib.hid (HNB.out.below (B1.out.trans (S2.out.bel.mono B1.out.size)))
  go_wp2_with fail
  (with_reducible refine (HFM.out _ _ _ NB2.out S2.out.dev).mono ?_)
  rintro e w3 ⟨rfl, p3⟩
  obtain ⟨own3, s3⟩ := S2.out.step p3
  have S3 := Lib.hid s3
  clear p3 s3 S2 z0 z1 z2 z3 z4 z5 z6 z7 NB2 HFM
  have z0 : w3.cell? ⟨w.heap.size, 0, none⟩ = some (.int .i64 1) := (K1.out.below S3.out.bel).cell rfl
  have z1 : w3.cell? ⟨w.heap.size, 1, none⟩ = some (.int .i64 128) := (K1.out.below S3.out.bel).cell rfl
  have z2 : w3.cell? ⟨w.heap.size, 2, none⟩ = some (.int .i64 26) := (K1.out.below S3.out.bel).cell rfl
  have z3 : w3.cell? ⟨w.heap.size, 3, none⟩ = some (.int .i64 26) := (K1.out.below S3.out.bel).cell rfl
  have z4 : w3.cell? ⟨w.heap.size, 4, none⟩ = some (.int .i64 8) := (K1.out.below S3.out.bel).cell rfl
  have z5 : w3.cell? ⟨w.heap.size, 5, none⟩ = some (.int .i64 0) := (K1.out.below S3.out.bel).cell rfl
  have z6 : w3.cell? ⟨w.heap.size, 6, none⟩ = some (.int .i64 0) := (K1.out.below S3.out.bel).cell rfl
  have z7 : w3.cell? ⟨w.heap.size, 7, none⟩ = some (.int .u64 0) := (K1.out.below S3.out.bel).cell rfl
  have NB3 := Lib.hid (HNB.out.below (B1.out.trans (S3.out.bel.mono B1.out.size)))
  go_wp2_with fail
  (with_reducible refine (HUP.out _ _ _ NB3.out S3.out.dev).mono ?_)
  rintro e w4 ⟨rfl, p4⟩
  obtain ⟨own4, s4⟩ := S3.out.step p4
  have S4 := Lib.hid s4
  clear p4 s4 S3 z0 z1 z2 z3 z4 z5 z6 z7 NB3 HUP
  have NB4 := Lib.hid (HNB.out.below (B1.out.trans (S4.out.bel.mono B1.out.size)))
  go_wp2_with fail
  (with_reducible refine (HOP.out _ _ _ NB4.out S4.out.dev).mono ?_)
  rintro e w5 ⟨rfl, b5⟩
  have S5 := Lib.hid (S4.out.next b5)
  clear b5 S4 HOP
  go_wp2_with fail
  go_ret
  exact ⟨rfl, B1.out.trans ((S5.out.next (below_alloc _ _)).bel.mono B1.out.size)⟩
end
end Go.Proofs.YtbpaamnofkhonaaDoor
