/- The walk of BucketPlays. Printed by wip/genplays.py. -/
import Derived.Test.YtpkilmnppdbnkaaBkV
import Derived.Test.YtpkilmnppdbnkaaOpenB
namespace Go.Proofs.Ytpkilmnppdbnkaa
open Go.RowKit

/-- A law's state: the device, its bucket and the reference's. -/
structure PlS (w0 : World) (v : DV) (own : Nat → Option Role) (D : Dev) (y : Nat) (C : Nat → Int) (off bl xb : Nat) (wx : World) : Prop where
  st : BSt wx v own D 4 y C off
  ob : ∀ k, own k ≠ none → w0.heap.size ≤ k
  bb : Blk wx bl #[.iface 56 (.pointer (some ⟨v.tb 0, 0, none⟩)), .int .u64 off] 29
  fb : own bl = none
  xs : Blk wx xb (refC C off) 32
  fx : own xb = none
  lx : w0.heap.size ≤ xb
  ne : bl ≠ xb
  bel : Below w0.heap.size w0 wx
section
variable {w0 wx wy : World} {v : DV} {own : Nat → Option Role} {D : Dev} {y y' : Nat} {C C' : Nat → Int} {off bl xb : Nat}
theorem PlS.next (h : PlS w0 v own D y C off bl xb wx) (hb : Below wx.heap.size wx wy) : PlS w0 v own D y C off bl xb wy := ⟨h.st.below hb, h.ob, h.bb.below hb, h.fb, h.xs.below hb, h.fx, h.lx, h.ne, h.bel.trans (hb.mono h.bel.size)⟩
/-- A block that apply leaves alone. -/
theorem ap_keep {own' : Nat → Option Role} (ho : ∀ k, k < wx.heap.size → own' k = own k) (hu : Upd (fun k => own k ≠ none ∨ k = xb) wx wy) {b : Nat} {c : Array Value} {t : TypeId} (h : Blk wx b c t) (hf : own b = none) (hne : b ≠ xb) : Blk wy b c t ∧ own' b = none :=
  ⟨h.upd hu (by simp [hf, hne]), by rw [ho _ h.lt]; exact hf⟩
theorem PlS.step (h : PlS w0 v own D y C off bl xb wx) {r : Ending} (hp : ApPost wx v own y' C' off xb r wy) : r = .returned (.bool true) ∧ ∃ own' D', PlS w0 v own' D' y' C' off bl xb wy ∧ (∀ b c t, Blk wx b c t → own b = none → b ≠ xb → Blk wy b c t ∧ own' b = none) := by
  obtain ⟨e, own', D', s, b, f, o, u⟩ := hp
  have hk := @ap_keep wx wy own xb own' o u
  refine ⟨e, own', D', ⟨s, fun k hk2 => ?_, (hk h.bb h.fb h.ne).1, (hk h.bb h.fb h.ne).2, b, f, h.lx, h.ne, ?_⟩, fun b c t hb hf hne => hk hb hf hne⟩
  · rcases Nat.lt_or_ge k wx.heap.size with hlt | hge
    · rw [o k hlt] at hk2; exact h.ob k hk2
    · exact Nat.le_trans h.bel.size hge
  · refine ⟨u.os.trans h.bel.os, u.tape.trans h.bel.tape, u.output.trans h.bel.output, Nat.le_trans h.bel.size u.size, fun k hk2 => ?_⟩
    rw [u.block k (Nat.lt_of_lt_of_le hk2 h.bel.size) (fun e => ?_)]
    · exact h.bel.block k hk2
    · rcases e with e | e
      · have := h.ob k e; omega
      · have := h.lx; omega
theorem PlS.new_free {b : Nat} (h : PlS w0 v own D y C off bl xb wx) (hb : wx.heap.size ≤ b) : own b = none := by
  cases e : own b with
  | none => rfl
  | some r => have := h.st.dev.lt b (by rw [e]; simp); omega
end
section
variable {w : World}
/-- The law's beginning. -/
theorem PlS.start {v : DV} {own : Nat → Option Role} {off : Nat} {w1 : World} (d : IsDev w1 v own (Dev.fresh 4 (fun _ => 0))) (o : ∀ k, own k ≠ none → w.heap.size ≤ k) (b : Below w.heap.size w w1) (h8 : off % 8 = 0) (hl : off + 128 ≤ 256) :
    PlS w v own (Dev.fresh 4 (fun _ => 0)) 0 (fun _ => 0) off w1.heap.size (w1.heap.size + 1) ((w1.alloc (.cells #[.iface 56 (.pointer (some ⟨v.tb 0, 0, none⟩)), .int .u64 off] 29)).alloc (.cells (refC (fun _ => 0) off) 32)) := by
  have hs := fresh31 (off := off) d h8 hl
  have hno : ∀ k, w1.heap.size ≤ k → own k = none := fun k hk => by
    cases e : own k with
    | none => rfl
    | some r => have := d.lt k (by rw [e]; simp); omega
  refine ⟨hs.below (below_twice _ _ _), o, (Blk.new _ _ _).alloc _, hno _ (Nat.le_refl _), ?_, hno _ (by omega), by have := b.size; omega, by omega, b.trans ((below_twice _ _ _).mono b.size)⟩
  have := Blk.new (w1.alloc (.cells #[.iface 56 (.pointer (some ⟨v.tb 0, 0, none⟩)), .int .u64 off] 29)) (refC (fun _ => 0) off) 32
  rwa [World.size_alloc] at this
/-- A call of the slice, now. -/
theorem op_now {a : Option Addr} {xs : List Value} (h : xs = [] ∨ ∃ b o, a = some ⟨b, o, none⟩ ∧ ∀ j u, xs[j]? = some u → w.cell? ⟨b, o + j, none⟩ = some u) {i : Nat} (hi : OpAt xs i) {wr : World} (hb : Below w.heap.size w wr) :
    ∃ b q o k x, a = some ⟨b, q, none⟩ ∧ wr.cell? ⟨b, q + i * 3, none⟩ = some (.int .u8 (o : Nat)) ∧ wr.cell? ⟨b, q + i * 3 + 1, none⟩ = some (.int .u64 (k : Nat)) ∧ wr.cell? ⟨b, q + i * 3 + 2, none⟩ = some (.int .u64 (x : Nat)) ∧ o < 256 ∧ k < 18446744073709551616 ∧ x < 18446744073709551616 := by
  obtain ⟨o, k, x, h0, h1, h2, b0, b1, b2⟩ := hi
  obtain ⟨b, q, e, hc⟩ := rd_at h h0
  have cc : ∀ j u, xs[j]? = some u → wr.cell? ⟨b, q + j, none⟩ = some u := fun j u hu => (hb.cell (p := ⟨b, q + j, none⟩) (World.block_lt_of_cell? w _ (hc _ _ hu))).trans (hc _ _ hu)
  refine ⟨b, q, o, k, x, e, cc _ _ h0, ?_, ?_, b0, b1, b2⟩
  · rw [Nat.add_assoc]; exact cc _ _ h1
  · rw [Nat.add_assoc]; exact cc _ _ h2
theorem infoOp : (Try.prog.info? 37).map (·.size) = some 3 := by kernel_rfl
theorem PlS.mono {w0 wx : World} {v : DV} {own : Nat → Option Role} {D : Dev} {y y' : Nat} {C : Nat → Int} {off bl xb : Nat} (h : PlS w0 v own D y C off bl xb wx) (hy : y ≤ y') : PlS w0 v own D y' C off bl xb wx := ⟨h.st.mono31 hy, h.ob, h.bb, h.fb, h.xs, h.fx, h.lx, h.ne, h.bel⟩
set_option maxRecDepth 100000 in
set_option maxHeartbeats 16000000 in
theorem bucketPlays_any (b n : Nat) (hb : b < 256) (sv : Value) (xs : List Value) (hs : RdSl w 3 sv n xs) (hn : n ≤ maxLen) (hop : ∀ i, i < n → OpAt xs i) :
    Calls Try.prog 5 #[.int .u8 b, sv] w fun r w' => r = .returned (.bool true) ∧ Below w.heap.size w w' := by
  unfold maxLen at hn
  obtain ⟨_, a, ca, rfl, hca, ha⟩ := hs
  have HAA := Lib.hid ha; have HOP := Lib.hid hop
  clear ha hop
  have HAW := Lib.hid (fun wx => awake31 (w := wx))
  have HMD := Lib.hid (fun wx => made31 (w := wx) b hb)
  have h8 : 8 * (b % 17) % 8 = 0 := by omega
  have hl : 8 * (b % 17) + 128 ≤ 256 := by omega
  generalize 8 * (b % 17) = off at *
  go_enter Try.func5, Try.ntmps5
  go_wp2_with fail
  (with_reducible refine (HAW.out _).mono ?_)
  rintro e w1 ⟨rfl, b1⟩
  have B1 := Lib.hid b1
  clear b1 HAW
  go_wp2_with fail
  (with_reducible refine (HMD.out _).mono ?_)
  rintro e w2 ⟨v, own, rfl, d, o, b2⟩
  have S2 := Lib.hid (PlS.start (w := w) d (fun k hk => Nat.le_trans B1.out.size (o k hk)) (B1.out.trans (b2.mono B1.out.size)) h8 hl)
  clear d o b2 HMD B1
  dsimp only [refC]
  go_wp2_with fail
  generalize hwv : World.alloc (World.alloc w2 _) _ = w3 at S2
  have hwv2 := hwv
  dsimp only [refC] at hwv2
  rw [hwv2]
  clear hwv hwv2
  generalize w2.heap.size = bl at *
  generalize hxb : bl + 1 = xb at *
  clear hxb
  go_loopw [20] (fun z wr => ∃ i : Nat, i ≤ n ∧ i ≤ 60 ∧ z = .int .i64 i ∧ ∃ own D C, PlS w v own D (9 * i) C off bl xb wr) (fun z _ => n - (intOf z).toNat)
  case atStart => exact ⟨0, by omega, by omega, rfl, _, _, _, S2.out⟩
  case round =>
    obtain ⟨i, hi, hi6, rfl, own, D, C, hs⟩ := hrel
    have R := Lib.hid hs
    clear hs S2
    by_cases hlt : i < n
    · have hi1 : (i : Int) < n := by omega
      obtain ⟨ab, aq, o, k, x, rfl, c0, c1, c2, b0, b1, b2⟩ := op_now HAA.out (HOP.out i hlt) R.out.bel
      by_cases h60 : i = 60
      · have hq : ((i : Int) == 60) = true := by simp; omega
        clear h60
        go_wp2_with fail
        have R4 := Lib.hid (R.out.next (below_alloc wr (.cells #[.int .u8 o, .int .u64 k, .int .u64 x] 37)))
        go_ret
        exact ⟨rfl, R4.out.bel⟩
      · have hi7 : i < 60 := by omega
        have hq : ((i : Int) == 60) = false := by simp; omega
        have R4 := Lib.hid (R.out.next (below_alloc_drew wr (.cells #[.int .u8 o, .int .u64 k, .int .u64 x] 37)))
        have OB0 : Hid (Blk (wr.alloc (.cells #[.int .u8 o, .int .u64 k, .int .u64 x] 37)).drew wr.heap.size #[.int .u8 o, .int .u64 k, .int .u64 x] 37) := (Blk.new wr _ _).drew
        have OF : Hid (own wr.heap.size = none ∧ wr.heap.size ≠ xb) := ⟨R.out.new_free (Nat.le_refl _), by have := R.out.xs.lt; omega⟩
        obtain ⟨y, hy9⟩ : ∃ y, y = 9 * i := ⟨_, rfl⟩
        rw [← hy9] at R4
        have hap := fun (wx : World) (h : BSt wx v own D 4 y C off) (hx : Blk wx xb (refC C off) 32) (hf : own xb = none) => apply31_any h hx hf (by omega) o k x b0 b1 b2
        obtain ⟨C', hC'⟩ : ∃ C', applyC C off o k x = C' := ⟨_, rfl⟩
        rw [hC'] at hap
        have HAP := Lib.hid hap
        clear hap hC' h60 R
        go_wp2_with fail
        generalize hob : wr.heap.size = ob at *
        refine wp_region_held (S := (fun wx => Blk wx bl #[.iface 56 (.pointer (some ⟨v.tb 0, 0, none⟩)), .int .u64 off] 29 ∧ Blk wx ob #[.int .u8 o, .int .u64 k, .int .u64 x] 37)) (by kernel_rfl) ?_
        change wpAnyH _ _ _ _ _ _ _ _ (World.drew _)
        refine wpAnyH_take (i := 0) (v := .pointer (some ⟨v.db, 0, none⟩)) rfl (by kernel_rfl) (by kernel_rfl) (by kernel_rfl) (fun _ _ _ h => h) (Or.inl ⟨by kernel_rfl, fun w _ => by go_simp⟩) ⟨R4.out.bb, OB0.out⟩ ?_
        refine wpAnyH_take (i := 1) (v := .agg #[.iface 56 (.pointer (some ⟨v.tb 0, 0, none⟩)), .int .u64 off]) rfl (by kernel_rfl) (by kernel_rfl) (by kernel_rfl) (fun _ _ _ h => h) (Or.inl ⟨by kernel_rfl, fun wx hx => exec_load_row 29 (.tmp 6) rfl bl rfl 29 #[.iface 56 (.pointer (some ⟨v.tb 0, 0, none⟩)), .int .u64 off] (0, 0) _ hx.1 Try.underlying29 rfl infoBk⟩) ⟨R4.out.bb, OB0.out⟩ ?_
        refine wpAnyH_take (i := 2) (v := .agg #[.int .u8 o, .int .u64 k, .int .u64 x]) rfl (by kernel_rfl) (by kernel_rfl) (by kernel_rfl) (fun _ _ _ h => h) (Or.inl ⟨by kernel_rfl, fun wx hx => exec_load_row 37 (.tmp 9) rfl ob rfl 37 #[.int .u8 o, .int .u64 k, .int .u64 x] (0, 0) _ hx.2 Try.underlying37 rfl infoOp⟩) ⟨R4.out.bb, OB0.out⟩ ?_
        refine wpAnyH_one (i := 3) (by kernel_rfl) rfl (by kernel_rfl) (fun K hK => ?_)
        go_simp
        (with_reducible refine (HAP.out _ R4.out.st R4.out.xs R4.out.fx).mono ?_)
        rintro e w5 hp
        obtain ⟨rfl, own', D', s5, hkeep⟩ := R4.out.step hp
        have PZ := Lib.hid s5
        have OB := Lib.hid (hkeep _ _ _ OB0.out OF.out.1 OF.out.2).1
        clear hp hkeep s5 R4 OB0
        go_simp
        refine hK _ _ ⟨⟨PZ.out.bb, OB.out⟩, ?_⟩
        clear hK K
        have hct := fun (wx : World) (hs : BSt wx v own' D' 4 (y + 9) C' off) => hs.count
        rw [← entB_cnt] at hct
        have hpr := fun (wx : World) (hs : BSt wx v own' D' 4 (y + 9) C' off) => hs.pairs
        have hrp := fun wx => r31Pairs_any (w := wx) (refC_ok (C := C') (off := off) PZ.out.st.inv.bd (by omega))
        have hle := entB_le C' off 7
        obtain ⟨es, hes⟩ : ∃ es, entB C' off 7 = es := ⟨_, rfl⟩
        rw [hes] at hct hpr hrp hle
        have HCT := Lib.hid hct; have HPR := Lib.hid hpr; have HRP := Lib.hid hrp
        have hsm := fun wx u q (h1 : RdSl wx 2 u es.length (prC es)) (h2 : RdSl wx 2 q es.length (prC es)) => r31Same_any u q es es h1 h2 (by omega) (by omega)
        rw [decide_eq_true rfl] at hsm
        have HSM := Lib.hid hsm
        have hbn : ((es.length : Int) != (es.length : Int)) = false := by simp
        have HIN := Lib.hid (refC_info C' off)
        clear hct hpr hrp hes hsm
        refine wpAnyH_one (i := 4) (by kernel_rfl) rfl (by kernel_rfl) (fun K hK => ?_)
        go_simp
        refine hK _ _ ⟨⟨PZ.out.bb, OB.out⟩, ?_⟩
        clear hK K
        refine wpAnyH_one (i := 5) (by kernel_rfl) rfl (by kernel_rfl) (fun K hK => ?_)
        go_simp
        refine hK _ _ ⟨⟨PZ.out.bb, OB.out⟩, ?_⟩
        clear hK K
        refine wpAnyH_take (i := 6) (v := .agg #[.iface 56 (.pointer (some ⟨v.tb 0, 0, none⟩)), .int .u64 off]) rfl (by kernel_rfl) (by kernel_rfl) (by kernel_rfl) (fun _ _ _ h => h) (Or.inl ⟨by kernel_rfl, fun wx hx => exec_load_row 29 (.tmp 6) rfl bl rfl 29 #[.iface 56 (.pointer (some ⟨v.tb 0, 0, none⟩)), .int .u64 off] (0, 0) _ hx.1 Try.underlying29 rfl infoBk⟩) ⟨PZ.out.bb, OB.out⟩ ?_
        refine wpAnyH_two (i := 7) (j := 8) (by kernel_rfl) rfl (by kernel_rfl) rfl (by kernel_rfl) (fun K hK => ?_) (fun K hK => ?_)
        · go_simp
          (with_reducible refine (HCT.out _ PZ.out.st).mono ?_)
          rintro e wz ⟨rfl, b⟩
          have PZ := Lib.hid (PZ.out.next b)
          have OB := Lib.hid (OB.out.below b)
          clear b
          go_simp
          refine hK _ _ ⟨⟨PZ.out.bb, OB.out⟩, ?_⟩
          clear hK K
          refine wpAnyH_one (i := 8) (by kernel_rfl) rfl (by kernel_rfl) (fun K hK => ?_)
          refine wp_load_row 32 (.tmp 7) rfl xb rfl 32 (refC C' off) (0, 0) _ PZ.out.xs Try.underlying32 rfl HIN.out ?_
          refine hK _ _ ⟨⟨PZ.out.bb, OB.out⟩, ?_⟩
          clear hK K
          refine wpAnyH_one (i := 9) (by kernel_rfl) rfl (by kernel_rfl) (fun K hK => ?_)
          go_simp
          (with_reducible refine (HRP.out _).mono ?_)
          rintro e wz ⟨pv1, rfl, ha⟩
          have b := ha.bel
          obtain ⟨pa1, pc1, rfl⟩ := ha.slice
          clear ha
          have PZ := Lib.hid (PZ.out.next b)
          have OB := Lib.hid (OB.out.below b)
          clear b
          go_simp
          refine hK _ _ ⟨⟨PZ.out.bb, OB.out⟩, ?_⟩
          clear hK K
          refine wpAnyH_one (i := 10) (by kernel_rfl) rfl (by kernel_rfl) (fun K hK => ?_)
          go_simp
          refine hK _ _ ⟨⟨PZ.out.bb, OB.out⟩, ?_⟩
          clear hK K
          refine wpAnyH_one (i := 11) (by kernel_rfl) rfl (by kernel_rfl) (fun K hK => ?_)
          go_simp
          refine hK _ _ ⟨⟨PZ.out.bb, OB.out⟩, ?_⟩
          clear hK K
          refine wpAnyH_one (i := 12) (by kernel_rfl) rfl (by kernel_rfl) (fun K hK => ?_)
          go_simp
          refine hK _ _ ⟨⟨PZ.out.bb, OB.out⟩, ?_⟩
          clear hK K
          refine wpAnyH_one (i := 13) (by kernel_rfl) rfl (by kernel_rfl) (fun K hK => ?_)
          go_simp
          refine hK _ _ ⟨⟨PZ.out.bb, OB.out⟩, ?_⟩
          clear hK K
          refine wpAnyH_take (i := 14) (v := .agg #[.iface 56 (.pointer (some ⟨v.tb 0, 0, none⟩)), .int .u64 off]) rfl (by kernel_rfl) (by kernel_rfl) (by kernel_rfl) (fun _ _ _ h => h) (Or.inl ⟨by kernel_rfl, fun wx hx => exec_load_row 29 (.tmp 6) rfl bl rfl 29 #[.iface 56 (.pointer (some ⟨v.tb 0, 0, none⟩)), .int .u64 off] (0, 0) _ hx.1 Try.underlying29 rfl infoBk⟩) ⟨PZ.out.bb, OB.out⟩ ?_
          refine wpAnyH_two (i := 15) (j := 16) (by kernel_rfl) rfl (by kernel_rfl) rfl (by kernel_rfl) (fun K hK => ?_) (fun K hK => ?_)
          · go_simp
            (with_reducible refine (HPR.out _ PZ.out.st).mono ?_)
            rintro e wz ⟨qv, rfl, hrow, b⟩
            have Q := Lib.hid (rd_row31 hrow)
            obtain ⟨qa, qc, rfl⟩ := (show ∃ a c, qv = .slice a es.length c from by obtain ⟨_, a, c, e, _⟩ := rd_row31 hrow; exact ⟨a, c, e⟩)
            clear hrow
            have PZ := Lib.hid (PZ.out.next b)
            have OB := Lib.hid (OB.out.below b)
            clear b
            go_simp
            refine hK _ _ ⟨⟨PZ.out.bb, OB.out⟩, ?_⟩
            clear hK K
            refine wpAnyH_one (i := 16) (by kernel_rfl) rfl (by kernel_rfl) (fun K hK => ?_)
            refine wp_load_row 32 (.tmp 7) rfl xb rfl 32 (refC C' off) (0, 0) _ PZ.out.xs Try.underlying32 rfl HIN.out ?_
            refine hK _ _ ⟨⟨PZ.out.bb, OB.out⟩, ?_⟩
            clear hK K
            refine wpAnyH_one (i := 17) (by kernel_rfl) rfl (by kernel_rfl) (fun K hK => ?_)
            go_simp
            (with_reducible refine (HRP.out _).mono ?_)
            rintro e wz ⟨pv2, rfl, ha⟩
            have b := ha.bel
            have QQ := Lib.hid (Q.out.below b)
            have Try2 := Lib.hid ha.rd
            obtain ⟨pa2, pc2, rfl⟩ := ha.slice
            clear ha Q
            have PZ := Lib.hid (PZ.out.next b)
            have OB := Lib.hid (OB.out.below b)
            clear b
            go_simp
            refine hK _ _ ⟨⟨PZ.out.bb, OB.out⟩, ?_⟩
            clear hK K
            refine wpAnyH_one (i := 18) (by kernel_rfl) rfl (by kernel_rfl) (fun K hK => ?_)
            go_simp
            (with_reducible refine (HSM.out _ _ _ QQ.out Try2.out).mono ?_)
            rintro e wz ⟨rfl, b⟩
            have PZ := Lib.hid (PZ.out.next b)
            have OB := Lib.hid (OB.out.below b)
            clear b
            go_simp
            refine hK _ _ ⟨⟨PZ.out.bb, OB.out⟩, ?_⟩
            clear hK K
            refine wpAnyH_one (i := 19) (by kernel_rfl) rfl (by kernel_rfl) (fun K hK => ?_)
            go_simp
            refine hK _ _ ⟨⟨PZ.out.bb, OB.out⟩, ?_⟩
            clear hK K
            refine wpAnyH_one (i := 20) (by kernel_rfl) rfl (by kernel_rfl) (fun K hK => ?_)
            go_simp
            refine hK _ _ ⟨⟨PZ.out.bb, OB.out⟩, ?_⟩
            clear hK K
            refine wpAnyH_done (by kernel_rfl) ?_ _
            go_wp2_with fail
            go_roundw
            case rel => exact ⟨i + 1, by omega, by omega, by go_num, own', D', C', PZ.out.mono (by omega)⟩
            case measure => simp [intOf]; omega
          · refine wp_load_row 32 (.tmp 7) rfl xb rfl 32 (refC C' off) (0, 0) _ PZ.out.xs Try.underlying32 rfl HIN.out ?_
            refine hK _ _ ⟨⟨PZ.out.bb, OB.out⟩, ?_⟩
            clear hK K
            refine wpAnyH_one (i := 15) (by kernel_rfl) rfl (by kernel_rfl) (fun K hK => ?_)
            go_simp
            (with_reducible refine (HPR.out _ PZ.out.st).mono ?_)
            rintro e wz ⟨qv, rfl, hrow, b⟩
            have Q := Lib.hid (rd_row31 hrow)
            obtain ⟨qa, qc, rfl⟩ := (show ∃ a c, qv = .slice a es.length c from by obtain ⟨_, a, c, e, _⟩ := rd_row31 hrow; exact ⟨a, c, e⟩)
            clear hrow
            have PZ := Lib.hid (PZ.out.next b)
            have OB := Lib.hid (OB.out.below b)
            clear b
            go_simp
            refine hK _ _ ⟨⟨PZ.out.bb, OB.out⟩, ?_⟩
            clear hK K
            refine wpAnyH_one (i := 17) (by kernel_rfl) rfl (by kernel_rfl) (fun K hK => ?_)
            go_simp
            (with_reducible refine (HRP.out _).mono ?_)
            rintro e wz ⟨pv2, rfl, ha⟩
            have b := ha.bel
            have QQ := Lib.hid (Q.out.below b)
            have Try2 := Lib.hid ha.rd
            obtain ⟨pa2, pc2, rfl⟩ := ha.slice
            clear ha Q
            have PZ := Lib.hid (PZ.out.next b)
            have OB := Lib.hid (OB.out.below b)
            clear b
            go_simp
            refine hK _ _ ⟨⟨PZ.out.bb, OB.out⟩, ?_⟩
            clear hK K
            refine wpAnyH_one (i := 18) (by kernel_rfl) rfl (by kernel_rfl) (fun K hK => ?_)
            go_simp
            (with_reducible refine (HSM.out _ _ _ QQ.out Try2.out).mono ?_)
            rintro e wz ⟨rfl, b⟩
            have PZ := Lib.hid (PZ.out.next b)
            have OB := Lib.hid (OB.out.below b)
            clear b
            go_simp
            refine hK _ _ ⟨⟨PZ.out.bb, OB.out⟩, ?_⟩
            clear hK K
            refine wpAnyH_one (i := 19) (by kernel_rfl) rfl (by kernel_rfl) (fun K hK => ?_)
            go_simp
            refine hK _ _ ⟨⟨PZ.out.bb, OB.out⟩, ?_⟩
            clear hK K
            refine wpAnyH_one (i := 20) (by kernel_rfl) rfl (by kernel_rfl) (fun K hK => ?_)
            go_simp
            refine hK _ _ ⟨⟨PZ.out.bb, OB.out⟩, ?_⟩
            clear hK K
            refine wpAnyH_done (by kernel_rfl) ?_ _
            go_wp2_with fail
            go_roundw
            case rel => exact ⟨i + 1, by omega, by omega, by go_num, own', D', C', PZ.out.mono (by omega)⟩
            case measure => simp [intOf]; omega
        · refine wp_load_row 32 (.tmp 7) rfl xb rfl 32 (refC C' off) (0, 0) _ PZ.out.xs Try.underlying32 rfl HIN.out ?_
          refine hK _ _ ⟨⟨PZ.out.bb, OB.out⟩, ?_⟩
          clear hK K
          refine wpAnyH_one (i := 7) (by kernel_rfl) rfl (by kernel_rfl) (fun K hK => ?_)
          go_simp
          (with_reducible refine (HCT.out _ PZ.out.st).mono ?_)
          rintro e wz ⟨rfl, b⟩
          have PZ := Lib.hid (PZ.out.next b)
          have OB := Lib.hid (OB.out.below b)
          clear b
          go_simp
          refine hK _ _ ⟨⟨PZ.out.bb, OB.out⟩, ?_⟩
          clear hK K
          refine wpAnyH_one (i := 9) (by kernel_rfl) rfl (by kernel_rfl) (fun K hK => ?_)
          go_simp
          (with_reducible refine (HRP.out _).mono ?_)
          rintro e wz ⟨pv1, rfl, ha⟩
          have b := ha.bel
          obtain ⟨pa1, pc1, rfl⟩ := ha.slice
          clear ha
          have PZ := Lib.hid (PZ.out.next b)
          have OB := Lib.hid (OB.out.below b)
          clear b
          go_simp
          refine hK _ _ ⟨⟨PZ.out.bb, OB.out⟩, ?_⟩
          clear hK K
          refine wpAnyH_one (i := 10) (by kernel_rfl) rfl (by kernel_rfl) (fun K hK => ?_)
          go_simp
          refine hK _ _ ⟨⟨PZ.out.bb, OB.out⟩, ?_⟩
          clear hK K
          refine wpAnyH_one (i := 11) (by kernel_rfl) rfl (by kernel_rfl) (fun K hK => ?_)
          go_simp
          refine hK _ _ ⟨⟨PZ.out.bb, OB.out⟩, ?_⟩
          clear hK K
          refine wpAnyH_one (i := 12) (by kernel_rfl) rfl (by kernel_rfl) (fun K hK => ?_)
          go_simp
          refine hK _ _ ⟨⟨PZ.out.bb, OB.out⟩, ?_⟩
          clear hK K
          refine wpAnyH_one (i := 13) (by kernel_rfl) rfl (by kernel_rfl) (fun K hK => ?_)
          go_simp
          refine hK _ _ ⟨⟨PZ.out.bb, OB.out⟩, ?_⟩
          clear hK K
          refine wpAnyH_take (i := 14) (v := .agg #[.iface 56 (.pointer (some ⟨v.tb 0, 0, none⟩)), .int .u64 off]) rfl (by kernel_rfl) (by kernel_rfl) (by kernel_rfl) (fun _ _ _ h => h) (Or.inl ⟨by kernel_rfl, fun wx hx => exec_load_row 29 (.tmp 6) rfl bl rfl 29 #[.iface 56 (.pointer (some ⟨v.tb 0, 0, none⟩)), .int .u64 off] (0, 0) _ hx.1 Try.underlying29 rfl infoBk⟩) ⟨PZ.out.bb, OB.out⟩ ?_
          refine wpAnyH_two (i := 15) (j := 16) (by kernel_rfl) rfl (by kernel_rfl) rfl (by kernel_rfl) (fun K hK => ?_) (fun K hK => ?_)
          · go_simp
            (with_reducible refine (HPR.out _ PZ.out.st).mono ?_)
            rintro e wz ⟨qv, rfl, hrow, b⟩
            have Q := Lib.hid (rd_row31 hrow)
            obtain ⟨qa, qc, rfl⟩ := (show ∃ a c, qv = .slice a es.length c from by obtain ⟨_, a, c, e, _⟩ := rd_row31 hrow; exact ⟨a, c, e⟩)
            clear hrow
            have PZ := Lib.hid (PZ.out.next b)
            have OB := Lib.hid (OB.out.below b)
            clear b
            go_simp
            refine hK _ _ ⟨⟨PZ.out.bb, OB.out⟩, ?_⟩
            clear hK K
            refine wpAnyH_one (i := 16) (by kernel_rfl) rfl (by kernel_rfl) (fun K hK => ?_)
            refine wp_load_row 32 (.tmp 7) rfl xb rfl 32 (refC C' off) (0, 0) _ PZ.out.xs Try.underlying32 rfl HIN.out ?_
            refine hK _ _ ⟨⟨PZ.out.bb, OB.out⟩, ?_⟩
            clear hK K
            refine wpAnyH_one (i := 17) (by kernel_rfl) rfl (by kernel_rfl) (fun K hK => ?_)
            go_simp
            (with_reducible refine (HRP.out _).mono ?_)
            rintro e wz ⟨pv2, rfl, ha⟩
            have b := ha.bel
            have QQ := Lib.hid (Q.out.below b)
            have Try2 := Lib.hid ha.rd
            obtain ⟨pa2, pc2, rfl⟩ := ha.slice
            clear ha Q
            have PZ := Lib.hid (PZ.out.next b)
            have OB := Lib.hid (OB.out.below b)
            clear b
            go_simp
            refine hK _ _ ⟨⟨PZ.out.bb, OB.out⟩, ?_⟩
            clear hK K
            refine wpAnyH_one (i := 18) (by kernel_rfl) rfl (by kernel_rfl) (fun K hK => ?_)
            go_simp
            (with_reducible refine (HSM.out _ _ _ QQ.out Try2.out).mono ?_)
            rintro e wz ⟨rfl, b⟩
            have PZ := Lib.hid (PZ.out.next b)
            have OB := Lib.hid (OB.out.below b)
            clear b
            go_simp
            refine hK _ _ ⟨⟨PZ.out.bb, OB.out⟩, ?_⟩
            clear hK K
            refine wpAnyH_one (i := 19) (by kernel_rfl) rfl (by kernel_rfl) (fun K hK => ?_)
            go_simp
            refine hK _ _ ⟨⟨PZ.out.bb, OB.out⟩, ?_⟩
            clear hK K
            refine wpAnyH_one (i := 20) (by kernel_rfl) rfl (by kernel_rfl) (fun K hK => ?_)
            go_simp
            refine hK _ _ ⟨⟨PZ.out.bb, OB.out⟩, ?_⟩
            clear hK K
            refine wpAnyH_done (by kernel_rfl) ?_ _
            go_wp2_with fail
            go_roundw
            case rel => exact ⟨i + 1, by omega, by omega, by go_num, own', D', C', PZ.out.mono (by omega)⟩
            case measure => simp [intOf]; omega
          · refine wp_load_row 32 (.tmp 7) rfl xb rfl 32 (refC C' off) (0, 0) _ PZ.out.xs Try.underlying32 rfl HIN.out ?_
            refine hK _ _ ⟨⟨PZ.out.bb, OB.out⟩, ?_⟩
            clear hK K
            refine wpAnyH_one (i := 15) (by kernel_rfl) rfl (by kernel_rfl) (fun K hK => ?_)
            go_simp
            (with_reducible refine (HPR.out _ PZ.out.st).mono ?_)
            rintro e wz ⟨qv, rfl, hrow, b⟩
            have Q := Lib.hid (rd_row31 hrow)
            obtain ⟨qa, qc, rfl⟩ := (show ∃ a c, qv = .slice a es.length c from by obtain ⟨_, a, c, e, _⟩ := rd_row31 hrow; exact ⟨a, c, e⟩)
            clear hrow
            have PZ := Lib.hid (PZ.out.next b)
            have OB := Lib.hid (OB.out.below b)
            clear b
            go_simp
            refine hK _ _ ⟨⟨PZ.out.bb, OB.out⟩, ?_⟩
            clear hK K
            refine wpAnyH_one (i := 17) (by kernel_rfl) rfl (by kernel_rfl) (fun K hK => ?_)
            go_simp
            (with_reducible refine (HRP.out _).mono ?_)
            rintro e wz ⟨pv2, rfl, ha⟩
            have b := ha.bel
            have QQ := Lib.hid (Q.out.below b)
            have Try2 := Lib.hid ha.rd
            obtain ⟨pa2, pc2, rfl⟩ := ha.slice
            clear ha Q
            have PZ := Lib.hid (PZ.out.next b)
            have OB := Lib.hid (OB.out.below b)
            clear b
            go_simp
            refine hK _ _ ⟨⟨PZ.out.bb, OB.out⟩, ?_⟩
            clear hK K
            refine wpAnyH_one (i := 18) (by kernel_rfl) rfl (by kernel_rfl) (fun K hK => ?_)
            go_simp
            (with_reducible refine (HSM.out _ _ _ QQ.out Try2.out).mono ?_)
            rintro e wz ⟨rfl, b⟩
            have PZ := Lib.hid (PZ.out.next b)
            have OB := Lib.hid (OB.out.below b)
            clear b
            go_simp
            refine hK _ _ ⟨⟨PZ.out.bb, OB.out⟩, ?_⟩
            clear hK K
            refine wpAnyH_one (i := 19) (by kernel_rfl) rfl (by kernel_rfl) (fun K hK => ?_)
            go_simp
            refine hK _ _ ⟨⟨PZ.out.bb, OB.out⟩, ?_⟩
            clear hK K
            refine wpAnyH_one (i := 20) (by kernel_rfl) rfl (by kernel_rfl) (fun K hK => ?_)
            go_simp
            refine hK _ _ ⟨⟨PZ.out.bb, OB.out⟩, ?_⟩
            clear hK K
            refine wpAnyH_done (by kernel_rfl) ?_ _
            go_wp2_with fail
            go_roundw
            case rel => exact ⟨i + 1, by omega, by omega, by go_num, own', D', C', PZ.out.mono (by omega)⟩
            case measure => simp [intOf]; omega
    · obtain rfl : i = n := by omega
      go_wp2_with fail
      go_ret
      exact ⟨rfl, R.out.bel⟩
end
end Go.Proofs.Ytpkilmnppdbnkaa
