/- The law's same; the walk of SuperblockOpens. -/
import Derived.Test.YtbpaamnofkhonaaDoorSbI
import Derived.Test.YtbpaamnofkhonaaDoorSbB
import Derived.Test.YtbpaamnofkhonaaDoorSbQ
import Derived.Test.YtbpaamnofkhonaaDoorHeldM
namespace Go.Proofs.YtbpaamnofkhonaaDoor
open Go.RowKit Go.Maps
attribute [local go_sem ↓] Go.wp_at_zero Go.wp_at_succ

/-- What Open answers is what the reference presents. -/
theorem op_pr (C : Nat → Int) (n : Nat) : opS C n = prS (cpS C n 0) (cpS C n 1) (cpG C n 0) (cpG C n 1) ∧
    ((prC (cpS C n 0) (cpS C n 1) (cpG C n 0) (cpG C n 1) = -1 ∧ opE C n = 10 ∧ opS C n = Sup.zero) ∨ (0 ≤ prC (cpS C n 0) (cpS C n 1) (cpG C n 0) (cpG C n 1) ∧ opE C n = 0)) := by
  unfold opS opE newS newA newG
  rw [newB_eq]
  unfold nwB prS prC
  cases cpG C n 0 <;> cases cpG C n 1 <;> simp
  by_cases h : (cpS C n 0).gen < (cpS C n 1).gen <;> simp [h]
/-- The blocks of two copies' descriptions. -/
structure HSt (w0 : World) (xa xb : Nat) (ca cb : Array Value) (wx : World) : Prop where
  a : Blk wx xa ca 42
  b : Blk wx xb cb 42
  bel : Below w0.heap.size w0 wx
section
variable {w0 wx wy : World} {xa xb : Nat} {ca cb : Array Value}
theorem HSt.next (h : HSt w0 xa xb ca cb wx) (hb : Below wx.heap.size wx wy) : HSt w0 xa xb ca cb wy := ⟨h.a.below hb, h.b.below hb, h.bel.trans (hb.mono h.bel.size)⟩
end
theorem Hf.cells_size {h : Hf} (hk : h.Ok) : h.cells.size = 15 := by unfold Hf.cells; simp [natsU, hk.len]
section
variable {w : World}
set_option maxRecDepth 100000 in
set_option maxHeartbeats 4000000 in
theorem same13_any (s : Sup) : Calls Tryd.prog 24 #[.agg s.cells, .agg s.cells] w fun r w' => r = .returned (.bool true) ∧ Below w.heap.size w w' := by
  obtain ⟨ver, lin, redo, und, desc, que, tab, gen⟩ := s
  unfold Sup.cells
  have hb : ∀ o1 o2, Below w.heap.size w ((w.alloc o1).alloc o2) := fun o1 o2 => below_twice w o1 o2
  have HB := Lib.hid hb; clear hb
  go_enter Tryd.func24, Tryd.ntmps24
  go_wp2_with fail
  go_ret
  exact ⟨rfl, HB.out _ _⟩
set_option maxRecDepth 100000 in
set_option maxHeartbeats 16000000 in
theorem superblockOpens_any (hN : Nib w) (a b : Hf) (ha : a.Ok) (hb : b.Ok) (m : Nat) (hm : m < 256) :
    Calls Tryd.prog 5 #[.agg a.cells, .agg b.cells, .int .u8 m] w fun r w' => r = .returned (.bool true) ∧ Below w.heap.size w w' := by
  have HNB := Lib.hid hN
  have HAW := Lib.hid (fun (wx : World) (hx : Nib wx) => awake13 hx)
  have HWA := Lib.hid (fun (wx : World) => halfWords_any (w := wx) a ha)
  have HWB := Lib.hid (fun (wx : World) => halfWords_any (w := wx) b hb)
  obtain ⟨n, hn⟩ : ∃ n, 2 + m = n := ⟨_, rfl⟩
  have e1 : (2 : Int) + (m : Int) = (n : Int) := by omega
  have hA := Hf.words_len ha; have hB := Hf.words_len hb
  have hA64 := Hf.words_bd ha; have hB64 := Hf.words_bd hb
  have HCP := Lib.hid (fun (wx : World) va vb (h1 : RdSl wx 1 va 8 (natsU a.words)) (h2 : RdSl wx 1 vb 8 (natsU b.words)) => withCopies_any (w := wx) n (by omega) (by omega) va vb a.words b.words hA hB hA64 hB64 h1 h2)
  have HPR := Lib.hid (fun (wx : World) va vb (h1 : RdSl wx 1 va 8 (natsU a.words)) (h2 : RdSl wx 1 vb 8 (natsU b.words)) => present_any (w := wx) va vb a.words b.words n hA hB hA64 hB64 h1 h2)
  have HGA := Lib.hid (fun (wx : World) va (h1 : RdSl wx 1 va 8 (natsU a.words)) => good13_any (w := wx) va a.words hA hA64 n h1)
  have HGB := Lib.hid (fun (wx : World) va (h1 : RdSl wx 1 va 8 (natsU b.words)) => good13_any (w := wx) va b.words hB hB64 n h1)
  have hza := Hf.cells_size ha; have hzb := Hf.cells_size hb
  obtain ⟨fA, fB⟩ := cpF_cp a.words b.words hA hB
  have hfr := fresh_scl (cpF_bd hA64 hB64) 0 n
  generalize a.words = A at *
  generalize b.words = B at *
  generalize a.cells = ca at *
  generalize b.cells = cb at *
  have HIA : Hid ((Tryd.prog.info? 42).map (·.size) = some ca.size) := by show _ = _; rw [hza]; kernel_rfl
  have HIB : Hid ((Tryd.prog.info? 42).map (·.size) = some cb.size) := by show _ = _; rw [hzb]; kernel_rfl
  have X0 : Hid (HSt w w.heap.size (w.heap.size + 1) ca cb ((w.alloc (.cells ca 42)).alloc (.cells cb 42))) := by
    have h2 := Blk.new (w.alloc (.cells ca 42)) cb 42
    simp only [World.size_alloc] at h2
    exact ⟨(Blk.new w _ _).alloc _, h2, below_twice w _ _⟩
  clear hN hza hzb hA hB hA64 hB64 ha hb
  go_enter Tryd.func5, Tryd.ntmps5
  go_wp2_with fail
  (with_reducible refine (HAW.out _ (HNB.out.below X0.out.bel)).mono ?_)
  rintro e w3 ⟨rfl, b3⟩
  have X3 := Lib.hid (X0.out.next b3)
  clear b3 X0 HAW
  go_wp2_with fail
  have X4 := Lib.hid (X3.out.next ((Below.refl _ _).drew))
  refine wp_region_held (S := (fun wx => HSt w w.heap.size (w.heap.size + 1) ca cb wx)) (by kernel_rfl) ?_
  change wpAnyH _ _ _ _ _ _ _ _ (World.drew _)
  refine wpAnyH_take (i := 0) (v := .int .i64 (n : Int)) rfl (by kernel_rfl) (by kernel_rfl) (by kernel_rfl) (fun _ _ _ h => h) (Or.inl ⟨by kernel_rfl, fun w _ => by go_simp⟩) X4.out ?_
  refine wpAnyH_take (i := 1) (v := .agg ca) rfl (by kernel_rfl) (by kernel_rfl) (by kernel_rfl) (fun _ _ _ h => h) (Or.inl ⟨by kernel_rfl, fun wx hx => exec_load_row 42 (.tmp 3) rfl w.heap.size rfl 42 ca (0, 0) _ hx.a Tryd.underlying42 rfl HIA.out⟩) X4.out ?_
  refine wpAnyH_take (i := 3) (v := .agg cb) rfl (by kernel_rfl) (by kernel_rfl) (by kernel_rfl) (fun _ _ _ h => h) (Or.inl ⟨by kernel_rfl, fun wx hx => exec_load_row 42 (.tmp 4) rfl (w.heap.size + 1) rfl 42 cb (0, 0) _ hx.b Tryd.underlying42 rfl HIB.out⟩) X4.out ?_
  refine wpAnyH_one (i := 2) (by kernel_rfl) rfl rfl (fun K hK => ?_)
  go_simp
  (with_reducible refine (HWA.out _).mono ?_)
  rintro e w5 ⟨va, rfl, ra, b5⟩
  have X5 := Lib.hid (X4.out.next b5)
  have RA := Lib.hid ra
  clear ra b5
  go_simp
  refine hK _ _ ⟨X5.out, ?_⟩
  clear hK K
  refine wpAnyH_one (i := 4) (by kernel_rfl) rfl rfl (fun K hK => ?_)
  go_simp
  (with_reducible refine (HWB.out _).mono ?_)
  rintro e w6 ⟨vb, rfl, rb, b6⟩
  have X6 := Lib.hid (X5.out.next b6)
  have RA6 := Lib.hid (RA.out.below b6)
  have RB := Lib.hid rb
  clear rb b6
  go_simp
  refine hK _ _ ⟨X6.out, ?_⟩
  clear hK K
  refine wpAnyH_one (i := 5) (by kernel_rfl) rfl rfl (fun K hK => ?_)
  go_simp
  (with_reducible refine (HCP.out _ _ _ RA6.out RB.out).mono ?_)
  rintro e w7 ⟨v, own, rfl, d7, o7, b7⟩
  have X7 := Lib.hid (X6.out.next b7)
  have S7 : Hid (Ds w6 v own (Dev.fresh n (cpF A B)) w7) := ⟨d7, o7, b7⟩
  clear d7 o7 b7
  go_simp
  refine hK _ _ ⟨X7.out, ?_⟩
  clear hK K
  refine wpAnyH_one (i := 6) (by kernel_rfl) rfl rfl (fun K hK => ?_)
  go_simp
  refine hK _ _ ⟨X7.out, ?_⟩
  clear hK K
  refine wpAnyH_done (by kernel_rfl) ?_ _
  clear HCP X3 X4 X5 RA RA6 RB
  have HOP := Lib.hid (fun (wx : World) (hx : Nib wx) (hd : IsDev wx v own (Dev.fresh n (cpF A B))) => sbOpen_any hx hd (j := 0) (by omega) hfr.grp.on.off hfr.grp.on.err hfr.vb (by show 2 ≤ n; omega))
  have HCK := Lib.hid (fun (wx : World) (hx : Nib wx) (hd : IsDev wx v own (Dev.fresh n (cpF A B))) => sbCheck_any hx hd (j := 0) (by omega) hfr.grp.on.off hfr.grp.on.err hfr.vb (by show 2 ≤ n; omega))
  rw [hfr.cur, hfr.grp.on.n] at HOP HCK
  obtain ⟨hS, hE⟩ := op_pr (cpF A B) n
  have hG0 : ckE (cpF A B) n 0 = if goodB A n then 0 else 10 := by unfold ckE cpG; rw [fA]
  have hG1 : ckE (cpF A B) n 1 = if goodB B n then 0 else 10 := by unfold ckE cpG; rw [fB]
  rw [hG0, hG1] at HCK
  rw [show cpS (cpF A B) n 0 = decoded A n by unfold cpS; rw [fA], show cpS (cpF A B) n 1 = decoded B n by unfold cpS; rw [fB], show cpG (cpF A B) n 0 = goodB A n by unfold cpG; rw [fA], show cpG (cpF A B) n 1 = goodB B n by unfold cpG; rw [fB]] at hS hE
  rw [hS] at HOP hE
  generalize prS (decoded A n) (decoded B n) (goodB A n) (goodB B n) = rs at *
  generalize prC (decoded A n) (decoded B n) (goodB A n) (goodB B n) = rc at *
  generalize opE (cpF A B) n = re at *
  generalize goodB A n = ga at *
  generalize goodB B n = gb at *
  have HSM := Lib.hid (fun (wx : World) => same13_any (w := wx) rs)
  generalize decoded A n = da at *
  generalize decoded B n = db at *
  have HE : Hid ((rc = -1 ∧ re = 10 ∧ rs.cells = Sup.zero.cells) ∨ (0 ≤ rc ∧ re = 0)) := by
    rcases hE with ⟨h1, h2, h3⟩ | h
    · exact .inl ⟨h1, h2, by rw [h3]⟩
    · exact .inr h
  generalize hD : Dev.fresh n (cpF A B) = D at *
  obtain ⟨r1, r2, r3, r4, r5, r6, r7, r8⟩ := rs
  obtain ⟨x1, x2, x3, x4, x5, x6, x7, x8⟩ := da
  obtain ⟨y1, y2, y3, y4, y5, y6, y7, y8⟩ := db
  unfold Sup.cells at *
  simp only at HPR HOP HGA HGB HSM HE
  have KN := Lib.hid (HNB.out.below X7.out.bel)
  clear hS hG0 hG1 fA fB hfr hE hm e1 hD
  go_wp2_with fail
  (with_reducible refine (thread0_any S7.out.dev).mono ?_)
  rintro e w' ⟨rfl, rfl⟩
  go_wp2_with fail
  (with_reducible refine (HOP.out _ KN.out S7.out.dev).mono ?_)
  rintro e w8 ⟨rfl, b8⟩
  have b9 := b8.trans ((below_alloc w8 (.cells #[.int .i64 r1, .int .i64 r2, .int .i64 r3, .int .i64 r4, .int .i64 r5, .int .i64 r6, .int .i64 r7, .int .u64 r8] 29)).mono b8.size)
  have X9 := Lib.hid (X7.out.next b9)
  have S9 := Lib.hid (S7.out.next b9)
  have G9 := Lib.hid (Blk.new w8 #[.int .i64 r1, .int .i64 r2, .int .i64 r3, .int .i64 r4, .int .i64 r5, .int .i64 r6, .int .i64 r7, .int .u64 r8] 29)
  clear b8 b9 X7 S7 KN HOP
  have HIS : Hid ((Tryd.prog.info? 26).map (·.size) = some (#[.int .i64 r1, .int .i64 r2, .int .i64 r3, .int .i64 r4, .int .i64 r5, .int .i64 r6, .int .i64 r7, .int .u64 r8] : Array Value).size) := by show _ = some 8; kernel_rfl
  have HOC : Hid ((#[.int .i64 r1, .int .i64 r2, .int .i64 r3, .int .i64 r4, .int .i64 r5, .int .i64 r6, .int .i64 r7, .int .u64 r8] : Array Value).all (·.oneCell') = true) := by show (#[.int .i64 r1, .int .i64 r2, .int .i64 r3, .int .i64 r4, .int .i64 r5, .int .i64 r6, .int .i64 r7, .int .u64 r8] : Array Value).all (·.oneCell') = true; simp [Value.oneCell']
  go_upto_region 8 with fail
  generalize hw9 : w8.alloc (.cells #[.int .i64 r1, .int .i64 r2, .int .i64 r3, .int .i64 r4, .int .i64 r5, .int .i64 r6, .int .i64 r7, .int .u64 r8] 29) = w9 at *
  generalize hg8 : w8.heap.size = g8 at *
  clear hw9 hg8
  go_cut [11, 12] from 39 to 47 (fun p q wx => ∃ g, p = .pointer (some ⟨g, 0, none⟩) ∧ q = .int .i64 rc ∧ Blk wx g #[.int .i64 r1, .int .i64 r2, .int .i64 r3, .int .i64 r4, .int .i64 r5, .int .i64 r6, .int .i64 r7, .int .u64 r8] 26 ∧ Below w9.heap.size w9 wx)
  case first =>
    have BB : Hid (Below w9.heap.size w9 w9.drew) := (Below.refl _ _).drew
    refine wp_region_held (S := (fun wx => Below w9.heap.size w9 wx)) (by kernel_rfl) ?_
    change wpAnyH _ _ _ _ _ _ _ _ (World.drew _)
    refine wpAnyH_take (i := 0) (v := .agg ca) rfl (by kernel_rfl) (by kernel_rfl) (by kernel_rfl) (fun _ _ _ h => h) (Or.inl ⟨by kernel_rfl, fun wx hx => exec_load_row 42 (.tmp 3) rfl w.heap.size rfl 42 ca (0, 0) _ (X9.out.next hx).a Tryd.underlying42 rfl HIA.out⟩) BB.out ?_
    refine wpAnyH_take (i := 2) (v := .agg cb) rfl (by kernel_rfl) (by kernel_rfl) (by kernel_rfl) (fun _ _ _ h => h) (Or.inl ⟨by kernel_rfl, fun wx hx => exec_load_row 42 (.tmp 4) rfl (w.heap.size + 1) rfl 42 cb (0, 0) _ (X9.out.next hx).b Tryd.underlying42 rfl HIB.out⟩) BB.out ?_
    refine wpAnyH_take (i := 4) (v := .int .i64 (n : Int)) rfl (by kernel_rfl) (by kernel_rfl) (by kernel_rfl) (fun _ _ _ h => h) (Or.inl ⟨by kernel_rfl, fun w _ => by go_simp⟩) BB.out ?_
    have RA : Hid True := Lib.hid trivial
    have RB : Hid True := Lib.hid trivial
    refine wpAnyH_two (i := 1) (j := 9) (by kernel_rfl) rfl rfl rfl rfl (fun K hK => ?_) (fun K hK => ?_)
    · go_simp
      (with_reducible refine (HWA.out _).mono ?_)
      rintro e wt1 ⟨va2, rfl, ra, bwt1⟩
      have BB := Lib.hid (BB.out.trans (bwt1.mono BB.out.size))
      have RA := Lib.hid ra
      clear ra
      clear bwt1
      go_simp
      refine hK _ _ ⟨BB.out, ?_⟩
      clear hK K
      refine wpAnyH_two (i := 3) (j := 9) (by kernel_rfl) rfl rfl rfl rfl (fun K hK => ?_) (fun K hK => ?_)
      · go_simp
        (with_reducible refine (HWB.out _).mono ?_)
        rintro e wt2 ⟨vb2, rfl, rb, bwt2⟩
        have BB := Lib.hid (BB.out.trans (bwt2.mono BB.out.size))
        have RA := Lib.hid (RA.out.below bwt2)
        have RB := Lib.hid rb
        clear rb
        clear bwt2
        go_simp
        refine hK _ _ ⟨BB.out, ?_⟩
        clear hK K
        refine wpAnyH_two (i := 5) (j := 9) (by kernel_rfl) rfl rfl rfl rfl (fun K hK => ?_) (fun K hK => ?_)
        · go_simp
          (with_reducible refine (HPR.out _ _ _ RA.out RB.out).mono ?_)
          rintro e wt3 ⟨rfl, bwt3⟩
          have BB := Lib.hid (BB.out.trans (bwt3.mono BB.out.size))
          clear bwt3
          go_simp
          refine hK _ _ ⟨BB.out, ?_⟩
          clear hK K
          refine wpAnyH_take (i := 6) (v := .tuple #[.agg #[.int .i64 r1, .int .i64 r2, .int .i64 r3, .int .i64 r4, .int .i64 r5, .int .i64 r6, .int .i64 r7, .int .u64 r8], .int .i64 rc]) rfl (by kernel_rfl) (by kernel_rfl) (by kernel_rfl) (fun _ _ _ h => h) (Or.inl ⟨by kernel_rfl, fun w _ => by go_simp⟩) BB.out ?_
          refine wpAnyH_take (i := 7) (v := .agg #[.int .i64 r1, .int .i64 r2, .int .i64 r3, .int .i64 r4, .int .i64 r5, .int .i64 r6, .int .i64 r7, .int .u64 r8]) rfl (by kernel_rfl) (by kernel_rfl) (by kernel_rfl) (fun _ _ _ h => h) (Or.inl ⟨by kernel_rfl, fun w _ => by go_simp⟩) BB.out ?_
          refine wpAnyH_take (i := 8) (v := .int .i64 rc) rfl (by kernel_rfl) (by kernel_rfl) (by kernel_rfl) (fun _ _ _ h => h) (Or.inl ⟨by kernel_rfl, fun w _ => by go_simp⟩) BB.out ?_
          refine wpAnyH_one (i := 9) (by kernel_rfl) rfl rfl (fun K hK => ?_)
          go_simp
          have NB := Lib.hid (Blk.new wt3 #[.int .i64 0, .int .i64 0, .int .i64 0, .int .i64 0, .int .i64 0, .int .i64 0, .int .i64 0, .int .u64 0] 26)
          have HG0 := Lib.hid BB.out.size
          have BA := below_alloc wt3 (.cells #[.int .i64 0, .int .i64 0, .int .i64 0, .int .i64 0, .int .i64 0, .int .i64 0, .int .i64 0, .int .u64 0] 26)
          have BB := Lib.hid (BB.out.trans (BA.mono BB.out.size))
          clear BA
          (try have RA := Lib.hid (RA.out.below (below_alloc wt3 (.cells #[.int .i64 0, .int .i64 0, .int .i64 0, .int .i64 0, .int .i64 0, .int .i64 0, .int .i64 0, .int .u64 0] 26))))
          (try have RB := Lib.hid (RB.out.below (below_alloc wt3 (.cells #[.int .i64 0, .int .i64 0, .int .i64 0, .int .i64 0, .int .i64 0, .int .i64 0, .int .i64 0, .int .u64 0] 26))))
          refine hK _ _ ⟨BB.out, ?_⟩
          clear hK K
          refine wpAnyH_one (i := 10) (by kernel_rfl) rfl rfl (fun K hK => ?_)
          refine wp_store_row 26 (.tmp 11) (.tmp 46) rfl (wt3.heap.size) #[.int .i64 r1, .int .i64 r2, .int .i64 r3, .int .i64 r4, .int .i64 r5, .int .i64 r6, .int .i64 r7, .int .u64 r8] rfl rfl 26 #[.int .i64 0, .int .i64 0, .int .i64 0, .int .i64 0, .int .i64 0, .int .i64 0, .int .i64 0, .int .u64 0] NB.out HIS.out rfl HOC.out ?_
          have BS := Lib.hid (below_setRow BB.out HG0.out #[.int .i64 r1, .int .i64 r2, .int .i64 r3, .int .i64 r4, .int .i64 r5, .int .i64 r6, .int .i64 r7, .int .u64 r8])
          refine hK _ _ ⟨BS.out, ?_⟩
          clear hK K
          refine wpAnyH_one (i := 11) (by kernel_rfl) rfl rfl (fun K hK => ?_)
          go_simp
          refine hK _ _ ⟨BS.out, ?_⟩
          clear hK K
          refine wpAnyH_done (by kernel_rfl) ?_ _
          go_wp2_with fail
          go_meet
          exact ⟨_, rfl, rfl, setRow_heap _ _ _ #[.int .i64 r1, .int .i64 r2, .int .i64 r3, .int .i64 r4, .int .i64 r5, .int .i64 r6, .int .i64 r7, .int .u64 r8] 26 (0, 0) NB.out, BS.out⟩
        · go_simp
          have NB := Lib.hid (Blk.new wt2 #[.int .i64 0, .int .i64 0, .int .i64 0, .int .i64 0, .int .i64 0, .int .i64 0, .int .i64 0, .int .u64 0] 26)
          have HG0 := Lib.hid BB.out.size
          have BA := below_alloc wt2 (.cells #[.int .i64 0, .int .i64 0, .int .i64 0, .int .i64 0, .int .i64 0, .int .i64 0, .int .i64 0, .int .u64 0] 26)
          have BB := Lib.hid (BB.out.trans (BA.mono BB.out.size))
          clear BA
          (try have RA := Lib.hid (RA.out.below (below_alloc wt2 (.cells #[.int .i64 0, .int .i64 0, .int .i64 0, .int .i64 0, .int .i64 0, .int .i64 0, .int .i64 0, .int .u64 0] 26))))
          (try have RB := Lib.hid (RB.out.below (below_alloc wt2 (.cells #[.int .i64 0, .int .i64 0, .int .i64 0, .int .i64 0, .int .i64 0, .int .i64 0, .int .i64 0, .int .u64 0] 26))))
          refine hK _ _ ⟨BB.out, ?_⟩
          clear hK K
          refine wpAnyH_one (i := 5) (by kernel_rfl) rfl rfl (fun K hK => ?_)
          go_simp
          (with_reducible refine (HPR.out _ _ _ RA.out RB.out).mono ?_)
          rintro e wt4 ⟨rfl, bwt4⟩
          have BB := Lib.hid (BB.out.trans (bwt4.mono BB.out.size))
          have NB := Lib.hid (NB.out.below bwt4)
          clear bwt4
          go_simp
          refine hK _ _ ⟨BB.out, ?_⟩
          clear hK K
          refine wpAnyH_take (i := 6) (v := .tuple #[.agg #[.int .i64 r1, .int .i64 r2, .int .i64 r3, .int .i64 r4, .int .i64 r5, .int .i64 r6, .int .i64 r7, .int .u64 r8], .int .i64 rc]) rfl (by kernel_rfl) (by kernel_rfl) (by kernel_rfl) (fun _ _ _ h => h) (Or.inl ⟨by kernel_rfl, fun w _ => by go_simp⟩) BB.out ?_
          refine wpAnyH_take (i := 7) (v := .agg #[.int .i64 r1, .int .i64 r2, .int .i64 r3, .int .i64 r4, .int .i64 r5, .int .i64 r6, .int .i64 r7, .int .u64 r8]) rfl (by kernel_rfl) (by kernel_rfl) (by kernel_rfl) (fun _ _ _ h => h) (Or.inl ⟨by kernel_rfl, fun w _ => by go_simp⟩) BB.out ?_
          refine wpAnyH_take (i := 8) (v := .int .i64 rc) rfl (by kernel_rfl) (by kernel_rfl) (by kernel_rfl) (fun _ _ _ h => h) (Or.inl ⟨by kernel_rfl, fun w _ => by go_simp⟩) BB.out ?_
          refine wpAnyH_one (i := 10) (by kernel_rfl) rfl rfl (fun K hK => ?_)
          refine wp_store_row 26 (.tmp 11) (.tmp 46) rfl (wt2.heap.size) #[.int .i64 r1, .int .i64 r2, .int .i64 r3, .int .i64 r4, .int .i64 r5, .int .i64 r6, .int .i64 r7, .int .u64 r8] rfl rfl 26 #[.int .i64 0, .int .i64 0, .int .i64 0, .int .i64 0, .int .i64 0, .int .i64 0, .int .i64 0, .int .u64 0] NB.out HIS.out rfl HOC.out ?_
          have BS := Lib.hid (below_setRow BB.out HG0.out #[.int .i64 r1, .int .i64 r2, .int .i64 r3, .int .i64 r4, .int .i64 r5, .int .i64 r6, .int .i64 r7, .int .u64 r8])
          refine hK _ _ ⟨BS.out, ?_⟩
          clear hK K
          refine wpAnyH_one (i := 11) (by kernel_rfl) rfl rfl (fun K hK => ?_)
          go_simp
          refine hK _ _ ⟨BS.out, ?_⟩
          clear hK K
          refine wpAnyH_done (by kernel_rfl) ?_ _
          go_wp2_with fail
          go_meet
          exact ⟨_, rfl, rfl, setRow_heap _ _ _ #[.int .i64 r1, .int .i64 r2, .int .i64 r3, .int .i64 r4, .int .i64 r5, .int .i64 r6, .int .i64 r7, .int .u64 r8] 26 (0, 0) NB.out, BS.out⟩
      · go_simp
        have NB := Lib.hid (Blk.new wt1 #[.int .i64 0, .int .i64 0, .int .i64 0, .int .i64 0, .int .i64 0, .int .i64 0, .int .i64 0, .int .u64 0] 26)
        have HG0 := Lib.hid BB.out.size
        have BA := below_alloc wt1 (.cells #[.int .i64 0, .int .i64 0, .int .i64 0, .int .i64 0, .int .i64 0, .int .i64 0, .int .i64 0, .int .u64 0] 26)
        have BB := Lib.hid (BB.out.trans (BA.mono BB.out.size))
        clear BA
        (try have RA := Lib.hid (RA.out.below (below_alloc wt1 (.cells #[.int .i64 0, .int .i64 0, .int .i64 0, .int .i64 0, .int .i64 0, .int .i64 0, .int .i64 0, .int .u64 0] 26))))
        (try have RB := Lib.hid (RB.out.below (below_alloc wt1 (.cells #[.int .i64 0, .int .i64 0, .int .i64 0, .int .i64 0, .int .i64 0, .int .i64 0, .int .i64 0, .int .u64 0] 26))))
        refine hK _ _ ⟨BB.out, ?_⟩
        clear hK K
        refine wpAnyH_one (i := 3) (by kernel_rfl) rfl rfl (fun K hK => ?_)
        go_simp
        (with_reducible refine (HWB.out _).mono ?_)
        rintro e wt5 ⟨vb2, rfl, rb, bwt5⟩
        have BB := Lib.hid (BB.out.trans (bwt5.mono BB.out.size))
        have NB := Lib.hid (NB.out.below bwt5)
        have RA := Lib.hid (RA.out.below bwt5)
        have RB := Lib.hid rb
        clear rb
        clear bwt5
        go_simp
        refine hK _ _ ⟨BB.out, ?_⟩
        clear hK K
        refine wpAnyH_one (i := 5) (by kernel_rfl) rfl rfl (fun K hK => ?_)
        go_simp
        (with_reducible refine (HPR.out _ _ _ RA.out RB.out).mono ?_)
        rintro e wt6 ⟨rfl, bwt6⟩
        have BB := Lib.hid (BB.out.trans (bwt6.mono BB.out.size))
        have NB := Lib.hid (NB.out.below bwt6)
        clear bwt6
        go_simp
        refine hK _ _ ⟨BB.out, ?_⟩
        clear hK K
        refine wpAnyH_take (i := 6) (v := .tuple #[.agg #[.int .i64 r1, .int .i64 r2, .int .i64 r3, .int .i64 r4, .int .i64 r5, .int .i64 r6, .int .i64 r7, .int .u64 r8], .int .i64 rc]) rfl (by kernel_rfl) (by kernel_rfl) (by kernel_rfl) (fun _ _ _ h => h) (Or.inl ⟨by kernel_rfl, fun w _ => by go_simp⟩) BB.out ?_
        refine wpAnyH_take (i := 7) (v := .agg #[.int .i64 r1, .int .i64 r2, .int .i64 r3, .int .i64 r4, .int .i64 r5, .int .i64 r6, .int .i64 r7, .int .u64 r8]) rfl (by kernel_rfl) (by kernel_rfl) (by kernel_rfl) (fun _ _ _ h => h) (Or.inl ⟨by kernel_rfl, fun w _ => by go_simp⟩) BB.out ?_
        refine wpAnyH_take (i := 8) (v := .int .i64 rc) rfl (by kernel_rfl) (by kernel_rfl) (by kernel_rfl) (fun _ _ _ h => h) (Or.inl ⟨by kernel_rfl, fun w _ => by go_simp⟩) BB.out ?_
        refine wpAnyH_one (i := 10) (by kernel_rfl) rfl rfl (fun K hK => ?_)
        refine wp_store_row 26 (.tmp 11) (.tmp 46) rfl (wt1.heap.size) #[.int .i64 r1, .int .i64 r2, .int .i64 r3, .int .i64 r4, .int .i64 r5, .int .i64 r6, .int .i64 r7, .int .u64 r8] rfl rfl 26 #[.int .i64 0, .int .i64 0, .int .i64 0, .int .i64 0, .int .i64 0, .int .i64 0, .int .i64 0, .int .u64 0] NB.out HIS.out rfl HOC.out ?_
        have BS := Lib.hid (below_setRow BB.out HG0.out #[.int .i64 r1, .int .i64 r2, .int .i64 r3, .int .i64 r4, .int .i64 r5, .int .i64 r6, .int .i64 r7, .int .u64 r8])
        refine hK _ _ ⟨BS.out, ?_⟩
        clear hK K
        refine wpAnyH_one (i := 11) (by kernel_rfl) rfl rfl (fun K hK => ?_)
        go_simp
        refine hK _ _ ⟨BS.out, ?_⟩
        clear hK K
        refine wpAnyH_done (by kernel_rfl) ?_ _
        go_wp2_with fail
        go_meet
        exact ⟨_, rfl, rfl, setRow_heap _ _ _ #[.int .i64 r1, .int .i64 r2, .int .i64 r3, .int .i64 r4, .int .i64 r5, .int .i64 r6, .int .i64 r7, .int .u64 r8] 26 (0, 0) NB.out, BS.out⟩
    · go_simp
      have NB := Lib.hid (Blk.new w9.drew #[.int .i64 0, .int .i64 0, .int .i64 0, .int .i64 0, .int .i64 0, .int .i64 0, .int .i64 0, .int .u64 0] 26)
      have HG0 := Lib.hid BB.out.size
      have BA := below_alloc w9.drew (.cells #[.int .i64 0, .int .i64 0, .int .i64 0, .int .i64 0, .int .i64 0, .int .i64 0, .int .i64 0, .int .u64 0] 26)
      have BB := Lib.hid (BB.out.trans (BA.mono BB.out.size))
      clear BA
      (try have RA := Lib.hid (RA.out.below (below_alloc w9.drew (.cells #[.int .i64 0, .int .i64 0, .int .i64 0, .int .i64 0, .int .i64 0, .int .i64 0, .int .i64 0, .int .u64 0] 26))))
      (try have RB := Lib.hid (RB.out.below (below_alloc w9.drew (.cells #[.int .i64 0, .int .i64 0, .int .i64 0, .int .i64 0, .int .i64 0, .int .i64 0, .int .i64 0, .int .u64 0] 26))))
      refine hK _ _ ⟨BB.out, ?_⟩
      clear hK K
      refine wpAnyH_one (i := 1) (by kernel_rfl) rfl rfl (fun K hK => ?_)
      go_simp
      (with_reducible refine (HWA.out _).mono ?_)
      rintro e wt7 ⟨va2, rfl, ra, bwt7⟩
      have BB := Lib.hid (BB.out.trans (bwt7.mono BB.out.size))
      have NB := Lib.hid (NB.out.below bwt7)
      have RA := Lib.hid ra
      clear ra
      clear bwt7
      go_simp
      refine hK _ _ ⟨BB.out, ?_⟩
      clear hK K
      refine wpAnyH_one (i := 3) (by kernel_rfl) rfl rfl (fun K hK => ?_)
      go_simp
      (with_reducible refine (HWB.out _).mono ?_)
      rintro e wt8 ⟨vb2, rfl, rb, bwt8⟩
      have BB := Lib.hid (BB.out.trans (bwt8.mono BB.out.size))
      have NB := Lib.hid (NB.out.below bwt8)
      have RA := Lib.hid (RA.out.below bwt8)
      have RB := Lib.hid rb
      clear rb
      clear bwt8
      go_simp
      refine hK _ _ ⟨BB.out, ?_⟩
      clear hK K
      refine wpAnyH_one (i := 5) (by kernel_rfl) rfl rfl (fun K hK => ?_)
      go_simp
      (with_reducible refine (HPR.out _ _ _ RA.out RB.out).mono ?_)
      rintro e wt9 ⟨rfl, bwt9⟩
      have BB := Lib.hid (BB.out.trans (bwt9.mono BB.out.size))
      have NB := Lib.hid (NB.out.below bwt9)
      clear bwt9
      go_simp
      refine hK _ _ ⟨BB.out, ?_⟩
      clear hK K
      refine wpAnyH_take (i := 6) (v := .tuple #[.agg #[.int .i64 r1, .int .i64 r2, .int .i64 r3, .int .i64 r4, .int .i64 r5, .int .i64 r6, .int .i64 r7, .int .u64 r8], .int .i64 rc]) rfl (by kernel_rfl) (by kernel_rfl) (by kernel_rfl) (fun _ _ _ h => h) (Or.inl ⟨by kernel_rfl, fun w _ => by go_simp⟩) BB.out ?_
      refine wpAnyH_take (i := 7) (v := .agg #[.int .i64 r1, .int .i64 r2, .int .i64 r3, .int .i64 r4, .int .i64 r5, .int .i64 r6, .int .i64 r7, .int .u64 r8]) rfl (by kernel_rfl) (by kernel_rfl) (by kernel_rfl) (fun _ _ _ h => h) (Or.inl ⟨by kernel_rfl, fun w _ => by go_simp⟩) BB.out ?_
      refine wpAnyH_take (i := 8) (v := .int .i64 rc) rfl (by kernel_rfl) (by kernel_rfl) (by kernel_rfl) (fun _ _ _ h => h) (Or.inl ⟨by kernel_rfl, fun w _ => by go_simp⟩) BB.out ?_
      refine wpAnyH_one (i := 10) (by kernel_rfl) rfl rfl (fun K hK => ?_)
      refine wp_store_row 26 (.tmp 11) (.tmp 46) rfl (w9.drew.heap.size) #[.int .i64 r1, .int .i64 r2, .int .i64 r3, .int .i64 r4, .int .i64 r5, .int .i64 r6, .int .i64 r7, .int .u64 r8] rfl rfl 26 #[.int .i64 0, .int .i64 0, .int .i64 0, .int .i64 0, .int .i64 0, .int .i64 0, .int .i64 0, .int .u64 0] NB.out HIS.out rfl HOC.out ?_
      have BS := Lib.hid (below_setRow BB.out HG0.out #[.int .i64 r1, .int .i64 r2, .int .i64 r3, .int .i64 r4, .int .i64 r5, .int .i64 r6, .int .i64 r7, .int .u64 r8])
      refine hK _ _ ⟨BS.out, ?_⟩
      clear hK K
      refine wpAnyH_one (i := 11) (by kernel_rfl) rfl rfl (fun K hK => ?_)
      go_simp
      refine hK _ _ ⟨BS.out, ?_⟩
      clear hK K
      refine wpAnyH_done (by kernel_rfl) ?_ _
      go_wp2_with fail
      go_meet
      exact ⟨_, rfl, rfl, setRow_heap _ _ _ #[.int .i64 r1, .int .i64 r2, .int .i64 r3, .int .i64 r4, .int .i64 r5, .int .i64 r6, .int .i64 r7, .int .u64 r8] 26 (0, 0) NB.out, BS.out⟩
  case rest =>
    obtain ⟨g, rfl, rfl, hgb, hbl⟩ := hcut
    rename World => wA
    have XA := Lib.hid (X9.out.next hbl)
    have SA := Lib.hid (S9.out.next hbl)
    have GA := Lib.hid (G9.out.below hbl)
    have NA : Hid (Blk wA g #[.int .i64 r1, .int .i64 r2, .int .i64 r3, .int .i64 r4, .int .i64 r5, .int .i64 r6, .int .i64 r7, .int .u64 r8] 26) := Lib.hid hgb
    have KA := Lib.hid (HNB.out.below XA.out.bel)
    obtain ⟨ea, hea⟩ : ∃ ea : Int, (if ga = true then 0 else 10) = ea := ⟨_, rfl⟩
    obtain ⟨eb, heb⟩ : ∃ ea : Int, (if gb = true then 0 else 10) = ea := ⟨_, rfl⟩
    rw [hea, heb] at HCK
    have HEA := Lib.hid hea; have HEB := Lib.hid heb
    clear hbl hgb X9 S9 G9 hea heb HIS HOC HPR
    go_wp2_with fail
    (with_reducible refine (thread0_any SA.out.dev).mono ?_)
    rintro e w' ⟨rfl, rfl⟩
    go_wp2_with fail
    (with_reducible refine (HCK.out _ KA.out SA.out.dev).mono ?_)
    rintro e wB ⟨rfl, bB⟩
    have XB := Lib.hid (XA.out.next bB)
    have GB := Lib.hid (GA.out.below bB)
    have NB := Lib.hid (NA.out.below bB)
    clear bB XA SA GA NA KA HCK
    go_wp2_with (refine wpList_load_row rfl 42 (.tmp 3) rfl w.heap.size rfl 42 ca (0, 0) _ XB.out.a Tryd.underlying42 rfl HIA.out ?_)
    (with_reducible refine (HWA.out _).mono ?_)
    rintro e wC ⟨va2, rfl, rC, bC⟩
    have HGA2 := Lib.hid (HGA.out _ _ rC)
    have XC := Lib.hid (XB.out.next bC)
    have GC := Lib.hid (GB.out.below bC)
    have NC := Lib.hid (NB.out.below bC)
    clear bC rC XB GB NB HGA HWA
    go_wp2_with fail
    (with_reducible refine HGA2.out.mono ?_)
    rintro e wD ⟨rfl, bD⟩
    have bD2 := bD.trans ((below_alloc wD (.cells #[.int .i64 x1, .int .i64 x2, .int .i64 x3, .int .i64 x4, .int .i64 x5, .int .i64 x6, .int .i64 x7, .int .u64 x8] 26)).mono bD.size)
    have XD := Lib.hid (XC.out.next bD2)
    have GD := Lib.hid (GC.out.below bD2)
    have ND := Lib.hid (NC.out.below bD2)
    clear bD bD2 XC GC NC HGA2
    go_wp2_with (refine wpList_load_row rfl 42 (.tmp 4) rfl (w.heap.size + 1) rfl 42 cb (0, 0) _ XD.out.b Tryd.underlying42 rfl HIB.out ?_)
    (with_reducible refine (HWB.out _).mono ?_)
    rintro e wE ⟨vb2, rfl, rE, bE⟩
    have HGB2 := Lib.hid (HGB.out _ _ rE)
    have XE := Lib.hid (XD.out.next bE)
    have GE := Lib.hid (GD.out.below bE)
    have NE := Lib.hid (ND.out.below bE)
    clear bE rE XD GD ND HGB HWB
    go_wp2_with fail
    (with_reducible refine HGB2.out.mono ?_)
    rintro e wF ⟨rfl, bF⟩
    have bF2 := bF.trans ((below_alloc wF (.cells #[.int .i64 y1, .int .i64 y2, .int .i64 y3, .int .i64 y4, .int .i64 y5, .int .i64 y6, .int .i64 y7, .int .u64 y8] 26)).mono bF.size)
    have XF := Lib.hid (XE.out.next bF2)
    have GF := Lib.hid (GE.out.below bF2)
    have NF := Lib.hid (NE.out.below bF2)
    clear bF bF2 XE GE NE HGB2
    have k0 := GF.out.cell (i := 0) rfl; have k1 := GF.out.cell (i := 1) rfl; have k2 := GF.out.cell (i := 2) rfl; have k3 := GF.out.cell (i := 3) rfl
    have k4 := GF.out.cell (i := 4) rfl; have k5 := GF.out.cell (i := 5) rfl; have k6 := GF.out.cell (i := 6) rfl; have k7 := GF.out.cell (i := 7) rfl
    have n0 := NF.out.cell (i := 0) rfl; have n1 := NF.out.cell (i := 1) rfl; have n2 := NF.out.cell (i := 2) rfl; have n3 := NF.out.cell (i := 3) rfl
    have n4 := NF.out.cell (i := 4) rfl; have n5 := NF.out.cell (i := 5) rfl; have n6 := NF.out.cell (i := 6) rfl; have n7 := NF.out.cell (i := 7) rfl
    rcases HE.out with ⟨h1, h2, h3⟩ | ⟨h1, h2⟩
    · subst h1 h2
      simp only [Sup.zero] at h3
      obtain ⟨rfl, rfl, rfl, rfl, rfl, rfl, rfl, rfl⟩ : r1 = 0 ∧ r2 = 0 ∧ r3 = 0 ∧ r4 = 0 ∧ r5 = 0 ∧ r6 = 0 ∧ r7 = 0 ∧ r8 = 0 := by simpa using h3
      clear h3 HE HSM
      cases ga <;> cases gb <;> obtain rfl := HEA.out <;> obtain rfl := HEB.out
      all_goals go_wp2_with fail
      all_goals go_ret
      all_goals exact ⟨rfl, XF.out.bel⟩
    · have hrc : ¬ rc < 0 := by omega
      subst h2
      cases ga <;> cases gb <;> obtain rfl := HEA.out <;> obtain rfl := HEB.out
      all_goals go_wp2_with fail
      all_goals (with_reducible refine (HSM.out _).mono ?_)
      all_goals rintro e wG ⟨rfl, bG⟩
      all_goals have BG := Lib.hid (XF.out.next bG).bel
      all_goals clear bG
      all_goals go_wp2_with fail
      all_goals go_ret
      all_goals exact ⟨rfl, BG.out⟩
end
end Go.Proofs.YtbpaamnofkhonaaDoor
