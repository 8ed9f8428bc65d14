/- The walks of inconsistent and of Choice. -/
import Derived.Test.YtahpadhejjlpoaaGreatDoorNcB
import Derived.Test.YtahpadhejjlpoaaGreatDoorCsF
namespace Go.Proofs.YtahpadhejjlpoaaGreatDoor
open Go.RowKit Go.Maps
attribute [local go_sem ↓] Go.wp_at_zero Go.wp_at_succ

section
variable {w : World} {v : DV} {own : Nat → Option Role} {D : Dev} {n : Nat} {f : Nat → Int}
theorem fresh_vb (n : Nat) {f : Nat → Int} (hf : ∀ i, 0 ≤ f i ∧ f i < 18446744073709551616) : (Dev.fresh n f).VB := ⟨hf, fun i e he => by cases he⟩
theorem IsDev.words (h : IsDev w v own (Dev.fresh n f)) {g : Nat → Int} (hg : ∀ i, i < 8 * n → f i = g i) : IsDev w v own (Dev.fresh n g) :=
  ⟨⟨h.wf.pos, h.wf.le, h.wf.line, h.wf.cnt, h.wf.note, h.wf.left⟩, h.dev, h.pers.congr (fun i hi => by show Value.int .u64 (f i) = .int .u64 (g i); rw [hg i hi]), h.cur.congr (fun i hi => by
    have e1 : (Dev.fresh n f).cur i = f i := by simp [Dev.cur, Dev.fresh, look_nil]
    have e2 : (Dev.fresh n g).cur i = g i := by simp [Dev.cur, Dev.fresh, look_nil]
    rw [e1, e2, hg i hi]), h.lines, h.thr, h.notes, h.odb, h.opb, h.ocb, h.olb, h.otb, h.onb, h.lt, h.pcs⟩
/-- What inconsistent answers: too many images (9), the first that is not good, or none. -/
def InPost (D : Dev) (L : Nat) (e : Bool) (r : Ending) : Prop :=
  (L < prodN (basesL D) ∧ r = .returned (.tuple #[.int .u64 0, .bool false, .int .i64 9])) ∨
  (¬ L < prodN (basesL D) ∧ ∃ i, badO D e = some i ∧ i < prodN (basesL D) ∧ r = .returned (.tuple #[.int .u64 i, .bool true, .int .i64 0])) ∨
  (¬ L < prodN (basesL D) ∧ badO D e = none ∧ r = .returned (.tuple #[.int .u64 0, .bool false, .int .i64 0]))
theorem goodF_img {D : Dev} {i : Nat} {ks : Nat → Nat} (hn : 4 ≤ D.n) (h : ∀ j l : Nat, D.dirtyL[j]? = some l → ks l = digN (basesL D) i j) (e : Bool) : goodF (D.img ks) e = goodF (imgN D i) e :=
  goodF_congr (fun j hj => img_of h j (by omega)) e
set_option maxRecDepth 100000 in
set_option maxHeartbeats 8000000 in
theorem ncInc_any (h : IsDev w v own D) (hvb : D.VB) (hx : D.exec < 1000000) (hn4 : 4 ≤ D.n) (hp : prodN (basesL D) ≤ 1152921504606846976) (a : Option Addr) (m c : Nat) (e : Bool) (L : Nat) (hL : L ≤ 9223372036854775807) :
    Calls Tryz.prog 10 #[.iface 44 (.agg #[.slice a m c]), .pointer (some ⟨v.db, 0, none⟩), .bool e, .int .i64 L] w fun r w' => InPost D L e r ∧ Below w.heap.size w w' := by
  have hn := h.wf.le
  have hql : ∀ l ∈ D.dirtyL, (D.hist l).length ≤ 1000000000 := fun l hl => by
    have hln : l < D.n := by
      unfold Dev.dirtyL at hl
      have := (List.mem_filter.1 hl).1
      simpa using this
    have := h.wf.cnt l hln
    omega
  have HC := Lib.hid (count_any h hvb (by omega) (by omega) hql)
  have HAT := Lib.hid (fun (wx : World) (hb : Below w.heap.size w wx) (i : Nat) (hi : i < prodN (basesL D)) => csAtN_any (h.kept hb.size (fun k hk => hb.block k (h.lt k hk))) hvb (by omega) i hi (by omega) hql)
  have HDV := Lib.hid (fun (wx : World) (s : ByteArray) (ks : Nat → Nat) (hs : ImgS s D.n (D.img ks)) => imDevice_any (w := wx) hs h.wf.pos hn (fun i => hvb.img ks i))
  have hmg := meth_smGood (.slice a m c)
  have HGD := Lib.hid (fun (wx : World) (v2 : DV) (own2 : Nat → Option Role) (F : Nat → Int) (hF : ∀ i, 0 ≤ F i ∧ F i < 18446744073709551616) (hd : IsDev wx v2 own2 (Dev.fresh D.n F)) => smGood_any hd (fresh_vb D.n hF) (by show 3 ≤ D.n; omega) a m c e)
  have HGI := Lib.hid (fun (i : Nat) (ks : Nat → Nat) (hk : ∀ j l : Nat, D.dirtyL[j]? = some l → ks l = digN (basesL D) i j) => goodF_img hn4 hk e)
  have HIB := Lib.hid (fun ks i => hvb.img ks i)
  have HBA := Lib.hid (fun i h1 h2 h3 => badO_at (D := D) (e := e) (i := i) h1 h2 h3)
  have HBN := Lib.hid (fun h1 => badO_no (D := D) (e := e) h1)
  unfold InPost
  obtain ⟨P, hP⟩ : ∃ P, prodN (basesL D) = P := ⟨_, rfl⟩
  rw [hP] at HC HAT HBA HBN hp ⊢
  have gL : IntKind.u64.wrap (L : Int) = (L : Int) := IntWalk.u64_in _ (by omega)
  clear h hvb hql hP
  go_enter Tryz.func10, Tryz.ntmps10
  go_wp2_with fail
  (with_reducible refine HC.out.mono ?_)
  rintro r w1 ⟨rfl, b1⟩
  have B1 := Lib.hid b1
  clear b1 HC
  by_cases hLP : L < P
  · have hLP' : (L : Int) < (P : Int) := by omega
    go_wp2_with fail
    go_ret3
    exact ⟨.inl ⟨hLP, rfl⟩, B1.out⟩
  · have hLP' : ¬ (L : Int) < (P : Int) := by omega
    go_wp2_with fail
    go_loopw [31] (fun y wy => ∃ i : Nat, i ≤ P ∧ y = .int .u64 i ∧ Below w.heap.size w wy ∧ ∀ j, j < i → goodF (imgN D j) e = true) (fun y _ => P - (intOf y).toNat)
    case atStart => exact ⟨0, by omega, rfl, B1.out, fun j hj => absurd hj (Nat.not_lt_zero j)⟩
    case round =>
      obtain ⟨i, hi, rfl, hby, hgd⟩ := hrel
      rename World => wy
      have BY := Lib.hid hby; have GD := Lib.hid hgd
      clear hby hgd
      by_cases hiP : i < P
      · have hiP' : (i : Int) < (P : Int) := by omega
        have HAT1 := Lib.hid (HAT.out wy BY.out i hiP)
        go_wp2_with fail
        (with_reducible refine HAT1.out.mono ?_)
        rintro r w3 ⟨ks, s, k1, rfl, k2, b3⟩
        have K1 := Lib.hid k1.2; have K2 := Lib.hid k2
        have B3 := Lib.hid (BY.out.trans (b3.mono BY.out.size))
        clear k1 k2 b3 HAT1
        have HDV1 := Lib.hid (fun o => HDV.out (w3.alloc o) s ks K2.out)
        go_wp2_with fail
        (with_reducible refine (HDV1.out _).mono ?_)
        rintro r w4 ⟨v2, own2, rfl, ⟨F, hF, d2⟩, o2, b4⟩
        have D2 := Lib.hid (d2.words hF)
        have B4 := Lib.hid (B3.out.trans ((below_alloc w3 (.cells #[.string s] 71)).mono B3.out.size |>.trans (b4.mono (by simp; exact Nat.le_succ_of_le B3.out.size))))
        clear hF d2 o2 b4 HDV1
        have HGD1 := Lib.hid (HGD.out w4 v2 own2 (D.img ks) (fun i => HIB.out ks i) D2.out)
        have HGE := Lib.hid (HGI.out i ks K1.out)
        obtain ⟨gv, hgv⟩ : ∃ gv, goodF (imgN D i) e = gv := ⟨_, rfl⟩
        have HGV := Lib.hid hgv
        have HGE2 : Hid (goodF (Dev.fresh D.n (D.img ks)).pers e = gv) := Lib.hid (HGE.out.trans hgv)
        rw [HGE2.out] at HGD1
        clear hgv
        go_wp2_with fail
        (with_reducible refine HGD1.out.mono ?_)
        rintro r w5 ⟨rfl, b5⟩
        have B5 := Lib.hid (B4.out.trans (b5.mono B4.out.size))
        clear b5
        cases gv
        · have e1 := HBA.out i hiP HGV.out GD.out
          go_wp2_with fail
          go_ret3
          exact ⟨.inr (.inl ⟨hLP, i, e1, hiP, rfl⟩), B5.out⟩
        · go_wp2_with fail
          go_roundw
          case rel => exact ⟨i + 1, by omega, by go_num, B5.out, fun j hj => by
            rcases Nat.lt_or_ge j i with h1 | h1
            · exact GD.out j h1
            · obtain rfl : j = i := by omega
              exact HGV.out⟩
          case measure => simp [intOf]; omega
      · obtain rfl : i = P := by omega
        have hbn := HBN.out GD.out
        go_wp2_with fail
        go_ret3
        exact ⟨.inr (.inr ⟨hLP, hbn, rfl⟩), BY.out⟩
end
end Go.Proofs.YtahpadhejjlpoaaGreatDoor
