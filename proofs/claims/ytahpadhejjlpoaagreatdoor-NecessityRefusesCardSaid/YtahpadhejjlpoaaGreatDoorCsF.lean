/- The walks of crashset's image and At. -/
import Derived.Test.YtahpadhejjlpoaaGreatDoorCsD
import Derived.Test.YtahpadhejjlpoaaGreatDoorCsE
import Derived.Laws.CopyRow
import Derived.Laws.CopyOwn
namespace Go.Proofs.YtahpadhejjlpoaaGreatDoor
open Go.RowKit
attribute [local go_sem ↓] Go.wp_at_zero Go.wp_at_succ

/-- The bytes of words, and behind them k bytes of a store. -/
def mixB (F : Nat → Int) (off : Nat) (x : Int) (k i : Nat) : Int := if off ≤ i ∧ i < off + k then x / 2 ^ ((i - off) * 8) % 256 else byteAt F i
theorem mixB_zero (F : Nat → Int) (off : Nat) (x : Int) (i : Nat) : mixB F off x 0 i = byteAt F i := by
  unfold mixB
  rw [if_neg (by omega)]
theorem mixB_step (F : Nat → Int) (off : Nat) (x : Int) (k i : Nat) : (if i = off + k then x / 2 ^ (k * 8) % 256 else mixB F off x k i) = mixB F off x (k + 1) i := by
  unfold mixB
  by_cases e : i = off + k
  · rw [if_pos e, if_pos (by omega), e, Nat.add_sub_cancel_left]
  · rw [if_neg e]
    by_cases h : off ≤ i ∧ i < off + k
    · rw [if_pos h, if_pos (by omega)]
    · rw [if_neg h, if_neg (by omega)]
theorem mixB_full (l : List (Nat × Int)) (e : Nat × Int) (F : Nat → Int) (h : e.1 % 8 = 0) (i : Nat) : mixB (applied l F) e.1 e.2 8 i = byteAt (applied (l ++ [e]) F) i := by
  unfold mixB byteAt applied
  rw [look_snoc]
  by_cases h1 : e.1 ≤ i ∧ i < e.1 + 8
  · rw [if_pos h1, if_pos (by omega), show i % 8 = i - e.1 by omega]
  · rw [if_neg h1, if_neg (by omega)]
theorem sizeU8r : (Tryz.prog.info? 5).map (·.size) = some 1 := by kernel_rfl
/-- A copy of a row of bytes onto another one. -/
theorem copy_row8 {wx : World} {g pg N : Nat} {cur : Array Value} {B : Nat → Int} (hg : Blk wx g cur 5) (hz : cur.size = N) (hr : Row wx pg N 5 (fun i => .int .u8 (B i))) :
    ∃ wy, (∀ ty, (Builtin.copy_ #[26, 26] ty #[.slice (some ⟨g, 0, none⟩) N N, .slice (some ⟨pg, 0, none⟩) N N]).run Tryz.prog wx = .ok (goInt (N : Nat)) wy) ∧
      Row wy g N 5 (fun i => .int .u8 (B i)) ∧ Upd (· = g) wx wy := by
  have hl : ((List.range N).map fun i => Value.int .u8 (B i)).length = N := by simp
  have hr2 := fun ty => run_copy_row (P := Tryz.prog) wx 26 26 ty 5 g 0 N N ⟨pg, 0, none⟩ N N cur 5 ((List.range N).map fun i => Value.int .u8 (B i)) Tryz.underlying26 sizeU8r hg (by rw [hl]; exact (Nat.min_self N).symm)
    (fun j u hj => by
      have hj2 : j < N := by rw [← hl]; exact (List.getElem?_eq_some_iff.1 hj).1
      rw [List.getElem?_map, List.getElem?_range hj2] at hj
      cases hj
      rw [Addr.add_lit, Nat.zero_add]
      exact hr.cell hj2) (by rw [hl]; omega) (fun u hu => by
      obtain ⟨j, _, rfl⟩ := List.mem_map.1 hu
      rfl)
  refine ⟨_, fun ty => by rw [hr2 ty, hl], ⟨_, setRow_heap wx g cur _ 5 (0, 0) hg, fun i hi => ?_⟩, ⟨rfl, rfl, rfl, by simp [World.setRow], fun k _ hk => setRow_other _ _ _ _ hk⟩⟩
  rw [List.take_zero, List.nil_append, List.getElem?_toArray, List.getElem?_append_left (by rw [hl]; exact hi), List.getElem?_map, List.getElem?_range hi]
  rfl
section
variable {w : World} {v : DV} {own : Nat → Option Role} {D : Dev} {pg : Nat} {lv hv : Value} {hs : List Value}
set_option maxRecDepth 100000 in
set_option maxHeartbeats 8000000 in
theorem csImage_any (h : ExAt D pg lv hv hs w) (hw : D.WF) (hvb : D.VB) (hq : ∀ l ∈ D.dirtyL, (D.hist l).length ≤ 1000000000) (kb : Nat) (f : Nat → Nat) (hf : Row w kb D.dirtyL.length 3 (fun i => .int .i64 (f i))) (hfb : ∀ (i b : Nat), (basesL D)[i]? = some b → f i < b) :
    Calls Tryz.prog 104 #[.agg #[.slice (some ⟨pg, 0, none⟩) (64 * D.n) (64 * D.n), lv, hv], .slice (some ⟨kb, 0, none⟩) D.dirtyL.length D.dirtyL.length] w fun r w' => ∃ (ks : Nat → Nat) (s : ByteArray), ((∀ l, ks l ≤ (D.hist l).length) ∧ ∀ (i l : Nat), D.dirtyL[i]? = some l → ks l = f i) ∧ r = .returned (.agg #[.string s]) ∧ ImgS s D.n (D.img ks) ∧ Below w.heap.size w w' := by
  have hn := hw.le; have hn0 := hw.pos
  have HW := Lib.hid hw; have HVB := Lib.hid hvb; have HQ := Lib.hid hq; have HFB := Lib.hid hfb
  have HND : Hid (D.dirtyL.Nodup ∧ ∀ l ∈ D.dirtyL, l < D.n) := Lib.hid ⟨List.Nodup.sublist List.filter_sublist List.nodup_range, fun l hl => by
    have := (List.mem_filter.1 hl).1; simpa using this⟩
  have HBA := Lib.hid (bases_at D)
  have hdl : D.dirtyL.length ≤ D.n := by unfold Dev.dirtyL; exact filt_len D D.n
  have H := Lib.hid h; have HF := Lib.hid hf
  have hh := h.hist
  have hl := h.lines
  obtain ⟨m, hmm⟩ : ∃ m, D.dirtyL.length = m := ⟨_, rfl⟩
  have HM := Lib.hid hmm
  rw [hmm] at hdl hh hl HF ⊢
  obtain ⟨_, ha, hc, rfl, hmc, _⟩ := hh
  obtain ⟨_, la, lc, rfl, _, _⟩ := hl
  obtain ⟨N, hN⟩ : ∃ N, 64 * D.n = N := ⟨_, rfl⟩
  have HN := Lib.hid hN
  rw [hN]
  have hNb : N ≤ 262144 := by omega
  have hmk := fun (wx : World) => mkBytes wx N (by omega)
  have HNEW := Lib.hid (fun (wx : World) (g : Nat) (F : Nat → Int) (hr : Row wx g (64 * D.n) 5 (fun i => .int .u8 (byteAt F i))) => imNew_any (w := wx) hr hn)
  rw [hN] at HNEW
  have K2 : Hid (Blk (((w.alloc (.cells #[.slice (some ⟨pg, 0, none⟩) N N, .slice la m lc, .slice ha m hc] 78)).alloc (.cells #[.string ⟨#[]⟩] 71)).alloc (.cells (madeCells #[.int .u8 0] N) 5)) w.heap.size #[.slice (some ⟨pg, 0, none⟩) N N, .slice la m lc, .slice ha m hc] 78) := ((Blk.new w _ _).alloc _).alloc _
  have K4 : Hid (Blk (((w.alloc (.cells #[.slice (some ⟨pg, 0, none⟩) N N, .slice la m lc, .slice ha m hc] 78)).alloc (.cells #[.string ⟨#[]⟩] 71)).alloc (.cells (madeCells #[.int .u8 0] N) 5)) (w.heap.size + 1) #[.string ⟨#[]⟩] 71) := by
    have := (Blk.new (w.alloc (.cells #[.slice (some ⟨pg, 0, none⟩) N N, .slice la m lc, .slice ha m hc] 78)) #[.string ⟨#[]⟩] 71).alloc (.cells (madeCells #[.int .u8 0] N) 5)
    rw [World.size_alloc] at this
    exact this
  have B3 : Hid (Below w.heap.size w (((w.alloc (.cells #[.slice (some ⟨pg, 0, none⟩) N N, .slice la m lc, .slice ha m hc] 78)).alloc (.cells #[.string ⟨#[]⟩] 71)).alloc (.cells (madeCells #[.int .u8 0] N) 5))) := (below_twice w _ _).trans ((below_alloc _ _).mono (by simp; omega))
  have hgz : Blk (((w.alloc (.cells #[.slice (some ⟨pg, 0, none⟩) N N, .slice la m lc, .slice ha m hc] 78)).alloc (.cells #[.string ⟨#[]⟩] 71)).alloc (.cells (madeCells #[.int .u8 0] N) 5)) (w.heap.size + 1 + 1) (madeCells #[.int .u8 0] N) 5 := by
    have := Blk.new ((w.alloc (.cells #[.slice (some ⟨pg, 0, none⟩) N N, .slice la m lc, .slice ha m hc] 78)).alloc (.cells #[.string ⟨#[]⟩] 71)) (madeCells #[.int .u8 0] N) 5
    simp only [World.size_alloc] at this
    exact this
  have hpr : Row (((w.alloc (.cells #[.slice (some ⟨pg, 0, none⟩) N N, .slice la m lc, .slice ha m hc] 78)).alloc (.cells #[.string ⟨#[]⟩] 71)).alloc (.cells (madeCells #[.int .u8 0] N) 5)) pg N 5 (fun i => .int .u8 (byteAt D.pers i)) := by
    have := h.pers.below B3.out
    rwa [hN] at this
  obtain ⟨wb, hcp, hrow, hup⟩ := copy_row8 hgz (by simp [madeCells]) hpr
  have KB := Lib.hid (K2.out.upd hup (fun e => by have e' : w.heap.size = w.heap.size + 1 + 1 := e; omega))
  have KI := Lib.hid (K4.out.upd hup (fun e => by have e' : w.heap.size + 1 = w.heap.size + 1 + 1 := e; omega))
  have BW : Hid (Below w.heap.size w wb) := B3.out.trans ⟨hup.os, hup.tape, hup.output, hup.size, fun k hk => hup.block k (by have := B3.out.size; omega) (fun e => by have e' : k = w.heap.size + 1 + 1 := e; omega)⟩
  have RW := Lib.hid hrow
  have cb2 := KB.out.cell (i := 2) (v := .slice ha m hc) rfl
  have hglt : w.heap.size + 1 + 1 < wb.heap.size := hrow.lt
  clear h hw hvb hq hfb hf hmm hN hgz hpr hrow hup K2 K4
  go_enter Tryz.func104, Tryz.ntmps104
  go_wp2_with fail
  clear hcp
  obtain ⟨g, hg⟩ : ∃ g, w.heap.size + 1 + 1 = g := ⟨_, rfl⟩
  rw [hg] at RW hglt ⊢
  have S0 : Hid (∃ ks : Nat → Nat, (∀ l, ks l ≤ (D.hist l).length) ∧ (∀ l, l ∉ D.dirtyL.take 0 → ks l = 0) ∧ (∀ (i l : Nat), i < 0 → D.dirtyL[i]? = some l → ks l = f i) ∧ Row wb g N 5 (fun i => .int .u8 (byteAt (D.img ks) i)) ∧ Upd (· = g) wb wb) := ⟨fun _ => 0, fun _ => Nat.zero_le _, fun _ _ => rfl, fun i l hi => absurd hi (Nat.not_lt_zero i), RW.out.congr (fun i _ => by
    have e : D.img (fun _ => 0) = D.pers := by funext i; simp [Dev.img, look]
    rw [e]), Upd.refl _ _⟩
  clear hmk RW
  go_loopw [6, 7, 9, 10, 24] (fun _ _ _ _ y wr => ∃ k : Nat, k ≤ m ∧ y = .int .i64 k ∧ ∃ ks : Nat → Nat, (∀ l, ks l ≤ (D.hist l).length) ∧ (∀ l, l ∉ D.dirtyL.take k → ks l = 0) ∧ (∀ (i l : Nat), i < k → D.dirtyL[i]? = some l → ks l = f i) ∧ Row wr g N 5 (fun i => .int .u8 (byteAt (D.img ks) i)) ∧ Upd (· = g) wb wr) (fun _ _ _ _ y _ => m - (intOf y).toNat)
  case atStart => exact ⟨0, by omega, rfl, S0.out⟩
  case round =>
    clear S0
    obtain ⟨k, hk, rfl, ks, k1, k2, k5, k3, k4⟩ := hrel
    rename World => wr
    have KS := Lib.hid (And.intro k1 (And.intro k2 k5)); have R := Lib.hid k3; have U := Lib.hid k4
    clear k1 k2 k3 k4 k5
    have BR : Hid (Below w.heap.size w wr) := BW.out.trans ⟨U.out.os, U.out.tape, U.out.output, U.out.size, fun j hj => U.out.block j (by have := BW.out.size; omega) (fun e => by have e' : j = g := e; omega)⟩
    by_cases hlt : k < m
    · have hlt' : (k : Int) < m := by omega
      obtain ⟨l, hl⟩ : ∃ l, D.dirtyL[k]? = some l := ⟨_, List.getElem?_eq_getElem (by rw [HM.out]; exact hlt)⟩
      have hln := HND.out.2 l (List.mem_of_getElem? hl)
      have hq1 := HQ.out l (List.mem_of_getElem? hl)
      have hfk := HFB.out k _ (HBA.out k l hl).2
      obtain ⟨u, r1, r2⟩ := H.out.row k l hl
      have hhb := H.out.hist.below BR.out
      rw [HM.out] at hhb
      obtain ⟨_, _, _, e', _, hE⟩ := hhb
      cases e'
      obtain ⟨hb, ho, rfl, hE2⟩ := rd_at hE r1
      have c1 := hE2 k _ r1
      obtain ⟨ua, uc, rfl⟩ : ∃ ua uc, u = .slice ua (D.hist l).length uc := by obtain ⟨_, a, c, e, _, _⟩ := r2; exact ⟨a, c, e⟩
      have R2 := Lib.hid r2
      have hrcap : (D.hist l).length ≤ uc := by obtain ⟨_, _, _, e, hc, _⟩ := r2; cases e; exact hc
      have c2 := (HF.out.below BR.out).cell (i := k) hlt
      obtain ⟨q, hqq⟩ : ∃ q, f k = q := ⟨_, rfl⟩
      have HQQ := Lib.hid hqq
      rw [hqq] at c2 hfk
      obtain ⟨hL, hhL⟩ : ∃ hL, (D.hist l).length = hL := ⟨_, rfl⟩
      have HHL := Lib.hid hhL
      have HLN := Lib.hid (And.intro hl hln)
      rw [hhL] at hq1 hfk c1 hrcap
      have hqc : (q : Int) ≤ uc := by omega
      have hqc0 : (0 : Int) ≤ q := by omega
      clear hE hE2 r1 r2 hl hqq hhL
      have M0 : Hid (Row wr g N 5 (fun i => .int .u8 (byteAt (applied ((D.hist l).take 0) (D.img ks)) i)) ∧ Upd (· = g) wb wr) := ⟨R.out, U.out⟩
      go_wp2_with fail
      go_loopw [9, 10, 36] (fun _ _ y wq => ∃ j : Nat, j ≤ q ∧ y = .int .i64 j ∧ Row wq g N 5 (fun i => .int .u8 (byteAt (applied ((D.hist l).take j) (D.img ks)) i)) ∧ Upd (· = g) wb wq) (fun _ _ y _ => q - (intOf y).toNat)
      case atStart => exact ⟨0, by omega, rfl, M0.out⟩
      case round =>
        clear M0 R U BR c1 c2
        obtain ⟨j, hj, rfl, m1, m2⟩ := hrel
        rename World => wq
        have R := Lib.hid m1; have U := Lib.hid m2
        clear m1 m2
        have BQ : Hid (Below w.heap.size w wq) := BW.out.trans ⟨U.out.os, U.out.tape, U.out.output, U.out.size, fun j hj => U.out.block j (by have := BW.out.size; omega) (fun e => by have e' : j = g := e; omega)⟩
        by_cases hjq : j < q
        · have hjq' : (j : Int) < q := by omega
          obtain ⟨e, he⟩ : ∃ e, (D.hist l)[j]? = some e := ⟨_, List.getElem?_eq_getElem (by rw [HHL.out]; omega)⟩
          have hmem := List.mem_of_getElem? he
          obtain ⟨el, ea⟩ := HW.out.line l HLN.out.2 e hmem
          have ev := HVB.out.hist l e hmem
          have hfg := flat_get (D.hist l) j e he
          have hrd := R2.out.below BQ.out
          obtain ⟨_, _, _, e', _, hE⟩ := hrd
          cases e'
          obtain ⟨sb, so, rfl, hE2⟩ := rd_at hE hfg.1
          have c1 := hE2 _ _ hfg.1; have c2 := hE2 _ _ hfg.2
          rw [← Nat.add_assoc] at c2
          rw [Nat.mul_comm 2 j] at c1 c2
          have HT : Hid ((D.hist l).take (j + 1) = (D.hist l).take j ++ [e]) := by show _ = _; rw [List.take_add_one, he]; rfl
          have hln := HLN.out.2
          have hNN := HN.out
          have hoff : e.1 + 8 ≤ N := by omega
          obtain ⟨e1, e2⟩ := e
          simp only at c1 c2 hoff ea ev
          obtain ⟨F, hF⟩ : ∃ F, applied ((D.hist l).take j) (D.img ks) = F := ⟨_, rfl⟩
          have HFm : Hid (∀ i, mixB F e1 e2 8 i = byteAt (applied ((D.hist l).take (j + 1)) (D.img ks)) i) := fun i => by
            rw [HT.out, ← hF]
            exact mixB_full _ (e1, e2) _ ea i
          rw [hF] at R
          have hgq : g < wq.heap.size := R.out.lt
          have Z0 : Hid (Row (wq.alloc (.cells #[.int .u64 e1, .int .u64 e2] 152)) g N 5 (fun i => .int .u8 (mixB F e1 e2 0 i)) ∧ Upd (· = g) (wq.alloc (.cells #[.int .u64 e1, .int .u64 e2] 152)) (wq.alloc (.cells #[.int .u64 e1, .int .u64 e2] 152))) :=
            ⟨(R.out.alloc _).congr (fun i _ => by rw [mixB_zero]), Upd.refl _ _⟩
          have XB := Lib.hid (Blk.new wq #[.int .u64 e1, .int .u64 e2] 152)
          clear hE hE2 he hmem hfg hF HT R el ea hNN hln
          go_wp2_with fail
          go_loopw [10, 40] (fun _ y wz => ∃ b : Nat, b ≤ 8 ∧ y = .int .i64 b ∧ Row wz g N 5 (fun i => .int .u8 (mixB F e1 e2 b i)) ∧ Upd (· = g) (wq.alloc (.cells #[.int .u64 e1, .int .u64 e2] 152)) wz) (fun _ y _ => 8 - (intOf y).toNat)
          case atStart => exact ⟨0, by omega, rfl, Z0.out⟩
          case round =>
            clear Z0 c1 c2
            obtain ⟨b, hb, rfl, m1, m2⟩ := hrel
            rename World => wz
            have R := Lib.hid m1; have UZ := Lib.hid m2
            clear m1 m2
            by_cases hb8 : b < 8
            · have hb8' : (b : Int) < 8 := by omega
              have XZ := Lib.hid (XB.out.upd UZ.out (fun e => by have e' : wq.heap.size = g := e; omega))
              have d0 := XZ.out.cell (i := 0) (v := .int .u64 e1) rfl
              have d1 := XZ.out.cell (i := 1) (v := .int .u64 e2) rfl
              have d2 := R.out.cell (i := e1 + b) (by omega)
              have d3 := R.out.frozen (e1 + b)
              have g1 : IntKind.i64.wrap (e1 : Int) = (e1 : Int) := IntWalk.i64_in _ (by omega)
              have g2 : IntKind.i64.wrap ((e1 : Int) + (b : Int)) = ((e1 + b : Nat) : Int) := by rw [IntWalk.i64_in _ (by omega)]; omega
              have g3 : IntKind.i64.wrap (8 * (b : Int)) = ((8 * b : Nat) : Int) := by rw [IntWalk.i64_in _ (by omega)]; omega
              have g4 : IntKind.u64.wrap ((8 * b : Nat) : Int) = ((8 * b : Nat) : Int) := IntWalk.u64_in _ (by omega)
              have hgz : g < wz.heap.size := R.out.lt
              go_wp2_with fail
              refine ⟨⟨b + 1, by omega, by go_num, (R.out.set (e1 + b) _).congr (fun i _ => ?_), UZ.out.setCell (fun _ => rfl) _⟩, by simp [intOf]; omega⟩
              rw [← mixB_step, Nat.mul_comm b 8]
              split <;> rfl
            · obtain rfl : b = 8 := by omega
              rw [show ((8 : Nat) : Int) = 8 from rfl]
              have R3 : Hid (Row wz g N 5 (fun i => .int .u8 (byteAt (applied ((D.hist l).take (j + 1)) (D.img ks)) i))) := R.out.congr (fun i _ => by rw [HFm.out])
              have U3 : Hid (Upd (· = g) wb wz) := (U.out.alloc _).trans UZ.out (fun _ _ h => h)
              go_wp2_with fail
              go_roundw
              case rel => exact ⟨j + 1, by omega, by go_num, R3.out, U3.out⟩
              case measure => simp [intOf]; omega
        · obtain rfl : j = q := by omega
          have I2 : Hid (∃ ks : Nat → Nat, (∀ l, ks l ≤ (D.hist l).length) ∧ (∀ l, l ∉ D.dirtyL.take (k + 1) → ks l = 0) ∧ (∀ (i l : Nat), i < k + 1 → D.dirtyL[i]? = some l → ks l = f i) ∧ Row wq g N 5 (fun i => .int .u8 (byteAt (D.img ks) i)) ∧ Upd (· = g) wb wq) := by
            have hlt2 : l ∉ D.dirtyL.take k := fun hm => by
              obtain ⟨i, hi, e⟩ := List.mem_iff_getElem.1 hm
              have hik : i < k := by simp at hi; omega
              obtain ⟨hkl, e2⟩ := List.getElem?_eq_some_iff.1 HLN.out.1
              have e3 : D.dirtyL[i]'(by omega) = D.dirtyL[k] := by rw [e2, ← e]; simp
              exact List.pairwise_iff_getElem.1 HND.out.1 i k (by omega) hkl hik e3
            have ht : D.dirtyL.take (k + 1) = D.dirtyL.take k ++ [l] := by rw [List.take_add_one, HLN.out.1]; rfl
            refine ⟨fun m => if m = l then j else ks m, fun m => ?_, fun m hm => ?_, fun i m hi hm => ?_, R.out.congr (fun i _ => by
              rw [show applied ((D.hist l).take j) (D.img ks) = D.img (fun m => if m = l then j else ks m) from funext fun i => img_step D HW.out ks l j HLN.out.2 (KS.out.2.1 l hlt2) i]), U.out⟩
            · by_cases e : m = l
              · simp only [if_pos e]; rw [e, HHL.out]; omega
              · simp only [if_neg e]; exact KS.out.1 m
            · rw [ht] at hm
              have e : m ≠ l := fun e => hm (by simp [e])
              simp only [if_neg e]
              exact KS.out.2.1 m (fun h => hm (by simp [h]))
            · by_cases e : m = l
              · simp only [if_pos e]
                have hik : i = k := by
                  obtain ⟨a1, a2⟩ := List.getElem?_eq_some_iff.1 hm
                  obtain ⟨b1, b2⟩ := List.getElem?_eq_some_iff.1 HLN.out.1
                  exact (List.getElem_inj HND.out.1).1 (a2.trans (e.trans b2.symm))
                rw [hik]; exact HQQ.out.symm
              · simp only [if_neg e]
                refine KS.out.2.2 i m ?_ hm
                have : i ≠ k := fun h => by
                  rw [h, HLN.out.1] at hm
                  exact e (Option.some.inj hm).symm
                omega
          go_wp2_with fail
          go_roundw
          case rel => exact ⟨k + 1, by omega, by go_num, I2.out⟩
          case measure => simp [intOf]; omega
    · obtain rfl : k = m := by omega
      have KIR := Lib.hid (KI.out.upd U.out (fun e => by have e' : w.heap.size + 1 = g := e; omega))
      have c4 := KIR.out.cell (i := 0) (v := .string ⟨#[]⟩) rfl
      have f4 := KIR.out.frozen 0
      have hil := KIR.out.lt
      have HN2 := Lib.hid (HNEW.out wr g _ R.out)
      go_wp2_with fail
      (with_reducible refine HN2.out.mono ?_)
      rintro r w2 ⟨s, rfl, s1, s2⟩
      have S := Lib.hid s1
      have B2 := Lib.hid (BR.out.trans (s2.mono BR.out.size))
      have KI2 := Lib.hid (KIR.out.below s2)
      have c5 := KI2.out.cell (i := 0) (v := .string ⟨#[]⟩) rfl
      have f5 := KI2.out.frozen 0
      have hil2 := KI2.out.lt
      clear s1 s2 c4 f4
      go_wp2_with fail
      have KI3 : Blk ((w2.setCell ⟨w.heap.size + 1, 0, none⟩ (.string s)).alloc (.cells #[.string s] 71)) (w.heap.size + 1) #[.string s] 71 := (KI2.out.set 0 (.string s)).alloc _
      have d0 := KI3.cell (i := 0) (v := .string s) rfl
      refine bodyPost_ret (v := .agg #[.string s]) (by simp [results, Tryz.results104, go_sem, d0]) rfl ⟨ks, s, ⟨KS.out.1, fun i l hl => KS.out.2.2 i l (by have := (List.getElem?_eq_some_iff.1 hl).1; rw [HM.out] at this; exact this) hl⟩, rfl, S.out, ?_⟩
      exact (B2.out.setCell (p := ⟨w.heap.size + 1, 0, none⟩) (by show w.heap.size ≤ w.heap.size + 1; omega) _).trans ((below_alloc _ _).mono (by simpa using B2.out.size))
/-- What At answers for a number below the count: the image of a crash. -/
def AtPostN (w : World) (D : Dev) (n : Nat) (r : Ending) (w' : World) : Prop := ∃ (ks : Nat → Nat) (s : ByteArray), ((∀ l, ks l ≤ (D.hist l).length) ∧ ∀ (i l : Nat), D.dirtyL[i]? = some l → ks l = digN (basesL D) n i) ∧ r = .returned (.tuple #[.agg #[.string s], .int .i64 0]) ∧ ImgS s D.n (D.img ks) ∧ Below w.heap.size w w'
set_option maxRecDepth 100000 in
set_option maxHeartbeats 4000000 in
theorem csAtN_any (h : IsDev w v own D) (hvb : D.VB) (hx : D.exec < 1000000000) (n : Nat) (hn : n < prodN (basesL D)) (hp : prodN (basesL D) ≤ 4611686018427387904) (hq : ∀ l ∈ D.dirtyL, (D.hist l).length ≤ 1000000000) :
    Calls Tryz.prog 26 #[.pointer (some ⟨v.db, 0, none⟩), .int .u64 n] w (AtPostN w D n) := by
  have hdl : D.dirtyL.length ≤ 1000000 := by
    have h1 : D.dirtyL.length ≤ D.n := by unfold Dev.dirtyL; exact filt_len D D.n
    have := h.wf.le
    omega
  have B0 := Lib.hid (below_alloc w (.cells #[.string ⟨#[]⟩] 71))
  have K0 := Lib.hid (Blk.new w #[.string ⟨#[]⟩] 71)
  have HE := Lib.hid (examine_any (h.below B0.out) hvb (by omega))
  have HSP := Lib.hid (fun (wx : World) (pg : Nat) (lv hv : Value) (hs : List Value) (hE : ExAt D pg lv hv hs wx) => splitN_any (N := 64 * D.n) hE n hn (by omega) hdl hq)
  have HIM := Lib.hid (fun (wx : World) (pg : Nat) (lv hv : Value) (hs : List Value) (hE : ExAt D pg lv hv hs wx) (kb : Nat) (f : Nat → Nat) (hf : Row wx kb D.dirtyL.length 3 (fun i => .int .i64 (f i))) (hfb : ∀ (i b : Nat), (basesL D)[i]? = some b → f i < b) => csImage_any hE h.wf hvb hq kb f hf hfb)
  obtain ⟨N, hN⟩ : ∃ N, 64 * D.n = N := ⟨_, rfl⟩
  obtain ⟨m, hm⟩ : ∃ m, D.dirtyL.length = m := ⟨_, rfl⟩
  rw [hN] at HE HSP HIM
  rw [hm] at HSP HIM
  clear h hvb hx hq hdl hn hp hN hm
  go_enter Tryz.func26, Tryz.ntmps26
  go_wp2_with fail
  (with_reducible refine HE.out.mono ?_)
  rintro r w1 ⟨pg, lv, hv, hs, rfl, hE, b1⟩
  obtain ⟨la, l1, lc, rfl⟩ : ∃ la l1 lc, lv = .slice la l1 lc := by obtain ⟨_, a, c, e, _, _⟩ := hE.lines; exact ⟨a, _, c, e⟩
  obtain ⟨ha, h1, hc, rfl⟩ : ∃ ha h1 hc, hv = .slice ha h1 hc := by obtain ⟨_, a, c, e, _, _⟩ := hE.hist; exact ⟨a, _, c, e⟩
  have E := Lib.hid hE
  have B1 := Lib.hid (B0.out.trans (b1.mono B0.out.size))
  have K1 := Lib.hid (K0.out.below b1)
  clear hE b1 HE B0 K0
  have b2 := below_alloc w1 (.cells #[.slice (some ⟨pg, 0, none⟩) N N, .slice la l1 lc, .slice ha h1 hc] 78)
  have X2 := Lib.hid (Blk.new w1 #[.slice (some ⟨pg, 0, none⟩) N N, .slice la l1 lc, .slice ha h1 hc] 78)
  have B2 := Lib.hid (B1.out.trans (b2.mono B1.out.size))
  have K2 := Lib.hid (K1.out.below b2)
  have HS2 := Lib.hid (HSP.out _ _ _ _ _ (E.out.next b2))
  have E2 := Lib.hid (E.out.next b2)
  have x0 := X2.out.cell (i := 0) rfl
  have x1 := X2.out.cell (i := 1) rfl
  have x2 := X2.out.cell (i := 2) rfl
  clear b2 HSP
  go_wp2_with fail
  (with_reducible refine HS2.out.mono ?_)
  rintro r w3 ⟨kb, f, rfl, f1, f2, f3, b3⟩
  have HDG : Hid (∀ (i b : Nat), (basesL D)[i]? = some b → f i = digN (basesL D) n i) := fun i b hb => (f2 i b hb).2
  replace f2 : ∀ (i b : Nat), (basesL D)[i]? = some b → f i < b := fun i b hb => (f2 i b hb).1
  have B3 := Lib.hid (B2.out.trans (b3.mono B2.out.size))
  have K3 := Lib.hid (K2.out.below b3)
  have X3 := Lib.hid (X2.out.below b3)
  have HI3 := Lib.hid (HIM.out _ _ _ _ _ (E2.out.next b3) kb f f1 f2)
  have x0 := X3.out.cell (i := 0) rfl
  have x1 := X3.out.cell (i := 1) rfl
  have x2 := X3.out.cell (i := 2) rfl
  clear f1 f2 f3 b3 HS2 HIM
  go_wp2_with fail
  (with_reducible refine HI3.out.mono ?_)
  rintro r w4 ⟨ks, s, k1, rfl, k2, b4⟩
  have B4 := Lib.hid (B3.out.trans (b4.mono B3.out.size))
  have K4 := Lib.hid (K3.out.below b4)
  have KS := Lib.hid (And.intro k1 k2); have k3 := k1.2
  have c4 := K4.out.cell (i := 0) (v := .string ⟨#[]⟩) rfl
  have f4 := K4.out.frozen 0
  have hl4 := K4.out.lt
  have KN : Hid (∀ (i l : Nat), D.dirtyL[i]? = some l → ks l = digN (basesL D) n i) := fun i l hl => by
    rw [k3 i l hl]
    exact HDG.out i _ (bases_at D i l hl).2
  clear k1 k2 k3 b4 HI3 x0 x1 x2
  go_wp2_with fail
  have d0 := (K4.out.set 0 (.string s)).cell (i := 0) (v := .string s) rfl
  refine bodyPost_ret (v := .tuple #[.agg #[.string s], .int .i64 0]) (by simp [results, Tryz.results26, go_sem, d0]) rfl ⟨ks, s, ⟨KS.out.1.1, KN.out⟩, rfl, KS.out.2, ?_⟩
  exact B4.out.setCell (p := ⟨w.heap.size, 0, none⟩) (Nat.le_refl _) _
/-- What At answers for a number below the count: the image of a crash. -/
def AtPost (w : World) (D : Dev) (r : Ending) (w' : World) : Prop := ∃ (ks : Nat → Nat) (s : ByteArray), (∀ l, ks l ≤ (D.hist l).length) ∧ r = .returned (.tuple #[.agg #[.string s], .int .i64 0]) ∧ ImgS s D.n (D.img ks) ∧ Below w.heap.size w w'
theorem csAt_any (h : IsDev w v own D) (hvb : D.VB) (hx : D.exec < 1000000000) (n : Nat) (hn : n < prodN (basesL D)) (hp : prodN (basesL D) ≤ 4611686018427387904) (hq : ∀ l ∈ D.dirtyL, (D.hist l).length ≤ 1000000000) :
    Calls Tryz.prog 26 #[.pointer (some ⟨v.db, 0, none⟩), .int .u64 n] w (AtPost w D) := by
  refine (csAtN_any h hvb hx n hn hp hq).mono ?_
  rintro r w' ⟨ks, s, h1, h2⟩
  exact ⟨ks, s, h1.1, h2⟩
end
end Go.Proofs.YtahpadhejjlpoaaGreatDoor
