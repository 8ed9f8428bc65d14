/- The walks of the reference's bases, Count, Digits, At and Image. -/
import Derived.Test.YtoakngofgkkpnaaR3G
import Derived.Test.YtoakngofgkkpnaaDevK
import Derived.Test.YtoakngofgkkpnaaCsD
namespace Go.Proofs.Ytoakngofgkkpnaa
open Go.RowKit
attribute [local go_sem ↓] Go.wp_at_zero Go.wp_at_succ

def natsU (l : List Nat) : List Value := l.map fun (s : Nat) => Value.int .u64 s
section
variable {w : World} {D : Dev} {rb lb : Nat} {hv : Nat → Value} {nv : Value} {ns : List (Nat × Nat)}
theorem dirty_lt (D : Dev) {i l : Nat} (h : D.dirtyL[i]? = some l) : l < D.n := by
  have := List.mem_of_getElem? h
  unfold Dev.dirtyL at this
  have := (List.mem_filter.1 this).1
  simpa using this
theorem natsU_one (x : Int) : ∀ u ∈ (#[Value.int .u64 x] : Array Value).toList, u.oneCell' = true := by intro u hu; simp at hu; subst hu; rfl
set_option maxRecDepth 100000 in
set_option maxHeartbeats 4000000 in
theorem r5bases_any (h : R3 w D rb lb hv nv ns) (he : D.exec < 100000000) :
    Calls Try.prog 24 #[.pointer (some ⟨rb, 0, none⟩)] w fun r w' => ∃ sv, r = .returned sv ∧ Acc w w.heap.size w' 30 1 sv (basesL D).length (natsU (basesL D)) := by
  have hn := h.up.wf.le
  have hdl : D.dirtyL.length ≤ D.n := by unfold Dev.dirtyL; exact filt_len D D.n
  obtain ⟨i0, hi0, hz0, hz1, hz2⟩ := info_parts infoU64
  have I := Lib.hid (And.intro hi0 (And.intro hz0 (And.intro hz1 hz2))); clear hi0 hz0 hz1 hz2
  have HD := Lib.hid (r3Dirty_any (h.alloc (.cells #[] 30)))
  have H := Lib.hid h
  have HDL := Lib.hid (fun (i l : Nat) => dirty_lt D (i := i) (l := l))
  have HBA := Lib.hid (bases_at D)
  have HALL : Hid ((basesL D).take D.dirtyL.length = basesL D) := List.take_of_length_le (by rw [basesL_len]; exact Nat.le_refl _)
  have HTL : Hid (∀ k, ((basesL D).take k).length ≤ k) := fun k => List.length_take_le _ _
  have c0 : w.cell? ⟨rb, 0, none⟩ = some (.slice (some ⟨lb, 0, none⟩) D.n D.n) := h.dev.cell rfl
  have A0 := Lib.hid (acc_empty w 30 1)
  obtain ⟨m, hmm⟩ : ∃ m, D.dirtyL.length = m := ⟨_, rfl⟩
  have HM := Lib.hid hmm
  rw [hmm] at HD hdl HALL
  clear h hmm
  go_enter Try.func24, Try.ntmps24
  go_wp2_with fail
  (with_reducible refine HD.out.mono ?_)
  rintro r w1 ⟨dv, rfl, d1⟩
  obtain ⟨da, dc, hdv⟩ := d1.slice
  subst hdv
  have DA := Lib.hid d1
  have A1 : Hid (Pair w w.heap.size w1 30 1 (.slice (some ⟨w.heap.size, 0, none⟩) 0 0) ((basesL D).take 0).length (natsU ((basesL D).take 0)) 3 1 (.slice da m dc) m (natsI D.dirtyL)) := Pair.of A0.out d1
  have hwa : Hid (w.heap.size + 1 ≤ w1.heap.size) := by have := d1.bel.size; rw [World.size_alloc] at this; exact this
  have hdcap : m ≤ dc := by obtain ⟨_, _, _, e, hc, _⟩ := d1.rd; cases e; exact hc
  clear d1 HD A0
  go_wp2_with fail
  go_loopw [3, 10] (fun sv y wr => ∃ k : Nat, k ≤ m ∧ y = .int .i64 k ∧ Pair w w.heap.size wr 30 1 sv ((basesL D).take k).length (natsU ((basesL D).take k)) 3 1 (.slice da m dc) m (natsI D.dirtyL)) (fun _ y _ => m - (intOf y).toNat)
  case atStart => exact ⟨0, by omega, rfl, A1.out⟩
  case round =>
    clear A1
    obtain ⟨k, hk, rfl, ha⟩ := hrel
    rename World => wr
    obtain ⟨la, lc, hsv⟩ := ha.a.slice
    subst hsv
    have A := Lib.hid ha
    clear ha
    have R := Lib.hid (H.out.keep A.out.a.bel)
    by_cases hlt : k < m
    · have hlt' : (k : Int) < m := by omega
      obtain ⟨l, hl⟩ : ∃ l, D.dirtyL[k]? = some l := ⟨_, List.getElem?_eq_getElem (by rw [HM.out]; exact hlt)⟩
      have hln := HDL.out k l hl
      have hln' : (l : Int) < D.n := by omega
      obtain ⟨_, a', c', e', _, hE⟩ := A.out.b.rd
      cases e'
      have hxl : (natsI D.dirtyL)[k]? = some (.int .i64 l) := by simp [natsI, hl]
      obtain ⟨fb, fo, rfl, hE2⟩ := rd_at hE hxl
      have q1 := hE2 k _ hxl
      have y0 : wr.cell? ⟨rb, 0, none⟩ = some (.slice (some ⟨lb, 0, none⟩) D.n D.n) := R.out.dev.cell rfl
      obtain ⟨_, c8, _⟩ := R.out.at hln
      have hh1 := (H.out.hist l hln).1
      obtain ⟨ha, q, hc, hve, hqe⟩ : ∃ ha q hc, hv l = .slice ha q hc ∧ q = (D.hist l).length := by obtain ⟨_, a, c, e, _, _⟩ := hh1; exact ⟨a, _, c, e, rfl⟩
      rw [hve] at c8
      have hcn := H.out.up.wf.cnt l hln
      rw [← hqe] at hcn
      obtain ⟨hb1, hb2⟩ := HBA.out k l hl
      rw [← hqe] at hb1
      have HB1 := Lib.hid hb1
      have htl := HTL.out k
      have ga1 : IntKind.i64.wrap ((q : Int) + 1) = (q : Int) + 1 := IntWalk.i64_in _ (by omega)
      have ga2 : IntKind.u64.wrap ((q : Int) + 1) = (q : Int) + 1 := IntWalk.u64_in _ (by omega)
      have HNX : Hid (∀ v (wz : World), Pair w w.heap.size wz 30 1 v (((basesL D).take k).length + 1) (natsU ((basesL D).take k) ++ [.int .u64 ((q : Int) + 1)]) 3 1 (.slice (some ⟨fb, fo, none⟩) m dc) m (natsI D.dirtyL) → Pair w w.heap.size wz 30 1 v ((basesL D).take (k + 1)).length (natsU ((basesL D).take (k + 1))) 3 1 (.slice (some ⟨fb, fo, none⟩) m dc) m (natsI D.dirtyL)) := fun v wz hx => by
        rw [HB1.out]
        exact ⟨hx.a.congr (by simp) (by simp [natsU]), hx.b, hx.ne⟩
      clear hE hE2 hxl hl hh1 hve hqe hb1 hb2
      obtain ⟨bl, hbl⟩ : ∃ bl, (basesL D).take k = bl := ⟨_, rfl⟩
      rw [hbl] at A HNX htl ⊢
      clear hbl
      go_wp2_with (at_builtin; refine wpList_append_sl _ rfl _ _ 71 rfl 30 i0 _ 1 8 Try.underlying71 I.out.1 I.out.2.1 I.out.2.2.1 I.out.2.2.2 rfl (by decide) _ bl.length (natsU bl) rfl (by exact A.out.a.own.alloc _) _ 1 _ rfl (by exact RdSl.newAt _ _ _ 1 1 _ rfl rfl) (natsU_one _) (by unfold maxLen; omega) (by omega) ?_)
      intro v1 w3 o1 g1 b1 n1
      have A3 := Lib.hid (A.out.left (below_alloc _ _) o1 g1 b1 (by first | simp | omega))
      clear o1 g1 b1 n1
      go_wp2_with fail
      go_roundw
      case rel => exact ⟨k + 1, by omega, by go_num, HNX.out _ _ A3.out⟩
      case measure => simp [intOf]; omega
    · obtain rfl : k = m := by omega
      go_wp2_with fail
      go_ret
      exact ⟨_, rfl, A.out.a.congr (by rw [HALL.out]) (by rw [HALL.out])⟩
set_option maxRecDepth 100000 in
set_option maxHeartbeats 4000000 in
theorem r5Count_any (h : R3 w D rb lb hv nv ns) (he : D.exec < 100000000) (hp : prodN (basesL D) ≤ 4611686018427387904) :
    Calls Try.prog 17 #[.pointer (some ⟨rb, 0, none⟩)] w fun r w' => r = .returned (.tuple #[.int .u64 (prodN (basesL D) : Nat), .bool true]) ∧ Below w.heap.size w w' := by
  have HB := Lib.hid (r5bases_any h he)
  have hdl : D.dirtyL.length ≤ D.n := by unfold Dev.dirtyL; exact filt_len D D.n
  have hm : (basesL D).length ≤ 1000000 := by rw [basesL_len]; have := h.up.wf.le; omega
  have HLE := Lib.hid (fun k => prodN_le (basesL D) (basesL_pos D) k)
  have HP := Lib.hid hp
  have HPO := Lib.hid (basesL_pos D)
  have HS : Hid (∀ k b, (basesL D)[k]? = some b → prodN ((basesL D).take (k + 1)) = prodN ((basesL D).take k) * b) := fun k b hb => by rw [List.take_add_one, hb]; exact prodN_snoc _ _
  have HALL : Hid ((basesL D).take (basesL D).length = basesL D) := List.take_of_length_le (Nat.le_refl _)
  obtain ⟨m, hmm⟩ : ∃ m, (basesL D).length = m := ⟨_, rfl⟩
  have HM := Lib.hid hmm
  rw [hmm] at HB HALL hm
  clear h hmm hp hdl
  go_enter Try.func17, Try.ntmps17
  go_wp2_with fail
  (with_reducible refine HB.out.mono ?_)
  rintro r w1 ⟨dv, rfl, d1⟩
  obtain ⟨da, dc, hdv⟩ := d1.slice
  subst hdv
  have DA := Lib.hid d1
  have hdcap : m ≤ dc := by obtain ⟨_, _, _, e, hc, _⟩ := d1.rd; cases e; exact hc
  clear d1 HB
  go_wp2_with fail
  go_loop [4, 10] (fun z y => ∃ k : Nat, k ≤ m ∧ y = .int .i64 k ∧ z = .int .u64 (prodN ((basesL D).take k) : Nat)) (fun _ y => m - (intOf y).toNat)
  case atStart => exact ⟨0, by omega, rfl, rfl⟩
  case round =>
    obtain ⟨k, hk, rfl, rfl⟩ := hrel
    by_cases hlt : k < m
    · have hlt' : (k : Int) < m := by omega
      obtain ⟨b, hb⟩ : ∃ b, (basesL D)[k]? = some b := ⟨_, List.getElem?_eq_getElem (by rw [HM.out]; exact hlt)⟩
      have hbp := HPO.out b (List.mem_of_getElem? hb)
      obtain ⟨_, a', c', e', _, hE⟩ := DA.out.rd
      cases e'
      have hxl : (natsU (basesL D))[k]? = some (.int .u64 b) := by simp [natsU, hb]
      obtain ⟨fb, fo, rfl, hE2⟩ := rd_at hE hxl
      have q1 := hE2 k _ hxl
      have hsx := HS.out k b hb
      have hle := HLE.out (k + 1)
      have hle0 := HLE.out k
      have hp := HP.out
      rw [hsx] at hle
      have HNX := Lib.hid hsx
      obtain ⟨P, hP⟩ : ∃ P, prodN ((basesL D).take k) = P := ⟨_, rfl⟩
      rw [hP] at hle hle0 HNX ⊢
      have hPb : P * b ≤ 4611686018427387904 := by omega
      have hdiv : P ≤ 4611686018427387904 / b := (Nat.le_div_iff_mul_le hbp).2 hPb
      obtain ⟨t, ht⟩ : ∃ t, 4611686018427387904 / b = t := ⟨_, rfl⟩
      rw [ht] at hdiv
      have ge1 : (4611686018427387904 : Int) / (b : Int) = (t : Int) := by rw [← ht]; simp
      have ge2 : (4611686018427387904 : Int).tdiv (b : Int) = (t : Int) := by rw [Int.tdiv_eq_ediv_of_nonneg (by omega)]; exact ge1
      have ge3 : ¬ (b : Int) = 0 := by omega
      have htb : t ≤ 4611686018427387904 := by rw [← ht]; exact Nat.div_le_self _ _
      have ge4 : IntKind.u64.wrap (t : Int) = (t : Int) := IntWalk.u64_in _ (by omega)
      have ge5 : ¬ (t : Int) < (P : Int) := by omega
      obtain ⟨X, hX⟩ : ∃ X, P * b = X := ⟨_, rfl⟩
      have ge6 : (P : Int) * (b : Int) = (X : Int) := by rw [← hX]; simp
      have ge7 : IntKind.u64.wrap (X : Int) = (X : Int) := IntWalk.u64_in _ (by omega)
      rw [hX] at HNX
      clear hE hE2 hxl hsx hle hle0 hp hPb hdiv ht hX hP hb
      go_wp2_with fail
      go_round
      case rel => exact ⟨k + 1, by omega, by go_num, by rw [HNX.out]⟩
      case measure => simp [intOf]; omega
    · obtain rfl : k = m := by omega
      go_wp2_with fail
      go_ret2
      have hA : prodN ((basesL D).take k) = prodN (basesL D) := congrArg prodN HALL.out
      rw [hA]
      exact ⟨rfl, DA.out.bel⟩
set_option maxRecDepth 100000 in
set_option maxHeartbeats 4000000 in
theorem r5Digits_any (h : R3 w D rb lb hv nv ns) (he : D.exec < 100000000) (n : Nat) (hn : n < prodN (basesL D)) (hp : prodN (basesL D) ≤ 4611686018427387904) :
    Calls Try.prog 12 #[.pointer (some ⟨rb, 0, none⟩), .int .u64 n] w fun r w' => ∃ (g : Nat) (f : Nat → Nat), r = .returned (.tuple #[.slice (some ⟨g, 0, none⟩) (basesL D).length (basesL D).length, .bool true]) ∧ Row w' g (basesL D).length 3 (fun i => .int .i64 (f i)) ∧ (∀ (i b : Nat), (basesL D)[i]? = some b → f i < b ∧ f i = digN (basesL D) n i) ∧ w.heap.size ≤ g ∧ Below w.heap.size w w' := by
  have HB := Lib.hid (r5bases_any h he)
  have hdl : D.dirtyL.length ≤ D.n := by unfold Dev.dirtyL; exact filt_len D D.n
  have hm : (basesL D).length ≤ 1000000 := by rw [basesL_len]; have := h.up.wf.le; omega
  have HP := Lib.hid hp
  have HBL : Hid (∀ (k b : Nat), (basesL D)[k]? = some b → (basesL D).take (k + 1) = (basesL D).take k ++ [b] ∧ 0 < b ∧ b ≤ 4611686018427387904) := fun k b hb => by
    have hpos := basesL_pos D b (List.mem_of_getElem? hb)
    have e : (basesL D).take (k + 1) = (basesL D).take k ++ [b] := by rw [List.take_add_one, hb]; rfl
    refine ⟨e, hpos, ?_⟩
    have h1 := prodN_le (basesL D) (basesL_pos D) (k + 1)
    rw [e, prodN_snoc] at h1
    have h2 : 0 < prodN ((basesL D).take k) := prodN_pos _ (fun c hc => basesL_pos D c (List.mem_of_mem_take hc))
    have h3 : b ≤ prodN ((basesL D).take k) * b := Nat.le_mul_of_pos_left _ h2
    omega
  have HALL : Hid ((basesL D).take (basesL D).length = basesL D) := List.take_of_length_le (Nat.le_refl _)
  have HLE := Lib.hid (fun k => prodN_le (basesL D) (basesL_pos D) k)
  have HDR : Hid ((basesL D).drop (basesL D).length = []) := List.drop_of_length_le (Nat.le_refl _)
  obtain ⟨m, hmm⟩ : ∃ m, (basesL D).length = m := ⟨_, rfl⟩
  have HM := Lib.hid hmm
  rw [hmm] at HB HALL hm HDR ⊢
  have hmk := fun (wx : World) => mkInts wx m hm
  have gm1 : IntKind.i64.wrap ((m : Int) - 1) = (m : Int) - 1 := IntWalk.i64_in _ (by omega)
  have HN0 := Lib.hid hn
  clear h hmm hp hn hdl
  go_enter Try.func12, Try.ntmps12
  go_wp2_with fail
  (with_reducible refine HB.out.mono ?_)
  rintro r w1 ⟨dv, rfl, d1⟩
  obtain ⟨da, dc, hdv⟩ := d1.slice
  subst hdv
  have DA := Lib.hid d1
  have hdcap : m ≤ dc := by obtain ⟨_, _, _, e, hc, _⟩ := d1.rd; cases e; exact hc
  have hw1 : Hid (w.heap.size ≤ w1.heap.size) := d1.bel.size
  have S0 : Hid (SpSt w (w1.alloc (.cells (madeCells #[.int .i64 0] m) 3)) D m w1.heap.size n m n (w1.alloc (.cells (madeCells #[.int .i64 0] m) 3))) := by
    refine ⟨⟨fun _ => 0, row_made w1 3 .i64 m, fun i b hi hb => by have := (List.getElem?_eq_some_iff.1 hb).1; rw [HM.out] at this; omega⟩, by rw [HALL.out]; exact HN0.out, ?_, d1.bel.trans ((below_alloc _ _).mono d1.bel.size), Upd.refl _ _⟩
    rw [HDR.out]
    exact (Nat.div_one n).symm
  have RB : Hid (RdSl (w1.alloc (.cells (madeCells #[.int .i64 0] m) 3)) 1 (.slice da m dc) m (natsU (basesL D)) ∧ ∀ g, (Value.slice da m dc).ownBlock = some g → g ≠ w1.heap.size) := ⟨d1.rd.alloc _, fun g hg => by have := d1.own.lt g hg; omega⟩
  clear d1 HB
  go_wp2_with fail
  obtain ⟨wb, hwb⟩ : ∃ wb, w1.alloc (.cells (madeCells #[.int .i64 0] m) 3) = wb := ⟨_, rfl⟩
  rw [hwb] at S0 RB ⊢
  clear hwb
  go_loopw [1, 8] (fun z y wr => ∃ k n' : Nat, k ≤ m ∧ y = .int .i64 ((k : Int) - 1) ∧ z = .int .u64 n' ∧ SpSt w wb D m w1.heap.size n k n' wr) (fun _ y _ => (intOf y + 1).toNat)
  case atStart => exact ⟨m, n, by omega, rfl, rfl, S0.out⟩
  case round =>
    clear S0
    obtain ⟨k, n', hk, rfl, rfl, hst⟩ := hrel
    rename World => wr
    have S := Lib.hid hst
    clear hst
    by_cases hk0 : k = 0
    · subst hk0
      have hn0 : n' = 0 := by
        have := S.out.n
        rw [List.take_zero] at this
        have e : prodN ([] : List Nat) = 1 := rfl
        omega
      subst hn0
      obtain ⟨f, f1, f2⟩ := S.out.row
      have F := Lib.hid (And.intro f1 f2)
      clear f1 f2
      rw [show ((0 : Nat) : Int) - 1 = -1 from rfl, show ((0 : Nat) : Int) = 0 from rfl]
      go_wp2_with fail
      go_ret2
      exact ⟨w1.heap.size, f, rfl, F.out.1, fun i b hb => F.out.2 i b (by omega) hb, hw1.out, S.out.bel⟩
    · obtain ⟨i, rfl⟩ : ∃ i, k = i + 1 := ⟨k - 1, by omega⟩
      rw [show (((i + 1 : Nat) : Int) - 1) = (i : Int) by omega]
      have hi0 : (0 : Int) ≤ (i : Int) := by omega
      have him : (i : Int) < m := by omega
      obtain ⟨b, hb⟩ : ∃ b, (basesL D)[i]? = some b := ⟨_, List.getElem?_eq_getElem (by rw [HM.out]; omega)⟩
      obtain ⟨hb1, hb2, hb3⟩ := HBL.out i b hb
      obtain ⟨_, a', c', e', _, hE⟩ := RB.out.1.upd S.out.up (fun g hg e => RB.out.2 g hg e)
      cases e'
      have hxl : (natsU (basesL D))[i]? = some (.int .u64 b) := by simp [natsU, hb]
      obtain ⟨fb, fo, rfl, hE2⟩ := rd_at hE hxl
      have c1 := hE2 i _ hxl
      have c2 : ∀ u, (wr.setCell ⟨w1.heap.size, i, none⟩ u).cell? ⟨fb, fo + i, none⟩ = some (.int .u64 b) := fun u => by
        rw [World.cell?_setCell_other _ _ _ _ (by intro e; have := congrArg Addr.block e; exact RB.out.2 fb rfl this.symm)]
        exact c1
      have c3 := c2 (.int .i64 ((n' % b : Nat) : Int))
      clear c2
      obtain ⟨f, f1, f2⟩ := S.out.row
      have d1 := f1.cell (i := i) (by omega)
      have d2 := f1.frozen i
      have hgl := f1.lt
      obtain ⟨q, rfl⟩ : ∃ q, b = q + 1 := ⟨b - 1, by omega⟩
      have S2 := Lib.hid (S.out.step hw1.out hb1 hb)
      obtain ⟨z, hz⟩ : ∃ z, n' % (q + 1) = z := ⟨_, rfl⟩
      obtain ⟨z2, hz2⟩ : ∃ z, n' / (q + 1) = z := ⟨_, rfl⟩
      have hzq : z < q + 1 := by rw [← hz]; exact Nat.mod_lt _ (by omega)
      have ge1 : (n' : Int) % ((q + 1 : Nat) : Int) = (z : Int) := by rw [← hz]; rfl
      have ge2 : (n' : Int) / ((q + 1 : Nat) : Int) = (z2 : Int) := by rw [← hz2]; rfl
      obtain ⟨B, hB⟩ : ∃ B, q + 1 = B := ⟨_, rfl⟩
      rw [hB] at ge1 ge2 c1 c3 hb3 hzq
      have ge3 : (n' : Int).tmod (B : Int) = (z : Int) := by rw [Int.tmod_eq_emod_of_nonneg (by omega)]; exact ge1
      have ge4 : (n' : Int).tdiv (B : Int) = (z2 : Int) := by rw [Int.tdiv_eq_ediv_of_nonneg (by omega)]; exact ge2
      have ge5 : ¬ (B : Int) = 0 := by omega
      have ga3 : IntKind.i64.wrap (z : Int) = (z : Int) := IntWalk.i64_in _ (by omega)
      have ga3u : IntKind.u64.wrap (z : Int) = (z : Int) := IntWalk.u64_in _ (by omega)
      have ga4 : IntKind.i64.wrap ((i : Int) - 1) = (i : Int) - 1 := IntWalk.i64_in _ (by omega)
      rw [hz, hz2] at S2
      rw [hB] at hz
      rw [hz] at c3
      have hz2b : z2 < 18446744073709551616 := Nat.lt_trans S2.out.n (Nat.lt_of_le_of_lt (HLE.out i) (by have := HP.out; omega))
      have ga5 : IntKind.u64.wrap (z2 : Int) = (z2 : Int) := IntWalk.u64_in _ (by omega)
      clear hE hE2 hxl hb hb1 hb2 f1 f2 hz hz2 hB
      go_wp2_with fail
      go_roundw
      case rel => exact ⟨i, z2, by omega, rfl, rfl, S2.out⟩
      case measure => simp [intOf]
end
end Go.Proofs.Ytoakngofgkkpnaa
