/- The walk of PlanPut. -/
import Derived.Test.YtkoijmoendepgaaLeafK
import Derived.Deep.RegionHeld3
namespace Go.Proofs.Ytkoijmoendepgaa
open Go.RowKit

def lineN (o : Nat) : Nat := o - o % 64
def lastC (off : Nat) (x : Int) : List (Nat × Nat × Int) := [(1, off, x), (2, off, 0), (3, 0, 0)]
/-- The program that puts an entry into a free slot s as entry i. -/
def putNew (W : Nat → Int) (off : Nat) (key value : Int) (i s : Nat) : List (Nat × Nat × Int) :=
  [(1, off + 8 * (4 + s), key), (1, off + 8 * (16 + s), value), (2, lineN (off + 8 * (4 + s)), 0)] ++
    (if lineN (off + 8 * (16 + s)) = lineN (off + 8 * (4 + s)) then [] else [(2, lineN (off + 8 * (16 + s)), 0)]) ++ [(3, 0, 0)] ++
    lastC off (ordN ((slotsW W).take i ++ s :: (slotsW W).drop i) ((W 0).toNat / 4503599627370496 + 1) : Nat)
def putP (W : Nat → Int) (off : Nat) (key value : Int) : List (Nat × Nat × Int) × Nat :=
  if W 3 = 1 ∧ W 2 ≤ key then ([], 2)
  else if foundB W key (slotsW W) then (lastC (off + 8 * (16 + (slotsW W).getD (findIdx W key (slotsW W)) 0)) value, 0)
  else if (slotsW W).length = 12 then ([], 4)
  else (putNew W off key value (findIdx W key (slotsW W)) (unusedN (slotsW W)), 0)

/-- A program and an error. -/
def ProgPost (w : World) (l : List (Nat × Nat × Int)) (e : Nat) (r : Ending) (w' : World) : Prop :=
  ∃ pv, r = .returned (.tuple #[pv, .int .i64 e]) ∧ OwnSl w' 104 3 pv l.length (instrC l) ∧ ∀ g, pv.ownBlock = some g → w.heap.size ≤ g
def PlanPost (w : World) (W : Nat → Int) (size : Nat) (l : List (Nat × Nat × Int)) (e : Nat) (r : Ending) (w' : World) : Prop :=
  Below w.heap.size w w' ∧ ((nodeOk W size ∧ ProgPost w l e r w') ∨ (¬ nodeOk W size ∧ r = .returned (.tuple #[.slice none 0 0, .int .i64 11])))

section
variable {w : World} {v : DV} {own : Nat → Option Role} {D : Dev} {j p : Nat}

theorem nilProg (w w' : World) (e : Nat) : ProgPost w [] e (.returned (.tuple #[.slice none 0 0, .int .i64 e])) w' :=
  ⟨_, rfl, OwnSl.nil _ _ _, fun g hg => by simp [Value.ownBlock] at hg⟩


theorem cell_bel {w1 w2 : World} (hb : Below w1.heap.size w1 w2) {b o : Nat} {u : Value} (h : w1.cell? ⟨b, o, none⟩ = some u) : w2.cell? ⟨b, o, none⟩ = some u :=
  (hb.cell (p := ⟨b, o, none⟩) (World.block_lt_of_cell? w1 _ h)).trans h
theorem IsCont.below {w1 w2 : World} {cb : Nat} {W : Nat → Int} {slots : List Nat} {ch : Nat} (h : IsCont w1 cb W slots ch) (hb : Below w1.heap.size w1 w2) : IsCont w2 cb W slots ch :=
  ⟨fun i hi => cell_bel hb (h.words i hi), by obtain ⟨sv, h1, h2⟩ := h.sl; exact ⟨sv, cell_bel hb h1, h2.below hb⟩, cell_bel hb h.ch, h.lt12, h.len,
    by obtain ⟨c, hc⟩ := h.ty; exact ⟨c, hc.below hb⟩, fun sv hsv g hg => by
      obtain ⟨c, hc⟩ := h.ty
      rw [hb.cell (p := ⟨cb, 28, none⟩) hc.lt] at hsv
      obtain ⟨c2, hc2⟩ := h.ty2 sv hsv g hg
      exact ⟨c2, hc2.below hb⟩⟩

/-- The node is read, its content lies at cb; the boxed leaf at w.heap.size. -/
structure PutAt (w : World) (v : DV) (j p cb : Nat) (W : Nat → Int) (w1 : World) : Prop where
  cont : IsCont w1 cb W (slotsW W) ((W 0).toNat / 4503599627370496)
  l0 : w1.cell? ⟨w.heap.size, 0, none⟩ = some (.iface 39 (.pointer (some ⟨v.tb j, 0, none⟩)))
  l1 : w1.cell? ⟨w.heap.size, 1, none⟩ = some (.int .u64 p)
  bel : Below w.heap.size w w1
  lt : w.heap.size < w1.heap.size

theorem PutAt.next {cb : Nat} {W : Nat → Int} {w1 w2 : World} (h : PutAt w v j p cb W w1) (hb : Below w1.heap.size w1 w2) : PutAt w v j p cb W w2 :=
  ⟨h.cont.below hb, cell_bel hb h.l0, cell_bel hb h.l1, h.bel.trans (hb.mono h.bel.size), Nat.lt_of_lt_of_le h.lt hb.size⟩

theorem leafAt_int {w : World} {v : DV} {j : Nat} (p c s : Nat) (ci : Int) (hci : ci = (c : Nat)) (hp : p < 18446744073709551616) (hs : s < 12) (hc : c ≤ 16) :
    Calls Try.prog 54 #[.agg #[.iface 39 (.pointer (some ⟨v.tb j, 0, none⟩)), .int .u64 p], .int .i64 (ci + s)] w fun r w' => r = .returned (.int .u64 (ptrOff p + 8 * (c + s) : Nat)) ∧ w.alloc (.cells #[.iface 39 (.pointer (some ⟨v.tb j, 0, none⟩)), .int .u64 p] 47) = w' := by
  have e : ci + s = ((c + s : Nat) : Int) := by omega
  rw [e]
  exact leafAt_any _ p (c + s) hp (by omega) (.inr ⟨_, _, rfl⟩)
theorem below_two (w : World) (o1 o2 : Obj) : Below w.heap.size w ((w.alloc o1).alloc o2).drew :=
  (below_alloc w o1).trans ((below_alloc_drew _ o2).mono (by simp))

/-- The two places of the new entry are known. -/
def PutKV (w : World) (v : DV) (j p cb : Nat) (W : Nat → Int) (s : Nat) (a b : Value) (wx : World) : Prop :=
  a = .int .u64 (ptrOff p + 8 * (4 + s) : Nat) ∧ b = .int .u64 (ptrOff p + 8 * (16 + s) : Nat) ∧ PutAt w v j p cb W wx

/-- The program so far, behind the world wc. -/
def PAt (wc : World) (l : List (Nat × Nat × Int)) (pv : Value) (wx : World) : Prop :=
  OwnSl wx 104 3 pv l.length (instrC l) ∧ Below wc.heap.size wc wx ∧ ∀ g, pv.ownBlock = some g → wc.heap.size ≤ g
theorem PAt.start (wc : World) (l : List (Nat × Nat × Int)) (hl : l.length < 1000) :
    PAt wc l (.slice (some ⟨wc.heap.size, 0, none⟩) l.length l.length) (wc.alloc (.cells (instrC l).toArray 104)) := by
  have h := OwnSl.new wc (instrC l).toArray 104 3 l.length l.length (by simp [instrC_length]) (Nat.le_refl _) (by unfold maxLen; omega)
  rw [List.take_of_length_le (by simp [instrC_length])] at h
  exact ⟨h, below_alloc _ _, fun g hg => by simp [Value.ownBlock] at hg; omega⟩

theorem OwnSl.below {w w' : World} {e : TypeId} {size n : Nat} {v : Value} {xs : List Value} (h : OwnSl w e size v n xs) (hb : Below w.heap.size w w') : OwnSl w' e size v n xs := h.kept (fun k hk => hb.block k (h.lt k hk))
theorem PAt.keep2 {w4 w6 w6' w7 : World} {l : List (Nat × Nat × Int)} {pv : Value} (h : PAt w4 l pv w6) (h2 : Below w6'.heap.size w6' w7) (h1 : Below w6.heap.size w6 w6') : PAt w4 l pv w7 := by
  have hb := h1.trans (h2.mono h1.size)
  exact ⟨h.1.below hb, h.2.1.trans (hb.mono h.2.1.size), h.2.2⟩
theorem below_drew_alloc (w : World) (o : Obj) : Below w.heap.size w (w.drew.alloc o) := (Below.refl _ _).drew.alloc (Nat.le_refl _) _
theorem PutAt.four {cb : Nat} {W : Nat → Int} {w4 wx : World} {sv : Value} (h : PutAt w v j p cb W w4) (h28 : w4.cell? ⟨cb, 28, none⟩ = some sv) (hb : Below w4.heap.size w4 wx) :
    wx.cell? ⟨w.heap.size, 0, none⟩ = some (.iface 39 (.pointer (some ⟨v.tb j, 0, none⟩))) ∧ wx.cell? ⟨w.heap.size, 1, none⟩ = some (.int .u64 p) ∧ wx.cell? ⟨cb, 28, none⟩ = some sv ∧ wx.cell? ⟨cb, 29, none⟩ = some (.int .u64 ((W 0).toNat / 4503599627370496 : Nat)) :=
  ⟨cell_bel hb h.l0, cell_bel hb h.l1, cell_bel hb h28, cell_bel hb h.cont.ch⟩
theorem leafAt_zero {w : World} {v : DV} {j : Nat} (p : Nat) (hp : p < 18446744073709551616) :
    Calls Try.prog 54 #[.agg #[.iface 39 (.pointer (some ⟨v.tb j, 0, none⟩)), .int .u64 p], .int .i64 0] w fun r w' => r = .returned (.int .u64 (ptrOff p : Nat)) ∧ w.alloc (.cells #[.iface 39 (.pointer (some ⟨v.tb j, 0, none⟩)), .int .u64 p] 47) = w' :=
  leafAt_any _ p 0 hp (by omega) (.inr ⟨_, _, rfl⟩)
theorem order_next {w : World} (nv : Value) (slots : List Nat) (i s ch : Nat) (hl : slots.length < 12) (hs : s < 12) (h12 : ∀ s ∈ slots, s < 12) (hch : ch < 4096)
    (h : OwnSl w 3 1 nv (slots.take i ++ s :: slots.drop i).length (natsI (slots.take i ++ s :: slots.drop i))) :
    Calls Try.prog 45 #[nv, .int .u64 ((ch : Int) + 1)] w fun r w' => r = .returned (.int .u64 (ordN (slots.take i ++ s :: slots.drop i) (ch + 1) : Nat)) ∧ w = w' := by
  rw [show (ch : Int) + 1 = ((ch + 1 : Nat) : Int) by omega]
  refine order_any nv _ (ch + 1) h.rd (by simp; omega) (fun t ht => ?_) (by omega)
  rcases List.mem_append.1 ht with h1 | h1
  · have := h12 t (List.mem_of_mem_take h1); omega
  · rcases List.mem_cons.1 h1 with h1 | h1
    · omega
    · have := h12 t (List.mem_of_mem_drop h1); omega
theorem commitP {w4 w8 : World} (pv : Value) (l : List (Nat × Nat × Int)) (off : Nat) (x : Int) (hl : l.length ≤ 100000) (h : PAt w4 l pv w8) :
    Calls Try.prog 53 #[pv, .int .u64 off, .int .u64 x] w8 fun r w9 => ∃ v9, r = .returned v9 ∧ PAt w4 (l ++ lastC off x) v9 w9 := by
  refine (commit_any pv l off x h.1 hl).mono ?_
  rintro e w9 ⟨v9, rfl, o, ha, hu⟩
  refine ⟨v9, rfl, o, ⟨hu.os.trans h.2.1.os, hu.tape.trans h.2.1.tape, hu.output.trans h.2.1.output, Nat.le_trans h.2.1.size hu.size, fun k hk => ?_⟩, fun g hg => ?_⟩
  · rw [hu.block k (Nat.lt_of_lt_of_le hk h.2.1.size) (fun hk2 => by have := h.2.2 k hk2; omega)]; exact h.2.1.block k hk
  · rcases ha with ha | ⟨g2, ha, hg2⟩
    · rw [ownBlock_addr, ha, ← ownBlock_addr] at hg; exact h.2.2 g hg
    · rw [ownBlock_addr, ha] at hg; cases hg; exact Nat.le_trans h.2.1.size hg2

theorem put_end {w4 w9 : World} {v9 : Value} {l l2 : List (Nat × Nat × Int)} (hb : Below w.heap.size w w4) (h : PAt w4 l v9 w9) (he : l = l2) : Below w.heap.size w w9 ∧ ProgPost w l2 0 (.returned (.tuple #[v9, .int .i64 0])) w9 := by
  subst he
  exact ⟨hb.trans (h.2.1.mono hb.size), v9, rfl, h.1, fun g hg => Nat.le_trans hb.size (h.2.2 g hg)⟩

set_option maxRecDepth 100000 in
set_option maxHeartbeats 2000000 in
theorem planPut_new (h : NodeAt w v own D j p) (key value : Int) (hok : nodeOk (nodeW D p) (D.n * 64)) (hnr : ¬ (nodeW D p 3 = 1 ∧ nodeW D p 2 ≤ key)) (hnf : foundB (nodeW D p) key (slotsW (nodeW D p)) = false)
    (hlen : (slotsW (nodeW D p)).length < 12) : Calls Try.prog 19 #[.agg #[.iface 39 (.pointer (some ⟨v.tb j, 0, none⟩)), .int .u64 p], .int .u64 key, .int .u64 value] w
    fun r w' => Below w.heap.size w w' ∧ ProgPost w (putNew (nodeW D p) (ptrOff p) key value (findIdx (nodeW D p) key (slotsW (nodeW D p))) (unusedN (slotsW (nodeW D p)))) 0 r w' := by
  have H := Lib.hid h; clear h
  have hp := H.out.hp
  have hrd := (H.out.alloc (.cells #[.iface 39 (.pointer (some ⟨v.tb j, 0, none⟩)), .int .u64 p] 47)).read
  have hx0 : (nodeW D p 0).toNat < 18446744073709551616 := by have := H.out.hW 0 (by omega); omega
  have ho : ptrOff p ≤ 34359738360 := by unfold ptrOff; omega
  generalize nodeW D p = W at *
  have HR := Lib.hid hrd; have HO := Lib.hid hok; have HNR := Lib.hid hnr; have HNF := Lib.hid hnf; clear hrd hok hnr hnf
  have hn12 : (((slotsW W).length : Int) == 12) = false := by simp; omega
  go_enter Try.func19, Try.ntmps19
  go_wp2_with fail
  (with_reducible refine HR.out.mono ?_)
  rintro e w1 ⟨hb, ⟨_, cb, rfl, hcb, hc⟩ | ⟨hbad, rfl⟩⟩
  · have A1 : PutAt w v j p cb W w1 := ⟨hc, cell_bel hb ((Blk.new w _ 47).cell rfl), cell_bel hb ((Blk.new w _ 47).cell rfl), (below_alloc w _).trans (hb.mono (by simp)), by have := hb.size; simp at this; omega⟩
    have HA := Lib.hid A1
    have c3 := hc.words 3 (by omega); have c2 := hc.words 2 (by omega)
    clear hb hc A1 HR
    have hcase : (W 3 == 1) = true ∧ ¬ W 2 ≤ key ∨ (W 3 == 1) = false := by
      by_cases h : W 3 = 1
      · exact .inl ⟨by simp [h], fun h' => HNR.out ⟨h, h'⟩⟩
      · exact .inr (by simp [h])
    rcases hcase with ⟨e3, e2⟩ | e3
    all_goals
      go_wp2_with fail
      (with_reducible refine (find_any HA.out.cont key).mono ?_)
      rintro e w2 ⟨rfl, q2⟩
      have HA2 := Lib.hid (HA.out.next q2.below)
      rw [HNF.out]
      clear e3 c3 c2 q2 HA
      have l0 := HA2.out.l0; have l1 := HA2.out.l1
      obtain ⟨sv, c28, hsv⟩ := HA2.out.cont.sl
      obtain ⟨sa, sc, rfl⟩ : ∃ a c, sv = .slice a (slotsW W).length c := by obtain ⟨_, a, c, e, _⟩ := hsv; exact ⟨a, c, e⟩
      have HSV := Lib.hid hsv; clear hsv
      have hun := unused_any (w := w2) _ _ HSV.out HA2.out.cont.lt12 hlen
      have HU := Lib.hid hun; clear hun
      go_wp2_with fail
      (with_reducible refine HU.out.mono ?_)
      rintro e w3 ⟨rfl, hs12, hsn, hb3⟩
      have HA3 := Lib.hid (HA2.out.next hb3)
      clear HU hb3 l0 l1 c28 HSV HA2
      generalize hsd : unusedN (slotsW W) = s at *
      generalize hid : findIdx W key (slotsW W) = idx at *
      have Hsd := Lib.hid hsd; have Hid2 := Lib.hid hid; clear hsd hid
      have l0 := HA3.out.l0; have l1 := HA3.out.l1
      go_wp2_with fail
      have y1 : IntKind.i64.wrap (4 + (s : Int)) = 4 + (s : Int) := IntWalk.i64_in _ (by omega)
      have y2 : IntKind.i64.wrap (16 + (s : Int)) = 16 + (s : Int) := IntWalk.i64_in _ (by omega)
      have L4 := Lib.hid (fun wx => leafAt_int (w := wx) (v := v) (j := j) p 4 s 4 rfl hp hs12 (by omega))
      have L16 := Lib.hid (fun wx => leafAt_int (w := wx) (v := v) (j := j) p 16 s 16 rfl hp hs12 (by omega))
      have lt3 := HA3.out.lt
      have ne3 : w.heap.size ≠ w3.heap.size := by omega
      go_cut [13, 14] (PutKV w v j p cb W s)
      case first =>
        go_region_with (first | (go_at_call 54; (with_reducible refine (L4.out _).mono ?_); rintro e w' ⟨rfl, rfl⟩) | (go_at_call 54; (with_reducible refine (L16.out _).mono ?_); rintro e w' ⟨rfl, rfl⟩))
        all_goals go_wp2_with fail
        all_goals go_meet
        all_goals exact ⟨rfl, rfl, HA3.out.next (below_two _ _ _)⟩
      case rest =>
        obtain ⟨rfl, rfl, hA4⟩ := hcut
        clear l0 l1 HA3 L4 L16 y1 y2
        have HA4 := Lib.hid hA4; clear hA4 lt3 ne3
        obtain ⟨w4, hw4⟩ : ∃ x, x = wc := ⟨_, rfl⟩
        subst hw4
        generalize hkd : ptrOff p + 8 * (4 + s) = k at *
        generalize hvd : ptrOff p + 8 * (16 + s) = vv at *
        have hkb : k < 18446744073709551616 := by omega
        have hvb : vv < 18446744073709551616 := by omega
        have Hkd := Lib.hid hkd; have Hvd := Lib.hid hvd; clear hkd hvd
        have hcase2 : ((vv - vv % 64 : Nat) : Int) = ((k - k % 64 : Nat) : Int) ∨ ((vv - vv % 64 : Nat) : Int) ≠ ((k - k % 64 : Nat) : Int) := by omega
        generalize hlk : k - k % 64 = lk at *
        generalize hlv : vv - vv % 64 = lv at *
        have LK := Lib.hid (fun wx => lineOf_any (w := wx) k hkb)
        have LV := Lib.hid (fun wx => lineOf_any (w := wx) vv hvb)
        rw [hlk] at LK; rw [hlv] at LV
        have Hlk := Lib.hid hlk; have Hlv := Lib.hid hlv; clear hlk hlv
        obtain ⟨i0, hi0, hz0, hz1, hz2⟩ := info_parts infoInstr
        have I := Lib.hid (And.intro hi0 (And.intro hz0 (And.intro hz1 hz2))); clear hi0 hz0 hz1 hz2
        go_upto_region 13 with fail
        go_cut [15] (PAt w4 [(1, k, key), (1, vv, value), (2, lk, 0)])
        case first =>
          go_wp2_with (go_at_call 56; (with_reducible refine (LK.out _).mono ?_); rintro e w' ⟨rfl, rfl⟩)
          go_meet
          exact PAt.start _ [(1, k, key), (1, vv, value), (2, lk, 0)] (by simp)
        case rest =>
        obtain ⟨pa, pc, rfl⟩ := hcut.1.slice
        have O1 := Lib.hid hcut; clear hcut
        go_upto_if 91 with (first | (go_at_call 56; (with_reducible refine (LK.out _).mono ?_); rintro e w' ⟨rfl, rfl⟩) | (go_at_call 56; (with_reducible refine (LV.out _).mono ?_); rintro e w' ⟨rfl, rfl⟩))
        go_cut [15] (PAt w4 ([(1, k, key), (1, vv, value), (2, lk, 0)] ++ if lv = lk then [] else [(2, lv, 0)]))
        case first =>
          rcases hcase2 with hc2 | hc2
          · go_wp2_with fail
            go_meet
            rw [if_pos (by omega), List.append_nil]; exact O1.out
          · go_wp2_with (first | (go_at_call 56; (with_reducible refine (LV.out _).mono ?_); rintro e w' ⟨rfl, rfl⟩) | (at_builtin; refine wpList_append_sl _ rfl _ _ 52 rfl 104 i0 _ 3 24 Try.underlying52 I.out.1 I.out.2.1 I.out.2.2.1 I.out.2.2.2 rfl (by decide) _ 3 (instrC [(1, k, key), (1, vv, value), (2, lk, 0)]) rfl (by exact O1.out.1.alloc _) _ 1 (instrC [(2, lv, 0)]) rfl (by exact RdSl.newAt _ _ _ 3 1 _ rfl rfl) (instrC_one _) (by unfold maxLen; omega) (by omega) ?_))
            intro v1 w1 o1 g1 b1 n1
            have O2 := Lib.hid (And.intro o1 (own_chain O1.out.2 (below_alloc _ _) g1 b1 (by have := O1.out.2.1.size; simp; omega))); clear o1 g1 b1 n1
            go_wp2_with fail
            go_meet
            rw [if_neg (by omega)]; exact O2.out
        case rest =>
        clear hcase2 LK LV O1
        generalize hL : [(1, k, key), (1, vv, value), (2, lk, 0)] ++ (if lv = lk then [] else [(2, lv, 0)]) = L at *
        have hLl : L.length ≤ 4 := by rw [← hL]; split <;> simp
        have HL := Lib.hid hL; clear hL
        obtain ⟨pa2, pc2, hpv⟩ := hcut.1.slice
        subst hpv
        have O2 := Lib.hid hcut; clear hcut
        go_upto_region 16 with fail
        go_cut [15] (PAt w4 (L ++ [(3, 0, 0)]))
        case first =>
          go_wp2_with (at_builtin; refine wpList_append_sl _ rfl _ _ 52 rfl 104 i0 _ 3 24 Try.underlying52 I.out.1 I.out.2.1 I.out.2.2.1 I.out.2.2.2 rfl (by decide) _ L.length (instrC L) rfl (by exact O2.out.1.alloc _) _ 1 (instrC [(3, 0, 0)]) rfl (by exact RdSl.newAt _ _ _ 3 1 _ rfl rfl) (instrC_one _) (by unfold maxLen; omega) (by omega) ?_)
          intro v1 w1 o1 g1 b1 n1
          have O3 := Lib.hid (And.intro o1 (own_chain O2.out.2 (below_alloc _ _) g1 b1 (by have := O2.out.2.1.size; simp; omega))); clear o1 g1 b1 n1
          go_wp2_with fail
          go_meet
          exact ⟨by rw [instrC_append, List.length_append]; exact O3.out.1, O3.out.2⟩
        case rest =>
        clear O2
        obtain ⟨pa3, pc3, hpv⟩ := hcut.1.slice
        subst hpv
        have O3 := Lib.hid hcut; clear hcut
        go_upto_region 17 with fail
        obtain ⟨w6, hw6⟩ : ∃ x, x = wc := ⟨_, rfl⟩
        subst hw6
        obtain ⟨sv, c28, hsv⟩ := HA4.out.cont.sl
        obtain ⟨sa, sc, rfl⟩ : ∃ a c, sv = .slice a (slotsW W).length c := by obtain ⟨_, a, c, e, _⟩ := hsv; exact ⟨a, c, e⟩
        have HSV := Lib.hid (hsv.below (O3.out.2.1)); clear hsv
        have hlt12 := HA4.out.cont.lt12
        have hidx : idx ≤ (slotsW W).length := by rw [← Hid2.out]; exact findIdx_le _ _ _
        have K4 := Lib.hid (fun wx hx => PutAt.four HA4.out c28 (wx := wx) hx)
        have hbase := HA4.out.bel
        generalize hch : (W 0).toNat / 4503599627370496 = ch at *
        have hch4 : ch < 4096 := by omega
        have y1 : IntKind.u64.wrap ((ch : Int) + 1) = (ch : Int) + 1 := by rw [IntKind.wrap_u64]; omega
        have ORD := Lib.hid (fun wx nv => order_next (w := wx) nv (slotsW W) idx s ch hlen hs12 hlt12 hch4)
        have CM := Lib.hid (fun wx => commitP (w4 := w4) (w8 := wx) (.slice pa3 (L ++ [(3, 0, 0)]).length pc3) (L ++ [(3, 0, 0)]) (ptrOff p) (ordN ((slotsW W).take idx ++ s :: (slotsW W).drop idx) (ch + 1) : Nat) (by simp; omega))
        have L0 := Lib.hid (fun wx => leafAt_zero (w := wx) (v := v) (j := j) p hp)
        have Hch := Lib.hid hch; have HX := Lib.hid (And.intro hx0 (And.intro hch4 hlt12)); have HB := Lib.hid hbase; have HI := Lib.hid hidx
        clear hch hx0 hch4 hlt12 hbase hidx c28 HA4
        generalize hnl : (L ++ [(3, 0, 0)]).length = nl at *
        have Hnl := Lib.hid hnl; clear hnl
        go_region_held3 (fun wx => wx.cell? ⟨w.heap.size, 0, none⟩ = some (.iface 39 (.pointer (some ⟨v.tb j, 0, none⟩))) ∧ wx.cell? ⟨w.heap.size, 1, none⟩ = some (.int .u64 p) ∧ wx.cell? ⟨cb, 28, none⟩ = some (.slice sa (slotsW W).length sc) ∧ wx.cell? ⟨cb, 29, none⟩ = some (.int .u64 ch))
          (first | exact K4.out _ P9.out.2.1 | exact K4.out _ P7.out.2.1 | exact K4.out _ (O3.out.2.1.drew) | exact K4.out _ ((O3.out.2.1.alloc O3.out.2.1.size _).drew) | exact K4.out _ (O3.out.2.1.drew.alloc O3.out.2.1.size _))
          (first | (go_at_call 54; (with_reducible refine (L0.out _).mono ?_); rintro e w' ⟨rfl, rfl⟩) | (go_at_call 57; (with_reducible refine (inserted_any _ (slotsW W) idx s (by first | exact (HSV.out.alloc _).drew | exact HSV.out.drew.alloc _) HI.out (by omega)).mono ?_); rintro e w7 ⟨nv, rfl, n1, n2, n3⟩; have P7 := Lib.hid (PAt.keep2 O3.out n3 (by first | exact below_alloc_drew _ _ | exact below_drew_alloc _ _)); have N := Lib.hid n1; clear n1 n2 n3) | (go_at_call 45; (with_reducible refine (ORD.out _ _ N.out).mono ?_); rintro e w' ⟨rfl, rfl⟩) | (go_at_call 53; (with_reducible refine (CM.out _ (by exact P7.out)).mono ?_); rintro e w9 ⟨v9, rfl, q9⟩; have P9 := Lib.hid q9; clear q9))
        all_goals go_wp2_with fail
        go_ret2
        exact put_end HB.out P9.out (by rw [← HL.out, ← Hlk.out, ← Hlv.out, ← Hkd.out, ← Hvd.out, ← Hch.out, ← Hid2.out, ← Hsd.out]; rfl)
  · exact absurd HO.out hbad
end
end Go.Proofs.Ytkoijmoendepgaa
