/- The walk of Join of two valid nodes. -/
import Derived.Test.YtkoijmoendepgaaLeafV
import Derived.Test.YtkoijmoendepgaaTup
import Derived.Deep.RegionHeld3
import Derived.Deep.DrawnRows
namespace Go.Proofs.Ytkoijmoendepgaa
open Go.RowKit
attribute [local go_sem ↓] Go.wp_at_zero Go.wp_at_succ

/-- Slots and writes when i entries of the right node are in. -/
def joinSt (off : Nat) (V : Nat → Int) (sV : List Nat) (s0 : List Nat) : Nat → List Nat × List (Nat × Int)
  | 0 => (s0, [])
  | i + 1 => let st := joinSt off V sV s0 i
    (st.1 ++ [unusedN st.1], st.2 ++ [(off + 8 * (4 + unusedN st.1), V (4 + sV.getD i 0)), (off + 8 * (16 + unusedN st.1), V (16 + sV.getD i 0))])
theorem joinSt_len (off : Nat) (V : Nat → Int) (sV s0 : List Nat) (i : Nat) : (joinSt off V sV s0 i).1.length = s0.length + i ∧ (joinSt off V sV s0 i).2.length = 2 * i := by
  induction i with
  | zero => simp [joinSt]
  | succ i ih => simp [joinSt]; omega
theorem joinSt_lt (off : Nat) (V : Nat → Int) (sV s0 : List Nat) (i : Nat) (h : ∀ s ∈ s0, s < 12) (hl : s0.length + i ≤ 12) : ∀ s ∈ (joinSt off V sV s0 i).1, s < 12 := by
  induction i with
  | zero => exact h
  | succ i ih =>
    intro s hs
    simp only [joinSt, List.mem_append, List.mem_singleton] at hs
    rcases hs with hs | hs
    · exact ih (by omega) s hs
    · obtain ⟨f, h1, h2, h3⟩ := free_slot (joinSt off V sV s0 i).1 12 (by rw [(joinSt_len off V sV s0 i).1]; omega)
      rw [hs, unusedN_spec _ f (by omega) h2 h3]; exact h1
/-- The writes and the error of Join. -/
def joinP (W : Nat → Int) (off : Nat) (V : Nat → Int) : List (Nat × Int) × Nat :=
  let sW := slotsW W; let sV := slotsW V
  if 12 < sW.length + sV.length then ([], 4)
  else if 0 < sW.length ∧ 0 < sV.length ∧ keyAt V sV 0 ≤ keyAt W sW (sW.length - 1) then ([], 1)
  else ((joinSt off V sV sW sV.length).2 ++ [(off + 8, V 1), (off + 16, V 2), (off + 24, V 3), (off, (ordN (joinSt off V sV sW sV.length).1 ((W 0).toNat / 4503599627370496 + 1) : Nat))], 0)
/-- Writes and an error. -/
def WritesPost (w : World) (l : List (Nat × Int)) (e : Nat) (r : Ending) (w' : World) : Prop :=
  ∃ sv, r = .returned (.tuple #[sv, .int .i64 e]) ∧ Acc w w.heap.size w' 137 2 sv l.length (flat l)

section
variable {w : World} {v : DV} {own : Nat → Option Role} {D : Dev} {j p j2 p2 : Nat}
/-- Both nodes are read. -/
structure JoinAt (w : World) (v : DV) (j p cb db : Nat) (W V : Nat → Int) (wr : World) : Prop where
  contW : IsCont wr cb W (slotsW W) ((W 0).toNat / 4503599627370496)
  contV : IsCont wr db V (slotsW V) ((V 0).toNat / 4503599627370496)
  box : Blk wr w.heap.size #[.iface 39 (.pointer (some ⟨v.tb j, 0, none⟩)), .int .u64 p] 47
  bel : Below w.heap.size w wr
theorem JoinAt.next {cb db : Nat} {W V : Nat → Int} {w1 w2 : World} (h : JoinAt w v j p cb db W V w1) (hb : Below w1.heap.size w1 w2) : JoinAt w v j p cb db W V w2 :=
  ⟨h.contW.below hb, h.contV.below hb, h.box.below hb, h.bel.trans (hb.mono h.bel.size)⟩

theorem JoinAt.alloc {cb db : Nat} {W V : Nat → Int} {w1 : World} (h : JoinAt w v j p cb db W V w1) (o : Obj) : JoinAt w v j p cb db W V (w1.alloc o) := h.next (below_alloc w1 o)
theorem JoinAt.drew {cb db : Nat} {W V : Nat → Int} {w1 : World} (h : JoinAt w v j p cb db W V w1) : JoinAt w v j p cb db W V w1.drew := h.next ((Below.refl _ _).drew)
theorem JoinAt.cells {cb db : Nat} {W V : Nat → Int} {w1 : World} (h : JoinAt w v j p cb db W V w1) : w1.cell? ⟨w.heap.size, 0, none⟩ = some (.iface 39 (.pointer (some ⟨v.tb j, 0, none⟩))) ∧ w1.cell? ⟨w.heap.size, 1, none⟩ = some (.int .u64 p) := ⟨h.box.cell rfl, h.box.cell rfl⟩
theorem join_step {B : World} {wr : World} {off : Nat} {V : Nat → Int} {sV sW : List Nat} {i f t n : Nat} {sv wv : Value}
    (h : Pair B B.heap.size wr 3 1 sv (n + i + 1) (natsI (joinSt off V sV sW i).1 ++ [.int .i64 (f : Int)]) 137 2 wv (2 * i + 2) (flat (joinSt off V sV sW i).2 ++ flat [(off + 8 * (4 + f), V (4 + t)), (off + 8 * (16 + f), V (16 + t))]))
    (ht : sV[i]? = some t) (hf : unusedN (joinSt off V sV sW i).1 = f) :
    Pair B B.heap.size wr 3 1 sv (n + (i + 1)) (natsI (joinSt off V sV sW (i + 1)).1) 137 2 wv (2 * (i + 1)) (flat (joinSt off V sV sW (i + 1)).2) := by
  have e1 : (joinSt off V sV sW (i + 1)).1 = (joinSt off V sV sW i).1 ++ [f] := by simp only [joinSt, hf]
  have e2 : (joinSt off V sV sW (i + 1)).2 = (joinSt off V sV sW i).2 ++ [(off + 8 * (4 + f), V (4 + t)), (off + 8 * (16 + f), V (16 + t))] := by simp only [joinSt, hf, List.getD, ht, Option.getD_some]
  rw [e1, e2, flat_append, natsI_snoc]
  exact h
theorem JoinAt.cells6 {cb db ch : Nat} {W V : Nat → Int} {w1 : World} (h : JoinAt w v j p cb db W V w1) (hc : (W 0).toNat / 4503599627370496 = ch) : w1.cell? ⟨w.heap.size, 0, none⟩ = some (.iface 39 (.pointer (some ⟨v.tb j, 0, none⟩))) ∧ w1.cell? ⟨w.heap.size, 1, none⟩ = some (.int .u64 p) ∧
    w1.cell? ⟨db, 1, none⟩ = some (.int .u64 (V 1)) ∧ w1.cell? ⟨db, 2, none⟩ = some (.int .u64 (V 2)) ∧ w1.cell? ⟨db, 3, none⟩ = some (.int .u64 (V 3)) ∧ w1.cell? ⟨cb, 29, none⟩ = some (.int .u64 (ch : Int)) :=
  ⟨h.box.cell rfl, h.box.cell rfl, h.contV.words 1 (by omega), h.contV.words 2 (by omega), h.contV.words 3 (by omega), by rw [← hc]; exact h.contW.ch⟩
theorem below5 {W : World} (a b c d e : Obj) : Below W.heap.size W (((((W.alloc a).alloc b).alloc c).alloc d).alloc e).drew :=
  ((((((Below.refl _ W).alloc (Nat.le_refl _) a).alloc (by simp) b).alloc (by simp; omega) c).alloc (by simp; omega) d).alloc (by simp; omega) e).drew
theorem join_end {w w4 w10 : World} {wv : Value} {l l2 : List (Nat × Int)} {i : Nat} (hb : Below w.heap.size w w4) (h : Acc w4 w4.heap.size w10 137 2 wv (2 * i + l2.length) (flat l ++ flat l2)) (hl : l.length = 2 * i) :
    Acc w w.heap.size w10 137 2 wv (l ++ l2).length (flat (l ++ l2)) := by
  rw [List.length_append, hl, flat_append]
  exact ⟨h.own, fun g hg => Nat.le_trans hb.size (h.new g hg), hb.trans (h.bel.mono hb.size), Nat.le_trans hb.size h.lt⟩
/-- The slots are copied, no write is there. -/
theorem join_start {wr w5 : World} {c : Array Value} {t : TypeId} {v5 : Value} {n : Nat} {xs : List Value} (o5 : OwnSl w5 3 1 v5 n xs) (g5 : (wr.alloc (.cells c t)).grownBy w5 (Value.slice (some ⟨wr.heap.size, 0, none⟩) 0 0).ownBlock)
    (b5 : slAddr v5 = slAddr (.slice (some ⟨wr.heap.size, 0, none⟩) 0 0) ∨ slAddr v5 = some ⟨wr.heap.size + 1, 0, none⟩) :
    Pair wr wr.heap.size w5 3 1 v5 n xs 137 2 (.slice none 0 0) 0 [] := by
  have hb : Below wr.heap.size wr w5 := ⟨g5.os, g5.tape, g5.output, Nat.le_trans (by simp) g5.size, fun k hk => by
    rw [g5.block k (by simp; omega) (fun e => by simp [Value.ownBlock] at e; omega)]; exact Below.heap_alloc _ _ _ hk⟩
  refine ⟨⟨o5, fun g hg => ?_, hb, hb.size⟩, Acc.nil wr _ _ _ _ hb hb.size, fun g _ h => by simp [Value.ownBlock] at h⟩
  rcases b5 with b5 | b5
  · rw [ownBlock_addr, b5] at hg; simp [slAddr] at hg; omega
  · rw [ownBlock_addr, b5] at hg; simp at hg; omega

set_option maxRecDepth 100000 in
set_option maxHeartbeats 4000000 in
theorem join_ok (h : NodeAt w v own D j p) (h2 : NodeAt w v own D j2 p2) (ok1 : nodeOk (nodeW D p) (D.n * 64)) (ok2 : nodeOk (nodeW D p2) (D.n * 64)) :
    Calls Try.prog 29 #[.agg #[.iface 39 (.pointer (some ⟨v.tb j, 0, none⟩)), .int .u64 p], .agg #[.iface 39 (.pointer (some ⟨v.tb j2, 0, none⟩)), .int .u64 p2]] w
      (WritesPost w (joinP (nodeW D p) (ptrOff p) (nodeW D p2)).1 (joinP (nodeW D p) (ptrOff p) (nodeW D p2)).2) := by
  have H := Lib.hid h; have H2 := Lib.hid h2; have OK1 := Lib.hid ok1; have OK2 := Lib.hid ok2; clear h h2 ok1 ok2
  go_enter Try.func29, Try.ntmps29
  go_wp2_with fail
  (with_reducible refine ((H.out.alloc _).alloc _).read.mono ?_)
  rintro e w1 ⟨hb, ⟨_, cb, rfl, _, hc⟩ | ⟨hbad, rfl⟩⟩
  · have hb0 : Below w.heap.size w w1 := ((below_alloc w _).trans ((below_alloc _ _).mono (by simp))).trans (hb.mono (by simp; omega))
    have bx0 := ((Blk.new w #[.iface 39 (.pointer (some ⟨v.tb j, 0, none⟩)), .int .u64 p] 47).alloc (.cells #[.iface 39 (.pointer (some ⟨v.tb j2, 0, none⟩)), .int .u64 p2] 47)).below hb
    have bx1 : Blk w1 (w.heap.size + 1) #[.iface 39 (.pointer (some ⟨v.tb j2, 0, none⟩)), .int .u64 p2] 47 := by
      have := Blk.new (w.alloc (.cells #[.iface 39 (.pointer (some ⟨v.tb j, 0, none⟩)), .int .u64 p] 47)) #[.iface 39 (.pointer (some ⟨v.tb j2, 0, none⟩)), .int .u64 p2] 47
      rw [World.size_alloc] at this; exact this.below hb
    have l0 : w1.cell? ⟨w.heap.size + 1, 0, none⟩ = some (.iface 39 (.pointer (some ⟨v.tb j2, 0, none⟩))) := bx1.cell rfl
    have l1 : w1.cell? ⟨w.heap.size + 1, 1, none⟩ = some (.int .u64 p2) := bx1.cell rfl
    have HB := Lib.hid hb0; have HX := Lib.hid bx0
    have HC : Hid (IsCont w1 cb (nodeW D p) (slotsW (nodeW D p)) ((nodeW D p 0).toNat / 4503599627370496)) := hc
    clear hb hb0 bx0 bx1 hc
    go_wp2_with fail
    (with_reducible refine (H2.out.below HB.out).read.mono ?_)
    rintro e w2 ⟨hb2, ⟨_, db, rfl, _, hc2⟩ | ⟨hbad, rfl⟩⟩
    · have J2 : Hid (JoinAt w v j p cb db (nodeW D p) (nodeW D p2) w2) := ⟨HC.out.below hb2, hc2, HX.out.below hb2, HB.out.trans (hb2.mono HB.out.size)⟩
      clear hb2 hc2 HC HX HB l0 l1
      have hp := H.out.hp
      have hx0 : (nodeW D p 0).toNat < 18446744073709551616 := by have := H.out.hW 0 (by omega); omega
      generalize nodeW D p = W at *
      generalize nodeW D p2 = V at *
      clear OK1 OK2 H H2
      obtain ⟨sv, c28, hsv⟩ := J2.out.contW.sl
      obtain ⟨tv, d28, htv⟩ := J2.out.contV.sl
      obtain ⟨sa, sc, rfl⟩ : ∃ a c, sv = .slice a (slotsW W).length c := by obtain ⟨_, a, c, e, _⟩ := hsv; exact ⟨a, c, e⟩
      obtain ⟨ta, tc, rfl⟩ : ∃ a c, tv = .slice a (slotsW V).length c := by obtain ⟨_, a, c, e, _⟩ := htv; exact ⟨a, c, e⟩
      have HSV := Lib.hid hsv; clear hsv htv
      have hl1 := J2.out.contW.len; have hl2 := J2.out.contV.len
      by_cases hfull : 12 < (slotsW W).length + (slotsW V).length
      · have hfull' : (12 : Int) < ((slotsW W).length : Int) + ((slotsW V).length : Int) := by omega
        have e : joinP W (ptrOff p) V = ([], 4) := by unfold joinP; simp only []; rw [if_pos hfull]
        have E := Lib.hid e; clear e
        go_wp2_with fail
        go_quiet (fail)
        go_wp2_with fail
        go_ret2
        rw [E.out]
        exact ⟨_, rfl, Acc.nil w _ _ _ _ (J2.out.next (Qt.drewN _ _).below).bel (J2.out.next (Qt.drewN _ _).below).bel.size⟩
      · have hfull' : ¬ (12 : Int) < ((slotsW W).length : Int) + ((slotsW V).length : Int) := by omega
        go_wp2_with fail
        go_quiet (fail)
        go_upto_region 10 with fail
        obtain ⟨w3, hw3⟩ : ∃ w3, w2.drewN nq = w3 := ⟨_, rfl⟩
        rw [hw3]
        have J3 := Lib.hid (J2.out.next (Qt.drewN w2 nq).below)
        rw [hw3] at J3
        clear J2 hw3 c28 d28 HSV
        go_cut [59] (fun t wx => t = .bool (decide (0 < (slotsW W).length ∧ 0 < (slotsW V).length ∧ keyAt V (slotsW V) 0 ≤ keyAt W (slotsW W) ((slotsW W).length - 1))) ∧ JoinAt w v j p cb db W V wx)
        case first =>
          have HK0 := Lib.hid (fun wx (hx : JoinAt w v j p cb db W V wx) (hm : 0 < (slotsW V).length) => key_at hx.contV 0 hm)
          have HK1 := Lib.hid (fun wx (hx : JoinAt w v j p cb db W V wx) (hn : 0 < (slotsW W).length) => key_at hx.contW ((slotsW W).length - 1) (by omega))
          generalize hk0 : keyAt V (slotsW V) 0 = k0 at *
          generalize hk1 : keyAt W (slotsW W) ((slotsW W).length - 1) = k1 at *
          clear hk0 hk1
          generalize hn : (slotsW W).length = n at *
          generalize hm : (slotsW V).length = m at *
          clear hn hm
          by_cases hn0 : 0 < n
          · have hn0' : (0 : Int) < n := by omega
            by_cases hm0 : 0 < m
            · have hm0' : (0 : Int) < m := by omega
              have hA := HK0.out w3 J3.out hm0
              rw [show ((0 : Nat) : Int) = 0 from rfl] at hA
              have HA := Lib.hid hA; clear hA
              go_wp2_with fail
              (with_reducible refine HA.out.mono ?_)
              rintro e w4 ⟨rfl, q4⟩
              have J4 := Lib.hid (J3.out.next q4.below); clear q4 J3 HA
              have hA := HK1.out w4 J4.out hn0
              rw [show ((n - 1 : Nat) : Int) = (n : Int) - 1 by omega] at hA
              have HA := Lib.hid hA; clear hA
              go_wp2_with fail
              (with_reducible refine HA.out.mono ?_)
              rintro e w5 ⟨rfl, q5⟩
              have J5 := Lib.hid (J4.out.next q5.below); clear q5 J4 HA
              go_wp2_with fail
              go_meet
              exact ⟨by congr 1; simp [hn0, hm0], J5.out⟩
            · have hm0' : ¬ (0 : Int) < m := by omega
              go_wp2_with fail
              go_meet
              exact ⟨by congr 1; simp [hm0], J3.out⟩
          · have hn0' : ¬ (0 : Int) < n := by omega
            go_wp2_with fail
            go_meet
            exact ⟨by congr 1; simp [hn0], J3.out⟩
        case rest =>
          obtain ⟨rfl, j4⟩ := hcut
          obtain ⟨w4, hw4⟩ : ∃ x, x = wc := ⟨_, rfl⟩
          subst hw4
          have J4 := Lib.hid j4; clear j4 J3
          by_cases hord : 0 < (slotsW W).length ∧ 0 < (slotsW V).length ∧ keyAt V (slotsW V) 0 ≤ keyAt W (slotsW W) ((slotsW W).length - 1)
          · have hd : decide (0 < (slotsW W).length ∧ 0 < (slotsW V).length ∧ keyAt V (slotsW V) 0 ≤ keyAt W (slotsW W) ((slotsW W).length - 1)) = true := by simpa using hord
            rw [hd]
            have E : Hid (joinP W (ptrOff p) V = ([], 1)) := by show joinP W (ptrOff p) V = _; unfold joinP; simp only []; rw [if_neg hfull, if_pos hord]
            clear hd hord
            go_wp2_with fail
            go_ret2
            rw [E.out]
            exact ⟨_, rfl, Acc.nil w _ _ _ _ J4.out.bel J4.out.bel.size⟩
          · have hd : decide (0 < (slotsW W).length ∧ 0 < (slotsW V).length ∧ keyAt V (slotsW V) 0 ≤ keyAt W (slotsW W) ((slotsW W).length - 1)) = false := by simpa using hord
            rw [hd]
            have E : Hid (joinP W (ptrOff p) V = ((joinSt (ptrOff p) V (slotsW V) (slotsW W) (slotsW V).length).2 ++ [(ptrOff p + 8, V 1), (ptrOff p + 16, V 2), (ptrOff p + 24, V 3), (ptrOff p, (ordN (joinSt (ptrOff p) V (slotsW V) (slotsW W) (slotsW V).length).1 ((W 0).toNat / 4503599627370496 + 1) : Nat))], 0)) := by
              show joinP W (ptrOff p) V = _; unfold joinP; simp only []; rw [if_neg hfull, if_neg hord]
            clear hd hord
            obtain ⟨sv4, c28, hsv4⟩ := J4.out.contW.sl
            obtain ⟨sa4, sc4, rfl⟩ : ∃ a c, sv4 = .slice a (slotsW W).length c := by obtain ⟨_, a, c, e, _⟩ := hsv4; exact ⟨a, c, e⟩
            have HSV := Lib.hid hsv4; clear hsv4
            have hcb : cb < w4.heap.size := by obtain ⟨c, hc⟩ := J4.out.contW.ty; exact hc.lt
            have hcb2 : ¬ cb = w4.heap.size := by omega
            obtain ⟨i0, hi0, hz0, hz1, hz2⟩ := info_parts infoInt
            have I := Lib.hid (And.intro hi0 (And.intro hz0 (And.intro hz1 hz2))); clear hi0 hz0 hz1 hz2
            have hlt12 := Lib.hid J4.out.contW.lt12
            generalize hn : (slotsW W).length = n at *
            generalize hm : (slotsW V).length = m at *
            have HN := Lib.hid (And.intro hn hm); clear hn hm
            go_wp2_with (at_builtin; refine wpList_append_sl _ rfl _ _ 105 rfl 3 i0 _ 1 8 Try.underlying105 I.out.1 I.out.2.1 I.out.2.2.1 I.out.2.2.2 rfl (by decide) _ 0 [] rfl (by exact OwnSl.new _ _ _ 1 0 0 rfl (Nat.le_refl _) (Nat.zero_le _)) _ n (natsI (slotsW W)) rfl (by exact HSV.out.alloc _) (natsI_one _) (by unfold maxLen; omega) (by omega) ?_)
            intro v5 w5 o5 g5 b5 n5
            have P5 := Lib.hid (join_start (wr := w4) o5 g5 b5)
            clear o5 g5 b5 n5 c28 HSV
            obtain ⟨va5, vc5, hv5⟩ := P5.out.a.slice
            subst hv5
            go_wp2_with fail
            go_loopw [11, 12, 67] (fun sv wv x wr => ∃ i : Nat, i ≤ m ∧ x = .int .i64 i ∧ Pair w4 w4.heap.size wr 3 1 sv (n + i) (natsI (joinSt (ptrOff p) V (slotsW V) (slotsW W) i).1) 137 2 wv (2 * i) (flat (joinSt (ptrOff p) V (slotsW V) (slotsW W) i).2)) (fun _ _ x _ => m - (intOf x).toNat)
            case atStart => exact ⟨0, by omega, rfl, P5.out⟩
            case round =>
              obtain ⟨i, hi, rfl, hP⟩ := hrel
              obtain ⟨va, vc, rfl⟩ := hP.a.slice
              obtain ⟨wa, wcp, rfl⟩ := hP.b.slice
              have P := Lib.hid hP; clear hP P5
              by_cases hlt : i < m
              · have hjl := (joinSt_len (ptrOff p) V (slotsW V) (slotsW W) i).1
                have hj12 := joinSt_lt (ptrOff p) V (slotsW V) (slotsW W) i hlt12.out (by rw [HN.out.1]; omega)
                rw [HN.out.1] at hjl
                have hU := unused_any (w := wr) _ _ (show RdSl wr 1 (.slice va (n + i) vc) (joinSt (ptrOff p) V (slotsW V) (slotsW W) i).1.length (natsI (joinSt (ptrOff p) V (slotsW V) (slotsW W) i).1) by rw [hjl]; exact P.out.a.rd) hj12 (by omega)
                have HU := Lib.hid hU; have HJ := Lib.hid (And.intro hjl hj12); clear hU hjl hj12
                go_wp2_with fail
                (with_reducible refine HU.out.mono ?_)
                rintro e w6 ⟨rfl, hs12, hsn, hb6⟩
                have P6 := Lib.hid (P.out.keep hb6); clear hb6 P HU
                generalize hfs : unusedN (joinSt (ptrOff p) V (slotsW V) (slotsW W) i).1 = f at *
                have HFS := Lib.hid hfs; clear hfs
                go_wp2_with (at_builtin; refine wpList_append_sl _ rfl _ _ 105 rfl 3 i0 _ 1 8 Try.underlying105 I.out.1 I.out.2.1 I.out.2.2.1 I.out.2.2.2 rfl (by decide) _ (n + i) (natsI (joinSt (ptrOff p) V (slotsW V) (slotsW W) i).1) rfl (by exact P6.out.a.own.alloc _) _ 1 _ rfl (by exact RdSl.newAt _ _ _ 1 1 _ rfl rfl) (one_int _ _) (by unfold maxLen; omega) (by omega) ?_)
                intro v7 w7 o7 g7 b7 n7
                have P7 := Lib.hid (P6.out.left (below_alloc _ _) o7 g7 b7 (by simp))
                clear o7 g7 b7 n7 P6
                obtain ⟨va7, vc7, rfl⟩ := P7.out.a.slice
                obtain ⟨t, ht⟩ : ∃ t, (slotsW V)[i]? = some t := ⟨_, List.getElem?_eq_getElem (by rw [HN.out.2]; exact hlt)⟩
                have J7 := Lib.hid (J4.out.next P7.out.a.bel)
                have L4 := Lib.hid (fun wx => leafAt_int (w := wx) (v := v) (j := j) p 4 f 4 rfl hp hs12 (by omega))
                have L16 := Lib.hid (fun wx => leafAt_int (w := wx) (v := v) (j := j) p 16 f 16 rfl hp hs12 (by omega))
                have HK := Lib.hid (fun wx (hx : IsCont wx db V (slotsW V) ((V 0).toNat / 4503599627370496)) => key_any hx i t ht)
                have HV := Lib.hid (fun wx (hx : IsCont wx db V (slotsW V) ((V 0).toNat / 4503599627370496)) => value_any hx i t ht)
                have HT := Lib.hid ht; clear ht
                obtain ⟨k0, hi0, hz0, hz1, hz2⟩ := info_parts infoWrite
                have I2 := Lib.hid (And.intro hi0 (And.intro hz0 (And.intro hz1 hz2))); clear hi0 hz0 hz1 hz2
                have y1 : IntKind.i64.wrap (4 + (f : Int)) = 4 + (f : Int) := IntWalk.i64_in _ (by omega)
                have y2 : IntKind.i64.wrap (16 + (f : Int)) = 16 + (f : Int) := IntWalk.i64_in _ (by omega)
                go_wp2_with fail
                go_region_held3 (fun wx => wx.cell? ⟨w.heap.size, 0, none⟩ = some (.iface 39 (.pointer (some ⟨v.tb j, 0, none⟩))) ∧ wx.cell? ⟨w.heap.size, 1, none⟩ = some (.int .u64 p)) (first | exact J10.out.cells | exact (J9.out.alloc _).cells | exact J9.out.cells | exact J8.out.cells | exact J7.out.cells | exact (J8.out.alloc _).cells | exact (J7.out.alloc _).cells) (first | (go_at_call 54; (with_reducible refine (L4.out _).mono ?_); rintro e w' ⟨rfl, rfl⟩) | (go_at_call 54; (with_reducible refine (L16.out _).mono ?_); rintro e w' ⟨rfl, rfl⟩) | (go_at_call 63; (with_reducible refine (HK.out _ (by exact (J7.out.alloc _).drew.contV)).mono ?_); rintro e w8 ⟨rfl, q8⟩; have J8 := Lib.hid ((J7.out.alloc _).drew.next q8.below); have P8 := Lib.hid ((P7.out.keep (below_alloc_drew _ _)).keep q8.below); clear q8) | (go_at_call 52; (with_reducible refine (HV.out _ (by exact (J8.out.alloc _).contV)).mono ?_); rintro e w9 ⟨rfl, q9⟩; have J9 := Lib.hid ((J8.out.alloc _).next q9.below); have P9 := Lib.hid ((P8.out.keep (below_alloc _ _)).keep q9.below); clear q9) | (refine step_append_sl rfl (.tmp 76) (.tmp 93) 69 rfl 137 k0 _ 2 16 Try.underlying69 I2.out.1 I2.out.2.1 I2.out.2.2.1 I2.out.2.2.2 rfl (by decide) _ (2 * i) (flat (joinSt (ptrOff p) V (slotsW V) (slotsW W) i).2) rfl (by exact P9.out.b.own.alloc _) _ 2 (flat [(ptrOff p + 8 * (4 + f), V (4 + t)), (ptrOff p + 8 * (16 + f), V (16 + t))]) rfl (by exact RdSl.newAt _ _ _ 2 2 _ (by simp) rfl) (flat_one _) (by unfold maxLen; omega) (by omega) ?_; intro v10 w10 o10 g10 b10; have P10 := Lib.hid (P9.out.swap.left (below_alloc _ _) o10 g10 b10 (by simp)); have J10 := Lib.hid (J4.out.next P10.out.a.bel); clear o10 g10 b10))
                all_goals go_wp2_with fail
                all_goals
                  go_roundw
                  case rel => exact ⟨i + 1, by omega, by go_num, join_step P10.out.swap HT.out HFS.out⟩
                  case measure => simp [intOf]; omega
              · obtain rfl : i = m := by omega
                have J6 := Lib.hid (J4.out.next P.out.a.bel)
                have hjl := (joinSt_len (ptrOff p) V (slotsW V) (slotsW W) i)
                have hj12 := joinSt_lt (ptrOff p) V (slotsW V) (slotsW W) i hlt12.out (by rw [HN.out.1]; omega)
                rw [HN.out.1] at hjl
                generalize hch : (W 0).toNat / 4503599627370496 = ch at *
                have hch4 : ch < 4096 := by omega
                have L1 : Hid (∀ wx, Calls Try.prog 54 #[.agg #[.iface 39 (.pointer (some ⟨v.tb j, 0, none⟩)), .int .u64 p], .int .i64 1] wx fun r w' => r = .returned (.int .u64 (ptrOff p + 8 : Nat)) ∧ wx.alloc (.cells #[.iface 39 (.pointer (some ⟨v.tb j, 0, none⟩)), .int .u64 p] 47) = w') := fun wx => leafAt_any _ p 1 hp (by omega) (.inr ⟨_, _, rfl⟩)
                have L2 : Hid (∀ wx, Calls Try.prog 54 #[.agg #[.iface 39 (.pointer (some ⟨v.tb j, 0, none⟩)), .int .u64 p], .int .i64 2] wx fun r w' => r = .returned (.int .u64 (ptrOff p + 16 : Nat)) ∧ wx.alloc (.cells #[.iface 39 (.pointer (some ⟨v.tb j, 0, none⟩)), .int .u64 p] 47) = w') := fun wx => leafAt_any _ p 2 hp (by omega) (.inr ⟨_, _, rfl⟩)
                have L3 : Hid (∀ wx, Calls Try.prog 54 #[.agg #[.iface 39 (.pointer (some ⟨v.tb j, 0, none⟩)), .int .u64 p], .int .i64 3] wx fun r w' => r = .returned (.int .u64 (ptrOff p + 24 : Nat)) ∧ wx.alloc (.cells #[.iface 39 (.pointer (some ⟨v.tb j, 0, none⟩)), .int .u64 p] 47) = w') := fun wx => leafAt_any _ p 3 hp (by omega) (.inr ⟨_, _, rfl⟩)
                have L0 := Lib.hid (fun wx => leafAt_zero (w := wx) (v := v) (j := j) p hp)
                have hO := fun wx nv (h : RdSl wx 1 nv (joinSt (ptrOff p) V (slotsW V) (slotsW W) i).1.length (natsI (joinSt (ptrOff p) V (slotsW V) (slotsW W) i).1)) => order_any (w := wx) nv (joinSt (ptrOff p) V (slotsW V) (slotsW W) i).1 (ch + 1) h (by omega) (fun s hs => by have := hj12 s hs; omega) (by omega)
                rw [show ((ch + 1 : Nat) : Int) = (ch : Int) + 1 by omega] at hO
                have HO := Lib.hid hO; clear hO
                obtain ⟨k0, hi0, hz0, hz1, hz2⟩ := info_parts infoWrite
                have I2 := Lib.hid (And.intro hi0 (And.intro hz0 (And.intro hz1 hz2))); clear hi0 hz0 hz1 hz2
                have y1 : IntKind.u64.wrap ((ch : Int) + 1) = (ch : Int) + 1 := IntWalk.u64_in _ (by omega)
                have HCH := Lib.hid hch; have HJL := Lib.hid hjl; clear hch hjl hj12
                go_wp2_with fail
                go_region_held3 (fun wx => wx.cell? ⟨w.heap.size, 0, none⟩ = some (.iface 39 (.pointer (some ⟨v.tb j, 0, none⟩))) ∧ wx.cell? ⟨w.heap.size, 1, none⟩ = some (.int .u64 p) ∧ wx.cell? ⟨db, 1, none⟩ = some (.int .u64 (V 1)) ∧ wx.cell? ⟨db, 2, none⟩ = some (.int .u64 (V 2)) ∧ wx.cell? ⟨db, 3, none⟩ = some (.int .u64 (V 3)) ∧ wx.cell? ⟨cb, 29, none⟩ = some (.int .u64 (ch : Int))) (first | with_reducible exact J10.out.cells6 HCH.out | ((with_reducible refine JoinAt.cells6 ?_ HCH.out); (repeat (first | (with_reducible exact J6.out) | (with_reducible refine JoinAt.drew ?_) | (with_reducible refine JoinAt.alloc ?_ _))))) (first | (go_at_call 54; (with_reducible refine (L1.out _).mono ?_); rintro e w' ⟨rfl, rfl⟩) | (go_at_call 54; (with_reducible refine (L2.out _).mono ?_); rintro e w' ⟨rfl, rfl⟩) | (go_at_call 54; (with_reducible refine (L3.out _).mono ?_); rintro e w' ⟨rfl, rfl⟩) | (go_at_call 54; (with_reducible refine (L0.out _).mono ?_); rintro e w' ⟨rfl, rfl⟩) | (go_at_call 45; (with_reducible refine (HO.out _ _ (by rw [HJL.out.1]; (repeat (first | (with_reducible exact P.out.a.rd) | (with_reducible refine RdSl.drew ?_) | (with_reducible refine RdSl.alloc ?_ _))))).mono ?_); rintro e w' ⟨rfl, rfl⟩) | (refine step_append_sl rfl (.tmp 96) (.tmp 131) 69 rfl 137 k0 _ 2 16 Try.underlying69 I2.out.1 I2.out.2.1 I2.out.2.2.1 I2.out.2.2.2 rfl (by decide) _ (2 * i) (flat (joinSt (ptrOff p) V (slotsW V) (slotsW W) i).2) rfl (by (repeat (first | (with_reducible refine OwnSl.drew ?_) | (with_reducible refine OwnSl.alloc ?_ _) | exact P.out.b.own | (with_reducible refine OwnSl.drew ?_) | (with_reducible refine OwnSl.alloc ?_ _)))) _ 4 (flat [(ptrOff p + 8, V 1), (ptrOff p + 16, V 2), (ptrOff p + 24, V 3), (ptrOff p, ((ordN (joinSt (ptrOff p) V (slotsW V) (slotsW W) i).1 (ch + 1) : Nat) : Int))]) rfl (by exact (RdSl.newAt _ _ _ 2 4 _ (by simp) rfl).drew) (flat_one _) (by unfold maxLen; omega) (by omega) ?_; intro v10 w10 o10 g10 b10; have P10 := Lib.hid ((P.out.swap.keep (below5 _ _ _ _ _)).a.next (Below.refl _ _) o10 g10 b10 (by simp)); have J10 := Lib.hid (J4.out.next P10.out.bel); clear o10 g10 b10))
                all_goals go_wp2_with fail
                all_goals go_ret2
                all_goals rw [E.out]
                all_goals exact ⟨_, rfl, join_end J4.out.bel P10.out HJL.out.2⟩
    · exact absurd OK2.out hbad
  · exact absurd OK1.out hbad
end
end Go.Proofs.Ytkoijmoendepgaa
