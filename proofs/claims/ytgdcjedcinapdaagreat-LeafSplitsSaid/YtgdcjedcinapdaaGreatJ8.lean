/- A node behind the program of a put or a delete: plain facts. -/
import Derived.Test.YtgdcjedcinapdaaGreatJ7
import Derived.Test.YtgdcjedcinapdaaGreatJ1
import Derived.Deep.RegionHeld3
import Derived.Deep.DrawnRows
import Derived.Test.YtgdcjedcinapdaaGreatJ6
namespace Go.Proofs.YtgdcjedcinapdaaGreat
open Go.RowKit

/-- What holds of a node behind a program that turned its entries into E. -/
structure After (C : Nat → Int) (off : Nat) (W : Nat → Int) (p : List (Nat × Nat × Int)) (E : List (Int × Int)) : Prop where
  ok : progOk 12 p
  len : p.length ≤ 8
  node : nodeOk (fun i => runC C p (off / 8 + i)) 768
  ents : entsW (fun i => runC C p (off / 8 + i)) (slotsW (fun i => runC C p (off / 8 + i))) = E
  bd : ∀ i, i < 28 → 0 ≤ runC C p (off / 8 + i) ∧ runC C p (off / 8 + i) < 18446744073709551616
  w1 : runC C p (off / 8 + 1) = W 1
  w2 : runC C p (off / 8 + 2) = W 2
  w3 : runC C p (off / 8 + 3) = W 3

theorem progOk.instr {p : List (Nat × Nat × Int)} (h : progOk 12 p) : instrOk p := fun e he => by
  rcases h e he with ⟨h1, _, h3⟩ | ⟨h1, h2⟩ | ⟨h1, h2⟩ <;> omega
theorem entsW_cons (W : Nat → Int) (s : Nat) (l : List Nat) : entsW W (s :: l) = (W (4 + s), W (16 + s)) :: entsW W l := rfl
theorem unusedN_free (l : List Nat) (h : l.length < 12) : unusedN l < 12 ∧ unusedN l ∉ l := by
  obtain ⟨f, h1, h2, h3⟩ := free_slot l 12 h
  rw [unusedN_spec l f (by omega) h2 h3]; exact ⟨h1, h2⟩

variable {W C : Nat → Int} {off : Nat} {key value : Int}
theorem del_after (hok : nodeOk W 768) (hWC : ∀ i, W i = C (off / 8 + i)) (hw : ∀ i, i < 28 → 0 ≤ W i ∧ W i < 18446744073709551616) (h8 : off % 8 = 0) (hoff : off + 224 ≤ 768)
    (hf : foundB W key (slotsW W) = true) : After C off W (delP W off key).1 (unsetL key (entsW W (slotsW W))) ∧ (delP W off key).2 = 0 := by
  have hg := ok_good hok
  have hd : delP W off key = (lastC off (ordN ((slotsW W).take (findIdx W key (slotsW W)) ++ (slotsW W).drop (findIdx W key (slotsW W) + 1)) ((W 0).toNat / 4503599627370496 + 1) : Nat), 0) := by unfold delP; rw [if_pos hf]
  rw [hd]
  refine ⟨?_, rfl⟩
  have hu := (unset_found hg.asc hf).1
  generalize findIdx W key (slotsW W) = idx at *
  have hsub : ((slotsW W).take idx ++ (slotsW W).drop (idx + 1)).Sublist (slotsW W) := by
    rw [← List.eraseIdx_eq_take_drop_succ]; exact List.eraseIdx_sublist _ _
  have hg2 := hg.sub hsub
  generalize hl : (slotsW W).take idx ++ (slotsW W).drop (idx + 1) = l at *
  generalize (W 0).toNat / 4503599627370496 + 1 = c at *
  have hr : ∀ i, runC C (lastC off (ordN l c : Nat)) (off / 8 + i) = if i = 0 then ((ordN l c : Nat) : Int) else W i := fun i => by
    rw [runC_last, hWC]
    by_cases h : i = 0
    · subst h; simp
    · rw [if_neg (by omega), if_neg h]
  have hgW : NGood (fun i => runC C (lastC off (ordN l c : Nat)) (off / 8 + i)) l 768 := hg2.congr (fun s _ => by rw [hr, if_neg (by omega)]) (by rw [hr, if_neg (by omega)]) (by rw [hr, if_neg (by omega)]) (by rw [hr, if_neg (by omega)])
  have h0 : runC C (lastC off (ordN l c : Nat)) (off / 8 + 0) = (ordN l c : Nat) := by rw [hr, if_pos rfl]
  obtain ⟨k1, k2⟩ := good_ok hgW h0
  have h16 : ∀ s ∈ l, s < 16 := fun s hs => by have := hg2.lt s hs; omega
  refine ⟨lastC_ok off 12 _ h8 (by omega), by simp [lastC], k1, ?_, fun i hi => ?_, by rw [hr, if_neg (by omega)], by rw [hr, if_neg (by omega)], by rw [hr, if_neg (by omega)]⟩
  · rw [k2, hu]
    exact entsW_congr (fun s _ => ⟨by rw [hr, if_neg (by omega)], by rw [hr, if_neg (by omega)]⟩)
  · rw [hr]
    split
    · have := ord_lt l l.length c h16 (by have := hg2.len; omega) hg2.len
      unfold ordN; omega
    · exact hw i hi
theorem put_after (hok : nodeOk W 768) (hWC : ∀ i, W i = C (off / 8 + i)) (hw : ∀ i, i < 28 → 0 ≤ W i ∧ W i < 18446744073709551616) (hk : 0 ≤ key ∧ key < 18446744073709551616) (hv : 0 ≤ value ∧ value < 18446744073709551616)
    (h8 : off % 8 = 0) (hoff : off + 224 ≤ 768) (he : (putP W off key value).2 = 0) : After C off W (putP W off key value).1 (setL key value (entsW W (slotsW W))) := by
  have hg := ok_good hok
  unfold putP at he ⊢
  by_cases hnr : W 3 = 1 ∧ W 2 ≤ key
  · rw [if_pos hnr] at he; simp at he
  rw [if_neg hnr] at he ⊢
  cases hf : foundB W key (slotsW W) with
  | true =>
    simp only [hf, if_true] at he ⊢
    obtain ⟨s, hs, hks, hd, hgt⟩ := find_split hg.asc hf
    have hset := set_found value hg.asc hf
    have hgd : (slotsW W).getD (findIdx W key (slotsW W)) 0 = s := by simp [List.getD, hs]
    rw [hgd]
    have hs12 := hg.lt s (List.mem_of_getElem? hs)
    have hl : slotsW W = (slotsW W).take (findIdx W key (slotsW W)) ++ s :: (slotsW W).drop (findIdx W key (slotsW W) + 1) := by rw [← hd, List.take_append_drop]
    generalize (slotsW W).take (findIdx W key (slotsW W)) = A at *
    generalize (slotsW W).drop (findIdx W key (slotsW W) + 1) = B at *
    have hr : ∀ i, runC C (lastC (off + 8 * (16 + s)) value) (off / 8 + i) = if i = 16 + s then value else W i := fun i => by
      rw [runC_last, hWC, show (off + 8 * (16 + s)) / 8 = off / 8 + (16 + s) by omega]
      by_cases h : i = 16 + s
      · subst h; simp
      · rw [if_neg (by omega), if_neg h]
    have hnd := hg.nd
    rw [hl] at hnd
    have hne : ∀ t, t ∈ A ∨ t ∈ B → t ≠ s := by
      intro t ht e
      subst e
      rw [List.nodup_append] at hnd
      obtain ⟨_, h2, h3⟩ := hnd
      rcases ht with ht | ht
      · exact h3 t ht t (by simp) rfl
      · exact (List.nodup_cons.1 h2).1 ht
    have h4 : ∀ t ∈ slotsW W, runC C (lastC (off + 8 * (16 + s)) value) (off / 8 + (4 + t)) = W (4 + t) := fun t ht => by
      have := hg.lt t ht; rw [hr, if_neg (by omega)]
    have e0 : slotsW (fun i => runC C (lastC (off + 8 * (16 + s)) value) (off / 8 + i)) = slotsW W := by unfold slotsW; simp only; rw [hr, if_neg (by omega)]
    have hgW : NGood (fun i => runC C (lastC (off + 8 * (16 + s)) value) (off / 8 + i)) (slotsW W) 768 := hg.congr h4 (by rw [hr, if_neg (by omega)]) (by rw [hr, if_neg (by omega)]) (by rw [hr, if_neg (by omega)])
    refine ⟨lastC_ok _ 12 _ (by omega) (by omega), by simp [lastC], good_valid hgW e0 (by show parseOk (runC C (lastC (off + 8 * (16 + s)) value) (off / 8 + 0)).toNat; rw [hr, if_neg (by omega)]; exact hok.1), ?_, fun i hi => ?_, by rw [hr, if_neg (by omega)], by rw [hr, if_neg (by omega)], by rw [hr, if_neg (by omega)]⟩
    · rw [e0, hset]
      have hAB : ∀ t, t ∈ A ∨ t ∈ B → t ∈ slotsW W := fun t ht => by rw [hl]; rcases ht with h | h <;> simp [h]
      have e1 : ∀ t, t ∈ A ∨ t ∈ B → runC C (lastC (off + 8 * (16 + s)) value) (off / 8 + (4 + t)) = W (4 + t) ∧ runC C (lastC (off + 8 * (16 + s)) value) (off / 8 + (16 + t)) = W (16 + t) := fun t ht => by
        have h1 := hne t ht
        exact ⟨h4 t (hAB t ht), by rw [hr, if_neg (by omega)]⟩
      conv => lhs; rw [hl]
      rw [entsW_append]
      congr 1
      · exact entsW_congr (fun t ht => e1 t (.inl ht))
      · rw [entsW_cons]
        refine congr (congrArg List.cons (Prod.ext ?_ ?_)) (entsW_congr (fun t ht => e1 t (.inr ht)))
        · exact (h4 s (List.mem_of_getElem? hs)).trans hks
        · show runC C (lastC (off + 8 * (16 + s)) value) (off / 8 + (16 + s)) = value
          rw [hr, if_pos rfl]
    · rw [hr]
      split
      · exact hv
      · exact hw i hi
  | false =>
    simp only [hf, Bool.false_eq_true, if_false] at he ⊢
    by_cases h12 : (slotsW W).length = 12
    · rw [if_pos h12] at he; simp at he
    rw [if_neg h12]
    have hset := set_none value hg.asc hf
    have hlow := find_lt W key (slotsW W)
    have hhigh := find_none hg.asc hf
    obtain ⟨hs12, hsn⟩ := unusedN_free (slotsW W) (by have := hg.len; omega)
    generalize unusedN (slotsW W) = s at *
    have hr := fun i => runC_new C W off key value (findIdx W key (slotsW W)) s h8 i
    have hok2 := putNew_ok W off key value (findIdx W key (slotsW W)) s 12 h8 (by omega) hs12
    have hlen : (putNew W off key value (findIdx W key (slotsW W)) s).length ≤ 8 := by unfold putNew lastC; split <;> simp
    have hl : slotsW W = (slotsW W).take (findIdx W key (slotsW W)) ++ (slotsW W).drop (findIdx W key (slotsW W)) := by rw [List.take_append_drop]
    generalize putNew W off key value (findIdx W key (slotsW W)) s = P at *
    generalize (W 0).toNat / 4503599627370496 + 1 = c at *
    generalize (slotsW W).take (findIdx W key (slotsW W)) = A at *
    generalize (slotsW W).drop (findIdx W key (slotsW W)) = B at *
    have hm : ∀ t ∈ slotsW W, t ≠ s := fun t ht e => hsn (e ▸ ht)
    have h4 : ∀ t ∈ slotsW W, runC C P (off / 8 + (4 + t)) = W (4 + t) := fun t ht => by
      have h1 := hg.lt t ht; have h2 := hm t ht
      rw [hr, if_neg (by omega), if_neg (by omega), if_neg (by omega), hWC]
    have h16 : ∀ t ∈ slotsW W, runC C P (off / 8 + (16 + t)) = W (16 + t) := fun t ht => by
      have h1 := hg.lt t ht; have h2 := hm t ht
      rw [hr, if_neg (by omega), if_neg (by omega), if_neg (by omega), hWC]
    have hs4 : runC C P (off / 8 + (4 + s)) = key := by rw [hr, if_neg (by omega), if_neg (by omega), if_pos rfl]
    have hs16 : runC C P (off / 8 + (16 + s)) = value := by rw [hr, if_neg (by omega), if_pos rfl]
    have hsm : ∀ j, 0 < j → j < 4 → runC C P (off / 8 + j) = W j := fun j h1 h2 => by rw [hr, if_neg (by omega), if_neg (by omega), if_neg (by omega), hWC]
    have hA : ∀ t ∈ A, t ∈ slotsW W := fun t ht => by rw [hl]; simp [ht]
    have hB : ∀ t ∈ B, t ∈ slotsW W := fun t ht => by rw [hl]; simp [ht]
    have hgW : NGood (fun i => runC C P (off / 8 + i)) (A ++ s :: B) 768 := by
      have hnd := hg.nd; have hasc := hg.asc; have hlen := hg.len
      rw [hl] at hnd hasc hlen
      rw [List.nodup_append] at hnd
      unfold AscS at hasc
      rw [List.pairwise_append] at hasc
      refine ⟨?_, ?_, ?_, ?_, ?_, ?_⟩
      · have : A.length + B.length ≠ 12 := by rw [hl] at h12; simpa using h12
        simp only [List.length_append, List.length_cons] at hlen ⊢; omega
      · intro t ht
        rcases List.mem_append.1 ht with h | h
        · exact hg.lt t (hA t h)
        · rcases List.mem_cons.1 h with rfl | h
          · exact hs12
          · exact hg.lt t (hB t h)
      · rw [List.nodup_append]
        refine ⟨hnd.1, List.nodup_cons.2 ⟨fun h => hm s (hB s h) rfl, hnd.2.1⟩, fun a ha b hb => ?_⟩
        rcases List.mem_cons.1 hb with rfl | hb
        · exact hm a (hA a ha)
        · exact hnd.2.2 a ha b hb
      · unfold AscS
        rw [List.pairwise_append]
        refine ⟨AscS.congr (W := W) (W' := fun i => runC C P (off / 8 + i)) hasc.1 (fun t ht => h4 t (hA t ht)), List.pairwise_cons.2 ⟨fun b hb => ?_, AscS.congr (W := W) (W' := fun i => runC C P (off / 8 + i)) hasc.2.1 (fun t ht => h4 t (hB t ht))⟩, fun a ha b hb => ?_⟩
        · show runC C P (off / 8 + (4 + s)) < runC C P (off / 8 + (4 + b))
          rw [hs4, h4 b (hB b hb)]; exact hhigh b hb
        · show runC C P (off / 8 + (4 + a)) < runC C P (off / 8 + (4 + b))
          rw [h4 a (hA a ha)]
          rcases List.mem_cons.1 hb with rfl | hb
          · rw [hs4]; exact hlow a ha
          · rw [h4 b (hB b hb)]; exact hasc.2.2 a ha b hb
      · show runC C P (off / 8 + 3) = 0 ∧ runC C P (off / 8 + 2) = 0 ∨ runC C P (off / 8 + 3) = 1 ∧ ∀ t ∈ A ++ s :: B, runC C P (off / 8 + (4 + t)) < runC C P (off / 8 + 2)
        rw [hsm 3 (by omega) (by omega), hsm 2 (by omega) (by omega)]
        rcases hg.bd with hb | ⟨hb, hb2⟩
        · exact .inl hb
        · refine .inr ⟨hb, fun t ht => ?_⟩
          rcases List.mem_append.1 ht with h | h
          · rw [h4 t (hA t h)]; exact hb2 t (hA t h)
          · rcases List.mem_cons.1 h with rfl | h
            · rw [hs4]; have : ¬ W 2 ≤ key := fun h => hnr ⟨hb, h⟩
              omega
            · rw [h4 t (hB t h)]; exact hb2 t (hB t h)
      · show runC C P (off / 8 + 1) = 0 ∨ ptrValid (runC C P (off / 8 + 1)).toNat 768 = true
        rw [hsm 1 (by omega) (by omega)]; exact hg.nx
    have h0 : runC C P (off / 8 + 0) = (ordN (A ++ s :: B) c : Nat) := by rw [hr, if_pos rfl]
    obtain ⟨k1, k2⟩ := good_ok hgW h0
    refine ⟨hok2, hlen, k1, ?_, fun i hi => ?_, hsm 1 (by omega) (by omega), hsm 2 (by omega) (by omega), hsm 3 (by omega) (by omega)⟩
    · rw [k2, hset, entsW_append]
      congr 1
      · exact entsW_congr (fun t ht => ⟨h4 t (hA t ht), h16 t (hA t ht)⟩)
      · rw [entsW_cons]
        exact congr (congrArg List.cons (Prod.ext hs4 hs16)) (entsW_congr (fun t ht => ⟨h4 t (hB t ht), h16 t (hB t ht)⟩))
    · rw [hr]
      split
      · have h16' : ∀ t ∈ A ++ s :: B, t < 16 := fun t ht => by have := hgW.lt t ht; omega
        have := ord_lt (A ++ s :: B) (A ++ s :: B).length c h16' (by have := hgW.len; omega) hgW.len
        unfold ordN; omega
      · split
        · exact hv
        · split
          · exact hk
          · rw [← hWC]; exact hw i hi
end Go.Proofs.YtgdcjedcinapdaaGreat

/- The walk of Join of two valid nodes. -/
namespace Go.Proofs.YtgdcjedcinapdaaGreat
open Go.RowKit
attribute [local go_sem ↓] Go.wp_at_zero Go.wp_at_succ

/-- Slots and writes when i entries of the right node are in. -/
def joinSt (off : Nat) (V : Nat → Int) (sV : List Nat) (s0 : List Nat) : Nat → List Nat × List (Nat × Int)
  | 0 => (s0, [])
  | i + 1 => let st := joinSt off V sV s0 i
    (st.1 ++ [unusedN st.1], st.2 ++ [(off + 8 * (4 + unusedN st.1), V (4 + sV.getD i 0)), (off + 8 * (16 + unusedN st.1), V (16 + sV.getD i 0))])
theorem joinSt_len (off : Nat) (V : Nat → Int) (sV s0 : List Nat) (i : Nat) : (joinSt off V sV s0 i).1.length = s0.length + i ∧ (joinSt off V sV s0 i).2.length = 2 * i := by
  induction i with
  | zero => simp [joinSt]
  | succ i ih => simp [joinSt]; omega
theorem joinSt_lt (off : Nat) (V : Nat → Int) (sV s0 : List Nat) (i : Nat) (h : ∀ s ∈ s0, s < 12) (hl : s0.length + i ≤ 12) : ∀ s ∈ (joinSt off V sV s0 i).1, s < 12 := by
  induction i with
  | zero => exact h
  | succ i ih =>
    intro s hs
    simp only [joinSt, List.mem_append, List.mem_singleton] at hs
    rcases hs with hs | hs
    · exact ih (by omega) s hs
    · obtain ⟨f, h1, h2, h3⟩ := free_slot (joinSt off V sV s0 i).1 12 (by rw [(joinSt_len off V sV s0 i).1]; omega)
      rw [hs, unusedN_spec _ f (by omega) h2 h3]; exact h1
/-- The writes and the error of Join. -/
def joinP (W : Nat → Int) (off : Nat) (V : Nat → Int) : List (Nat × Int) × Nat :=
  let sW := slotsW W; let sV := slotsW V
  if 12 < sW.length + sV.length then ([], 4)
  else if 0 < sW.length ∧ 0 < sV.length ∧ keyAt V sV 0 ≤ keyAt W sW (sW.length - 1) then ([], 1)
  else ((joinSt off V sV sW sV.length).2 ++ [(off + 8, V 1), (off + 16, V 2), (off + 24, V 3), (off, (ordN (joinSt off V sV sW sV.length).1 ((W 0).toNat / 4503599627370496 + 1) : Nat))], 0)
/-- Writes and an error. -/
def WritesPost (w : World) (l : List (Nat × Int)) (e : Nat) (r : Ending) (w' : World) : Prop :=
  ∃ sv, r = .returned (.tuple #[sv, .int .i64 e]) ∧ Acc w w.heap.size w' 141 2 sv l.length (flat l)

section
variable {w : World} {v : DV} {own : Nat → Option Role} {D : Dev} {j p j2 p2 : Nat}
/-- Both nodes are read. -/
structure JoinAt (w : World) (v : DV) (j p cb db : Nat) (W V : Nat → Int) (wr : World) : Prop where
  contW : IsCont wr cb W (slotsW W) ((W 0).toNat / 4503599627370496)
  contV : IsCont wr db V (slotsW V) ((V 0).toNat / 4503599627370496)
  box : Blk wr w.heap.size #[.iface 76 (.pointer (some ⟨v.tb j, 0, none⟩)), .int .u64 p] 35
  bel : Below w.heap.size w wr
theorem JoinAt.next {cb db : Nat} {W V : Nat → Int} {w1 w2 : World} (h : JoinAt w v j p cb db W V w1) (hb : Below w1.heap.size w1 w2) : JoinAt w v j p cb db W V w2 :=
  ⟨h.contW.below hb, h.contV.below hb, h.box.below hb, h.bel.trans (hb.mono h.bel.size)⟩

theorem JoinAt.alloc {cb db : Nat} {W V : Nat → Int} {w1 : World} (h : JoinAt w v j p cb db W V w1) (o : Obj) : JoinAt w v j p cb db W V (w1.alloc o) := h.next (below_alloc w1 o)
theorem JoinAt.drew {cb db : Nat} {W V : Nat → Int} {w1 : World} (h : JoinAt w v j p cb db W V w1) : JoinAt w v j p cb db W V w1.drew := h.next ((Below.refl _ _).drew)
theorem JoinAt.cells {cb db : Nat} {W V : Nat → Int} {w1 : World} (h : JoinAt w v j p cb db W V w1) : w1.cell? ⟨w.heap.size, 0, none⟩ = some (.iface 76 (.pointer (some ⟨v.tb j, 0, none⟩))) ∧ w1.cell? ⟨w.heap.size, 1, none⟩ = some (.int .u64 p) := ⟨h.box.cell rfl, h.box.cell rfl⟩
theorem join_step {B : World} {wr : World} {off : Nat} {V : Nat → Int} {sV sW : List Nat} {i f t n : Nat} {sv wv : Value}
    (h : Pair B B.heap.size wr 3 1 sv (n + i + 1) (natsI (joinSt off V sV sW i).1 ++ [.int .i64 (f : Int)]) 141 2 wv (2 * i + 2) (flat (joinSt off V sV sW i).2 ++ flat [(off + 8 * (4 + f), V (4 + t)), (off + 8 * (16 + f), V (16 + t))]))
    (ht : sV[i]? = some t) (hf : unusedN (joinSt off V sV sW i).1 = f) :
    Pair B B.heap.size wr 3 1 sv (n + (i + 1)) (natsI (joinSt off V sV sW (i + 1)).1) 141 2 wv (2 * (i + 1)) (flat (joinSt off V sV sW (i + 1)).2) := by
  have e1 : (joinSt off V sV sW (i + 1)).1 = (joinSt off V sV sW i).1 ++ [f] := by simp only [joinSt, hf]
  have e2 : (joinSt off V sV sW (i + 1)).2 = (joinSt off V sV sW i).2 ++ [(off + 8 * (4 + f), V (4 + t)), (off + 8 * (16 + f), V (16 + t))] := by simp only [joinSt, hf, List.getD, ht, Option.getD_some]
  rw [e1, e2, flat_append, natsI_snoc]
  exact h
theorem JoinAt.cells6 {cb db ch : Nat} {W V : Nat → Int} {w1 : World} (h : JoinAt w v j p cb db W V w1) (hc : (W 0).toNat / 4503599627370496 = ch) : w1.cell? ⟨w.heap.size, 0, none⟩ = some (.iface 76 (.pointer (some ⟨v.tb j, 0, none⟩))) ∧ w1.cell? ⟨w.heap.size, 1, none⟩ = some (.int .u64 p) ∧
    w1.cell? ⟨db, 1, none⟩ = some (.int .u64 (V 1)) ∧ w1.cell? ⟨db, 2, none⟩ = some (.int .u64 (V 2)) ∧ w1.cell? ⟨db, 3, none⟩ = some (.int .u64 (V 3)) ∧ w1.cell? ⟨cb, 29, none⟩ = some (.int .u64 (ch : Int)) :=
  ⟨h.box.cell rfl, h.box.cell rfl, h.contV.words 1 (by omega), h.contV.words 2 (by omega), h.contV.words 3 (by omega), by rw [← hc]; exact h.contW.ch⟩
theorem below5 {W : World} (a b c d e : Obj) : Below W.heap.size W (((((W.alloc a).alloc b).alloc c).alloc d).alloc e).drew :=
  ((((((Below.refl _ W).alloc (Nat.le_refl _) a).alloc (by simp) b).alloc (by simp; omega) c).alloc (by simp; omega) d).alloc (by simp; omega) e).drew
theorem join_end {w w4 w10 : World} {wv : Value} {l l2 : List (Nat × Int)} {i : Nat} (hb : Below w.heap.size w w4) (h : Acc w4 w4.heap.size w10 141 2 wv (2 * i + l2.length) (flat l ++ flat l2)) (hl : l.length = 2 * i) :
    Acc w w.heap.size w10 141 2 wv (l ++ l2).length (flat (l ++ l2)) := by
  rw [List.length_append, hl, flat_append]
  exact ⟨h.own, fun g hg => Nat.le_trans hb.size (h.new g hg), hb.trans (h.bel.mono hb.size), Nat.le_trans hb.size h.lt⟩
/-- The slots are copied, no write is there. -/
theorem join_start {wr w5 : World} {c : Array Value} {t : TypeId} {v5 : Value} {n : Nat} {xs : List Value} (o5 : OwnSl w5 3 1 v5 n xs) (g5 : (wr.alloc (.cells c t)).grownBy w5 (Value.slice (some ⟨wr.heap.size, 0, none⟩) 0 0).ownBlock)
    (b5 : slAddr v5 = slAddr (.slice (some ⟨wr.heap.size, 0, none⟩) 0 0) ∨ slAddr v5 = some ⟨wr.heap.size + 1, 0, none⟩) :
    Pair wr wr.heap.size w5 3 1 v5 n xs 141 2 (.slice none 0 0) 0 [] := by
  have hb : Below wr.heap.size wr w5 := ⟨g5.os, g5.tape, g5.output, Nat.le_trans (by simp) g5.size, fun k hk => by
    rw [g5.block k (by simp; omega) (fun e => by simp [Value.ownBlock] at e; omega)]; exact Below.heap_alloc _ _ _ hk⟩
  refine ⟨⟨o5, fun g hg => ?_, hb, hb.size⟩, Acc.nil wr _ _ _ _ hb hb.size, fun g _ h => by simp [Value.ownBlock] at h⟩
  rcases b5 with b5 | b5
  · rw [ownBlock_addr, b5] at hg; simp [slAddr] at hg; omega
  · rw [ownBlock_addr, b5] at hg; simp at hg; omega

set_option maxRecDepth 100000 in
set_option maxHeartbeats 4000000 in
theorem join_ok (h : NodeAt w v own D j p) (h2 : NodeAt w v own D j2 p2) (ok1 : nodeOk (nodeW D p) (D.n * 64)) (ok2 : nodeOk (nodeW D p2) (D.n * 64)) :
    Calls Tryz.prog 23 #[.agg #[.iface 76 (.pointer (some ⟨v.tb j, 0, none⟩)), .int .u64 p], .agg #[.iface 76 (.pointer (some ⟨v.tb j2, 0, none⟩)), .int .u64 p2]] w
      (WritesPost w (joinP (nodeW D p) (ptrOff p) (nodeW D p2)).1 (joinP (nodeW D p) (ptrOff p) (nodeW D p2)).2) := by
  have H := Lib.hid h; have H2 := Lib.hid h2; have OK1 := Lib.hid ok1; have OK2 := Lib.hid ok2; clear h h2 ok1 ok2
  go_enter Tryz.func23, Tryz.ntmps23
  go_wp2_with fail
  (with_reducible refine ((H.out.alloc _).alloc _).read.mono ?_)
  rintro e w1 ⟨hb, ⟨_, cb, rfl, _, hc⟩ | ⟨hbad, rfl⟩⟩
  · have hb0 : Below w.heap.size w w1 := ((below_alloc w _).trans ((below_alloc _ _).mono (by simp))).trans (hb.mono (by simp; omega))
    have bx0 := ((Blk.new w #[.iface 76 (.pointer (some ⟨v.tb j, 0, none⟩)), .int .u64 p] 35).alloc (.cells #[.iface 76 (.pointer (some ⟨v.tb j2, 0, none⟩)), .int .u64 p2] 35)).below hb
    have bx1 : Blk w1 (w.heap.size + 1) #[.iface 76 (.pointer (some ⟨v.tb j2, 0, none⟩)), .int .u64 p2] 35 := by
      have := Blk.new (w.alloc (.cells #[.iface 76 (.pointer (some ⟨v.tb j, 0, none⟩)), .int .u64 p] 35)) #[.iface 76 (.pointer (some ⟨v.tb j2, 0, none⟩)), .int .u64 p2] 35
      rw [World.size_alloc] at this; exact this.below hb
    have l0 : w1.cell? ⟨w.heap.size + 1, 0, none⟩ = some (.iface 76 (.pointer (some ⟨v.tb j2, 0, none⟩))) := bx1.cell rfl
    have l1 : w1.cell? ⟨w.heap.size + 1, 1, none⟩ = some (.int .u64 p2) := bx1.cell rfl
    have HB := Lib.hid hb0; have HX := Lib.hid bx0
    have HC : Hid (IsCont w1 cb (nodeW D p) (slotsW (nodeW D p)) ((nodeW D p 0).toNat / 4503599627370496)) := hc
    clear hb hb0 bx0 bx1 hc
    go_wp2_with fail
    (with_reducible refine (H2.out.below HB.out).read.mono ?_)
    rintro e w2 ⟨hb2, ⟨_, db, rfl, _, hc2⟩ | ⟨hbad, rfl⟩⟩
    · have J2 : Hid (JoinAt w v j p cb db (nodeW D p) (nodeW D p2) w2) := ⟨HC.out.below hb2, hc2, HX.out.below hb2, HB.out.trans (hb2.mono HB.out.size)⟩
      clear hb2 hc2 HC HX HB l0 l1
      have hp := H.out.hp
      have hx0 : (nodeW D p 0).toNat < 18446744073709551616 := by have := H.out.hW 0 (by omega); omega
      generalize nodeW D p = W at *
      generalize nodeW D p2 = V at *
      clear OK1 OK2 H H2
      obtain ⟨sv, c28, hsv⟩ := J2.out.contW.sl
      obtain ⟨tv, d28, htv⟩ := J2.out.contV.sl
      obtain ⟨sa, sc, rfl⟩ : ∃ a c, sv = .slice a (slotsW W).length c := by obtain ⟨_, a, c, e, _⟩ := hsv; exact ⟨a, c, e⟩
      obtain ⟨ta, tc, rfl⟩ : ∃ a c, tv = .slice a (slotsW V).length c := by obtain ⟨_, a, c, e, _⟩ := htv; exact ⟨a, c, e⟩
      have HSV := Lib.hid hsv; clear hsv htv
      have hl1 := J2.out.contW.len; have hl2 := J2.out.contV.len
      by_cases hfull : 12 < (slotsW W).length + (slotsW V).length
      · have hfull' : (12 : Int) < ((slotsW W).length : Int) + ((slotsW V).length : Int) := by omega
        have e : joinP W (ptrOff p) V = ([], 4) := by unfold joinP; simp only []; rw [if_pos hfull]
        have E := Lib.hid e; clear e
        go_wp2_with fail
        go_quiet (fail)
        go_wp2_with fail
        go_ret2
        rw [E.out]
        exact ⟨_, rfl, Acc.nil w _ _ _ _ (J2.out.next (Qt.drewN _ _).below).bel (J2.out.next (Qt.drewN _ _).below).bel.size⟩
      · have hfull' : ¬ (12 : Int) < ((slotsW W).length : Int) + ((slotsW V).length : Int) := by omega
        go_wp2_with fail
        go_quiet (fail)
        go_upto_region 10 with fail
        obtain ⟨w3, hw3⟩ : ∃ w3, w2.drewN nq = w3 := ⟨_, rfl⟩
        rw [hw3]
        have J3 := Lib.hid (J2.out.next (Qt.drewN w2 nq).below)
        rw [hw3] at J3
        clear J2 hw3 c28 d28 HSV
        go_cut [59] (fun t wx => t = .bool (decide (0 < (slotsW W).length ∧ 0 < (slotsW V).length ∧ keyAt V (slotsW V) 0 ≤ keyAt W (slotsW W) ((slotsW W).length - 1))) ∧ JoinAt w v j p cb db W V wx)
        case first =>
          have HK0 := Lib.hid (fun wx (hx : JoinAt w v j p cb db W V wx) (hm : 0 < (slotsW V).length) => key_at hx.contV 0 hm)
          have HK1 := Lib.hid (fun wx (hx : JoinAt w v j p cb db W V wx) (hn : 0 < (slotsW W).length) => key_at hx.contW ((slotsW W).length - 1) (by omega))
          generalize hk0 : keyAt V (slotsW V) 0 = k0 at *
          generalize hk1 : keyAt W (slotsW W) ((slotsW W).length - 1) = k1 at *
          clear hk0 hk1
          generalize hn : (slotsW W).length = n at *
          generalize hm : (slotsW V).length = m at *
          clear hn hm
          by_cases hn0 : 0 < n
          · have hn0' : (0 : Int) < n := by omega
            by_cases hm0 : 0 < m
            · have hm0' : (0 : Int) < m := by omega
              have hA := HK0.out w3 J3.out hm0
              rw [show ((0 : Nat) : Int) = 0 from rfl] at hA
              have HA := Lib.hid hA; clear hA
              go_wp2_with fail
              (with_reducible refine HA.out.mono ?_)
              rintro e w4 ⟨rfl, q4⟩
              have J4 := Lib.hid (J3.out.next q4.below); clear q4 J3 HA
              have hA := HK1.out w4 J4.out hn0
              rw [show ((n - 1 : Nat) : Int) = (n : Int) - 1 by omega] at hA
              have HA := Lib.hid hA; clear hA
              go_wp2_with fail
              (with_reducible refine HA.out.mono ?_)
              rintro e w5 ⟨rfl, q5⟩
              have J5 := Lib.hid (J4.out.next q5.below); clear q5 J4 HA
              go_wp2_with fail
              go_meet
              exact ⟨by congr 1; simp [hn0, hm0], J5.out⟩
            · have hm0' : ¬ (0 : Int) < m := by omega
              go_wp2_with fail
              go_meet
              exact ⟨by congr 1; simp [hm0], J3.out⟩
          · have hn0' : ¬ (0 : Int) < n := by omega
            go_wp2_with fail
            go_meet
            exact ⟨by congr 1; simp [hn0], J3.out⟩
        case rest =>
          obtain ⟨rfl, j4⟩ := hcut
          obtain ⟨w4, hw4⟩ : ∃ x, x = wc := ⟨_, rfl⟩
          subst hw4
          have J4 := Lib.hid j4; clear j4 J3
          by_cases hord : 0 < (slotsW W).length ∧ 0 < (slotsW V).length ∧ keyAt V (slotsW V) 0 ≤ keyAt W (slotsW W) ((slotsW W).length - 1)
          · have hd : decide (0 < (slotsW W).length ∧ 0 < (slotsW V).length ∧ keyAt V (slotsW V) 0 ≤ keyAt W (slotsW W) ((slotsW W).length - 1)) = true := by simpa using hord
            rw [hd]
            have E : Hid (joinP W (ptrOff p) V = ([], 1)) := by show joinP W (ptrOff p) V = _; unfold joinP; simp only []; rw [if_neg hfull, if_pos hord]
            clear hd hord
            go_wp2_with fail
            go_ret2
            rw [E.out]
            exact ⟨_, rfl, Acc.nil w _ _ _ _ J4.out.bel J4.out.bel.size⟩
          · have hd : decide (0 < (slotsW W).length ∧ 0 < (slotsW V).length ∧ keyAt V (slotsW V) 0 ≤ keyAt W (slotsW W) ((slotsW W).length - 1)) = false := by simpa using hord
            rw [hd]
            have E : Hid (joinP W (ptrOff p) V = ((joinSt (ptrOff p) V (slotsW V) (slotsW W) (slotsW V).length).2 ++ [(ptrOff p + 8, V 1), (ptrOff p + 16, V 2), (ptrOff p + 24, V 3), (ptrOff p, (ordN (joinSt (ptrOff p) V (slotsW V) (slotsW W) (slotsW V).length).1 ((W 0).toNat / 4503599627370496 + 1) : Nat))], 0)) := by
              show joinP W (ptrOff p) V = _; unfold joinP; simp only []; rw [if_neg hfull, if_neg hord]
            clear hd hord
            obtain ⟨sv4, c28, hsv4⟩ := J4.out.contW.sl
            obtain ⟨sa4, sc4, rfl⟩ : ∃ a c, sv4 = .slice a (slotsW W).length c := by obtain ⟨_, a, c, e, _⟩ := hsv4; exact ⟨a, c, e⟩
            have HSV := Lib.hid hsv4; clear hsv4
            have hcb : cb < w4.heap.size := by obtain ⟨c, hc⟩ := J4.out.contW.ty; exact hc.lt
            have hcb2 : ¬ cb = w4.heap.size := by omega
            obtain ⟨i0, hi0, hz0, hz1, hz2⟩ := info_parts infoInt
            have I := Lib.hid (And.intro hi0 (And.intro hz0 (And.intro hz1 hz2))); clear hi0 hz0 hz1 hz2
            have hlt12 := Lib.hid J4.out.contW.lt12
            generalize hn : (slotsW W).length = n at *
            generalize hm : (slotsW V).length = m at *
            have HN := Lib.hid (And.intro hn hm); clear hn hm
            go_wp2_with (at_builtin; refine wpList_append_sl _ rfl _ _ 113 rfl 3 i0 _ 1 8 Tryz.underlying113 I.out.1 I.out.2.1 I.out.2.2.1 I.out.2.2.2 rfl (by decide) _ 0 [] rfl (by exact OwnSl.new _ _ _ 1 0 0 rfl (Nat.le_refl _) (Nat.zero_le _)) _ n (natsI (slotsW W)) rfl (by exact HSV.out.alloc _) (natsI_one _) (by unfold maxLen; omega) (by omega) ?_)
            intro v5 w5 o5 g5 b5 n5
            have P5 := Lib.hid (join_start (wr := w4) o5 g5 b5)
            clear o5 g5 b5 n5 c28 HSV
            obtain ⟨va5, vc5, hv5⟩ := P5.out.a.slice
            subst hv5
            go_wp2_with fail
            go_loopw [11, 12, 67] (fun sv wv x wr => ∃ i : Nat, i ≤ m ∧ x = .int .i64 i ∧ Pair w4 w4.heap.size wr 3 1 sv (n + i) (natsI (joinSt (ptrOff p) V (slotsW V) (slotsW W) i).1) 141 2 wv (2 * i) (flat (joinSt (ptrOff p) V (slotsW V) (slotsW W) i).2)) (fun _ _ x _ => m - (intOf x).toNat)
            case atStart => exact ⟨0, by omega, rfl, P5.out⟩
            case round =>
              obtain ⟨i, hi, rfl, hP⟩ := hrel
              obtain ⟨va, vc, rfl⟩ := hP.a.slice
              obtain ⟨wa, wcp, rfl⟩ := hP.b.slice
              have P := Lib.hid hP; clear hP P5
              by_cases hlt : i < m
              · have hjl := (joinSt_len (ptrOff p) V (slotsW V) (slotsW W) i).1
                have hj12 := joinSt_lt (ptrOff p) V (slotsW V) (slotsW W) i hlt12.out (by rw [HN.out.1]; omega)
                rw [HN.out.1] at hjl
                have hU := unused_any (w := wr) _ _ (show RdSl wr 1 (.slice va (n + i) vc) (joinSt (ptrOff p) V (slotsW V) (slotsW W) i).1.length (natsI (joinSt (ptrOff p) V (slotsW V) (slotsW W) i).1) by rw [hjl]; exact P.out.a.rd) hj12 (by omega)
                have HU := Lib.hid hU; have HJ := Lib.hid (And.intro hjl hj12); clear hU hjl hj12
                go_wp2_with fail
                (with_reducible refine HU.out.mono ?_)
                rintro e w6 ⟨rfl, hs12, hsn, hb6⟩
                have P6 := Lib.hid (P.out.keep hb6); clear hb6 P HU
                generalize hfs : unusedN (joinSt (ptrOff p) V (slotsW V) (slotsW W) i).1 = f at *
                have HFS := Lib.hid hfs; clear hfs
                go_wp2_with (at_builtin; refine wpList_append_sl _ rfl _ _ 113 rfl 3 i0 _ 1 8 Tryz.underlying113 I.out.1 I.out.2.1 I.out.2.2.1 I.out.2.2.2 rfl (by decide) _ (n + i) (natsI (joinSt (ptrOff p) V (slotsW V) (slotsW W) i).1) rfl (by exact P6.out.a.own.alloc _) _ 1 _ rfl (by exact RdSl.newAt _ _ _ 1 1 _ rfl rfl) (one_int _ _) (by unfold maxLen; omega) (by omega) ?_)
                intro v7 w7 o7 g7 b7 n7
                have P7 := Lib.hid (P6.out.left (below_alloc _ _) o7 g7 b7 (by simp))
                clear o7 g7 b7 n7 P6
                obtain ⟨va7, vc7, rfl⟩ := P7.out.a.slice
                obtain ⟨t, ht⟩ : ∃ t, (slotsW V)[i]? = some t := ⟨_, List.getElem?_eq_getElem (by rw [HN.out.2]; exact hlt)⟩
                have J7 := Lib.hid (J4.out.next P7.out.a.bel)
                have L4 := Lib.hid (fun wx => leafAt_int (w := wx) (v := v) (j := j) p 4 f 4 rfl hp hs12 (by omega))
                have L16 := Lib.hid (fun wx => leafAt_int (w := wx) (v := v) (j := j) p 16 f 16 rfl hp hs12 (by omega))
                have HK := Lib.hid (fun wx (hx : IsCont wx db V (slotsW V) ((V 0).toNat / 4503599627370496)) => key_any hx i t ht)
                have HV := Lib.hid (fun wx (hx : IsCont wx db V (slotsW V) ((V 0).toNat / 4503599627370496)) => value_any hx i t ht)
                have HT := Lib.hid ht; clear ht
                obtain ⟨k0, hi0, hz0, hz1, hz2⟩ := info_parts infoWrite
                have I2 := Lib.hid (And.intro hi0 (And.intro hz0 (And.intro hz1 hz2))); clear hi0 hz0 hz1 hz2
                have y1 : IntKind.i64.wrap (4 + (f : Int)) = 4 + (f : Int) := IntWalk.i64_in _ (by omega)
                have y2 : IntKind.i64.wrap (16 + (f : Int)) = 16 + (f : Int) := IntWalk.i64_in _ (by omega)
                go_wp2_with fail
                go_region_held3 (fun wx => wx.cell? ⟨w.heap.size, 0, none⟩ = some (.iface 76 (.pointer (some ⟨v.tb j, 0, none⟩))) ∧ wx.cell? ⟨w.heap.size, 1, none⟩ = some (.int .u64 p)) (first | exact J10.out.cells | exact (J9.out.alloc _).cells | exact J9.out.cells | exact J8.out.cells | exact J7.out.cells | exact (J8.out.alloc _).cells | exact (J7.out.alloc _).cells) (first | (go_at_call 68; (with_reducible refine (L4.out _).mono ?_); rintro e w' ⟨rfl, rfl⟩) | (go_at_call 68; (with_reducible refine (L16.out _).mono ?_); rintro e w' ⟨rfl, rfl⟩) | (go_at_call 74; (with_reducible refine (HK.out _ (by exact (J7.out.alloc _).drew.contV)).mono ?_); rintro e w8 ⟨rfl, q8⟩; have J8 := Lib.hid ((J7.out.alloc _).drew.next q8.below); have P8 := Lib.hid ((P7.out.keep (below_alloc_drew _ _)).keep q8.below); clear q8) | (go_at_call 66; (with_reducible refine (HV.out _ (by exact (J8.out.alloc _).contV)).mono ?_); rintro e w9 ⟨rfl, q9⟩; have J9 := Lib.hid ((J8.out.alloc _).next q9.below); have P9 := Lib.hid ((P8.out.keep (below_alloc _ _)).keep q9.below); clear q9) | (refine step_append_sl rfl (.tmp 76) (.tmp 93) 59 rfl 141 k0 _ 2 16 Tryz.underlying59 I2.out.1 I2.out.2.1 I2.out.2.2.1 I2.out.2.2.2 rfl (by decide) _ (2 * i) (flat (joinSt (ptrOff p) V (slotsW V) (slotsW W) i).2) rfl (by exact P9.out.b.own.alloc _) _ 2 (flat [(ptrOff p + 8 * (4 + f), V (4 + t)), (ptrOff p + 8 * (16 + f), V (16 + t))]) rfl (by exact RdSl.newAt _ _ _ 2 2 _ (by simp) rfl) (flat_one _) (by unfold maxLen; omega) (by omega) ?_; intro v10 w10 o10 g10 b10; have P10 := Lib.hid (P9.out.swap.left (below_alloc _ _) o10 g10 b10 (by simp)); have J10 := Lib.hid (J4.out.next P10.out.a.bel); clear o10 g10 b10))
                all_goals go_wp2_with fail
                all_goals
                  go_roundw
                  case rel => exact ⟨i + 1, by omega, by go_num, join_step P10.out.swap HT.out HFS.out⟩
                  case measure => simp [intOf]; omega
              · obtain rfl : i = m := by omega
                have J6 := Lib.hid (J4.out.next P.out.a.bel)
                have hjl := (joinSt_len (ptrOff p) V (slotsW V) (slotsW W) i)
                have hj12 := joinSt_lt (ptrOff p) V (slotsW V) (slotsW W) i hlt12.out (by rw [HN.out.1]; omega)
                rw [HN.out.1] at hjl
                generalize hch : (W 0).toNat / 4503599627370496 = ch at *
                have hch4 : ch < 4096 := by omega
                have L1 : Hid (∀ wx, Calls Tryz.prog 68 #[.agg #[.iface 76 (.pointer (some ⟨v.tb j, 0, none⟩)), .int .u64 p], .int .i64 1] wx fun r w' => r = .returned (.int .u64 (ptrOff p + 8 : Nat)) ∧ wx.alloc (.cells #[.iface 76 (.pointer (some ⟨v.tb j, 0, none⟩)), .int .u64 p] 35) = w') := fun wx => leafAt_any _ p 1 hp (by omega) (.inr ⟨_, _, rfl⟩)
                have L2 : Hid (∀ wx, Calls Tryz.prog 68 #[.agg #[.iface 76 (.pointer (some ⟨v.tb j, 0, none⟩)), .int .u64 p], .int .i64 2] wx fun r w' => r = .returned (.int .u64 (ptrOff p + 16 : Nat)) ∧ wx.alloc (.cells #[.iface 76 (.pointer (some ⟨v.tb j, 0, none⟩)), .int .u64 p] 35) = w') := fun wx => leafAt_any _ p 2 hp (by omega) (.inr ⟨_, _, rfl⟩)
                have L3 : Hid (∀ wx, Calls Tryz.prog 68 #[.agg #[.iface 76 (.pointer (some ⟨v.tb j, 0, none⟩)), .int .u64 p], .int .i64 3] wx fun r w' => r = .returned (.int .u64 (ptrOff p + 24 : Nat)) ∧ wx.alloc (.cells #[.iface 76 (.pointer (some ⟨v.tb j, 0, none⟩)), .int .u64 p] 35) = w') := fun wx => leafAt_any _ p 3 hp (by omega) (.inr ⟨_, _, rfl⟩)
                have L0 := Lib.hid (fun wx => leafAt_zero (w := wx) (v := v) (j := j) p hp)
                have hO := fun wx nv (h : RdSl wx 1 nv (joinSt (ptrOff p) V (slotsW V) (slotsW W) i).1.length (natsI (joinSt (ptrOff p) V (slotsW V) (slotsW W) i).1)) => order_any (w := wx) nv (joinSt (ptrOff p) V (slotsW V) (slotsW W) i).1 (ch + 1) h (by omega) (fun s hs => by have := hj12 s hs; omega) (by omega)
                rw [show ((ch + 1 : Nat) : Int) = (ch : Int) + 1 by omega] at hO
                have HO := Lib.hid hO; clear hO
                obtain ⟨k0, hi0, hz0, hz1, hz2⟩ := info_parts infoWrite
                have I2 := Lib.hid (And.intro hi0 (And.intro hz0 (And.intro hz1 hz2))); clear hi0 hz0 hz1 hz2
                have y1 : IntKind.u64.wrap ((ch : Int) + 1) = (ch : Int) + 1 := IntWalk.u64_in _ (by omega)
                have HCH := Lib.hid hch; have HJL := Lib.hid hjl; clear hch hjl hj12
                go_wp2_with fail
                go_region_held3 (fun wx => wx.cell? ⟨w.heap.size, 0, none⟩ = some (.iface 76 (.pointer (some ⟨v.tb j, 0, none⟩))) ∧ wx.cell? ⟨w.heap.size, 1, none⟩ = some (.int .u64 p) ∧ wx.cell? ⟨db, 1, none⟩ = some (.int .u64 (V 1)) ∧ wx.cell? ⟨db, 2, none⟩ = some (.int .u64 (V 2)) ∧ wx.cell? ⟨db, 3, none⟩ = some (.int .u64 (V 3)) ∧ wx.cell? ⟨cb, 29, none⟩ = some (.int .u64 (ch : Int))) (first | with_reducible exact J10.out.cells6 HCH.out | ((with_reducible refine JoinAt.cells6 ?_ HCH.out); (repeat (first | (with_reducible exact J6.out) | (with_reducible refine JoinAt.drew ?_) | (with_reducible refine JoinAt.alloc ?_ _))))) (first | (go_at_call 68; (with_reducible refine (L1.out _).mono ?_); rintro e w' ⟨rfl, rfl⟩) | (go_at_call 68; (with_reducible refine (L2.out _).mono ?_); rintro e w' ⟨rfl, rfl⟩) | (go_at_call 68; (with_reducible refine (L3.out _).mono ?_); rintro e w' ⟨rfl, rfl⟩) | (go_at_call 68; (with_reducible refine (L0.out _).mono ?_); rintro e w' ⟨rfl, rfl⟩) | (go_at_call 71; (with_reducible refine (HO.out _ _ (by rw [HJL.out.1]; (repeat (first | (with_reducible exact P.out.a.rd) | (with_reducible refine RdSl.drew ?_) | (with_reducible refine RdSl.alloc ?_ _))))).mono ?_); rintro e w' ⟨rfl, rfl⟩) | (refine step_append_sl rfl (.tmp 96) (.tmp 131) 59 rfl 141 k0 _ 2 16 Tryz.underlying59 I2.out.1 I2.out.2.1 I2.out.2.2.1 I2.out.2.2.2 rfl (by decide) _ (2 * i) (flat (joinSt (ptrOff p) V (slotsW V) (slotsW W) i).2) rfl (by (repeat (first | (with_reducible refine OwnSl.drew ?_) | (with_reducible refine OwnSl.alloc ?_ _) | exact P.out.b.own | (with_reducible refine OwnSl.drew ?_) | (with_reducible refine OwnSl.alloc ?_ _)))) _ 4 (flat [(ptrOff p + 8, V 1), (ptrOff p + 16, V 2), (ptrOff p + 24, V 3), (ptrOff p, ((ordN (joinSt (ptrOff p) V (slotsW V) (slotsW W) i).1 (ch + 1) : Nat) : Int))]) rfl (by exact (RdSl.newAt _ _ _ 2 4 _ (by simp) rfl).drew) (flat_one _) (by unfold maxLen; omega) (by omega) ?_; intro v10 w10 o10 g10 b10; have P10 := Lib.hid ((P.out.swap.keep (below5 _ _ _ _ _)).a.next (Below.refl _ _) o10 g10 b10 (by simp)); have J10 := Lib.hid (J4.out.next P10.out.bel); clear o10 g10 b10))
                all_goals go_wp2_with fail
                all_goals go_ret2
                all_goals rw [E.out]
                all_goals exact ⟨_, rfl, join_end J4.out.bel P10.out HJL.out.2⟩
    · exact absurd OK2.out hbad
  · exact absurd OK1.out hbad
end
end Go.Proofs.YtgdcjedcinapdaaGreat

/- The reference's readers of a node's words: Len, Slot, Key, Value, Entries, slots, free, count. -/
namespace Go.Proofs.YtgdcjedcinapdaaGreat
open Go.RowKit

theorem entC_one (l : List (Int × Int)) : ∀ u ∈ entC l, u.oneCell' = true := by
  intro u hu
  simp [entC] at hu
  obtain ⟨a, b, _, rfl | rfl⟩ := hu <;> rfl
def listW (W : Nat → Int) : List Int := (List.range 28).map W
/-- The slice value sv reads as the words W of a node whose permutation is x. -/
structure RefIn (w : World) (sv : Value) (W : Nat → Int) (x : Nat) : Prop where
  rd : RdSl w 1 sv 28 (intsU (listW W))
  w0 : W 0 = x
  lt : x < 18446744073709551616
  ok : parseOk x
section
variable {w : World} {sv : Value} {W : Nat → Int} {x : Nat}
theorem RefIn.below {w' : World} (h : RefIn w sv W x) (hb : Below w.heap.size w w') : RefIn w' sv W x := ⟨h.rd.below hb, h.w0, h.lt, h.ok⟩
theorem RefIn.slice (h : RefIn w sv W x) : ∃ b o c, sv = .slice (some ⟨b, o, none⟩) 28 c ∧ 28 ≤ c ∧ ∀ i, i < 28 → w.cell? ⟨b, o + i, none⟩ = some (.int .u64 (W i)) := by
  obtain ⟨b, o, c, rfl, hc, hx⟩ := rd_some h.rd (by simp [intsU, listW])
  exact ⟨b, o, c, rfl, hc, fun i hi => hx i _ (by simp [intsU, listW, hi])⟩
theorem RefIn.nib (h : RefIn w sv W x) (i : Nat) (hi : i < x % 16) : nib x i < 12 := ((h.ok.2 i (by have := h.ok.1; omega)).2 hi).1

set_option maxRecDepth 100000 in
set_option maxHeartbeats 1000000 in
theorem refLen_any (h : RefIn w sv W x) : Calls Tryz.prog 57 #[sv] w fun r w' => r = .returned (.int .i64 (x % 16 : Nat)) ∧ w = w' := by
  obtain ⟨b, o, c, rfl, hc, hx⟩ := h.slice
  have c0 := hx 0 (by omega)
  rw [h.w0, Nat.add_zero] at c0
  have hl := h.lt
  clear hx h
  go_enter Tryz.func57, Tryz.ntmps57
  go_wp2_with fail
  go_ret
  exact ⟨ret_int (by omega), rfl⟩
set_option maxRecDepth 100000 in
set_option maxHeartbeats 1000000 in
theorem refCount_any (h : RefIn w sv W x) : Calls Tryz.prog 81 #[sv] w fun r w' => r = .returned (.int .u64 (x / 4503599627370496 : Nat)) ∧ w = w' := by
  obtain ⟨b, o, c, rfl, hc, hx⟩ := h.slice
  have c0 := hx 0 (by omega)
  rw [h.w0, Nat.add_zero] at c0
  have hl := h.lt
  clear hx h
  go_enter Tryz.func81, Tryz.ntmps81
  go_wp2_with fail
  go_ret
  exact ⟨ret_int (by omega), rfl⟩
theorem nib_div (x i : Nat) : x / 16 ^ (i + 1) % 16 = Go.Proofs.YtgdcjedcinapdaaGreat.nib x i := by unfold Go.Proofs.YtgdcjedcinapdaaGreat.nib; rw [pow16, show 4 * (i + 1) = 4 + 4 * i by omega]
set_option maxRecDepth 100000 in
set_option maxHeartbeats 1000000 in
theorem refSlot_any (h : RefIn w sv W x) (i : Nat) (hi : i < 1000) : Calls Tryz.prog 60 #[sv, .int .i64 i] w fun r w' => r = .returned (.int .i64 (Go.Proofs.YtgdcjedcinapdaaGreat.nib x i : Nat)) ∧ w = w' := by
  obtain ⟨b, o, c, rfl, hc, hx⟩ := h.slice
  have c0 := hx 0 (by omega)
  rw [h.w0, Nat.add_zero] at c0
  have hl := h.lt
  clear hx h
  go_enter Tryz.func60, Tryz.ntmps60
  go_wp2_with fail
  go_loop [5, 6] (fun y k => ∃ m : Nat, m ≤ i + 1 ∧ k = .int .i64 m ∧ y = .int .u64 (x / 16 ^ m : Nat)) (fun _ k => i + 1 - (intOf k).toNat)
  case atStart => exact ⟨0, by omega, rfl, by simp⟩
  case round =>
    obtain ⟨m, hm, rfl, rfl⟩ := hrel
    have hxm : x / 16 ^ m ≤ x := Nat.div_le_self _ _
    have hsucc : x / 16 ^ (m + 1) = x / 16 ^ m / 16 := by rw [Nat.pow_succ, Nat.div_div_eq_div_mul]
    have HS := Lib.hid hsucc; clear hsucc
    have HE := Lib.hid (nib_div x i)
    by_cases hlt : m ≤ i
    · have hlt' : (m : Int) ≤ i := by omega
      generalize x / 16 ^ m = y at *
      go_wp2_with fail
      go_round
      case rel => exact ⟨m + 1, by omega, by go_num, by rw [HS.out]; congr 1⟩
      case measure => simp [intOf]; omega
    · obtain rfl : m = i + 1 := by omega
      have hlt' : ¬ ((i + 1 : Nat) : Int) ≤ i := by omega
      generalize x / 16 ^ (i + 1) = y at *
      go_wp2_with fail
      go_ret
      exact ⟨ret_int (by rw [← HE.out]; omega), rfl⟩
set_option maxRecDepth 100000 in
set_option maxHeartbeats 1000000 in
theorem refKey_any (h : RefIn w sv W x) (i : Nat) (hi : i < x % 16) : Calls Tryz.prog 61 #[sv, .int .i64 i] w fun r w' => r = .returned (.int .u64 (W (4 + Go.Proofs.YtgdcjedcinapdaaGreat.nib x i))) ∧ w = w' := by
  have hn := h.nib i hi
  have HS := Lib.hid (refSlot_any h i (by omega))
  obtain ⟨b, o, c, rfl, hc, hx⟩ := h.slice
  generalize Go.Proofs.YtgdcjedcinapdaaGreat.nib x i = s at *
  have c0 := hx (4 + s) (by omega)
  clear hx h
  go_enter Tryz.func61, Tryz.ntmps61
  go_wp2_with (go_at_call 60; (with_reducible refine HS.out.mono ?_); rintro e w' ⟨rfl, rfl⟩)
  go_ret
  exact ⟨rfl, rfl⟩
set_option maxRecDepth 100000 in
set_option maxHeartbeats 1000000 in
theorem refValue_any (h : RefIn w sv W x) (i : Nat) (hi : i < x % 16) : Calls Tryz.prog 64 #[sv, .int .i64 i] w fun r w' => r = .returned (.int .u64 (W (16 + Go.Proofs.YtgdcjedcinapdaaGreat.nib x i))) ∧ w = w' := by
  have hn := h.nib i hi
  have HS := Lib.hid (refSlot_any h i (by omega))
  obtain ⟨b, o, c, rfl, hc, hx⟩ := h.slice
  generalize Go.Proofs.YtgdcjedcinapdaaGreat.nib x i = s at *
  have c0 := hx (16 + s) (by omega)
  clear hx h
  go_enter Tryz.func64, Tryz.ntmps64
  go_wp2_with (go_at_call 60; (with_reducible refine HS.out.mono ?_); rintro e w' ⟨rfl, rfl⟩)
  go_ret
  exact ⟨rfl, rfl⟩

set_option maxRecDepth 100000 in
set_option maxHeartbeats 2000000 in
theorem refSlots_any (h : RefIn w sv W x) : Calls Tryz.prog 76 #[sv] w fun r w' => ∃ lv, r = .returned lv ∧ Acc w w.heap.size w' 3 1 lv (slotsN x (x % 16)).length (natsI (slotsN x (x % 16))) := by
  have hl := h.ok.1
  obtain ⟨b, o, c, rfl, hc, hx⟩ := h.slice
  clear hx
  have H := Lib.hid h; clear h
  obtain ⟨i0, hi0, hz0, hz1, hz2⟩ := info_parts infoInt
  have I := Lib.hid (And.intro hi0 (And.intro hz0 (And.intro hz1 hz2))); clear hi0 hz0 hz1 hz2
  generalize hm : x % 16 = m at *
  have HM := Lib.hid hm; clear hm
  go_enter Tryz.func76, Tryz.ntmps76
  go_wp2_with fail
  go_loopw [3, 4] (fun lv y wr => ∃ k : Nat, k ≤ m ∧ y = .int .i64 k ∧ Acc w w.heap.size wr 3 1 lv k (natsI (slotsN x k))) (fun _ y _ => m - (intOf y).toNat)
  case atStart => exact ⟨0, by omega, rfl, Acc.nil w _ _ _ _ (Below.refl _ _) (Nat.le_refl _)⟩
  case round =>
    obtain ⟨k, hk, rfl, ha⟩ := hrel
    obtain ⟨la, lc, rfl⟩ := ha.slice
    have A := Lib.hid ha; clear ha
    have hL := refLen_any (H.out.below A.out.bel)
    rw [HM.out] at hL
    have HL := Lib.hid hL; clear hL
    by_cases hlt : k < m
    · have HS := Lib.hid (refSlot_any (H.out.below A.out.bel) k (by omega))
      go_wp2_with fail
      (with_reducible refine HL.out.mono ?_)
      rintro e w' ⟨rfl, rfl⟩
      go_wp2_with fail
      (with_reducible refine HS.out.mono ?_)
      rintro e w' ⟨rfl, rfl⟩
      go_wp2_with (at_builtin; refine wpList_append_sl _ rfl _ _ 113 rfl 3 i0 _ 1 8 Tryz.underlying113 I.out.1 I.out.2.1 I.out.2.2.1 I.out.2.2.2 rfl (by decide) _ k (natsI (slotsN x k)) rfl (by exact A.out.own.alloc _) _ 1 _ rfl (by exact RdSl.newAt _ _ _ 1 1 _ rfl rfl) (one_int _ _) (by unfold maxLen; omega) (by omega) ?_)
      intro v1 w1 o1 g1 b1 n1
      have A1 := Lib.hid (A.out.next (below_alloc _ _) o1 g1 b1 (by simp)); clear o1 g1 b1 n1
      go_wp2_with fail
      go_roundw
      case rel => exact ⟨k + 1, by omega, by go_num, A1.out.congr rfl (by rw [slotsN_succ]; simp [natsI])⟩
      case measure => simp [intOf]; omega
    · obtain rfl : k = m := by omega
      go_wp2_with fail
      (with_reducible refine HL.out.mono ?_)
      rintro e w' ⟨rfl, rfl⟩
      go_wp2_with fail
      go_ret
      exact ⟨_, rfl, A.out.congr (by simp [slotsN]) rfl⟩

set_option maxRecDepth 100000 in
set_option maxHeartbeats 2000000 in
theorem refEntries_any (h : RefIn w sv W x) : Calls Tryz.prog 17 #[sv] w fun r w' => ∃ lv, r = .returned lv ∧ Acc w w.heap.size w' 94 2 lv (slotsN x (x % 16)).length (entC (entsW W (slotsN x (x % 16)))) := by
  have hl := h.ok.1
  obtain ⟨b, o, c, rfl, hc, hx⟩ := h.slice
  clear hx
  have H := Lib.hid h; clear h
  obtain ⟨i0, hi0, hz0, hz1, hz2⟩ := info_parts infoEntry
  have I := Lib.hid (And.intro hi0 (And.intro hz0 (And.intro hz1 hz2))); clear hi0 hz0 hz1 hz2
  generalize hm : x % 16 = m at *
  have HM := Lib.hid hm; clear hm
  go_enter Tryz.func17, Tryz.ntmps17
  go_wp2_with fail
  go_loopw [3, 4] (fun lv y wr => ∃ k : Nat, k ≤ m ∧ y = .int .i64 k ∧ Acc w w.heap.size wr 94 2 lv k (entC (entsW W (slotsN x k)))) (fun _ y _ => m - (intOf y).toNat)
  case atStart => exact ⟨0, by omega, rfl, Acc.nil w _ _ _ _ (Below.refl _ _) (Nat.le_refl _)⟩
  case round =>
    obtain ⟨k, hk, rfl, ha⟩ := hrel
    obtain ⟨la, lc, rfl⟩ := ha.slice
    have A := Lib.hid ha; clear ha
    have hL := refLen_any (H.out.below A.out.bel)
    rw [HM.out] at hL
    have HL := Lib.hid hL; clear hL
    by_cases hlt : k < m
    · have HK := Lib.hid (refKey_any (H.out.below A.out.bel) k (by rw [HM.out]; exact hlt))
      have HV := Lib.hid (refValue_any (H.out.below A.out.bel) k (by rw [HM.out]; exact hlt))
      go_wp2_with fail
      (with_reducible refine HL.out.mono ?_)
      rintro e w' ⟨rfl, rfl⟩
      go_wp2_with fail
      (with_reducible refine HK.out.mono ?_)
      rintro e w' ⟨rfl, rfl⟩
      go_wp2_with fail
      (with_reducible refine HV.out.mono ?_)
      rintro e w' ⟨rfl, rfl⟩
      go_wp2_with (at_builtin; refine wpList_append_sl _ rfl _ _ 47 rfl 94 i0 _ 2 16 Tryz.underlying47 I.out.1 I.out.2.1 I.out.2.2.1 I.out.2.2.2 rfl (by decide) _ k (entC (entsW W (slotsN x k))) rfl (by exact A.out.own.alloc _) _ 1 (entC [(W (4 + Go.Proofs.YtgdcjedcinapdaaGreat.nib x k), W (16 + Go.Proofs.YtgdcjedcinapdaaGreat.nib x k))]) rfl (by exact RdSl.newAt _ _ _ 2 1 _ rfl rfl) (entC_one _) (by unfold maxLen; omega) (by omega) ?_)
      intro v1 w1 o1 g1 b1 n1
      have A1 := Lib.hid (A.out.next (below_alloc _ _) o1 g1 b1 (by simp)); clear o1 g1 b1 n1
      go_wp2_with fail
      go_roundw
      case rel => exact ⟨k + 1, by omega, by go_num, A1.out.congr rfl (by rw [slotsN_succ, ← entC_append]; simp [entsW])⟩
      case measure => simp [intOf]; omega
    · obtain rfl : k = m := by omega
      go_wp2_with fail
      (with_reducible refine HL.out.mono ?_)
      rintro e w' ⟨rfl, rfl⟩
      go_wp2_with fail
      go_ret
      exact ⟨_, rfl, A.out.congr (by simp [slotsN]) rfl⟩
end
end Go.Proofs.YtgdcjedcinapdaaGreat

/- The walk of LeafRefuses. -/
namespace Go.Proofs.YtgdcjedcinapdaaGreat
open Go.RowKit

theorem DPost.from {v : DV} {own : Nat → Option Role} {w w' : World} {D' : Dev} {B : Nat} (h : DPost v own w D' w') (ho : ∀ k, own k ≠ none → B ≤ k) (hB : B ≤ w.heap.size) :
    ∃ own', IsDev w' v own' D' ∧ (∀ k, own' k ≠ none → B ≤ k) ∧ Below B w w' := by
  obtain ⟨own', h1, h2, h3⟩ := h
  refine ⟨own', h1, fun k hk => ?_, ⟨h3.os, h3.tape, h3.output, h3.size, fun k hk => h3.block k (Nat.lt_of_lt_of_le hk hB) (fun hk2 => ?_)⟩⟩
  · rcases Nat.lt_or_ge k w.heap.size with hlt | hge
    · rw [h2 k hlt] at hk; exact ho k hk
    · omega
  · have := ho k hk2; omega
theorem ownsRow_slice {w : World} {base : Nat} {e : TypeId} {size : Nat} {v : Value} {k : Nat} {xs : List Value} (h : w.ownsRow base e size v k xs) : ∃ a c, v = .slice a k c := by
  rcases h.2 with ⟨rfl, rfl⟩ | ⟨g, cap, _, rfl, _⟩
  · exact ⟨_, _, rfl⟩
  · exact ⟨_, _, rfl⟩

section
variable {w : World} {v : DV} {own : Nat → Option Role} {D : Dev} {j p : Nat}
theorem yields_err {m : Value} {e from' : Int} (h : ReadErr w m p e) (he : e ≠ 0) : Yields w m p from' [] := fun w' hw => (h w' hw).mono fun _ _ hr => ⟨hr.2, .inl ⟨e, he, hr.1, rfl⟩⟩

def makeP (off : Nat) : Nat × Int := if off = 0 ∨ off % 8 ≠ 0 then (0, 1) else if 34359738360 < off then (0, 2) else (ptrN off, 0)
set_option maxRecDepth 100000 in
set_option maxHeartbeats 1000000 in
theorem make_all (off : Nat) (ho : off < 18446744073709551616) : Calls Tryz.prog 53 #[.int .u64 off, .int .u16 1, .int .u8 2] w fun r w' => r = .returned (.tuple #[.int .u64 ((makeP off).1 : Nat), .int .i64 (makeP off).2]) ∧ w = w' := by
  by_cases h0 : off = 0
  · subst h0
    rw [show ((0 : Nat) : Int) = 0 from rfl]
    go_enter Tryz.func53, Tryz.ntmps53
    go_wp2_with fail
    go_ret2
    exact ⟨rfl, rfl⟩
  · have b1 : ((off : Int) == 0) = false := by simp; omega
    by_cases h8 : off % 8 = 0
    · have b2 : ((off : Int) % 8 != 0) = false := by simp; omega
      by_cases hb : 34359738360 < off
      · have b3 : (34359738360 : Int) < off := by omega
        have e : makeP off = (0, 2) := by unfold makeP; rw [if_neg (by omega), if_pos hb]
        rw [e]
        clear e h0 h8
        go_enter Tryz.func53, Tryz.ntmps53
        go_wp2_with fail
        go_ret2
        exact ⟨rfl, rfl⟩
      · have e : makeP off = (ptrN off, 0) := by unfold makeP; rw [if_neg (by omega), if_neg hb]
        rw [e]
        exact make_any off (by omega) h8 (by omega)
    · have b2 : ((off : Int) % 8 != 0) = true := by simp; omega
      have e : makeP off = (0, 1) := by unfold makeP; rw [if_pos (by omega)]
      rw [e]
      clear e h0
      go_enter Tryz.func53, Tryz.ntmps53
      go_wp2_with fail
      go_ret2
      exact ⟨rfl, rfl⟩

/-- The device of the law: four lines, on or off. -/
def refD (power : Bool) : Dev := if power then ((Dev.fresh 4 fun _ => 0).arm 0).fence 0 else Dev.fresh 4 fun _ => 0
theorem refD_n (b : Bool) : (refD b).n = 4 := by cases b <;> rfl
theorem refD_err0 (b : Bool) : (refD b).err 0 = if b then 3 else 0 := by cases b <;> rfl
theorem refD_err1 (b : Bool) : (refD b).err 1 = 0 := by cases b <;> rfl
theorem refD_ptr (off : Nat) (h8 : off % 8 = 0) (ho : off ≤ 34359738360) : ptrOff (ptrN off) = off := by unfold ptrOff ptrN; omega
theorem ptrN_pos (off : Nat) : 0 < ptrN off := by unfold ptrN; omega
theorem ptrN_lt (off : Nat) (ho : off ≤ 34359738360) : ptrN off < 18446744073709551616 := by unfold ptrN; omega

/-- What the law expects. -/
def wantE (off : Nat) (none power : Bool) : Int := if none then 1 else if (makeP off).2 ≠ 0 then 1 else if 32 < off then 2 else if power then 3 else 0
theorem refuses_err {power none : Bool} {off : Nat} (h : IsDev w v own (refD power)) (hoff : off < 18446744073709551616) (hw : wantE off none power ≠ 0) :
    ReadErr w (if none then .nilIface else .iface 76 (.pointer (some ⟨v.tb 0, 0, .none⟩))) (makeP off).1 (wantE off none power) := by
  unfold wantE at *
  cases none with
  | true => exact read_nil w _
  | false =>
    simp only [Bool.false_eq_true, if_false] at *
    by_cases h1 : off = 0 ∨ off % 8 ≠ 0
    · have e : makeP off = (0, 1) := by unfold makeP; rw [if_pos h1]
      rw [e]
      exact read_zero w _
    · by_cases h2 : 34359738360 < off
      · have e : makeP off = (0, 2) := by unfold makeP; rw [if_neg h1, if_pos h2]
        rw [e]
        exact read_zero w _
      · have e : makeP off = (ptrN off, 0) := by unfold makeP; rw [if_neg h1, if_neg h2]
        rw [e] at hw ⊢
        simp only [ne_eq, not_true, if_false] at hw ⊢
        have hp : ptrOff (ptrN off) = off := refD_ptr off (by omega) (by omega)
        by_cases h3 : 32 < off
        · rw [if_pos h3]
          exact read_range h (by omega) (ptrN_lt off (by omega)) (ptrN_pos off) (by rw [hp, refD_n]; omega)
        · rw [if_neg h3] at hw ⊢
          refine read_off h (by omega) (ptrN_lt off (by omega)) (ptrN_pos off) (by rw [hp, refD_n]; omega) _ (refD_err0 _) hw

theorem zero_node {off : Nat} (h : IsDev w v own (refD false)) (h0 : 0 < off) (h8 : off % 8 = 0) (ho : off ≤ 32) : NodeAt w v own (refD false) 0 (ptrN off) ∧ nodeW (refD false) (ptrN off) = fun _ => 0 := by
  have hp : ptrOff (ptrN off) = off := refD_ptr off h8 (by omega)
  refine ⟨⟨h, by omega, ptrN_lt off (by omega), ptrN_pos off, rfl, rfl, by rw [hp]; show off + 224 ≤ 64 * 4; omega, fun i _ => ?_⟩, rfl⟩
  show (0 : Int) ≤ 0 ∧ (0 : Int) < _
  omega
theorem zero_slots : slotsW (fun _ => 0) = [] := by decide
theorem zero_ok (size : Nat) : nodeOk (fun _ => 0) size := by
  unfold nodeOk
  rw [zero_slots]
  refine ⟨⟨by decide, fun i hi => ⟨fun _ => ?_, fun h => by simp at h⟩⟩, ⟨fun i h0 h1 => by simp at h1, .inl ⟨rfl, rfl⟩, .inl rfl⟩⟩
  have : ∀ i, i < 12 → nib 0 i = 0 := by decide
  exact this i hi
end
end Go.Proofs.YtgdcjedcinapdaaGreat

/- A device that stands beside what was there; entries as a slice. -/
namespace Go.Proofs.YtgdcjedcinapdaaGreat
open Go.RowKit

section
variable {w : World} {v : DV} {own : Nat → Option Role} {D : Dev} {j p : Nat}
theorem isMem_nil : IsMem .nilIface := .inl rfl
theorem isMem_thr (a : Addr) : IsMem (.iface 76 (.pointer (some a))) := .inr ⟨a, rfl⟩
/-- The device stands where nothing of w has changed. -/
structure DevSt (w : World) (v : DV) (own : Nat → Option Role) (D : Dev) (wc : World) : Prop where
  dev : IsDev wc v own D
  ob : ∀ k, own k ≠ none → w.heap.size ≤ k
  bel : Below w.heap.size w wc
theorem DevSt.step {wc w1 : World} {D' : Dev} (h : DevSt w v own D wc) (hp : DPost v own wc D' w1) : ∃ own', DevSt w v own' D' w1 := by
  obtain ⟨own', h1, h2, h3⟩ := hp.from h.ob h.bel.size
  exact ⟨own', h1, h2, h.bel.trans h3⟩
theorem thread0_any (h : IsDev w v own D) : Calls Tryz.prog 34 #[.pointer (some ⟨v.db, 0, none⟩), .int .i64 0] w fun r w' => r = .returned (.pointer (some ⟨v.tb 0, 0, none⟩)) ∧ w = w' := thread_any h (j := 0) (by omega)
theorem thread1_any (h : IsDev w v own D) : Calls Tryz.prog 34 #[.pointer (some ⟨v.db, 0, none⟩), .int .i64 1] w fun r w' => r = .returned (.pointer (some ⟨v.tb 1, 0, none⟩)) ∧ w = w' := thread_any h (j := 1) (by omega)
theorem ents_len {es : List (Int × Int)} {r : Ending} {w' : World} (h : EntsPost w es r w') : ∃ a c, r = .returned (.slice a es.length c) ∧ Below w.heap.size w w' := by
  obtain ⟨v, rfl, h1, h2⟩ := h
  obtain ⟨a, c, rfl⟩ := ownsRow_slice h1
  exact ⟨a, c, rfl, h2⟩
end
end Go.Proofs.YtgdcjedcinapdaaGreat

/- made, get: a device with the node that the law draws. -/
namespace Go.Proofs.YtgdcjedcinapdaaGreat
open Go.RowKit

def nodeOff (n : NodeP) : Nat := 8 + 8 * (n.pos % 30)
theorem nodeOff_le (n : NodeP) : 8 ≤ nodeOff n ∧ nodeOff n ≤ 240 ∧ nodeOff n % 8 = 0 := by unfold nodeOff; omega

section
variable {w : World}
set_option maxRecDepth 100000 in
set_option maxHeartbeats 1000000 in
theorem nodeAt_any (n : NodeP) (ka sa va : Option Addr) (kc sc vc : Nat) (hp : n.pos < 256) : Calls Tryz.prog 12 #[.agg (nodeAgg n ka sa va kc sc vc)] w fun r w' => r = .returned (.int .u64 (nodeOff n : Nat)) ∧ Below w.heap.size w w' := by
  unfold nodeAgg
  go_enter Tryz.func12, Tryz.ntmps12
  go_wp2_with fail
  go_ret
  exact ⟨ret_int (by unfold nodeOff; omega), below_alloc _ _⟩

theorem pointerN_any (off : Nat) (h0 : 0 < off) (h8 : off % 8 = 0) (ho : off ≤ 34359738360) : Calls Tryz.prog 43 #[.int .u64 off] w fun r w' => r = .returned (.int .u64 (ptrN off : Nat)) ∧ w = w' := pointer_any off h0 h8 ho
theorem new12_any : Calls Tryz.prog 49 #[.int .i64 12] w fun r w' => ∃ v own, r = .returned (.tuple #[.pointer (some ⟨v.db, 0, none⟩), .int .i64 0]) ∧ IsDev w' v own (Dev.fresh 12 (fun _ => 0)) ∧ (∀ k, own k ≠ none → w.heap.size ≤ k) ∧ Below w.heap.size w w' := new_any 12 (by omega) (by omega)

def nList (n : NodeP) : List Int := (List.range 28).map (nWords n)
/-- The words C, with the node n at its place. -/
def withNode (C : Nat → Int) (off : Nat) (n : NodeP) : Nat → Int := laid C (off / 8) (nList n)
theorem withNode_at (C : Nat → Int) (off : Nat) (n : NodeP) (i : Nat) (hi : i < 28) : withNode C off n (off / 8 + i) = nWords n i := by
  unfold withNode laid nList
  rw [if_pos (by simp; omega), show off / 8 + i - off / 8 = i by omega]
  simp [List.getD, hi]
theorem row_list {W : World} {g : Nat} (n : NodeP) (h : Row W g 28 28 (fun i => .int .u64 (nWords n i))) : RdSl W 1 (.slice (some ⟨g, 0, none⟩) 28 28) (nList n).length (intsV (nList n)) := by
  refine ⟨by simp [intsV], _, _, by rw [show (nList n).length = 28 by simp [nList]], by simp [nList], .inr ⟨g, 0, rfl, fun j u hu => ?_⟩⟩
  have hj : j < 28 := by
    rcases Nat.lt_or_ge j 28 with h | h
    · exact h
    · rw [List.getElem?_eq_none (by simp [intsV, nList]; exact h)] at hu; cases hu
  have : u = .int .u64 (nWords n j) := by simp [intsV, nList, hj] at hu; exact hu.symm
  rw [this, Nat.zero_add]; exact h.cell hj

/-- A device that is on, of 12 lines, with the words C; nothing of w has changed. -/
structure LiveSt (w : World) (v : DV) (own : Nat → Option Role) (D : Dev) (x : Nat) (C : Nat → Int) (wc : World) : Prop extends DevSt w v own D wc where
  live : Live D 12 x C
theorem LiveSt.next {v : DV} {own : Nat → Option Role} {D : Dev} {x : Nat} {C : Nat → Int} {wc w1 : World} (h : LiveSt w v own D x C wc) (hb : Below wc.heap.size wc w1) : LiveSt w v own D x C w1 :=
  ⟨⟨h.dev.below hb, h.ob, h.bel.trans (hb.mono h.bel.size)⟩, h.live⟩
theorem LiveSt.put {v : DV} {own : Nat → Option Role} {D : Dev} {x : Nat} {C : Nat → Int} {wc : World} (h : LiveSt w v own D x C wc) (off : Nat) (sv : Value) (l : List Int) (h8 : off % 8 = 0) (hb : off + 8 * l.length ≤ 768) (hx : x + 2 * l.length < 4294967295)
    (hs : RdSl wc 1 sv l.length (intsV l)) (hown : ∀ k, sv.ownBlock = some k → own k = none) :
    Calls Tryz.prog 11 #[.pointer (some ⟨v.db, 0, none⟩), .int .u64 off, sv] wc fun r w' => r = .returned (.tuple #[]) ∧ ∃ own' D', LiveSt w v own' D' (x + 2 * l.length + 1) (laid C (off / 8) l) w' ∧ (∀ k, k < wc.heap.size → own' k = own k) ∧ Upd (fun k => own k ≠ none) wc w' := by
  refine (put_any h.dev h.live off sv l h8 (by omega) hx hs hown).mono ?_
  rintro r w' ⟨h1, D', hp, hl⟩
  obtain ⟨own', d, o, u⟩ := hp
  obtain ⟨own2, d2, o2, b2⟩ := DPost.from (B := w.heap.size) ⟨own', d, o, u⟩ h.ob h.bel.size
  refine ⟨h1, own', D', ⟨⟨d, fun k hk => ?_, h.bel.trans b2⟩, hl⟩, o, u⟩
  rcases Nat.lt_or_ge k wc.heap.size with hlt | hge
  · rw [o k hlt] at hk; exact h.ob k hk
  · have := h.bel.size; omega
/-- The node at off can be read through thread j. -/
theorem LiveSt.node {v : DV} {own : Nat → Option Role} {D : Dev} {x : Nat} {C : Nat → Int} {wc : World} (h : LiveSt w v own D x C wc) (j off : Nat) (hj : j < 8) (h0 : 0 < off) (h8 : off % 8 = 0) (hb : off + 224 ≤ 768)
    (hW : ∀ i, i < 28 → 0 ≤ C (off / 8 + i) ∧ C (off / 8 + i) < 18446744073709551616) : NodeAt wc v own D j (ptrN off) ∧ ∀ i, nodeW D (ptrN off) i = C (off / 8 + i) := by
  have hp := refD_ptr off h8 (by omega)
  have e : ∀ i, nodeW D (ptrN off) i = C (off / 8 + i) := fun i => by unfold nodeW; rw [hp, h.live.cur]
  exact ⟨⟨h.dev, hj, ptrN_lt off (by omega), ptrN_pos off, h.live.off, h.live.err j, by rw [hp, h.live.n]; omega, fun i hi => by rw [e]; exact hW i hi⟩, e⟩
end
end Go.Proofs.YtgdcjedcinapdaaGreat

/- Same, free of the reference; get of the law. -/
namespace Go.Proofs.YtgdcjedcinapdaaGreat
open Go.RowKit

section
variable {w : World}
theorem entC_length (l : List (Int × Int)) : (entC l).length = l.length * 2 := by
  induction l with
  | nil => rfl
  | cons e l ih => simp [entC] at *; omega
theorem entC_get (l : List (Int × Int)) : ∀ (k : Nat) (e : Int × Int), l[k]? = some e → (entC l)[k * 2]? = some (.int .u64 e.1) ∧ (entC l)[k * 2 + 1]? = some (.int .u64 e.2) := by
  induction l with
  | nil => intro k e h; simp at h
  | cons x l ih =>
    intro k e he
    have hf : entC (x :: l) = .int .u64 x.1 :: .int .u64 x.2 :: entC l := rfl
    cases k with
    | zero => simp at he; subst he; simp [hf]
    | succ k =>
      have := ih k e (by simpa using he)
      rw [hf, show (k + 1) * 2 = k * 2 + 1 + 1 from by omega]
      simpa using this

set_option maxRecDepth 100000 in
set_option maxHeartbeats 2000000 in
theorem refSame_any (u v : Value) (xs ys : List (Int × Int)) (hx : RdSl w 2 u xs.length (entC xs)) (hy : RdSl w 2 v ys.length (entC ys)) (hl : xs.length ≤ 100000) (hl2 : ys.length ≤ 100000) :
    Calls Tryz.prog 15 #[u, v] w fun r w' => r = .returned (.bool (decide (xs = ys))) ∧ Below w.heap.size w w' := by
  obtain ⟨_, a, ca, rfl, hca, ha⟩ := hx
  obtain ⟨_, b, cb, rfl, hcb, hb⟩ := hy
  have HA := Lib.hid ha; have HB := Lib.hid hb; clear ha hb
  by_cases hne : xs.length = ys.length
  · have hbn : ((xs.length : Int) != (ys.length : Int)) = false := by simp; omega
    generalize hn1 : xs.length = n at *
    generalize hn2 : ys.length = m at *
    have HN := Lib.hid (And.intro hn1 hn2)
    clear hn1 hn2
    subst hne
    have hbn : ((n : Int) != (n : Int)) = false := by simp
    go_enter Tryz.func15, Tryz.ntmps15
    go_wp2_with fail
    go_loopw [13] (fun i wr => ∃ k : Nat, k ≤ n ∧ i = .int .i64 k ∧ xs.take k = ys.take k ∧ Qt w wr) (fun i _ => n - (intOf i).toNat)
    case atStart => exact ⟨0, by omega, rfl, rfl, Qt.refl w⟩
    case round =>
      obtain ⟨k, hk, rfl, heq, q⟩ := hrel
      obtain ⟨nq, rfl⟩ := q
      have HE := Lib.hid heq; clear heq
      by_cases hlt : k < n
      · obtain ⟨e, he⟩ : ∃ e, xs[k]? = some e := ⟨_, List.getElem?_eq_getElem (by rw [HN.out.1]; exact hlt)⟩
        obtain ⟨f, hf⟩ : ∃ e, ys[k]? = some e := ⟨_, List.getElem?_eq_getElem (by rw [HN.out.2]; exact hlt)⟩
        obtain ⟨g1, o1, rfl, hc1⟩ := rd_at HA.out (entC_get xs k e he).1
        obtain ⟨g2, o2, rfl, hc2⟩ := rd_at HB.out (entC_get ys k f hf).1
        have c1 := hc1 _ _ (entC_get xs k e he).1; have c2 := hc1 _ _ (entC_get xs k e he).2
        have d1 := hc2 _ _ (entC_get ys k f hf).1; have d2 := hc2 _ _ (entC_get ys k f hf).2
        rw [← Nat.add_assoc] at c2 d2
        have HEF := Lib.hid (And.intro he hf)
        have hk' : (k : Int) < n := by omega
        clear hc1 hc2 he hf
        obtain ⟨e1, e2⟩ := e
        obtain ⟨f1, f2⟩ := f
        by_cases h1 : e1 = f1
        · have hb1 : (e1 == f1) = true := by simpa using h1
          by_cases h2 : e2 = f2
          · have hb2 : (e2 == f2) = true := by simpa using h2
            have HQ := Lib.hid (And.intro h1 h2); clear h1 h2
            go_wp2_with fail
            go_quiet (fail)
            go_wp2_with fail
            go_roundw
            case rel => exact ⟨k + 1, by omega, by go_num, by rw [take_snoc_get _ _ _ HEF.out.1, take_snoc_get _ _ _ HEF.out.2, HE.out, HQ.out.1, HQ.out.2], ⟨_, rfl⟩⟩
            case measure => simp [intOf]; omega
          · have hb2 : (e2 == f2) = false := by simpa using h2
            have HQ := Lib.hid h2; clear h1 h2
            go_wp2_with fail
            go_quiet (fail)
            go_wp2_with fail
            go_ret
            exact ⟨ret_bool (by simp; intro h; rw [h, HEF.out.2] at HEF; exact absurd (by have := HEF.out.1; simp at this; exact this.2.symm) HQ.out), ((Qt.drewN w _).trans (Qt.drewN _ _)).below⟩
        · have hb1 : (e1 == f1) = false := by simpa using h1
          have HQ := Lib.hid h1; clear h1
          go_wp2_with fail
          go_quiet (fail)
          go_wp2_with fail
          go_ret
          exact ⟨ret_bool (by simp; intro h; rw [h, HEF.out.2] at HEF; exact absurd (by have := HEF.out.1; simp at this; exact this.1.symm) HQ.out), ((Qt.drewN w _).trans (Qt.drewN _ _)).below⟩
      · go_wp2_with fail
        go_ret
        exact ⟨ret_bool (by have := HE.out; rw [List.take_of_length_le (by rw [HN.out.1]; omega), List.take_of_length_le (by rw [HN.out.2]; omega)] at this; simp [this]), (Qt.drewN w nq).below⟩
  · have hbn : ((xs.length : Int) != (ys.length : Int)) = true := by simp; omega
    have HD : Hid (decide (xs = ys) = false) := by show decide (xs = ys) = false; simp; exact fun h => hne (by rw [h])
    generalize hn1 : xs.length = n at *
    generalize hn2 : ys.length = m at *
    clear hn1 hn2
    go_enter Tryz.func15, Tryz.ntmps15
    go_wp2_with fail
    go_ret
    exact ⟨ret_bool HD.out.symm, Below.refl _ _⟩

/-- The reference's free: the lowest slot that is not taken. -/
theorem refFree_spec (l : List Nat) (hl : l.length < 12) : ∃ f, f < 12 ∧ f ∉ l ∧ (∀ s, s < f → s ∈ l) ∧ unusedN l = f := by
  obtain ⟨f, h1, h2, h3⟩ := free_slot l 12 hl
  exact ⟨f, h1, h2, h3, unusedN_spec l f (by omega) h2 h3⟩
set_option maxRecDepth 100000 in
set_option maxHeartbeats 2000000 in
theorem refFree_any (sv : Value) (l : List Nat) (h : RdSl w 1 sv l.length (natsI l)) (hl : l.length < 12) : Calls Tryz.prog 78 #[sv] w fun r w' => r = .returned (.int .i64 (unusedN l : Nat)) ∧ w = w' := by
  obtain ⟨f, hf1, hf2, hf3, hf4⟩ := refFree_spec l hl
  rw [hf4]
  have HF := Lib.hid (And.intro hf2 hf3); clear hf2 hf3 hf4
  obtain ⟨_, a, c, rfl, hc, ha⟩ := h
  have HA := Lib.hid ha; clear ha
  generalize hn : l.length = n at *
  have HN := Lib.hid hn; clear hn
  go_enter Tryz.func78, Tryz.ntmps78
  go_wp2_with fail
  go_loop [3] (fun x => ∃ s : Nat, s ≤ f ∧ x = .int .i64 s) (fun x => f - (intOf x).toNat)
  case atStart => exact ⟨0, by omega, rfl⟩
  case round =>
    obtain ⟨s, hs, rfl⟩ := hrel
    go_wp2_with fail
    go_loop [4, 11] (fun u i => ∃ k : Nat, k ≤ n ∧ i = .int .i64 k ∧ u = .bool (decide (s ∈ l.take k))) (fun _ i => n - (intOf i).toNat)
    case atStart => exact ⟨0, by omega, rfl, by simp⟩
    case round =>
      obtain ⟨k, hk, rfl, rfl⟩ := hrel
      by_cases hlt : k < n
      · obtain ⟨t, ht⟩ : ∃ t, l[k]? = some t := ⟨_, List.getElem?_eq_getElem (by rw [HN.out]; exact hlt)⟩
        obtain ⟨b, o, rfl, hcl⟩ := rd_at HA.out (show (natsI l)[k]? = some (.int .i64 t) by simp [natsI, ht])
        have c1 := hcl k _ (show (natsI l)[k]? = some (.int .i64 t) by simp [natsI, ht])
        have HT := Lib.hid (take_snoc_get l k t ht)
        clear hcl ht
        generalize hd : decide (s ∈ l.take k) = d at *
        have HD := Lib.hid hd; clear hd
        by_cases hts : t = s
        · have hb : ((t : Int) == (s : Int)) = true := by simp; omega
          have HTS := Lib.hid hts; clear hts
          cases d
          all_goals
            go_wp2_with fail
            go_round
            case rel => exact ⟨k + 1, by omega, by go_num, by rw [HT.out, HTS.out]; simp⟩
            case measure => simp [intOf]; omega
        · have hb : ((t : Int) == (s : Int)) = false := by simp; omega
          have HTS := Lib.hid hts; clear hts
          cases d
          all_goals
            go_wp2_with fail
            go_round
            case rel => exact ⟨k + 1, by omega, by go_num, by rw [HT.out, ← HD.out]; simp [show ¬ s = t from fun e => HTS.out e.symm]⟩
            case measure => simp [intOf]; omega
      · have hfull : l.take k = l := List.take_of_length_le (by rw [HN.out]; omega)
        rw [hfull]
        by_cases hsf : s = f
        · have hd : decide (s ∈ l) = false := by rw [hsf]; simpa using HF.out.1
          rw [hd]
          have HSF := Lib.hid hsf; clear hsf hd hfull
          go_wp2_with fail
          go_ret
          exact ⟨ret_int (by rw [HSF.out]), rfl⟩
        · have hd : decide (s ∈ l) = true := by simpa using HF.out.2 s (by omega)
          rw [hd]
          clear hd hfull
          go_wp2_with fail
          go_round
          case rel => exact ⟨s + 1, by omega, by go_num⟩
          case measure => simp [intOf]; omega
end
end Go.Proofs.YtgdcjedcinapdaaGreat

/- writes of the law; slices.Equal of the reference's writes. -/
namespace Go.Proofs.YtgdcjedcinapdaaGreat
open Go.RowKit
theorem infoRW : (Tryz.prog.info? 100).map (fun i => (i.zero, i.size, i.bytes)) = some (some (.agg #[.int .u64 0, .int .u64 0]), 2, 16) := by kernel_rfl

theorem flat_get' (l : List (Nat × Int)) (k : Nat) (e : Nat × Int) (h : l[k]? = some e) : (flat l)[k * 2]? = some (.int .u64 e.1) ∧ (flat l)[k * 2 + 1]? = some (.int .u64 e.2) := by
  have := flat_get l k e h
  rw [Nat.mul_comm] at this
  exact this
theorem below_twice (w : World) (o1 o2 : Obj) : Below w.heap.size w ((w.alloc o1).alloc o2) := (below_alloc w o1).trans ((below_alloc _ o2).mono (by simp))
section
variable {w : World}
set_option maxRecDepth 100000 in
set_option maxHeartbeats 2000000 in
theorem equalRW_any (u v : Value) (xs ys : List (Nat × Int)) (hx : RdSl w 2 u xs.length (flat xs)) (hy : RdSl w 2 v ys.length (flat ys)) (hl : xs.length ≤ 100000) (hl2 : ys.length ≤ 100000) :
    Calls Tryz.prog 45 #[u, v] w fun r w' => r = .returned (.bool (decide (xs = ys))) ∧ Below w.heap.size w w' := by
  obtain ⟨_, a, ca, rfl, hca, ha⟩ := hx
  obtain ⟨_, b, cb, rfl, hcb, hb⟩ := hy
  have HA := Lib.hid ha; have HB := Lib.hid hb; clear ha hb
  by_cases hne : xs.length = ys.length
  · have hbn : ((xs.length : Int) != (ys.length : Int)) = false := by simp; omega
    generalize hn1 : xs.length = n at *
    generalize hn2 : ys.length = m at *
    have HN := Lib.hid (And.intro hn1 hn2)
    clear hn1 hn2
    subst hne
    have hbn : ((n : Int) != (n : Int)) = false := by simp
    go_enter Tryz.func45, Tryz.ntmps45
    go_wp2_with fail
    go_loopw [13] (fun i wr => ∃ k : Nat, k ≤ n ∧ i = .int .i64 k ∧ xs.take k = ys.take k ∧ Qt w wr) (fun i _ => n - (intOf i).toNat)
    case atStart => exact ⟨0, by omega, rfl, rfl, Qt.refl w⟩
    case round =>
      obtain ⟨k, hk, rfl, heq, q⟩ := hrel
      obtain ⟨nq, rfl⟩ := q
      have HE := Lib.hid heq; clear heq
      by_cases hlt : k < n
      · obtain ⟨e, he⟩ : ∃ e, xs[k]? = some e := ⟨_, List.getElem?_eq_getElem (by rw [HN.out.1]; exact hlt)⟩
        obtain ⟨f, hf⟩ : ∃ e, ys[k]? = some e := ⟨_, List.getElem?_eq_getElem (by rw [HN.out.2]; exact hlt)⟩
        obtain ⟨g1, o1, rfl, hc1⟩ := rd_at HA.out (flat_get' xs k e he).1
        obtain ⟨g2, o2, rfl, hc2⟩ := rd_at HB.out (flat_get' ys k f hf).1
        have c1 := hc1 _ _ (flat_get' xs k e he).1; have c2 := hc1 _ _ (flat_get' xs k e he).2
        have d1 := hc2 _ _ (flat_get' ys k f hf).1; have d2 := hc2 _ _ (flat_get' ys k f hf).2
        rw [← Nat.add_assoc] at c2 d2
        have HEF := Lib.hid (And.intro he hf)
        have hk' : (k : Int) < n := by omega
        clear hc1 hc2 he hf
        obtain ⟨e1, e2⟩ := e
        obtain ⟨f1, f2⟩ := f
        by_cases h1 : e1 = f1
        · have hb1 : ((e1 : Int) == (f1 : Int)) = true := by simp; omega
          by_cases h2 : e2 = f2
          · have hb2 : (e2 == f2) = true := by simpa using h2
            have HQ := Lib.hid (And.intro h1 h2); clear h1 h2
            go_wp2_with fail
            go_quiet (fail)
            go_wp2_with fail
            go_roundw
            case rel => exact ⟨k + 1, by omega, by go_num, by rw [take_snoc_get _ _ _ HEF.out.1, take_snoc_get _ _ _ HEF.out.2, HE.out, HQ.out.1, HQ.out.2], ⟨_, rfl⟩⟩
            case measure => simp [intOf]; omega
          · have hb2 : (e2 == f2) = false := by simpa using h2
            have HQ := Lib.hid h2; clear h1 h2
            go_wp2_with fail
            go_quiet (fail)
            go_wp2_with fail
            go_ret
            exact ⟨ret_bool (by simp; intro h; rw [h, HEF.out.2] at HEF; exact absurd (by have := HEF.out.1; simp at this; exact this.2.symm) HQ.out), ((Qt.drewN w _).trans (Qt.drewN _ _)).below⟩
        · have hb1 : ((e1 : Int) == (f1 : Int)) = false := by simp; omega
          have HQ := Lib.hid h1; clear h1
          go_wp2_with fail
          go_quiet (fail)
          go_wp2_with fail
          go_ret
          exact ⟨ret_bool (by simp; intro h; rw [h, HEF.out.2] at HEF; exact absurd (by have := HEF.out.1; simp at this; exact this.1.symm) HQ.out), ((Qt.drewN w _).trans (Qt.drewN _ _)).below⟩
      · go_wp2_with fail
        go_ret
        exact ⟨ret_bool (by have := HE.out; rw [List.take_of_length_le (by rw [HN.out.1]; omega), List.take_of_length_le (by rw [HN.out.2]; omega)] at this; simp [this]), (Qt.drewN w nq).below⟩
  · have hbn : ((xs.length : Int) != (ys.length : Int)) = true := by simp; omega
    have HD : Hid (decide (xs = ys) = false) := by show decide (xs = ys) = false; simp; exact fun h => hne (by rw [h])
    generalize hn1 : xs.length = n at *
    generalize hn2 : ys.length = m at *
    clear hn1 hn2
    go_enter Tryz.func45, Tryz.ntmps45
    go_wp2_with fail
    go_ret
    exact ⟨ret_bool HD.out.symm, Below.refl _ _⟩

set_option maxRecDepth 100000 in
set_option maxHeartbeats 2000000 in
theorem writes_any (sv : Value) (l : List (Nat × Int)) (h : RdSl w 2 sv l.length (flat l)) (hl : l.length ≤ 100000) (hlt : ∀ k, sv.ownBlock = some k → k < w.heap.size) :
    Calls Tryz.prog 46 #[sv] w fun r w' => ∃ ov, r = .returned ov ∧ Acc w w.heap.size w' 100 2 ov l.length (flat l) := by
  have H := Lib.hid h
  obtain ⟨_, a, c, rfl, hc, _⟩ := h
  obtain ⟨k0, hi0, hz0, hz1, hz2⟩ := info_parts infoRW
  have I2 := Lib.hid (And.intro hi0 (And.intro hz0 (And.intro hz1 hz2))); clear hi0 hz0 hz1 hz2
  generalize hn : l.length = n at *
  have HN := Lib.hid hn; clear hn
  go_enter Tryz.func46, Tryz.ntmps46
  go_wp2_with fail
  go_loopw [3, 8] (fun ov y wr => ∃ k : Nat, k ≤ n ∧ y = .int .i64 k ∧ Acc w w.heap.size wr 100 2 ov k (flat (l.take k))) (fun _ y _ => n - (intOf y).toNat)
  case atStart => exact ⟨0, by omega, rfl, Acc.nil w _ _ _ _ (Below.refl _ _) (Nat.le_refl _)⟩
  case round =>
    obtain ⟨k, hk, rfl, ha⟩ := hrel
    obtain ⟨oa, oc, rfl⟩ := ha.slice
    have A := Lib.hid ha; clear ha
    by_cases hlt2 : k < n
    · have hk' : (k : Int) < n := by omega
      obtain ⟨e, he⟩ : ∃ e, l[k]? = some e := ⟨_, List.getElem?_eq_getElem (by rw [HN.out]; exact hlt2)⟩
      obtain ⟨_, a', c', e', _, hE⟩ := H.out.below A.out.bel
      cases e'
      obtain ⟨eb, eo, rfl, hE2⟩ := rd_at hE (flat_get' l k e he).1
      have c1 := hE2 _ _ (flat_get' l k e he).1; have c2 := hE2 _ _ (flat_get' l k e he).2
      rw [← Nat.add_assoc] at c2
      have HT := Lib.hid (take_snoc_get l k e he)
      clear hE hE2 he
      obtain ⟨e1, e2⟩ := e
      go_wp2_with (at_builtin; refine wpList_append_sl _ rfl _ _ 95 rfl 100 k0 _ 2 16 Tryz.underlying95 I2.out.1 I2.out.2.1 I2.out.2.2.1 I2.out.2.2.2 rfl (by decide) _ k (flat (l.take k)) rfl (by exact (A.out.own.alloc _).alloc _) _ 1 (flat [(e1, e2)]) rfl (by exact RdSl.newAt _ _ _ 2 1 _ (by simp) rfl) (flat_one _) (by unfold maxLen; omega) (by omega) ?_)
      intro v1 w1 o1 g1 b1 n1
      have A1 := Lib.hid (A.out.next (below_twice wr _ _) o1 g1 b1 (by omega)); clear o1 g1 b1 n1
      go_wp2_with fail
      go_roundw
      case rel => exact ⟨k + 1, by omega, by go_num, A1.out.congr rfl (by rw [HT.out, flat_append])⟩
      case measure => simp [intOf]; omega
    · obtain rfl : k = n := by omega
      go_wp2_with fail
      go_ret
      exact ⟨_, rfl, A.out.congr rfl (by rw [List.take_of_length_le (by rw [HN.out]; omega)])⟩
end
end Go.Proofs.YtgdcjedcinapdaaGreat

/- made: the walk. -/
namespace Go.Proofs.YtgdcjedcinapdaaGreat
open Go.RowKit
attribute [local go_sem ↓] Go.wp_at_zero Go.wp_at_succ

section
variable {w : World}
/-- The cells of a node's box. -/
def BoxC (b : Nat) (n : NodeP) (ka sa va : Option Addr) (kc sc vc : Nat) (wx : World) : Prop :=
  wx.cell? ⟨b, 0, none⟩ = some (.int .u8 n.pos) ∧ wx.cell? ⟨b, 1, none⟩ = some (.slice ka n.ks.length kc) ∧ wx.cell? ⟨b, 2, none⟩ = some (.slice sa n.ss.length sc) ∧ wx.cell? ⟨b, 3, none⟩ = some (.slice va n.vs.length vc) ∧
  wx.cell? ⟨b, 4, none⟩ = some (.int .u8 n.high) ∧ wx.cell? ⟨b, 5, none⟩ = some (.bool n.bounded) ∧ wx.cell? ⟨b, 6, none⟩ = some (.bool n.next) ∧ wx.cell? ⟨b, 7, none⟩ = some (.int .u16 n.count)
theorem boxC {wx : World} {b : Nat} {n : NodeP} {ka sa va : Option Addr} {kc sc vc : Nat} (h : Blk wx b (nodeAgg n ka sa va kc sc vc) 26) : BoxC b n ka sa va kc sc vc wx :=
  ⟨h.cell rfl, h.cell rfl, h.cell rfl, h.cell rfl, h.cell rfl, h.cell rfl, h.cell rfl, h.cell rfl⟩
/-- A live device, and the box of the node. -/
structure MadeSt (w w0 : World) (v : DV) (own : Nat → Option Role) (D : Dev) (x : Nat) (C : Nat → Int) (b : Nat) (n : NodeP) (ka sa va : Option Addr) (kc sc vc : Nat) (wc : World) : Prop extends LiveSt w0 v own D x C wc where
  box : Blk wc b (nodeAgg n ka sa va kc sc vc) 26
  res : Blk wc (b + 1) #[.nilIface, .int .u64 0] 35
  lt : b + 1 < w0.heap.size
  b0 : Below w.heap.size w w0
variable {w0 : World} {v : DV} {own : Nat → Option Role} {D : Dev} {x : Nat} {C : Nat → Int} {b : Nat} {n : NodeP} {ka sa va : Option Addr} {kc sc vc : Nat} {wc w1 : World}
theorem MadeSt.next (h : MadeSt w w0 v own D x C b n ka sa va kc sc vc wc) (hb : Below wc.heap.size wc w1) : MadeSt w w0 v own D x C b n ka sa va kc sc vc w1 := ⟨h.toLiveSt.next hb, h.box.below hb, h.res.below hb, h.lt, h.b0⟩
theorem MadeSt.all (h : MadeSt w w0 v own D x C b n ka sa va kc sc vc wc) : Below w.heap.size w wc := h.b0.trans (h.bel.mono h.b0.size)
theorem MadeSt.cells (h : MadeSt w w0 v own D x C b n ka sa va kc sc vc wc) : BoxC b n ka sa va kc sc vc wc := boxC h.box
theorem bdrew {W W' : World} (h : Below W.drew.heap.size W.drew W') : Below W.heap.size W W' := ⟨h.os, h.tape, h.output, h.size, h.block⟩
/-- put of the node's words. -/
theorem MadeSt.put (h : MadeSt w w0 v own D x C b n ka sa va kc sc vc wc) (hx : x < 1000) {g : Nat} {w2 : World} (hr : Row w2 g 28 28 (fun i => .int .u64 (nWords n i))) (hg : wc.heap.size ≤ g) (hb : Below wc.heap.size wc w2) :
    Calls Tryz.prog 11 #[.pointer (some ⟨v.db, 0, none⟩), .int .u64 (nodeOff n : Nat), .slice (some ⟨g, 0, none⟩) 28 28] w2 fun r w' => r = .returned (.tuple #[]) ∧ ∃ own' D', MadeSt w w0 v own' D' (x + 57) (withNode C (nodeOff n) n) b n ka sa va kc sc vc w' := by
  have h2 := h.next hb
  have hno := nodeOff_le n
  have hl : (nList n).length = 28 := by simp [nList]
  refine (h2.toLiveSt.put (nodeOff n) (.slice (some ⟨g, 0, none⟩) 28 28) (nList n) hno.2.2 (by rw [hl]; omega) (by rw [hl]; omega) (row_list n hr) (fun k hk => ?_)).mono ?_
  · simp [Value.ownBlock] at hk; subst hk
    rcases ho : own g with _ | r
    · rfl
    · have := h.dev.lt g (by simp [ho]); omega
  · rintro r w' ⟨h1, own', D', h3, h4, h5⟩
    refine ⟨h1, own', D', by rw [hl] at h3; exact h3, ?_, ?_, h.lt, h.b0⟩
    · refine h2.box.upd h5 (fun hk => ?_)
      have := h2.ob b hk; have := h.lt; omega
    · refine h2.res.upd h5 (fun hk => ?_)
      have := h2.ob (b + 1) hk; have := h.lt; omega

/-- What made leaves: a device with the node, and the leaf. -/
def MadePost (w : World) (n : NodeP) (r : Ending) (w' : World) : Prop := ∃ v own D, r = .returned (.tuple #[.pointer (some ⟨v.db, 0, none⟩), .agg #[.iface 76 (.pointer (some ⟨v.tb 0, 0, none⟩)), .int .u64 (ptrN (nodeOff n) : Nat)]]) ∧ LiveSt w v own D 57 (withNode (fun _ => 0) (nodeOff n) n) w'

theorem made_end (h : MadeSt w w0 v own D x C b n ka sa va kc sc vc wc) {u u' : Value} (hb : w.heap.size ≤ b := by omega) : LiveSt w v own D x C ((wc.setCell ⟨b + 1, 0, none⟩ u).setCell ⟨b + 1, 1, none⟩ u') := by
  have hne : ∀ k, own k ≠ none → k ≠ b + 1 := fun k hk e => by have := h.ob k hk; have := h.lt; omega
  refine ⟨⟨h.dev.kept (by simp [World.setCell]) (fun k hk => (Below.heap_setCell _ _ _ _ (hne k hk)).trans (Below.heap_setCell _ _ _ _ (hne k hk))), fun k hk => by have := h.ob k hk; have := h.b0.size; omega, ?_⟩, h.live⟩
  exact (h.all.setCell (p := ⟨b + 1, 0, none⟩) (by show w.heap.size ≤ b + 1; omega) _).setCell (p := ⟨b + 1, 1, none⟩) (by show w.heap.size ≤ b + 1; omega) _
set_option maxRecDepth 100000 in
set_option maxHeartbeats 4000000 in
theorem made_any (h : NodeIn w n ka sa va kc sc vc) : Calls Tryz.prog 9 #[.agg (nodeAgg n ka sa va kc sc vc)] w (MadePost w n) := by
  have H := Lib.hid h
  have hp8 := h.p8
  clear h
  unfold nodeAgg
  have HN := Lib.hid (fun wx => new12_any (w := wx))
  go_enter Tryz.func9, Tryz.ntmps9
  go_wp2_with fail
  (with_reducible refine (HN.out _).mono ?_)
  rintro e w2 ⟨v, own, rfl, d2, o2, b2⟩
  have M2 : Hid (MadeSt w _ v own (Dev.fresh 12 fun _ => 0) 0 (fun _ => 0) w.heap.size n ka sa va kc sc vc w2) := 
    ⟨⟨⟨d2, o2, b2⟩, Live.fresh 12 _⟩, ((Blk.new w (nodeAgg n ka sa va kc sc vc) 26).alloc _).below b2, (by have := Blk.new (w.alloc (.cells (nodeAgg n ka sa va kc sc vc) 26)) #[.nilIface, .int .u64 0] 35; rw [World.size_alloc] at this; exact this.below b2), by simp, (below_alloc w _).trans ((below_alloc _ _).mono (by simp))⟩
  clear d2 o2 b2 HN
  go_wp2_with fail
  have HO := Lib.hid (fun wx => nodeAt_any (w := wx) n ka sa va kc sc vc hp8)
  have HW := Lib.hid (fun wx hx => words_any (w := wx) (H.out.below hx))
  obtain ⟨w0, hw0⟩ : ∃ w0, w0 = (w.alloc (.cells (nodeAgg n ka sa va kc sc vc) 26)).alloc (.cells #[.nilIface, .int .u64 0] 35) := ⟨_, rfl⟩
  have M2' : Hid (MadeSt w w0 v own (Dev.fresh 12 fun _ => 0) 0 (fun _ => 0) w.heap.size n ka sa va kc sc vc w2) := by rw [hw0]; exact M2.out
  clear M2 hw0
  go_cut [] (fun wx => ∃ own' D', MadeSt w w0 v own' D' 57 (withNode (fun _ => 0) (nodeOff n) n) w.heap.size n ka sa va kc sc vc wx)
  case first =>
    go_region_held3 (fun wx => wx.cell? ⟨w.heap.size, 0, none⟩ = some (.int .u8 n.pos) ∧ wx.cell? ⟨w.heap.size, 1, none⟩ = some (.slice ka n.ks.length kc) ∧ wx.cell? ⟨w.heap.size, 2, none⟩ = some (.slice sa n.ss.length sc) ∧ wx.cell? ⟨w.heap.size, 3, none⟩ = some (.slice va n.vs.length vc) ∧ wx.cell? ⟨w.heap.size, 4, none⟩ = some (.int .u8 n.high) ∧ wx.cell? ⟨w.heap.size, 5, none⟩ = some (.bool n.bounded) ∧ wx.cell? ⟨w.heap.size, 6, none⟩ = some (.bool n.next) ∧ wx.cell? ⟨w.heap.size, 7, none⟩ = some (.int .u16 n.count)) (first | exact M5.out.cells | exact M4.out.cells | exact M3.out.cells | exact M2'.out.cells) (first | (go_at_call 12; (with_reducible refine (HO.out _).mono ?_); rintro e w3 ⟨rfl, b3⟩; have M3 := Lib.hid (M2'.out.next (bdrew b3)); clear b3) | (go_at_call 10; (with_reducible refine (HW.out _ M3.out.all).mono ?_); rintro e w4 ⟨g, rfl, r4, g4, b4⟩; have P4 := Lib.hid (M3.out.put (by omega) r4 g4 b4); have M4 := Lib.hid (M3.out.next b4); clear r4 g4 b4) | (go_at_call 11; (with_reducible refine P4.out.mono ?_); rintro e w5 ⟨rfl, own5, D5, m5⟩; have M5 := Lib.hid m5; clear m5))
    all_goals go_wp2_with fail
    all_goals go_meet
    all_goals exact ⟨own5, D5, M5.out⟩
  case rest =>
    obtain ⟨own5, D5, m5⟩ := hcut
    obtain ⟨w5, hw5⟩ : ∃ x, x = wc := ⟨_, rfl⟩
    subst hw5
    have M5 := Lib.hid m5
    have hno := nodeOff_le n
    have c0 : w5.cell? ⟨w.heap.size + 1, 0, none⟩ = some .nilIface := m5.res.cell rfl
    have c1 : w5.cell? ⟨w.heap.size + 1, 1, none⟩ = some (.int .u64 0) := m5.res.cell rfl
    have f0 := m5.res.frozen 0; have f1 := m5.res.frozen 1
    clear m5 M2' HW
    have HT := Lib.hid (fun wx (hx : IsDev wx v own5 D5) => thread0_any hx)
    have HP := Lib.hid (fun wx => pointerN_any (w := wx) (nodeOff n) (by omega) hno.2.2 (by omega))
    go_upto_region 5 with fail
    go_region_held3 (fun wx => wx.cell? ⟨w.heap.size, 0, none⟩ = some (.int .u8 n.pos) ∧ wx.cell? ⟨w.heap.size, 1, none⟩ = some (.slice ka n.ks.length kc) ∧ wx.cell? ⟨w.heap.size, 2, none⟩ = some (.slice sa n.ss.length sc) ∧ wx.cell? ⟨w.heap.size, 3, none⟩ = some (.slice va n.vs.length vc) ∧ wx.cell? ⟨w.heap.size, 4, none⟩ = some (.int .u8 n.high) ∧ wx.cell? ⟨w.heap.size, 5, none⟩ = some (.bool n.bounded) ∧ wx.cell? ⟨w.heap.size, 6, none⟩ = some (.bool n.next) ∧ wx.cell? ⟨w.heap.size, 7, none⟩ = some (.int .u16 n.count)) (first | exact M7.out.cells | exact M6.out.cells | exact M5.out.cells | exact boxC ((M7.out.box.other (a := ⟨w.heap.size + 1, 0, none⟩) (by simp) _).other (a := ⟨w.heap.size + 1, 1, none⟩) (by simp) _)) (first | (go_at_call 34; (with_reducible refine (HT.out _ (by exact M5.out.dev.drew)).mono ?_); rintro e w' ⟨rfl, rfl⟩) | (go_at_call 12; (with_reducible refine (HO.out _).mono ?_); rintro e w6 ⟨rfl, b6⟩; have M6 := Lib.hid (M5.out.next (bdrew b6)); clear b6) | (go_at_call 43; (with_reducible refine (HP.out _).mono ?_); rintro e w' ⟨rfl, rfl⟩) | (go_at_call 42; (with_reducible refine (at_any _ _ (.inr ⟨_, _, rfl⟩)).mono ?_); rintro e w7 ⟨rfl, b7⟩; have M7 := Lib.hid (M6.out.next b7); have d0 : w7.cell? ⟨w.heap.size + 1, 0, none⟩ = some .nilIface := M7.out.res.cell rfl; have d1 : w7.cell? ⟨w.heap.size + 1, 1, none⟩ = some (.int .u64 0) := M7.out.res.cell rfl; have e0 := M7.out.res.frozen 0; have e1 := M7.out.res.frozen 1; have hlt7 := M7.out.res.lt; clear b7))
    all_goals go_wp2_with fail
    all_goals
      (try simp only [Exit.inBlock, Exit.then])
      refine bodyPost_ret (v := .tuple #[.pointer (some ⟨v.db, 0, none⟩), .agg #[.iface 76 (.pointer (some ⟨v.tb 0, 0, none⟩)), .int .u64 (ptrN (nodeOff n) : Nat)]]) (by simp [results, Tryz.results9, go_sem, d0, d1]) rfl ?_
      exact ⟨v, own5, D5, rfl, made_end M7.out⟩
end
end Go.Proofs.YtgdcjedcinapdaaGreat

/- get of the law: the words at an offset. -/
namespace Go.Proofs.YtgdcjedcinapdaaGreat
open Go.RowKit

section
variable {w : World} {v : DV} {own : Nat → Option Role} {D : Dev}
theorem thread3_any (h : IsDev w v own D) : Calls Tryz.prog 34 #[.pointer (some ⟨v.db, 0, none⟩), .int .i64 3] w fun r w' => r = .returned (.pointer (some ⟨v.tb 3, 0, none⟩)) ∧ w = w' := thread_any h (j := 3) (by omega)
theorem loadAt_ok (h : IsDev w v own D) {j : Nat} (hj : j < 8) (off k : Nat) (o : Int) (ho : o = ((off + 8 * k : Nat) : Int)) (hoff : D.off = false) (hw : off % 8 = 0) (hl : off + 8 * k < 64 * D.n) :
    Calls Tryz.prog 82 #[.pointer (some ⟨v.tb j, 0, none⟩), .int .u64 o] w fun r w' => r = .returned (.int .u64 (D.cur (off / 8 + k))) ∧ w = w' := by
  subst ho
  have := load_ok h hj (off + 8 * k) hoff (by omega) hl
  rw [show (off + 8 * k) / 8 = off / 8 + k by omega] at this
  exact this
def getL (f : Nat → Int) (k : Nat) : List Int := (List.range k).map f
set_option maxRecDepth 100000 in
set_option maxHeartbeats 2000000 in
theorem getW_any (h : IsDev w v own D) (off : Nat) (hoff : D.off = false) (h8 : off % 8 = 0) (hl : off + 224 ≤ 64 * D.n) :
    Calls Tryz.prog 32 #[.pointer (some ⟨v.db, 0, none⟩), .int .u64 off] w fun r w' => ∃ sv, r = .returned sv ∧ Acc w w.heap.size w' 28 1 sv 28 (intsU (getL (fun i => D.cur (off / 8 + i)) 28)) := by
  have hn := h.wf.le
  have H := Lib.hid h; have HO := Lib.hid hoff; clear h hoff
  obtain ⟨i0, hi0, hz0, hz1, hz2⟩ := info_parts infoU64
  have I := Lib.hid (And.intro hi0 (And.intro hz0 (And.intro hz1 hz2))); clear hi0 hz0 hz1 hz2
  go_enter Tryz.func32, Tryz.ntmps32
  go_wp2_with fail
  go_loopw [5, 7] (fun ov y wr => ∃ k : Nat, k ≤ 28 ∧ y = .int .u64 k ∧ Acc w w.heap.size wr 28 1 ov k (intsU (getL (fun i => D.cur (off / 8 + i)) k))) (fun _ y _ => 28 - (intOf y).toNat)
  case atStart => exact ⟨0, by omega, rfl, Acc.nil w _ _ _ _ (Below.refl _ _) (Nat.le_refl _)⟩
  case round =>
    obtain ⟨k, hk, rfl, ha⟩ := hrel
    obtain ⟨la, lc, rfl⟩ := ha.slice
    have A := Lib.hid ha; clear ha
    by_cases hlt : k < 28
    · have hd := H.out.below A.out.bel
      have HT := Lib.hid (thread3_any hd)
      have HL := Lib.hid (loadAt_ok hd (j := 3) (by omega) off k ((off : Int) + 8 * (k : Int)) (by omega) HO.out h8 (by omega))
      clear hd
      go_wp2_with fail
      (with_reducible refine HT.out.mono ?_)
      rintro e w' ⟨rfl, rfl⟩
      go_wp2_with fail
      (with_reducible refine HL.out.mono ?_)
      rintro e w' ⟨rfl, rfl⟩
      go_wp2_with (at_builtin; refine wpList_append_sl _ rfl _ _ 23 rfl 28 i0 _ 1 8 Tryz.underlying23 I.out.1 I.out.2.1 I.out.2.2.1 I.out.2.2.2 rfl (by decide) _ k (intsU (getL (fun i => D.cur (off / 8 + i)) k)) rfl (by exact A.out.own.alloc _) _ 1 _ rfl (by exact RdSl.newAt _ _ _ 1 1 _ rfl rfl) (one_int _ _) (by unfold maxLen; omega) (by omega) ?_)
      intro v1 w1 o1 g1 b1 n1
      have A1 := Lib.hid (A.out.next (below_alloc _ _) o1 g1 b1 (by simp)); clear o1 g1 b1 n1
      go_wp2_with fail
      go_roundw
      case rel => exact ⟨k + 1, by omega, by go_num, A1.out.congr rfl (by simp [intsU, getL, List.range_succ])⟩
      case measure => simp [intOf]; omega
    · obtain rfl : k = 28 := by omega
      rw [show ((28 : Nat) : Int) = 28 from rfl]
      go_wp2_with fail
      go_ret
      exact ⟨_, rfl, A.out⟩
end
end Go.Proofs.YtgdcjedcinapdaaGreat
