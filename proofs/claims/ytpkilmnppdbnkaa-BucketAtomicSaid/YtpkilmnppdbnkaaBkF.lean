/- The walks of a bucket's Put and Delete on a device that is on; a bucket on a clean device. -/
import Derived.Test.YtpkilmnppdbnkaaBkE
namespace Go.Proofs.Ytpkilmnppdbnkaa
open Go.RowKit

theorem flushL_ok31 (offs : List Nat) (h : ∀ o ∈ offs, o < 18446744073709551616) : instrOk (flushL offs) := by
  intro e he
  unfold flushL at he
  split at he
  · simp at he
  · rcases List.mem_append.1 he with h1 | h1
    · obtain ⟨l, hl, rfl⟩ := List.mem_map.1 h1
      have := linesL_bd offs 288230376151711744 (fun o ho => by have := h o ho; omega) l hl
      exact ⟨by simp, by simp, by simp only; omega⟩
    · simp at h1; subst h1; exact ⟨by simp, by simp, by simp⟩
theorem storesL_ok31 (o : Nat) (x : Int) (h : o < 18446744073709551616) : instrOk (storesL [(o, x)]) := by
  rw [stores1]
  intro e he
  simp at he
  rcases he with rfl | rfl | rfl
  · exact ⟨by simp, by simp, h⟩
  · exact ⟨by simp, by simp, by simp only; omega⟩
  · exact ⟨by simp, by simp, by simp⟩
theorem instrOk_app31 {a b : List (Nat × Nat × Int)} (ha : instrOk a) (hb : instrOk b) : instrOk (a ++ b) := fun e he => by
  rcases List.mem_append.1 he with h | h
  · exact ha e h
  · exact hb e h
theorem bkNew_len (off s : Nat) (k x : Int) (h : Nat) : (bkNew off s k x h).length ≤ 9 := by
  rw [bkNew_eq]
  simp only [List.length_append, List.length_cons, List.length_nil]
  repeat' split
  all_goals simp
theorem putL_len (C : Nat → Int) (off k : Nat) (x : Int) : (putL C off k x).length ≤ 9 := by
  unfold putL
  split
  · unfold bkRep; rw [stores1]; simp
  · split
    · exact bkNew_len _ _ _ _ _
    · simp
theorem delL_len (C : Nat → Int) (off k : Nat) : (delL C off k).length ≤ 9 := by
  unfold delL
  split
  · unfold bkHd; rw [stores1]; simp
  · simp
theorem putL_ok (C : Nat → Int) (off k : Nat) (x : Int) (hl : off + 128 < 18446744073709551616) : instrOk (putL C off k x) := by
  unfold putL
  rcases fnd_cases C off k with ⟨e, _⟩ | ⟨s, e, hs, _⟩
  · rw [if_neg (by omega)]
    rcases fre_cases (bkH C off) with ⟨e2, _⟩ | ⟨s, e2, hs, _⟩
    · rw [if_neg (by omega)]; intro e he; simp at he
    · rw [if_pos (by omega), e2]
      unfold bkNew
      refine instrOk_app31 (instrOk_app31 (fun e he => ?_) (flushL_ok31 _ fun o ho => ?_)) (storesL_ok31 _ _ (by omega))
      · simp at he
        rcases he with rfl | rfl
        · exact ⟨by simp, by simp, by simp only [bkKey]; omega⟩
        · exact ⟨by simp, by simp, by simp only [bkKey]; omega⟩
      · have := (List.mem_filter.1 ho).1
        simp [bkKey] at this
        omega
  · rw [if_pos (by omega), e]
    unfold bkRep
    exact storesL_ok31 _ _ (by unfold bkKey; omega)
theorem delL_ok (C : Nat → Int) (off k : Nat) (hl : off + 128 < 18446744073709551616) : instrOk (delL C off k) := by
  unfold delL
  split
  · unfold bkHd; exact storesL_ok31 _ _ (by omega)
  · intro e he; simp at he
theorem putE_cases (C : Nat → Int) (off k : Nat) (x : Int) : putE C off k = 0 ∨ (putE C off k = 4 ∧ putL C off k x = []) := by
  unfold putE putL
  split
  · exact .inl rfl
  · split
    · exact .inl rfl
    · exact .inr ⟨rfl, rfl⟩
theorem delE_cases (C : Nat → Int) (off k : Nat) : delE C off k = 0 ∨ (delE C off k = 5 ∧ delL C off k = []) := by
  unfold delE delL
  split
  · exact .inl rfl
  · exact .inr ⟨rfl, rfl⟩
section
variable {w : World} {v : DV} {own : Nat → Option Role} {D : Dev} {off : Nat}
theorem DPost.past31 {w1 w2 : World} {D' : Dev} (hb : Below w.heap.size w w1) (h : DPost v own w1 D' w2) : DPost v own w D' w2 := DPost.next (fun _ _ => rfl) (Upd.of_below hb) h
/-- A program that a call has made runs on the device. -/
theorem run_acc31 (h : IsDev w v own D) {j : Nat} (hj : j < 8) {w1 : World} {pv : Value} {P : List (Nat × Nat × Int)} (ha : Acc w w.heap.size w1 98 3 pv P.length (instrC P)) (hi : instrOk P) (hl : P.length ≤ 100000) (hx : D.exec + 1000000 < 4294967296) :
    Calls Try.prog 31 #[pv, .iface 56 (.pointer (some ⟨v.tb j, 0, none⟩))] w1 fun r w' => r = .returned (.int .i64 ((D.run j P).err j)) ∧ DPost v own w (D.run j P) w' :=
  (run_any (h.below ha.bel) hj pv P ha.rd (fun k hk => by
    have := ha.new k hk
    cases ho : own k with
    | none => rfl
    | some r => have := h.lt k (by rw [ho]; simp); omega) hi hl (by omega)).mono fun r w' hp => ⟨hp.1, hp.2.past31 ha.bel⟩
set_option maxRecDepth 100000 in
set_option maxHeartbeats 4000000 in
theorem put31_any (h : IsDev w v own D) (hb : BOk D off) (hi : BInv D.cur off) (k : Nat) (hk : k < 18446744073709551616) (x : Int) (hx : D.exec + 1000000 < 4294967296) :
    Calls Try.prog 11 #[.agg #[.iface 56 (.pointer (some ⟨v.tb 0, 0, none⟩)), .int .u64 off], .int .u64 k, .int .u64 x] w fun r w' => r = .returned (.int .i64 (if putE D.cur off k = 0 then (D.run 0 (putL D.cur off k x)).err 0 else putE D.cur off k)) ∧ DPost v own w (D.run 0 (putL D.cur off k x)) w' := by
  have hl := hb.hl; have hn := h.wf.le
  have HP := Lib.hid (fun wx (hx : IsDev wx v own D) => planPut31_ok hx hb hi k hk x)
  have HR := Lib.hid (fun wx w1 pv (h1 : IsDev wx v own D) ha => run_acc31 (w := wx) h1 (j := 0) (by omega) (w1 := w1) (pv := pv) (P := putL D.cur off k x) ha (putL_ok D.cur off k x (by omega)) (by have := putL_len D.cur off k x; omega) hx)
  have hc := putE_cases D.cur off k x
  have H := Lib.hid h
  have X0 := Lib.hid (Bx1.start w #[.iface 56 (.pointer (some ⟨v.tb 0, 0, none⟩)), .int .u64 off] 29)
  generalize putE D.cur off k = pe at *
  generalize putL D.cur off k x = pl at *
  clear h hi
  rcases hc with rfl | ⟨rfl, rfl⟩
  · go_enter Try.func11, Try.ntmps11
    go_wp2_with fail
    (with_reducible refine (HP.out _ (H.out.below X0.out.bel)).mono ?_)
    rintro e w1 ⟨pv, rfl, ha⟩
    have A := Lib.hid ha
    have X1 := Lib.hid (X0.out.next ha.bel)
    obtain ⟨pa, pc, rfl⟩ := ha.slice
    clear ha
    have c0 := X1.out.blk.cell (i := 0) (v := .iface 56 (.pointer (some ⟨v.tb 0, 0, none⟩))) rfl
    go_wp2_with fail
    (with_reducible refine (HR.out _ _ _ (H.out.below X0.out.bel) A.out).mono ?_)
    rintro e w2 ⟨rfl, hp⟩
    have P := Lib.hid hp; clear hp
    go_wp2_with fail
    go_ret
    exact ⟨by simp, P.out.past31 X0.out.bel⟩
  · go_enter Try.func11, Try.ntmps11
    go_wp2_with fail
    (with_reducible refine (HP.out _ (H.out.below X0.out.bel)).mono ?_)
    rintro e w1 ⟨pv, rfl, ha⟩
    have X1 := Lib.hid (X0.out.next ha.bel)
    clear ha
    go_wp2_with fail
    go_ret
    exact ⟨by simp, (DPost.refl (H.out.below X1.out.bel)).past31 X1.out.bel⟩
set_option maxRecDepth 100000 in
set_option maxHeartbeats 4000000 in
theorem del31_any (h : IsDev w v own D) (hb : BOk D off) (hi : BInv D.cur off) (k : Nat) (hk : k < 18446744073709551616) (hx : D.exec + 1000000 < 4294967296) :
    Calls Try.prog 10 #[.agg #[.iface 56 (.pointer (some ⟨v.tb 0, 0, none⟩)), .int .u64 off], .int .u64 k] w fun r w' => r = .returned (.int .i64 (if delE D.cur off k = 0 then (D.run 0 (delL D.cur off k)).err 0 else delE D.cur off k)) ∧ DPost v own w (D.run 0 (delL D.cur off k)) w' := by
  have hl := hb.hl; have hn := h.wf.le
  have HP := Lib.hid (fun wx (hx : IsDev wx v own D) => planDel31_ok hx hb hi k hk)
  have HR := Lib.hid (fun wx w1 pv (h1 : IsDev wx v own D) ha => run_acc31 (w := wx) h1 (j := 0) (by omega) (w1 := w1) (pv := pv) (P := delL D.cur off k) ha (delL_ok D.cur off k (by omega)) (by have := delL_len D.cur off k; omega) hx)
  have hc := delE_cases D.cur off k
  have H := Lib.hid h
  have X0 := Lib.hid (Bx1.start w #[.iface 56 (.pointer (some ⟨v.tb 0, 0, none⟩)), .int .u64 off] 29)
  generalize delE D.cur off k = pe at *
  generalize delL D.cur off k = pl at *
  clear h hi
  rcases hc with rfl | ⟨rfl, rfl⟩
  · go_enter Try.func10, Try.ntmps10
    go_wp2_with fail
    (with_reducible refine (HP.out _ (H.out.below X0.out.bel)).mono ?_)
    rintro e w1 ⟨pv, rfl, ha⟩
    have A := Lib.hid ha
    have X1 := Lib.hid (X0.out.next ha.bel)
    obtain ⟨pa, pc, rfl⟩ := ha.slice
    clear ha
    have c0 := X1.out.blk.cell (i := 0) (v := .iface 56 (.pointer (some ⟨v.tb 0, 0, none⟩))) rfl
    go_wp2_with fail
    (with_reducible refine (HR.out _ _ _ (H.out.below X0.out.bel) A.out).mono ?_)
    rintro e w2 ⟨rfl, hp⟩
    have P := Lib.hid hp; clear hp
    go_wp2_with fail
    go_ret
    exact ⟨by simp, P.out.past31 X0.out.bel⟩
  · go_enter Try.func10, Try.ntmps10
    go_wp2_with fail
    (with_reducible refine (HP.out _ (H.out.below X0.out.bel)).mono ?_)
    rintro e w1 ⟨pv, rfl, ha⟩
    have X1 := Lib.hid (X0.out.next ha.bel)
    clear ha
    go_wp2_with fail
    go_ret
    exact ⟨by simp, (DPost.refl (H.out.below X1.out.bel)).past31 X1.out.bel⟩
/-- A bucket on a clean device. -/
structure BSt (w : World) (v : DV) (own : Nat → Option Role) (D : Dev) (n x : Nat) (C : Nat → Int) (off : Nat) : Prop where
  dev : IsDev w v own D
  cl : BCl D n C x
  inv : BInv C off
  h8 : off % 8 = 0
  hl : off + 128 ≤ 64 * n
theorem BSt.ok {n x : Nat} {C : Nat → Int} (h : BSt w v own D n x C off) : BOk D off := ⟨h.cl.vb, h.cl.grp.on.off, h.cl.grp.on.err, h.h8, by rw [h.cl.grp.on.n]; exact h.hl⟩
theorem BSt.below {n x : Nat} {C : Nat → Int} {w1 : World} (h : BSt w v own D n x C off) (hb : Below w.heap.size w w1) : BSt w1 v own D n x C off := ⟨h.dev.below hb, h.cl, h.inv, h.h8, h.hl⟩
theorem BSt.get {n x : Nat} {C : Nat → Int} (h : BSt w v own D n x C off) (k : Nat) (hk : k < 18446744073709551616) :
    Calls Try.prog 12 #[.agg #[.iface 56 (.pointer (some ⟨v.tb 0, 0, none⟩)), .int .u64 off], .int .u64 k] w fun r w' => r = .returned (.tuple #[.int .u64 (getV C off k), .int .i64 (getE C off k)]) ∧ Below w.heap.size w w' := by
  have hi := h.inv
  rw [← h.cl.cur] at hi ⊢
  exact get31_ok h.dev h.ok hi k hk
theorem BSt.count {n x : Nat} {C : Nat → Int} (h : BSt w v own D n x C off) : Calls Try.prog 13 #[.agg #[.iface 56 (.pointer (some ⟨v.tb 0, 0, none⟩)), .int .u64 off]] w fun r w' => r = .returned (.int .i64 (cntN (bkH C off) : Nat)) ∧ Below w.heap.size w w' := by
  rw [← h.cl.cur]
  exact count31_ok h.dev h.ok
theorem BSt.planPut {n x : Nat} {C : Nat → Int} (h : BSt w v own D n x C off) (k : Nat) (hk : k < 18446744073709551616) (y : Int) :
    Calls Try.prog 15 #[.agg #[.iface 56 (.pointer (some ⟨v.tb 0, 0, none⟩)), .int .u64 off], .int .u64 k, .int .u64 y] w (ProgP w (putL C off k y) (putE C off k)) := by
  have hi := h.inv
  rw [← h.cl.cur] at hi ⊢
  exact planPut31_ok h.dev h.ok hi k hk y
theorem BSt.planDel {n x : Nat} {C : Nat → Int} (h : BSt w v own D n x C off) (k : Nat) (hk : k < 18446744073709551616) :
    Calls Try.prog 16 #[.agg #[.iface 56 (.pointer (some ⟨v.tb 0, 0, none⟩)), .int .u64 off], .int .u64 k] w (ProgP w (delL C off k) (delE C off k)) := by
  have hi := h.inv
  rw [← h.cl.cur] at hi ⊢
  exact planDel31_ok h.dev h.ok hi k hk
theorem BSt.put {n x : Nat} {C : Nat → Int} (h : BSt w v own D n x C off) (k : Nat) (hk : k < 18446744073709551616) (y : Int) (hy : 0 ≤ y ∧ y < 18446744073709551616) (hx : x < 100000) :
    Calls Try.prog 11 #[.agg #[.iface 56 (.pointer (some ⟨v.tb 0, 0, none⟩)), .int .u64 off], .int .u64 k, .int .u64 y] w fun r w' => r = .returned (.int .i64 (putE C off k)) ∧ ∃ own' D', BSt w' v own' D' n (x + 9) (putC C off k y) off ∧ (∀ k, k < w.heap.size → own' k = own k) ∧ Upd (fun k => own k ≠ none) w w' := by
  have hi := h.inv
  have hcl := h.cl.put h.h8 h.hl hk hy hi.hd
  have he := h.cl.exec
  have hcur := h.cl.cur
  rw [← hcur] at hi
  refine (put31_any h.dev h.ok hi k hk y (by omega)).mono ?_
  rintro r w' ⟨rfl, own', d', o', u'⟩
  rw [hcur] at d' ⊢
  refine ⟨?_, own', _, ⟨d', hcl, h.inv.put hk hy, h.h8, h.hl⟩, o', u'⟩
  rw [hcl.grp.on.err]
  split <;> simp_all
theorem BSt.del {n x : Nat} {C : Nat → Int} (h : BSt w v own D n x C off) (k : Nat) (hk : k < 18446744073709551616) (hx : x < 100000) :
    Calls Try.prog 10 #[.agg #[.iface 56 (.pointer (some ⟨v.tb 0, 0, none⟩)), .int .u64 off], .int .u64 k] w fun r w' => r = .returned (.int .i64 (delE C off k)) ∧ ∃ own' D', BSt w' v own' D' n (x + 9) (delC C off k) off ∧ (∀ k, k < w.heap.size → own' k = own k) ∧ Upd (fun k => own k ≠ none) w w' := by
  have hi := h.inv
  have hcl := h.cl.del h.h8 h.hl k hi.hd
  have he := h.cl.exec
  have hcur := h.cl.cur
  rw [← hcur] at hi
  refine (del31_any h.dev h.ok hi k hk (by omega)).mono ?_
  rintro r w' ⟨rfl, own', d', o', u'⟩
  rw [hcur] at d' ⊢
  refine ⟨?_, own', _, ⟨d', hcl, h.inv.del k, h.h8, h.hl⟩, o', u'⟩
  rw [hcl.grp.on.err]
  split <;> simp_all
end
end Go.Proofs.Ytpkilmnppdbnkaa
