/- Programs of instructions: execute, valid, Run, over any device. -/
import Derived.Test.YtahpadhejjlpoaaGreatDoorDevG
import Derived.Test.YtahpadhejjlpoaaGreatDoorGen
import Derived.Test.YtahpadhejjlpoaaGreatDoorDevP
namespace Go.Proofs.YtahpadhejjlpoaaGreatDoor
open Go.RowKit

theorem instrC_get (l : List (Nat × Nat × Int)) : ∀ (k : Nat) (e : Nat × Nat × Int), l[k]? = some e → (instrC l)[k * 3]? = some (.int .u8 e.1) ∧ (instrC l)[k * 3 + 1]? = some (.int .u64 e.2.1) ∧ (instrC l)[k * 3 + 2]? = some (.int .u64 e.2.2) := by
  induction l with
  | nil => intro k e h; simp at h
  | cons x l ih =>
    intro k e he
    have hf : instrC (x :: l) = .int .u8 x.1 :: .int .u64 x.2.1 :: .int .u64 x.2.2 :: instrC l := rfl
    cases k with
    | zero => simp at he; subst he; simp [hf]
    | succ k =>
      have := ih k e (by simpa using he)
      rw [hf, show (k + 1) * 3 = k * 3 + 1 + 1 + 1 from by omega]
      simpa using this
theorem take_snocI (l : List (Nat × Nat × Int)) (k : Nat) (e : Nat × Nat × Int) (h : l[k]? = some e) : l.take (k + 1) = l.take k ++ [e] := by rw [List.take_add_one, h]; rfl

section
variable {w : World} {v : DV} {own : Nat → Option Role} {D : Dev} {j : Nat}
theorem DPost.start {w1 : World} {D' : Dev} (o : Obj) (h : DPost v own (w.alloc o) D' w1) : DPost v own w D' w1 := by
  obtain ⟨own', h1, h2, h3⟩ := h
  exact ⟨own', h1, fun k hk => h2 k (by simp; omega), ((Upd.refl _ w).alloc o).trans h3 (fun _ _ h => h)⟩
set_option maxRecDepth 100000 in
set_option maxHeartbeats 1000000 in
theorem execute_any (h : IsDev w v own D) (hj : j < 8) (e : Nat × Nat × Int) (h1 : 1 ≤ e.1) (h3 : e.1 ≤ 3) (ho : e.2.1 < 18446744073709551616) (hx : D.exec < 4294967296) :
    Calls Tryz.prog 31 #[.agg #[.int .u8 e.1, .int .u64 e.2.1, .int .u64 e.2.2], .iface 55 (.pointer (some ⟨v.tb j, 0, none⟩))] w fun r w' => r = .returned (.tuple #[]) ∧ DPost v own w (D.step j e) w' := by
  obtain ⟨op, off, x⟩ := e
  have hm1 := meth_Store ⟨v.tb j, 0, none⟩; have hm2 := meth_Flush ⟨v.tb j, 0, none⟩; have hm3 := meth_Fence ⟨v.tb j, 0, none⟩
  have HS := Lib.hid (fun o => store_any (h.alloc o) hj off x hx)
  have HF := Lib.hid (fun o => flush_any (h.alloc o) hj off ho hx)
  have HN := Lib.hid (fun o => fence_any (h.alloc o) hj hx)
  clear h
  simp only at h1 h3 ho ⊢
  obtain rfl | rfl | rfl : op = 1 ∨ op = 2 ∨ op = 3 := by omega
  · go_enter Tryz.func31, Tryz.ntmps31
    go_wp2_with fail
    (with_reducible refine (HS.out _).mono ?_)
    rintro e w1 ⟨rfl, hp⟩
    have HP := Lib.hid hp; clear hp
    go_wp2_with fail
    go_end0
    exact ⟨rfl, HP.out.start⟩
  · go_enter Tryz.func31, Tryz.ntmps31
    go_wp2_with fail
    (with_reducible refine (HF.out _).mono ?_)
    rintro e w1 ⟨rfl, hp⟩
    have HP := Lib.hid hp; clear hp
    go_wp2_with fail
    go_end0
    exact ⟨rfl, HP.out.start⟩
  · go_enter Tryz.func31, Tryz.ntmps31
    go_wp2_with fail
    (with_reducible refine (HN.out _).mono ?_)
    rintro e w1 ⟨rfl, hp⟩
    have HP := Lib.hid hp; clear hp
    go_wp2_with fail
    go_end0
    exact ⟨rfl, HP.out.start⟩

set_option maxRecDepth 100000 in
set_option maxHeartbeats 1000000 in
theorem mvalid_any (pv : Value) (l : List (Nat × Nat × Int)) (hp : RdSl w 3 pv l.length (instrC l)) (hi : instrOk l) (hl : l.length ≤ 100000) :
    Calls Tryz.prog 30 #[pv] w fun r w' => r = .returned (.bool true) ∧ Below w.heap.size w w' := by
  have H := Lib.hid hp; have HI := Lib.hid hi; clear hi
  obtain ⟨_, a, c, rfl, hc, _⟩ := hp
  generalize hn : l.length = n at *
  have HN := Lib.hid hn; clear hn
  go_enter Tryz.func30, Tryz.ntmps30
  go_wp2_with fail
  go_loopw [7] (fun y wr => ∃ k : Nat, k ≤ n ∧ y = .int .i64 k ∧ Below w.heap.size w wr) (fun y _ => n - (intOf y).toNat)
  case atStart => exact ⟨0, by omega, rfl, Below.refl _ _⟩
  case round =>
    obtain ⟨k, hk, rfl, hb⟩ := hrel
    have HB := Lib.hid hb; clear hb
    by_cases hlt : k < n
    · have hk' : (k : Int) < n := by omega
      obtain ⟨e, he⟩ : ∃ e, l[k]? = some e := ⟨_, List.getElem?_eq_getElem (by rw [HN.out]; exact hlt)⟩
      obtain ⟨_, a', c', e', _, hE⟩ := H.out.below HB.out
      cases e'
      have hg := instrC_get l k e he
      obtain ⟨eb, eo, rfl, hE2⟩ := rd_at hE hg.1
      have c1 := hE2 _ _ hg.1; have c2 := hE2 _ _ hg.2.1; have c3 := hE2 _ _ hg.2.2
      rw [← Nat.add_assoc] at c2 c3
      obtain ⟨i1, i2, _⟩ := HI.out e (List.mem_of_getElem? he)
      clear hE hE2 he hg
      obtain ⟨op, off, x⟩ := e
      simp only at c1 c2 c3 i1 i2
      have i1' : ¬ (op : Int) < 1 := by omega
      have i2' : ¬ (3 : Int) < (op : Int) := by omega
      go_wp2_with fail
      go_roundw
      case rel => exact ⟨k + 1, by omega, by go_num, HB.out.trans ((below_alloc wr _).mono HB.out.size)⟩
      case measure => simp [intOf]; omega
    · go_wp2_with fail
      go_ret
      exact ⟨rfl, HB.out⟩

/-- The state of Run: k instructions are executed. -/
structure RunSt (w : World) (v : DV) (own : Nat → Option Role) (D : Dev) (j : Nat) (l : List (Nat × Nat × Int)) (k : Nat) (wr : World) : Prop where
  post : DPost v own w (D.run j (l.take k)) wr
theorem DPost.next {own1 : Nat → Option Role} {D2 : Dev} {w1 w2 : World} (ho : ∀ k, k < w.heap.size → own1 k = own k) (hu : Upd (fun k => own k ≠ none) w w1) (h : DPost v own1 w1 D2 w2) : DPost v own w D2 w2 := DPost.trans hu.size ho hu h
set_option maxRecDepth 100000 in
set_option maxHeartbeats 2000000 in
theorem run_any (h : IsDev w v own D) (hj : j < 8) (pv : Value) (l : List (Nat × Nat × Int)) (hp : RdSl w 3 pv l.length (instrC l)) (hown : ∀ k, pv.ownBlock = some k → own k = none) (hi : instrOk l) (hl : l.length ≤ 100000) (hx : D.exec + l.length < 4294967296) :
    Calls Tryz.prog 12 #[pv, .iface 55 (.pointer (some ⟨v.tb j, 0, none⟩))] w fun r w' => r = .returned (.int .i64 ((D.run j l).err j)) ∧ DPost v own w (D.run j l) w' := by
  have HV := Lib.hid (mvalid_any pv l hp hi hl)
  have HP := Lib.hid hp; have HI := Lib.hid hi; have HO := Lib.hid hown; have H := Lib.hid h; clear h hi hown
  have hm2 := meth_Err ⟨v.tb j, 0, none⟩
  obtain ⟨_, a, c, rfl, hc, _⟩ := hp
  generalize hn : l.length = n at *
  have HN := Lib.hid hn; clear hn
  go_enter Tryz.func12, Tryz.ntmps12
  go_wp2_with fail
  (with_reducible refine HV.out.mono ?_)
  rintro e w1 ⟨rfl, b1⟩
  have R1 : Hid (RunSt w v own D j l 0 w1) := ⟨⟨own, H.out.kept b1.size (fun k hk => b1.block k (H.out.lt k hk)), fun _ _ => rfl, Upd.of_below b1⟩⟩
  clear b1
  go_wp2_with fail
  go_loopw [16] (fun y wr => ∃ k : Nat, k ≤ n ∧ y = .int .i64 k ∧ RunSt w v own D j l k wr) (fun y _ => n - (intOf y).toNat)
  case atStart => exact ⟨0, by omega, rfl, R1.out⟩
  case round =>
    obtain ⟨k, hk, rfl, hr⟩ := hrel
    obtain ⟨own1, d1, o1, u1⟩ := hr.post
    have D1 := Lib.hid d1; have O1 := Lib.hid o1; have U1 := Lib.hid u1; clear hr d1 o1 u1 R1
    by_cases hlt : k < n
    · have hk' : (k : Int) < n := by omega
      obtain ⟨e, he⟩ : ∃ e, l[k]? = some e := ⟨_, List.getElem?_eq_getElem (by rw [HN.out]; exact hlt)⟩
      obtain ⟨_, a', c', e', _, hE⟩ := HP.out.upd U1.out (fun k hk => by simpa using HO.out k hk)
      cases e'
      have hg := instrC_get l k e he
      obtain ⟨eb, eo, rfl, hE2⟩ := rd_at hE hg.1
      have c1 := hE2 _ _ hg.1; have c2 := hE2 _ _ hg.2.1; have c3 := hE2 _ _ hg.2.2
      rw [← Nat.add_assoc] at c2 c3
      obtain ⟨i1, i2, i3⟩ := HI.out e (List.mem_of_getElem? he)
      have hx1 : (D.run j (l.take k)).exec < 4294967296 := by
        have := D.run_exec j (l.take k); have h2 := List.length_take_le k l; omega
      have HT := Lib.hid (take_snocI l k e he)
      have HX := Lib.hid (fun o => execute_any (D1.out.alloc o) hj e i1 i2 i3 hx1)
      clear hE hE2 he hg hx1
      go_wp2_with fail
      (with_reducible refine (HX.out _).mono ?_)
      rintro e' w2 ⟨rfl, hp⟩
      have P2 : Hid (RunSt w v own D j l (k + 1) w2) := ⟨by rw [HT.out, Dev.run_snoc]; exact DPost.next O1.out U1.out hp.start⟩
      clear hp
      go_wp2_with fail
      go_roundw
      case rel => exact ⟨k + 1, by omega, by go_num, P2.out⟩
      case measure => simp [intOf]; omega
    · have HF : Hid (l.take k = l) := List.take_of_length_le (by rw [HN.out]; omega)
      rw [HF.out] at D1
      have HE := Lib.hid (err_any D1.out hj)
      go_wp2_with fail
      (with_reducible refine HE.out.mono ?_)
      rintro e w' ⟨rfl, rfl⟩
      go_wp2_with fail
      go_ret
      exact ⟨rfl, own1, D1.out, O1.out, U1.out⟩
end
end Go.Proofs.YtahpadhejjlpoaaGreatDoor
