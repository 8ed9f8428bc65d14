/- What serves every seat: draws, appends, instructions as cells, methods of a thread. -/
import Derived.Test.YtahpadhejjlpoaaGreatDoorDevG
import Derived.Test.YtahpadhejjlpoaaGreatDoorBase
import Derived.Deep.RegionHeld3
import Derived.Deep.DrawnRows
import Derived.BigQuiet
import Derived.Deep.QuietTactic
import Derived.StillTailTactics
import Derived.IntWalk
namespace Go.Proofs.YtahpadhejjlpoaaGreatDoor
open Go.RowKit

def natsI (l : List Nat) : List Value := l.map fun (s : Nat) => Value.int .i64 s
/-- Nothing but the count of draws has moved. -/
def Qt (w w' : World) : Prop := ∃ n, w' = w.drewN n
theorem Qt.refl (w : World) : Qt w w := ⟨0, rfl⟩
theorem Qt.below {w w' : World} (h : Qt w w') : Below w.heap.size w w' := by obtain ⟨n, rfl⟩ := h; exact ⟨rfl, rfl, rfl, Nat.le_refl _, fun _ _ => rfl⟩
theorem Qt.trans {a b c : World} (h : Qt a b) (k : Qt b c) : Qt a c := by
  obtain ⟨n, rfl⟩ := h; obtain ⟨m, rfl⟩ := k; exact ⟨n + m, by rw [World.drewN_drewN]⟩
theorem Qt.drewN (w : World) (n : Nat) : Qt w (w.drewN n) := ⟨n, rfl⟩
def intsU (l : List Int) : List Value := l.map fun s => Value.int .u64 s
theorem intsU_get (l : List Int) (k : Nat) (x : Int) (h : l[k]? = some x) : (intsU l)[k]? = some (.int .u64 x) := by simp [intsU, h]
section
variable {w : World}
theorem step_append_sl {P : Program} {ops : Array Oper} {o : Oper} {a : Act} {K : Act → World → Prop} {Q : Exit → Act → World → Prop} {E : Prop} (hgd : o.guard = none) (s x : Operand) (t : TypeId)
    (ho : o.op = .call { callee := .builtin .append, args := #[s, x], argTypes := #[t, t] })
    (e : TypeId) (i : TypeInfo) (z : Value) (size bytes : Nat) (ht : P.underlying t = some (.slice e)) (hi : P.info? e = some i) (hz : i.zero = some z)
    (hsize : i.size = size) (hby : i.bytes = bytes) (hzs : z.cells.size = size) (hsz : 0 < size)
    (v : Value) (n : Nat) (xs : List Value) (hs : a.eval s = v) (hown : OwnSl w e size v n xs)
    (xv : Value) (m : Nat) (news : List Value) (hx : a.eval x = xv) (hnews : RdSl w size xv m news) (h1 : ∀ u ∈ news, u.oneCell' = true)
    (h63 : n + m ≤ maxLen) (hbytes : (n + m) * bytes ≤ 140737488355328)
    (h : ∀ v' w', OwnSl w' e size v' (n + m) (xs ++ news) → w.grownBy w' v.ownBlock → (slAddr v' = slAddr v ∨ slAddr v' = some ⟨w.heap.size, 0, none⟩) → K (a.put o.dst v') w') :
    if Region.wanted o (yielded ops a.tmps) = true then Oper.wp P o a w K Q else E := by
  have hw : Region.wanted o (yielded ops a.tmps) = true := by simp [Region.wanted, hgd]
  rw [if_pos hw]
  obtain ⟨v', w', hr, h2, h3, h4, _⟩ := run_append_sl (P := P) w t o.type e i z size bytes ht hi hz hsize hby hzs v n xs hown xv m news hnews h1 h63 hbytes hsz
  unfold Oper.wp execOp
  simp only [ho, resolve, invoke, builtin, Sem.run_bind, Sem.run_pure, Result.andThen_ok, List.map_toArray, List.map_cons, List.map_nil, hs, hx, hr]
  exact h v' w' h2 h3 h4
end
section
variable {w : World}
theorem below_alloc (w : World) (o : Obj) : Below w.heap.size w (w.alloc o) := (Below.refl _ _).alloc (Nat.le_refl _) _
end
section
variable {w : World}
theorem below_alloc_drew (w : World) (o : Obj) : Below w.heap.size w (w.alloc o).drew := ((Below.refl _ _).alloc (Nat.le_refl _) _).drew
end
section
variable {w : World} {v : DV} {own : Nat → Option Role} {D : Dev}
set_option maxHeartbeats 400000 in
theorem load_ok (h : IsDev w v own D) {j : Nat} (hj : j < 8) (off : Nat) (hoff : D.off = false) (hw : off % 8 = 0) (hl : off < 64 * D.n) :
    Calls Tryz.prog 271 #[.pointer (some ⟨v.tb j, 0, none⟩), .int .u64 off] w fun r w' => r = .returned (.int .u64 (D.cur (off / 8))) ∧ w = w' := by
  have c0 : w.cell? ⟨v.tb j, 0, none⟩ = some (.pointer (some ⟨v.db, 0, none⟩)) := (h.thr j hj).cell rfl
  have c1 : w.cell? ⟨v.db, 1, none⟩ = some (.slice (some ⟨v.cb, 0, none⟩) (8 * D.n) v.cc) := h.dev.cell rfl
  have hn := h.wf.le
  have h2 : D.wordB off = true := by simp [Dev.wordB, hw, hl]
  have ck : w.cell? ⟨v.cb, off / 8, none⟩ = some (.int .u64 (D.cur (off / 8))) := cur_at h (by omega)
  have hw : ((off : Int) / 8) < (8 * D.n : Nat) := by omega
  have H := Lib.hid h; have H2 := Lib.hid h2; have Ho := Lib.hid hoff; clear h h2 hoff
  go_enter Tryz.func271, Tryz.ntmps271
  go_wp2_with (first | (go_at_call 277; refine (word_any H.out hj off).mono ?_; rintro e w' ⟨rfl, rfl⟩; rw [H2.out]) | (go_at_call 276; refine (on_yes H.out hj Ho.out).mono ?_; rintro e w' ⟨rfl, rfl⟩))
  go_ret
  exact ⟨rfl, rfl⟩
end
section
variable {w : World} {v : DV} {own : Nat → Option Role} {D : Dev}
theorem meth_Size (a : Addr) (w : World) : (method 451 55 (.pointer (some a)) "Size").run Tryz.prog w = .ok (272, .pointer (some a)) w := by kernel_rfl
end
section
variable {w : World} {v : DV} {own : Nat → Option Role} {D : Dev}
theorem meth_Err (a : Addr) (w : World) : (method 451 55 (.pointer (some a)) "Err").run Tryz.prog w = .ok (268, .pointer (some a)) w := by kernel_rfl
end
section
variable {w : World} {v : DV} {own : Nat → Option Role} {D : Dev}
theorem meth_Load (a : Addr) (w : World) : (method 451 55 (.pointer (some a)) "Load").run Tryz.prog w = .ok (271, .pointer (some a)) w := by kernel_rfl
end
section
variable {w : World} {v : DV} {own : Nat → Option Role} {D : Dev}
theorem meth_Store (a : Addr) (w : World) : (method 451 55 (.pointer (some a)) "Store").run Tryz.prog w = .ok (273, .pointer (some a)) w := by kernel_rfl
end
section
variable {w : World} {v : DV} {own : Nat → Option Role} {D : Dev}
theorem meth_Flush (a : Addr) (w : World) : (method 451 55 (.pointer (some a)) "Flush").run Tryz.prog w = .ok (270, .pointer (some a)) w := by kernel_rfl
end
section
variable {w : World} {v : DV} {own : Nat → Option Role} {D : Dev}
theorem meth_Fence (a : Addr) (w : World) : (method 451 55 (.pointer (some a)) "Fence").run Tryz.prog w = .ok (269, .pointer (some a)) w := by kernel_rfl
end
/-- Instructions as cells. -/
def instrC (l : List (Nat × Nat × Int)) : List Value := l.flatMap fun e => [.int .u8 e.1, .int .u64 e.2.1, .int .u64 e.2.2]
theorem instrC_append (a b : List (Nat × Nat × Int)) : instrC (a ++ b) = instrC a ++ instrC b := by simp [instrC]
theorem instrC_length (l : List (Nat × Nat × Int)) : (instrC l).length = l.length * 3 := by
  induction l with
  | nil => rfl
  | cons e l ih => simp [instrC] at *; omega
theorem instrC_one (l : List (Nat × Nat × Int)) : ∀ u ∈ instrC l, u.oneCell' = true := by
  intro u hu
  simp [instrC] at hu
  obtain ⟨a, b, c, _, rfl | rfl | rfl⟩ := hu <;> rfl
theorem infoInstr : (Tryz.prog.info? 87).map (fun i => (i.zero, i.size, i.bytes)) = some (some (.agg #[.int .u8 0, .int .u64 0, .int .u64 0]), 3, 24) := by kernel_rfl
theorem cell_bel {w1 w2 : World} (hb : Below w1.heap.size w1 w2) {b o : Nat} {u : Value} (h : w1.cell? ⟨b, o, none⟩ = some u) : w2.cell? ⟨b, o, none⟩ = some u :=
  (hb.cell (p := ⟨b, o, none⟩) (World.block_lt_of_cell? w1 _ h)).trans h
theorem bdrew {W W' : World} (h : Below W.drew.heap.size W.drew W') : Below W.heap.size W W' := ⟨h.os, h.tape, h.output, h.size, h.block⟩
theorem flat_get' (l : List (Nat × Int)) (k : Nat) (e : Nat × Int) (h : l[k]? = some e) : (flat l)[k * 2]? = some (.int .u64 e.1) ∧ (flat l)[k * 2 + 1]? = some (.int .u64 e.2) := by
  have := flat_get l k e h
  rw [Nat.mul_comm] at this
  exact this
theorem below_twice (w : World) (o1 o2 : Obj) : Below w.heap.size w ((w.alloc o1).alloc o2) := (below_alloc w o1).trans ((below_alloc _ o2).mono (by simp))
section
variable {w : World}
theorem Acc.deeper {w w0 wc : World} {e : TypeId} {s n : Nat} {u : Value} {xs : List Value} (h : Acc w0 w0.heap.size wc e s u n xs) (hb : Below w.heap.size w w0) : Acc w w.heap.size wc e s u n xs :=
  ⟨h.own, fun g hg => Nat.le_trans hb.size (h.new g hg), hb.trans (h.bel.mono hb.size), Nat.le_trans hb.size h.lt⟩
end
section
variable {w : World} {v : DV} {own : Nat → Option Role} {D : Dev}
theorem IsDev.below {w' : World} (h : IsDev w v own D) (hb : Below w.heap.size w w') : IsDev w' v own D := h.kept hb.size (fun k hk => hb.block k (h.lt k hk))
end
theorem DPost.from {v : DV} {own : Nat → Option Role} {w w' : World} {D' : Dev} {B : Nat} (h : DPost v own w D' w') (ho : ∀ k, own k ≠ none → B ≤ k) (hB : B ≤ w.heap.size) :
    ∃ own', IsDev w' v own' D' ∧ (∀ k, own' k ≠ none → B ≤ k) ∧ Below B w w' := by
  obtain ⟨own', h1, h2, h3⟩ := h
  refine ⟨own', h1, fun k hk => ?_, ⟨h3.os, h3.tape, h3.output, h3.size, fun k hk => h3.block k (Nat.lt_of_lt_of_le hk hB) (fun hk2 => ?_)⟩⟩
  · rcases Nat.lt_or_ge k w.heap.size with hlt | hge
    · rw [h2 k hlt] at hk; exact ho k hk
    · omega
  · have := ho k hk2; omega
/-- The device stands where nothing of w has changed. -/
structure DevSt (w : World) (v : DV) (own : Nat → Option Role) (D : Dev) (wc : World) : Prop where
  dev : IsDev wc v own D
  ob : ∀ k, own k ≠ none → w.heap.size ≤ k
  bel : Below w.heap.size w wc
section
variable {w : World} {v : DV} {own : Nat → Option Role} {D : Dev}
theorem DevSt.step {wc w1 : World} {D' : Dev} (h : DevSt w v own D wc) (hp : DPost v own wc D' w1) : ∃ own', DevSt w v own' D' w1 := by
  obtain ⟨own', h1, h2, h3⟩ := hp.from h.ob h.bel.size
  exact ⟨own', h1, h2, h.bel.trans h3⟩
end
section
variable {w : World} {v : DV} {own : Nat → Option Role} {D : Dev}
theorem thread0_any (h : IsDev w v own D) : Calls Tryz.prog 13 #[.pointer (some ⟨v.db, 0, none⟩), .int .i64 0] w fun r w' => r = .returned (.pointer (some ⟨v.tb 0, 0, none⟩)) ∧ w = w' := thread_any h (j := 0) (by omega)
end
section
variable {w : World} {v : DV} {own : Nat → Option Role} {D : Dev}
theorem thread1_any (h : IsDev w v own D) : Calls Tryz.prog 13 #[.pointer (some ⟨v.db, 0, none⟩), .int .i64 1] w fun r w' => r = .returned (.pointer (some ⟨v.tb 1, 0, none⟩)) ∧ w = w' := thread_any h (j := 1) (by omega)
end
theorem infoInt : (Tryz.prog.info? 3).map (fun i => (i.zero, i.size, i.bytes)) = some (some (.int .i64 0), 1, 8) := by kernel_rfl
theorem natsI_snoc (l : List Nat) (s : Nat) : natsI (l ++ [s]) = natsI l ++ [.int .i64 s] := by simp [natsI]
section
variable {w : World}
theorem natsI_one (l : List Nat) : ∀ u ∈ natsI l, u.oneCell' = true := by intro u hu; simp [natsI] at hu; obtain ⟨s, _, rfl⟩ := hu; rfl
end
theorem take_snoc_get {α : Type} (l : List α) (k : Nat) (x : α) (h : l[k]? = some x) : l.take (k + 1) = l.take k ++ [x] := by rw [List.take_add_one, h]; rfl
/-- On, not armed, no error; its words are C. -/
structure Live (D : Dev) (n x : Nat) (C : Nat → Int) : Prop where
  n : D.n = n
  off : D.off = false
  armed : D.armed = false
  exec : D.exec ≤ x
  err : ∀ j, D.err j = 0
  cur : ∀ i, D.cur i = C i
section
variable {w : World} {v : DV} {own : Nat → Option Role} {D : Dev}
theorem loadAt_ok (h : IsDev w v own D) {j : Nat} (hj : j < 8) (off k : Nat) (o : Int) (ho : o = ((off + 8 * k : Nat) : Int)) (hoff : D.off = false) (hw : off % 8 = 0) (hl : off + 8 * k < 64 * D.n) :
    Calls Tryz.prog 271 #[.pointer (some ⟨v.tb j, 0, none⟩), .int .u64 o] w fun r w' => r = .returned (.int .u64 (D.cur (off / 8 + k))) ∧ w = w' := by
  subst ho
  have := load_ok h hj (off + 8 * k) hoff (by omega) hl
  rw [show (off + 8 * k) / 8 = off / 8 + k by omega] at this
  exact this
end
theorem take_snoc_at {α : Type} (l : List α) (k : Nat) (x : α) (h : l[k]? = some x) : l.take (k + 1) = l.take k ++ [x] := by rw [List.take_add_one, h]; rfl
section
variable {w : World}
theorem RdSl.takeG {size : Nat} {a : Option Addr} {n c : Nat} {xs : List Value} (h : RdSl w size (.slice a n c) n xs) (k : Nat) (hk : k ≤ n) : RdSl w size (.slice a k c) k (xs.take (k * size)) := by
  obtain ⟨h1, a', c', e, hc, h2⟩ := h
  cases e
  refine ⟨by rw [List.length_take, h1]; exact Nat.min_eq_left (Nat.mul_le_mul_right _ hk), a, c, rfl, by omega, ?_⟩
  rcases h2 with rfl | ⟨b, o, rfl, h3⟩
  · left; simp
  · right; refine ⟨b, o, rfl, fun j u hu => h3 j u ?_⟩
    rw [List.getElem?_take] at hu
    split at hu
    · exact hu
    · cases hu
end
section
variable {w : World}
theorem RdSl.dropG {size : Nat} {a : Option Addr} {n c : Nat} {xs : List Value} (h : RdSl w size (.slice a n c) n xs) (k : Nat) (hk : k ≤ n) : RdSl w size (.slice (if c = k then a else a.map (·.add (k * size))) (n - k) (c - k)) (n - k) (xs.drop (k * size)) := by
  obtain ⟨h1, a', c', e, hc, h2⟩ := h
  cases e
  refine ⟨by rw [List.length_drop, h1, Nat.sub_mul], _, c - k, rfl, by omega, ?_⟩
  by_cases hck : c = k
  · left; rw [List.drop_of_length_le]; rw [h1]; exact Nat.mul_le_mul_right _ (by omega)
  · rw [if_neg hck]
    rcases h2 with rfl | ⟨b, o, rfl, h3⟩
    · left; simp
    · right; refine ⟨b, o + k * size, by simp [Addr.add_lit], fun j u hu => ?_⟩
      rw [List.getElem?_drop] at hu
      rw [Nat.add_assoc]; exact h3 _ u hu
end
section
variable {w : World}
/-- One more append to a slice of the call's own. -/
theorem own_chain {w1 wz w2 : World} {v1 v2 : Value} {q : Nat} (h : Below w.heap.size w w1 ∧ ∀ g, v1.ownBlock = some g → w.heap.size ≤ g) (hz : Below w1.heap.size w1 wz) (g2 : wz.grownBy w2 v1.ownBlock) (b2 : slAddr v2 = slAddr v1 ∨ slAddr v2 = some ⟨q, 0, none⟩) (hq : w.heap.size ≤ q) :
    Below w.heap.size w w2 ∧ ∀ g, v2.ownBlock = some g → w.heap.size ≤ g := by
  have h1 : Below w.heap.size w wz := h.1.trans (hz.mono h.1.size)
  refine ⟨h1.grown g2 h1.size h.2, fun g hg => ?_⟩
  rcases b2 with b2 | b2
  · rw [ownBlock_addr, b2, ← ownBlock_addr] at hg; exact h.2 g hg
  · rw [ownBlock_addr, b2] at hg; cases hg; exact hq
end
end Go.Proofs.YtahpadhejjlpoaaGreatDoor
