/- Slices as lists of cells: one that is read (RdSl), one that is owned and may be appended to (OwnSl); append and make. -/
import Derived.Test.YtbpaamnofkhonaaDoorBase
namespace Go.Proofs.YtbpaamnofkhonaaDoor
open Go.RowKit

/-- The slice value v has n elements of size cells each, which read as xs. -/
def RdSl (w : World) (size : Nat) (v : Value) (n : Nat) (xs : List Value) : Prop :=
  xs.length = n * size ∧ ∃ a c, v = .slice a n c ∧ n ≤ c ∧ (xs = [] ∨ ∃ b o, a = some ⟨b, o, none⟩ ∧ ∀ j u, xs[j]? = some u → w.cell? ⟨b, o + j, none⟩ = some u)

def slAddr : Value → Option Addr | .slice a _ _ => a | _ => none
theorem ownBlock_addr (v : Value) : v.ownBlock = (slAddr v).map (·.block) := by
  cases v <;> simp [Value.ownBlock, slAddr]
  rename_i a _ _; cases a <;> rfl

/-- The slice value v owns its row: nil, or a part of a block that nothing else leads to. -/
def OwnSl (w : World) (e : TypeId) (size : Nat) (v : Value) (n : Nat) (xs : List Value) : Prop :=
  xs.length = n * size ∧
  ((v = .slice none 0 0 ∧ n = 0) ∨
   ∃ g o cap cur, v = .slice (some ⟨g, o, none⟩) n cap ∧ Blk w g cur e ∧ n ≤ cap ∧ cap ≤ maxLen ∧ o + cap * size ≤ cur.size ∧ (cur.toList.drop o).take (n * size) = xs)

section
variable {w : World} {e : TypeId} {size : Nat} {v : Value} {n : Nat} {xs : List Value}

theorem OwnSl.nil (w : World) (e : TypeId) (size : Nat) : OwnSl w e size (.slice none 0 0) 0 [] := ⟨by simp, .inl ⟨rfl, rfl⟩⟩
theorem OwnSl.rd (h : OwnSl w e size v n xs) : RdSl w size v n xs := by
  refine ⟨h.1, ?_⟩
  rcases h.2 with ⟨rfl, rfl⟩ | ⟨g, o, cap, cur, rfl, hb, hc, _, _, ht⟩
  · exact ⟨none, 0, rfl, Nat.le_refl _, .inl (List.eq_nil_of_length_eq_zero (by simpa using h.1))⟩
  · refine ⟨_, cap, rfl, hc, .inr ⟨g, o, rfl, fun j u hu => hb.cell ?_⟩⟩
    rw [← ht, List.getElem?_take] at hu
    split at hu
    · simpa [List.getElem?_drop] using hu
    · cases hu
theorem OwnSl.lt (h : OwnSl w e size v n xs) : ∀ k, v.ownBlock = some k → k < w.heap.size := by
  intro k hk
  rcases h.2 with ⟨rfl, _⟩ | ⟨g, o, cap, cur, rfl, hb, _⟩
  · simp [Value.ownBlock] at hk
  · simp [Value.ownBlock] at hk; subst hk; exact hb.lt
theorem OwnSl.kept {w' : World} (h : OwnSl w e size v n xs) (hb : ∀ k, v.ownBlock = some k → w'.heap[k]? = w.heap[k]?) : OwnSl w' e size v n xs := by
  refine ⟨h.1, ?_⟩
  rcases h.2 with hn | ⟨g, o, cap, cur, rfl, hg, rest⟩
  · exact .inl hn
  · exact .inr ⟨g, o, cap, cur, rfl, (hb g rfl).trans hg, rest⟩
theorem OwnSl.upd {w' : World} {S : Nat → Prop} (h : OwnSl w e size v n xs) (hu : Upd S w w') (hS : ∀ k, v.ownBlock = some k → ¬ S k) : OwnSl w' e size v n xs :=
  h.kept (fun k hk => hu.block k (h.lt k hk) (hS k hk))
theorem OwnSl.alloc (h : OwnSl w e size v n xs) (o : Obj) : OwnSl (w.alloc o) e size v n xs := h.kept (fun k hk => Below.heap_alloc _ _ _ (h.lt k hk))
theorem OwnSl.drew (h : OwnSl w e size v n xs) : OwnSl w.drew e size v n xs := h.kept (fun _ _ => rfl)
theorem OwnSl.other (h : OwnSl w e size v n xs) {a : Addr} (ha : ∀ k, v.ownBlock = some k → k ≠ a.block) (u : Value) : OwnSl (w.setCell a u) e size v n xs :=
  h.kept (fun k hk => Below.heap_setCell _ _ _ _ (ha k hk))
theorem OwnSl.slice (h : OwnSl w e size v n xs) : ∃ a c, v = .slice a n c := by
  rcases h.2 with ⟨rfl, rfl⟩ | ⟨g, o, cap, cur, rfl, _⟩
  · exact ⟨_, _, rfl⟩
  · exact ⟨_, _, rfl⟩

theorem RdSl.kept {w' : World} (h : RdSl w size v n xs) (hb : ∀ k, v.ownBlock = some k → k < w.heap.size → w'.heap[k]? = w.heap[k]?) : RdSl w' size v n xs := by
  obtain ⟨h1, a, c, rfl, hc, h2⟩ := h
  refine ⟨h1, a, c, rfl, hc, ?_⟩
  rcases h2 with h2 | ⟨b, o, rfl, h3⟩
  · exact .inl h2
  · refine .inr ⟨b, o, rfl, fun j u hu => ?_⟩
    have hlt := World.block_lt_of_cell? w _ (h3 j u hu)
    exact (World.cell?_of_block (w := w) (a := ⟨b, o + j, none⟩) (hb b rfl hlt)).trans (h3 j u hu)
theorem RdSl.upd {w' : World} {S : Nat → Prop} (h : RdSl w size v n xs) (hu : Upd S w w') (hS : ∀ k, v.ownBlock = some k → ¬ S k) : RdSl w' size v n xs :=
  h.kept (fun k hk hlt => hu.block k hlt (hS k hk))
theorem RdSl.below {w' : World} (h : RdSl w size v n xs) (hu : Below w.heap.size w w') : RdSl w' size v n xs := h.kept (fun k _ hlt => hu.block k hlt)
theorem RdSl.alloc (h : RdSl w size v n xs) (o : Obj) : RdSl (w.alloc o) size v n xs := h.kept (fun _ _ hlt => Below.heap_alloc _ _ _ hlt)
theorem RdSl.drew (h : RdSl w size v n xs) : RdSl w.drew size v n xs := h.kept (fun _ _ _ => rfl)
/-- What a slice that has an element looks like. -/
theorem rd_some (h : RdSl w size v n xs) (hx : xs ≠ []) : ∃ b o c, v = .slice (some ⟨b, o, none⟩) n c ∧ n ≤ c ∧ ∀ j u, xs[j]? = some u → w.cell? ⟨b, o + j, none⟩ = some u := by
  obtain ⟨_, a, c, rfl, hc, h2⟩ := h
  rcases h2 with h2 | ⟨b, o, rfl, h3⟩
  · exact (hx h2).elim
  · exact ⟨b, o, c, rfl, hc, h3⟩
end

section
variable {P : Program} (w : World)

/-- append, whatever the two slices are. -/
theorem run_append_sl (t ty e : TypeId) (i : TypeInfo) (z : Value) (size bytes : Nat) (ht : P.underlying t = some (.slice e)) (hi : P.info? e = some i) (hz : i.zero = some z)
    (hsize : i.size = size) (hby : i.bytes = bytes) (hzs : z.cells.size = size)
    (v : Value) (n : Nat) (xs : List Value) (hown : OwnSl w e size v n xs)
    (x : Value) (m : Nat) (news : List Value) (hx : RdSl w size x m news) (h1 : ∀ u ∈ news, u.oneCell' = true)
    (h63 : n + m ≤ maxLen) (hbytes : (n + m) * bytes ≤ 140737488355328) (hsp : 0 < size) :
    ∃ v' w', (Builtin.append_ #[t, t] ty #[v, x]).run P w = .ok v' w' ∧ OwnSl w' e size v' (n + m) (xs ++ news) ∧ w.grownBy w' v.ownBlock ∧
      (slAddr v' = slAddr v ∨ slAddr v' = Option.some ⟨w.heap.size, 0, none⟩) ∧ (v' = .slice none 0 0 → v = .slice none 0 0) := by
  subst hsize
  subst hby
  obtain ⟨hl, xa, xc, rfl, hxc, hxa⟩ := hx
  have hlen : (xs ++ news).length = (n + m) * i.size := by rw [List.length_append, hown.1, hl, Nat.add_mul]
  by_cases hm : m = 0
  · subst hm
    have hn : news = [] := List.eq_nil_of_length_eq_zero (by simpa using hl)
    subst hn
    have hf : (Builtin.firstCells i.size 0 (.slice xa 0 xc)).run P w = .ok #[] w := by
      cases xa <;> simp [Builtin.firstCells, loadCells, loadCellsFrom]
    rcases hown.2 with ⟨rfl, rfl⟩ | ⟨g, o, cap, cur, rfl, hg, hnc, hcm, hcs, htake⟩
    · have hx0 : xs = [] := List.eq_nil_of_length_eq_zero (by simpa using hown.1)
      subst hx0
      refine ⟨.slice none 0 0, w, ?_, by simpa using hown, ⟨rfl, rfl, rfl, Nat.le_refl _, fun _ _ _ => rfl⟩, .inl rfl, id⟩
      simp [Builtin.append_, run_underlying ht, sizeOf, typeInfo, hi, Builtin.lenOf, hf]
    · refine ⟨.slice (some ⟨g, o, none⟩) n cap, w, ?_, by simpa using hown, ⟨rfl, rfl, rfl, Nat.le_refl _, fun _ _ _ => rfl⟩, .inl rfl, by simp⟩
      simp [Builtin.append_, run_underlying ht, sizeOf, typeInfo, hi, Builtin.lenOf, hf, hnc, storeCells]
  · have hne : news ≠ [] := by
      intro h0; subst h0; rw [List.length_nil] at hl; rcases Nat.mul_eq_zero.1 hl.symm with h | h <;> omega
    obtain ⟨b, bo, rfl, hnews0⟩ : ∃ b o, xa = Option.some ⟨b, o, none⟩ ∧ ∀ j u, news[j]? = Option.some u → w.cell? ⟨b, o + j, none⟩ = Option.some u := by
      rcases hxa with h0 | h0
      · exact (hne h0).elim
      · exact h0
    have hnews : ∀ j u, news[j]? = Option.some u → w.cell? ((⟨b, bo, none⟩ : Addr).add j) = Option.some u := fun j u hu => by rw [Addr.add_lit]; exact hnews0 j u hu
    have hsmall : n + m ≤ 9223372036854775807 := by simp only [maxLen] at h63; omega
    have grown : ∀ (old : Nat), old < n + m → ∀ (row : Option Nat),
        OwnSl (w.drew.alloc (.cells (xs.toArray ++ news.toArray ++ Builtin.zeroCells z.cells (grownCap w (n + m) old e - (n + m))) e)) e i.size
          (.slice (Option.some ⟨w.heap.size, 0, none⟩) (n + m) (grownCap w (n + m) old e)) (n + m) (xs ++ news) ∧
        w.grownBy (w.drew.alloc (.cells (xs.toArray ++ news.toArray ++ Builtin.zeroCells z.cells (grownCap w (n + m) old e - (n + m))) e)) row := by
      intro old ho row
      have hge := grownCap_ge w (n + m) old e
      have hcm : grownCap w (n + m) old e ≤ maxLen := grownCap_le_maxLen w (n + m) old e h63
      refine ⟨⟨hlen, .inr ⟨w.heap.size, 0, _, _, rfl, heap_alloc_new w.drew _, hge, hcm, ?_, ?_⟩⟩, ⟨rfl, rfl, rfl, by simp, fun k hk _ => Below.heap_alloc w.drew _ k hk⟩⟩
      · simp only [Array.size_append, List.size_toArray, size_zeroCells, hzs, hown.1, hl, ← Nat.add_mul, Nat.zero_add]
        exact Nat.mul_le_mul_right _ (by omega)
      · simp only [Array.toList_append, List.append_assoc, List.drop_zero]
        rw [← List.append_assoc, ← hlen]
        exact List.take_left
    rcases hown.2 with ⟨rfl, rfl⟩ | ⟨g, o, cap, cur, rfl, hg, hnc, hcm, hcs, htake⟩
    · have hx : xs = [] := List.eq_nil_of_length_eq_zero (by simpa using hown.1)
      subst hx
      have hr := run_append_nil (P := P) w t ty e i z ht hi hz ⟨b, bo, none⟩ m xc news hl hnews (by omega) (by omega) (by have hb := hbytes; simp only [Nat.zero_add] at hb; omega)
      have hgr := grown 0 (by omega) (Value.ownBlock (.slice none 0 0))
      simp only [Nat.zero_add, List.nil_append, Array.empty_append] at hgr ⊢
      exact ⟨_, _, hr, hgr.1, hgr.2, .inr rfl, by simp⟩
    · by_cases hroom : n + m ≤ cap
      · have hfit : o + n * i.size + news.length ≤ cur.size := by
          have : (n + m) * i.size ≤ cap * i.size := Nat.mul_le_mul_right _ hroom
          rw [Nat.add_mul] at this; rw [hl]; omega
        have hf := run_firstCells_some (P := P) w i.size m ⟨b, bo, none⟩ m xc news hl hnews
        have hst := run_storeCells_at P g (o + n * i.size) e news 0 cur w hg (by simpa using hfit) h1
        simp only [Nat.add_zero] at hst
        have hr : (Builtin.append_ #[t, t] ty #[.slice (Option.some ⟨g, o, none⟩) n cap, .slice (Option.some ⟨b, bo, none⟩) m xc]).run P w =
            .ok (.slice (Option.some ⟨g, o, none⟩) (n + m) cap) (w.setRow g (cur.toList.take (o + n * i.size) ++ news ++ cur.toList.drop (o + n * i.size + news.length)).toArray) := by
          simp [Builtin.append_, run_underlying ht, sizeOf, typeInfo, hi, Builtin.lenOf, hroom, hf, Addr.add_lit, hst]
        refine ⟨_, _, hr, ⟨hlen, .inr ⟨g, o, cap, _, rfl, setRow_heap w g cur _ e _ hg, hroom, hcm, ?_, ?_⟩⟩, ⟨rfl, rfl, rfl, by simp, fun k _ hk => setRow_other w g k _ (fun e => hk (by simp [Value.ownBlock, e]))⟩, .inl rfl, by simp⟩
        · simp only [List.size_toArray, List.length_append, List.length_take, List.length_drop, Array.length_toList]
          omega
        · simp only
          have e1 : cur.toList.take (o + n * i.size) = cur.toList.take o ++ xs := by rw [List.take_add, htake]
          have lo : (cur.toList.take o).length = o := by
            rw [List.length_take, Array.length_toList]; omega
          rw [e1, List.append_assoc, List.append_assoc, List.drop_append_of_le_length (by omega), List.drop_of_length_le (by omega), List.nil_append, ← List.append_assoc, ← hlen]
          exact List.take_left
      · have holds : ∀ j u, xs[j]? = Option.some u → w.cell? ((⟨g, o, none⟩ : Addr).add j) = Option.some u := fun j u hu => by
          rw [Addr.add_lit]
          obtain ⟨_, a', c', e', _, h'⟩ := hown.rd
          cases e'
          rcases h' with h' | ⟨b', o', e'', h'⟩
          · subst h'; simp at hu
          · cases e''; exact h' j u hu
        have hr := run_append_grow (P := P) w t ty e i z ht hi hz ⟨g, o, none⟩ n cap xs hown.1 holds ⟨b, bo, none⟩ m xc news hl hnews (by omega) (by omega) (growslice_fits (by omega) hbytes)
        have hgr := grown cap (by omega) (Value.ownBlock (.slice (Option.some ⟨g, o, none⟩) n cap))
        exact ⟨_, _, hr, hgr.1, hgr.2, .inr rfl, by simp⟩

theorem wpList_append_sl {ops : Array Oper} {rest : List Oper} {o : Oper} {a : Act} {Q : Exit → Act → World → Prop} (hgd : o.guard = none) (s x : Operand) (t : TypeId)
    (ho : o.op = .call { callee := .builtin .append, args := #[s, x], argTypes := #[t, t] })
    (e : TypeId) (i : TypeInfo) (z : Value) (size bytes : Nat) (ht : P.underlying t = some (.slice e)) (hi : P.info? e = some i) (hz : i.zero = some z)
    (hsize : i.size = size) (hby : i.bytes = bytes) (hzs : z.cells.size = size) (hsz : 0 < size)
    (v : Value) (n : Nat) (xs : List Value) (hs : a.eval s = v) (hown : OwnSl w e size v n xs)
    (xv : Value) (m : Nat) (news : List Value) (hx : a.eval x = xv) (hnews : RdSl w size xv m news) (h1 : ∀ u ∈ news, u.oneCell' = true)
    (h63 : n + m ≤ maxLen) (hbytes : (n + m) * bytes ≤ 140737488355328)
    (h : ∀ v' w', OwnSl w' e size v' (n + m) (xs ++ news) → w.grownBy w' v.ownBlock → (slAddr v' = slAddr v ∨ slAddr v' = some ⟨w.heap.size, 0, none⟩) → (v' = .slice none 0 0 → v = .slice none 0 0) → wpList P ops Q rest (a.put o.dst v') w') : wpList P ops Q (o :: rest) a w := by
  refine wpList_plain hgd fun K hK => ?_
  obtain ⟨v', w', hr, h2, h3, h4, h5⟩ := run_append_sl (P := P) w t o.type e i z size bytes ht hi hz hsize hby hzs v n xs hown xv m news hnews h1 h63 hbytes hsz
  unfold Oper.wp execOp
  simp only [ho, resolve, invoke, builtin, Sem.run_bind, Sem.run_pure, Result.andThen_ok, List.map_toArray, List.map_cons, List.map_nil, hs, hx, hr]
  exact hK _ _ (h v' w' h2 h3 h4 h5)
end

/-- A new row of one or more elements is read so. -/
theorem RdSl.new (w : World) (c : Array Value) (t : TypeId) (size n : Nat) (h : c.size = n * size) : RdSl (w.alloc (.cells c t)) size (.slice (Option.some ⟨w.heap.size, 0, none⟩) n n) n c.toList := by
  refine ⟨by simpa using h, _, _, rfl, Nat.le_refl _, .inr ⟨_, 0, rfl, fun j u hu => (Blk.new w c t).cell ?_⟩⟩
  simpa using hu
theorem RdSl.newAt (w : World) (c : Array Value) (t : TypeId) (size n b : Nat) (hb : b = w.heap.size) (h : c.size = n * size) : RdSl (w.alloc (.cells c t)) size (.slice (Option.some ⟨b, 0, none⟩) n n) n c.toList := by
  subst hb; exact RdSl.new w c t size n h
/-- The cell of an element that is there. -/
theorem rd_at {w : World} {a : Option Addr} {xs : List Value} (h : xs = [] ∨ ∃ b o, a = some ⟨b, o, none⟩ ∧ ∀ j u, xs[j]? = some u → w.cell? ⟨b, o + j, none⟩ = some u)
    {k : Nat} {u : Value} (hk : xs[k]? = some u) : ∃ b o, a = some ⟨b, o, none⟩ ∧ ∀ j u, xs[j]? = some u → w.cell? ⟨b, o + j, none⟩ = some u := by
  rcases h with h0 | h0
  · rw [h0] at hk; simp at hk
  · exact h0
theorem OwnSl.new (w : World) (c : Array Value) (e : TypeId) (size n cap : Nat) (hs : c.size = cap * size) (hn : n ≤ cap) (hm : cap ≤ maxLen) :
    OwnSl (w.alloc (.cells c e)) e size (.slice (Option.some ⟨w.heap.size, 0, none⟩) n cap) n (c.toList.take (n * size)) := by
  refine ⟨?_, .inr ⟨_, 0, cap, c, rfl, Blk.new w c e, hn, hm, by omega, by simp⟩⟩
  rw [List.length_take, Array.length_toList, hs]
  exact Nat.min_eq_left (Nat.mul_le_mul_right _ hn)
end Go.Proofs.YtbpaamnofkhonaaDoor
