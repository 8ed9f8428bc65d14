/- Plain facts about worlds and blocks, used by all walks of this seat. No program in sight. -/
import Derived.WalkKit
import Derived.WalkSpells
import Derived.WalkLawsBesides
import Derived.Maps.RangeWalk
import Derived.Maps.OwnSet
import Derived.Lib.Hide
namespace Go.Proofs.YtahpadhejjlpoaaGreatDoor
open Go.RowKit

/-- Outside the blocks of S nothing that was there has changed. -/
structure Upd (S : Nat → Prop) (w w' : World) : Prop where
  os : w'.os = w.os
  tape : w'.tape = w.tape
  output : w'.output = w.output
  size : w.heap.size ≤ w'.heap.size
  block : ∀ k, k < w.heap.size → ¬ S k → w'.heap[k]? = w.heap[k]?

theorem Upd.refl (S : Nat → Prop) (w : World) : Upd S w w := ⟨rfl, rfl, rfl, Nat.le_refl _, fun _ _ _ => rfl⟩
theorem Upd.trans {S S' : Nat → Prop} {a b c : World} (h : Upd S a b) (k : Upd S' b c) (hs : ∀ i, i < a.heap.size → S' i → S i) : Upd S a c :=
  ⟨k.os.trans h.os, k.tape.trans h.tape, k.output.trans h.output, Nat.le_trans h.size k.size, fun i hi hn =>
    (k.block i (Nat.lt_of_lt_of_le hi h.size) (fun hS => hn (hs i hi hS))).trans (h.block i hi hn)⟩
theorem Upd.mono {S S' : Nat → Prop} {a b : World} (h : Upd S a b) (hs : ∀ i, i < a.heap.size → S i → S' i) : Upd S' a b :=
  ⟨h.os, h.tape, h.output, h.size, fun i hi hn => h.block i hi (fun hS => hn (hs i hi hS))⟩
theorem Upd.drew {S : Nat → Prop} {a b : World} (h : Upd S a b) : Upd S a b.drew := ⟨h.os, h.tape, h.output, h.size, h.block⟩
theorem Upd.alloc {S : Nat → Prop} {a b : World} (h : Upd S a b) (o : Obj) : Upd S a (b.alloc o) :=
  ⟨h.os, h.tape, h.output, Nat.le_trans h.size (by simp), fun k hk hn => (Below.heap_alloc _ _ _ (Nat.lt_of_lt_of_le hk h.size)).trans (h.block k hk hn)⟩
theorem Upd.setCell {S : Nat → Prop} {a b : World} (h : Upd S a b) {p : Addr} (hp : p.block < a.heap.size → S p.block) (u : Value) : Upd S a (b.setCell p u) :=
  ⟨h.os, h.tape, h.output, Nat.le_trans h.size (by simp [World.setCell]), fun k hk hn =>
    (Below.heap_setCell _ _ _ _ (fun e => hn (by subst e; exact hp hk))).trans (h.block k hk hn)⟩
theorem Upd.grown {S : Nat → Prop} {a w w' : World} {row : Option Nat} (h : Upd S a w) (hg : w.grownBy w' row) (hr : ∀ k, row = some k → k < a.heap.size → S k) : Upd S a w' :=
  ⟨hg.os.trans h.os, hg.tape.trans h.tape, hg.output.trans h.output, Nat.le_trans h.size hg.size, fun k hk hn =>
    (hg.block k (Nat.lt_of_lt_of_le hk h.size) (fun e => hn (hr k e.symm hk))).trans (h.block k hk hn)⟩
theorem Upd.below {w w' : World} (h : Upd (fun _ => False) w w') : Below w.heap.size w w' := ⟨h.os, h.tape, h.output, h.size, fun k hk => h.block k hk (fun f => f)⟩
theorem Upd.of_below {w w' : World} {S : Nat → Prop} (h : Below w.heap.size w w') : Upd S w w' := ⟨h.os, h.tape, h.output, h.size, fun k hk _ => h.block k hk⟩
theorem Upd.get {S : Nat → Prop} {w w' : World} (h : Upd S w w') {k : Nat} {o : Obj} (hb : w.heap[k]? = some o) (hn : ¬ S k) : w'.heap[k]? = some o :=
  (h.block k (lt_of_block hb) hn).trans hb

/-- Block b holds these cells, none of them frozen. -/
def Blk (w : World) (b : Nat) (c : Array Value) (t : TypeId) : Prop := w.heap[b]? = some (.cells c t (0, 0))

theorem Blk.lt {w : World} {b : Nat} {c : Array Value} {t : TypeId} (h : Blk w b c t) : b < w.heap.size := lt_of_block h
theorem Blk.cell {w : World} {b : Nat} {c : Array Value} {t : TypeId} (h : Blk w b c t) {i : Nat} {v : Value} (hv : c[i]? = some v) : w.cell? ⟨b, i, none⟩ = some v := by
  unfold Blk at h; simp [World.cell?, h, hv]
theorem Blk.frozen {w : World} {b : Nat} {c : Array Value} {t : TypeId} (h : Blk w b c t) (i : Nat) : w.frozen? ⟨b, i, none⟩ = false := by
  unfold Blk at h; simp [World.frozen?, h]
theorem Blk.upd {S : Nat → Prop} {w w' : World} {b : Nat} {c : Array Value} {t : TypeId} (h : Blk w b c t) (u : Upd S w w') (hn : ¬ S b) : Blk w' b c t := u.get h hn
theorem Blk.drew {w : World} {b : Nat} {c : Array Value} {t : TypeId} (h : Blk w b c t) : Blk w.drew b c t := h
theorem Blk.alloc {w : World} {b : Nat} {c : Array Value} {t : TypeId} (h : Blk w b c t) (o : Obj) : Blk (w.alloc o) b c t := (Below.heap_alloc w o b h.lt).trans h
theorem Blk.new (w : World) (c : Array Value) (t : TypeId) : Blk (w.alloc (.cells c t)) w.heap.size c t := heap_alloc_new w _
theorem Blk.other {w : World} {b : Nat} {c : Array Value} {t : TypeId} (h : Blk w b c t) {a : Addr} (hne : b ≠ a.block) (u : Value) : Blk (w.setCell a u) b c t :=
  (Below.heap_setCell w a u b hne).trans h
theorem Blk.set {w : World} {b : Nat} {c : Array Value} {t : TypeId} (h : Blk w b c t) (i : Nat) (u : Value) : Blk (w.setCell ⟨b, i, none⟩ u) b (c.setIfInBounds i u) t := by
  unfold Blk at *; simp [World.setCell, Array.getElem?_modify, h]
theorem Blk.inj {w : World} {b : Nat} {c c' : Array Value} {t t' : TypeId} (h : Blk w b c t) (h' : Blk w b c' t') : c = c' ∧ t = t' := by
  unfold Blk at *; rw [h] at h'; simp at h'; exact h'

/-- The first n cells of block b are f 0, f 1, .. -/
def Row (w : World) (b n : Nat) (t : TypeId) (f : Nat → Value) : Prop := ∃ c, Blk w b c t ∧ ∀ i, i < n → c[i]? = some (f i)

theorem Row.lt {w : World} {b n : Nat} {t : TypeId} {f : Nat → Value} (h : Row w b n t f) : b < w.heap.size := let ⟨_, h, _⟩ := h; h.lt
theorem Row.cell {w : World} {b n : Nat} {t : TypeId} {f : Nat → Value} (h : Row w b n t f) {i : Nat} (hi : i < n) : w.cell? ⟨b, i, none⟩ = some (f i) :=
  let ⟨_, h, hc⟩ := h; h.cell (hc i hi)
theorem Row.frozen {w : World} {b n : Nat} {t : TypeId} {f : Nat → Value} (h : Row w b n t f) (i : Nat) : w.frozen? ⟨b, i, none⟩ = false := let ⟨_, h, _⟩ := h; h.frozen i
theorem Row.upd {S : Nat → Prop} {w w' : World} {b n : Nat} {t : TypeId} {f : Nat → Value} (h : Row w b n t f) (u : Upd S w w') (hn : ¬ S b) : Row w' b n t f :=
  let ⟨c, h, hc⟩ := h; ⟨c, h.upd u hn, hc⟩
theorem Row.below {w w' : World} {b n : Nat} {t : TypeId} {f : Nat → Value} (h : Row w b n t f) (hb : Below w.heap.size w w') : Row w' b n t f :=
  let ⟨c, h, hc⟩ := h; ⟨c, (hb.block b h.lt).trans h, hc⟩
theorem Blk.below {w w' : World} {b : Nat} {c : Array Value} {t : TypeId} (h : Blk w b c t) (hb : Below w.heap.size w w') : Blk w' b c t := (hb.block b h.lt).trans h
theorem Row.drew {w : World} {b n : Nat} {t : TypeId} {f : Nat → Value} (h : Row w b n t f) : Row w.drew b n t f := h
theorem Row.alloc {w : World} {b n : Nat} {t : TypeId} {f : Nat → Value} (h : Row w b n t f) (o : Obj) : Row (w.alloc o) b n t f := let ⟨c, h, hc⟩ := h; ⟨c, h.alloc o, hc⟩
theorem Row.other {w : World} {b n : Nat} {t : TypeId} {f : Nat → Value} (h : Row w b n t f) {a : Addr} (hne : b ≠ a.block) (u : Value) : Row (w.setCell a u) b n t f :=
  let ⟨c, h, hc⟩ := h; ⟨c, h.other hne u, hc⟩
theorem Row.set {w : World} {b n : Nat} {t : TypeId} {f : Nat → Value} (h : Row w b n t f) (k : Nat) (u : Value) : Row (w.setCell ⟨b, k, none⟩ u) b n t (fun i => if i = k then u else f i) := by
  obtain ⟨c, h, hc⟩ := h
  refine ⟨_, h.set k u, fun i hi => ?_⟩
  have := hc i hi
  have hlt : i < c.size := by rcases Nat.lt_or_ge i c.size with h | h; exact h; simp [Array.getElem?_eq_none h] at this
  by_cases e : i = k
  · subst e; simp [hlt]
  · simp [e, Ne.symm e, this]
theorem Row.congr {w : World} {b n : Nat} {t : TypeId} {f g : Nat → Value} (h : Row w b n t f) (hfg : ∀ i, i < n → f i = g i) : Row w b n t g :=
  let ⟨c, h, hc⟩ := h; ⟨c, h, fun i hi => (hc i hi).trans (by rw [hfg i hi])⟩
theorem Row.new (w : World) (c : Array Value) (t : TypeId) (n : Nat) (f : Nat → Value) (hc : ∀ i, i < n → c[i]? = some (f i)) : Row (w.alloc (.cells c t)) w.heap.size n t f := ⟨c, Blk.new w c t, hc⟩

end Go.Proofs.YtahpadhejjlpoaaGreatDoor

/- Slices as lists of cells: one that is read (RdSl), one that is owned and may be appended to (OwnSl); append and make. -/
namespace Go.Proofs.YtahpadhejjlpoaaGreatDoor
open Go.RowKit

/-- The slice value v has n elements of size cells each, which read as xs. -/
def RdSl (w : World) (size : Nat) (v : Value) (n : Nat) (xs : List Value) : Prop :=
  xs.length = n * size ∧ ∃ a c, v = .slice a n c ∧ n ≤ c ∧ (xs = [] ∨ ∃ b o, a = some ⟨b, o, none⟩ ∧ ∀ j u, xs[j]? = some u → w.cell? ⟨b, o + j, none⟩ = some u)

def slAddr : Value → Option Addr | .slice a _ _ => a | _ => none
theorem ownBlock_addr (v : Value) : v.ownBlock = (slAddr v).map (·.block) := by
  cases v <;> simp [Value.ownBlock, slAddr]
  rename_i a _ _; cases a <;> rfl

/-- The slice value v owns its row: nil, or a part of a block that nothing else leads to. -/
def OwnSl (w : World) (e : TypeId) (size : Nat) (v : Value) (n : Nat) (xs : List Value) : Prop :=
  xs.length = n * size ∧
  ((v = .slice none 0 0 ∧ n = 0) ∨
   ∃ g o cap cur, v = .slice (some ⟨g, o, none⟩) n cap ∧ Blk w g cur e ∧ n ≤ cap ∧ cap ≤ maxLen ∧ o + cap * size ≤ cur.size ∧ (cur.toList.drop o).take (n * size) = xs)

section
variable {w : World} {e : TypeId} {size : Nat} {v : Value} {n : Nat} {xs : List Value}

theorem OwnSl.nil (w : World) (e : TypeId) (size : Nat) : OwnSl w e size (.slice none 0 0) 0 [] := ⟨by simp, .inl ⟨rfl, rfl⟩⟩
theorem OwnSl.rd (h : OwnSl w e size v n xs) : RdSl w size v n xs := by
  refine ⟨h.1, ?_⟩
  rcases h.2 with ⟨rfl, rfl⟩ | ⟨g, o, cap, cur, rfl, hb, hc, _, _, ht⟩
  · exact ⟨none, 0, rfl, Nat.le_refl _, .inl (List.eq_nil_of_length_eq_zero (by simpa using h.1))⟩
  · refine ⟨_, cap, rfl, hc, .inr ⟨g, o, rfl, fun j u hu => hb.cell ?_⟩⟩
    rw [← ht, List.getElem?_take] at hu
    split at hu
    · simpa [List.getElem?_drop] using hu
    · cases hu
theorem OwnSl.lt (h : OwnSl w e size v n xs) : ∀ k, v.ownBlock = some k → k < w.heap.size := by
  intro k hk
  rcases h.2 with ⟨rfl, _⟩ | ⟨g, o, cap, cur, rfl, hb, _⟩
  · simp [Value.ownBlock] at hk
  · simp [Value.ownBlock] at hk; subst hk; exact hb.lt
theorem OwnSl.kept {w' : World} (h : OwnSl w e size v n xs) (hb : ∀ k, v.ownBlock = some k → w'.heap[k]? = w.heap[k]?) : OwnSl w' e size v n xs := by
  refine ⟨h.1, ?_⟩
  rcases h.2 with hn | ⟨g, o, cap, cur, rfl, hg, rest⟩
  · exact .inl hn
  · exact .inr ⟨g, o, cap, cur, rfl, (hb g rfl).trans hg, rest⟩
theorem OwnSl.upd {w' : World} {S : Nat → Prop} (h : OwnSl w e size v n xs) (hu : Upd S w w') (hS : ∀ k, v.ownBlock = some k → ¬ S k) : OwnSl w' e size v n xs :=
  h.kept (fun k hk => hu.block k (h.lt k hk) (hS k hk))
theorem OwnSl.alloc (h : OwnSl w e size v n xs) (o : Obj) : OwnSl (w.alloc o) e size v n xs := h.kept (fun k hk => Below.heap_alloc _ _ _ (h.lt k hk))
theorem OwnSl.drew (h : OwnSl w e size v n xs) : OwnSl w.drew e size v n xs := h.kept (fun _ _ => rfl)
theorem OwnSl.other (h : OwnSl w e size v n xs) {a : Addr} (ha : ∀ k, v.ownBlock = some k → k ≠ a.block) (u : Value) : OwnSl (w.setCell a u) e size v n xs :=
  h.kept (fun k hk => Below.heap_setCell _ _ _ _ (ha k hk))
theorem OwnSl.slice (h : OwnSl w e size v n xs) : ∃ a c, v = .slice a n c := by
  rcases h.2 with ⟨rfl, rfl⟩ | ⟨g, o, cap, cur, rfl, _⟩
  · exact ⟨_, _, rfl⟩
  · exact ⟨_, _, rfl⟩

theorem RdSl.kept {w' : World} (h : RdSl w size v n xs) (hb : ∀ k, v.ownBlock = some k → k < w.heap.size → w'.heap[k]? = w.heap[k]?) : RdSl w' size v n xs := by
  obtain ⟨h1, a, c, rfl, hc, h2⟩ := h
  refine ⟨h1, a, c, rfl, hc, ?_⟩
  rcases h2 with h2 | ⟨b, o, rfl, h3⟩
  · exact .inl h2
  · refine .inr ⟨b, o, rfl, fun j u hu => ?_⟩
    have hlt := World.block_lt_of_cell? w _ (h3 j u hu)
    exact (World.cell?_of_block (w := w) (a := ⟨b, o + j, none⟩) (hb b rfl hlt)).trans (h3 j u hu)
theorem RdSl.upd {w' : World} {S : Nat → Prop} (h : RdSl w size v n xs) (hu : Upd S w w') (hS : ∀ k, v.ownBlock = some k → ¬ S k) : RdSl w' size v n xs :=
  h.kept (fun k hk hlt => hu.block k hlt (hS k hk))
theorem RdSl.below {w' : World} (h : RdSl w size v n xs) (hu : Below w.heap.size w w') : RdSl w' size v n xs := h.kept (fun k _ hlt => hu.block k hlt)
theorem RdSl.alloc (h : RdSl w size v n xs) (o : Obj) : RdSl (w.alloc o) size v n xs := h.kept (fun _ _ hlt => Below.heap_alloc _ _ _ hlt)
theorem RdSl.drew (h : RdSl w size v n xs) : RdSl w.drew size v n xs := h.kept (fun _ _ _ => rfl)
/-- What a slice that has an element looks like. -/
theorem rd_some (h : RdSl w size v n xs) (hx : xs ≠ []) : ∃ b o c, v = .slice (some ⟨b, o, none⟩) n c ∧ n ≤ c ∧ ∀ j u, xs[j]? = some u → w.cell? ⟨b, o + j, none⟩ = some u := by
  obtain ⟨_, a, c, rfl, hc, h2⟩ := h
  rcases h2 with h2 | ⟨b, o, rfl, h3⟩
  · exact (hx h2).elim
  · exact ⟨b, o, c, rfl, hc, h3⟩
end

section
variable {P : Program} (w : World)

/-- append, whatever the two slices are. -/
theorem run_append_sl (t ty e : TypeId) (i : TypeInfo) (z : Value) (size bytes : Nat) (ht : P.underlying t = some (.slice e)) (hi : P.info? e = some i) (hz : i.zero = some z)
    (hsize : i.size = size) (hby : i.bytes = bytes) (hzs : z.cells.size = size)
    (v : Value) (n : Nat) (xs : List Value) (hown : OwnSl w e size v n xs)
    (x : Value) (m : Nat) (news : List Value) (hx : RdSl w size x m news) (h1 : ∀ u ∈ news, u.oneCell' = true)
    (h63 : n + m ≤ maxLen) (hbytes : (n + m) * bytes ≤ 140737488355328) (hsp : 0 < size) :
    ∃ v' w', (Builtin.append_ #[t, t] ty #[v, x]).run P w = .ok v' w' ∧ OwnSl w' e size v' (n + m) (xs ++ news) ∧ w.grownBy w' v.ownBlock ∧
      (slAddr v' = slAddr v ∨ slAddr v' = Option.some ⟨w.heap.size, 0, none⟩) ∧ (v' = .slice none 0 0 → v = .slice none 0 0) := by
  subst hsize
  subst hby
  obtain ⟨hl, xa, xc, rfl, hxc, hxa⟩ := hx
  have hlen : (xs ++ news).length = (n + m) * i.size := by rw [List.length_append, hown.1, hl, Nat.add_mul]
  by_cases hm : m = 0
  · subst hm
    have hn : news = [] := List.eq_nil_of_length_eq_zero (by simpa using hl)
    subst hn
    have hf : (Builtin.firstCells i.size 0 (.slice xa 0 xc)).run P w = .ok #[] w := by
      cases xa <;> simp [Builtin.firstCells, loadCells, loadCellsFrom]
    rcases hown.2 with ⟨rfl, rfl⟩ | ⟨g, o, cap, cur, rfl, hg, hnc, hcm, hcs, htake⟩
    · have hx0 : xs = [] := List.eq_nil_of_length_eq_zero (by simpa using hown.1)
      subst hx0
      refine ⟨.slice none 0 0, w, ?_, by simpa using hown, ⟨rfl, rfl, rfl, Nat.le_refl _, fun _ _ _ => rfl⟩, .inl rfl, id⟩
      simp [Builtin.append_, run_underlying ht, sizeOf, typeInfo, hi, Builtin.lenOf, hf]
    · refine ⟨.slice (some ⟨g, o, none⟩) n cap, w, ?_, by simpa using hown, ⟨rfl, rfl, rfl, Nat.le_refl _, fun _ _ _ => rfl⟩, .inl rfl, by simp⟩
      simp [Builtin.append_, run_underlying ht, sizeOf, typeInfo, hi, Builtin.lenOf, hf, hnc, storeCells]
  · have hne : news ≠ [] := by
      intro h0; subst h0; rw [List.length_nil] at hl; rcases Nat.mul_eq_zero.1 hl.symm with h | h <;> omega
    obtain ⟨b, bo, rfl, hnews0⟩ : ∃ b o, xa = Option.some ⟨b, o, none⟩ ∧ ∀ j u, news[j]? = Option.some u → w.cell? ⟨b, o + j, none⟩ = Option.some u := by
      rcases hxa with h0 | h0
      · exact (hne h0).elim
      · exact h0
    have hnews : ∀ j u, news[j]? = Option.some u → w.cell? ((⟨b, bo, none⟩ : Addr).add j) = Option.some u := fun j u hu => by rw [Addr.add_lit]; exact hnews0 j u hu
    have hsmall : n + m ≤ 9223372036854775807 := by simp only [maxLen] at h63; omega
    have grown : ∀ (old : Nat), old < n + m → ∀ (row : Option Nat),
        OwnSl (w.drew.alloc (.cells (xs.toArray ++ news.toArray ++ Builtin.zeroCells z.cells (grownCap w (n + m) old e - (n + m))) e)) e i.size
          (.slice (Option.some ⟨w.heap.size, 0, none⟩) (n + m) (grownCap w (n + m) old e)) (n + m) (xs ++ news) ∧
        w.grownBy (w.drew.alloc (.cells (xs.toArray ++ news.toArray ++ Builtin.zeroCells z.cells (grownCap w (n + m) old e - (n + m))) e)) row := by
      intro old ho row
      have hge := grownCap_ge w (n + m) old e
      have hcm : grownCap w (n + m) old e ≤ maxLen := grownCap_le_maxLen w (n + m) old e h63
      refine ⟨⟨hlen, .inr ⟨w.heap.size, 0, _, _, rfl, heap_alloc_new w.drew _, hge, hcm, ?_, ?_⟩⟩, ⟨rfl, rfl, rfl, by simp, fun k hk _ => Below.heap_alloc w.drew _ k hk⟩⟩
      · simp only [Array.size_append, List.size_toArray, size_zeroCells, hzs, hown.1, hl, ← Nat.add_mul, Nat.zero_add]
        exact Nat.mul_le_mul_right _ (by omega)
      · simp only [Array.toList_append, List.append_assoc, List.drop_zero]
        rw [← List.append_assoc, ← hlen]
        exact List.take_left
    rcases hown.2 with ⟨rfl, rfl⟩ | ⟨g, o, cap, cur, rfl, hg, hnc, hcm, hcs, htake⟩
    · have hx : xs = [] := List.eq_nil_of_length_eq_zero (by simpa using hown.1)
      subst hx
      have hr := run_append_nil (P := P) w t ty e i z ht hi hz ⟨b, bo, none⟩ m xc news hl hnews (by omega) (by omega) (by have hb := hbytes; simp only [Nat.zero_add] at hb; omega)
      have hgr := grown 0 (by omega) (Value.ownBlock (.slice none 0 0))
      simp only [Nat.zero_add, List.nil_append, Array.empty_append] at hgr ⊢
      exact ⟨_, _, hr, hgr.1, hgr.2, .inr rfl, by simp⟩
    · by_cases hroom : n + m ≤ cap
      · have hfit : o + n * i.size + news.length ≤ cur.size := by
          have : (n + m) * i.size ≤ cap * i.size := Nat.mul_le_mul_right _ hroom
          rw [Nat.add_mul] at this; rw [hl]; omega
        have hf := run_firstCells_some (P := P) w i.size m ⟨b, bo, none⟩ m xc news hl hnews
        have hst := run_storeCells_at P g (o + n * i.size) e news 0 cur w hg (by simpa using hfit) h1
        simp only [Nat.add_zero] at hst
        have hr : (Builtin.append_ #[t, t] ty #[.slice (Option.some ⟨g, o, none⟩) n cap, .slice (Option.some ⟨b, bo, none⟩) m xc]).run P w =
            .ok (.slice (Option.some ⟨g, o, none⟩) (n + m) cap) (w.setRow g (cur.toList.take (o + n * i.size) ++ news ++ cur.toList.drop (o + n * i.size + news.length)).toArray) := by
          simp [Builtin.append_, run_underlying ht, sizeOf, typeInfo, hi, Builtin.lenOf, hroom, hf, Addr.add_lit, hst]
        refine ⟨_, _, hr, ⟨hlen, .inr ⟨g, o, cap, _, rfl, setRow_heap w g cur _ e _ hg, hroom, hcm, ?_, ?_⟩⟩, ⟨rfl, rfl, rfl, by simp, fun k _ hk => setRow_other w g k _ (fun e => hk (by simp [Value.ownBlock, e]))⟩, .inl rfl, by simp⟩
        · simp only [List.size_toArray, List.length_append, List.length_take, List.length_drop, Array.length_toList]
          omega
        · simp only
          have e1 : cur.toList.take (o + n * i.size) = cur.toList.take o ++ xs := by rw [List.take_add, htake]
          have lo : (cur.toList.take o).length = o := by
            rw [List.length_take, Array.length_toList]; omega
          rw [e1, List.append_assoc, List.append_assoc, List.drop_append_of_le_length (by omega), List.drop_of_length_le (by omega), List.nil_append, ← List.append_assoc, ← hlen]
          exact List.take_left
      · have holds : ∀ j u, xs[j]? = Option.some u → w.cell? ((⟨g, o, none⟩ : Addr).add j) = Option.some u := fun j u hu => by
          rw [Addr.add_lit]
          obtain ⟨_, a', c', e', _, h'⟩ := hown.rd
          cases e'
          rcases h' with h' | ⟨b', o', e'', h'⟩
          · subst h'; simp at hu
          · cases e''; exact h' j u hu
        have hr := run_append_grow (P := P) w t ty e i z ht hi hz ⟨g, o, none⟩ n cap xs hown.1 holds ⟨b, bo, none⟩ m xc news hl hnews (by omega) (by omega) (growslice_fits (by omega) hbytes)
        have hgr := grown cap (by omega) (Value.ownBlock (.slice (Option.some ⟨g, o, none⟩) n cap))
        exact ⟨_, _, hr, hgr.1, hgr.2, .inr rfl, by simp⟩

theorem wpList_append_sl {ops : Array Oper} {rest : List Oper} {o : Oper} {a : Act} {Q : Exit → Act → World → Prop} (hgd : o.guard = none) (s x : Operand) (t : TypeId)
    (ho : o.op = .call { callee := .builtin .append, args := #[s, x], argTypes := #[t, t] })
    (e : TypeId) (i : TypeInfo) (z : Value) (size bytes : Nat) (ht : P.underlying t = some (.slice e)) (hi : P.info? e = some i) (hz : i.zero = some z)
    (hsize : i.size = size) (hby : i.bytes = bytes) (hzs : z.cells.size = size) (hsz : 0 < size)
    (v : Value) (n : Nat) (xs : List Value) (hs : a.eval s = v) (hown : OwnSl w e size v n xs)
    (xv : Value) (m : Nat) (news : List Value) (hx : a.eval x = xv) (hnews : RdSl w size xv m news) (h1 : ∀ u ∈ news, u.oneCell' = true)
    (h63 : n + m ≤ maxLen) (hbytes : (n + m) * bytes ≤ 140737488355328)
    (h : ∀ v' w', OwnSl w' e size v' (n + m) (xs ++ news) → w.grownBy w' v.ownBlock → (slAddr v' = slAddr v ∨ slAddr v' = some ⟨w.heap.size, 0, none⟩) → (v' = .slice none 0 0 → v = .slice none 0 0) → wpList P ops Q rest (a.put o.dst v') w') : wpList P ops Q (o :: rest) a w := by
  refine wpList_plain hgd fun K hK => ?_
  obtain ⟨v', w', hr, h2, h3, h4, h5⟩ := run_append_sl (P := P) w t o.type e i z size bytes ht hi hz hsize hby hzs v n xs hown xv m news hnews h1 h63 hbytes hsz
  unfold Oper.wp execOp
  simp only [ho, resolve, invoke, builtin, Sem.run_bind, Sem.run_pure, Result.andThen_ok, List.map_toArray, List.map_cons, List.map_nil, hs, hx, hr]
  exact hK _ _ (h v' w' h2 h3 h4 h5)
end

/-- A new row of one or more elements is read so. -/
theorem RdSl.new (w : World) (c : Array Value) (t : TypeId) (size n : Nat) (h : c.size = n * size) : RdSl (w.alloc (.cells c t)) size (.slice (Option.some ⟨w.heap.size, 0, none⟩) n n) n c.toList := by
  refine ⟨by simpa using h, _, _, rfl, Nat.le_refl _, .inr ⟨_, 0, rfl, fun j u hu => (Blk.new w c t).cell ?_⟩⟩
  simpa using hu
theorem RdSl.newAt (w : World) (c : Array Value) (t : TypeId) (size n b : Nat) (hb : b = w.heap.size) (h : c.size = n * size) : RdSl (w.alloc (.cells c t)) size (.slice (Option.some ⟨b, 0, none⟩) n n) n c.toList := by
  subst hb; exact RdSl.new w c t size n h
/-- The cell of an element that is there. -/
theorem rd_at {w : World} {a : Option Addr} {xs : List Value} (h : xs = [] ∨ ∃ b o, a = some ⟨b, o, none⟩ ∧ ∀ j u, xs[j]? = some u → w.cell? ⟨b, o + j, none⟩ = some u)
    {k : Nat} {u : Value} (hk : xs[k]? = some u) : ∃ b o, a = some ⟨b, o, none⟩ ∧ ∀ j u, xs[j]? = some u → w.cell? ⟨b, o + j, none⟩ = some u := by
  rcases h with h0 | h0
  · rw [h0] at hk; simp at hk
  · exact h0
theorem OwnSl.new (w : World) (c : Array Value) (e : TypeId) (size n cap : Nat) (hs : c.size = cap * size) (hn : n ≤ cap) (hm : cap ≤ maxLen) :
    OwnSl (w.alloc (.cells c e)) e size (.slice (Option.some ⟨w.heap.size, 0, none⟩) n cap) n (c.toList.take (n * size)) := by
  refine ⟨?_, .inr ⟨_, 0, cap, c, rfl, Blk.new w c e, hn, hm, by omega, by simp⟩⟩
  rw [List.length_take, Array.length_toList, hs]
  exact Nat.min_eq_left (Nat.mul_le_mul_right _ hn)
end Go.Proofs.YtahpadhejjlpoaaGreatDoor

/- A slice that a call collects. -/
namespace Go.Proofs.YtahpadhejjlpoaaGreatDoor
open Go.RowKit

/-- v owns the cells xs in a block from B on; below B nothing has changed since w. -/
structure Acc (w : World) (B : Nat) (wr : World) (e : TypeId) (size : Nat) (v : Value) (n : Nat) (xs : List Value) : Prop where
  own : OwnSl wr e size v n xs
  new : ∀ g, v.ownBlock = some g → B ≤ g
  bel : Below B w wr
  lt : B ≤ wr.heap.size

section
variable {w wr wz w1 : World} {B : Nat} {e : TypeId} {size n m q : Nat} {v v' : Value} {xs news : List Value}
theorem Acc.nil (w : World) (B : Nat) (wr : World) (e : TypeId) (size : Nat) (hb : Below B w wr) (hB : B ≤ wr.heap.size) : Acc w B wr e size (.slice none 0 0) 0 [] := ⟨OwnSl.nil _ _ _, fun g hg => by simp [Value.ownBlock] at hg, hb, hB⟩
theorem Acc.slice (h : Acc w B wr e size v n xs) : ∃ a c, v = .slice a n c := h.own.slice
theorem Acc.next (h : Acc w B wr e size v n xs) (hz : Below wr.heap.size wr wz) (o1 : OwnSl w1 e size v' (n + m) (xs ++ news)) (g1 : wz.grownBy w1 v.ownBlock)
    (b1 : slAddr v' = slAddr v ∨ slAddr v' = some ⟨q, 0, none⟩) (hq : wr.heap.size ≤ q) : Acc w B w1 e size v' (n + m) (xs ++ news) := by
  refine ⟨o1, fun g hg => ?_, ⟨g1.os.trans (hz.os.trans h.bel.os), g1.tape.trans (hz.tape.trans h.bel.tape), g1.output.trans (hz.output.trans h.bel.output), Nat.le_trans h.bel.size (Nat.le_trans hz.size g1.size), fun k hk => ?_⟩, Nat.le_trans h.lt (Nat.le_trans hz.size g1.size)⟩
  · rcases b1 with b1 | b1
    · rw [ownBlock_addr, b1, ← ownBlock_addr] at hg; exact h.new g hg
    · rw [ownBlock_addr, b1] at hg; cases hg; exact Nat.le_trans h.lt hq
  · have hkr : k < wr.heap.size := Nat.lt_of_lt_of_le hk h.lt
    rw [g1.block k (Nat.lt_of_lt_of_le hkr hz.size) (fun hk2 => by have := h.new k hk2.symm; omega), hz.block k hkr]
    exact h.bel.block k hk
theorem Acc.keep (h : Acc w B wr e size v n xs) (hz : Below wr.heap.size wr wz) : Acc w B wz e size v n xs :=
  ⟨h.own.kept (fun k hk => hz.block k (h.own.lt k hk)), h.new, h.bel.trans (hz.mono h.lt), Nat.le_trans h.lt hz.size⟩
theorem Acc.drew (h : Acc w B wr e size v n xs) : Acc w B wr.drew e size v n xs := ⟨h.own.drew, h.new, ⟨h.bel.os, h.bel.tape, h.bel.output, h.bel.size, h.bel.block⟩, h.lt⟩
theorem Acc.rd (h : Acc w B wr e size v n xs) : RdSl wr size v n xs := h.own.rd
theorem Acc.congr (h : Acc w B wr e size v n xs) {n' : Nat} {xs' : List Value} (hn : n = n') (hx : xs = xs') : Acc w B wr e size v n' xs' := by subst hn hx; exact h
end
end Go.Proofs.YtahpadhejjlpoaaGreatDoor

/- Two and three slices that a call collects; small facts. -/
namespace Go.Proofs.YtahpadhejjlpoaaGreatDoor
open Go.RowKit

/-- Two slices of any kinds that a call collects, in blocks of their own. -/
structure Pair (w : World) (B : Nat) (wr : World) (e1 : TypeId) (s1 : Nat) (k : Value) (n1 : Nat) (ks : List Value) (e2 : TypeId) (s2 : Nat) (v : Value) (n2 : Nat) (vs : List Value) : Prop where
  a : Acc w B wr e1 s1 k n1 ks
  b : Acc w B wr e2 s2 v n2 vs
  ne : ∀ g, k.ownBlock = some g → v.ownBlock ≠ some g
section
variable {w : World} {B : Nat} {wr wz w1 : World} {k v k' : Value} {ks vs news : List Value} {q e1 e2 s1 s2 n1 n2 m : Nat}
theorem Pair.swap (h : Pair w B wr e1 s1 k n1 ks e2 s2 v n2 vs) : Pair w B wr e2 s2 v n2 vs e1 s1 k n1 ks := ⟨h.b, h.a, fun g h1 h2 => h.ne g h2 h1⟩
theorem Pair.keep (h : Pair w B wr e1 s1 k n1 ks e2 s2 v n2 vs) (hz : Below wr.heap.size wr wz) : Pair w B wz e1 s1 k n1 ks e2 s2 v n2 vs := ⟨h.a.keep hz, h.b.keep hz, h.ne⟩
theorem Pair.left (h : Pair w B wr e1 s1 k n1 ks e2 s2 v n2 vs) (hz : Below wr.heap.size wr wz) (o1 : OwnSl w1 e1 s1 k' (n1 + m) (ks ++ news)) (g1 : wz.grownBy w1 k.ownBlock)
    (b1 : slAddr k' = slAddr k ∨ slAddr k' = some ⟨q, 0, none⟩) (hq : wr.heap.size ≤ q) : Pair w B w1 e1 s1 k' (n1 + m) (ks ++ news) e2 s2 v n2 vs := by
  have hb : ∀ g, v.ownBlock = some g → w1.heap[g]? = wr.heap[g]? := fun g hg => by
    have hlt := h.b.own.lt g hg
    rw [g1.block g (Nat.lt_of_lt_of_le hlt hz.size) (fun e => h.ne g e.symm hg)]
    exact hz.block g hlt
  have A1 := h.a.next hz o1 g1 b1 hq
  refine ⟨A1, ⟨h.b.own.kept hb, h.b.new, A1.bel, A1.lt⟩, fun g hg hg2 => ?_⟩
  rcases b1 with b1 | b1
  · rw [ownBlock_addr, b1, ← ownBlock_addr] at hg; exact h.ne g hg hg2
  · rw [ownBlock_addr, b1] at hg; cases hg; have := h.b.own.lt q hg2; omega
end

/-- Three slices that a call collects, in blocks of their own. -/
structure Trip (w : World) (B : Nat) (wr : World) (e1 : TypeId) (s1 : Nat) (a : Value) (n1 : Nat) (al : List Value) (e2 : TypeId) (s2 : Nat) (b : Value) (n2 : Nat) (bl : List Value)
    (e3 : TypeId) (s3 : Nat) (c : Value) (n3 : Nat) (cl : List Value) : Prop where
  ab : Pair w B wr e1 s1 a n1 al e2 s2 b n2 bl
  ac : Pair w B wr e1 s1 a n1 al e3 s3 c n3 cl
  bc : ∀ g, b.ownBlock = some g → c.ownBlock ≠ some g
section
variable {w : World} {B : Nat} {wr wz w1 : World} {a b c a' : Value} {al bl cl news : List Value} {q e1 e2 e3 s1 s2 s3 n1 n2 n3 m : Nat}
theorem Trip.swap (h : Trip w B wr e1 s1 a n1 al e2 s2 b n2 bl e3 s3 c n3 cl) : Trip w B wr e2 s2 b n2 bl e1 s1 a n1 al e3 s3 c n3 cl := ⟨h.ab.swap, ⟨h.ab.b, h.ac.b, h.bc⟩, h.ac.ne⟩
theorem Trip.keep (h : Trip w B wr e1 s1 a n1 al e2 s2 b n2 bl e3 s3 c n3 cl) (hz : Below wr.heap.size wr wz) : Trip w B wz e1 s1 a n1 al e2 s2 b n2 bl e3 s3 c n3 cl := ⟨h.ab.keep hz, h.ac.keep hz, h.bc⟩
theorem Trip.left (h : Trip w B wr e1 s1 a n1 al e2 s2 b n2 bl e3 s3 c n3 cl) (hz : Below wr.heap.size wr wz) (o1 : OwnSl w1 e1 s1 a' (n1 + m) (al ++ news)) (g1 : wz.grownBy w1 a.ownBlock)
    (b1 : slAddr a' = slAddr a ∨ slAddr a' = some ⟨q, 0, none⟩) (hq : wr.heap.size ≤ q) : Trip w B w1 e1 s1 a' (n1 + m) (al ++ news) e2 s2 b n2 bl e3 s3 c n3 cl :=
  ⟨h.ab.left hz o1 g1 b1 hq, h.ac.left hz o1 g1 b1 hq, h.bc⟩
/-- A slice that was collected later lies elsewhere. -/
theorem Pair.of {w wr : World} {B : Nat} {e1 s1 n1 e2 s2 n2 : Nat} {a b : Value} {al bl : List Value} {w3 : World} (h : Acc w B w3 e1 s1 a n1 al) (k : Acc w3 w3.heap.size wr e2 s2 b n2 bl) : Pair w B wr e1 s1 a n1 al e2 s2 b n2 bl :=
  ⟨h.keep k.bel, ⟨k.own, fun g hg => Nat.le_trans h.lt (k.new g hg), h.bel.trans (k.bel.mono h.lt), Nat.le_trans h.lt k.lt⟩, fun g h1 h2 => by have := h.own.lt g h1; have := k.new g h2; omega⟩
end
theorem kept_cell {wr wz w1 : World} {k : Value} {g : Nat} (hz : Below wr.heap.size wr wz) (g1 : wz.grownBy w1 k.ownBlock) (hg : g < wr.heap.size) (hne : k.ownBlock ≠ some g) (o : Nat) : w1.cell? ⟨g, o, none⟩ = wr.cell? ⟨g, o, none⟩ :=
  World.cell?_of_block (w := wr) (a := ⟨g, o, none⟩) ((g1.block g (Nat.lt_of_lt_of_le hg hz.size) (fun e => hne e.symm)).trans (hz.block g hg))
theorem quiet_eq {P : Program} {f : FuncId} {args : Array Value} {w : World} {n : Nat} {v : Value} (h : Calls P f args (w.drewN n) fun e w' => e = .returned v ∧ w.drewN n = w') :
    Calls P f args (w.drewN n) fun e w'' => e = .returned v ∧ ∃ m, w'' = w.drewN m := h.mono fun _ _ ⟨he, hm⟩ => ⟨he, n, hm.symm⟩
theorem one_int (k : IntKind) (x : Int) : ∀ u ∈ (#[Value.int k x] : Array Value).toList, u.oneCell' = true := by
  intro u hu; simp at hu; subst hu; rfl
end Go.Proofs.YtahpadhejjlpoaaGreatDoor
