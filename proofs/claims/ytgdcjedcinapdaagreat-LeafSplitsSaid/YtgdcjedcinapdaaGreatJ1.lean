/- Plain facts about worlds and blocks, used by all walks of this seat. No program in sight. -/
import Derived.WalkKit
import Derived.WalkSpells
import Derived.WalkLawsBesides
import Derived.Maps.RangeWalk
import Derived.Maps.OwnSet
import Derived.Lib.Hide
namespace Go.Proofs.YtgdcjedcinapdaaGreat
open Go.RowKit

/-- Outside the blocks of S nothing that was there has changed. -/
structure Upd (S : Nat → Prop) (w w' : World) : Prop where
  os : w'.os = w.os
  tape : w'.tape = w.tape
  output : w'.output = w.output
  size : w.heap.size ≤ w'.heap.size
  block : ∀ k, k < w.heap.size → ¬ S k → w'.heap[k]? = w.heap[k]?

theorem Upd.refl (S : Nat → Prop) (w : World) : Upd S w w := ⟨rfl, rfl, rfl, Nat.le_refl _, fun _ _ _ => rfl⟩
theorem Upd.trans {S S' : Nat → Prop} {a b c : World} (h : Upd S a b) (k : Upd S' b c) (hs : ∀ i, i < a.heap.size → S' i → S i) : Upd S a c :=
  ⟨k.os.trans h.os, k.tape.trans h.tape, k.output.trans h.output, Nat.le_trans h.size k.size, fun i hi hn =>
    (k.block i (Nat.lt_of_lt_of_le hi h.size) (fun hS => hn (hs i hi hS))).trans (h.block i hi hn)⟩
theorem Upd.mono {S S' : Nat → Prop} {a b : World} (h : Upd S a b) (hs : ∀ i, i < a.heap.size → S i → S' i) : Upd S' a b :=
  ⟨h.os, h.tape, h.output, h.size, fun i hi hn => h.block i hi (fun hS => hn (hs i hi hS))⟩
theorem Upd.drew {S : Nat → Prop} {a b : World} (h : Upd S a b) : Upd S a b.drew := ⟨h.os, h.tape, h.output, h.size, h.block⟩
theorem Upd.alloc {S : Nat → Prop} {a b : World} (h : Upd S a b) (o : Obj) : Upd S a (b.alloc o) :=
  ⟨h.os, h.tape, h.output, Nat.le_trans h.size (by simp), fun k hk hn => (Below.heap_alloc _ _ _ (Nat.lt_of_lt_of_le hk h.size)).trans (h.block k hk hn)⟩
theorem Upd.setCell {S : Nat → Prop} {a b : World} (h : Upd S a b) {p : Addr} (hp : p.block < a.heap.size → S p.block) (u : Value) : Upd S a (b.setCell p u) :=
  ⟨h.os, h.tape, h.output, Nat.le_trans h.size (by simp [World.setCell]), fun k hk hn =>
    (Below.heap_setCell _ _ _ _ (fun e => hn (by subst e; exact hp hk))).trans (h.block k hk hn)⟩
theorem Upd.grown {S : Nat → Prop} {a w w' : World} {row : Option Nat} (h : Upd S a w) (hg : w.grownBy w' row) (hr : ∀ k, row = some k → k < a.heap.size → S k) : Upd S a w' :=
  ⟨hg.os.trans h.os, hg.tape.trans h.tape, hg.output.trans h.output, Nat.le_trans h.size hg.size, fun k hk hn =>
    (hg.block k (Nat.lt_of_lt_of_le hk h.size) (fun e => hn (hr k e.symm hk))).trans (h.block k hk hn)⟩
theorem Upd.below {w w' : World} (h : Upd (fun _ => False) w w') : Below w.heap.size w w' := ⟨h.os, h.tape, h.output, h.size, fun k hk => h.block k hk (fun f => f)⟩
theorem Upd.of_below {w w' : World} {S : Nat → Prop} (h : Below w.heap.size w w') : Upd S w w' := ⟨h.os, h.tape, h.output, h.size, fun k hk _ => h.block k hk⟩
theorem Upd.get {S : Nat → Prop} {w w' : World} (h : Upd S w w') {k : Nat} {o : Obj} (hb : w.heap[k]? = some o) (hn : ¬ S k) : w'.heap[k]? = some o :=
  (h.block k (lt_of_block hb) hn).trans hb

/-- Block b holds these cells, none of them frozen. -/
def Blk (w : World) (b : Nat) (c : Array Value) (t : TypeId) : Prop := w.heap[b]? = some (.cells c t (0, 0))

theorem Blk.lt {w : World} {b : Nat} {c : Array Value} {t : TypeId} (h : Blk w b c t) : b < w.heap.size := lt_of_block h
theorem Blk.cell {w : World} {b : Nat} {c : Array Value} {t : TypeId} (h : Blk w b c t) {i : Nat} {v : Value} (hv : c[i]? = some v) : w.cell? ⟨b, i, none⟩ = some v := by
  unfold Blk at h; simp [World.cell?, h, hv]
theorem Blk.frozen {w : World} {b : Nat} {c : Array Value} {t : TypeId} (h : Blk w b c t) (i : Nat) : w.frozen? ⟨b, i, none⟩ = false := by
  unfold Blk at h; simp [World.frozen?, h]
theorem Blk.upd {S : Nat → Prop} {w w' : World} {b : Nat} {c : Array Value} {t : TypeId} (h : Blk w b c t) (u : Upd S w w') (hn : ¬ S b) : Blk w' b c t := u.get h hn
theorem Blk.drew {w : World} {b : Nat} {c : Array Value} {t : TypeId} (h : Blk w b c t) : Blk w.drew b c t := h
theorem Blk.alloc {w : World} {b : Nat} {c : Array Value} {t : TypeId} (h : Blk w b c t) (o : Obj) : Blk (w.alloc o) b c t := (Below.heap_alloc w o b h.lt).trans h
theorem Blk.new (w : World) (c : Array Value) (t : TypeId) : Blk (w.alloc (.cells c t)) w.heap.size c t := heap_alloc_new w _
theorem Blk.other {w : World} {b : Nat} {c : Array Value} {t : TypeId} (h : Blk w b c t) {a : Addr} (hne : b ≠ a.block) (u : Value) : Blk (w.setCell a u) b c t :=
  (Below.heap_setCell w a u b hne).trans h
theorem Blk.set {w : World} {b : Nat} {c : Array Value} {t : TypeId} (h : Blk w b c t) (i : Nat) (u : Value) : Blk (w.setCell ⟨b, i, none⟩ u) b (c.setIfInBounds i u) t := by
  unfold Blk at *; simp [World.setCell, Array.getElem?_modify, h]
theorem Blk.inj {w : World} {b : Nat} {c c' : Array Value} {t t' : TypeId} (h : Blk w b c t) (h' : Blk w b c' t') : c = c' ∧ t = t' := by
  unfold Blk at *; rw [h] at h'; simp at h'; exact h'

/-- The first n cells of block b are f 0, f 1, .. -/
def Row (w : World) (b n : Nat) (t : TypeId) (f : Nat → Value) : Prop := ∃ c, Blk w b c t ∧ ∀ i, i < n → c[i]? = some (f i)

theorem Row.lt {w : World} {b n : Nat} {t : TypeId} {f : Nat → Value} (h : Row w b n t f) : b < w.heap.size := let ⟨_, h, _⟩ := h; h.lt
theorem Row.cell {w : World} {b n : Nat} {t : TypeId} {f : Nat → Value} (h : Row w b n t f) {i : Nat} (hi : i < n) : w.cell? ⟨b, i, none⟩ = some (f i) :=
  let ⟨_, h, hc⟩ := h; h.cell (hc i hi)
theorem Row.frozen {w : World} {b n : Nat} {t : TypeId} {f : Nat → Value} (h : Row w b n t f) (i : Nat) : w.frozen? ⟨b, i, none⟩ = false := let ⟨_, h, _⟩ := h; h.frozen i
theorem Row.upd {S : Nat → Prop} {w w' : World} {b n : Nat} {t : TypeId} {f : Nat → Value} (h : Row w b n t f) (u : Upd S w w') (hn : ¬ S b) : Row w' b n t f :=
  let ⟨c, h, hc⟩ := h; ⟨c, h.upd u hn, hc⟩
theorem Row.below {w w' : World} {b n : Nat} {t : TypeId} {f : Nat → Value} (h : Row w b n t f) (hb : Below w.heap.size w w') : Row w' b n t f :=
  let ⟨c, h, hc⟩ := h; ⟨c, (hb.block b h.lt).trans h, hc⟩
theorem Blk.below {w w' : World} {b : Nat} {c : Array Value} {t : TypeId} (h : Blk w b c t) (hb : Below w.heap.size w w') : Blk w' b c t := (hb.block b h.lt).trans h
theorem Row.drew {w : World} {b n : Nat} {t : TypeId} {f : Nat → Value} (h : Row w b n t f) : Row w.drew b n t f := h
theorem Row.alloc {w : World} {b n : Nat} {t : TypeId} {f : Nat → Value} (h : Row w b n t f) (o : Obj) : Row (w.alloc o) b n t f := let ⟨c, h, hc⟩ := h; ⟨c, h.alloc o, hc⟩
theorem Row.other {w : World} {b n : Nat} {t : TypeId} {f : Nat → Value} (h : Row w b n t f) {a : Addr} (hne : b ≠ a.block) (u : Value) : Row (w.setCell a u) b n t f :=
  let ⟨c, h, hc⟩ := h; ⟨c, h.other hne u, hc⟩
theorem Row.set {w : World} {b n : Nat} {t : TypeId} {f : Nat → Value} (h : Row w b n t f) (k : Nat) (u : Value) : Row (w.setCell ⟨b, k, none⟩ u) b n t (fun i => if i = k then u else f i) := by
  obtain ⟨c, h, hc⟩ := h
  refine ⟨_, h.set k u, fun i hi => ?_⟩
  have := hc i hi
  have hlt : i < c.size := by rcases Nat.lt_or_ge i c.size with h | h; exact h; simp [Array.getElem?_eq_none h] at this
  by_cases e : i = k
  · subst e; simp [hlt]
  · simp [e, Ne.symm e, this]
theorem Row.congr {w : World} {b n : Nat} {t : TypeId} {f g : Nat → Value} (h : Row w b n t f) (hfg : ∀ i, i < n → f i = g i) : Row w b n t g :=
  let ⟨c, h, hc⟩ := h; ⟨c, h, fun i hi => (hc i hi).trans (by rw [hfg i hi])⟩
theorem Row.new (w : World) (c : Array Value) (t : TypeId) (n : Nat) (f : Nat → Value) (hc : ∀ i, i < n → c[i]? = some (f i)) : Row (w.alloc (.cells c t)) w.heap.size n t f := ⟨c, Blk.new w c t, hc⟩

end Go.Proofs.YtgdcjedcinapdaaGreat

/- Slices as lists of cells: one that is read (RdSl), one that is owned and may be appended to (OwnSl); append and make. -/
namespace Go.Proofs.YtgdcjedcinapdaaGreat
open Go.RowKit

/-- The slice value v has n elements of size cells each, which read as xs. -/
def RdSl (w : World) (size : Nat) (v : Value) (n : Nat) (xs : List Value) : Prop :=
  xs.length = n * size ∧ ∃ a c, v = .slice a n c ∧ n ≤ c ∧ (xs = [] ∨ ∃ b o, a = some ⟨b, o, none⟩ ∧ ∀ j u, xs[j]? = some u → w.cell? ⟨b, o + j, none⟩ = some u)

def slAddr : Value → Option Addr | .slice a _ _ => a | _ => none
theorem ownBlock_addr (v : Value) : v.ownBlock = (slAddr v).map (·.block) := by
  cases v <;> simp [Value.ownBlock, slAddr]
  rename_i a _ _; cases a <;> rfl

/-- The slice value v owns its row: nil, or a part of a block that nothing else leads to. -/
def OwnSl (w : World) (e : TypeId) (size : Nat) (v : Value) (n : Nat) (xs : List Value) : Prop :=
  xs.length = n * size ∧
  ((v = .slice none 0 0 ∧ n = 0) ∨
   ∃ g o cap cur, v = .slice (some ⟨g, o, none⟩) n cap ∧ Blk w g cur e ∧ n ≤ cap ∧ cap ≤ maxLen ∧ o + cap * size ≤ cur.size ∧ (cur.toList.drop o).take (n * size) = xs)

section
variable {w : World} {e : TypeId} {size : Nat} {v : Value} {n : Nat} {xs : List Value}

theorem OwnSl.nil (w : World) (e : TypeId) (size : Nat) : OwnSl w e size (.slice none 0 0) 0 [] := ⟨by simp, .inl ⟨rfl, rfl⟩⟩
theorem OwnSl.rd (h : OwnSl w e size v n xs) : RdSl w size v n xs := by
  refine ⟨h.1, ?_⟩
  rcases h.2 with ⟨rfl, rfl⟩ | ⟨g, o, cap, cur, rfl, hb, hc, _, _, ht⟩
  · exact ⟨none, 0, rfl, Nat.le_refl _, .inl (List.eq_nil_of_length_eq_zero (by simpa using h.1))⟩
  · refine ⟨_, cap, rfl, hc, .inr ⟨g, o, rfl, fun j u hu => hb.cell ?_⟩⟩
    rw [← ht, List.getElem?_take] at hu
    split at hu
    · simpa [List.getElem?_drop] using hu
    · cases hu
theorem OwnSl.lt (h : OwnSl w e size v n xs) : ∀ k, v.ownBlock = some k → k < w.heap.size := by
  intro k hk
  rcases h.2 with ⟨rfl, _⟩ | ⟨g, o, cap, cur, rfl, hb, _⟩
  · simp [Value.ownBlock] at hk
  · simp [Value.ownBlock] at hk; subst hk; exact hb.lt
theorem OwnSl.kept {w' : World} (h : OwnSl w e size v n xs) (hb : ∀ k, v.ownBlock = some k → w'.heap[k]? = w.heap[k]?) : OwnSl w' e size v n xs := by
  refine ⟨h.1, ?_⟩
  rcases h.2 with hn | ⟨g, o, cap, cur, rfl, hg, rest⟩
  · exact .inl hn
  · exact .inr ⟨g, o, cap, cur, rfl, (hb g rfl).trans hg, rest⟩
theorem OwnSl.upd {w' : World} {S : Nat → Prop} (h : OwnSl w e size v n xs) (hu : Upd S w w') (hS : ∀ k, v.ownBlock = some k → ¬ S k) : OwnSl w' e size v n xs :=
  h.kept (fun k hk => hu.block k (h.lt k hk) (hS k hk))
theorem OwnSl.alloc (h : OwnSl w e size v n xs) (o : Obj) : OwnSl (w.alloc o) e size v n xs := h.kept (fun k hk => Below.heap_alloc _ _ _ (h.lt k hk))
theorem OwnSl.drew (h : OwnSl w e size v n xs) : OwnSl w.drew e size v n xs := h.kept (fun _ _ => rfl)
theorem OwnSl.other (h : OwnSl w e size v n xs) {a : Addr} (ha : ∀ k, v.ownBlock = some k → k ≠ a.block) (u : Value) : OwnSl (w.setCell a u) e size v n xs :=
  h.kept (fun k hk => Below.heap_setCell _ _ _ _ (ha k hk))
theorem OwnSl.slice (h : OwnSl w e size v n xs) : ∃ a c, v = .slice a n c := by
  rcases h.2 with ⟨rfl, rfl⟩ | ⟨g, o, cap, cur, rfl, _⟩
  · exact ⟨_, _, rfl⟩
  · exact ⟨_, _, rfl⟩

theorem RdSl.kept {w' : World} (h : RdSl w size v n xs) (hb : ∀ k, v.ownBlock = some k → k < w.heap.size → w'.heap[k]? = w.heap[k]?) : RdSl w' size v n xs := by
  obtain ⟨h1, a, c, rfl, hc, h2⟩ := h
  refine ⟨h1, a, c, rfl, hc, ?_⟩
  rcases h2 with h2 | ⟨b, o, rfl, h3⟩
  · exact .inl h2
  · refine .inr ⟨b, o, rfl, fun j u hu => ?_⟩
    have hlt := World.block_lt_of_cell? w _ (h3 j u hu)
    exact (World.cell?_of_block (w := w) (a := ⟨b, o + j, none⟩) (hb b rfl hlt)).trans (h3 j u hu)
theorem RdSl.upd {w' : World} {S : Nat → Prop} (h : RdSl w size v n xs) (hu : Upd S w w') (hS : ∀ k, v.ownBlock = some k → ¬ S k) : RdSl w' size v n xs :=
  h.kept (fun k hk hlt => hu.block k hlt (hS k hk))
theorem RdSl.below {w' : World} (h : RdSl w size v n xs) (hu : Below w.heap.size w w') : RdSl w' size v n xs := h.kept (fun k _ hlt => hu.block k hlt)
theorem RdSl.alloc (h : RdSl w size v n xs) (o : Obj) : RdSl (w.alloc o) size v n xs := h.kept (fun _ _ hlt => Below.heap_alloc _ _ _ hlt)
theorem RdSl.drew (h : RdSl w size v n xs) : RdSl w.drew size v n xs := h.kept (fun _ _ _ => rfl)
/-- What a slice that has an element looks like. -/
theorem rd_some (h : RdSl w size v n xs) (hx : xs ≠ []) : ∃ b o c, v = .slice (some ⟨b, o, none⟩) n c ∧ n ≤ c ∧ ∀ j u, xs[j]? = some u → w.cell? ⟨b, o + j, none⟩ = some u := by
  obtain ⟨_, a, c, rfl, hc, h2⟩ := h
  rcases h2 with h2 | ⟨b, o, rfl, h3⟩
  · exact (hx h2).elim
  · exact ⟨b, o, c, rfl, hc, h3⟩
end

section
variable {P : Program} (w : World)

/-- append, whatever the two slices are. -/
theorem run_append_sl (t ty e : TypeId) (i : TypeInfo) (z : Value) (size bytes : Nat) (ht : P.underlying t = some (.slice e)) (hi : P.info? e = some i) (hz : i.zero = some z)
    (hsize : i.size = size) (hby : i.bytes = bytes) (hzs : z.cells.size = size)
    (v : Value) (n : Nat) (xs : List Value) (hown : OwnSl w e size v n xs)
    (x : Value) (m : Nat) (news : List Value) (hx : RdSl w size x m news) (h1 : ∀ u ∈ news, u.oneCell' = true)
    (h63 : n + m ≤ maxLen) (hbytes : (n + m) * bytes ≤ 140737488355328) (hsp : 0 < size) :
    ∃ v' w', (Builtin.append_ #[t, t] ty #[v, x]).run P w = .ok v' w' ∧ OwnSl w' e size v' (n + m) (xs ++ news) ∧ w.grownBy w' v.ownBlock ∧
      (slAddr v' = slAddr v ∨ slAddr v' = Option.some ⟨w.heap.size, 0, none⟩) ∧ (v' = .slice none 0 0 → v = .slice none 0 0) := by
  subst hsize
  subst hby
  obtain ⟨hl, xa, xc, rfl, hxc, hxa⟩ := hx
  have hlen : (xs ++ news).length = (n + m) * i.size := by rw [List.length_append, hown.1, hl, Nat.add_mul]
  by_cases hm : m = 0
  · subst hm
    have hn : news = [] := List.eq_nil_of_length_eq_zero (by simpa using hl)
    subst hn
    have hf : (Builtin.firstCells i.size 0 (.slice xa 0 xc)).run P w = .ok #[] w := by
      cases xa <;> simp [Builtin.firstCells, loadCells, loadCellsFrom]
    rcases hown.2 with ⟨rfl, rfl⟩ | ⟨g, o, cap, cur, rfl, hg, hnc, hcm, hcs, htake⟩
    · have hx0 : xs = [] := List.eq_nil_of_length_eq_zero (by simpa using hown.1)
      subst hx0
      refine ⟨.slice none 0 0, w, ?_, by simpa using hown, ⟨rfl, rfl, rfl, Nat.le_refl _, fun _ _ _ => rfl⟩, .inl rfl, id⟩
      simp [Builtin.append_, run_underlying ht, sizeOf, typeInfo, hi, Builtin.lenOf, hf]
    · refine ⟨.slice (some ⟨g, o, none⟩) n cap, w, ?_, by simpa using hown, ⟨rfl, rfl, rfl, Nat.le_refl _, fun _ _ _ => rfl⟩, .inl rfl, by simp⟩
      simp [Builtin.append_, run_underlying ht, sizeOf, typeInfo, hi, Builtin.lenOf, hf, hnc, storeCells]
  · have hne : news ≠ [] := by
      intro h0; subst h0; rw [List.length_nil] at hl; rcases Nat.mul_eq_zero.1 hl.symm with h | h <;> omega
    obtain ⟨b, bo, rfl, hnews0⟩ : ∃ b o, xa = Option.some ⟨b, o, none⟩ ∧ ∀ j u, news[j]? = Option.some u → w.cell? ⟨b, o + j, none⟩ = Option.some u := by
      rcases hxa with h0 | h0
      · exact (hne h0).elim
      · exact h0
    have hnews : ∀ j u, news[j]? = Option.some u → w.cell? ((⟨b, bo, none⟩ : Addr).add j) = Option.some u := fun j u hu => by rw [Addr.add_lit]; exact hnews0 j u hu
    have hsmall : n + m ≤ 9223372036854775807 := by simp only [maxLen] at h63; omega
    have grown : ∀ (old : Nat), old < n + m → ∀ (row : Option Nat),
        OwnSl (w.drew.alloc (.cells (xs.toArray ++ news.toArray ++ Builtin.zeroCells z.cells (grownCap w (n + m) old e - (n + m))) e)) e i.size
          (.slice (Option.some ⟨w.heap.size, 0, none⟩) (n + m) (grownCap w (n + m) old e)) (n + m) (xs ++ news) ∧
        w.grownBy (w.drew.alloc (.cells (xs.toArray ++ news.toArray ++ Builtin.zeroCells z.cells (grownCap w (n + m) old e - (n + m))) e)) row := by
      intro old ho row
      have hge := grownCap_ge w (n + m) old e
      have hcm : grownCap w (n + m) old e ≤ maxLen := grownCap_le_maxLen w (n + m) old e h63
      refine ⟨⟨hlen, .inr ⟨w.heap.size, 0, _, _, rfl, heap_alloc_new w.drew _, hge, hcm, ?_, ?_⟩⟩, ⟨rfl, rfl, rfl, by simp, fun k hk _ => Below.heap_alloc w.drew _ k hk⟩⟩
      · simp only [Array.size_append, List.size_toArray, size_zeroCells, hzs, hown.1, hl, ← Nat.add_mul, Nat.zero_add]
        exact Nat.mul_le_mul_right _ (by omega)
      · simp only [Array.toList_append, List.append_assoc, List.drop_zero]
        rw [← List.append_assoc, ← hlen]
        exact List.take_left
    rcases hown.2 with ⟨rfl, rfl⟩ | ⟨g, o, cap, cur, rfl, hg, hnc, hcm, hcs, htake⟩
    · have hx : xs = [] := List.eq_nil_of_length_eq_zero (by simpa using hown.1)
      subst hx
      have hr := run_append_nil (P := P) w t ty e i z ht hi hz ⟨b, bo, none⟩ m xc news hl hnews (by omega) (by omega) (by have hb := hbytes; simp only [Nat.zero_add] at hb; omega)
      have hgr := grown 0 (by omega) (Value.ownBlock (.slice none 0 0))
      simp only [Nat.zero_add, List.nil_append, Array.empty_append] at hgr ⊢
      exact ⟨_, _, hr, hgr.1, hgr.2, .inr rfl, by simp⟩
    · by_cases hroom : n + m ≤ cap
      · have hfit : o + n * i.size + news.length ≤ cur.size := by
          have : (n + m) * i.size ≤ cap * i.size := Nat.mul_le_mul_right _ hroom
          rw [Nat.add_mul] at this; rw [hl]; omega
        have hf := run_firstCells_some (P := P) w i.size m ⟨b, bo, none⟩ m xc news hl hnews
        have hst := run_storeCells_at P g (o + n * i.size) e news 0 cur w hg (by simpa using hfit) h1
        simp only [Nat.add_zero] at hst
        have hr : (Builtin.append_ #[t, t] ty #[.slice (Option.some ⟨g, o, none⟩) n cap, .slice (Option.some ⟨b, bo, none⟩) m xc]).run P w =
            .ok (.slice (Option.some ⟨g, o, none⟩) (n + m) cap) (w.setRow g (cur.toList.take (o + n * i.size) ++ news ++ cur.toList.drop (o + n * i.size + news.length)).toArray) := by
          simp [Builtin.append_, run_underlying ht, sizeOf, typeInfo, hi, Builtin.lenOf, hroom, hf, Addr.add_lit, hst]
        refine ⟨_, _, hr, ⟨hlen, .inr ⟨g, o, cap, _, rfl, setRow_heap w g cur _ e _ hg, hroom, hcm, ?_, ?_⟩⟩, ⟨rfl, rfl, rfl, by simp, fun k _ hk => setRow_other w g k _ (fun e => hk (by simp [Value.ownBlock, e]))⟩, .inl rfl, by simp⟩
        · simp only [List.size_toArray, List.length_append, List.length_take, List.length_drop, Array.length_toList]
          omega
        · simp only
          have e1 : cur.toList.take (o + n * i.size) = cur.toList.take o ++ xs := by rw [List.take_add, htake]
          have lo : (cur.toList.take o).length = o := by
            rw [List.length_take, Array.length_toList]; omega
          rw [e1, List.append_assoc, List.append_assoc, List.drop_append_of_le_length (by omega), List.drop_of_length_le (by omega), List.nil_append, ← List.append_assoc, ← hlen]
          exact List.take_left
      · have holds : ∀ j u, xs[j]? = Option.some u → w.cell? ((⟨g, o, none⟩ : Addr).add j) = Option.some u := fun j u hu => by
          rw [Addr.add_lit]
          obtain ⟨_, a', c', e', _, h'⟩ := hown.rd
          cases e'
          rcases h' with h' | ⟨b', o', e'', h'⟩
          · subst h'; simp at hu
          · cases e''; exact h' j u hu
        have hr := run_append_grow (P := P) w t ty e i z ht hi hz ⟨g, o, none⟩ n cap xs hown.1 holds ⟨b, bo, none⟩ m xc news hl hnews (by omega) (by omega) (growslice_fits (by omega) hbytes)
        have hgr := grown cap (by omega) (Value.ownBlock (.slice (Option.some ⟨g, o, none⟩) n cap))
        exact ⟨_, _, hr, hgr.1, hgr.2, .inr rfl, by simp⟩

theorem wpList_append_sl {ops : Array Oper} {rest : List Oper} {o : Oper} {a : Act} {Q : Exit → Act → World → Prop} (hgd : o.guard = none) (s x : Operand) (t : TypeId)
    (ho : o.op = .call { callee := .builtin .append, args := #[s, x], argTypes := #[t, t] })
    (e : TypeId) (i : TypeInfo) (z : Value) (size bytes : Nat) (ht : P.underlying t = some (.slice e)) (hi : P.info? e = some i) (hz : i.zero = some z)
    (hsize : i.size = size) (hby : i.bytes = bytes) (hzs : z.cells.size = size) (hsz : 0 < size)
    (v : Value) (n : Nat) (xs : List Value) (hs : a.eval s = v) (hown : OwnSl w e size v n xs)
    (xv : Value) (m : Nat) (news : List Value) (hx : a.eval x = xv) (hnews : RdSl w size xv m news) (h1 : ∀ u ∈ news, u.oneCell' = true)
    (h63 : n + m ≤ maxLen) (hbytes : (n + m) * bytes ≤ 140737488355328)
    (h : ∀ v' w', OwnSl w' e size v' (n + m) (xs ++ news) → w.grownBy w' v.ownBlock → (slAddr v' = slAddr v ∨ slAddr v' = some ⟨w.heap.size, 0, none⟩) → (v' = .slice none 0 0 → v = .slice none 0 0) → wpList P ops Q rest (a.put o.dst v') w') : wpList P ops Q (o :: rest) a w := by
  refine wpList_plain hgd fun K hK => ?_
  obtain ⟨v', w', hr, h2, h3, h4, h5⟩ := run_append_sl (P := P) w t o.type e i z size bytes ht hi hz hsize hby hzs v n xs hown xv m news hnews h1 h63 hbytes hsz
  unfold Oper.wp execOp
  simp only [ho, resolve, invoke, builtin, Sem.run_bind, Sem.run_pure, Result.andThen_ok, List.map_toArray, List.map_cons, List.map_nil, hs, hx, hr]
  exact hK _ _ (h v' w' h2 h3 h4 h5)
end

/-- A new row of one or more elements is read so. -/
theorem RdSl.new (w : World) (c : Array Value) (t : TypeId) (size n : Nat) (h : c.size = n * size) : RdSl (w.alloc (.cells c t)) size (.slice (Option.some ⟨w.heap.size, 0, none⟩) n n) n c.toList := by
  refine ⟨by simpa using h, _, _, rfl, Nat.le_refl _, .inr ⟨_, 0, rfl, fun j u hu => (Blk.new w c t).cell ?_⟩⟩
  simpa using hu
theorem RdSl.newAt (w : World) (c : Array Value) (t : TypeId) (size n b : Nat) (hb : b = w.heap.size) (h : c.size = n * size) : RdSl (w.alloc (.cells c t)) size (.slice (Option.some ⟨b, 0, none⟩) n n) n c.toList := by
  subst hb; exact RdSl.new w c t size n h
/-- The cell of an element that is there. -/
theorem rd_at {w : World} {a : Option Addr} {xs : List Value} (h : xs = [] ∨ ∃ b o, a = some ⟨b, o, none⟩ ∧ ∀ j u, xs[j]? = some u → w.cell? ⟨b, o + j, none⟩ = some u)
    {k : Nat} {u : Value} (hk : xs[k]? = some u) : ∃ b o, a = some ⟨b, o, none⟩ ∧ ∀ j u, xs[j]? = some u → w.cell? ⟨b, o + j, none⟩ = some u := by
  rcases h with h0 | h0
  · rw [h0] at hk; simp at hk
  · exact h0
theorem OwnSl.new (w : World) (c : Array Value) (e : TypeId) (size n cap : Nat) (hs : c.size = cap * size) (hn : n ≤ cap) (hm : cap ≤ maxLen) :
    OwnSl (w.alloc (.cells c e)) e size (.slice (Option.some ⟨w.heap.size, 0, none⟩) n cap) n (c.toList.take (n * size)) := by
  refine ⟨?_, .inr ⟨_, 0, cap, c, rfl, Blk.new w c e, hn, hm, by omega, by simp⟩⟩
  rw [List.length_take, Array.length_toList, hs]
  exact Nat.min_eq_left (Nat.mul_le_mul_right _ hn)
end Go.Proofs.YtgdcjedcinapdaaGreat

/- A slice that a call collects. -/
namespace Go.Proofs.YtgdcjedcinapdaaGreat
open Go.RowKit

/-- v owns the cells xs in a block from B on; below B nothing has changed since w. -/
structure Acc (w : World) (B : Nat) (wr : World) (e : TypeId) (size : Nat) (v : Value) (n : Nat) (xs : List Value) : Prop where
  own : OwnSl wr e size v n xs
  new : ∀ g, v.ownBlock = some g → B ≤ g
  bel : Below B w wr
  lt : B ≤ wr.heap.size

section
variable {w wr wz w1 : World} {B : Nat} {e : TypeId} {size n m q : Nat} {v v' : Value} {xs news : List Value}
theorem Acc.nil (w : World) (B : Nat) (wr : World) (e : TypeId) (size : Nat) (hb : Below B w wr) (hB : B ≤ wr.heap.size) : Acc w B wr e size (.slice none 0 0) 0 [] := ⟨OwnSl.nil _ _ _, fun g hg => by simp [Value.ownBlock] at hg, hb, hB⟩
theorem Acc.slice (h : Acc w B wr e size v n xs) : ∃ a c, v = .slice a n c := h.own.slice
theorem Acc.next (h : Acc w B wr e size v n xs) (hz : Below wr.heap.size wr wz) (o1 : OwnSl w1 e size v' (n + m) (xs ++ news)) (g1 : wz.grownBy w1 v.ownBlock)
    (b1 : slAddr v' = slAddr v ∨ slAddr v' = some ⟨q, 0, none⟩) (hq : wr.heap.size ≤ q) : Acc w B w1 e size v' (n + m) (xs ++ news) := by
  refine ⟨o1, fun g hg => ?_, ⟨g1.os.trans (hz.os.trans h.bel.os), g1.tape.trans (hz.tape.trans h.bel.tape), g1.output.trans (hz.output.trans h.bel.output), Nat.le_trans h.bel.size (Nat.le_trans hz.size g1.size), fun k hk => ?_⟩, Nat.le_trans h.lt (Nat.le_trans hz.size g1.size)⟩
  · rcases b1 with b1 | b1
    · rw [ownBlock_addr, b1, ← ownBlock_addr] at hg; exact h.new g hg
    · rw [ownBlock_addr, b1] at hg; cases hg; exact Nat.le_trans h.lt hq
  · have hkr : k < wr.heap.size := Nat.lt_of_lt_of_le hk h.lt
    rw [g1.block k (Nat.lt_of_lt_of_le hkr hz.size) (fun hk2 => by have := h.new k hk2.symm; omega), hz.block k hkr]
    exact h.bel.block k hk
theorem Acc.keep (h : Acc w B wr e size v n xs) (hz : Below wr.heap.size wr wz) : Acc w B wz e size v n xs :=
  ⟨h.own.kept (fun k hk => hz.block k (h.own.lt k hk)), h.new, h.bel.trans (hz.mono h.lt), Nat.le_trans h.lt hz.size⟩
theorem Acc.drew (h : Acc w B wr e size v n xs) : Acc w B wr.drew e size v n xs := ⟨h.own.drew, h.new, ⟨h.bel.os, h.bel.tape, h.bel.output, h.bel.size, h.bel.block⟩, h.lt⟩
theorem Acc.rd (h : Acc w B wr e size v n xs) : RdSl wr size v n xs := h.own.rd
theorem Acc.congr (h : Acc w B wr e size v n xs) {n' : Nat} {xs' : List Value} (hn : n = n') (hx : xs = xs') : Acc w B wr e size v n' xs' := by subst hn hx; exact h
end
end Go.Proofs.YtgdcjedcinapdaaGreat

/- Two and three slices that a call collects; small facts. -/
namespace Go.Proofs.YtgdcjedcinapdaaGreat
open Go.RowKit

/-- Two slices of any kinds that a call collects, in blocks of their own. -/
structure Pair (w : World) (B : Nat) (wr : World) (e1 : TypeId) (s1 : Nat) (k : Value) (n1 : Nat) (ks : List Value) (e2 : TypeId) (s2 : Nat) (v : Value) (n2 : Nat) (vs : List Value) : Prop where
  a : Acc w B wr e1 s1 k n1 ks
  b : Acc w B wr e2 s2 v n2 vs
  ne : ∀ g, k.ownBlock = some g → v.ownBlock ≠ some g
section
variable {w : World} {B : Nat} {wr wz w1 : World} {k v k' : Value} {ks vs news : List Value} {q e1 e2 s1 s2 n1 n2 m : Nat}
theorem Pair.swap (h : Pair w B wr e1 s1 k n1 ks e2 s2 v n2 vs) : Pair w B wr e2 s2 v n2 vs e1 s1 k n1 ks := ⟨h.b, h.a, fun g h1 h2 => h.ne g h2 h1⟩
theorem Pair.keep (h : Pair w B wr e1 s1 k n1 ks e2 s2 v n2 vs) (hz : Below wr.heap.size wr wz) : Pair w B wz e1 s1 k n1 ks e2 s2 v n2 vs := ⟨h.a.keep hz, h.b.keep hz, h.ne⟩
theorem Pair.left (h : Pair w B wr e1 s1 k n1 ks e2 s2 v n2 vs) (hz : Below wr.heap.size wr wz) (o1 : OwnSl w1 e1 s1 k' (n1 + m) (ks ++ news)) (g1 : wz.grownBy w1 k.ownBlock)
    (b1 : slAddr k' = slAddr k ∨ slAddr k' = some ⟨q, 0, none⟩) (hq : wr.heap.size ≤ q) : Pair w B w1 e1 s1 k' (n1 + m) (ks ++ news) e2 s2 v n2 vs := by
  have hb : ∀ g, v.ownBlock = some g → w1.heap[g]? = wr.heap[g]? := fun g hg => by
    have hlt := h.b.own.lt g hg
    rw [g1.block g (Nat.lt_of_lt_of_le hlt hz.size) (fun e => h.ne g e.symm hg)]
    exact hz.block g hlt
  have A1 := h.a.next hz o1 g1 b1 hq
  refine ⟨A1, ⟨h.b.own.kept hb, h.b.new, A1.bel, A1.lt⟩, fun g hg hg2 => ?_⟩
  rcases b1 with b1 | b1
  · rw [ownBlock_addr, b1, ← ownBlock_addr] at hg; exact h.ne g hg hg2
  · rw [ownBlock_addr, b1] at hg; cases hg; have := h.b.own.lt q hg2; omega
end

/-- Three slices that a call collects, in blocks of their own. -/
structure Trip (w : World) (B : Nat) (wr : World) (e1 : TypeId) (s1 : Nat) (a : Value) (n1 : Nat) (al : List Value) (e2 : TypeId) (s2 : Nat) (b : Value) (n2 : Nat) (bl : List Value)
    (e3 : TypeId) (s3 : Nat) (c : Value) (n3 : Nat) (cl : List Value) : Prop where
  ab : Pair w B wr e1 s1 a n1 al e2 s2 b n2 bl
  ac : Pair w B wr e1 s1 a n1 al e3 s3 c n3 cl
  bc : ∀ g, b.ownBlock = some g → c.ownBlock ≠ some g
section
variable {w : World} {B : Nat} {wr wz w1 : World} {a b c a' : Value} {al bl cl news : List Value} {q e1 e2 e3 s1 s2 s3 n1 n2 n3 m : Nat}
theorem Trip.swap (h : Trip w B wr e1 s1 a n1 al e2 s2 b n2 bl e3 s3 c n3 cl) : Trip w B wr e2 s2 b n2 bl e1 s1 a n1 al e3 s3 c n3 cl := ⟨h.ab.swap, ⟨h.ab.b, h.ac.b, h.bc⟩, h.ac.ne⟩
theorem Trip.keep (h : Trip w B wr e1 s1 a n1 al e2 s2 b n2 bl e3 s3 c n3 cl) (hz : Below wr.heap.size wr wz) : Trip w B wz e1 s1 a n1 al e2 s2 b n2 bl e3 s3 c n3 cl := ⟨h.ab.keep hz, h.ac.keep hz, h.bc⟩
theorem Trip.left (h : Trip w B wr e1 s1 a n1 al e2 s2 b n2 bl e3 s3 c n3 cl) (hz : Below wr.heap.size wr wz) (o1 : OwnSl w1 e1 s1 a' (n1 + m) (al ++ news)) (g1 : wz.grownBy w1 a.ownBlock)
    (b1 : slAddr a' = slAddr a ∨ slAddr a' = some ⟨q, 0, none⟩) (hq : wr.heap.size ≤ q) : Trip w B w1 e1 s1 a' (n1 + m) (al ++ news) e2 s2 b n2 bl e3 s3 c n3 cl :=
  ⟨h.ab.left hz o1 g1 b1 hq, h.ac.left hz o1 g1 b1 hq, h.bc⟩
/-- A slice that was collected later lies elsewhere. -/
theorem Pair.of {w wr : World} {B : Nat} {e1 s1 n1 e2 s2 n2 : Nat} {a b : Value} {al bl : List Value} {w3 : World} (h : Acc w B w3 e1 s1 a n1 al) (k : Acc w3 w3.heap.size wr e2 s2 b n2 bl) : Pair w B wr e1 s1 a n1 al e2 s2 b n2 bl :=
  ⟨h.keep k.bel, ⟨k.own, fun g hg => Nat.le_trans h.lt (k.new g hg), h.bel.trans (k.bel.mono h.lt), Nat.le_trans h.lt k.lt⟩, fun g h1 h2 => by have := h.own.lt g h1; have := k.new g h2; omega⟩
end
theorem kept_cell {wr wz w1 : World} {k : Value} {g : Nat} (hz : Below wr.heap.size wr wz) (g1 : wz.grownBy w1 k.ownBlock) (hg : g < wr.heap.size) (hne : k.ownBlock ≠ some g) (o : Nat) : w1.cell? ⟨g, o, none⟩ = wr.cell? ⟨g, o, none⟩ :=
  World.cell?_of_block (w := wr) (a := ⟨g, o, none⟩) ((g1.block g (Nat.lt_of_lt_of_le hg hz.size) (fun e => hne e.symm)).trans (hz.block g hg))
theorem quiet_eq {P : Program} {f : FuncId} {args : Array Value} {w : World} {n : Nat} {v : Value} (h : Calls P f args (w.drewN n) fun e w' => e = .returned v ∧ w.drewN n = w') :
    Calls P f args (w.drewN n) fun e w'' => e = .returned v ∧ ∃ m, w'' = w.drewN m := h.mono fun _ _ ⟨he, hm⟩ => ⟨he, n, hm.symm⟩
theorem one_int (k : IntKind) (x : Int) : ∀ u ∈ (#[Value.int k x] : Array Value).toList, u.oneCell' = true := by
  intro u hu; simp at hu; subst hu; rfl
end Go.Proofs.YtgdcjedcinapdaaGreat

/- slices.Compact, plain: equal neighbours are laid together. -/
namespace Go.Proofs.YtgdcjedcinapdaaGreat

/-- One value more: not where it equals the one before. -/
def cmpStep (acc : List Int) (x : Int) : List Int := if acc.getLast? = some x then acc else acc ++ [x]
def cmpL (xs : List Int) : List Int := xs.foldl cmpStep []
theorem cmpL_snoc (xs : List Int) (x : Int) : cmpL (xs ++ [x]) = cmpStep (cmpL xs) x := by unfold cmpL; rw [List.foldl_append]; rfl
theorem cmpStep_last (acc : List Int) (x : Int) : (cmpStep acc x).getLast? = some x := by
  unfold cmpStep
  split
  · assumption
  · simp
theorem cmpL_last (xs : List Int) : (cmpL xs).getLast? = xs.getLast? := by
  rcases List.eq_nil_or_concat xs with rfl | ⟨l, x, rfl⟩
  · rfl
  · rw [List.concat_eq_append, cmpL_snoc, cmpStep_last]; simp
theorem cmpStep_len (acc : List Int) (x : Int) : (cmpStep acc x).length ≤ acc.length + 1 := by
  unfold cmpStep; split <;> simp
theorem cmpL_len (xs : List Int) : (cmpL xs).length ≤ xs.length := by
  have key : ∀ (l acc : List Int), (l.foldl cmpStep acc).length ≤ acc.length + l.length := by
    intro l
    induction l with
    | nil => intro acc; simp
    | cons x l ih => intro acc; have h1 := ih (cmpStep acc x); have h2 := cmpStep_len acc x; simp only [List.foldl_cons, List.length_cons]; omega
  have h := key xs []
  unfold cmpL; simpa using h
/-- The first k + 1 values: the next one is laid down where it differs from the one before. -/
theorem cmpL_take (xs : List Int) (k : Nat) (hk : k + 1 < xs.length) :
    cmpL (xs.take (k + 2)) = if xs[k + 1]! = xs[k]! then cmpL (xs.take (k + 1)) else cmpL (xs.take (k + 1)) ++ [xs[k + 1]!] := by
  have e1 : xs.take (k + 2) = xs.take (k + 1) ++ [xs[k + 1]!] := by
    rw [List.take_add_one, List.getElem?_eq_getElem hk, getElem!_pos xs (k + 1) hk]; rfl
  have e2 : (cmpL (xs.take (k + 1))).getLast? = some xs[k]! := by
    have e3 : xs.take (k + 1) = xs.take k ++ [xs[k]!] := by
      rw [List.take_add_one, List.getElem?_eq_getElem (by omega : k < xs.length), getElem!_pos xs k (by omega)]; rfl
    rw [cmpL_last, e3]; simp
  rw [e1, cmpL_snoc]
  unfold cmpStep
  rw [e2]
  by_cases h : xs[k + 1]! = xs[k]!
  · rw [if_pos h, if_pos (by rw [h])]
  · rw [if_neg h, if_neg (fun e => h (Option.some.inj e).symm)]
theorem cmpL_one (xs : List Int) (h : 0 < xs.length) : cmpL (xs.take 1) = xs.take 1 := by
  match xs, h with
  | x :: l, _ => simp [cmpL, cmpStep]
theorem mem_cmpL (xs : List Int) (x : Int) : x ∈ cmpL xs ↔ x ∈ xs := by
  have key : ∀ (l acc : List Int), x ∈ l.foldl cmpStep acc ↔ x ∈ acc ∨ x ∈ l := by
    intro l
    induction l with
    | nil => intro acc; simp
    | cons y l ih =>
      intro acc
      rw [List.foldl_cons, ih]
      unfold cmpStep
      split
      · rename_i h
        have hy : y ∈ acc := List.mem_of_getLast? h
        constructor
        · rintro (h | h)
          · exact .inl h
          · exact .inr (by simp [h])
        · rintro (h | h)
          · exact .inl h
          · rcases List.mem_cons.1 h with rfl | h
            · exact .inl hy
            · exact .inr h
      · simp only [List.mem_append, List.mem_cons, List.not_mem_nil, or_false]
        constructor
        · rintro ((h | h) | h)
          · exact .inl h
          · exact .inr (.inl h)
          · exact .inr (.inr h)
        · rintro (h | h | h)
          · exact .inl (.inl h)
          · exact .inl (.inr h)
          · exact .inr h
  unfold cmpL
  rw [key]; simp
/-- In the midst of the inner loop: q values seen, i of them kept at the front, the rest as it was. -/
structure CmpMid (xs ys : List Int) (q i : Nat) : Prop where
  len : ys.length = xs.length
  pre : ys.take i = cmpL (xs.take q)
  rest : ∀ j, q ≤ j + 1 → ys[j]? = xs[j]?
  lt : i < q
  le : q ≤ xs.length
theorem CmpMid.skip {xs ys : List Int} {q i : Nat} (h : CmpMid xs ys (q + 1) i) (hq : q + 1 < xs.length) (e : xs[q + 1]! = xs[q]!) : CmpMid xs ys (q + 2) i :=
  ⟨h.len, by rw [cmpL_take xs q hq, if_pos e]; exact h.pre, fun j hj => h.rest j (by omega), by have := h.lt; omega, by omega⟩
theorem CmpMid.keep {xs ys : List Int} {q i : Nat} (h : CmpMid xs ys (q + 1) i) (hq : q + 1 < xs.length) (e : ¬ xs[q + 1]! = xs[q]!) : CmpMid xs (ys.set i xs[q + 1]!) (q + 2) (i + 1) := by
  have hi := h.lt; have hl := h.len
  refine ⟨by simp [hl], ?_, fun j hj => ?_, by omega, by omega⟩
  · rw [cmpL_take xs q hq, if_neg e, ← h.pre, List.take_add_one, List.take_set_of_le (Nat.le_refl _), List.getElem?_set]
    simp; omega
  · rw [List.getElem?_set, if_neg (by omega)]; exact h.rest j (by omega)
end Go.Proofs.YtgdcjedcinapdaaGreat

/- Sorting, the plain part: what a round of insertion does to a list. No program in sight. -/
namespace Go.Proofs.YtgdcjedcinapdaaGreat
open Go.RowKit

def at0 (l : List Int) (i : Nat) : Int := l.getD i 0
/-- l's elements from a up to b ascend. -/
def ascOn (l : List Int) (a b : Nat) : Prop := ∀ p q, a ≤ p → p < q → q < b → at0 l p ≤ at0 l q
/-- The same elements; outside of [a, b) each where it was. -/
structure Mixed (xs ys : List Int) (a b : Nat) : Prop where
  perm : ys.Perm xs
  out : ∀ p, p < a ∨ b ≤ p → at0 ys p = at0 xs p
theorem Mixed.refl (xs : List Int) (a b : Nat) : Mixed xs xs a b := ⟨.refl _, fun _ _ => rfl⟩
theorem Mixed.trans {xs ys zs : List Int} {a b : Nat} (h : Mixed xs ys a b) (k : Mixed ys zs a b) : Mixed xs zs a b := ⟨k.perm.trans h.perm, fun p hp => (k.out p hp).trans (h.out p hp)⟩
theorem Mixed.len {xs ys : List Int} {a b : Nat} (h : Mixed xs ys a b) : ys.length = xs.length := h.perm.length_eq
theorem Mixed.mono {xs ys : List Int} {a b a' b' : Nat} (h : Mixed xs ys a b) (h1 : a' ≤ a) (h2 : b ≤ b') : Mixed xs ys a' b' := ⟨h.perm, fun p hp => h.out p (by omega)⟩

/-- Elements i and j changed places. -/
def swp (l : List Int) (i j : Nat) : List Int := (l.set i (at0 l j)).set j (at0 l i)
theorem swp_length (l : List Int) (i j : Nat) : (swp l i j).length = l.length := by simp [swp]
theorem at0_set (l : List Int) (i : Nat) (x : Int) (k : Nat) (hi : i < l.length) : at0 (l.set i x) k = if k = i then x else at0 l k := by
  unfold at0
  simp only [List.getD, List.getElem?_set]
  by_cases e : i = k
  · subst e; simp [hi]
  · rw [if_neg e, if_neg (fun h => e h.symm)]
theorem at0_swp (l : List Int) (i j k : Nat) (hi : i < l.length) (hj : j < l.length) : at0 (swp l i j) k = if k = j then at0 l i else if k = i then at0 l j else at0 l k := by
  unfold swp
  rw [at0_set _ _ _ _ (by simpa using hj), at0_set _ _ _ _ hi]
theorem swp_perm (l : List Int) (i j : Nat) (hi : i < l.length) (hj : j < l.length) : (swp l i j).Perm l := by
  have e1 : at0 l j = l[j] := by simp [at0, List.getD, hj]
  have e2 : at0 l i = l[i] := by simp [at0, List.getD, hi]
  unfold swp; rw [e1, e2]
  exact List.set_set_perm hi hj
theorem swp_mixed (l : List Int) (i j a b : Nat) (hi : i < l.length) (hj : j < l.length) (h1 : a ≤ i) (h2 : i < b) (h3 : a ≤ j) (h4 : j < b) : Mixed l (swp l i j) a b :=
  ⟨swp_perm l i j hi hj, fun p hp => by rw [at0_swp l i j p hi hj, if_neg (by omega), if_neg (by omega)]⟩

/-- Element j of [a, i] is on its way down: all others ascend, and those above it are not less. -/
def insInv (l : List Int) (a i j : Nat) : Prop := (∀ p q, a ≤ p → p < q → q ≤ i → p ≠ j → q ≠ j → at0 l p ≤ at0 l q) ∧ ∀ q, j < q → q ≤ i → at0 l j ≤ at0 l q
theorem insInv_start (l : List Int) (a i : Nat) (h : ascOn l a i) : insInv l a i i := ⟨fun p q h1 h2 h3 _ h5 => h p q h1 h2 (by omega), fun q h1 h2 => by omega⟩
theorem insInv_step (l : List Int) (a i j : Nat) (h : insInv l a i j) (haj : a < j) (hji : j ≤ i) (hil : i < l.length) (hlt : at0 l j < at0 l (j - 1)) : insInv (swp l j (j - 1)) a i (j - 1) := by
  have e := fun k => at0_swp l j (j - 1) k (by omega) (by omega)
  refine ⟨fun p q h1 h2 h3 h4 h5 => ?_, fun q h1 h2 => ?_⟩
  · rw [e, e, if_neg h4, if_neg h5]
    by_cases ep : p = j
    · rw [if_pos ep, if_neg (by omega)]; exact h.1 (j - 1) q (by omega) (by omega) h3 (by omega) (by omega)
    · rw [if_neg ep]
      by_cases eq : q = j
      · rw [if_pos eq]; exact h.1 p (j - 1) h1 (by omega) (by omega) ep (by omega)
      · rw [if_neg eq]; exact h.1 p q h1 h2 h3 ep eq
  · rw [e, e, if_pos rfl, if_neg (by omega)]
    by_cases eq : q = j
    · rw [if_pos eq]; omega
    · rw [if_neg eq]; exact h.2 q (by omega) h2
theorem insInv_end (l : List Int) (a i j : Nat) (h : insInv l a i j) (haj : a ≤ j) (hji : j ≤ i) (hj : j = a ∨ at0 l (j - 1) ≤ at0 l j) : ascOn l a (i + 1) := by
  intro p q h1 h2 h3
  by_cases ep : p = j
  · subst ep; exact h.2 q h2 (by omega)
  · by_cases eq : q = j
    · subst eq
      rcases hj with hj | hj
      · omega
      · by_cases e : p = q - 1
        · rw [e]; exact hj
        · exact Int.le_trans (h.1 p (q - 1) h1 (by omega) (by omega) ep (by omega)) hj
    · exact h.1 p q h1 h2 (by omega) ep eq
end Go.Proofs.YtgdcjedcinapdaaGreat

/- The reference's lines, flushes and stores, plain. No program in sight. -/
namespace Go.Proofs.YtgdcjedcinapdaaGreat
open Go.RowKit

def natsU (l : List Nat) : List Value := l.map fun (n : Nat) => Value.int .u64 n
theorem natsU_get {l : List Nat} {i n : Nat} (h : l[i]? = some n) : (natsU l)[i]? = some (.int .u64 n) := by simp [natsU, h]
theorem natsU_one (l : List Nat) : ∀ u ∈ natsU l, u.oneCell' = true := by intro u hu; simp [natsU] at hu; obtain ⟨s, _, rfl⟩ := hu; rfl
theorem natsU_take (l : List Nat) (k : Nat) : (natsU l).take k = natsU (l.take k) := by simp [natsU, List.map_take]
theorem natsU_drop (l : List Nat) (k : Nat) : (natsU l).drop k = natsU (l.drop k) := by simp [natsU, List.map_drop]
/-- How many lines of these lie below l. -/
def lowN (out : List Nat) (l : Nat) : Nat := (out.takeWhile fun x => decide (x < l)).length
theorem lowN_le (out : List Nat) (l : Nat) : lowN out l ≤ out.length := (List.takeWhile_sublist _).length_le
theorem lowN_lt (out : List Nat) (l i x : Nat) (hi : i < lowN out l) (h : out[i]? = some x) : x < l := by
  induction out generalizing i with
  | nil => simp at h
  | cons y out ih =>
    unfold lowN at hi
    by_cases hy : y < l
    · rw [List.takeWhile_cons_of_pos (by simpa using hy), List.length_cons] at hi
      cases i with
      | zero => simp at h; omega
      | succ i => exact ih i (by unfold lowN; omega) (by simpa using h)
    · rw [List.takeWhile_cons_of_neg (by simpa using hy)] at hi; simp at hi
theorem lowN_ge (out : List Nat) (l x : Nat) (h : out[lowN out l]? = some x) : ¬ x < l := by
  induction out with
  | nil => simp at h
  | cons y out ih =>
    unfold lowN at h
    by_cases hy : y < l
    · rw [List.takeWhile_cons_of_pos (by simpa using hy), List.length_cons, List.getElem?_cons_succ] at h
      exact ih h
    · rw [List.takeWhile_cons_of_neg (by simpa using hy)] at h; simp at h; omega
def insL (out : List Nat) (l : Nat) : List Nat := if out[lowN out l]? = some l then out else out.take (lowN out l) ++ l :: out.drop (lowN out l)
def linesL (offs : List Nat) : List Nat := offs.foldl (fun out o => insL out (o / 64)) []
theorem linesL_snoc (offs : List Nat) (o : Nat) : linesL (offs ++ [o]) = insL (linesL offs) (o / 64) := by simp [linesL, List.foldl_append]
theorem insL_len (out : List Nat) (l : Nat) : (insL out l).length ≤ out.length + 1 := by
  have := lowN_le out l
  unfold insL; split
  · omega
  · simp; omega
theorem linesF_len (offs : List Nat) : ∀ out : List Nat, (offs.foldl (fun out o => insL out (o / 64)) out).length ≤ out.length + offs.length := by
  induction offs with
  | nil => intro out; simp
  | cons o offs ih => intro out; have h1 := ih (insL out (o / 64)); have h2 := insL_len out (o / 64); simp only [List.foldl_cons, List.length_cons]; omega
theorem linesL_len (offs : List Nat) : (linesL offs).length ≤ offs.length := by have := linesF_len offs []; simpa [linesL] using this
theorem linesF_bd (offs : List Nat) (B : Nat) (h : ∀ o ∈ offs, o / 64 < B) : ∀ out : List Nat, (∀ l ∈ out, l < B) → ∀ l ∈ offs.foldl (fun out o => insL out (o / 64)) out, l < B := by
  induction offs with
  | nil => intro out ho; exact ho
  | cons o offs ih =>
    intro out ho
    refine ih (fun x hx => h x (by simp [hx])) (insL out (o / 64)) (fun l hl => ?_)
    unfold insL at hl
    split at hl
    · exact ho l hl
    · rcases List.mem_append.1 hl with h1 | h1
      · exact ho l (List.mem_of_mem_take h1)
      · rcases List.mem_cons.1 h1 with rfl | h1
        · exact h o (by simp)
        · exact ho l (List.mem_of_mem_drop h1)
theorem linesL_bd (offs : List Nat) (B : Nat) (h : ∀ o ∈ offs, o / 64 < B) : ∀ l ∈ linesL offs, l < B := linesF_bd offs B h [] (by simp)
def flushL (offs : List Nat) : List (Nat × Nat × Int) := if linesL offs = [] then [] else ((linesL offs).map fun l => (2, 64 * l, 0)) ++ [(3, 0, 0)]
def storesL (ws : List (Nat × Int)) : List (Nat × Nat × Int) := (ws.map fun e => (1, e.1, e.2)) ++ flushL (ws.map (·.1))
end Go.Proofs.YtgdcjedcinapdaaGreat

/- Lines sorted and compacted are the reference's lines. Plain; no program in sight. -/
namespace Go.Proofs.YtgdcjedcinapdaaGreat
open Go.RowKit

/-- Two ascending lists with the same members are one. -/
theorem asc_ext : ∀ (l m : List Int), l.Pairwise (· < ·) → m.Pairwise (· < ·) → (∀ x, x ∈ l ↔ x ∈ m) → l = m
  | [], [], _, _, _ => rfl
  | [], y :: m, _, _, h => by have := (h y).2 (by simp); simp at this
  | x :: l, [], _, _, h => by have := (h x).1 (by simp); simp at this
  | x :: l, y :: m, hl, hm, h => by
    rw [List.pairwise_cons] at hl hm
    have hxy : x = y := by
      rcases List.mem_cons.1 ((h x).1 (by simp)) with h1 | h1
      · exact h1
      · rcases List.mem_cons.1 ((h y).2 (by simp)) with h2 | h2
        · exact h2.symm
        · have h3 := hm.1 x h1; have h4 := hl.1 y h2; omega
    subst hxy
    rw [asc_ext l m hl.2 hm.2 (fun z => by
      have hz := h z
      simp only [List.mem_cons] at hz
      constructor
      · intro k
        rcases hz.1 (.inr k) with e | e
        · have := hl.1 z k; omega
        · exact e
      · intro k
        rcases hz.2 (.inr k) with e | e
        · have := hm.1 z k; omega
        · exact e)]
theorem cmpF_asc : ∀ (l acc : List Int), acc.Pairwise (· < ·) → l.Pairwise (· ≤ ·) → (∀ a ∈ acc, ∀ x ∈ l, a ≤ x) → (l.foldl cmpStep acc).Pairwise (· < ·) := by
  intro l
  induction l with
  | nil => intro acc h _ _; exact h
  | cons x l ih =>
    intro acc ha hl hal
    rw [List.pairwise_cons] at hl
    have hle : ∀ a ∈ acc, ∀ y ∈ l, a ≤ y := fun a h y hy => hal a h y (by simp [hy])
    rw [List.foldl_cons]
    unfold cmpStep
    split
    · exact ih acc ha hl.2 hle
    · rename_i hne
      refine ih _ ?_ hl.2 ?_
      · rw [List.pairwise_append]
        refine ⟨ha, by simp, fun a h y hy => ?_⟩
        simp at hy; subst hy
        have hay := hal a h y (by simp)
        rcases List.eq_nil_or_concat acc with e | ⟨i, z, e⟩
        · subst e; simp at h
        · rw [List.concat_eq_append] at e; subst e
          have hz : z ≠ y := fun e => hne (by simp [e])
          have hzy := hal z (by simp) y (by simp)
          rw [List.pairwise_append] at ha
          rcases List.mem_append.1 h with h1 | h1
          · have := ha.2.2 a h1 z (by simp); omega
          · simp at h1; omega
      · intro a h y hy
        rcases List.mem_append.1 h with h1 | h1
        · exact hle a h1 y hy
        · simp at h1; subst h1; exact hl.1 y hy
theorem cmpL_asc (l : List Int) (h : l.Pairwise (· ≤ ·)) : (cmpL l).Pairwise (· < ·) := cmpF_asc l [] (by simp) h (by simp)
theorem ascOn_pw (l : List Int) (h : ascOn l 0 l.length) : l.Pairwise (· ≤ ·) := by
  rw [List.pairwise_iff_getElem]
  intro i j hi hj hij
  have := h i j (by omega) hij hj
  simpa [at0, List.getD, hi, hj] using this

theorem insL_mem (out : List Nat) (l x : Nat) : x ∈ insL out l ↔ x = l ∨ x ∈ out := by
  unfold insL
  split
  · rename_i h
    have := List.mem_of_getElem? h
    constructor
    · exact .inr
    · rintro (e | e)
      · subst e; exact this
      · exact e
  · have e : out = out.take (lowN out l) ++ out.drop (lowN out l) := (List.take_append_drop _ _).symm
    constructor
    · intro h
      rcases List.mem_append.1 h with h | h
      · exact .inr (List.mem_of_mem_take h)
      · rcases List.mem_cons.1 h with h | h
        · exact .inl h
        · exact .inr (List.mem_of_mem_drop h)
    · rintro (h | h)
      · subst h; simp
      · rw [e] at h
        rcases List.mem_append.1 h with h | h
        · exact List.mem_append.2 (.inl h)
        · exact List.mem_append.2 (.inr (by simp [h]))
theorem insL_asc (out : List Nat) (l : Nat) (h : out.Pairwise (· < ·)) : (insL out l).Pairwise (· < ·) := by
  unfold insL
  split
  · exact h
  · rename_i hne
    have e : out = out.take (lowN out l) ++ out.drop (lowN out l) := (List.take_append_drop _ _).symm
    have h' := h
    rw [e, List.pairwise_append] at h'
    obtain ⟨h1, h2, h3⟩ := h'
    have lo : ∀ a ∈ out.take (lowN out l), a < l := fun a ha => by
      obtain ⟨i, hi, hx⟩ := List.getElem_of_mem ha
      rw [List.length_take] at hi
      exact lowN_lt out l i a (by omega) (by rw [← hx, List.getElem_take]; exact List.getElem?_eq_getElem (by omega))
    have hi : ∀ a ∈ out.drop (lowN out l), l < a := fun a ha => by
      obtain ⟨i, hi, hx⟩ := List.getElem_of_mem ha
      rw [List.length_drop] at hi
      have h0 : out[lowN out l]? = some out[lowN out l] := List.getElem?_eq_getElem (by omega)
      have h4 := lowN_ge out l _ h0
      have h5 : out[lowN out l] ≠ l := fun e => hne (by rw [h0, e])
      rw [List.getElem_drop] at hx
      rcases Nat.eq_zero_or_pos i with e0 | e0
      · subst e0; simp only [Nat.add_zero] at hx; omega
      · have := List.pairwise_iff_getElem.1 h (lowN out l) (lowN out l + i) (by omega) (by omega) (by omega)
        omega
    rw [List.pairwise_append, List.pairwise_cons]
    refine ⟨h1, ⟨hi, h2⟩, fun a ha b hb => ?_⟩
    have hal := lo a ha
    rcases List.mem_cons.1 hb with e | hb
    · omega
    · have := hi b hb; omega
theorem linesF_asc (offs : List Nat) : ∀ out : List Nat, out.Pairwise (· < ·) → (offs.foldl (fun out o => insL out (o / 64)) out).Pairwise (· < ·) := by
  induction offs with
  | nil => intro out h; exact h
  | cons o offs ih => intro out h; exact ih _ (insL_asc out _ h)
theorem linesF_mem (offs : List Nat) (x : Nat) : ∀ out : List Nat, x ∈ offs.foldl (fun out o => insL out (o / 64)) out ↔ x ∈ out ∨ ∃ o ∈ offs, o / 64 = x := by
  induction offs with
  | nil => intro out; simp
  | cons o offs ih =>
    intro out
    rw [List.foldl_cons, ih, insL_mem]
    simp only [List.mem_cons]
    constructor
    · rintro ((h | h) | ⟨p, hp, h⟩)
      · exact .inr ⟨o, .inl rfl, h.symm⟩
      · exact .inl h
      · exact .inr ⟨p, .inr hp, h⟩
    · rintro (h | ⟨p, hp | hp, h⟩)
      · exact .inl (.inr h)
      · subst hp; exact .inl (.inl h.symm)
      · exact .inr ⟨p, hp, h⟩
theorem linesL_asc (offs : List Nat) : (linesL offs).Pairwise (· < ·) := linesF_asc offs [] (by simp)
theorem linesL_mem (offs : List Nat) (x : Nat) : x ∈ linesL offs ↔ ∃ o ∈ offs, o / 64 = x := by
  unfold linesL; rw [linesF_mem]; simp
/-- The starts of lines, sorted and compacted. -/
theorem lines_compact (offs : List Nat) (ys : List Int) (hp : ys.Perm (offs.map fun o => (((o - o % 64 : Nat)) : Int))) (ha : ascOn ys 0 ys.length) : cmpL ys = (linesL offs).map fun l => ((64 * l : Nat) : Int) := by
  refine asc_ext _ _ (cmpL_asc ys (ascOn_pw ys ha)) ?_ (fun x => ?_)
  · rw [List.pairwise_map]
    exact (linesL_asc offs).imp (fun h => by omega)
  · rw [mem_cmpL, hp.mem_iff, List.mem_map, List.mem_map]
    constructor
    · rintro ⟨o, ho, rfl⟩
      exact ⟨o / 64, (linesL_mem _ _).2 ⟨o, ho, rfl⟩, by omega⟩
    · rintro ⟨l, hl, rfl⟩
      obtain ⟨o, ho, rfl⟩ := (linesL_mem _ _).1 hl
      exact ⟨o, ho, by omega⟩
end Go.Proofs.YtgdcjedcinapdaaGreat

/- The device as plain data: lines with a persisted content and a history of stores, eight threads, the power. -/
namespace Go.Proofs.YtgdcjedcinapdaaGreat
open Go.RowKit

structure Dev where
  n : Nat
  pers : Nat → Int
  hist : Nat → List (Nat × Int)
  done : Nat → Nat
  err : Nat → Int
  note : Nat → Nat → Option Nat
  off : Bool
  armed : Bool
  left : Nat
  exec : Nat

/-- The value of word i behind these stores, if it was d before them. -/
def look (l : List (Nat × Int)) (d : Int) (i : Nat) : Int := l.foldl (fun d e => if e.1 / 8 = i then e.2 else d) d

theorem look_nil (d : Int) (i : Nat) : look [] d i = d := rfl
theorem look_snoc (l : List (Nat × Int)) (e : Nat × Int) (d : Int) (i : Nat) : look (l ++ [e]) d i = if e.1 / 8 = i then e.2 else look l d i := by
  simp [look, List.foldl_append]
theorem look_append (l l' : List (Nat × Int)) (d : Int) (i : Nat) : look (l ++ l') d i = look l' (look l d i) i := by
  simp [look, List.foldl_append]

namespace Dev
def cur (D : Dev) (i : Nat) : Int := look (D.hist (i / 8)) (D.pers i) i
def setErr (D : Dev) (j : Nat) (e : Int) : Dev := { D with err := fun k => if k = j then e else D.err k }
def fail (D : Dev) (j : Nat) (e : Int) : Dev := if D.err j = 0 then D.setErr j e else D
def wordB (D : Dev) (off : Nat) : Bool := decide (off % 8 = 0 ∧ off < 64 * D.n)
def onB (D : Dev) (valid : Bool) : Bool := !D.off && valid
def onD (D : Dev) (j : Nat) (valid : Bool) : Dev := if D.off then D.fail j 3 else if valid then D else D.fail j 2
def cut (D : Dev) : Bool := D.armed && D.left == 0
def countedB (D : Dev) (valid : Bool) : Bool := D.onB valid && !D.cut
def tick (D : Dev) : Dev := { D with left := if D.armed then D.left - 1 else D.left, exec := D.exec + 1 }
def countedD (D : Dev) (j : Nat) (valid : Bool) : Dev :=
  if D.onB valid then (if D.cut then ({ D with off := true } : Dev).fail j 3 else D.tick) else D.onD j valid
def put (D : Dev) (off : Nat) (x : Int) : Dev := { D with hist := fun i => if i = off / 64 then D.hist i ++ [(off, x)] else D.hist i }
def store (D : Dev) (j off : Nat) (x : Int) : Dev := if D.countedB (D.wordB off) then (D.countedD j (D.wordB off)).put off x else D.countedD j (D.wordB off)
def loadV (D : Dev) (off : Nat) : Int := if D.onB (D.wordB off) then D.cur (off / 8) else 0
def loadD (D : Dev) (j off : Nat) : Dev := D.onD j (D.wordB off)
def inB (D : Dev) (off : Nat) : Bool := decide (off < 64 * D.n)
def jot (D : Dev) (j l : Nat) : Dev := { D with note := fun k m => if k = j ∧ m = l then some (D.done l + (D.hist l).length) else D.note k m }
def flush (D : Dev) (j off : Nat) : Dev := if D.countedB (D.inB off) then (D.countedD j (D.inB off)).jot j (off / 64) else D.countedD j (D.inB off)
/-- The first k stores of line l become persistent. -/
def persist (D : Dev) (l k : Nat) : Dev :=
  { D with pers := fun i => if i / 8 = l then look ((D.hist l).take k) (D.pers i) i else D.pers i
           hist := fun i => if i = l then (D.hist i).drop k else D.hist i
           done := fun i => if i = l then D.done i + k else D.done i }
def owed (D : Dev) (j l : Nat) : Nat := match D.note j l with | some p => p - D.done l | none => 0
/-- All lines that thread j has noted become persistent up to the noted place. -/
def sync (D : Dev) (j : Nat) : Dev :=
  { D with pers := fun i => look ((D.hist (i / 8)).take (D.owed j (i / 8))) (D.pers i) i
           hist := fun i => (D.hist i).drop (D.owed j i)
           done := fun i => D.done i + D.owed j i
           note := fun k m => if k = j then none else D.note k m }
def fence (D : Dev) (j : Nat) : Dev := if D.countedB true then (D.countedD j true).sync j else D.countedD j true
end Dev

/-- The bounds that hold of every device. -/
structure Dev.WF (D : Dev) : Prop where
  pos : 0 < D.n
  le : D.n ≤ 4096
  line : ∀ i, i < D.n → ∀ e ∈ D.hist i, e.1 / 64 = i ∧ e.1 % 8 = 0
  cnt : ∀ i, i < D.n → D.done i + (D.hist i).length ≤ D.exec
  note : ∀ j l p, D.note j l = some p → l < D.n ∧ p ≤ D.done l + (D.hist l).length
  left : D.left ≤ 9223372036854775807

inductive Role where
  | dev | pers | cur | lines | thr (j : Nat) | notes (j : Nat) | hist (i : Nat)
  deriving DecidableEq

/-- Where a device lies. -/
structure DV where
  db : Nat
  pb : Nat
  pc : Nat
  cb : Nat
  cc : Nat
  lb : Nat
  tb : Nat → Nat
  nb : Nat → Nat

def devCells (v : DV) (D : Dev) : Array Value :=
  #[.slice (some ⟨v.pb, 0, none⟩) (8 * D.n) v.pc, .slice (some ⟨v.cb, 0, none⟩) (8 * D.n) v.cc, .slice (some ⟨v.lb, 0, none⟩) D.n D.n,
    .pointer (some ⟨v.tb 0, 0, none⟩), .pointer (some ⟨v.tb 1, 0, none⟩), .pointer (some ⟨v.tb 2, 0, none⟩), .pointer (some ⟨v.tb 3, 0, none⟩),
    .pointer (some ⟨v.tb 4, 0, none⟩), .pointer (some ⟨v.tb 5, 0, none⟩), .pointer (some ⟨v.tb 6, 0, none⟩), .pointer (some ⟨v.tb 7, 0, none⟩),
    .bool D.off, .bool D.armed, .int .i64 D.left, .int .u64 D.exec]

theorem devCells_thr (v : DV) (D : Dev) (j : Nat) (h : j < 8) : (devCells v D)[3 + j]? = some (.pointer (some ⟨v.tb j, 0, none⟩)) := by
  obtain rfl | rfl | rfl | rfl | rfl | rfl | rfl | rfl : j = 0 ∨ j = 1 ∨ j = 2 ∨ j = 3 ∨ j = 4 ∨ j = 5 ∨ j = 6 ∨ j = 7 := by omega
  all_goals rfl

def thrCells (v : DV) (D : Dev) (j : Nat) : Array Value := #[.pointer (some ⟨v.db, 0, none⟩), .int .i64 j, .int .i64 (D.err j), .map (some (v.nb j))]

/-- Stores as cells. -/
def flat (h : List (Nat × Int)) : List Value := h.flatMap fun e => [.int .u64 e.1, .int .u64 e.2]
theorem flat_append (a b : List (Nat × Int)) : flat (a ++ b) = flat a ++ flat b := by simp [flat]
theorem flat_length (h : List (Nat × Int)) : (flat h).length = h.length * 2 := by
  induction h with
  | nil => rfl
  | cons e l ih => simp [flat] at *; omega
theorem flat_get (h : List (Nat × Int)) : ∀ (k : Nat) (e : Nat × Int), h[k]? = some e → (flat h)[2 * k]? = some (.int .u64 e.1) ∧ (flat h)[2 * k + 1]? = some (.int .u64 e.2) := by
  induction h with
  | nil => intro k e h; simp at h
  | cons x l ih =>
    intro k e he
    have hf : flat (x :: l) = .int .u64 x.1 :: .int .u64 x.2 :: flat l := rfl
    cases k with
    | zero => simp at he; subst he; simp [hf]
    | succ k =>
      have := ih k e (by simpa using he)
      rw [hf, show 2 * (k + 1) = 2 * k + 1 + 1 from by omega]
      simpa using this
theorem flat_drop (h : List (Nat × Int)) : ∀ k, (flat h).drop (k * 2) = flat (h.drop k) := by
  induction h with
  | nil => intro k; simp [flat]
  | cons x l ih =>
    intro k
    cases k with
    | zero => simp
    | succ k =>
      have hf : flat (x :: l) = .int .u64 x.1 :: .int .u64 x.2 :: flat l := rfl
      rw [hf, show (k + 1) * 2 = k * 2 + 1 + 1 from by omega]
      simpa using ih k
theorem flat_one (h : List (Nat × Int)) : ∀ u ∈ flat h, u.oneCell' = true := by
  intro u hu
  simp [flat] at hu
  obtain ⟨a, b, _, rfl | rfl⟩ := hu <;> rfl

/-- The stores h of a line lie in memory as the slice value v; its block is the line's own. -/
def HistAt (w : World) (own : Nat → Option Role) (wt : TypeId) (i : Nat) (v : Value) (h : List (Nat × Int)) : Prop :=
  OwnSl w wt 2 v h.length (flat h) ∧ ∀ g, v.ownBlock = some g → own g = some (.hist i)

theorem HistAt.mono {w w' : World} {own own' : Nat → Option Role} {wt : TypeId} {i : Nat} {v : Value} {h : List (Nat × Int)} (H : HistAt w own wt i v h)
    (ho : ∀ g, own g = some (.hist i) → g < w.heap.size → own' g = some (.hist i)) (hb : ∀ g, own g = some (.hist i) → g < w.heap.size → w'.heap[g]? = w.heap[g]?) : HistAt w' own' wt i v h :=
  ⟨H.1.kept (fun k hk => hb k (H.2 k hk) (H.1.lt k hk)), fun g hg => ho g (H.2 g hg) (H.1.lt g hg)⟩

/-- What thread j has noted, as a map of the program. -/
def NotesAt (P : Program) (kt et : TypeId) (w : World) (b : Nat) (B : Nat) (f : Nat → Option Nat) : Prop :=
  ∃ (m : Nat) (N : DataW Unit), m ≤ B ∧ w.ownsMap P kt (plainElem P et) b m N ∧ (∀ l p, f l = some p → p < 18446744073709551616) ∧
    (∀ x : Int, Maps.has N (.int .i64 x) = true → ∃ l p : Nat, x = l ∧ f l = some p) ∧
    ∀ l p, f l = some p → Maps.has N (.int .i64 l) = true ∧ ∀ z, N.atKey (.int .i64 l) z = .lit (.int .u64 p)

end Go.Proofs.YtgdcjedcinapdaaGreat
