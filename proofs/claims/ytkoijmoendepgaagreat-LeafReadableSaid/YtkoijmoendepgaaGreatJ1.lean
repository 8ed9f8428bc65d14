/- Plain facts about worlds and blocks, used by all walks of this seat. No program in sight. -/
import Derived.WalkKit
import Derived.WalkSpells
import Derived.WalkLawsBesides
import Derived.Maps.RangeWalk
import Derived.Maps.OwnSet
import Derived.Lib.Hide
import Derived.Test.YtkoijmoendepgaaGreatRows
import Derived.StillTailTactics
import Derived.Deep.QuietTactic
import Derived.BigQuiet
namespace Go.Proofs.YtkoijmoendepgaaGreat
open Go.RowKit

/-- Outside the blocks of S nothing that was there has changed. -/
structure Upd (S : Nat → Prop) (w w' : World) : Prop where
  os : w'.os = w.os
  tape : w'.tape = w.tape
  output : w'.output = w.output
  size : w.heap.size ≤ w'.heap.size
  block : ∀ k, k < w.heap.size → ¬ S k → w'.heap[k]? = w.heap[k]?

theorem Upd.refl (S : Nat → Prop) (w : World) : Upd S w w := ⟨rfl, rfl, rfl, Nat.le_refl _, fun _ _ _ => rfl⟩
theorem Upd.trans {S S' : Nat → Prop} {a b c : World} (h : Upd S a b) (k : Upd S' b c) (hs : ∀ i, i < a.heap.size → S' i → S i) : Upd S a c :=
  ⟨k.os.trans h.os, k.tape.trans h.tape, k.output.trans h.output, Nat.le_trans h.size k.size, fun i hi hn =>
    (k.block i (Nat.lt_of_lt_of_le hi h.size) (fun hS => hn (hs i hi hS))).trans (h.block i hi hn)⟩
theorem Upd.mono {S S' : Nat → Prop} {a b : World} (h : Upd S a b) (hs : ∀ i, i < a.heap.size → S i → S' i) : Upd S' a b :=
  ⟨h.os, h.tape, h.output, h.size, fun i hi hn => h.block i hi (fun hS => hn (hs i hi hS))⟩
theorem Upd.drew {S : Nat → Prop} {a b : World} (h : Upd S a b) : Upd S a b.drew := ⟨h.os, h.tape, h.output, h.size, h.block⟩
theorem Upd.alloc {S : Nat → Prop} {a b : World} (h : Upd S a b) (o : Obj) : Upd S a (b.alloc o) :=
  ⟨h.os, h.tape, h.output, Nat.le_trans h.size (by simp), fun k hk hn => (Below.heap_alloc _ _ _ (Nat.lt_of_lt_of_le hk h.size)).trans (h.block k hk hn)⟩
theorem Upd.setCell {S : Nat → Prop} {a b : World} (h : Upd S a b) {p : Addr} (hp : p.block < a.heap.size → S p.block) (u : Value) : Upd S a (b.setCell p u) :=
  ⟨h.os, h.tape, h.output, Nat.le_trans h.size (by simp [World.setCell]), fun k hk hn =>
    (Below.heap_setCell _ _ _ _ (fun e => hn (by subst e; exact hp hk))).trans (h.block k hk hn)⟩
theorem Upd.grown {S : Nat → Prop} {a w w' : World} {row : Option Nat} (h : Upd S a w) (hg : w.grownBy w' row) (hr : ∀ k, row = some k → k < a.heap.size → S k) : Upd S a w' :=
  ⟨hg.os.trans h.os, hg.tape.trans h.tape, hg.output.trans h.output, Nat.le_trans h.size hg.size, fun k hk hn =>
    (hg.block k (Nat.lt_of_lt_of_le hk h.size) (fun e => hn (hr k e.symm hk))).trans (h.block k hk hn)⟩
theorem Upd.below {w w' : World} (h : Upd (fun _ => False) w w') : Below w.heap.size w w' := ⟨h.os, h.tape, h.output, h.size, fun k hk => h.block k hk (fun f => f)⟩
theorem Upd.of_below {w w' : World} {S : Nat → Prop} (h : Below w.heap.size w w') : Upd S w w' := ⟨h.os, h.tape, h.output, h.size, fun k hk _ => h.block k hk⟩
theorem Upd.get {S : Nat → Prop} {w w' : World} (h : Upd S w w') {k : Nat} {o : Obj} (hb : w.heap[k]? = some o) (hn : ¬ S k) : w'.heap[k]? = some o :=
  (h.block k (lt_of_block hb) hn).trans hb

/-- Block b holds these cells, none of them frozen. -/
def Blk (w : World) (b : Nat) (c : Array Value) (t : TypeId) : Prop := w.heap[b]? = some (.cells c t (0, 0))

theorem Blk.lt {w : World} {b : Nat} {c : Array Value} {t : TypeId} (h : Blk w b c t) : b < w.heap.size := lt_of_block h
theorem Blk.cell {w : World} {b : Nat} {c : Array Value} {t : TypeId} (h : Blk w b c t) {i : Nat} {v : Value} (hv : c[i]? = some v) : w.cell? ⟨b, i, none⟩ = some v := by
  unfold Blk at h; simp [World.cell?, h, hv]
theorem Blk.frozen {w : World} {b : Nat} {c : Array Value} {t : TypeId} (h : Blk w b c t) (i : Nat) : w.frozen? ⟨b, i, none⟩ = false := by
  unfold Blk at h; simp [World.frozen?, h]
theorem Blk.upd {S : Nat → Prop} {w w' : World} {b : Nat} {c : Array Value} {t : TypeId} (h : Blk w b c t) (u : Upd S w w') (hn : ¬ S b) : Blk w' b c t := u.get h hn
theorem Blk.drew {w : World} {b : Nat} {c : Array Value} {t : TypeId} (h : Blk w b c t) : Blk w.drew b c t := h
theorem Blk.alloc {w : World} {b : Nat} {c : Array Value} {t : TypeId} (h : Blk w b c t) (o : Obj) : Blk (w.alloc o) b c t := (Below.heap_alloc w o b h.lt).trans h
theorem Blk.new (w : World) (c : Array Value) (t : TypeId) : Blk (w.alloc (.cells c t)) w.heap.size c t := heap_alloc_new w _
theorem Blk.other {w : World} {b : Nat} {c : Array Value} {t : TypeId} (h : Blk w b c t) {a : Addr} (hne : b ≠ a.block) (u : Value) : Blk (w.setCell a u) b c t :=
  (Below.heap_setCell w a u b hne).trans h
theorem Blk.set {w : World} {b : Nat} {c : Array Value} {t : TypeId} (h : Blk w b c t) (i : Nat) (u : Value) : Blk (w.setCell ⟨b, i, none⟩ u) b (c.setIfInBounds i u) t := by
  unfold Blk at *; simp [World.setCell, Array.getElem?_modify, h]
theorem Blk.inj {w : World} {b : Nat} {c c' : Array Value} {t t' : TypeId} (h : Blk w b c t) (h' : Blk w b c' t') : c = c' ∧ t = t' := by
  unfold Blk at *; rw [h] at h'; simp at h'; exact h'

/-- The first n cells of block b are f 0, f 1, .. -/
def Row (w : World) (b n : Nat) (t : TypeId) (f : Nat → Value) : Prop := ∃ c, Blk w b c t ∧ ∀ i, i < n → c[i]? = some (f i)

theorem Row.lt {w : World} {b n : Nat} {t : TypeId} {f : Nat → Value} (h : Row w b n t f) : b < w.heap.size := let ⟨_, h, _⟩ := h; h.lt
theorem Row.cell {w : World} {b n : Nat} {t : TypeId} {f : Nat → Value} (h : Row w b n t f) {i : Nat} (hi : i < n) : w.cell? ⟨b, i, none⟩ = some (f i) :=
  let ⟨_, h, hc⟩ := h; h.cell (hc i hi)
theorem Row.frozen {w : World} {b n : Nat} {t : TypeId} {f : Nat → Value} (h : Row w b n t f) (i : Nat) : w.frozen? ⟨b, i, none⟩ = false := let ⟨_, h, _⟩ := h; h.frozen i
theorem Row.upd {S : Nat → Prop} {w w' : World} {b n : Nat} {t : TypeId} {f : Nat → Value} (h : Row w b n t f) (u : Upd S w w') (hn : ¬ S b) : Row w' b n t f :=
  let ⟨c, h, hc⟩ := h; ⟨c, h.upd u hn, hc⟩
theorem Row.below {w w' : World} {b n : Nat} {t : TypeId} {f : Nat → Value} (h : Row w b n t f) (hb : Below w.heap.size w w') : Row w' b n t f :=
  let ⟨c, h, hc⟩ := h; ⟨c, (hb.block b h.lt).trans h, hc⟩
theorem Blk.below {w w' : World} {b : Nat} {c : Array Value} {t : TypeId} (h : Blk w b c t) (hb : Below w.heap.size w w') : Blk w' b c t := (hb.block b h.lt).trans h
theorem Row.drew {w : World} {b n : Nat} {t : TypeId} {f : Nat → Value} (h : Row w b n t f) : Row w.drew b n t f := h
theorem Row.alloc {w : World} {b n : Nat} {t : TypeId} {f : Nat → Value} (h : Row w b n t f) (o : Obj) : Row (w.alloc o) b n t f := let ⟨c, h, hc⟩ := h; ⟨c, h.alloc o, hc⟩
theorem Row.other {w : World} {b n : Nat} {t : TypeId} {f : Nat → Value} (h : Row w b n t f) {a : Addr} (hne : b ≠ a.block) (u : Value) : Row (w.setCell a u) b n t f :=
  let ⟨c, h, hc⟩ := h; ⟨c, h.other hne u, hc⟩
theorem Row.set {w : World} {b n : Nat} {t : TypeId} {f : Nat → Value} (h : Row w b n t f) (k : Nat) (u : Value) : Row (w.setCell ⟨b, k, none⟩ u) b n t (fun i => if i = k then u else f i) := by
  obtain ⟨c, h, hc⟩ := h
  refine ⟨_, h.set k u, fun i hi => ?_⟩
  have := hc i hi
  have hlt : i < c.size := by rcases Nat.lt_or_ge i c.size with h | h; exact h; simp [Array.getElem?_eq_none h] at this
  by_cases e : i = k
  · subst e; simp [hlt]
  · simp [e, Ne.symm e, this]
theorem Row.congr {w : World} {b n : Nat} {t : TypeId} {f g : Nat → Value} (h : Row w b n t f) (hfg : ∀ i, i < n → f i = g i) : Row w b n t g :=
  let ⟨c, h, hc⟩ := h; ⟨c, h, fun i hi => (hc i hi).trans (by rw [hfg i hi])⟩
theorem Row.new (w : World) (c : Array Value) (t : TypeId) (n : Nat) (f : Nat → Value) (hc : ∀ i, i < n → c[i]? = some (f i)) : Row (w.alloc (.cells c t)) w.heap.size n t f := ⟨c, Blk.new w c t, hc⟩

end Go.Proofs.YtkoijmoendepgaaGreat

/- Slices as lists of cells: one that is read (RdSl), one that is owned and may be appended to (OwnSl); append and make. -/
namespace Go.Proofs.YtkoijmoendepgaaGreat
open Go.RowKit

/-- The slice value v has n elements of size cells each, which read as xs. -/
def RdSl (w : World) (size : Nat) (v : Value) (n : Nat) (xs : List Value) : Prop :=
  xs.length = n * size ∧ ∃ a c, v = .slice a n c ∧ n ≤ c ∧ (xs = [] ∨ ∃ b o, a = some ⟨b, o, none⟩ ∧ ∀ j u, xs[j]? = some u → w.cell? ⟨b, o + j, none⟩ = some u)

def slAddr : Value → Option Addr | .slice a _ _ => a | _ => none
theorem ownBlock_addr (v : Value) : v.ownBlock = (slAddr v).map (·.block) := by
  cases v <;> simp [Value.ownBlock, slAddr]
  rename_i a _ _; cases a <;> rfl

/-- The slice value v owns its row: nil, or a part of a block that nothing else leads to. -/
def OwnSl (w : World) (e : TypeId) (size : Nat) (v : Value) (n : Nat) (xs : List Value) : Prop :=
  xs.length = n * size ∧
  ((v = .slice none 0 0 ∧ n = 0) ∨
   ∃ g o cap cur, v = .slice (some ⟨g, o, none⟩) n cap ∧ Blk w g cur e ∧ n ≤ cap ∧ cap ≤ maxLen ∧ o + cap * size ≤ cur.size ∧ (cur.toList.drop o).take (n * size) = xs)

section
variable {w : World} {e : TypeId} {size : Nat} {v : Value} {n : Nat} {xs : List Value}

theorem OwnSl.nil (w : World) (e : TypeId) (size : Nat) : OwnSl w e size (.slice none 0 0) 0 [] := ⟨by simp, .inl ⟨rfl, rfl⟩⟩
theorem OwnSl.rd (h : OwnSl w e size v n xs) : RdSl w size v n xs := by
  refine ⟨h.1, ?_⟩
  rcases h.2 with ⟨rfl, rfl⟩ | ⟨g, o, cap, cur, rfl, hb, hc, _, _, ht⟩
  · exact ⟨none, 0, rfl, Nat.le_refl _, .inl (List.eq_nil_of_length_eq_zero (by simpa using h.1))⟩
  · refine ⟨_, cap, rfl, hc, .inr ⟨g, o, rfl, fun j u hu => hb.cell ?_⟩⟩
    rw [← ht, List.getElem?_take] at hu
    split at hu
    · simpa [List.getElem?_drop] using hu
    · cases hu
theorem OwnSl.lt (h : OwnSl w e size v n xs) : ∀ k, v.ownBlock = some k → k < w.heap.size := by
  intro k hk
  rcases h.2 with ⟨rfl, _⟩ | ⟨g, o, cap, cur, rfl, hb, _⟩
  · simp [Value.ownBlock] at hk
  · simp [Value.ownBlock] at hk; subst hk; exact hb.lt
theorem OwnSl.kept {w' : World} (h : OwnSl w e size v n xs) (hb : ∀ k, v.ownBlock = some k → w'.heap[k]? = w.heap[k]?) : OwnSl w' e size v n xs := by
  refine ⟨h.1, ?_⟩
  rcases h.2 with hn | ⟨g, o, cap, cur, rfl, hg, rest⟩
  · exact .inl hn
  · exact .inr ⟨g, o, cap, cur, rfl, (hb g rfl).trans hg, rest⟩
theorem OwnSl.upd {w' : World} {S : Nat → Prop} (h : OwnSl w e size v n xs) (hu : Upd S w w') (hS : ∀ k, v.ownBlock = some k → ¬ S k) : OwnSl w' e size v n xs :=
  h.kept (fun k hk => hu.block k (h.lt k hk) (hS k hk))
theorem OwnSl.alloc (h : OwnSl w e size v n xs) (o : Obj) : OwnSl (w.alloc o) e size v n xs := h.kept (fun k hk => Below.heap_alloc _ _ _ (h.lt k hk))
theorem OwnSl.drew (h : OwnSl w e size v n xs) : OwnSl w.drew e size v n xs := h.kept (fun _ _ => rfl)
theorem OwnSl.other (h : OwnSl w e size v n xs) {a : Addr} (ha : ∀ k, v.ownBlock = some k → k ≠ a.block) (u : Value) : OwnSl (w.setCell a u) e size v n xs :=
  h.kept (fun k hk => Below.heap_setCell _ _ _ _ (ha k hk))
theorem OwnSl.slice (h : OwnSl w e size v n xs) : ∃ a c, v = .slice a n c := by
  rcases h.2 with ⟨rfl, rfl⟩ | ⟨g, o, cap, cur, rfl, _⟩
  · exact ⟨_, _, rfl⟩
  · exact ⟨_, _, rfl⟩

theorem RdSl.kept {w' : World} (h : RdSl w size v n xs) (hb : ∀ k, v.ownBlock = some k → k < w.heap.size → w'.heap[k]? = w.heap[k]?) : RdSl w' size v n xs := by
  obtain ⟨h1, a, c, rfl, hc, h2⟩ := h
  refine ⟨h1, a, c, rfl, hc, ?_⟩
  rcases h2 with h2 | ⟨b, o, rfl, h3⟩
  · exact .inl h2
  · refine .inr ⟨b, o, rfl, fun j u hu => ?_⟩
    have hlt := World.block_lt_of_cell? w _ (h3 j u hu)
    exact (World.cell?_of_block (w := w) (a := ⟨b, o + j, none⟩) (hb b rfl hlt)).trans (h3 j u hu)
theorem RdSl.upd {w' : World} {S : Nat → Prop} (h : RdSl w size v n xs) (hu : Upd S w w') (hS : ∀ k, v.ownBlock = some k → ¬ S k) : RdSl w' size v n xs :=
  h.kept (fun k hk hlt => hu.block k hlt (hS k hk))
theorem RdSl.below {w' : World} (h : RdSl w size v n xs) (hu : Below w.heap.size w w') : RdSl w' size v n xs := h.kept (fun k _ hlt => hu.block k hlt)
theorem RdSl.alloc (h : RdSl w size v n xs) (o : Obj) : RdSl (w.alloc o) size v n xs := h.kept (fun _ _ hlt => Below.heap_alloc _ _ _ hlt)
theorem RdSl.drew (h : RdSl w size v n xs) : RdSl w.drew size v n xs := h.kept (fun _ _ _ => rfl)
/-- What a slice that has an element looks like. -/
theorem rd_some (h : RdSl w size v n xs) (hx : xs ≠ []) : ∃ b o c, v = .slice (some ⟨b, o, none⟩) n c ∧ n ≤ c ∧ ∀ j u, xs[j]? = some u → w.cell? ⟨b, o + j, none⟩ = some u := by
  obtain ⟨_, a, c, rfl, hc, h2⟩ := h
  rcases h2 with h2 | ⟨b, o, rfl, h3⟩
  · exact (hx h2).elim
  · exact ⟨b, o, c, rfl, hc, h3⟩
end

section
variable {P : Program} (w : World)

/-- append, whatever the two slices are. -/
theorem run_append_sl (t ty e : TypeId) (i : TypeInfo) (z : Value) (size bytes : Nat) (ht : P.underlying t = some (.slice e)) (hi : P.info? e = some i) (hz : i.zero = some z)
    (hsize : i.size = size) (hby : i.bytes = bytes) (hzs : z.cells.size = size)
    (v : Value) (n : Nat) (xs : List Value) (hown : OwnSl w e size v n xs)
    (x : Value) (m : Nat) (news : List Value) (hx : RdSl w size x m news) (h1 : ∀ u ∈ news, u.oneCell' = true)
    (h63 : n + m ≤ maxLen) (hbytes : (n + m) * bytes ≤ 140737488355328) (hsp : 0 < size) :
    ∃ v' w', (Builtin.append_ #[t, t] ty #[v, x]).run P w = .ok v' w' ∧ OwnSl w' e size v' (n + m) (xs ++ news) ∧ w.grownBy w' v.ownBlock ∧
      (slAddr v' = slAddr v ∨ slAddr v' = Option.some ⟨w.heap.size, 0, none⟩) ∧ (v' = .slice none 0 0 → v = .slice none 0 0) := by
  subst hsize
  subst hby
  obtain ⟨hl, xa, xc, rfl, hxc, hxa⟩ := hx
  have hlen : (xs ++ news).length = (n + m) * i.size := by rw [List.length_append, hown.1, hl, Nat.add_mul]
  by_cases hm : m = 0
  · subst hm
    have hn : news = [] := List.eq_nil_of_length_eq_zero (by simpa using hl)
    subst hn
    have hf : (Builtin.firstCells i.size 0 (.slice xa 0 xc)).run P w = .ok #[] w := by
      cases xa <;> simp [Builtin.firstCells, loadCells, loadCellsFrom]
    rcases hown.2 with ⟨rfl, rfl⟩ | ⟨g, o, cap, cur, rfl, hg, hnc, hcm, hcs, htake⟩
    · have hx0 : xs = [] := List.eq_nil_of_length_eq_zero (by simpa using hown.1)
      subst hx0
      refine ⟨.slice none 0 0, w, ?_, by simpa using hown, ⟨rfl, rfl, rfl, Nat.le_refl _, fun _ _ _ => rfl⟩, .inl rfl, id⟩
      simp [Builtin.append_, run_underlying ht, sizeOf, typeInfo, hi, Builtin.lenOf, hf]
    · refine ⟨.slice (some ⟨g, o, none⟩) n cap, w, ?_, by simpa using hown, ⟨rfl, rfl, rfl, Nat.le_refl _, fun _ _ _ => rfl⟩, .inl rfl, by simp⟩
      simp [Builtin.append_, run_underlying ht, sizeOf, typeInfo, hi, Builtin.lenOf, hf, hnc, storeCells]
  · have hne : news ≠ [] := by
      intro h0; subst h0; rw [List.length_nil] at hl; rcases Nat.mul_eq_zero.1 hl.symm with h | h <;> omega
    obtain ⟨b, bo, rfl, hnews0⟩ : ∃ b o, xa = Option.some ⟨b, o, none⟩ ∧ ∀ j u, news[j]? = Option.some u → w.cell? ⟨b, o + j, none⟩ = Option.some u := by
      rcases hxa with h0 | h0
      · exact (hne h0).elim
      · exact h0
    have hnews : ∀ j u, news[j]? = Option.some u → w.cell? ((⟨b, bo, none⟩ : Addr).add j) = Option.some u := fun j u hu => by rw [Addr.add_lit]; exact hnews0 j u hu
    have hsmall : n + m ≤ 9223372036854775807 := by simp only [maxLen] at h63; omega
    have grown : ∀ (old : Nat), old < n + m → ∀ (row : Option Nat),
        OwnSl (w.drew.alloc (.cells (xs.toArray ++ news.toArray ++ Builtin.zeroCells z.cells (grownCap w (n + m) old e - (n + m))) e)) e i.size
          (.slice (Option.some ⟨w.heap.size, 0, none⟩) (n + m) (grownCap w (n + m) old e)) (n + m) (xs ++ news) ∧
        w.grownBy (w.drew.alloc (.cells (xs.toArray ++ news.toArray ++ Builtin.zeroCells z.cells (grownCap w (n + m) old e - (n + m))) e)) row := by
      intro old ho row
      have hge := grownCap_ge w (n + m) old e
      have hcm : grownCap w (n + m) old e ≤ maxLen := grownCap_le_maxLen w (n + m) old e h63
      refine ⟨⟨hlen, .inr ⟨w.heap.size, 0, _, _, rfl, heap_alloc_new w.drew _, hge, hcm, ?_, ?_⟩⟩, ⟨rfl, rfl, rfl, by simp, fun k hk _ => Below.heap_alloc w.drew _ k hk⟩⟩
      · simp only [Array.size_append, List.size_toArray, size_zeroCells, hzs, hown.1, hl, ← Nat.add_mul, Nat.zero_add]
        exact Nat.mul_le_mul_right _ (by omega)
      · simp only [Array.toList_append, List.append_assoc, List.drop_zero]
        rw [← List.append_assoc, ← hlen]
        exact List.take_left
    rcases hown.2 with ⟨rfl, rfl⟩ | ⟨g, o, cap, cur, rfl, hg, hnc, hcm, hcs, htake⟩
    · have hx : xs = [] := List.eq_nil_of_length_eq_zero (by simpa using hown.1)
      subst hx
      have hr := run_append_nil (P := P) w t ty e i z ht hi hz ⟨b, bo, none⟩ m xc news hl hnews (by omega) (by omega) (by have hb := hbytes; simp only [Nat.zero_add] at hb; omega)
      have hgr := grown 0 (by omega) (Value.ownBlock (.slice none 0 0))
      simp only [Nat.zero_add, List.nil_append, Array.empty_append] at hgr ⊢
      exact ⟨_, _, hr, hgr.1, hgr.2, .inr rfl, by simp⟩
    · by_cases hroom : n + m ≤ cap
      · have hfit : o + n * i.size + news.length ≤ cur.size := by
          have : (n + m) * i.size ≤ cap * i.size := Nat.mul_le_mul_right _ hroom
          rw [Nat.add_mul] at this; rw [hl]; omega
        have hf := run_firstCells_some (P := P) w i.size m ⟨b, bo, none⟩ m xc news hl hnews
        have hst := run_storeCells_at P g (o + n * i.size) e news 0 cur w hg (by simpa using hfit) h1
        simp only [Nat.add_zero] at hst
        have hr : (Builtin.append_ #[t, t] ty #[.slice (Option.some ⟨g, o, none⟩) n cap, .slice (Option.some ⟨b, bo, none⟩) m xc]).run P w =
            .ok (.slice (Option.some ⟨g, o, none⟩) (n + m) cap) (w.setRow g (cur.toList.take (o + n * i.size) ++ news ++ cur.toList.drop (o + n * i.size + news.length)).toArray) := by
          simp [Builtin.append_, run_underlying ht, sizeOf, typeInfo, hi, Builtin.lenOf, hroom, hf, Addr.add_lit, hst]
        refine ⟨_, _, hr, ⟨hlen, .inr ⟨g, o, cap, _, rfl, setRow_heap w g cur _ e _ hg, hroom, hcm, ?_, ?_⟩⟩, ⟨rfl, rfl, rfl, by simp, fun k _ hk => setRow_other w g k _ (fun e => hk (by simp [Value.ownBlock, e]))⟩, .inl rfl, by simp⟩
        · simp only [List.size_toArray, List.length_append, List.length_take, List.length_drop, Array.length_toList]
          omega
        · simp only
          have e1 : cur.toList.take (o + n * i.size) = cur.toList.take o ++ xs := by rw [List.take_add, htake]
          have lo : (cur.toList.take o).length = o := by
            rw [List.length_take, Array.length_toList]; omega
          rw [e1, List.append_assoc, List.append_assoc, List.drop_append_of_le_length (by omega), List.drop_of_length_le (by omega), List.nil_append, ← List.append_assoc, ← hlen]
          exact List.take_left
      · have holds : ∀ j u, xs[j]? = Option.some u → w.cell? ((⟨g, o, none⟩ : Addr).add j) = Option.some u := fun j u hu => by
          rw [Addr.add_lit]
          obtain ⟨_, a', c', e', _, h'⟩ := hown.rd
          cases e'
          rcases h' with h' | ⟨b', o', e'', h'⟩
          · subst h'; simp at hu
          · cases e''; exact h' j u hu
        have hr := run_append_grow (P := P) w t ty e i z ht hi hz ⟨g, o, none⟩ n cap xs hown.1 holds ⟨b, bo, none⟩ m xc news hl hnews (by omega) (by omega) (growslice_fits (by omega) hbytes)
        have hgr := grown cap (by omega) (Value.ownBlock (.slice (Option.some ⟨g, o, none⟩) n cap))
        exact ⟨_, _, hr, hgr.1, hgr.2, .inr rfl, by simp⟩

theorem wpList_append_sl {ops : Array Oper} {rest : List Oper} {o : Oper} {a : Act} {Q : Exit → Act → World → Prop} (hgd : o.guard = none) (s x : Operand) (t : TypeId)
    (ho : o.op = .call { callee := .builtin .append, args := #[s, x], argTypes := #[t, t] })
    (e : TypeId) (i : TypeInfo) (z : Value) (size bytes : Nat) (ht : P.underlying t = some (.slice e)) (hi : P.info? e = some i) (hz : i.zero = some z)
    (hsize : i.size = size) (hby : i.bytes = bytes) (hzs : z.cells.size = size) (hsz : 0 < size)
    (v : Value) (n : Nat) (xs : List Value) (hs : a.eval s = v) (hown : OwnSl w e size v n xs)
    (xv : Value) (m : Nat) (news : List Value) (hx : a.eval x = xv) (hnews : RdSl w size xv m news) (h1 : ∀ u ∈ news, u.oneCell' = true)
    (h63 : n + m ≤ maxLen) (hbytes : (n + m) * bytes ≤ 140737488355328)
    (h : ∀ v' w', OwnSl w' e size v' (n + m) (xs ++ news) → w.grownBy w' v.ownBlock → (slAddr v' = slAddr v ∨ slAddr v' = some ⟨w.heap.size, 0, none⟩) → (v' = .slice none 0 0 → v = .slice none 0 0) → wpList P ops Q rest (a.put o.dst v') w') : wpList P ops Q (o :: rest) a w := by
  refine wpList_plain hgd fun K hK => ?_
  obtain ⟨v', w', hr, h2, h3, h4, h5⟩ := run_append_sl (P := P) w t o.type e i z size bytes ht hi hz hsize hby hzs v n xs hown xv m news hnews h1 h63 hbytes hsz
  unfold Oper.wp execOp
  simp only [ho, resolve, invoke, builtin, Sem.run_bind, Sem.run_pure, Result.andThen_ok, List.map_toArray, List.map_cons, List.map_nil, hs, hx, hr]
  exact hK _ _ (h v' w' h2 h3 h4 h5)
end

/-- A new row of one or more elements is read so. -/
theorem RdSl.new (w : World) (c : Array Value) (t : TypeId) (size n : Nat) (h : c.size = n * size) : RdSl (w.alloc (.cells c t)) size (.slice (Option.some ⟨w.heap.size, 0, none⟩) n n) n c.toList := by
  refine ⟨by simpa using h, _, _, rfl, Nat.le_refl _, .inr ⟨_, 0, rfl, fun j u hu => (Blk.new w c t).cell ?_⟩⟩
  simpa using hu
theorem RdSl.newAt (w : World) (c : Array Value) (t : TypeId) (size n b : Nat) (hb : b = w.heap.size) (h : c.size = n * size) : RdSl (w.alloc (.cells c t)) size (.slice (Option.some ⟨b, 0, none⟩) n n) n c.toList := by
  subst hb; exact RdSl.new w c t size n h
/-- The cell of an element that is there. -/
theorem rd_at {w : World} {a : Option Addr} {xs : List Value} (h : xs = [] ∨ ∃ b o, a = some ⟨b, o, none⟩ ∧ ∀ j u, xs[j]? = some u → w.cell? ⟨b, o + j, none⟩ = some u)
    {k : Nat} {u : Value} (hk : xs[k]? = some u) : ∃ b o, a = some ⟨b, o, none⟩ ∧ ∀ j u, xs[j]? = some u → w.cell? ⟨b, o + j, none⟩ = some u := by
  rcases h with h0 | h0
  · rw [h0] at hk; simp at hk
  · exact h0
theorem OwnSl.new (w : World) (c : Array Value) (e : TypeId) (size n cap : Nat) (hs : c.size = cap * size) (hn : n ≤ cap) (hm : cap ≤ maxLen) :
    OwnSl (w.alloc (.cells c e)) e size (.slice (Option.some ⟨w.heap.size, 0, none⟩) n cap) n (c.toList.take (n * size)) := by
  refine ⟨?_, .inr ⟨_, 0, cap, c, rfl, Blk.new w c e, hn, hm, by omega, by simp⟩⟩
  rw [List.length_take, Array.length_toList, hs]
  exact Nat.min_eq_left (Nat.mul_le_mul_right _ hn)
end Go.Proofs.YtkoijmoendepgaaGreat

/- Sorting, the plain part: what a round of insertion does to a list. No program in sight. -/
namespace Go.Proofs.YtkoijmoendepgaaGreat
open Go.RowKit

def at0 (l : List Int) (i : Nat) : Int := l.getD i 0
/-- l's elements from a up to b ascend. -/
def ascOn (l : List Int) (a b : Nat) : Prop := ∀ p q, a ≤ p → p < q → q < b → at0 l p ≤ at0 l q
/-- The same elements; outside of [a, b) each where it was. -/
structure Mixed (xs ys : List Int) (a b : Nat) : Prop where
  perm : ys.Perm xs
  out : ∀ p, p < a ∨ b ≤ p → at0 ys p = at0 xs p
theorem Mixed.refl (xs : List Int) (a b : Nat) : Mixed xs xs a b := ⟨.refl _, fun _ _ => rfl⟩
theorem Mixed.trans {xs ys zs : List Int} {a b : Nat} (h : Mixed xs ys a b) (k : Mixed ys zs a b) : Mixed xs zs a b := ⟨k.perm.trans h.perm, fun p hp => (k.out p hp).trans (h.out p hp)⟩
theorem Mixed.len {xs ys : List Int} {a b : Nat} (h : Mixed xs ys a b) : ys.length = xs.length := h.perm.length_eq
theorem Mixed.mono {xs ys : List Int} {a b a' b' : Nat} (h : Mixed xs ys a b) (h1 : a' ≤ a) (h2 : b ≤ b') : Mixed xs ys a' b' := ⟨h.perm, fun p hp => h.out p (by omega)⟩

/-- Elements i and j changed places. -/
def swp (l : List Int) (i j : Nat) : List Int := (l.set i (at0 l j)).set j (at0 l i)
theorem swp_length (l : List Int) (i j : Nat) : (swp l i j).length = l.length := by simp [swp]
theorem at0_set (l : List Int) (i : Nat) (x : Int) (k : Nat) (hi : i < l.length) : at0 (l.set i x) k = if k = i then x else at0 l k := by
  unfold at0
  simp only [List.getD, List.getElem?_set]
  by_cases e : i = k
  · subst e; simp [hi]
  · rw [if_neg e, if_neg (fun h => e h.symm)]
theorem at0_swp (l : List Int) (i j k : Nat) (hi : i < l.length) (hj : j < l.length) : at0 (swp l i j) k = if k = j then at0 l i else if k = i then at0 l j else at0 l k := by
  unfold swp
  rw [at0_set _ _ _ _ (by simpa using hj), at0_set _ _ _ _ hi]
theorem swp_perm (l : List Int) (i j : Nat) (hi : i < l.length) (hj : j < l.length) : (swp l i j).Perm l := by
  have e1 : at0 l j = l[j] := by simp [at0, List.getD, hj]
  have e2 : at0 l i = l[i] := by simp [at0, List.getD, hi]
  unfold swp; rw [e1, e2]
  exact List.set_set_perm hi hj
theorem swp_mixed (l : List Int) (i j a b : Nat) (hi : i < l.length) (hj : j < l.length) (h1 : a ≤ i) (h2 : i < b) (h3 : a ≤ j) (h4 : j < b) : Mixed l (swp l i j) a b :=
  ⟨swp_perm l i j hi hj, fun p hp => by rw [at0_swp l i j p hi hj, if_neg (by omega), if_neg (by omega)]⟩

/-- Element j of [a, i] is on its way down: all others ascend, and those above it are not less. -/
def insInv (l : List Int) (a i j : Nat) : Prop := (∀ p q, a ≤ p → p < q → q ≤ i → p ≠ j → q ≠ j → at0 l p ≤ at0 l q) ∧ ∀ q, j < q → q ≤ i → at0 l j ≤ at0 l q
theorem insInv_start (l : List Int) (a i : Nat) (h : ascOn l a i) : insInv l a i i := ⟨fun p q h1 h2 h3 _ h5 => h p q h1 h2 (by omega), fun q h1 h2 => by omega⟩
theorem insInv_step (l : List Int) (a i j : Nat) (h : insInv l a i j) (haj : a < j) (hji : j ≤ i) (hil : i < l.length) (hlt : at0 l j < at0 l (j - 1)) : insInv (swp l j (j - 1)) a i (j - 1) := by
  have e := fun k => at0_swp l j (j - 1) k (by omega) (by omega)
  refine ⟨fun p q h1 h2 h3 h4 h5 => ?_, fun q h1 h2 => ?_⟩
  · rw [e, e, if_neg h4, if_neg h5]
    by_cases ep : p = j
    · rw [if_pos ep, if_neg (by omega)]; exact h.1 (j - 1) q (by omega) (by omega) h3 (by omega) (by omega)
    · rw [if_neg ep]
      by_cases eq : q = j
      · rw [if_pos eq]; exact h.1 p (j - 1) h1 (by omega) (by omega) ep (by omega)
      · rw [if_neg eq]; exact h.1 p q h1 h2 h3 ep eq
  · rw [e, e, if_pos rfl, if_neg (by omega)]
    by_cases eq : q = j
    · rw [if_pos eq]; omega
    · rw [if_neg eq]; exact h.2 q (by omega) h2
theorem insInv_end (l : List Int) (a i j : Nat) (h : insInv l a i j) (haj : a ≤ j) (hji : j ≤ i) (hj : j = a ∨ at0 l (j - 1) ≤ at0 l j) : ascOn l a (i + 1) := by
  intro p q h1 h2 h3
  by_cases ep : p = j
  · subst ep; exact h.2 q h2 (by omega)
  · by_cases eq : q = j
    · subst eq
      rcases hj with hj | hj
      · omega
      · by_cases e : p = q - 1
        · rw [e]; exact hj
        · exact Int.le_trans (h.1 p (q - 1) h1 (by omega) (by omega) ep (by omega)) hj
    · exact h.1 p q h1 h2 (by omega) ep eq
end Go.Proofs.YtkoijmoendepgaaGreat

/- The device as plain data: lines with a persisted content and a history of stores, eight threads, the power. -/
namespace Go.Proofs.YtkoijmoendepgaaGreat
open Go.RowKit

structure Dev where
  n : Nat
  pers : Nat → Int
  hist : Nat → List (Nat × Int)
  done : Nat → Nat
  err : Nat → Int
  note : Nat → Nat → Option Nat
  off : Bool
  armed : Bool
  left : Nat
  exec : Nat

/-- The value of word i behind these stores, if it was d before them. -/
def look (l : List (Nat × Int)) (d : Int) (i : Nat) : Int := l.foldl (fun d e => if e.1 / 8 = i then e.2 else d) d

theorem look_nil (d : Int) (i : Nat) : look [] d i = d := rfl
theorem look_snoc (l : List (Nat × Int)) (e : Nat × Int) (d : Int) (i : Nat) : look (l ++ [e]) d i = if e.1 / 8 = i then e.2 else look l d i := by
  simp [look, List.foldl_append]
theorem look_append (l l' : List (Nat × Int)) (d : Int) (i : Nat) : look (l ++ l') d i = look l' (look l d i) i := by
  simp [look, List.foldl_append]

namespace Dev
def cur (D : Dev) (i : Nat) : Int := look (D.hist (i / 8)) (D.pers i) i
def setErr (D : Dev) (j : Nat) (e : Int) : Dev := { D with err := fun k => if k = j then e else D.err k }
def fail (D : Dev) (j : Nat) (e : Int) : Dev := if D.err j = 0 then D.setErr j e else D
def wordB (D : Dev) (off : Nat) : Bool := decide (off % 8 = 0 ∧ off < 64 * D.n)
def onB (D : Dev) (valid : Bool) : Bool := !D.off && valid
def onD (D : Dev) (j : Nat) (valid : Bool) : Dev := if D.off then D.fail j 3 else if valid then D else D.fail j 2
def cut (D : Dev) : Bool := D.armed && D.left == 0
def countedB (D : Dev) (valid : Bool) : Bool := D.onB valid && !D.cut
def tick (D : Dev) : Dev := { D with left := if D.armed then D.left - 1 else D.left, exec := D.exec + 1 }
def countedD (D : Dev) (j : Nat) (valid : Bool) : Dev :=
  if D.onB valid then (if D.cut then ({ D with off := true } : Dev).fail j 3 else D.tick) else D.onD j valid
def put (D : Dev) (off : Nat) (x : Int) : Dev := { D with hist := fun i => if i = off / 64 then D.hist i ++ [(off, x)] else D.hist i }
def store (D : Dev) (j off : Nat) (x : Int) : Dev := if D.countedB (D.wordB off) then (D.countedD j (D.wordB off)).put off x else D.countedD j (D.wordB off)
def loadV (D : Dev) (off : Nat) : Int := if D.onB (D.wordB off) then D.cur (off / 8) else 0
def loadD (D : Dev) (j off : Nat) : Dev := D.onD j (D.wordB off)
def inB (D : Dev) (off : Nat) : Bool := decide (off < 64 * D.n)
def jot (D : Dev) (j l : Nat) : Dev := { D with note := fun k m => if k = j ∧ m = l then some (D.done l + (D.hist l).length) else D.note k m }
def flush (D : Dev) (j off : Nat) : Dev := if D.countedB (D.inB off) then (D.countedD j (D.inB off)).jot j (off / 64) else D.countedD j (D.inB off)
/-- The first k stores of line l become persistent. -/
def persist (D : Dev) (l k : Nat) : Dev :=
  { D with pers := fun i => if i / 8 = l then look ((D.hist l).take k) (D.pers i) i else D.pers i
           hist := fun i => if i = l then (D.hist i).drop k else D.hist i
           done := fun i => if i = l then D.done i + k else D.done i }
def owed (D : Dev) (j l : Nat) : Nat := match D.note j l with | some p => p - D.done l | none => 0
/-- All lines that thread j has noted become persistent up to the noted place. -/
def sync (D : Dev) (j : Nat) : Dev :=
  { D with pers := fun i => look ((D.hist (i / 8)).take (D.owed j (i / 8))) (D.pers i) i
           hist := fun i => (D.hist i).drop (D.owed j i)
           done := fun i => D.done i + D.owed j i
           note := fun k m => if k = j then none else D.note k m }
def fence (D : Dev) (j : Nat) : Dev := if D.countedB true then (D.countedD j true).sync j else D.countedD j true
end Dev

/-- The bounds that hold of every device. -/
structure Dev.WF (D : Dev) : Prop where
  pos : 0 < D.n
  le : D.n ≤ 4096
  line : ∀ i, i < D.n → ∀ e ∈ D.hist i, e.1 / 64 = i ∧ e.1 % 8 = 0
  cnt : ∀ i, i < D.n → D.done i + (D.hist i).length ≤ D.exec
  note : ∀ j l p, D.note j l = some p → l < D.n ∧ p ≤ D.done l + (D.hist l).length
  left : D.left ≤ 9223372036854775807

inductive Role where
  | dev | pers | cur | lines | thr (j : Nat) | notes (j : Nat) | hist (i : Nat)
  deriving DecidableEq

/-- Where a device lies. -/
structure DV where
  db : Nat
  pb : Nat
  pc : Nat
  cb : Nat
  cc : Nat
  lb : Nat
  tb : Nat → Nat
  nb : Nat → Nat

def devCells (v : DV) (D : Dev) : Array Value :=
  #[.slice (some ⟨v.pb, 0, none⟩) (8 * D.n) v.pc, .slice (some ⟨v.cb, 0, none⟩) (8 * D.n) v.cc, .slice (some ⟨v.lb, 0, none⟩) D.n D.n,
    .pointer (some ⟨v.tb 0, 0, none⟩), .pointer (some ⟨v.tb 1, 0, none⟩), .pointer (some ⟨v.tb 2, 0, none⟩), .pointer (some ⟨v.tb 3, 0, none⟩),
    .pointer (some ⟨v.tb 4, 0, none⟩), .pointer (some ⟨v.tb 5, 0, none⟩), .pointer (some ⟨v.tb 6, 0, none⟩), .pointer (some ⟨v.tb 7, 0, none⟩),
    .bool D.off, .bool D.armed, .int .i64 D.left, .int .u64 D.exec]

theorem devCells_thr (v : DV) (D : Dev) (j : Nat) (h : j < 8) : (devCells v D)[3 + j]? = some (.pointer (some ⟨v.tb j, 0, none⟩)) := by
  obtain rfl | rfl | rfl | rfl | rfl | rfl | rfl | rfl : j = 0 ∨ j = 1 ∨ j = 2 ∨ j = 3 ∨ j = 4 ∨ j = 5 ∨ j = 6 ∨ j = 7 := by omega
  all_goals rfl

def thrCells (v : DV) (D : Dev) (j : Nat) : Array Value := #[.pointer (some ⟨v.db, 0, none⟩), .int .i64 j, .int .i64 (D.err j), .map (some (v.nb j))]

/-- Stores as cells. -/
def flat (h : List (Nat × Int)) : List Value := h.flatMap fun e => [.int .u64 e.1, .int .u64 e.2]
theorem flat_append (a b : List (Nat × Int)) : flat (a ++ b) = flat a ++ flat b := by simp [flat]
theorem flat_length (h : List (Nat × Int)) : (flat h).length = h.length * 2 := by
  induction h with
  | nil => rfl
  | cons e l ih => simp [flat] at *; omega
theorem flat_get (h : List (Nat × Int)) : ∀ (k : Nat) (e : Nat × Int), h[k]? = some e → (flat h)[2 * k]? = some (.int .u64 e.1) ∧ (flat h)[2 * k + 1]? = some (.int .u64 e.2) := by
  induction h with
  | nil => intro k e h; simp at h
  | cons x l ih =>
    intro k e he
    have hf : flat (x :: l) = .int .u64 x.1 :: .int .u64 x.2 :: flat l := rfl
    cases k with
    | zero => simp at he; subst he; simp [hf]
    | succ k =>
      have := ih k e (by simpa using he)
      rw [hf, show 2 * (k + 1) = 2 * k + 1 + 1 from by omega]
      simpa using this
theorem flat_drop (h : List (Nat × Int)) : ∀ k, (flat h).drop (k * 2) = flat (h.drop k) := by
  induction h with
  | nil => intro k; simp [flat]
  | cons x l ih =>
    intro k
    cases k with
    | zero => simp
    | succ k =>
      have hf : flat (x :: l) = .int .u64 x.1 :: .int .u64 x.2 :: flat l := rfl
      rw [hf, show (k + 1) * 2 = k * 2 + 1 + 1 from by omega]
      simpa using ih k
theorem flat_one (h : List (Nat × Int)) : ∀ u ∈ flat h, u.oneCell' = true := by
  intro u hu
  simp [flat] at hu
  obtain ⟨a, b, _, rfl | rfl⟩ := hu <;> rfl

/-- The stores h of a line lie in memory as the slice value v; its block is the line's own. -/
def HistAt (w : World) (own : Nat → Option Role) (wt : TypeId) (i : Nat) (v : Value) (h : List (Nat × Int)) : Prop :=
  OwnSl w wt 2 v h.length (flat h) ∧ ∀ g, v.ownBlock = some g → own g = some (.hist i)

theorem HistAt.mono {w w' : World} {own own' : Nat → Option Role} {wt : TypeId} {i : Nat} {v : Value} {h : List (Nat × Int)} (H : HistAt w own wt i v h)
    (ho : ∀ g, own g = some (.hist i) → g < w.heap.size → own' g = some (.hist i)) (hb : ∀ g, own g = some (.hist i) → g < w.heap.size → w'.heap[g]? = w.heap[g]?) : HistAt w' own' wt i v h :=
  ⟨H.1.kept (fun k hk => hb k (H.2 k hk) (H.1.lt k hk)), fun g hg => ho g (H.2 g hg) (H.1.lt g hg)⟩

/-- What thread j has noted, as a map of the program. -/
def NotesAt (P : Program) (kt et : TypeId) (w : World) (b : Nat) (B : Nat) (f : Nat → Option Nat) : Prop :=
  ∃ (m : Nat) (N : DataW Unit), m ≤ B ∧ w.ownsMap P kt (plainElem P et) b m N ∧ (∀ l p, f l = some p → p < 18446744073709551616) ∧
    (∀ x : Int, Maps.has N (.int .i64 x) = true → ∃ l p : Nat, x = l ∧ f l = some p) ∧
    ∀ l p, f l = some p → Maps.has N (.int .i64 l) = true ∧ ∀ z, N.atKey (.int .i64 l) z = .lit (.int .u64 p)

end Go.Proofs.YtkoijmoendepgaaGreat

/- The device in memory, and the walks of its small functions. -/
namespace Go.Proofs.YtkoijmoendepgaaGreat
open Go.RowKit Go.Maps

theorem law3 : Keyed Tryz.prog 3 := int_keyed Tryz.underlying3

structure IsDev (w : World) (v : DV) (own : Nat → Option Role) (D : Dev) : Prop where
  wf : D.WF
  dev : Blk w v.db (devCells v D) 153
  pers : Row w v.pb (8 * D.n) 28 (fun i => .int .u64 (D.pers i))
  cur : Row w v.cb (8 * D.n) 28 (fun i => .int .u64 (D.cur i))
  lines : ∃ hv : Nat → Value, Row w v.lb (2 * D.n) 171 (fun j => if j % 2 = 0 then .int .u64 (D.done (j / 2)) else hv (j / 2)) ∧ ∀ i, i < D.n → HistAt w own 141 i (hv i) (D.hist i)
  thr : ∀ j, j < 8 → Blk w (v.tb j) (thrCells v D j) 167
  notes : ∀ j, j < 8 → NotesAt Tryz.prog 3 28 w (v.nb j) D.exec (D.note j)
  odb : own v.db = some .dev
  opb : own v.pb = some .pers
  ocb : own v.cb = some .cur
  olb : own v.lb = some .lines
  otb : ∀ j, j < 8 → own (v.tb j) = some (.thr j)
  onb : ∀ j, j < 8 → own (v.nb j) = some (.notes j)
  lt : ∀ k, own k ≠ none → k < w.heap.size
  pcs : 8 * D.n ≤ v.pc ∧ 8 * D.n ≤ v.cc

/-- The device is now D'; nothing but its own blocks has changed. -/
def DPost (v : DV) (own : Nat → Option Role) (w : World) (D' : Dev) (w' : World) : Prop :=
  ∃ own', IsDev w' v own' D' ∧ (∀ k, k < w.heap.size → own' k = own k) ∧ Upd (fun k => own k ≠ none) w w'

theorem DPost.refl {v : DV} {own : Nat → Option Role} {w : World} {D : Dev} (h : IsDev w v own D) : DPost v own w D w := ⟨own, h, fun _ _ => rfl, Upd.refl _ _⟩
theorem DPost.trans {v : DV} {own own1 : Nat → Option Role} {w w1 w2 : World} {D2 : Dev} (hs : w.heap.size ≤ w1.heap.size) (ho : ∀ k, k < w.heap.size → own1 k = own k) (hu : Upd (fun k => own k ≠ none) w w1)
    (h : DPost v own1 w1 D2 w2) : DPost v own w D2 w2 := by
  obtain ⟨own2, h1, h2, h3⟩ := h
  exact ⟨own2, h1, fun k hk => (h2 k (Nat.lt_of_lt_of_le hk hs)).trans (ho k hk), hu.trans h3 (fun i hi hS => by rw [← ho i hi]; exact hS)⟩

theorem own_ne {own : Nat → Option Role} {a b : Nat} {x y : Role} (ha : own a = some x) (hb : own b = some y) (h : x ≠ y) : a ≠ b := by
  rintro rfl; rw [ha] at hb; exact h (Option.some.inj hb)

section
variable {w : World} {v : DV} {own : Nat → Option Role} {D : Dev}

theorem NotesAt.kept {P : Program} {kt et : TypeId} {w w' : World} {b B B' : Nat} {f : Nat → Option Nat} (h : NotesAt P kt et w b B f) (hB : B ≤ B') (hb : w'.heap[b]? = w.heap[b]?) : NotesAt P kt et w' b B' f := by
  obtain ⟨m, N, h1, h2, h3⟩ := h
  refine ⟨m, N, Nat.le_trans h1 hB, ?_, h3⟩
  unfold World.ownsMap at *
  rw [hb]; exact h2

/-- The device where nothing of it has changed. -/
theorem IsDev.kept {w' : World} (h : IsDev w v own D) (hs : w.heap.size ≤ w'.heap.size) (hb : ∀ k, own k ≠ none → w'.heap[k]? = w.heap[k]?) : IsDev w' v own D := by
  have hB : ∀ k c t, own k ≠ none → Blk w k c t → Blk w' k c t := fun k c t hk hc => (hb k hk).trans hc
  have hR : ∀ k n t f, own k ≠ none → Row w k n t f → Row w' k n t f := fun k n t f hk ⟨c, h1, h2⟩ => ⟨c, hB k c t hk h1, h2⟩
  obtain ⟨hv, l1, l2⟩ := h.lines
  exact {
    wf := h.wf
    dev := hB _ _ _ (by simp [h.odb]) h.dev
    pers := hR _ _ _ _ (by simp [h.opb]) h.pers
    cur := hR _ _ _ _ (by simp [h.ocb]) h.cur
    lines := ⟨hv, hR _ _ _ _ (by simp [h.olb]) l1, fun i hi => (l2 i hi).mono (fun _ hg _ => hg) (fun g hg _ => hb g (by simp [hg]))⟩
    thr := fun j hj => hB _ _ _ (by simp [h.otb j hj]) (h.thr j hj)
    notes := fun j hj => (h.notes j hj).kept (Nat.le_refl _) (hb _ (by simp [h.onb j hj]))
    odb := h.odb, opb := h.opb, ocb := h.ocb, olb := h.olb, otb := h.otb, onb := h.onb
    lt := fun k hk => Nat.lt_of_lt_of_le (h.lt k hk) hs
    pcs := h.pcs }

theorem IsDev.upd {w' : World} {S : Nat → Prop} (h : IsDev w v own D) (hu : Upd S w w') (hS : ∀ k, own k ≠ none → ¬ S k) : IsDev w' v own D :=
  h.kept hu.size (fun k hk => hu.block k (h.lt k hk) (hS k hk))
theorem IsDev.alloc (h : IsDev w v own D) (o : Obj) : IsDev (w.alloc o) v own D := h.kept (by simp) (fun k hk => Below.heap_alloc _ _ _ (h.lt k hk))
theorem IsDev.drew (h : IsDev w v own D) : IsDev w.drew v own D := h.kept (Nat.le_refl _) (fun _ _ => rfl)

/-- A cell of the device's own struct is written. -/
theorem IsDev.setDev (h : IsDev w v own D) (i : Nat) (u : Value) (D' : Dev) (hw : D'.WF) (hc : (devCells v D).setIfInBounds i u = devCells v D')
    (hn : D'.n = D.n) (hp : D'.pers = D.pers) (hh : D'.hist = D.hist) (hd : D'.done = D.done) (he : D'.err = D.err) (hno : D'.note = D.note) (hx : D.exec ≤ D'.exec) :
    IsDev (w.setCell ⟨v.db, i, none⟩ u) v own D' := by
  have ne : ∀ k, own k ≠ some .dev → k ≠ v.db := fun k hk e => hk (by rw [e]; exact h.odb)
  obtain ⟨hv, l1, l2⟩ := h.lines
  exact {
    wf := hw
    dev := by rw [← hc]; exact h.dev.set i u
    pers := by rw [hn, hp]; exact h.pers.other (ne _ (by simp [h.opb])) u
    cur := by
      have : D'.cur = D.cur := by funext i; simp [Dev.cur, hh, hp]
      rw [hn, this]; exact h.cur.other (ne _ (by simp [h.ocb])) u
    lines := ⟨hv, by rw [hn, hd]; exact l1.other (ne _ (by simp [h.olb])) u, fun i hi => by
      rw [hh]; exact (l2 i (hn ▸ hi)).mono (fun _ hg _ => hg) (fun g hg _ => Below.heap_setCell _ _ _ _ (ne g (by simp [hg])))⟩
    thr := fun j hj => by
      have : thrCells v D' j = thrCells v D j := by simp [thrCells, he]
      rw [this]; exact (h.thr j hj).other (ne _ (by simp [h.otb j hj])) u
    notes := fun j hj => by rw [hno]; exact (h.notes j hj).kept hx (Below.heap_setCell _ _ _ _ (ne _ (by simp [h.onb j hj])))
    odb := h.odb, opb := h.opb, ocb := h.ocb, olb := h.olb, otb := h.otb, onb := h.onb
    lt := fun k hk => by simpa [World.setCell] using h.lt k hk
    pcs := by rw [hn]; exact h.pcs }

/-- A thread's error is written. -/
theorem IsDev.setErr (h : IsDev w v own D) {j : Nat} (hj : j < 8) (e : Int) : IsDev (w.setCell ⟨v.tb j, 2, none⟩ (.int .i64 e)) v own (D.setErr j e) := by
  have ne : ∀ k, own k ≠ some (.thr j) → k ≠ v.tb j := fun k hk e => hk (by rw [e]; exact h.otb j hj)
  obtain ⟨hv, l1, l2⟩ := h.lines
  exact {
    wf := ⟨h.wf.pos, h.wf.le, h.wf.line, h.wf.cnt, h.wf.note, h.wf.left⟩
    dev := h.dev.other (ne _ (by simp [h.odb])) _
    pers := h.pers.other (ne _ (by simp [h.opb])) _
    cur := h.cur.other (ne _ (by simp [h.ocb])) _
    lines := ⟨hv, l1.other (ne _ (by simp [h.olb])) _, fun i hi => (l2 i hi).mono (fun _ hg _ => hg) (fun g hg _ => Below.heap_setCell _ _ _ _ (ne g (by simp [hg])))⟩
    thr := fun k hk => by
      by_cases ek : k = j
      · subst ek
        have := (h.thr k hk).set 2 (.int .i64 e)
        simpa [thrCells, Dev.setErr] using this
      · have : thrCells v (D.setErr j e) k = thrCells v D k := by simp [thrCells, Dev.setErr, ek]
        rw [this]; exact (h.thr k hk).other (ne _ (by simp [h.otb k hk, ek])) _
    notes := fun k hk => (h.notes k hk).kept (Nat.le_refl _) (Below.heap_setCell _ _ _ _ (ne _ (by simp [h.onb k hk])))
    odb := h.odb, opb := h.opb, ocb := h.ocb, olb := h.olb, otb := h.otb, onb := h.onb
    lt := fun k hk => by simpa [World.setCell] using h.lt k hk
    pcs := h.pcs }

set_option maxHeartbeats 400000 in
theorem fail_any (h : IsDev w v own D) {j : Nat} (hj : j < 8) (e : Int) :
    Calls Tryz.prog 119 #[.pointer (some ⟨v.tb j, 0, none⟩), .int .i64 e] w fun r w' => r = .returned (.tuple #[]) ∧ DPost v own w (D.fail j e) w' := by
  have c2 : w.cell? ⟨v.tb j, 2, none⟩ = some (.int .i64 (D.err j)) := (h.thr j hj).cell rfl
  have f2 := (h.thr j hj).frozen 2
  have H := Lib.hid h; clear h
  by_cases he : D.err j = 0
  · have hb : (D.err j == 0) = true := by simp [he]
    have He := Lib.hid he; clear he
    go_enter Tryz.func119, Tryz.ntmps119
    go_wp2
    go_end0
    refine ⟨rfl, own, ?_, fun _ _ => rfl, (Upd.refl _ _).setCell (fun _ => by simp [H.out.otb j hj]) _⟩
    simp only [Dev.fail, He.out, if_true]
    exact H.out.setErr hj e
  · have hb : (D.err j == 0) = false := by simp [he]
    have He := Lib.hid he; clear he
    go_enter Tryz.func119, Tryz.ntmps119
    go_wp2
    go_end0
    refine ⟨rfl, ?_⟩
    simp only [Dev.fail, He.out, if_false]
    exact DPost.refl H.out

set_option maxHeartbeats 400000 in
theorem lines_any (h : IsDev w v own D) : Calls Tryz.prog 120 #[.pointer (some ⟨v.db, 0, none⟩)] w fun r w' => r = .returned (.int .i64 D.n) ∧ w = w' := by
  have c2 : w.cell? ⟨v.db, 2, none⟩ = some (.slice (some ⟨v.lb, 0, none⟩) D.n D.n) := h.dev.cell rfl
  clear h
  go_enter Tryz.func120, Tryz.ntmps120
  go_wp2
  go_ret
  exact ⟨rfl, rfl⟩

set_option maxHeartbeats 400000 in
theorem size_any (h : IsDev w v own D) : Calls Tryz.prog 98 #[.pointer (some ⟨v.db, 0, none⟩)] w fun r w' => r = .returned (.int .u64 (D.n * 64)) ∧ w = w' := by
  have hn := h.wf.le
  have H := Lib.hid h; clear h
  go_enter Tryz.func98, Tryz.ntmps98
  go_wp2_with (go_at_call 120; refine (lines_any H.out).mono ?_; rintro e w' ⟨rfl, rfl⟩)
  go_ret
  exact ⟨rfl, rfl⟩

theorem ret_bool {a b : Bool} (h : a = b) : Ending.returned (.bool a) = .returned (.bool b) := by rw [h]
theorem ret_int {k : IntKind} {a b : Int} (h : a = b) : Ending.returned (.int k a) = .returned (.int k b) := by rw [h]

set_option maxHeartbeats 400000 in
theorem word_any (h : IsDev w v own D) {j : Nat} (hj : j < 8) (off : Nat) :
    Calls Tryz.prog 96 #[.pointer (some ⟨v.tb j, 0, none⟩), .int .u64 off] w fun r w' => r = .returned (.bool (D.wordB off)) ∧ w = w' := by
  have c0 : w.cell? ⟨v.tb j, 0, none⟩ = some (.pointer (some ⟨v.db, 0, none⟩)) := (h.thr j hj).cell rfl
  have hn := h.wf.le
  have H := Lib.hid h; clear h
  by_cases h8 : off % 8 = 0
  · have hb : (((off : Int) % 8) == 0) = true := by simp; omega
    go_enter Tryz.func96, Tryz.ntmps96
    go_wp2_with (go_at_call 98; refine (size_any H.out).mono ?_; rintro e w' ⟨rfl, rfl⟩)
    go_ret
    exact ⟨ret_bool (by simp only [Dev.wordB, decide_eq_decide]; omega), rfl⟩
  · have hb : (((off : Int) % 8) == 0) = false := by simp; omega
    go_enter Tryz.func96, Tryz.ntmps96
    go_wp2_with (go_at_call 98; refine (size_any H.out).mono ?_; rintro e w' ⟨rfl, rfl⟩)
    go_ret
    exact ⟨ret_bool (by simp [Dev.wordB, h8]), rfl⟩

set_option maxHeartbeats 400000 in
theorem on_yes (h : IsDev w v own D) {j : Nat} (hj : j < 8) (ho : D.off = false) :
    Calls Tryz.prog 108 #[.pointer (some ⟨v.tb j, 0, none⟩), .bool true] w fun r w' => r = .returned (.bool true) ∧ w = w' := by
  have c0 : w.cell? ⟨v.tb j, 0, none⟩ = some (.pointer (some ⟨v.db, 0, none⟩)) := (h.thr j hj).cell rfl
  have c1 : w.cell? ⟨v.db, 11, none⟩ = some (.bool D.off) := h.dev.cell rfl
  rw [ho] at c1; clear ho h
  go_enter Tryz.func108, Tryz.ntmps108
  go_wp2_with fail
  go_ret
  exact ⟨rfl, rfl⟩

set_option maxHeartbeats 400000 in
theorem on_no (h : IsDev w v own D) {j : Nat} (hj : j < 8) (b : Bool) (hb : D.onB b = false) :
    Calls Tryz.prog 108 #[.pointer (some ⟨v.tb j, 0, none⟩), .bool b] w fun r w' => r = .returned (.bool false) ∧ DPost v own w (D.onD j b) w' := by
  have c0 : w.cell? ⟨v.tb j, 0, none⟩ = some (.pointer (some ⟨v.db, 0, none⟩)) := (h.thr j hj).cell rfl
  have c1 : w.cell? ⟨v.db, 11, none⟩ = some (.bool D.off) := h.dev.cell rfl
  have H := Lib.hid h; clear h
  have Hb := Lib.hid hb; clear hb
  have ho : D.off = true ∨ D.off = false := by cases D.off <;> simp
  rcases ho with ho | ho
  · have Ho := Lib.hid ho
    rw [ho] at c1; clear ho
    go_enter Tryz.func108, Tryz.ntmps108
    go_wp2_with (go_at_call 119; refine (fail_any H.out hj _).mono ?_; rintro e w' ⟨rfl, hp⟩; have Hp := Lib.hid hp; clear hp)
    go_ret
    refine ⟨rfl, ?_⟩
    simp only [Dev.onD, Ho.out, if_true]
    exact Hp.out
  · have Ho := Lib.hid ho
    rw [ho] at c1
    have hbf : b = false := by have := Hb.out; simpa [Dev.onB, ho] using this
    clear ho; subst hbf
    go_enter Tryz.func108, Tryz.ntmps108
    go_wp2_with (go_at_call 119; refine (fail_any H.out hj _).mono ?_; rintro e w' ⟨rfl, hp⟩; have Hp := Lib.hid hp; clear hp)
    go_ret
    refine ⟨rfl, ?_⟩
    simp only [Dev.onD, Ho.out, if_false, Bool.false_eq_true]
    exact Hp.out

theorem Dev.WF.off (h : D.WF) (b : Bool) : ({ D with off := b } : Dev).WF := ⟨h.pos, h.le, h.line, h.cnt, h.note, h.left⟩
theorem Dev.WF.tick (h : D.WF) : D.tick.WF := ⟨h.pos, h.le, h.line, fun i hi => Nat.le_succ_of_le (h.cnt i hi), h.note, by
  have := h.left; simp only [Dev.tick]; split <;> omega⟩

/-- The counters of an executed instruction. -/
theorem IsDev.tickArmed (h : IsDev w v own D) (ha : D.armed = true) (hl : 0 < D.left) : IsDev ((w.setCell ⟨v.db, 13, none⟩ (.int .i64 ((D.left : Int) - 1))).setCell ⟨v.db, 14, none⟩ (.int .u64 ((D.exec : Int) + 1))) v own D.tick := by
  have h1 := h.setDev 13 (.int .i64 ((D.left : Int) - 1)) { D with left := D.left - 1 } ⟨h.wf.pos, h.wf.le, h.wf.line, h.wf.cnt, h.wf.note, by have := h.wf.left; show D.left - 1 ≤ _; omega⟩
    (by have : ((D.left - 1 : Nat) : Int) = (D.left : Int) - 1 := by omega
        simp [devCells, this]) rfl rfl rfl rfl rfl rfl (Nat.le_refl _)
  have h2 := h1.setDev 14 (.int .u64 ((D.exec : Int) + 1)) D.tick h.wf.tick (by simp [devCells, Dev.tick, ha]) rfl rfl rfl rfl rfl rfl (Nat.le_succ _)
  exact h2
theorem IsDev.tickPlain (h : IsDev w v own D) (ha : D.armed = false) : IsDev (w.setCell ⟨v.db, 14, none⟩ (.int .u64 ((D.exec : Int) + 1))) v own D.tick :=
  h.setDev 14 (.int .u64 ((D.exec : Int) + 1)) D.tick h.wf.tick (by simp [devCells, Dev.tick, ha]) rfl rfl rfl rfl rfl rfl (Nat.le_succ _)
theorem IsDev.turnOff (h : IsDev w v own D) : IsDev (w.setCell ⟨v.db, 11, none⟩ (.bool true)) v own { D with off := true } :=
  h.setDev 11 (.bool true) { D with off := true } (h.wf.off true) (by simp [devCells]) rfl rfl rfl rfl rfl rfl (Nat.le_refl _)

set_option maxHeartbeats 400000 in
theorem counted_yes (h : IsDev w v own D) {j : Nat} (hj : j < 8) (hx : D.exec < 4611686018427387904) (hb : D.countedB true = true) :
    Calls Tryz.prog 95 #[.pointer (some ⟨v.tb j, 0, none⟩), .bool true] w fun r w' => r = .returned (.bool true) ∧ IsDev w' v own D.tick ∧ (∀ k, k ≠ v.db → w'.heap[k]? = w.heap[k]?) ∧ Upd (fun k => own k ≠ none) w w' := by
  have c0 : w.cell? ⟨v.tb j, 0, none⟩ = some (.pointer (some ⟨v.db, 0, none⟩)) := (h.thr j hj).cell rfl
  have c12 : w.cell? ⟨v.db, 12, none⟩ = some (.bool D.armed) := h.dev.cell rfl
  have c13 : w.cell? ⟨v.db, 13, none⟩ = some (.int .i64 D.left) := h.dev.cell rfl
  have c14 : w.cell? ⟨v.db, 14, none⟩ = some (.int .u64 D.exec) := h.dev.cell rfl
  have f13 := h.dev.frozen 13
  have f14 := h.dev.frozen 14
  have hl := h.wf.left
  simp only [Dev.countedB, Dev.onB, Bool.and_true, Bool.and_eq_true, Bool.not_eq_true', Dev.cut] at hb
  obtain ⟨hoff, hcut⟩ := hb
  have H := Lib.hid h; have Hoff := Lib.hid hoff; clear h hoff
  have hu : ∀ (w' : World) p u, p.block = v.db → Upd (fun k => own k ≠ none) w w' → Upd (fun k => own k ≠ none) w (w'.setCell p u) := fun w' p u hp hw => hw.setCell (fun _ => by rw [hp]; simp [H.out.odb]) u
  have ha : D.armed = true ∨ D.armed = false := by cases D.armed <;> simp
  rcases ha with ha | ha
  · have hl0 : 0 < D.left := by rw [ha] at hcut; simp at hcut; omega
    have hlb : ((D.left : Int) == 0) = false := by simp; omega
    have Ha := Lib.hid ha
    rw [ha] at c12; clear ha hcut
    have Hu := Lib.hid hu; clear hu
    go_enter Tryz.func95, Tryz.ntmps95
    go_wp2_with (go_at_call 108; refine (on_yes H.out hj Hoff.out).mono ?_; rintro e w' ⟨rfl, rfl⟩)
    go_ret
    exact ⟨rfl, H.out.tickArmed Ha.out hl0, fun k hk => (Below.heap_setCell _ _ _ _ hk).trans (Below.heap_setCell _ _ _ _ hk), Hu.out _ _ _ rfl (Hu.out _ _ _ rfl (Upd.refl _ _))⟩
  · have Ha := Lib.hid ha
    rw [ha] at c12; clear ha hcut
    have Hu := Lib.hid hu; clear hu
    go_enter Tryz.func95, Tryz.ntmps95
    go_wp2_with (go_at_call 108; refine (on_yes H.out hj Hoff.out).mono ?_; rintro e w' ⟨rfl, rfl⟩)
    go_ret
    exact ⟨rfl, H.out.tickPlain Ha.out, fun k hk => Below.heap_setCell _ _ _ _ hk, Hu.out _ _ _ rfl (Upd.refl _ _)⟩

set_option maxHeartbeats 400000 in
theorem counted_no (h : IsDev w v own D) {j : Nat} (hj : j < 8) (b : Bool) (hb : D.countedB b = false) :
    Calls Tryz.prog 95 #[.pointer (some ⟨v.tb j, 0, none⟩), .bool b] w fun r w' => r = .returned (.bool false) ∧ DPost v own w (D.countedD j b) w' := by
  have c0 : w.cell? ⟨v.tb j, 0, none⟩ = some (.pointer (some ⟨v.db, 0, none⟩)) := (h.thr j hj).cell rfl
  have c12 : w.cell? ⟨v.db, 12, none⟩ = some (.bool D.armed) := h.dev.cell rfl
  have c13 : w.cell? ⟨v.db, 13, none⟩ = some (.int .i64 D.left) := h.dev.cell rfl
  have c11 : w.cell? ⟨v.db, 11, none⟩ = some (.bool D.off) := h.dev.cell rfl
  have f11 := h.dev.frozen 11
  have H := Lib.hid h; have Hb := Lib.hid hb; clear h hb
  by_cases hon : D.onB b = true
  · have hbt : b = true ∧ D.off = false := by simpa [Dev.onB, and_comm] using hon
    obtain ⟨rfl, hoff⟩ := hbt
    have hcut : D.armed = true ∧ D.left = 0 := by have := Hb.out; simpa [Dev.countedB, hon, Dev.cut] using this
    have Hc : Hid (D.cut = true) := by show D.cut = true; simp [Dev.cut, hcut.1, hcut.2]
    have Hon := Lib.hid hon; have Hoff := Lib.hid hoff
    rw [hcut.1] at c12
    rw [hcut.2] at c13
    clear hcut hon hoff
    go_enter Tryz.func95, Tryz.ntmps95
    go_wp2_with (first | (go_at_call 108; refine (on_yes H.out hj Hoff.out).mono ?_; rintro e w' ⟨rfl, rfl⟩) | (go_at_call 119; refine (fail_any H.out.turnOff hj _).mono ?_; rintro e w' ⟨rfl, hp⟩; have Hp := Lib.hid hp; clear hp))
    go_ret
    refine ⟨rfl, ?_⟩
    simp only [Dev.countedD, Hon.out, Hc.out, if_true]
    exact DPost.trans (by simp [World.setCell]) (fun _ _ => rfl) ((Upd.refl _ _).setCell (fun _ => by simp [H.out.odb]) _) Hp.out
  · have Hon := Lib.hid hon
    have Hf : Hid (D.onB b = false) := by show D.onB b = false; simpa using hon
    clear hon
    go_enter Tryz.func95, Tryz.ntmps95
    go_wp2_with (go_at_call 108; refine (on_no H.out hj _ Hf.out).mono ?_; rintro e w' ⟨rfl, hp⟩; have Hp := Lib.hid hp; clear hp)
    go_ret
    refine ⟨rfl, ?_⟩
    simp only [Dev.countedD, Hf.out, if_false, Bool.false_eq_true]
    exact Hp.out
end
end Go.Proofs.YtkoijmoendepgaaGreat

/- The walks of the device's instructions: Err, Size, Thread, Load, Arm, Store. -/
namespace Go.Proofs.YtkoijmoendepgaaGreat
open Go.RowKit Go.Maps

section
variable {w : World} {v : DV} {own : Nat → Option Role} {D : Dev}

set_option maxHeartbeats 400000 in
theorem err_any (h : IsDev w v own D) {j : Nat} (hj : j < 8) :
    Calls Tryz.prog 163 #[.pointer (some ⟨v.tb j, 0, none⟩)] w fun r w' => r = .returned (.int .i64 (D.err j)) ∧ w = w' := by
  have c0 : w.cell? ⟨v.tb j, 0, none⟩ = some (.pointer (some ⟨v.db, 0, none⟩)) := (h.thr j hj).cell rfl
  have c2 : w.cell? ⟨v.tb j, 2, none⟩ = some (.int .i64 (D.err j)) := (h.thr j hj).cell rfl
  clear h
  go_enter Tryz.func163, Tryz.ntmps163
  go_wp2
  go_ret
  exact ⟨rfl, rfl⟩

set_option maxHeartbeats 400000 in
theorem thrSize_any (h : IsDev w v own D) {j : Nat} (hj : j < 8) :
    Calls Tryz.prog 164 #[.pointer (some ⟨v.tb j, 0, none⟩)] w fun r w' => r = .returned (.int .u64 (D.n * 64)) ∧ w = w' := by
  have c0 : w.cell? ⟨v.tb j, 0, none⟩ = some (.pointer (some ⟨v.db, 0, none⟩)) := (h.thr j hj).cell rfl
  have H := Lib.hid h; clear h
  go_enter Tryz.func164, Tryz.ntmps164
  go_wp2_with (go_at_call 98; refine (size_any H.out).mono ?_; rintro e w' ⟨rfl, rfl⟩)
  go_ret
  exact ⟨rfl, rfl⟩

set_option maxHeartbeats 400000 in
theorem thread_any (h : IsDev w v own D) {j : Nat} (hj : j < 8) :
    Calls Tryz.prog 34 #[.pointer (some ⟨v.db, 0, none⟩), .int .i64 j] w fun r w' => r = .returned (.pointer (some ⟨v.tb j, 0, none⟩)) ∧ w = w' := by
  have c0 : w.cell? ⟨v.db, 3 + j, none⟩ = some (.pointer (some ⟨v.tb j, 0, none⟩)) := h.dev.cell (devCells_thr v D j hj)
  have h1 : ¬ (j : Int) < 0 := by omega
  have h2 : ¬ (8 : Int) ≤ j := by omega
  clear h
  go_enter Tryz.func34, Tryz.ntmps34
  go_wp2
  go_ret
  exact ⟨rfl, rfl⟩

theorem cur_at (h : IsDev w v own D) {k : Nat} (hk : k < 8 * D.n) : w.cell? ⟨v.cb, k, none⟩ = some (.int .u64 (D.cur k)) := h.cur.cell hk

set_option maxHeartbeats 400000 in
theorem load_any (h : IsDev w v own D) {j : Nat} (hj : j < 8) (off : Nat) :
    Calls Tryz.prog 82 #[.pointer (some ⟨v.tb j, 0, none⟩), .int .u64 off] w fun r w' => r = .returned (.int .u64 (D.loadV off)) ∧ DPost v own w (D.loadD j off) w' := by
  have c0 : w.cell? ⟨v.tb j, 0, none⟩ = some (.pointer (some ⟨v.db, 0, none⟩)) := (h.thr j hj).cell rfl
  have c1 : w.cell? ⟨v.db, 1, none⟩ = some (.slice (some ⟨v.cb, 0, none⟩) (8 * D.n) v.cc) := h.dev.cell rfl
  have hn := h.wf.le
  by_cases hon : D.onB (D.wordB off) = true
  · have h2 : D.off = false ∧ D.wordB off = true := by simpa [Dev.onB] using hon
    have h3 : off % 8 = 0 ∧ off < 64 * D.n := by simpa [Dev.wordB] using h2.2
    have ck : w.cell? ⟨v.cb, off / 8, none⟩ = some (.int .u64 (D.cur (off / 8))) := cur_at h (by omega)
    have hw : ((off : Int) / 8) < (8 * D.n : Nat) := by omega
    have H := Lib.hid h; have Hon := Lib.hid hon; have H2 := Lib.hid h2; clear h hon h2
    go_enter Tryz.func82, Tryz.ntmps82
    go_wp2_with (first | (go_at_call 96; refine (word_any H.out hj off).mono ?_; rintro e w' ⟨rfl, rfl⟩; rw [H2.out.2]) | (go_at_call 108; refine (on_yes H.out hj H2.out.1).mono ?_; rintro e w' ⟨rfl, rfl⟩))
    go_ret
    refine ⟨?_, ?_⟩
    · simp only [Dev.loadV, Hon.out, if_true]; rfl
    · simp only [Dev.loadD, Dev.onD, H2.out.1, H2.out.2, if_true, if_false, Bool.false_eq_true]; exact DPost.refl H.out
  · have hf : D.onB (D.wordB off) = false := by simpa using hon
    have H := Lib.hid h; have Hf := Lib.hid hf; clear h hon hf
    go_enter Tryz.func82, Tryz.ntmps82
    go_wp2_with (first | (go_at_call 96; refine (word_any H.out hj off).mono ?_; rintro e w' ⟨rfl, rfl⟩) | (go_at_call 108; refine (on_no H.out hj _ Hf.out).mono ?_; rintro e w' ⟨rfl, hp⟩; have Hp := Lib.hid hp; clear hp))
    go_ret
    refine ⟨?_, ?_⟩
    · simp only [Dev.loadV, Hf.out, if_false, Bool.false_eq_true]; rfl
    · exact Hp.out
end
end Go.Proofs.YtkoijmoendepgaaGreat

/- The walk of a store. -/
namespace Go.Proofs.YtkoijmoendepgaaGreat
open Go.RowKit Go.Maps

theorem infoWrite : (Tryz.prog.info? 141).map (fun i => (i.zero, i.size, i.bytes)) = some (some (.agg #[.int .u64 0, .int .u64 0]), 2, 16) := by kernel_rfl

section
variable {w : World} {v : DV} {own : Nat → Option Role} {D : Dev}

theorem line_at (h : IsDev w v own D) : ∃ hv : Nat → Value, (∀ l, l < D.n → w.cell? ⟨v.lb, l * 2, none⟩ = some (.int .u64 (D.done l)) ∧ w.cell? ⟨v.lb, l * 2 + 1, none⟩ = some (hv l)) ∧
    ∀ i, i < D.n → HistAt w own 141 i (hv i) (D.hist i) := by
  obtain ⟨hv, l1, l2⟩ := h.lines
  refine ⟨hv, fun l hl => ⟨?_, ?_⟩, l2⟩
  · rw [l1.cell (i := l * 2) (by omega)]; simp
  · rw [l1.cell (i := l * 2 + 1) (by omega)]; rw [if_neg (by omega), show (l * 2 + 1) / 2 = l from by omega]

theorem Dev.put_cur (D : Dev) (off : Nat) (x : Int) (i : Nat) : (D.put off x).cur i = if i = off / 8 then x else D.cur i := by
  simp only [Dev.cur, Dev.put]
  by_cases h : i / 8 = off / 64
  · rw [if_pos h, look_snoc]
    by_cases e : off / 8 = i
    · simp [e]
    · rw [if_neg (by simpa using e), if_neg (fun h => e h.symm)]
  · rw [if_neg h, if_neg (by omega)]

theorem IsDev.put_post (h : IsDev w v own D) (off : Nat) (x : Int) (_hoff : off < 64 * D.n) (h8 : off % 8 = 0) (hc : ∀ i, i < D.n → D.done i + (D.hist i).length < D.exec)
    {w1 : World} {v' : Value} (ne1 : ∀ k r, own k = some r → r ≠ .hist (off / 64) → w1.heap[k]? = w.heap[k]?) (hU : Upd (fun k => own k ≠ none) w w1)
    (ho1 : OwnSl w1 141 2 v' ((D.hist (off / 64)).length + 1) (flat (D.hist (off / 64)) ++ [.int .u64 off, .int .u64 x]))
    (hb1 : ∀ g, v'.ownBlock = some g → own g = some (.hist (off / 64)) ∨ w.heap.size ≤ g) :
    DPost v own w (D.put off x) ((w1.setCell ⟨v.lb, off / 64 * 2 + 1, none⟩ v').setCell ⟨v.cb, off / 8, none⟩ (.int .u64 x)) := by
  obtain ⟨hv, l1, l2⟩ := h.lines
  have hs : w.heap.size ≤ w1.heap.size := hU.size
  have wne : ∀ k, k ≠ v.lb → k ≠ v.cb → ((w1.setCell ⟨v.lb, off / 64 * 2 + 1, none⟩ v').setCell ⟨v.cb, off / 8, none⟩ (.int .u64 x)).heap[k]? = w1.heap[k]? := fun k k1 k2 =>
    (Below.heap_setCell _ _ _ _ k2).trans (Below.heap_setCell _ _ _ _ k1)
  have wn : ∀ k r, own k = some r → r ≠ .hist (off / 64) → r ≠ .lines → r ≠ .cur → ((w1.setCell ⟨v.lb, off / 64 * 2 + 1, none⟩ v').setCell ⟨v.cb, off / 8, none⟩ (.int .u64 x)).heap[k]? = w.heap[k]? := fun k r hk r1 r2 r3 =>
    (wne k (own_ne hk h.olb r2) (own_ne hk h.ocb r3)).trans (ne1 k r hk r1)
  have bne : ∀ g, v'.ownBlock = some g → g ≠ v.lb ∧ g ≠ v.cb := fun g hg => by
    rcases hb1 g hg with hg | hg
    · exact ⟨own_ne hg h.olb (by simp), own_ne hg h.ocb (by simp)⟩
    · exact ⟨fun e => by have := h.lt v.lb (by simp [h.olb]); omega, fun e => by have := h.lt v.cb (by simp [h.ocb]); omega⟩
  have lc : v.lb ≠ v.cb := own_ne h.olb h.ocb (by simp)
  refine ⟨fun k => if v'.ownBlock = some k ∧ w.heap.size ≤ k then some (.hist (off / 64)) else own k, ?_, fun k hk => if_neg (by omega),
    (hU.setCell (p := ⟨v.lb, off / 64 * 2 + 1, none⟩) (fun _ => by simp [h.olb]) v').setCell (p := ⟨v.cb, off / 8, none⟩) (fun _ => by simp [h.ocb]) _⟩
  have old : ∀ k r, own k = some r → (if v'.ownBlock = some k ∧ w.heap.size ≤ k then some (.hist (off / 64)) else own k) = some r := fun k r hk => by
    rw [if_neg (fun e => by have := h.lt k (by simp [hk]); omega)]; exact hk
  exact {
    wf := ⟨h.wf.pos, h.wf.le, fun i hi e he => by
        simp only [Dev.put] at he
        split at he
        · rename_i hi'
          rcases List.mem_append.1 he with he | he
          · exact h.wf.line i hi e he
          · simp at he; subst he; exact ⟨hi'.symm, h8⟩
        · exact h.wf.line i hi e he,
      fun i hi => by
        have := hc i hi
        simp only [Dev.put]
        split <;> (try simp only [List.length_append, List.length_cons, List.length_nil]) <;> omega,
      fun j l p hp => by
        have := h.wf.note j l p hp
        refine ⟨this.1, ?_⟩
        simp only [Dev.put]
        split <;> (try simp only [List.length_append, List.length_cons, List.length_nil]) <;> omega, h.wf.left⟩
    dev := (wn _ _ h.odb (by simp) (by simp) (by simp)).trans h.dev
    pers := by
      obtain ⟨c, p1, p2⟩ := h.pers
      exact ⟨c, (wn _ _ h.opb (by simp) (by simp) (by simp)).trans p1, p2⟩
    cur := by
      have : Row w1 v.cb (8 * D.n) 28 (fun i => .int .u64 (D.cur i)) := by
        obtain ⟨c, p1, p2⟩ := h.cur
        exact ⟨c, (ne1 _ _ h.ocb (by simp)).trans p1, p2⟩
      refine ((this.other (a := ⟨v.lb, off / 64 * 2 + 1, none⟩) (Ne.symm lc) v').set (off / 8) (.int .u64 x)).congr (fun i _ => ?_)
      simp only [Dev.put_cur]
      split <;> rfl
    lines := by
      have : Row w1 v.lb (2 * D.n) 171 (fun j => if j % 2 = 0 then .int .u64 (D.done (j / 2)) else hv (j / 2)) := by
        obtain ⟨c, p1, p2⟩ := l1
        exact ⟨c, (ne1 _ _ h.olb (by simp)).trans p1, p2⟩
      refine ⟨fun i => if i = off / 64 then v' else hv i, ((this.set (off / 64 * 2 + 1) v').other lc _).congr (fun i _ => ?_), fun i hi => ?_⟩
      · simp only [Dev.put]
        by_cases e : i = off / 64 * 2 + 1
        · rw [if_pos e, if_neg (by omega), if_pos (by omega)]
        · rw [if_neg e]
          by_cases e2 : i % 2 = 0
          · rw [if_pos e2, if_pos e2]
          · rw [if_neg e2, if_neg e2, if_neg (by omega)]
      · simp only [Dev.put]
        by_cases e : i = off / 64
        · subst e
          simp only [if_true]
          refine ⟨?_, fun g hg => ?_⟩
          · rw [flat_append, List.length_append]
            exact ho1.kept (fun k hk => wne k (bne k hk).1 (bne k hk).2)
          · rcases hb1 g hg with hg' | hg'
            · exact old g _ hg'
            · simp [hg, hg']
        · rw [if_neg e, if_neg e]
          exact (l2 i hi).mono (fun g hg _ => old g _ hg) (fun g hg _ => wn g _ hg (by simp [e]) (by simp) (by simp))
    thr := fun j hj => (wn _ _ (h.otb j hj) (by simp) (by simp) (by simp)).trans (h.thr j hj)
    notes := fun j hj => (h.notes j hj).kept (Nat.le_refl _) (wn _ _ (h.onb j hj) (by simp) (by simp) (by simp))
    odb := old _ _ h.odb, opb := old _ _ h.opb, ocb := old _ _ h.ocb, olb := old _ _ h.olb
    otb := fun j hj => old _ _ (h.otb j hj), onb := fun j hj => old _ _ (h.onb j hj)
    lt := fun k hk => by
      have e : ((w1.setCell ⟨v.lb, off / 64 * 2 + 1, none⟩ v').setCell ⟨v.cb, off / 8, none⟩ (.int .u64 x)).heap.size = w1.heap.size := by simp [World.setCell]
      rw [e]
      by_cases c : v'.ownBlock = some k ∧ w.heap.size ≤ k
      · exact ho1.lt k c.1
      · rw [if_neg c] at hk; exact Nat.lt_of_lt_of_le (h.lt k hk) hs
    pcs := h.pcs }

set_option maxHeartbeats 400000 in
theorem write_any (h : IsDev w v own D) {j : Nat} (hj : j < 8) (off : Nat) (x : Int) (hx : D.exec < 4611686018) (hoff : off < 64 * D.n) (h8 : off % 8 = 0)
   (hc : ∀ i, i < D.n → D.done i + (D.hist i).length < D.exec) :
    Calls Tryz.prog 97 #[.pointer (some ⟨v.tb j, 0, none⟩), .int .u64 off, .int .u64 x] w fun r w' => r = .returned (.tuple #[]) ∧ DPost v own w (D.put off x) w' := by
  have c0 : w.cell? ⟨v.tb j, 0, none⟩ = some (.pointer (some ⟨v.db, 0, none⟩)) := (h.thr j hj).cell rfl
  have c1 : w.cell? ⟨v.db, 1, none⟩ = some (.slice (some ⟨v.cb, 0, none⟩) (8 * D.n) v.cc) := h.dev.cell rfl
  have c2 : w.cell? ⟨v.db, 2, none⟩ = some (.slice (some ⟨v.lb, 0, none⟩) D.n D.n) := h.dev.cell rfl
  have hn := h.wf.le
  obtain ⟨hv, l1, l2⟩ := line_at h
  have hl : off / 64 < D.n := by omega
  have c3 := (l1 _ hl).2
  have hh := l2 _ hl
  obtain ⟨a, c, hve⟩ := hh.1.slice
  rw [hve] at c3 hh
  have b1 : (off : Int) / 64 < D.n := by omega
  have b2 : (off : Int) / 8 < (8 * D.n : Nat) := by omega
  obtain ⟨i0, hi, hz0, hz1, hz2⟩ := info_parts infoWrite
  have I := Lib.hid (And.intro hi (And.intro hz0 (And.intro hz1 hz2))); clear hi hz0 hz1 hz2
  have H := Lib.hid h; have HH := Lib.hid hh; have HC := Lib.hid hc; have L1 := Lib.hid l1; have L2 := Lib.hid l2; clear h hh hve hc l1 l2
  go_enter Tryz.func97, Tryz.ntmps97
  go_wp2_with (at_builtin; refine wpList_append_sl _ rfl _ _ 59 rfl 141 i0 _ 2 16 Tryz.underlying59 I.out.1 I.out.2.1 I.out.2.2.1 I.out.2.2.2 rfl (by decide) _ _ _ rfl (HH.out.1.alloc _) _ 1 _ rfl (RdSl.new _ _ _ 2 1 rfl) ?h1 ?h2 ?h3 ?_)
  case h1 => exact ⟨rfl, rfl⟩
  case h2 => have := HC.out _ hl; unfold maxLen; omega
  case h3 => have := HC.out _ hl; omega
  intro v' w1 ho1 hg1 hb1 hn1
  have ne1 : ∀ k r, own k = some r → r ≠ .hist (off / 64) → w1.heap[k]? = w.heap[k]? := by
    intro k r hk hr
    have hlt := H.out.lt k (by simp [hk])
    rw [hg1.block k (by simp; omega) (fun e => ?_)]
    · exact Below.heap_alloc _ _ _ hlt
    · have := HH.out.2 k e.symm; rw [hk] at this; exact hr (Option.some.inj this)
  have c0' : w1.cell? ⟨v.tb j, 0, none⟩ = some (.pointer (some ⟨v.db, 0, none⟩)) := (World.cell?_of_block (ne1 _ _ (H.out.otb j hj) (by simp))).trans c0
  have c1' : w1.cell? ⟨v.db, 1, none⟩ = some (.slice (some ⟨v.cb, 0, none⟩) (8 * D.n) v.cc) := (World.cell?_of_block (ne1 _ _ H.out.odb (by simp))).trans c1
  have c3' : w1.cell? ⟨v.lb, off / 64 * 2 + 1, none⟩ = some (.slice a (D.hist (off / 64)).length c) := (World.cell?_of_block (ne1 _ _ H.out.olb (by simp))).trans c3
  have f3' : w1.frozen? ⟨v.lb, off / 64 * 2 + 1, none⟩ = false := by
    rw [World.frozen?_of_block (w := w) (ne1 _ _ H.out.olb (by simp))]; obtain ⟨_, l1, _⟩ := H.out.lines; exact l1.frozen _
  have c4' : w1.cell? ⟨v.cb, off / 8, none⟩ = some (.int .u64 (D.cur (off / 8))) := (World.cell?_of_block (ne1 _ _ H.out.ocb (by simp))).trans (cur_at H.out (by omega))
  have f4' : w1.frozen? ⟨v.cb, off / 8, none⟩ = false := by
    rw [World.frozen?_of_block (w := w) (ne1 _ _ H.out.ocb (by simp))]; exact H.out.cur.frozen _
  have n1 : v.tb j ≠ v.lb := own_ne (H.out.otb j hj) H.out.olb (by simp)
  have n2 : v.db ≠ v.lb := own_ne H.out.odb H.out.olb (by simp)
  have n3 : v.cb ≠ v.lb := own_ne H.out.ocb H.out.olb (by simp)
  obtain ⟨a', c', hv'⟩ := ho1.slice
  have Ho1 := Lib.hid ho1; have Hg1 := Lib.hid hg1; have Hb1 := Lib.hid hb1; have Hn1 := Lib.hid hn1; have Ne1 := Lib.hid ne1
  clear ho1 hg1 hb1 hn1 ne1 c0 c1 c2 c3
  rw [hv'] 
  have Hv' := Lib.hid hv'; clear hv'
  go_wp2
  go_end0
  refine ⟨rfl, ?_⟩
  rw [← Hv'.out]
  refine H.out.put_post off x hoff h8 HC.out Ne1.out ?_ Ho1.out ?_
  · refine ((Upd.refl _ w).alloc _).grown Hg1.out (fun k hk _ => ?_)
    simp [HH.out.2 k hk]
  · intro g hg
    rcases Hb1.out with hb | hb
    · rw [ownBlock_addr, hb, ← ownBlock_addr] at hg; exact .inl (HH.out.2 g hg)
    · rw [ownBlock_addr, hb] at hg; cases hg; exact .inr (Nat.le_succ _)

set_option maxHeartbeats 400000 in
theorem store_any (h : IsDev w v own D) {j : Nat} (hj : j < 8) (off : Nat) (x : Int) (hx : D.exec < 4294967296) :
    Calls Tryz.prog 54 #[.pointer (some ⟨v.tb j, 0, none⟩), .int .u64 off, .int .u64 x] w fun r w' => r = .returned (.tuple #[]) ∧ DPost v own w (D.store j off x) w' := by
  have c0 : w.cell? ⟨v.tb j, 0, none⟩ = some (.pointer (some ⟨v.db, 0, none⟩)) := (h.thr j hj).cell rfl
  by_cases hb : D.countedB (D.wordB off) = true
  · have h2 : D.wordB off = true := by revert hb; cases D.wordB off <;> simp [Dev.countedB, Dev.onB]
    have h3 : off % 8 = 0 ∧ off < 64 * D.n := by simpa [Dev.wordB] using h2
    have Hd : Hid (D.store j off x = D.tick.put off x) := by
      show D.store j off x = _
      have h4 : D.onB (D.wordB off) = true ∧ D.cut = false := by simpa [Dev.countedB] using hb
      simp only [Dev.store, hb, if_true, Dev.countedD, h4.1, h4.2, Bool.false_eq_true, if_false]
    rw [h2] at hb
    have H := Lib.hid h; have Hb := Lib.hid hb; have H2 := Lib.hid h2; clear h hb h2
    go_enter Tryz.func54, Tryz.ntmps54
    go_wp2_with (first | (go_at_call 96; refine (word_any H.out hj off).mono ?_; rintro e w' ⟨rfl, rfl⟩; rw [H2.out]) | (go_at_call 95; refine (counted_yes H.out hj (by omega) Hb.out).mono ?_; rintro e w1 ⟨rfl, d1, o1, u1⟩; have Hp := Lib.hid (And.intro d1 u1); clear d1 o1 u1) | (go_at_call 97; refine (write_any Hp.out.1 hj off x (by simp only [Dev.tick]; omega) h3.2 h3.1 (fun i hi => Nat.lt_succ_of_le (H.out.wf.cnt i hi))).mono ?_; rintro e w2 ⟨rfl, hq⟩; have Hq := Lib.hid hq; clear hq))
    go_end0
    refine ⟨rfl, ?_⟩
    rw [Hd.out]
    exact DPost.trans Hp.out.2.size (fun _ _ => rfl) Hp.out.2 Hq.out
  · have hf : D.countedB (D.wordB off) = false := by simpa using hb
    have H := Lib.hid h; have Hf := Lib.hid hf; clear h hb hf
    go_enter Tryz.func54, Tryz.ntmps54
    go_wp2_with (first | (go_at_call 96; refine (word_any H.out hj off).mono ?_; rintro e w' ⟨rfl, rfl⟩) | (go_at_call 95; refine (counted_no H.out hj _ Hf.out).mono ?_; rintro e w1 ⟨rfl, hp⟩; have Hp := Lib.hid hp; clear hp))
    (try simp only [Exit.inBlock, Exit.then]); refine bodyPost_ret (results_none rfl _ _ _) rfl ?_
    refine ⟨rfl, ?_⟩
    simp only [Dev.store, Hf.out, Bool.false_eq_true, if_false]
    exact Hp.out
end
end Go.Proofs.YtkoijmoendepgaaGreat

/- The walk of a flush. -/
namespace Go.Proofs.YtkoijmoendepgaaGreat
open Go.RowKit Go.Maps

section
variable {w : World} {v : DV} {own : Nat → Option Role} {D : Dev}

theorem NotesAt.put {P : Program} {kt et : TypeId} {w' : World} {b B : Nat} {f : Nat → Option Nat} {m : Nat} {N : DataW Unit} (l p : Nat) (hp : p < 18446744073709551616)
    (h1 : m ≤ B) (h2 : IsMap N) (h3 : ∀ l p, f l = some p → p < 18446744073709551616) (h4 : ∀ x : Int, Maps.has N (.int .i64 x) = true → ∃ l p : Nat, x = l ∧ f l = some p)
    (h5 : ∀ l p, f l = some p → Maps.has N (.int .i64 l) = true ∧ ∀ z, N.atKey (.int .i64 l) z = .lit (.int .u64 p))
    (h : w'.ownsMap P kt (plainElem P et) b (m + 1) (N.put (.int .i64 l) (.lit (.int .u64 p)))) : NotesAt P kt et w' b (B + 1) (fun k => if k = l then some p else f k) := by
  refine ⟨m + 1, _, by omega, h, ?_, ?_, ?_⟩
  · intro l' p' h'
    simp only at h'
    split at h'
    · cases h'; exact hp
    · exact h3 _ _ h'
  · intro x hx
    by_cases e : x = l
    · exact ⟨l, p, e, if_pos rfl⟩
    · rw [has_put_other (by simpa using e)] at hx
      obtain ⟨l', p', rfl, h'⟩ := h4 x hx
      exact ⟨l', p', rfl, by simp only; rw [if_neg (fun e' => e (by rw [e']))]; exact h'⟩
  · intro l' p' h'
    simp only at h'
    split at h'
    · rename_i e; subst e; cases h'
      exact ⟨has_put_same h2 (show WideAt.IsKeyLit (.int .i64 (l' : Int)) from trivial) _, fun z => atKey_put_same h2 (show WideAt.IsKeyLit (.int .i64 (l' : Int)) from trivial) _ _⟩
    · rename_i e
      have e' : (Lit.int .i64 (l' : Int)) ≠ .int .i64 l := by intro h; injection h with _ h; exact e (by omega)
      rw [has_put_other e']
      refine ⟨(h5 _ _ h').1, fun z => ?_⟩
      rw [atKey_put_other e']
      exact (h5 _ _ h').2 z

theorem IsDev.jot_post (h : IsDev w v own D) {j : Nat} (hj : j < 8) {l : Nat} (hl : l < D.n) {w1 : World} (hg : w.grownBy w1 (some (v.nb j)))
    (hN : NotesAt Tryz.prog 3 28 w1 (v.nb j) D.exec (fun k => if k = l then some (D.done l + (D.hist l).length) else D.note j k)) : IsDev w1 v own (D.jot j l) := by
  have ne : ∀ k r, own k = some r → r ≠ .notes j → w1.heap[k]? = w.heap[k]? := fun k r hk hr =>
    hg.block k (h.lt k (by simp [hk])) (fun e => own_ne hk (h.onb j hj) hr (Option.some.inj e))
  have nB : ∀ k r c t, own k = some r → r ≠ .notes j → Blk w k c t → Blk w1 k c t := fun k r c t hk hr hb => (ne k r hk hr).trans hb
  have nR : ∀ k r n t f, own k = some r → r ≠ .notes j → Row w k n t f → Row w1 k n t f := fun k r n t f hk hr ⟨c, h1, h2⟩ => ⟨c, nB k r c t hk hr h1, h2⟩
  obtain ⟨hv, l1, l2⟩ := h.lines
  exact {
    wf := ⟨h.wf.pos, h.wf.le, h.wf.line, h.wf.cnt, fun j' l' p' hp => by
      simp only [Dev.jot] at hp
      split at hp
      · rename_i e; obtain ⟨rfl, rfl⟩ := e; cases hp; exact ⟨hl, Nat.le_refl _⟩
      · exact h.wf.note j' l' p' hp, h.wf.left⟩
    dev := nB _ _ _ _ h.odb (by simp) h.dev
    pers := nR _ _ _ _ _ h.opb (by simp) h.pers
    cur := nR _ _ _ _ _ h.ocb (by simp) h.cur
    lines := ⟨hv, nR _ _ _ _ _ h.olb (by simp) l1, fun i hi => (l2 i hi).mono (fun _ hg _ => hg) (fun g hg _ => ne g _ hg (by simp))⟩
    thr := fun k hk => nB _ _ _ _ (h.otb k hk) (by simp) (h.thr k hk)
    notes := fun k hk => by
      by_cases e : k = j
      · subst e
        have : (D.jot k l).note k = (fun m => if m = l then some (D.done l + (D.hist l).length) else D.note k m) := by funext m; simp [Dev.jot]
        rw [this]; exact hN
      · have : (D.jot j l).note k = D.note k := by funext m; simp [Dev.jot, e]
        rw [this]; exact (h.notes k hk).kept (Nat.le_refl _) (ne _ _ (h.onb k hk) (by simpa using e))
    odb := h.odb, opb := h.opb, ocb := h.ocb, olb := h.olb, otb := h.otb, onb := h.onb
    lt := fun k hk => Nat.lt_of_lt_of_le (h.lt k hk) hg.size
    pcs := h.pcs }

set_option maxRecDepth 100000 in
set_option maxHeartbeats 1000000 in
theorem flush_any (h : IsDev w v own D) {j : Nat} (hj : j < 8) (off : Nat) (ho : off < 18446744073709551616) (hx : D.exec < 4294967296) :
    Calls Tryz.prog 55 #[.pointer (some ⟨v.tb j, 0, none⟩), .int .u64 off] w fun r w' => r = .returned (.tuple #[]) ∧ DPost v own w (D.flush j off) w' := by
  have c0 : w.cell? ⟨v.tb j, 0, none⟩ = some (.pointer (some ⟨v.db, 0, none⟩)) := (h.thr j hj).cell rfl
  have hn := h.wf.le
  by_cases hb : D.countedB (D.inB off) = true
  · have h2 : D.inB off = true := by revert hb; cases D.inB off <;> simp [Dev.countedB, Dev.onB]
    have h3 : off < 64 * D.n := by simpa [Dev.inB] using h2
    have Hd : Hid (D.flush j off = D.tick.jot j (off / 64)) := by
      show D.flush j off = _
      have h4 : D.onB (D.inB off) = true ∧ D.cut = false := by simpa [Dev.countedB] using hb
      simp only [Dev.flush, hb, if_true, Dev.countedD, h4.1, h4.2, Bool.false_eq_true, if_false]
    rw [h2] at hb
    have hlt : (off : Int) < (D.n : Int) * 64 := by omega
    have hl : off / 64 < D.n := by omega
    have b1 : (off : Int) / 64 < D.n := by omega
    have H := Lib.hid h; have Hb := Lib.hid hb; have H2 := Lib.hid h2; clear h hb h2
    go_enter Tryz.func55, Tryz.ntmps55
    go_wp2_with (go_at_call 98; refine (size_any H.out).mono ?_; rintro e w' ⟨rfl, rfl⟩)
    refine (counted_yes H.out hj (by omega) Hb.out).mono ?_
    rintro e w1 ⟨rfl, d1, o1, u1⟩
    have c0' : w1.cell? ⟨v.tb j, 0, none⟩ = some (.pointer (some ⟨v.db, 0, none⟩)) := (d1.thr j hj).cell rfl
    have c3' : w1.cell? ⟨v.tb j, 3, none⟩ = some (.map (some (v.nb j))) := (d1.thr j hj).cell rfl
    have c2' : w1.cell? ⟨v.db, 2, none⟩ = some (.slice (some ⟨v.lb, 0, none⟩) D.n D.n) := d1.dev.cell rfl
    obtain ⟨hv, l1, l2⟩ := line_at d1
    have e0 : w1.cell? ⟨v.lb, off / 64 * 2, none⟩ = some (.int .u64 (D.done (off / 64))) := (l1 _ hl).1
    have e1 := (l1 _ hl).2
    obtain ⟨a, c, hve⟩ := (l2 _ hl).1.slice
    rw [hve] at e1
    have e1' : w1.cell? ⟨v.lb, off / 64 * 2 + 1, none⟩ = some (.slice a (D.hist (off / 64)).length c) := e1
    have hcn := H.out.wf.cnt _ hl
    have Hp := Lib.hid (And.intro d1 (And.intro o1 u1))
    clear d1 o1 u1 c0 hve l1 l2 e1
    go_wp2_with fail
    have hw1 : IntKind.u64.wrap ((D.hist (off / 64)).length : Int) = ((D.hist (off / 64)).length : Int) := IntWalk.u64_in _ (by omega)
    have hw2 : IntKind.u64.wrap ((D.done (off / 64) : Int) + ((D.hist (off / 64)).length : Int)) = (D.done (off / 64) : Int) + ((D.hist (off / 64)).length : Int) := IntWalk.u64_in _ (by omega)
    go_still_tail 16, (by kernel_rfl)
    change wpList _ _ _ _ _ w1.drew
    clear hw1 hw2
    obtain ⟨m, N, n1, n2, n3, n4, n5⟩ := (H.out.notes j hj).kept (w' := w1) (Nat.le_refl _) (Hp.out.2.1 _ (own_ne (H.out.onb j hj) H.out.odb (by simp)))
    have hk : keyOf Tryz.prog 3 (.int .i64 ((off : Int) / 64)) = some (.int .i64 ((off / 64 : Nat) : Int)) := by
      rw [show ((off : Int) / 64) = ((off / 64 : Nat) : Int) from by omega]
      exact keyOf_int_mk Tryz.underlying3 (WalkArith.wf_i64 (by omega))
    have hval : plainElem (H := Unit) Tryz.prog 28 (.int .u64 ((D.done (off / 64) : Int) + ((D.hist (off / 64)).length : Int))) = some (.lit (.int .u64 ((D.done (off / 64) + (D.hist (off / 64)).length : Nat) : Int)), []) := by
      rw [show ((D.done (off / 64) : Int) + ((D.hist (off / 64)).length : Int)) = ((D.done (off / 64) + (D.hist (off / 64)).length : Nat) : Int) from by omega]
      exact plainElem_int Tryz.underlying28 (WalkArith.wf_u64 (by omega))
    refine wpList_mapUpdate_own _ rfl _ _ _ 165 rfl 3 28 law3 Tryz.underlying165 _ (v.nb j) m _ rfl n2.drew (by unfold maxLen; omega) _ _ _ rfl rfl hk _ [] hval ?_
    intro w2 o2 g2
    go_frame
    refine wpList_nil ?_
    go_end0
    refine ⟨rfl, ?_⟩
    rw [Hd.out]
    have hN := NotesAt.put (off / 64) (D.done (off / 64) + (D.hist (off / 64)).length) (by omega) n1 n2.isMap n3 n4 n5 o2
    have g2' : w1.grownBy w2 (some (v.nb j)) := ⟨g2.os, g2.tape, g2.output, g2.size, g2.block⟩
    refine ⟨own, Hp.out.1.jot_post hj hl g2' hN, fun _ _ => rfl, Hp.out.2.2.grown g2' (fun k hk _ => ?_)⟩
    cases hk; simp [H.out.onb j hj]
  · have hf : D.countedB (D.inB off) = false := by simpa using hb
    have hd : decide ((off : Int) < (D.n : Int) * 64) = D.inB off := by simp only [Dev.inB, decide_eq_decide]; omega
    have H := Lib.hid h; have Hf := Lib.hid hf; clear h hb hf
    go_enter Tryz.func55, Tryz.ntmps55
    go_wp2_with (first | (go_at_call 98; refine (size_any H.out).mono ?_; rintro e w' ⟨rfl, rfl⟩) | (go_at_call 95; refine (counted_no H.out hj _ Hf.out).mono ?_; rintro e w1 ⟨rfl, hp⟩; have Hp := Lib.hid hp; clear hp))
    (try simp only [Exit.inBlock, Exit.then]); refine bodyPost_ret (results_none rfl _ _ _) rfl ?_
    refine ⟨rfl, ?_⟩
    simp only [Dev.flush, Hf.out, Bool.false_eq_true, if_false]
    exact Hp.out
end
end Go.Proofs.YtkoijmoendepgaaGreat

/- The walks of apply and persist. -/
namespace Go.Proofs.YtkoijmoendepgaaGreat
open Go.RowKit Go.Maps

section
variable {w : World}

/-- What lies behind k of the stores. -/
def applied (l : List (Nat × Int)) (f : Nat → Int) (i : Nat) : Int := look l (f i) i

set_option maxRecDepth 100000 in
set_option maxHeartbeats 1000000 in
/-- apply(words, stores): each store's word, in order. The words lie in block b, not in the stores' block. -/
theorem apply_any (b n c : Nat) (f : Nat → Int) (sv : Value) (l : List (Nat × Int)) (hr : Row w b n 28 (fun i => .int .u64 (f i))) (hs : RdSl w 2 sv l.length (flat l)) (hne : ∀ k, sv.ownBlock = some k → k ≠ b)
    (hl : ∀ e ∈ l, e.1 / 8 < n) (hn : n ≤ 32768) (hlen : l.length ≤ 4611686018427387904) :
    Calls Tryz.prog 111 #[.slice (some ⟨b, 0, none⟩) n c, sv] w fun r w' => r = .returned (.tuple #[]) ∧ Row w' b n 28 (fun i => .int .u64 (applied l f i)) ∧ Upd (fun k => k = b) w w' := by
  obtain ⟨_, a, cap, rfl, hcap, ha⟩ := hs
  have HA := Lib.hid ha; have HR := Lib.hid hr; have HL := Lib.hid hl; have HNE := Lib.hid hne; clear ha hr hl hne
  go_enter Tryz.func111, Tryz.ntmps111
  go_wp2
  go_loopw [8] (fun i wr => ∃ k : Nat, k ≤ l.length ∧ i = .int .i64 k ∧ Row wr b n 28 (fun i => .int .u64 (applied (l.take k) f i)) ∧ Upd (fun k => k = b) w wr) (fun i _ => l.length - (intOf i).toNat)
  case atStart => exact ⟨0, Nat.zero_le _, rfl, HR.out, Upd.refl _ _⟩
  case round =>
    obtain ⟨k, hk, rfl, hr, hu⟩ := hrel
    have Hr := Lib.hid hr; have Hu := Lib.hid hu; clear hr hu
    by_cases hlt : k < l.length
    · obtain ⟨e, he⟩ : ∃ e, l[k]? = some e := ⟨_, List.getElem?_eq_getElem hlt⟩
      have hf := flat_get l k e he
      obtain ⟨sb, so, rfl, hc⟩ : ∃ sb so, a = some ⟨sb, so, none⟩ ∧ ∀ j u, (flat l)[j]? = some u → w.cell? ⟨sb, so + j, none⟩ = some u := by
        rcases HA.out with h0 | h0
        · rw [h0] at hf; simp at hf
        · exact h0
      have hsb : sb ≠ b := HNE.out sb rfl
      have hbl : ∀ o, wr.cell? ⟨sb, o, none⟩ = w.cell? ⟨sb, o, none⟩ := fun o => by
        have hlt' := World.block_lt_of_cell? w _ (hc _ _ hf.1)
        exact World.cell?_of_block (Hu.out.block sb hlt' hsb)
      have e1 : wr.cell? ⟨sb, so + k * 2, none⟩ = some (.int .u64 e.1) := by rw [hbl, Nat.mul_comm k 2]; exact hc _ _ hf.1
      have e2 : wr.cell? ⟨sb, so + k * 2 + 1, none⟩ = some (.int .u64 e.2) := by rw [hbl, Nat.mul_comm k 2]; exact hc _ _ hf.2
      have hen := HL.out e (List.mem_of_getElem? he)
      have hen' : (e.1 : Int) / 8 < n := by omega
      have cb : wr.cell? ⟨b, e.1 / 8, none⟩ = some (.int .u64 (applied (l.take k) f (e.1 / 8))) := Hr.out.cell hen
      have fb : wr.frozen? ⟨b, e.1 / 8, none⟩ = false := Hr.out.frozen _
      have hbs : b < wr.heap.size := Hr.out.lt
      have He := Lib.hid he
      clear hf hc hbl he
      go_wp2
      go_roundw
      case rel =>
        refine ⟨k + 1, by omega, by go_num, ?_, (Hu.out.setCell (p := ⟨b, e.1 / 8, none⟩) (fun _ => rfl) _).alloc _⟩
        refine ((Hr.out.set (e.1 / 8) (.int .u64 e.2)).alloc _).congr (fun i hi => ?_)
        have ht : l.take (k + 1) = l.take k ++ [e] := by rw [List.take_add_one, He.out]; rfl
        simp only [applied, ht, look_snoc]
        by_cases ei : i = e.1 / 8
        · rw [if_pos ei, if_pos ei.symm]
        · rw [if_neg ei, if_neg (fun h => ei h.symm)]
      case measure => simp [intOf]; omega
    · go_wp2
      go_end0
      have ht : l.take k = l := List.take_of_length_le (by omega)
      refine ⟨rfl, ?_, Hu.out⟩
      have := Hr.out
      rw [ht] at this
      exact this
end

section
variable {w : World} {v : DV} {own : Nat → Option Role} {D : Dev}

theorem Dev.persist_cur (D : Dev) (l k i : Nat) : (D.persist l k).cur i = D.cur i := by
  simp only [Dev.cur, Dev.persist]
  by_cases h : i / 8 = l
  · rw [if_pos h, if_pos h, h, ← look_append, List.take_append_drop]
  · rw [if_neg h, if_neg h]

theorem RdSl.take {w : World} {a : Option Addr} {n c : Nat} {xs : List (Nat × Int)} (h : RdSl w 2 (.slice a n c) xs.length (flat xs)) (k : Nat) (hk : k ≤ xs.length) : RdSl w 2 (.slice a k c) k (flat (xs.take k)) := by
  obtain ⟨h1, a', c', e, hc, h2⟩ := h
  cases e
  have ht : flat (xs.take k) = (flat xs).take (k * 2) := by
    have h3 : flat xs = flat (xs.take k) ++ flat (xs.drop k) := by rw [← flat_append, List.take_append_drop]
    rw [h3, List.take_left' (by rw [flat_length, List.length_take, Nat.min_eq_left hk])]
  refine ⟨by rw [flat_length, List.length_take, Nat.min_eq_left hk], a, c, rfl, by omega, ?_⟩
  rcases h2 with h2 | ⟨b, o, rfl, h3⟩
  · left; rw [ht, h2]; simp
  · right; refine ⟨b, o, rfl, fun j u hu => h3 j u ?_⟩
    rw [ht, List.getElem?_take] at hu
    split at hu
    · exact hu
    · cases hu
theorem OwnSl.drop {w : World} {e : TypeId} {a : Option Addr} {c : Nat} {xs : List (Nat × Int)} (h : OwnSl w e 2 (.slice a xs.length c) xs.length (flat xs)) (k : Nat) (hk : k < xs.length) :
    OwnSl w e 2 (.slice (a.map (·.add (k * 2))) (xs.length - k) (c - k)) (xs.drop k).length (flat (xs.drop k)) := by
  rcases h with ⟨h1, ⟨e1, e2⟩ | ⟨g, o, cap, cur, e1, hg, hc, hm, hs, ht⟩⟩
  · omega
  · cases e1
    refine ⟨flat_length _, .inr ⟨g, o + k * 2, c - k, cur, ?_, hg, ?_, by omega, by omega, ?_⟩⟩
    · simp [Addr.add_lit]
    · rw [List.length_drop]; omega
    · rw [← flat_drop, ← ht, List.length_drop, Nat.sub_mul]
      rw [← List.drop_drop]
      rw [List.drop_take]

theorem ownBlock_len {a : Option Addr} {n c n' c' : Nat} : (Value.slice a n c).ownBlock = (Value.slice a n' c').ownBlock := by cases a <;> rfl

theorem setCell_twice (w : World) (a : Addr) (u u' : Value) : (w.setCell a u).setCell a u' = w.setCell a u' := by
  unfold World.setCell
  simp only [World.mk.injEq, and_true]
  apply Array.ext
  · simp
  · intro i h1 h2
    simp only [Array.getElem_modify]
    split
    · have hi : i < w.heap.size := by simpa using h2
      cases w.heap[i] <;> simp
      split <;> simp
    · rfl

/-- The device behind the persisting of k stores of line l, the new history value being hl. -/
theorem IsDev.persist_post (h : IsDev w v own D) {l k : Nat} (hl : l < D.n) (hk : k ≤ (D.hist l).length) {w1 : World} (ne1 : ∀ g r, own g = some r → r ≠ .pers → w1.heap[g]? = w.heap[g]?)
    (hU : Upd (fun k => own k = some .pers ∨ own k = some .lines) w w1) (hp : Row w1 v.pb (8 * D.n) 28 (fun i => .int .u64 (applied ((D.hist l).take k) D.pers i)))
    (hv' : Value) (hh : HistAt w1 own 141 l hv' ((D.hist l).drop k)) (wx : World) (hx : wx = ((w1.setCell ⟨v.lb, l * 2, none⟩ (.int .u64 ((D.done l : Int) + (k : Int)))).setCell ⟨v.lb, l * 2 + 1, none⟩ hv')) :
    IsDev wx v own (D.persist l k) ∧ Upd (fun k => own k = some .pers ∨ own k = some .lines) w wx := by
  obtain ⟨hv, l1, l2⟩ := h.lines
  have wne : ∀ g, g ≠ v.lb → wx.heap[g]? = w1.heap[g]? := fun g hg => by
    rw [hx]; exact (Below.heap_setCell _ _ _ _ hg).trans (Below.heap_setCell _ _ _ _ hg)
  have wn : ∀ g r, own g = some r → r ≠ .pers → r ≠ .lines → wx.heap[g]? = w.heap[g]? := fun g r hg r1 r2 => (wne g (own_ne hg h.olb r2)).trans (ne1 g r hg r1)
  have nB : ∀ k r c t, own k = some r → r ≠ .pers → r ≠ .lines → Blk w k c t → Blk wx k c t := fun k r c t hk r1 r2 hb => (wn k r hk r1 r2).trans hb
  refine ⟨?_, ?_⟩
  · exact {
      wf := ⟨h.wf.pos, h.wf.le, fun i hi e he => by
          simp only [Dev.persist] at he
          split at he
          · exact h.wf.line i hi e (List.mem_of_mem_drop he)
          · exact h.wf.line i hi e he,
        fun i hi => by
          have := h.wf.cnt i hi
          simp only [Dev.persist]
          split
          · rename_i e; subst e; rw [List.length_drop]; omega
          · exact this,
        fun j' l' p' hp => by
          have := h.wf.note j' l' p' hp
          refine ⟨this.1, ?_⟩
          simp only [Dev.persist]
          split
          · rename_i e; subst e; rw [List.length_drop]; omega
          · exact this.2, h.wf.left⟩
      dev := nB _ _ _ _ h.odb (by simp) (by simp) h.dev
      pers := by
        obtain ⟨c, p1, p2⟩ := hp
        refine Row.congr (f := fun i => .int .u64 (applied ((D.hist l).take k) D.pers i)) ⟨c, (wne _ (own_ne h.opb h.olb (by simp))).trans p1, p2⟩ (fun i hi => ?_)
        simp only [Dev.persist, applied]
        split
        · rfl
        · rename_i e
          congr 1
          have : ∀ (L : List (Nat × Int)) (d : Int), (∀ x ∈ L, x.1 / 64 = l) → look L d i = d := by
            intro L
            induction L with
            | nil => intro d _; rfl
            | cons x L ih =>
              intro d hL
              have hx' := hL x (by simp)
              have hne : ¬ x.1 / 8 = i := by omega
              show look L (if x.1 / 8 = i then x.2 else d) i = d
              rw [if_neg hne]; exact ih d (fun y hy => hL y (by simp [hy]))
          exact this _ _ (fun x hx => (h.wf.line l hl x (List.mem_of_mem_take hx)).1)
      cur := by
        have : (D.persist l k).cur = D.cur := funext (Dev.persist_cur D l k)
        rw [this]
        obtain ⟨c, p1, p2⟩ := h.cur
        exact ⟨c, nB _ _ _ _ h.ocb (by simp) (by simp) p1, p2⟩
      lines := by
        have : Row w1 v.lb (2 * D.n) 171 (fun j => if j % 2 = 0 then .int .u64 (D.done (j / 2)) else hv (j / 2)) := by
          obtain ⟨c, p1, p2⟩ := l1
          exact ⟨c, (ne1 _ _ h.olb (by simp)).trans p1, p2⟩
        refine ⟨fun i => if i = l then hv' else hv i, ?_, fun i hi => ?_⟩
        · rw [hx]
          refine ((this.set (l * 2) (.int .u64 ((D.done l : Int) + (k : Int)))).set (l * 2 + 1) hv').congr (fun i _ => ?_)
          simp only [Dev.persist]
          by_cases e : i = l * 2 + 1
          · rw [if_pos e, if_neg (by omega), if_pos (by omega)]
          · rw [if_neg e]
            by_cases e2 : i % 2 = 0
            · rw [if_pos e2, if_pos e2]
              by_cases e3 : i = l * 2
              · rw [if_pos e3, if_pos (by omega), show i / 2 = l from by omega, Int.natCast_add]
              · rw [if_neg e3, if_neg (by omega)]
            · rw [if_neg e2, if_neg e2, if_neg (by omega), if_neg (by omega)]
        · simp only [Dev.persist]
          by_cases e : i = l
          · subst e
            simp only [if_true]
            exact hh.mono (fun g hg _ => hg) (fun g hg _ => wne g (own_ne hg h.olb (by simp)))
          · rw [if_neg e, if_neg e]
            exact (l2 i hi).mono (fun g hg _ => hg) (fun g hg _ => wn g _ hg (by simp) (by simp))
      thr := fun j hj => nB _ _ _ _ (h.otb j hj) (by simp) (by simp) (h.thr j hj)
      notes := fun j hj => (h.notes j hj).kept (Nat.le_refl _) (wn _ _ (h.onb j hj) (by simp) (by simp))
      odb := h.odb, opb := h.opb, ocb := h.ocb, olb := h.olb, otb := h.otb, onb := h.onb
      lt := fun g hg => by rw [hx]; simp only [World.setCell, Array.size_modify]; exact Nat.lt_of_lt_of_le (h.lt g hg) hU.size
      pcs := h.pcs }
  · rw [hx]
    exact (hU.setCell (p := ⟨v.lb, l * 2, none⟩) (fun _ => by simp [h.olb]) _).setCell (p := ⟨v.lb, l * 2 + 1, none⟩) (fun _ => by simp [h.olb]) _

set_option maxRecDepth 100000 in
set_option maxHeartbeats 1000000 in
theorem persist_any (h : IsDev w v own D) (l k : Nat) (hl : l < D.n) (hk : k ≤ (D.hist l).length) (hx : D.exec < 4611686018) :
    Calls Tryz.prog 99 #[.pointer (some ⟨v.db, 0, none⟩), .int .i64 l, .int .i64 k] w fun r w' => r = .returned (.tuple #[]) ∧ IsDev w' v own (D.persist l k) ∧ Upd (fun k => own k = some .pers ∨ own k = some .lines) w w' := by
  have c0 : w.cell? ⟨v.db, 0, none⟩ = some (.slice (some ⟨v.pb, 0, none⟩) (8 * D.n) v.pc) := h.dev.cell rfl
  have c2 : w.cell? ⟨v.db, 2, none⟩ = some (.slice (some ⟨v.lb, 0, none⟩) D.n D.n) := h.dev.cell rfl
  obtain ⟨hv, l1, l2⟩ := line_at h
  have e0 := (l1 _ hl).1
  have e1 := (l1 _ hl).2
  have hh := l2 _ hl
  obtain ⟨a, c, hve⟩ := hh.1.slice
  rw [hve] at e1 hh
  have hn := h.wf.le
  have hl' : (l : Int) < D.n := by omega
  have hcnt := h.wf.cnt l hl
  have hcap : (D.hist l).length ≤ c := by obtain ⟨_, _, _, e, hc, _⟩ := hh.1.rd; cases e; exact hc
  have hk' : (k : Int) ≤ c := by omega
  have H := Lib.hid h; have HH := Lib.hid hh; clear h hh hve l1 l2
  go_enter Tryz.func99, Tryz.ntmps99
  go_wp2_with fail
  go_still_tail 10, (by kernel_rfl)
  change wpList _ _ _ _ _ w.drew
  go_wp2_with fail
  have hrd : RdSl w.drew 2 (.slice a k c) ((D.hist l).take k).length (flat ((D.hist l).take k)) := by
    rw [List.length_take, Nat.min_eq_left hk]; exact HH.out.1.rd.take k hk
  have hkl : ((D.hist l).take k).length = k := by rw [List.length_take, Nat.min_eq_left hk]
  refine (apply_any v.pb (8 * D.n) v.pc D.pers _ _ H.out.pers.drew hrd ?_ ?_ (by omega) (by omega)).mono ?_
  · intro g hg; rw [ownBlock_len (n' := (D.hist l).length) (c' := c)] at hg; exact own_ne (HH.out.2 g hg) H.out.opb (by simp)
  · intro e he; have := H.out.wf.line l hl e (List.mem_of_mem_take he); omega
  rintro e w1 ⟨rfl, r1, u1⟩
  have ne1 : ∀ g r, own g = some r → r ≠ .pers → w1.heap[g]? = w.heap[g]? := fun g r hg hr => u1.block g (H.out.lt g (by simp [hg])) (own_ne hg H.out.opb hr)
  have hU : Upd (fun k => own k = some .pers ∨ own k = some .lines) w w1 := (Upd.refl _ w).drew.trans u1 (fun i _ hi => by rw [hi]; simp [H.out.opb])
  have e0' : w1.cell? ⟨v.lb, l * 2, none⟩ = some (.int .u64 (D.done l)) := (World.cell?_of_block (ne1 _ _ H.out.olb (by simp))).trans e0
  have e1' : w1.cell? ⟨v.lb, l * 2 + 1, none⟩ = some (.slice a (D.hist l).length c) := (World.cell?_of_block (ne1 _ _ H.out.olb (by simp))).trans e1
  have f' : ∀ o, w1.frozen? ⟨v.lb, o, none⟩ = false := fun o => by
    rw [World.frozen?_of_block (w := w) (ne1 _ _ H.out.olb (by simp))]; obtain ⟨_, l1, _⟩ := H.out.lines; exact l1.frozen _
  have f0 := f' (l * 2); have f1 := f' (l * 2 + 1)
  have HH1 : HistAt w1 own 141 l (.slice a (D.hist l).length c) (D.hist l) := HH.out.mono (fun g hg _ => hg) (fun g hg _ => ne1 g _ hg (by simp))
  have HP := Lib.hid (And.intro r1 (And.intro ne1 (And.intro hU HH1)))
  clear hrd r1 u1 ne1 hU f' HH1 c0 c2 e0 e1 hkl
  by_cases hkk : k = (D.hist l).length
  · have hkb : ((((D.hist l).length - k : Nat) : Int) == 0) = true := by simp; omega
    have Hk := Lib.hid hkk; clear hkk
    go_wp2_with fail
    all_goals
      go_end0
      refine ⟨rfl, H.out.persist_post hl hk HP.out.2.1 HP.out.2.2.1 HP.out.1 (.slice none 0 0) ?_ _ (by first | rfl | exact setCell_twice _ _ _ _)⟩
      rw [List.drop_of_length_le (by rw [Hk.out]; exact Nat.le_refl _)]
      exact ⟨OwnSl.nil _ _ _, fun g hg => by simp [Value.ownBlock] at hg⟩
  · have hkb : ((((D.hist l).length - k : Nat) : Int) == 0) = false := by simp; omega
    have hck : ¬ c = k := by omega
    go_wp2_with fail
    go_end0
    refine ⟨rfl, H.out.persist_post hl hk HP.out.2.1 HP.out.2.2.1 HP.out.1 _ ⟨HP.out.2.2.2.1.drop k (by omega), fun g hg => ?_⟩ _ rfl⟩
    refine HP.out.2.2.2.2 g ?_
    rw [← hg]
    cases a with
    | none => rfl
    | some a => simp [Value.ownBlock, Addr.add]; split <;> rfl
end
end Go.Proofs.YtkoijmoendepgaaGreat
