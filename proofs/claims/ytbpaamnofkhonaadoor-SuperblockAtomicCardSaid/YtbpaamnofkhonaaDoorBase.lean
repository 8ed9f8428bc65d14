/- Plain facts about worlds and blocks, used by all walks of this seat. No program in sight. -/
import Derived.WalkKit
import Derived.WalkSpells
import Derived.WalkLawsBesides
import Derived.Maps.RangeWalk
import Derived.Maps.OwnSet
import Derived.Lib.Hide
namespace Go.Proofs.YtbpaamnofkhonaaDoor
open Go.RowKit

/-- Outside the blocks of S nothing that was there has changed. -/
structure Upd (S : Nat → Prop) (w w' : World) : Prop where
  os : w'.os = w.os
  tape : w'.tape = w.tape
  output : w'.output = w.output
  size : w.heap.size ≤ w'.heap.size
  block : ∀ k, k < w.heap.size → ¬ S k → w'.heap[k]? = w.heap[k]?

theorem Upd.refl (S : Nat → Prop) (w : World) : Upd S w w := ⟨rfl, rfl, rfl, Nat.le_refl _, fun _ _ _ => rfl⟩
theorem Upd.trans {S S' : Nat → Prop} {a b c : World} (h : Upd S a b) (k : Upd S' b c) (hs : ∀ i, i < a.heap.size → S' i → S i) : Upd S a c :=
  ⟨k.os.trans h.os, k.tape.trans h.tape, k.output.trans h.output, Nat.le_trans h.size k.size, fun i hi hn =>
    (k.block i (Nat.lt_of_lt_of_le hi h.size) (fun hS => hn (hs i hi hS))).trans (h.block i hi hn)⟩
theorem Upd.mono {S S' : Nat → Prop} {a b : World} (h : Upd S a b) (hs : ∀ i, i < a.heap.size → S i → S' i) : Upd S' a b :=
  ⟨h.os, h.tape, h.output, h.size, fun i hi hn => h.block i hi (fun hS => hn (hs i hi hS))⟩
theorem Upd.drew {S : Nat → Prop} {a b : World} (h : Upd S a b) : Upd S a b.drew := ⟨h.os, h.tape, h.output, h.size, h.block⟩
theorem Upd.alloc {S : Nat → Prop} {a b : World} (h : Upd S a b) (o : Obj) : Upd S a (b.alloc o) :=
  ⟨h.os, h.tape, h.output, Nat.le_trans h.size (by simp), fun k hk hn => (Below.heap_alloc _ _ _ (Nat.lt_of_lt_of_le hk h.size)).trans (h.block k hk hn)⟩
theorem Upd.setCell {S : Nat → Prop} {a b : World} (h : Upd S a b) {p : Addr} (hp : p.block < a.heap.size → S p.block) (u : Value) : Upd S a (b.setCell p u) :=
  ⟨h.os, h.tape, h.output, Nat.le_trans h.size (by simp [World.setCell]), fun k hk hn =>
    (Below.heap_setCell _ _ _ _ (fun e => hn (by subst e; exact hp hk))).trans (h.block k hk hn)⟩
theorem Upd.grown {S : Nat → Prop} {a w w' : World} {row : Option Nat} (h : Upd S a w) (hg : w.grownBy w' row) (hr : ∀ k, row = some k → k < a.heap.size → S k) : Upd S a w' :=
  ⟨hg.os.trans h.os, hg.tape.trans h.tape, hg.output.trans h.output, Nat.le_trans h.size hg.size, fun k hk hn =>
    (hg.block k (Nat.lt_of_lt_of_le hk h.size) (fun e => hn (hr k e.symm hk))).trans (h.block k hk hn)⟩
theorem Upd.below {w w' : World} (h : Upd (fun _ => False) w w') : Below w.heap.size w w' := ⟨h.os, h.tape, h.output, h.size, fun k hk => h.block k hk (fun f => f)⟩
theorem Upd.of_below {w w' : World} {S : Nat → Prop} (h : Below w.heap.size w w') : Upd S w w' := ⟨h.os, h.tape, h.output, h.size, fun k hk _ => h.block k hk⟩
theorem Upd.get {S : Nat → Prop} {w w' : World} (h : Upd S w w') {k : Nat} {o : Obj} (hb : w.heap[k]? = some o) (hn : ¬ S k) : w'.heap[k]? = some o :=
  (h.block k (lt_of_block hb) hn).trans hb

/-- Block b holds these cells, none of them frozen. -/
def Blk (w : World) (b : Nat) (c : Array Value) (t : TypeId) : Prop := w.heap[b]? = some (.cells c t (0, 0))

theorem Blk.lt {w : World} {b : Nat} {c : Array Value} {t : TypeId} (h : Blk w b c t) : b < w.heap.size := lt_of_block h
theorem Blk.cell {w : World} {b : Nat} {c : Array Value} {t : TypeId} (h : Blk w b c t) {i : Nat} {v : Value} (hv : c[i]? = some v) : w.cell? ⟨b, i, none⟩ = some v := by
  unfold Blk at h; simp [World.cell?, h, hv]
theorem Blk.frozen {w : World} {b : Nat} {c : Array Value} {t : TypeId} (h : Blk w b c t) (i : Nat) : w.frozen? ⟨b, i, none⟩ = false := by
  unfold Blk at h; simp [World.frozen?, h]
theorem Blk.upd {S : Nat → Prop} {w w' : World} {b : Nat} {c : Array Value} {t : TypeId} (h : Blk w b c t) (u : Upd S w w') (hn : ¬ S b) : Blk w' b c t := u.get h hn
theorem Blk.drew {w : World} {b : Nat} {c : Array Value} {t : TypeId} (h : Blk w b c t) : Blk w.drew b c t := h
theorem Blk.alloc {w : World} {b : Nat} {c : Array Value} {t : TypeId} (h : Blk w b c t) (o : Obj) : Blk (w.alloc o) b c t := (Below.heap_alloc w o b h.lt).trans h
theorem Blk.new (w : World) (c : Array Value) (t : TypeId) : Blk (w.alloc (.cells c t)) w.heap.size c t := heap_alloc_new w _
theorem Blk.other {w : World} {b : Nat} {c : Array Value} {t : TypeId} (h : Blk w b c t) {a : Addr} (hne : b ≠ a.block) (u : Value) : Blk (w.setCell a u) b c t :=
  (Below.heap_setCell w a u b hne).trans h
theorem Blk.set {w : World} {b : Nat} {c : Array Value} {t : TypeId} (h : Blk w b c t) (i : Nat) (u : Value) : Blk (w.setCell ⟨b, i, none⟩ u) b (c.setIfInBounds i u) t := by
  unfold Blk at *; simp [World.setCell, Array.getElem?_modify, h]
theorem Blk.inj {w : World} {b : Nat} {c c' : Array Value} {t t' : TypeId} (h : Blk w b c t) (h' : Blk w b c' t') : c = c' ∧ t = t' := by
  unfold Blk at *; rw [h] at h'; simp at h'; exact h'

/-- The first n cells of block b are f 0, f 1, .. -/
def Row (w : World) (b n : Nat) (t : TypeId) (f : Nat → Value) : Prop := ∃ c, Blk w b c t ∧ ∀ i, i < n → c[i]? = some (f i)

theorem Row.lt {w : World} {b n : Nat} {t : TypeId} {f : Nat → Value} (h : Row w b n t f) : b < w.heap.size := let ⟨_, h, _⟩ := h; h.lt
theorem Row.cell {w : World} {b n : Nat} {t : TypeId} {f : Nat → Value} (h : Row w b n t f) {i : Nat} (hi : i < n) : w.cell? ⟨b, i, none⟩ = some (f i) :=
  let ⟨_, h, hc⟩ := h; h.cell (hc i hi)
theorem Row.frozen {w : World} {b n : Nat} {t : TypeId} {f : Nat → Value} (h : Row w b n t f) (i : Nat) : w.frozen? ⟨b, i, none⟩ = false := let ⟨_, h, _⟩ := h; h.frozen i
theorem Row.upd {S : Nat → Prop} {w w' : World} {b n : Nat} {t : TypeId} {f : Nat → Value} (h : Row w b n t f) (u : Upd S w w') (hn : ¬ S b) : Row w' b n t f :=
  let ⟨c, h, hc⟩ := h; ⟨c, h.upd u hn, hc⟩
theorem Row.below {w w' : World} {b n : Nat} {t : TypeId} {f : Nat → Value} (h : Row w b n t f) (hb : Below w.heap.size w w') : Row w' b n t f :=
  let ⟨c, h, hc⟩ := h; ⟨c, (hb.block b h.lt).trans h, hc⟩
theorem Blk.below {w w' : World} {b : Nat} {c : Array Value} {t : TypeId} (h : Blk w b c t) (hb : Below w.heap.size w w') : Blk w' b c t := (hb.block b h.lt).trans h
theorem Row.drew {w : World} {b n : Nat} {t : TypeId} {f : Nat → Value} (h : Row w b n t f) : Row w.drew b n t f := h
theorem Row.alloc {w : World} {b n : Nat} {t : TypeId} {f : Nat → Value} (h : Row w b n t f) (o : Obj) : Row (w.alloc o) b n t f := let ⟨c, h, hc⟩ := h; ⟨c, h.alloc o, hc⟩
theorem Row.other {w : World} {b n : Nat} {t : TypeId} {f : Nat → Value} (h : Row w b n t f) {a : Addr} (hne : b ≠ a.block) (u : Value) : Row (w.setCell a u) b n t f :=
  let ⟨c, h, hc⟩ := h; ⟨c, h.other hne u, hc⟩
theorem Row.set {w : World} {b n : Nat} {t : TypeId} {f : Nat → Value} (h : Row w b n t f) (k : Nat) (u : Value) : Row (w.setCell ⟨b, k, none⟩ u) b n t (fun i => if i = k then u else f i) := by
  obtain ⟨c, h, hc⟩ := h
  refine ⟨_, h.set k u, fun i hi => ?_⟩
  have := hc i hi
  have hlt : i < c.size := by rcases Nat.lt_or_ge i c.size with h | h; exact h; simp [Array.getElem?_eq_none h] at this
  by_cases e : i = k
  · subst e; simp [hlt]
  · simp [e, Ne.symm e, this]
theorem Row.congr {w : World} {b n : Nat} {t : TypeId} {f g : Nat → Value} (h : Row w b n t f) (hfg : ∀ i, i < n → f i = g i) : Row w b n t g :=
  let ⟨c, h, hc⟩ := h; ⟨c, h, fun i hi => (hc i hi).trans (by rw [hfg i hi])⟩
theorem Row.new (w : World) (c : Array Value) (t : TypeId) (n : Nat) (f : Nat → Value) (hc : ∀ i, i < n → c[i]? = some (f i)) : Row (w.alloc (.cells c t)) w.heap.size n t f := ⟨c, Blk.new w c t, hc⟩

end Go.Proofs.YtbpaamnofkhonaaDoor
