/- Plain facts about lines and stores (written by genr11p.py out of R10 and R11). No program in sight. -/
import Derived.Test.YtdidpppjkbgccaaDoorGen
import Derived.Test.YtdidpppjkbgccaaDoorGen
import Derived.Test.YtdidpppjkbgccaaDoorLinesM
namespace Go.Proofs.YtdidpppjkbgccaaDoor
open Go.RowKit
attribute [local go_sem ↓] Go.wp_at_zero Go.wp_at_succ
section
variable {w : World}
/-- The slices of a row and one more word, put together. -/
theorem lines_end {w3 : World} {v3 : Value} {out : List Nat} {i l : Nat} (hi : i ≤ out.length) (o : OwnSl w3 42 1 v3 (0 + i + 1 + (out.length - i)) ([] ++ natsU (out.take i) ++ natsU [l] ++ natsU (out.drop i))) : OwnSl w3 42 1 v3 (out.take i ++ l :: out.drop i).length (natsU (out.take i ++ l :: out.drop i)) := by
  have e1 : (out.take i ++ l :: out.drop i).length = 0 + i + 1 + (out.length - i) := by simp; omega
  have e2 : natsU (out.take i ++ l :: out.drop i) = [] ++ natsU (out.take i) ++ natsU [l] ++ natsU (out.drop i) := by simp [natsU]
  rw [e1, e2]; exact o
theorem ownNewAt (w : World) (c : Array Value) (e : TypeId) (size n cap b : Nat) (hb : b = w.heap.size) (hs : c.size = cap * size) (hn : n ≤ cap) (hm : cap ≤ maxLen) :
    OwnSl (w.alloc (.cells c e)) e size (.slice (Option.some ⟨b, 0, none⟩) n cap) n (c.toList.take (n * size)) := by subst hb; exact OwnSl.new w c e size n cap hs hn hm
theorem sz1 (w : World) (o : Obj) : w.heap.size ≤ (w.alloc o).drew.heap.size := by simp [World.drew]
theorem sz2 (w : World) (o o' : Obj) : w.heap.size ≤ ((w.alloc o).alloc o').drew.heap.size := by simp [World.drew]; omega
theorem lt2 (w : World) (o o' : Obj) : w.heap.size + 1 < ((w.alloc o).alloc o').drew.heap.size := by simp [World.drew]
theorem lt2' (w : World) (o o' : Obj) : w.heap.size < ((w.alloc o).alloc o').drew.heap.size := by simp [World.drew]; omega
theorem ob_ne {a b : Nat} (h : a ≠ b) : (Value.slice (some ⟨a, 0, none⟩) 0 0).ownBlock ≠ some b := fun e => h (by simpa [Value.ownBlock] using e)
/-- The lines collected so far. -/
structure LnAt (w : World) (offs : List Nat) (k : Nat) (ov : Value) (wr : World) : Prop where
  acc : Acc w w.heap.size wr 42 1 ov (linesL (offs.take k)).length (natsU (linesL (offs.take k)))
theorem rd_newer {wz w1 : World} {g : Nat} {l : Nat} {k : Value} (h : RdSl wz 1 (.slice (some ⟨g, 0, none⟩) 1 1) 1 (natsU [l])) (hg : wz.grownBy w1 k.ownBlock) (hlt : g < wz.heap.size) (hne : k.ownBlock ≠ some g) : RdSl w1 1 (.slice (some ⟨g, 0, none⟩) 1 1) 1 (natsU [l]) :=
  h.kept (fun b hb _ => by simp [Value.ownBlock] at hb; subst hb; exact hg.block _ hlt (fun e => hne e.symm))
theorem LnAt.step {w wo w3 : World} {offs : List Nat} {k o : Nat} {ov v3 : Value} {i : Nat} (h : LnAt w offs k ov wo) (ho : offs[k]? = some o) (hi : lowN (linesL (offs.take k)) (o / 64) = i) (hne : (linesL (offs.take k))[i]? ≠ some (o / 64))
    (h3 : OwnSl w3 42 1 v3 ((linesL (offs.take k)).take i ++ (o / 64) :: (linesL (offs.take k)).drop i).length (natsU ((linesL (offs.take k)).take i ++ (o / 64) :: (linesL (offs.take k)).drop i))) (hb : Below wo.heap.size wo w3 ∧ ∀ g, v3.ownBlock = some g → wo.heap.size ≤ g) : LnAt w offs (k + 1) v3 w3 := by
  have e : linesL (offs.take (k + 1)) = (linesL (offs.take k)).take i ++ (o / 64) :: (linesL (offs.take k)).drop i := by
    rw [take_snoc_at offs k o ho, linesL_snoc]; unfold insL; rw [hi, if_neg hne]
  refine ⟨?_⟩
  rw [e]
  exact ⟨h3, fun g hg => Nat.le_trans h.acc.bel.size (hb.2 g hg), h.acc.bel.trans (hb.1.mono h.acc.bel.size), Nat.le_trans h.acc.lt hb.1.size⟩
theorem LnAt.skip {w wo : World} {offs : List Nat} {k o : Nat} {ov : Value} {i : Nat} (h : LnAt w offs k ov wo) (ho : offs[k]? = some o) (hi : lowN (linesL (offs.take k)) (o / 64) = i) (he : (linesL (offs.take k))[i]? = some (o / 64)) : LnAt w offs (k + 1) ov wo := by
  have e : linesL (offs.take (k + 1)) = linesL (offs.take k) := by rw [take_snoc_at offs k o ho, linesL_snoc]; unfold insL; rw [hi, if_pos he]
  exact ⟨by rw [e]; exact h.acc⟩
end
end Go.Proofs.YtdidpppjkbgccaaDoor
namespace Go.Proofs.YtdidpppjkbgccaaDoor
open Go.RowKit
section
variable {w : World}
def flC (l : List Nat) : List (Nat × Nat × Int) := l.map fun x => (2, 64 * x, 0)
theorem flC_snoc (l : List Nat) (x : Nat) : flC (l ++ [x]) = flC l ++ [(2, 64 * x, 0)] := by simp [flC]
def stC (ws : List (Nat × Int)) : List (Nat × Nat × Int) := ws.map fun e => (1, e.1, e.2)
theorem stC_snoc (l : List (Nat × Int)) (e : Nat × Int) : stC (l ++ [e]) = stC l ++ [(1, e.1, e.2)] := by simp [stC]
theorem flushL_len (offs : List Nat) : (flushL offs).length ≤ offs.length + 1 := by
  have := linesL_len offs
  unfold flushL; split <;> simp; omega
theorem Acc.newer {w wr w1 : World} {B : Nat} {e : TypeId} {s n : Nat} {v : Value} {xs : List Value} (h : Acc w B wr e s v n xs) (hb : Below wr.heap.size wr w1) : Acc w B w1 e s v n xs := h.keep hb
end
end Go.Proofs.YtdidpppjkbgccaaDoor
