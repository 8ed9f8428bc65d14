/- The device as plain data: lines with a persisted content and a history of stores, eight threads, the power. -/
import Derived.Test.YtahpadhejjlpoaaGreatDoorBase
namespace Go.Proofs.YtahpadhejjlpoaaGreatDoor
open Go.RowKit

structure Dev where
  n : Nat
  pers : Nat → Int
  hist : Nat → List (Nat × Int)
  done : Nat → Nat
  err : Nat → Int
  note : Nat → Nat → Option Nat
  off : Bool
  armed : Bool
  left : Nat
  exec : Nat

/-- The value of word i behind these stores, if it was d before them. -/
def look (l : List (Nat × Int)) (d : Int) (i : Nat) : Int := l.foldl (fun d e => if e.1 / 8 = i then e.2 else d) d

theorem look_nil (d : Int) (i : Nat) : look [] d i = d := rfl
theorem look_snoc (l : List (Nat × Int)) (e : Nat × Int) (d : Int) (i : Nat) : look (l ++ [e]) d i = if e.1 / 8 = i then e.2 else look l d i := by
  simp [look, List.foldl_append]
theorem look_append (l l' : List (Nat × Int)) (d : Int) (i : Nat) : look (l ++ l') d i = look l' (look l d i) i := by
  simp [look, List.foldl_append]

namespace Dev
def cur (D : Dev) (i : Nat) : Int := look (D.hist (i / 8)) (D.pers i) i
def setErr (D : Dev) (j : Nat) (e : Int) : Dev := { D with err := fun k => if k = j then e else D.err k }
def fail (D : Dev) (j : Nat) (e : Int) : Dev := if D.err j = 0 then D.setErr j e else D
def wordB (D : Dev) (off : Nat) : Bool := decide (off % 8 = 0 ∧ off < 64 * D.n)
def onB (D : Dev) (valid : Bool) : Bool := !D.off && valid
def onD (D : Dev) (j : Nat) (valid : Bool) : Dev := if D.off then D.fail j 3 else if valid then D else D.fail j 2
def cut (D : Dev) : Bool := D.armed && D.left == 0
def countedB (D : Dev) (valid : Bool) : Bool := D.onB valid && !D.cut
def tick (D : Dev) : Dev := { D with left := if D.armed then D.left - 1 else D.left, exec := D.exec + 1 }
def countedD (D : Dev) (j : Nat) (valid : Bool) : Dev :=
  if D.onB valid then (if D.cut then ({ D with off := true } : Dev).fail j 3 else D.tick) else D.onD j valid
def put (D : Dev) (off : Nat) (x : Int) : Dev := { D with hist := fun i => if i = off / 64 then D.hist i ++ [(off, x)] else D.hist i }
def store (D : Dev) (j off : Nat) (x : Int) : Dev := if D.countedB (D.wordB off) then (D.countedD j (D.wordB off)).put off x else D.countedD j (D.wordB off)
def loadV (D : Dev) (off : Nat) : Int := if D.onB (D.wordB off) then D.cur (off / 8) else 0
def loadD (D : Dev) (j off : Nat) : Dev := D.onD j (D.wordB off)
def inB (D : Dev) (off : Nat) : Bool := decide (off < 64 * D.n)
def jot (D : Dev) (j l : Nat) : Dev := { D with note := fun k m => if k = j ∧ m = l then some (D.done l + (D.hist l).length) else D.note k m }
def flush (D : Dev) (j off : Nat) : Dev := if D.countedB (D.inB off) then (D.countedD j (D.inB off)).jot j (off / 64) else D.countedD j (D.inB off)
/-- The first k stores of line l become persistent. -/
def persist (D : Dev) (l k : Nat) : Dev :=
  { D with pers := fun i => if i / 8 = l then look ((D.hist l).take k) (D.pers i) i else D.pers i
           hist := fun i => if i = l then (D.hist i).drop k else D.hist i
           done := fun i => if i = l then D.done i + k else D.done i }
def owed (D : Dev) (j l : Nat) : Nat := match D.note j l with | some p => p - D.done l | none => 0
/-- All lines that thread j has noted become persistent up to the noted place. -/
def sync (D : Dev) (j : Nat) : Dev :=
  { D with pers := fun i => look ((D.hist (i / 8)).take (D.owed j (i / 8))) (D.pers i) i
           hist := fun i => (D.hist i).drop (D.owed j i)
           done := fun i => D.done i + D.owed j i
           note := fun k m => if k = j then none else D.note k m }
def fence (D : Dev) (j : Nat) : Dev := if D.countedB true then (D.countedD j true).sync j else D.countedD j true
end Dev

/-- The bounds that hold of every device. -/
structure Dev.WF (D : Dev) : Prop where
  pos : 0 < D.n
  le : D.n ≤ 4096
  line : ∀ i, i < D.n → ∀ e ∈ D.hist i, e.1 / 64 = i ∧ e.1 % 8 = 0
  cnt : ∀ i, i < D.n → D.done i + (D.hist i).length ≤ D.exec
  note : ∀ j l p, D.note j l = some p → l < D.n ∧ p ≤ D.done l + (D.hist l).length
  left : D.left ≤ 9223372036854775807

inductive Role where
  | dev | pers | cur | lines | thr (j : Nat) | notes (j : Nat) | hist (i : Nat)
  deriving DecidableEq

/-- Where a device lies. -/
structure DV where
  db : Nat
  pb : Nat
  pc : Nat
  cb : Nat
  cc : Nat
  lb : Nat
  tb : Nat → Nat
  nb : Nat → Nat

def devCells (v : DV) (D : Dev) : Array Value :=
  #[.slice (some ⟨v.pb, 0, none⟩) (8 * D.n) v.pc, .slice (some ⟨v.cb, 0, none⟩) (8 * D.n) v.cc, .slice (some ⟨v.lb, 0, none⟩) D.n D.n,
    .pointer (some ⟨v.tb 0, 0, none⟩), .pointer (some ⟨v.tb 1, 0, none⟩), .pointer (some ⟨v.tb 2, 0, none⟩), .pointer (some ⟨v.tb 3, 0, none⟩),
    .pointer (some ⟨v.tb 4, 0, none⟩), .pointer (some ⟨v.tb 5, 0, none⟩), .pointer (some ⟨v.tb 6, 0, none⟩), .pointer (some ⟨v.tb 7, 0, none⟩),
    .bool D.off, .bool D.armed, .int .i64 D.left, .int .u64 D.exec]

theorem devCells_thr (v : DV) (D : Dev) (j : Nat) (h : j < 8) : (devCells v D)[3 + j]? = some (.pointer (some ⟨v.tb j, 0, none⟩)) := by
  obtain rfl | rfl | rfl | rfl | rfl | rfl | rfl | rfl : j = 0 ∨ j = 1 ∨ j = 2 ∨ j = 3 ∨ j = 4 ∨ j = 5 ∨ j = 6 ∨ j = 7 := by omega
  all_goals rfl

def thrCells (v : DV) (D : Dev) (j : Nat) : Array Value := #[.pointer (some ⟨v.db, 0, none⟩), .int .i64 j, .int .i64 (D.err j), .map (some (v.nb j))]

/-- Stores as cells. -/
def flat (h : List (Nat × Int)) : List Value := h.flatMap fun e => [.int .u64 e.1, .int .u64 e.2]
theorem flat_append (a b : List (Nat × Int)) : flat (a ++ b) = flat a ++ flat b := by simp [flat]
theorem flat_length (h : List (Nat × Int)) : (flat h).length = h.length * 2 := by
  induction h with
  | nil => rfl
  | cons e l ih => simp [flat] at *; omega
theorem flat_get (h : List (Nat × Int)) : ∀ (k : Nat) (e : Nat × Int), h[k]? = some e → (flat h)[2 * k]? = some (.int .u64 e.1) ∧ (flat h)[2 * k + 1]? = some (.int .u64 e.2) := by
  induction h with
  | nil => intro k e h; simp at h
  | cons x l ih =>
    intro k e he
    have hf : flat (x :: l) = .int .u64 x.1 :: .int .u64 x.2 :: flat l := rfl
    cases k with
    | zero => simp at he; subst he; simp [hf]
    | succ k =>
      have := ih k e (by simpa using he)
      rw [hf, show 2 * (k + 1) = 2 * k + 1 + 1 from by omega]
      simpa using this
theorem flat_drop (h : List (Nat × Int)) : ∀ k, (flat h).drop (k * 2) = flat (h.drop k) := by
  induction h with
  | nil => intro k; simp [flat]
  | cons x l ih =>
    intro k
    cases k with
    | zero => simp
    | succ k =>
      have hf : flat (x :: l) = .int .u64 x.1 :: .int .u64 x.2 :: flat l := rfl
      rw [hf, show (k + 1) * 2 = k * 2 + 1 + 1 from by omega]
      simpa using ih k
theorem flat_one (h : List (Nat × Int)) : ∀ u ∈ flat h, u.oneCell' = true := by
  intro u hu
  simp [flat] at hu
  obtain ⟨a, b, _, rfl | rfl⟩ := hu <;> rfl

/-- The stores h of a line lie in memory as the slice value v; its block is the line's own. -/
def HistAt (w : World) (own : Nat → Option Role) (wt : TypeId) (i : Nat) (v : Value) (h : List (Nat × Int)) : Prop :=
  OwnSl w wt 2 v h.length (flat h) ∧ ∀ g, v.ownBlock = some g → own g = some (.hist i)

theorem HistAt.mono {w w' : World} {own own' : Nat → Option Role} {wt : TypeId} {i : Nat} {v : Value} {h : List (Nat × Int)} (H : HistAt w own wt i v h)
    (ho : ∀ g, own g = some (.hist i) → g < w.heap.size → own' g = some (.hist i)) (hb : ∀ g, own g = some (.hist i) → g < w.heap.size → w'.heap[g]? = w.heap[g]?) : HistAt w' own' wt i v h :=
  ⟨H.1.kept (fun k hk => hb k (H.2 k hk) (H.1.lt k hk)), fun g hg => ho g (H.2 g hg) (H.1.lt g hg)⟩

/-- What thread j has noted, as a map of the program. -/
def NotesAt (P : Program) (kt et : TypeId) (w : World) (b : Nat) (B : Nat) (f : Nat → Option Nat) : Prop :=
  ∃ (m : Nat) (N : DataW Unit), m ≤ B ∧ w.ownsMap P kt (plainElem P et) b m N ∧ (∀ l p, f l = some p → p < 18446744073709551616) ∧
    (∀ x : Int, Maps.has N (.int .i64 x) = true → ∃ l p : Nat, x = l ∧ f l = some p) ∧
    ∀ l p, f l = some p → Maps.has N (.int .i64 l) = true ∧ ∀ z, N.atKey (.int .i64 l) z = .lit (.int .u64 p)

end Go.Proofs.YtahpadhejjlpoaaGreatDoor
