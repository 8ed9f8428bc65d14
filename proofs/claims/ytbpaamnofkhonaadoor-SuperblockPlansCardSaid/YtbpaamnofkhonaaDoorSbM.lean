/- The superblock as plain data. -/
import Derived.Test.YtbpaamnofkhonaaDoorCrcM
namespace Go.Proofs.YtbpaamnofkhonaaDoor
open Go.RowKit

/-- A superblock. -/
structure Sup where
  ver : Int
  lin : Int
  redo : Int
  und : Int
  desc : Int
  que : Int
  tab : Int
  gen : Int
namespace Sup
def cells (s : Sup) : Array Value := #[.int .i64 s.ver, .int .i64 s.lin, .int .i64 s.redo, .int .i64 s.und, .int .i64 s.desc, .int .i64 s.que, .int .i64 s.tab, .int .u64 s.gen]
def rest (s : Sup) : Int := s.lin - 2 - 8 - s.redo - s.und - s.desc - 1 - s.que - s.tab
/-- It describes a pool. -/
structure Ok (s : Sup) : Prop where
  v1 : 1 ≤ s.ver
  v2 : s.ver ≤ 65535
  l1 : 1 ≤ s.lin
  l2 : s.lin ≤ 4096
  r1 : 1 ≤ s.redo
  u1 : 1 ≤ s.und
  d1 : 1 ≤ s.desc
  q1 : 0 ≤ s.que
  t1 : 0 ≤ s.tab
  r2 : s.redo ≤ s.lin
  u2 : s.und ≤ s.lin
  d2 : s.desc ≤ s.lin
  q2 : s.que ≤ s.lin
  t2 : s.tab ≤ s.lin
  h : 32 ≤ s.rest
instance (s : Sup) : Decidable s.Ok :=
  if h : 1 ≤ s.ver ∧ s.ver ≤ 65535 ∧ 1 ≤ s.lin ∧ s.lin ≤ 4096 ∧ 1 ≤ s.redo ∧ 1 ≤ s.und ∧ 1 ≤ s.desc ∧ 0 ≤ s.que ∧ 0 ≤ s.tab ∧ s.redo ≤ s.lin ∧ s.und ≤ s.lin ∧ s.desc ≤ s.lin ∧ s.que ≤ s.lin ∧ s.tab ≤ s.lin ∧ 32 ≤ s.rest then
    .isTrue ⟨h.1, h.2.1, h.2.2.1, h.2.2.2.1, h.2.2.2.2.1, h.2.2.2.2.2.1, h.2.2.2.2.2.2.1, h.2.2.2.2.2.2.2.1, h.2.2.2.2.2.2.2.2.1, h.2.2.2.2.2.2.2.2.2.1, h.2.2.2.2.2.2.2.2.2.2.1, h.2.2.2.2.2.2.2.2.2.2.2.1, h.2.2.2.2.2.2.2.2.2.2.2.2.1, h.2.2.2.2.2.2.2.2.2.2.2.2.2.1, h.2.2.2.2.2.2.2.2.2.2.2.2.2.2⟩
  else .isFalse fun k => h ⟨k.v1, k.v2, k.l1, k.l2, k.r1, k.u1, k.d1, k.q1, k.t1, k.r2, k.u2, k.d2, k.q2, k.t2, k.h⟩
def okB (s : Sup) : Bool := decide s.Ok
def heap (s : Sup) : Int := if s.rest < 32 then 0 else s.rest - s.rest % 32
def w2 (s : Sup) : Nat := (s.ver + s.lin * 65536 + s.redo * 4294967296 + s.und * 281474976710656).toNat
def w3 (s : Sup) : Nat := (s.desc + s.que * 65536 + s.tab * 4294967296).toNat
def first (s : Sup) : List Nat := [7738151121853964849, s.gen.toNat, s.w2, s.w3, 0, 0, 0]
/-- The words of its copy. -/
def words (s : Sup) : List Nat := s.first ++ [4294967296 + crcN s.first]
end Sup
end Go.Proofs.YtbpaamnofkhonaaDoor
