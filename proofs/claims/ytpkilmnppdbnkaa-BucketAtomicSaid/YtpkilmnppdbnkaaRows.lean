/-
  No cell of these rows narrows 'for every input' (looked for: loops, veiled, ifaces, maps, wideKeys, modest, calm, conditions, laid).
  DERIVED. THE GIVEN ROWS OF THIS SEAT. 5 by the template 'for every input the law returns true; each argument reads behind the call as it read before'; 0 by the template 'total and deterministic' (their statements: YtpkilmnppdbnkaaTotals.lean).
  GIVEN WITH THE SEED: the statements are not yours to turn. If you find one false, say at which input.
  Laid BY PROGRAM, IN A SANDBOX (cutbox-rows.mjs): the forced cells as the released guide's own fill.sh prints them over the translation ad42d4b66d26e583… (all of the seat's roots in one cut). By AI agents, Wed Nov 11 2026. No macro, syntax, notation, axiom, sorry.
-/
import Derived.Test.YtpkilmnppdbnkaaChecked
import GoSem.Claim
import GoSem.ClaimJoined
import GoSem.ClaimMapViews
import Derived.JoinedTies
import Derived.KernelRfl
namespace Go.Proofs.Ytpkilmnppdbnkaa
/- THE CELL 'sum', in the pinned program and in every row, IS THE sha256 OF THE DUMP (.gsa) THAT YtpkilmnppdbnkaaProg.lean LOADS. Nothing in Lean hashes anything: it is a label: what it is worth is what the hold of that sum in a sandbox is worth. -/
noncomputable def Try.pinned : Pinned := { name := "ytpkilmnppdbnkaa", sum := "ad42d4b66d26e58374d0818fc10792d873e9ed866643e5283b8eda76e3a10772", checked := Try.checked }
namespace Rows
def none {H : Type} : Left H := { results := [], args := [] }

/-- 'bedrocklaw31.BucketIsMap': WHATEVER THE INPUT: true; the input reads as it did. -/
def bucketIsMapSpec : ChangeSpec := { name := "bucketIsMap", fn := fun _ => fun
  | [d1, d2] => { results := [.lit (.bool true)], args := [d1, d2] }
  | _ => none }
def bucketIsMapRow : OpenClaim := { program := "ytpkilmnppdbnkaa", sum := "ad42d4b66d26e58374d0818fc10792d873e9ed866643e5283b8eda76e3a10772", func := "bedrock/bedrocklaw31.BucketIsMap", spec := "bucketIsMap", unfollowed := true, recurses := true, apart := false }
def BucketIsMapSaid : Prop := bucketIsMapRow.holds Try.pinned (OpenSpec.ofChange bucketIsMapSpec)

/-- ITS FALSE NEIGHBOUR: 'it returns false'. Refute it at one input. -/
def bucketIsMapWrong : ChangeSpec := { name := "bucketIsMap", fn := fun _ => fun
  | [d1, d2] => { results := [.lit (.bool false)], args := [d1, d2] }
  | _ => none }
def BucketIsMapWrongFalsely : Prop := bucketIsMapRow.holds Try.pinned (OpenSpec.ofChange bucketIsMapWrong)

/-- 'bedrocklaw31.BucketErrors': WHATEVER THE INPUT: true; the input reads as it did. -/
def bucketErrorsSpec : ChangeSpec := { name := "bucketErrors", fn := fun _ => fun
  | [d1, d2, d3] => { results := [.lit (.bool true)], args := [d1, d2, d3] }
  | _ => none }
def bucketErrorsRow : OpenClaim := { program := "ytpkilmnppdbnkaa", sum := "ad42d4b66d26e58374d0818fc10792d873e9ed866643e5283b8eda76e3a10772", func := "bedrock/bedrocklaw31.BucketErrors", spec := "bucketErrors", unfollowed := true, recurses := true, apart := false }
def BucketErrorsSaid : Prop := bucketErrorsRow.holds Try.pinned (OpenSpec.ofChange bucketErrorsSpec)

/-- ITS FALSE NEIGHBOUR: 'it returns false'. Refute it at one input. -/
def bucketErrorsWrong : ChangeSpec := { name := "bucketErrors", fn := fun _ => fun
  | [d1, d2, d3] => { results := [.lit (.bool false)], args := [d1, d2, d3] }
  | _ => none }
def BucketErrorsWrongFalsely : Prop := bucketErrorsRow.holds Try.pinned (OpenSpec.ofChange bucketErrorsWrong)

/-- 'bedrocklaw31.BucketPlays': WHATEVER THE INPUT: true; the input reads as it did. -/
def bucketPlaysSpec : ChangeSpec := { name := "bucketPlays", fn := fun _ => fun
  | [d1, d2] => { results := [.lit (.bool true)], args := [d1, d2] }
  | _ => none }
def bucketPlaysRow : OpenClaim := { program := "ytpkilmnppdbnkaa", sum := "ad42d4b66d26e58374d0818fc10792d873e9ed866643e5283b8eda76e3a10772", func := "bedrock/bedrocklaw31.BucketPlays", spec := "bucketPlays", unfollowed := true, recurses := true, apart := false }
def BucketPlaysSaid : Prop := bucketPlaysRow.holds Try.pinned (OpenSpec.ofChange bucketPlaysSpec)

/-- ITS FALSE NEIGHBOUR: 'it returns false'. Refute it at one input. -/
def bucketPlaysWrong : ChangeSpec := { name := "bucketPlays", fn := fun _ => fun
  | [d1, d2] => { results := [.lit (.bool false)], args := [d1, d2] }
  | _ => none }
def BucketPlaysWrongFalsely : Prop := bucketPlaysRow.holds Try.pinned (OpenSpec.ofChange bucketPlaysWrong)

/-- 'bedrocklaw31.BucketPlans': WHATEVER THE INPUT: true; the input reads as it did. -/
def bucketPlansSpec : ChangeSpec := { name := "bucketPlans", fn := fun _ => fun
  | [d1, d2, d3] => { results := [.lit (.bool true)], args := [d1, d2, d3] }
  | _ => none }
def bucketPlansRow : OpenClaim := { program := "ytpkilmnppdbnkaa", sum := "ad42d4b66d26e58374d0818fc10792d873e9ed866643e5283b8eda76e3a10772", func := "bedrock/bedrocklaw31.BucketPlans", spec := "bucketPlans", unfollowed := true, recurses := true, apart := false }
def BucketPlansSaid : Prop := bucketPlansRow.holds Try.pinned (OpenSpec.ofChange bucketPlansSpec)

/-- ITS FALSE NEIGHBOUR: 'it returns false'. Refute it at one input. -/
def bucketPlansWrong : ChangeSpec := { name := "bucketPlans", fn := fun _ => fun
  | [d1, d2, d3] => { results := [.lit (.bool false)], args := [d1, d2, d3] }
  | _ => none }
def BucketPlansWrongFalsely : Prop := bucketPlansRow.holds Try.pinned (OpenSpec.ofChange bucketPlansWrong)

/-- 'bedrocklaw31.BucketAtomic': WHATEVER THE INPUT: true; the input reads as it did. -/
def bucketAtomicSpec : ChangeSpec := { name := "bucketAtomic", fn := fun _ => fun
  | [d1, d2, d3] => { results := [.lit (.bool true)], args := [d1, d2, d3] }
  | _ => none }
def bucketAtomicRow : OpenClaim := { program := "ytpkilmnppdbnkaa", sum := "ad42d4b66d26e58374d0818fc10792d873e9ed866643e5283b8eda76e3a10772", func := "bedrock/bedrocklaw31.BucketAtomic", spec := "bucketAtomic", inPlace := ["maps.clone"], unfollowed := true, recurses := true, apart := false }
def BucketAtomicSaid : Prop := bucketAtomicRow.holds Try.pinned (OpenSpec.ofChange bucketAtomicSpec)

/-- ITS FALSE NEIGHBOUR: 'it returns false'. Refute it at one input. -/
def bucketAtomicWrong : ChangeSpec := { name := "bucketAtomic", fn := fun _ => fun
  | [d1, d2, d3] => { results := [.lit (.bool false)], args := [d1, d2, d3] }
  | _ => none }
def BucketAtomicWrongFalsely : Prop := bucketAtomicRow.holds Try.pinned (OpenSpec.ofChange bucketAtomicWrong)

/- THE SECOND FORM. 'bulk': how many values and letters a reading holds, each counted each time it is reached (what is shared counts as often as it is met; a slice's spare places count too). A statement '..UptoSaid' is the law's where the arguments, and the package variables that the reading takes, are together of bulk at most 1048576: NARROWER than '..Said'. Prove '..Said' where nothing that the law and all that it calls make is longer than what came in: it says more and counts as full. Else prove '..UptoSaid'. A law counts once. -/
mutual
def uptoBulk {H : Type} : DataW H → Nat
  | .lit (.string bytes) => bytes.length + 1
  | .lit _ => 1
  | .nil => 1
  | .ptr d => uptoBulk d + 1
  | .slice elems spare => uptoBulkAll elems + uptoBulkAll spare + 1
  | .agg parts => uptoBulkAll parts + 1
  | .iface _ d => uptoBulk d + 1
  | .map entries => uptoBulkEntries entries + 1
  | .held _ => 1
def uptoBulkAll {H : Type} : List (DataW H) → Nat
  | [] => 0
  | d :: r => uptoBulk d + uptoBulkAll r
def uptoBulkEntries {H : Type} : List (Lit × DataW H) → Nat
  | [] => 0
  | x :: r => uptoBulkEntry x + uptoBulkEntries r
def uptoBulkEntry {H : Type} : Lit × DataW H → Nat
  | (.string bytes, d) => bytes.length + uptoBulk d + 1
  | (_, d) => uptoBulk d + 1
 end
def uptoSmall : (H : Type) → List (DataW H) → Bool := fun _ ds => decide (uptoBulkAll ds ≤ 1048576)
def OpenSpec.upto (s : _root_.Go.ChangeSpec) : _root_.Go.OpenSpec := { _root_.Go.OpenSpec.ofChange s with cond := some uptoSmall }

/-- 'bedrocklaw31.BucketIsMap', WHERE WHAT IT READS IS OF BULK AT MOST 1048576: true; the input reads as it did. -/
def bucketIsMapUptoRow : OpenClaim := { program := "ytpkilmnppdbnkaa", sum := "ad42d4b66d26e58374d0818fc10792d873e9ed866643e5283b8eda76e3a10772", func := "bedrock/bedrocklaw31.BucketIsMap", spec := "bucketIsMap", unfollowed := true, recurses := true, apart := false, narrowed := true }
def BucketIsMapUptoSaid : Prop := bucketIsMapUptoRow.holds Try.pinned (OpenSpec.upto bucketIsMapSpec)

/-- 'bedrocklaw31.BucketErrors', WHERE WHAT IT READS IS OF BULK AT MOST 1048576: true; the input reads as it did. -/
def bucketErrorsUptoRow : OpenClaim := { program := "ytpkilmnppdbnkaa", sum := "ad42d4b66d26e58374d0818fc10792d873e9ed866643e5283b8eda76e3a10772", func := "bedrock/bedrocklaw31.BucketErrors", spec := "bucketErrors", unfollowed := true, recurses := true, apart := false, narrowed := true }
def BucketErrorsUptoSaid : Prop := bucketErrorsUptoRow.holds Try.pinned (OpenSpec.upto bucketErrorsSpec)

/-- 'bedrocklaw31.BucketPlays', WHERE WHAT IT READS IS OF BULK AT MOST 1048576: true; the input reads as it did. -/
def bucketPlaysUptoRow : OpenClaim := { program := "ytpkilmnppdbnkaa", sum := "ad42d4b66d26e58374d0818fc10792d873e9ed866643e5283b8eda76e3a10772", func := "bedrock/bedrocklaw31.BucketPlays", spec := "bucketPlays", unfollowed := true, recurses := true, apart := false, narrowed := true }
def BucketPlaysUptoSaid : Prop := bucketPlaysUptoRow.holds Try.pinned (OpenSpec.upto bucketPlaysSpec)

/-- 'bedrocklaw31.BucketPlans', WHERE WHAT IT READS IS OF BULK AT MOST 1048576: true; the input reads as it did. -/
def bucketPlansUptoRow : OpenClaim := { program := "ytpkilmnppdbnkaa", sum := "ad42d4b66d26e58374d0818fc10792d873e9ed866643e5283b8eda76e3a10772", func := "bedrock/bedrocklaw31.BucketPlans", spec := "bucketPlans", unfollowed := true, recurses := true, apart := false, narrowed := true }
def BucketPlansUptoSaid : Prop := bucketPlansUptoRow.holds Try.pinned (OpenSpec.upto bucketPlansSpec)

/-- 'bedrocklaw31.BucketAtomic', WHERE WHAT IT READS IS OF BULK AT MOST 1048576: true; the input reads as it did. -/
def bucketAtomicUptoRow : OpenClaim := { program := "ytpkilmnppdbnkaa", sum := "ad42d4b66d26e58374d0818fc10792d873e9ed866643e5283b8eda76e3a10772", func := "bedrock/bedrocklaw31.BucketAtomic", spec := "bucketAtomic", inPlace := ["maps.clone"], unfollowed := true, recurses := true, apart := false, narrowed := true }
def BucketAtomicUptoSaid : Prop := bucketAtomicUptoRow.holds Try.pinned (OpenSpec.upto bucketAtomicSpec)

end Rows
end Go.Proofs.Ytpkilmnppdbnkaa
