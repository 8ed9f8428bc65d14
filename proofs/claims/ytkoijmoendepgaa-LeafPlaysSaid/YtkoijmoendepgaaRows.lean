/-
  No cell of these rows narrows 'for every input' (looked for: loops, veiled, ifaces, maps, wideKeys, modest, calm, conditions, laid).
  DERIVED. THE GIVEN ROWS OF THIS SEAT. 5 by the template 'for every input the law returns true; each argument reads behind the call as it read before'; 0 by the template 'total and deterministic' (their statements: YtkoijmoendepgaaTotals.lean).
  GIVEN WITH THE SEED: the statements are not yours to turn. If you find one false, say at which input.
  Laid BY PROGRAM, IN A SANDBOX (cutbox-rows.mjs): the forced cells as the released guide's own fill.sh prints them over the translation 19e7ff2562ee1186… (all of the seat's roots in one cut). By AI agents, Wed Nov 11 2026. No macro, syntax, notation, axiom, sorry.
-/
import Derived.Test.YtkoijmoendepgaaChecked
import GoSem.Claim
import GoSem.ClaimJoined
import GoSem.ClaimMapViews
import Derived.JoinedTies
import Derived.KernelRfl
namespace Go.Proofs.Ytkoijmoendepgaa
/- THE CELL 'sum', in the pinned program and in every row, IS THE sha256 OF THE DUMP (.gsa) THAT YtkoijmoendepgaaProg.lean LOADS. Nothing in Lean hashes anything: it is a label: what it is worth is what the hold of that sum in a sandbox is worth. -/
noncomputable def Try.pinned : Pinned := { name := "ytkoijmoendepgaa", sum := "19e7ff2562ee1186ccb7b173f844b2064530cd80d5cc57739bc33a6262f35ce7", checked := Try.checked }
namespace Rows
def none {H : Type} : Left H := { results := [], args := [] }

/-- 'bedrocklaw33.LeafEncodes': WHATEVER THE INPUT: true; the input reads as it did. -/
def leafEncodesSpec : ChangeSpec := { name := "leafEncodes", fn := fun _ => fun
  | [d1, d2, d3] => { results := [.lit (.bool true)], args := [d1, d2, d3] }
  | _ => none }
def leafEncodesRow : OpenClaim := { program := "ytkoijmoendepgaa", sum := "19e7ff2562ee1186ccb7b173f844b2064530cd80d5cc57739bc33a6262f35ce7", func := "bedrock/bedrocklaw33.LeafEncodes", spec := "leafEncodes", unfollowed := true, recurses := true, apart := false }
def LeafEncodesSaid : Prop := leafEncodesRow.holds Try.pinned (OpenSpec.ofChange leafEncodesSpec)

/-- ITS FALSE NEIGHBOUR: 'it returns false'. Refute it at one input. -/
def leafEncodesWrong : ChangeSpec := { name := "leafEncodes", fn := fun _ => fun
  | [d1, d2, d3] => { results := [.lit (.bool false)], args := [d1, d2, d3] }
  | _ => none }
def LeafEncodesWrongFalsely : Prop := leafEncodesRow.holds Try.pinned (OpenSpec.ofChange leafEncodesWrong)

/-- 'bedrocklaw33.LeafRefuses': WHATEVER THE INPUT: true; the input reads as it did. -/
def leafRefusesSpec : ChangeSpec := { name := "leafRefuses", fn := fun _ => fun
  | [d1, d2, d3] => { results := [.lit (.bool true)], args := [d1, d2, d3] }
  | _ => none }
def leafRefusesRow : OpenClaim := { program := "ytkoijmoendepgaa", sum := "19e7ff2562ee1186ccb7b173f844b2064530cd80d5cc57739bc33a6262f35ce7", func := "bedrock/bedrocklaw33.LeafRefuses", spec := "leafRefuses", unfollowed := true, recurses := true, apart := false }
def LeafRefusesSaid : Prop := leafRefusesRow.holds Try.pinned (OpenSpec.ofChange leafRefusesSpec)

/-- ITS FALSE NEIGHBOUR: 'it returns false'. Refute it at one input. -/
def leafRefusesWrong : ChangeSpec := { name := "leafRefuses", fn := fun _ => fun
  | [d1, d2, d3] => { results := [.lit (.bool false)], args := [d1, d2, d3] }
  | _ => none }
def LeafRefusesWrongFalsely : Prop := leafRefusesRow.holds Try.pinned (OpenSpec.ofChange leafRefusesWrong)

/-- 'bedrocklaw33.LeafJoins': WHATEVER THE INPUT: true; the input reads as it did. -/
def leafJoinsSpec : ChangeSpec := { name := "leafJoins", fn := fun _ => fun
  | [d1, d2] => { results := [.lit (.bool true)], args := [d1, d2] }
  | _ => none }
def leafJoinsRow : OpenClaim := { program := "ytkoijmoendepgaa", sum := "19e7ff2562ee1186ccb7b173f844b2064530cd80d5cc57739bc33a6262f35ce7", func := "bedrock/bedrocklaw33.LeafJoins", spec := "leafJoins", unfollowed := true, recurses := true, apart := false }
def LeafJoinsSaid : Prop := leafJoinsRow.holds Try.pinned (OpenSpec.ofChange leafJoinsSpec)

/-- ITS FALSE NEIGHBOUR: 'it returns false'. Refute it at one input. -/
def leafJoinsWrong : ChangeSpec := { name := "leafJoins", fn := fun _ => fun
  | [d1, d2] => { results := [.lit (.bool false)], args := [d1, d2] }
  | _ => none }
def LeafJoinsWrongFalsely : Prop := leafJoinsRow.holds Try.pinned (OpenSpec.ofChange leafJoinsWrong)

/-- 'bedrocklaw33.LeafReads': WHATEVER THE INPUT: true; the input reads as it did. -/
def leafReadsSpec : ChangeSpec := { name := "leafReads", fn := fun _ => fun
  | [d1, d2, d3] => { results := [.lit (.bool true)], args := [d1, d2, d3] }
  | _ => none }
def leafReadsRow : OpenClaim := { program := "ytkoijmoendepgaa", sum := "19e7ff2562ee1186ccb7b173f844b2064530cd80d5cc57739bc33a6262f35ce7", func := "bedrock/bedrocklaw33.LeafReads", spec := "leafReads", unfollowed := true, recurses := true, apart := false }
def LeafReadsSaid : Prop := leafReadsRow.holds Try.pinned (OpenSpec.ofChange leafReadsSpec)

/-- ITS FALSE NEIGHBOUR: 'it returns false'. Refute it at one input. -/
def leafReadsWrong : ChangeSpec := { name := "leafReads", fn := fun _ => fun
  | [d1, d2, d3] => { results := [.lit (.bool false)], args := [d1, d2, d3] }
  | _ => none }
def LeafReadsWrongFalsely : Prop := leafReadsRow.holds Try.pinned (OpenSpec.ofChange leafReadsWrong)

/-- 'bedrocklaw33.LeafPlays': WHATEVER THE INPUT: true; the input reads as it did. -/
def leafPlaysSpec : ChangeSpec := { name := "leafPlays", fn := fun _ => fun
  | [d1, d2, d3] => { results := [.lit (.bool true)], args := [d1, d2, d3] }
  | _ => none }
def leafPlaysRow : OpenClaim := { program := "ytkoijmoendepgaa", sum := "19e7ff2562ee1186ccb7b173f844b2064530cd80d5cc57739bc33a6262f35ce7", func := "bedrock/bedrocklaw33.LeafPlays", spec := "leafPlays", unfollowed := true, recurses := true, apart := false }
def LeafPlaysSaid : Prop := leafPlaysRow.holds Try.pinned (OpenSpec.ofChange leafPlaysSpec)

/-- ITS FALSE NEIGHBOUR: 'it returns false'. Refute it at one input. -/
def leafPlaysWrong : ChangeSpec := { name := "leafPlays", fn := fun _ => fun
  | [d1, d2, d3] => { results := [.lit (.bool false)], args := [d1, d2, d3] }
  | _ => none }
def LeafPlaysWrongFalsely : Prop := leafPlaysRow.holds Try.pinned (OpenSpec.ofChange leafPlaysWrong)

/- THE SECOND FORM. 'bulk': how many values and letters a reading holds, each counted each time it is reached (what is shared counts as often as it is met; a slice's spare places count too). A statement '..UptoSaid' is the law's where the arguments, and the package variables that the reading takes, are together of bulk at most 1048576: NARROWER than '..Said'. Prove '..Said' where nothing that the law and all that it calls make is longer than what came in: it says more and counts as full. Else prove '..UptoSaid'. A law counts once. -/
mutual
def uptoBulk {H : Type} : DataW H → Nat
  | .lit (.string bytes) => bytes.length + 1
  | .lit _ => 1
  | .nil => 1
  | .ptr d => uptoBulk d + 1
  | .slice elems spare => uptoBulkAll elems + uptoBulkAll spare + 1
  | .agg parts => uptoBulkAll parts + 1
  | .iface _ d => uptoBulk d + 1
  | .map entries => uptoBulkEntries entries + 1
  | .held _ => 1
def uptoBulkAll {H : Type} : List (DataW H) → Nat
  | [] => 0
  | d :: r => uptoBulk d + uptoBulkAll r
def uptoBulkEntries {H : Type} : List (Lit × DataW H) → Nat
  | [] => 0
  | x :: r => uptoBulkEntry x + uptoBulkEntries r
def uptoBulkEntry {H : Type} : Lit × DataW H → Nat
  | (.string bytes, d) => bytes.length + uptoBulk d + 1
  | (_, d) => uptoBulk d + 1
 end
def uptoSmall : (H : Type) → List (DataW H) → Bool := fun _ ds => decide (uptoBulkAll ds ≤ 1048576)
def OpenSpec.upto (s : _root_.Go.ChangeSpec) : _root_.Go.OpenSpec := { _root_.Go.OpenSpec.ofChange s with cond := some uptoSmall }

/-- 'bedrocklaw33.LeafEncodes', WHERE WHAT IT READS IS OF BULK AT MOST 1048576: true; the input reads as it did. -/
def leafEncodesUptoRow : OpenClaim := { program := "ytkoijmoendepgaa", sum := "19e7ff2562ee1186ccb7b173f844b2064530cd80d5cc57739bc33a6262f35ce7", func := "bedrock/bedrocklaw33.LeafEncodes", spec := "leafEncodes", unfollowed := true, recurses := true, apart := false, narrowed := true }
def LeafEncodesUptoSaid : Prop := leafEncodesUptoRow.holds Try.pinned (OpenSpec.upto leafEncodesSpec)

/-- 'bedrocklaw33.LeafRefuses', WHERE WHAT IT READS IS OF BULK AT MOST 1048576: true; the input reads as it did. -/
def leafRefusesUptoRow : OpenClaim := { program := "ytkoijmoendepgaa", sum := "19e7ff2562ee1186ccb7b173f844b2064530cd80d5cc57739bc33a6262f35ce7", func := "bedrock/bedrocklaw33.LeafRefuses", spec := "leafRefuses", unfollowed := true, recurses := true, apart := false, narrowed := true }
def LeafRefusesUptoSaid : Prop := leafRefusesUptoRow.holds Try.pinned (OpenSpec.upto leafRefusesSpec)

/-- 'bedrocklaw33.LeafJoins', WHERE WHAT IT READS IS OF BULK AT MOST 1048576: true; the input reads as it did. -/
def leafJoinsUptoRow : OpenClaim := { program := "ytkoijmoendepgaa", sum := "19e7ff2562ee1186ccb7b173f844b2064530cd80d5cc57739bc33a6262f35ce7", func := "bedrock/bedrocklaw33.LeafJoins", spec := "leafJoins", unfollowed := true, recurses := true, apart := false, narrowed := true }
def LeafJoinsUptoSaid : Prop := leafJoinsUptoRow.holds Try.pinned (OpenSpec.upto leafJoinsSpec)

/-- 'bedrocklaw33.LeafReads', WHERE WHAT IT READS IS OF BULK AT MOST 1048576: true; the input reads as it did. -/
def leafReadsUptoRow : OpenClaim := { program := "ytkoijmoendepgaa", sum := "19e7ff2562ee1186ccb7b173f844b2064530cd80d5cc57739bc33a6262f35ce7", func := "bedrock/bedrocklaw33.LeafReads", spec := "leafReads", unfollowed := true, recurses := true, apart := false, narrowed := true }
def LeafReadsUptoSaid : Prop := leafReadsUptoRow.holds Try.pinned (OpenSpec.upto leafReadsSpec)

/-- 'bedrocklaw33.LeafPlays', WHERE WHAT IT READS IS OF BULK AT MOST 1048576: true; the input reads as it did. -/
def leafPlaysUptoRow : OpenClaim := { program := "ytkoijmoendepgaa", sum := "19e7ff2562ee1186ccb7b173f844b2064530cd80d5cc57739bc33a6262f35ce7", func := "bedrock/bedrocklaw33.LeafPlays", spec := "leafPlays", unfollowed := true, recurses := true, apart := false, narrowed := true }
def LeafPlaysUptoSaid : Prop := leafPlaysUptoRow.holds Try.pinned (OpenSpec.upto leafPlaysSpec)

end Rows
end Go.Proofs.Ytkoijmoendepgaa
