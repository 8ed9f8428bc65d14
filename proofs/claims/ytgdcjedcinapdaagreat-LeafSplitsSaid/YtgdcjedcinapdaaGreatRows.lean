/-
  No cell of these rows narrows 'for every input' (looked for: loops, veiled, ifaces, maps, wideKeys, modest, calm, conditions, laid).
  DERIVED. THE GIVEN ROWS OF THIS SEAT. 5 by the template 'for every input the law returns true; each argument reads behind the call as it read before'; 0 by the template 'total and deterministic' (their statements: YtgdcjedcinapdaaGreatTotals.lean).
  GIVEN WITH THE SEED: the statements are not yours to turn. If you find one false, say at which input.
  Laid BY PROGRAM, IN A SANDBOX (cutbox-rows.mjs): the forced cells as the released guide's own fill.sh prints them over the translation c064cca79ce00c7f… (all of the seat's roots in one cut). By AI agents, Wed Nov 11 2026. No macro, syntax, notation, axiom, sorry.
-/
import Derived.Test.YtgdcjedcinapdaaGreatChecked
import GoSem.Claim
import GoSem.ClaimJoined
import GoSem.ClaimMapViews
import Derived.JoinedTies
import Derived.KernelRfl
namespace Go.Proofs.YtgdcjedcinapdaaGreat
/- THE CELL 'sum', in the pinned program and in every row, IS THE sha256 OF THE DUMP (.gsa) THAT YtgdcjedcinapdaaGreatProg.lean LOADS. Nothing in Lean hashes anything: it is a label: what it is worth is what the hold of that sum in a sandbox is worth. -/
noncomputable def Tryz.pinned : Pinned := { name := "ytgdcjedcinapdaagreat", sum := "c064cca79ce00c7f6318e77bf2b62a8144e606f939de9d4d0b0ddb2bc39c6ef7", checked := Tryz.checked }
namespace Rows
def none {H : Type} : Left H := { results := [], args := [] }

/-- 'bedrocklaw33.LeafChecks': WHATEVER THE INPUT: true; the input reads as it did. -/
def leafChecksSpec : ChangeSpec := { name := "leafChecks", fn := fun _ => fun
  | [d1, d2, d3] => { results := [.lit (.bool true)], args := [d1, d2, d3] }
  | _ => none }
def leafChecksRow : OpenClaim := { program := "ytgdcjedcinapdaagreat", sum := "c064cca79ce00c7f6318e77bf2b62a8144e606f939de9d4d0b0ddb2bc39c6ef7", func := "bedrock/bedrocklaw33.LeafChecks", spec := "leafChecks", unfollowed := true, recurses := true, apart := false }
def LeafChecksSaid : Prop := leafChecksRow.holds Tryz.pinned (OpenSpec.ofChange leafChecksSpec)

/-- ITS FALSE NEIGHBOUR: 'it returns false'. Refute it at one input. -/
def leafChecksWrong : ChangeSpec := { name := "leafChecks", fn := fun _ => fun
  | [d1, d2, d3] => { results := [.lit (.bool false)], args := [d1, d2, d3] }
  | _ => none }
def LeafChecksWrongFalsely : Prop := leafChecksRow.holds Tryz.pinned (OpenSpec.ofChange leafChecksWrong)

/-- 'bedrocklaw33.LeafPuts': WHATEVER THE INPUT: true; the input reads as it did. -/
def leafPutsSpec : ChangeSpec := { name := "leafPuts", fn := fun _ => fun
  | [d1, d2, d3] => { results := [.lit (.bool true)], args := [d1, d2, d3] }
  | _ => none }
def leafPutsRow : OpenClaim := { program := "ytgdcjedcinapdaagreat", sum := "c064cca79ce00c7f6318e77bf2b62a8144e606f939de9d4d0b0ddb2bc39c6ef7", func := "bedrock/bedrocklaw33.LeafPuts", spec := "leafPuts", unfollowed := true, recurses := true, apart := false }
def LeafPutsSaid : Prop := leafPutsRow.holds Tryz.pinned (OpenSpec.ofChange leafPutsSpec)

/-- ITS FALSE NEIGHBOUR: 'it returns false'. Refute it at one input. -/
def leafPutsWrong : ChangeSpec := { name := "leafPuts", fn := fun _ => fun
  | [d1, d2, d3] => { results := [.lit (.bool false)], args := [d1, d2, d3] }
  | _ => none }
def LeafPutsWrongFalsely : Prop := leafPutsRow.holds Tryz.pinned (OpenSpec.ofChange leafPutsWrong)

/-- 'bedrocklaw33.LeafDeletes': WHATEVER THE INPUT: true; the input reads as it did. -/
def leafDeletesSpec : ChangeSpec := { name := "leafDeletes", fn := fun _ => fun
  | [d1, d2] => { results := [.lit (.bool true)], args := [d1, d2] }
  | _ => none }
def leafDeletesRow : OpenClaim := { program := "ytgdcjedcinapdaagreat", sum := "c064cca79ce00c7f6318e77bf2b62a8144e606f939de9d4d0b0ddb2bc39c6ef7", func := "bedrock/bedrocklaw33.LeafDeletes", spec := "leafDeletes", unfollowed := true, recurses := true, apart := false }
def LeafDeletesSaid : Prop := leafDeletesRow.holds Tryz.pinned (OpenSpec.ofChange leafDeletesSpec)

/-- ITS FALSE NEIGHBOUR: 'it returns false'. Refute it at one input. -/
def leafDeletesWrong : ChangeSpec := { name := "leafDeletes", fn := fun _ => fun
  | [d1, d2] => { results := [.lit (.bool false)], args := [d1, d2] }
  | _ => none }
def LeafDeletesWrongFalsely : Prop := leafDeletesRow.holds Tryz.pinned (OpenSpec.ofChange leafDeletesWrong)

/-- 'bedrocklaw33.LeafReadable': WHATEVER THE INPUT: true; the input reads as it did. -/
def leafReadableSpec : ChangeSpec := { name := "leafReadable", fn := fun _ => fun
  | [d1, d2, d3] => { results := [.lit (.bool true)], args := [d1, d2, d3] }
  | _ => none }
def leafReadableRow : OpenClaim := { program := "ytgdcjedcinapdaagreat", sum := "c064cca79ce00c7f6318e77bf2b62a8144e606f939de9d4d0b0ddb2bc39c6ef7", func := "bedrock/bedrocklaw33.LeafReadable", spec := "leafReadable", unfollowed := true, recurses := true, apart := false }
def LeafReadableSaid : Prop := leafReadableRow.holds Tryz.pinned (OpenSpec.ofChange leafReadableSpec)

/-- ITS FALSE NEIGHBOUR: 'it returns false'. Refute it at one input. -/
def leafReadableWrong : ChangeSpec := { name := "leafReadable", fn := fun _ => fun
  | [d1, d2, d3] => { results := [.lit (.bool false)], args := [d1, d2, d3] }
  | _ => none }
def LeafReadableWrongFalsely : Prop := leafReadableRow.holds Tryz.pinned (OpenSpec.ofChange leafReadableWrong)

/-- 'bedrocklaw33.LeafSplits': WHATEVER THE INPUT: true; the input reads as it did. -/
def leafSplitsSpec : ChangeSpec := { name := "leafSplits", fn := fun _ => fun
  | [d1, d2] => { results := [.lit (.bool true)], args := [d1, d2] }
  | _ => none }
def leafSplitsRow : OpenClaim := { program := "ytgdcjedcinapdaagreat", sum := "c064cca79ce00c7f6318e77bf2b62a8144e606f939de9d4d0b0ddb2bc39c6ef7", func := "bedrock/bedrocklaw33.LeafSplits", spec := "leafSplits", unfollowed := true, recurses := true, apart := false }
def LeafSplitsSaid : Prop := leafSplitsRow.holds Tryz.pinned (OpenSpec.ofChange leafSplitsSpec)

/-- ITS FALSE NEIGHBOUR: 'it returns false'. Refute it at one input. -/
def leafSplitsWrong : ChangeSpec := { name := "leafSplits", fn := fun _ => fun
  | [d1, d2] => { results := [.lit (.bool false)], args := [d1, d2] }
  | _ => none }
def LeafSplitsWrongFalsely : Prop := leafSplitsRow.holds Tryz.pinned (OpenSpec.ofChange leafSplitsWrong)

/- THE SECOND FORM. 'bulk': how many values and letters a reading holds, each counted each time it is reached (what is shared counts as often as it is met; a slice's spare places count too). A statement '..UptoSaid' is the law's where the arguments, and the package variables that the reading takes, are together of bulk at most 1048576: NARROWER than '..Said'. Prove '..Said' where nothing that the law and all that it calls make is longer than what came in: it says more and counts as full. Else prove '..UptoSaid'. A law counts once. -/
mutual
def uptoBulk {H : Type} : DataW H → Nat
  | .lit (.string bytes) => bytes.length + 1
  | .lit _ => 1
  | .nil => 1
  | .ptr d => uptoBulk d + 1
  | .slice elems spare => uptoBulkAll elems + uptoBulkAll spare + 1
  | .agg parts => uptoBulkAll parts + 1
  | .iface _ d => uptoBulk d + 1
  | .map entries => uptoBulkEntries entries + 1
  | .held _ => 1
def uptoBulkAll {H : Type} : List (DataW H) → Nat
  | [] => 0
  | d :: r => uptoBulk d + uptoBulkAll r
def uptoBulkEntries {H : Type} : List (Lit × DataW H) → Nat
  | [] => 0
  | x :: r => uptoBulkEntry x + uptoBulkEntries r
def uptoBulkEntry {H : Type} : Lit × DataW H → Nat
  | (.string bytes, d) => bytes.length + uptoBulk d + 1
  | (_, d) => uptoBulk d + 1
 end
def uptoSmall : (H : Type) → List (DataW H) → Bool := fun _ ds => decide (uptoBulkAll ds ≤ 1048576)
def OpenSpec.upto (s : _root_.Go.ChangeSpec) : _root_.Go.OpenSpec := { _root_.Go.OpenSpec.ofChange s with cond := some uptoSmall }

/-- 'bedrocklaw33.LeafChecks', WHERE WHAT IT READS IS OF BULK AT MOST 1048576: true; the input reads as it did. -/
def leafChecksUptoRow : OpenClaim := { program := "ytgdcjedcinapdaagreat", sum := "c064cca79ce00c7f6318e77bf2b62a8144e606f939de9d4d0b0ddb2bc39c6ef7", func := "bedrock/bedrocklaw33.LeafChecks", spec := "leafChecks", unfollowed := true, recurses := true, apart := false, narrowed := true }
def LeafChecksUptoSaid : Prop := leafChecksUptoRow.holds Tryz.pinned (OpenSpec.upto leafChecksSpec)

/-- 'bedrocklaw33.LeafPuts', WHERE WHAT IT READS IS OF BULK AT MOST 1048576: true; the input reads as it did. -/
def leafPutsUptoRow : OpenClaim := { program := "ytgdcjedcinapdaagreat", sum := "c064cca79ce00c7f6318e77bf2b62a8144e606f939de9d4d0b0ddb2bc39c6ef7", func := "bedrock/bedrocklaw33.LeafPuts", spec := "leafPuts", unfollowed := true, recurses := true, apart := false, narrowed := true }
def LeafPutsUptoSaid : Prop := leafPutsUptoRow.holds Tryz.pinned (OpenSpec.upto leafPutsSpec)

/-- 'bedrocklaw33.LeafDeletes', WHERE WHAT IT READS IS OF BULK AT MOST 1048576: true; the input reads as it did. -/
def leafDeletesUptoRow : OpenClaim := { program := "ytgdcjedcinapdaagreat", sum := "c064cca79ce00c7f6318e77bf2b62a8144e606f939de9d4d0b0ddb2bc39c6ef7", func := "bedrock/bedrocklaw33.LeafDeletes", spec := "leafDeletes", unfollowed := true, recurses := true, apart := false, narrowed := true }
def LeafDeletesUptoSaid : Prop := leafDeletesUptoRow.holds Tryz.pinned (OpenSpec.upto leafDeletesSpec)

/-- 'bedrocklaw33.LeafReadable', WHERE WHAT IT READS IS OF BULK AT MOST 1048576: true; the input reads as it did. -/
def leafReadableUptoRow : OpenClaim := { program := "ytgdcjedcinapdaagreat", sum := "c064cca79ce00c7f6318e77bf2b62a8144e606f939de9d4d0b0ddb2bc39c6ef7", func := "bedrock/bedrocklaw33.LeafReadable", spec := "leafReadable", unfollowed := true, recurses := true, apart := false, narrowed := true }
def LeafReadableUptoSaid : Prop := leafReadableUptoRow.holds Tryz.pinned (OpenSpec.upto leafReadableSpec)

/-- 'bedrocklaw33.LeafSplits', WHERE WHAT IT READS IS OF BULK AT MOST 1048576: true; the input reads as it did. -/
def leafSplitsUptoRow : OpenClaim := { program := "ytgdcjedcinapdaagreat", sum := "c064cca79ce00c7f6318e77bf2b62a8144e606f939de9d4d0b0ddb2bc39c6ef7", func := "bedrock/bedrocklaw33.LeafSplits", spec := "leafSplits", unfollowed := true, recurses := true, apart := false, narrowed := true }
def LeafSplitsUptoSaid : Prop := leafSplitsUptoRow.holds Tryz.pinned (OpenSpec.upto leafSplitsSpec)

end Rows
end Go.Proofs.YtgdcjedcinapdaaGreat
