/-
  NARROWER THAN 'FOR EVERY INPUT', by the rows' own cells (each row's printed sentence says how): UndoRegions: laid · UndoSaves: laid · UndoPlans: laid · UndoOff: laid · UndoLooks: laid · UndoCommits: laid · UndoTwice: laid · UndoAtomic: laid.
  DERIVED. THE GIVEN ROWS OF THIS SEAT. 8 by the template 'for every input the law returns true; each argument reads behind the call as it read before'; 0 by the template 'total and deterministic' (their statements: YtokgplgdaememaaDoorTotals.lean).
  GIVEN WITH THE SEED: the statements are not yours to turn. If you find one false, say at which input.
  Laid BY PROGRAM, IN A SANDBOX (cutbox-rows.mjs): the forced cells as the released guide's own fill.sh prints them over the translation 24b42e77d132e8d1… (all of the seat's roots in one cut). By AI agents, Wed Nov 11 2026. No macro, syntax, notation, axiom, sorry.
-/
import Derived.Test.YtokgplgdaememaaDoorChecked
import GoSem.Claim
import GoSem.ClaimJoined
import GoSem.ClaimMapViews
import Derived.JoinedTies
import Derived.KernelRfl
namespace Go.Proofs.YtokgplgdaememaaDoor
/- THE CELL 'sum', in the pinned program and in every row, IS THE sha256 OF THE DUMP (.gsa) THAT YtokgplgdaememaaDoorProg.lean LOADS. Nothing in Lean hashes anything: it is a label: what it is worth is what the hold of that sum in a sandbox is worth. -/
noncomputable def Tryd.pinned : Pinned := { name := "ytokgplgdaememaadoor", sum := "24b42e77d132e8d16d412974cb780e03af8b6febb241c18fa716ab257dc50ab0", checked := Tryd.checked }
namespace Rows
def none {H : Type} : Left H := { results := [], args := [] }

/- WHAT THE LISTED PACKAGE-LEVEL VARIABLES READ AS WHEN THE CALL BEGINS. Each datum BY PROGRAM (the guide's laid-datum.mjs) off the statement by which the dump's own 'gosem.cut.vars' lays the variable. In a bare row this is a premise. The card (YtokgplgdaememaaDoorCards.lean) ties it to the program's text. -/
def laid_bedrock_bedrocklaw16_where {H : Type} : DataW H := .agg [.lit (.int .u64 192), .lit (.int .u64 512), .lit (.int .u64 1536)]

/-- 'bedrocklaw16.UndoRegions': WHATEVER THE INPUT: true; the input reads as it did. -/
def undoRegionsSpec : ChangeSpec := { name := "undoRegions", fn := fun _ => fun
  | [d1, d2, d3] => { results := [.lit (.bool true)], args := [d1, d2, d3] }
  | _ => none }
def undoRegionsRow : OpenClaim := { program := "ytokgplgdaememaadoor", sum := "24b42e77d132e8d16d412974cb780e03af8b6febb241c18fa716ab257dc50ab0", func := "bedrock/bedrocklaw16.UndoRegions", spec := "undoRegions", unfollowed := true, recurses := true, named := ["bedrock/bedrocklaw16.where"], apart := false, laid := [("bedrock/bedrocklaw16.where", laid_bedrock_bedrocklaw16_where)] }
def UndoRegionsSaid : Prop := undoRegionsRow.holds Tryd.pinned (OpenSpec.ofChange undoRegionsSpec)

/-- ITS FALSE NEIGHBOUR: 'it returns false'. Refute it at one input. -/
def undoRegionsWrong : ChangeSpec := { name := "undoRegions", fn := fun _ => fun
  | [d1, d2, d3] => { results := [.lit (.bool false)], args := [d1, d2, d3] }
  | _ => none }
def UndoRegionsWrongFalsely : Prop := undoRegionsRow.holds Tryd.pinned (OpenSpec.ofChange undoRegionsWrong)

/-- 'bedrocklaw16.UndoSaves': WHATEVER THE INPUT: true; the input reads as it did. -/
def undoSavesSpec : ChangeSpec := { name := "undoSaves", fn := fun _ => fun
  | [d] => { results := [.lit (.bool true)], args := [d] }
  | _ => none }
def undoSavesRow : OpenClaim := { program := "ytokgplgdaememaadoor", sum := "24b42e77d132e8d16d412974cb780e03af8b6febb241c18fa716ab257dc50ab0", func := "bedrock/bedrocklaw16.UndoSaves", spec := "undoSaves", unfollowed := true, recurses := true, named := ["bedrock/bedrocklaw16.where"], apart := false, laid := [("bedrock/bedrocklaw16.where", laid_bedrock_bedrocklaw16_where)] }
def UndoSavesSaid : Prop := undoSavesRow.holds Tryd.pinned (OpenSpec.ofChange undoSavesSpec)

/-- ITS FALSE NEIGHBOUR: 'it returns false'. Refute it at one input. -/
def undoSavesWrong : ChangeSpec := { name := "undoSaves", fn := fun _ => fun
  | [d] => { results := [.lit (.bool false)], args := [d] }
  | _ => none }
def UndoSavesWrongFalsely : Prop := undoSavesRow.holds Tryd.pinned (OpenSpec.ofChange undoSavesWrong)

/-- 'bedrocklaw16.UndoPlans': WHATEVER THE INPUT: true; the input reads as it did. -/
def undoPlansSpec : ChangeSpec := { name := "undoPlans", fn := fun _ => fun
  | [d1, d2] => { results := [.lit (.bool true)], args := [d1, d2] }
  | _ => none }
def undoPlansRow : OpenClaim := { program := "ytokgplgdaememaadoor", sum := "24b42e77d132e8d16d412974cb780e03af8b6febb241c18fa716ab257dc50ab0", func := "bedrock/bedrocklaw16.UndoPlans", spec := "undoPlans", unfollowed := true, recurses := true, named := ["bedrock/bedrocklaw16.where"], apart := false, laid := [("bedrock/bedrocklaw16.where", laid_bedrock_bedrocklaw16_where)] }
def UndoPlansSaid : Prop := undoPlansRow.holds Tryd.pinned (OpenSpec.ofChange undoPlansSpec)

/-- ITS FALSE NEIGHBOUR: 'it returns false'. Refute it at one input. -/
def undoPlansWrong : ChangeSpec := { name := "undoPlans", fn := fun _ => fun
  | [d1, d2] => { results := [.lit (.bool false)], args := [d1, d2] }
  | _ => none }
def UndoPlansWrongFalsely : Prop := undoPlansRow.holds Tryd.pinned (OpenSpec.ofChange undoPlansWrong)

/-- 'bedrocklaw16.UndoOff': WHATEVER THE INPUT: true; the input reads as it did. -/
def undoOffSpec : ChangeSpec := { name := "undoOff", fn := fun _ => fun
  | [d] => { results := [.lit (.bool true)], args := [d] }
  | _ => none }
def undoOffRow : OpenClaim := { program := "ytokgplgdaememaadoor", sum := "24b42e77d132e8d16d412974cb780e03af8b6febb241c18fa716ab257dc50ab0", func := "bedrock/bedrocklaw16.UndoOff", spec := "undoOff", unfollowed := true, recurses := true, named := ["bedrock/bedrocklaw16.where"], apart := false, laid := [("bedrock/bedrocklaw16.where", laid_bedrock_bedrocklaw16_where)] }
def UndoOffSaid : Prop := undoOffRow.holds Tryd.pinned (OpenSpec.ofChange undoOffSpec)

/-- ITS FALSE NEIGHBOUR: 'it returns false'. Refute it at one input. -/
def undoOffWrong : ChangeSpec := { name := "undoOff", fn := fun _ => fun
  | [d] => { results := [.lit (.bool false)], args := [d] }
  | _ => none }
def UndoOffWrongFalsely : Prop := undoOffRow.holds Tryd.pinned (OpenSpec.ofChange undoOffWrong)

/-- 'bedrocklaw16.UndoLooks': WHATEVER THE INPUT: true; the input reads as it did. -/
def undoLooksSpec : ChangeSpec := { name := "undoLooks", fn := fun _ => fun
  | [d1, d2] => { results := [.lit (.bool true)], args := [d1, d2] }
  | _ => none }
def undoLooksRow : OpenClaim := { program := "ytokgplgdaememaadoor", sum := "24b42e77d132e8d16d412974cb780e03af8b6febb241c18fa716ab257dc50ab0", func := "bedrock/bedrocklaw16.UndoLooks", spec := "undoLooks", unfollowed := true, recurses := true, named := ["bedrock/bedrocklaw16.where"], apart := false, laid := [("bedrock/bedrocklaw16.where", laid_bedrock_bedrocklaw16_where)] }
def UndoLooksSaid : Prop := undoLooksRow.holds Tryd.pinned (OpenSpec.ofChange undoLooksSpec)

/-- ITS FALSE NEIGHBOUR: 'it returns false'. Refute it at one input. -/
def undoLooksWrong : ChangeSpec := { name := "undoLooks", fn := fun _ => fun
  | [d1, d2] => { results := [.lit (.bool false)], args := [d1, d2] }
  | _ => none }
def UndoLooksWrongFalsely : Prop := undoLooksRow.holds Tryd.pinned (OpenSpec.ofChange undoLooksWrong)

/-- 'bedrocklaw16.UndoCommits': WHATEVER THE INPUT: true; the input reads as it did. -/
def undoCommitsSpec : ChangeSpec := { name := "undoCommits", fn := fun _ => fun
  | [d1, d2] => { results := [.lit (.bool true)], args := [d1, d2] }
  | _ => none }
def undoCommitsRow : OpenClaim := { program := "ytokgplgdaememaadoor", sum := "24b42e77d132e8d16d412974cb780e03af8b6febb241c18fa716ab257dc50ab0", func := "bedrock/bedrocklaw16.UndoCommits", spec := "undoCommits", unfollowed := true, recurses := true, named := ["bedrock/bedrocklaw16.where"], apart := false, laid := [("bedrock/bedrocklaw16.where", laid_bedrock_bedrocklaw16_where)] }
def UndoCommitsSaid : Prop := undoCommitsRow.holds Tryd.pinned (OpenSpec.ofChange undoCommitsSpec)

/-- ITS FALSE NEIGHBOUR: 'it returns false'. Refute it at one input. -/
def undoCommitsWrong : ChangeSpec := { name := "undoCommits", fn := fun _ => fun
  | [d1, d2] => { results := [.lit (.bool false)], args := [d1, d2] }
  | _ => none }
def UndoCommitsWrongFalsely : Prop := undoCommitsRow.holds Tryd.pinned (OpenSpec.ofChange undoCommitsWrong)

/-- 'bedrocklaw16.UndoTwice': WHATEVER THE INPUT: true; the input reads as it did. -/
def undoTwiceSpec : ChangeSpec := { name := "undoTwice", fn := fun _ => fun
  | [d1, d2, d3] => { results := [.lit (.bool true)], args := [d1, d2, d3] }
  | _ => none }
def undoTwiceRow : OpenClaim := { program := "ytokgplgdaememaadoor", sum := "24b42e77d132e8d16d412974cb780e03af8b6febb241c18fa716ab257dc50ab0", func := "bedrock/bedrocklaw16.UndoTwice", spec := "undoTwice", unfollowed := true, recurses := true, named := ["bedrock/bedrocklaw16.where"], apart := false, laid := [("bedrock/bedrocklaw16.where", laid_bedrock_bedrocklaw16_where)] }
def UndoTwiceSaid : Prop := undoTwiceRow.holds Tryd.pinned (OpenSpec.ofChange undoTwiceSpec)

/-- ITS FALSE NEIGHBOUR: 'it returns false'. Refute it at one input. -/
def undoTwiceWrong : ChangeSpec := { name := "undoTwice", fn := fun _ => fun
  | [d1, d2, d3] => { results := [.lit (.bool false)], args := [d1, d2, d3] }
  | _ => none }
def UndoTwiceWrongFalsely : Prop := undoTwiceRow.holds Tryd.pinned (OpenSpec.ofChange undoTwiceWrong)

/-- 'bedrocklaw16.UndoAtomic': WHATEVER THE INPUT: true; the input reads as it did. -/
def undoAtomicSpec : ChangeSpec := { name := "undoAtomic", fn := fun _ => fun
  | [d1, d2, d3] => { results := [.lit (.bool true)], args := [d1, d2, d3] }
  | _ => none }
def undoAtomicRow : OpenClaim := { program := "ytokgplgdaememaadoor", sum := "24b42e77d132e8d16d412974cb780e03af8b6febb241c18fa716ab257dc50ab0", func := "bedrock/bedrocklaw16.UndoAtomic", spec := "undoAtomic", unfollowed := true, recurses := true, named := ["bedrock/bedrocklaw16.where"], apart := false, laid := [("bedrock/bedrocklaw16.where", laid_bedrock_bedrocklaw16_where)] }
def UndoAtomicSaid : Prop := undoAtomicRow.holds Tryd.pinned (OpenSpec.ofChange undoAtomicSpec)

/-- ITS FALSE NEIGHBOUR: 'it returns false'. Refute it at one input. -/
def undoAtomicWrong : ChangeSpec := { name := "undoAtomic", fn := fun _ => fun
  | [d1, d2, d3] => { results := [.lit (.bool false)], args := [d1, d2, d3] }
  | _ => none }
def UndoAtomicWrongFalsely : Prop := undoAtomicRow.holds Tryd.pinned (OpenSpec.ofChange undoAtomicWrong)

/- THE SECOND FORM. 'bulk': how many values and letters a reading holds, each counted each time it is reached (what is shared counts as often as it is met; a slice's spare places count too). A statement '..UptoSaid' is the law's where the arguments, and the package variables that the reading takes, are together of bulk at most 1048576: NARROWER than '..Said'. Prove '..Said' where nothing that the law and all that it calls make is longer than what came in: it says more and counts as full. Else prove '..UptoSaid'. A law counts once. -/
mutual
def uptoBulk {H : Type} : DataW H → Nat
  | .lit (.string bytes) => bytes.length + 1
  | .lit _ => 1
  | .nil => 1
  | .ptr d => uptoBulk d + 1
  | .slice elems spare => uptoBulkAll elems + uptoBulkAll spare + 1
  | .agg parts => uptoBulkAll parts + 1
  | .iface _ d => uptoBulk d + 1
  | .map entries => uptoBulkEntries entries + 1
  | .held _ => 1
def uptoBulkAll {H : Type} : List (DataW H) → Nat
  | [] => 0
  | d :: r => uptoBulk d + uptoBulkAll r
def uptoBulkEntries {H : Type} : List (Lit × DataW H) → Nat
  | [] => 0
  | x :: r => uptoBulkEntry x + uptoBulkEntries r
def uptoBulkEntry {H : Type} : Lit × DataW H → Nat
  | (.string bytes, d) => bytes.length + uptoBulk d + 1
  | (_, d) => uptoBulk d + 1
 end
def uptoSmall : (H : Type) → List (DataW H) → Bool := fun _ ds => decide (uptoBulkAll ds ≤ 1048576)
def OpenSpec.upto (s : _root_.Go.ChangeSpec) : _root_.Go.OpenSpec := { _root_.Go.OpenSpec.ofChange s with cond := some uptoSmall }

/-- 'bedrocklaw16.UndoRegions', WHERE WHAT IT READS IS OF BULK AT MOST 1048576: true; the input reads as it did. -/
def undoRegionsUptoRow : OpenClaim := { program := "ytokgplgdaememaadoor", sum := "24b42e77d132e8d16d412974cb780e03af8b6febb241c18fa716ab257dc50ab0", func := "bedrock/bedrocklaw16.UndoRegions", spec := "undoRegions", unfollowed := true, recurses := true, named := ["bedrock/bedrocklaw16.where"], apart := false, laid := [("bedrock/bedrocklaw16.where", laid_bedrock_bedrocklaw16_where)], narrowed := true }
def UndoRegionsUptoSaid : Prop := undoRegionsUptoRow.holds Tryd.pinned (OpenSpec.upto undoRegionsSpec)

/-- 'bedrocklaw16.UndoSaves', WHERE WHAT IT READS IS OF BULK AT MOST 1048576: true; the input reads as it did. -/
def undoSavesUptoRow : OpenClaim := { program := "ytokgplgdaememaadoor", sum := "24b42e77d132e8d16d412974cb780e03af8b6febb241c18fa716ab257dc50ab0", func := "bedrock/bedrocklaw16.UndoSaves", spec := "undoSaves", unfollowed := true, recurses := true, named := ["bedrock/bedrocklaw16.where"], apart := false, laid := [("bedrock/bedrocklaw16.where", laid_bedrock_bedrocklaw16_where)], narrowed := true }
def UndoSavesUptoSaid : Prop := undoSavesUptoRow.holds Tryd.pinned (OpenSpec.upto undoSavesSpec)

/-- 'bedrocklaw16.UndoPlans', WHERE WHAT IT READS IS OF BULK AT MOST 1048576: true; the input reads as it did. -/
def undoPlansUptoRow : OpenClaim := { program := "ytokgplgdaememaadoor", sum := "24b42e77d132e8d16d412974cb780e03af8b6febb241c18fa716ab257dc50ab0", func := "bedrock/bedrocklaw16.UndoPlans", spec := "undoPlans", unfollowed := true, recurses := true, named := ["bedrock/bedrocklaw16.where"], apart := false, laid := [("bedrock/bedrocklaw16.where", laid_bedrock_bedrocklaw16_where)], narrowed := true }
def UndoPlansUptoSaid : Prop := undoPlansUptoRow.holds Tryd.pinned (OpenSpec.upto undoPlansSpec)

/-- 'bedrocklaw16.UndoOff', WHERE WHAT IT READS IS OF BULK AT MOST 1048576: true; the input reads as it did. -/
def undoOffUptoRow : OpenClaim := { program := "ytokgplgdaememaadoor", sum := "24b42e77d132e8d16d412974cb780e03af8b6febb241c18fa716ab257dc50ab0", func := "bedrock/bedrocklaw16.UndoOff", spec := "undoOff", unfollowed := true, recurses := true, named := ["bedrock/bedrocklaw16.where"], apart := false, laid := [("bedrock/bedrocklaw16.where", laid_bedrock_bedrocklaw16_where)], narrowed := true }
def UndoOffUptoSaid : Prop := undoOffUptoRow.holds Tryd.pinned (OpenSpec.upto undoOffSpec)

/-- 'bedrocklaw16.UndoLooks', WHERE WHAT IT READS IS OF BULK AT MOST 1048576: true; the input reads as it did. -/
def undoLooksUptoRow : OpenClaim := { program := "ytokgplgdaememaadoor", sum := "24b42e77d132e8d16d412974cb780e03af8b6febb241c18fa716ab257dc50ab0", func := "bedrock/bedrocklaw16.UndoLooks", spec := "undoLooks", unfollowed := true, recurses := true, named := ["bedrock/bedrocklaw16.where"], apart := false, laid := [("bedrock/bedrocklaw16.where", laid_bedrock_bedrocklaw16_where)], narrowed := true }
def UndoLooksUptoSaid : Prop := undoLooksUptoRow.holds Tryd.pinned (OpenSpec.upto undoLooksSpec)

/-- 'bedrocklaw16.UndoCommits', WHERE WHAT IT READS IS OF BULK AT MOST 1048576: true; the input reads as it did. -/
def undoCommitsUptoRow : OpenClaim := { program := "ytokgplgdaememaadoor", sum := "24b42e77d132e8d16d412974cb780e03af8b6febb241c18fa716ab257dc50ab0", func := "bedrock/bedrocklaw16.UndoCommits", spec := "undoCommits", unfollowed := true, recurses := true, named := ["bedrock/bedrocklaw16.where"], apart := false, laid := [("bedrock/bedrocklaw16.where", laid_bedrock_bedrocklaw16_where)], narrowed := true }
def UndoCommitsUptoSaid : Prop := undoCommitsUptoRow.holds Tryd.pinned (OpenSpec.upto undoCommitsSpec)

/-- 'bedrocklaw16.UndoTwice', WHERE WHAT IT READS IS OF BULK AT MOST 1048576: true; the input reads as it did. -/
def undoTwiceUptoRow : OpenClaim := { program := "ytokgplgdaememaadoor", sum := "24b42e77d132e8d16d412974cb780e03af8b6febb241c18fa716ab257dc50ab0", func := "bedrock/bedrocklaw16.UndoTwice", spec := "undoTwice", unfollowed := true, recurses := true, named := ["bedrock/bedrocklaw16.where"], apart := false, laid := [("bedrock/bedrocklaw16.where", laid_bedrock_bedrocklaw16_where)], narrowed := true }
def UndoTwiceUptoSaid : Prop := undoTwiceUptoRow.holds Tryd.pinned (OpenSpec.upto undoTwiceSpec)

/-- 'bedrocklaw16.UndoAtomic', WHERE WHAT IT READS IS OF BULK AT MOST 1048576: true; the input reads as it did. -/
def undoAtomicUptoRow : OpenClaim := { program := "ytokgplgdaememaadoor", sum := "24b42e77d132e8d16d412974cb780e03af8b6febb241c18fa716ab257dc50ab0", func := "bedrock/bedrocklaw16.UndoAtomic", spec := "undoAtomic", unfollowed := true, recurses := true, named := ["bedrock/bedrocklaw16.where"], apart := false, laid := [("bedrock/bedrocklaw16.where", laid_bedrock_bedrocklaw16_where)], narrowed := true }
def UndoAtomicUptoSaid : Prop := undoAtomicUptoRow.holds Tryd.pinned (OpenSpec.upto undoAtomicSpec)

end Rows
end Go.Proofs.YtokgplgdaememaaDoor
