/-
  NARROWER THAN 'FOR EVERY INPUT', by the rows' own cells (each row's printed sentence says how): SuperblockRegions: laid · SuperblockCovers: laid · SuperblockOpens: laid · SuperblockErrors: laid · SuperblockPlans: laid · SuperblockAtomic: laid · SuperblockFormats: laid · SuperblockRepairs: laid.
  DERIVED. THE GIVEN ROWS OF THIS SEAT. 8 by the template 'for every input the law returns true; each argument reads behind the call as it read before'; 0 by the template 'total and deterministic' (their statements: YtbpaamnofkhonaaDoorTotals.lean).
  GIVEN WITH THE SEED: the statements are not yours to turn. If you find one false, say at which input.
  Laid BY PROGRAM, IN A SANDBOX (cutbox-rows.mjs): the forced cells as the released guide's own fill.sh prints them over the translation 4e35aa74d2aaeb7b… (all of the seat's roots in one cut). By AI agents, Wed Nov 11 2026. No macro, syntax, notation, axiom, sorry.
-/
import Derived.Test.YtbpaamnofkhonaaDoorChecked
import GoSem.Claim
import GoSem.ClaimJoined
import GoSem.ClaimMapViews
import Derived.JoinedTies
import Derived.KernelRfl
namespace Go.Proofs.YtbpaamnofkhonaaDoor
/- THE CELL 'sum', in the pinned program and in every row, IS THE sha256 OF THE DUMP (.gsa) THAT YtbpaamnofkhonaaDoorProg.lean LOADS. Nothing in Lean hashes anything: it is a label: what it is worth is what the hold of that sum in a sandbox is worth. -/
noncomputable def Tryd.pinned : Pinned := { name := "ytbpaamnofkhonaadoor", sum := "4e35aa74d2aaeb7b4b6ae07032a70e092d542017bf5383bf3ed7c5c36da0adcf", checked := Tryd.checked }
namespace Rows
def none {H : Type} : Left H := { results := [], args := [] }

/- WHAT THE LISTED PACKAGE-LEVEL VARIABLES READ AS WHEN THE CALL BEGINS. Each datum BY PROGRAM (the guide's laid-datum.mjs) off the statement by which the dump's own 'gosem.cut.vars' lays the variable. In a bare row this is a premise. The card (YtbpaamnofkhonaaDoorCards.lean) ties it to the program's text. -/
def laid_bedrock_crc_nibbles {H : Type} : DataW H := .agg [.lit (.int .u32 0), .lit (.int .u32 274646895), .lit (.int .u32 549293790), .lit (.int .u32 820201905), .lit (.int .u32 1098587580), .lit (.int .u32 1361435347), .lit (.int .u32 1640403810), .lit (.int .u32 1905808397), .lit (.int .u32 2197175160), .lit (.int .u32 2460548119), .lit (.int .u32 2722870694), .lit (.int .u32 2987750089), .lit (.int .u32 3280807620), .lit (.int .u32 3553878443), .lit (.int .u32 3811616794), .lit (.int .u32 4084100981)]

/-- 'bedrocklaw13.SuperblockRegions': WHATEVER THE INPUT: true; the input reads as it did. -/
def superblockRegionsSpec : ChangeSpec := { name := "superblockRegions", fn := fun _ => fun
  | [d1, d2] => { results := [.lit (.bool true)], args := [d1, d2] }
  | _ => none }
def superblockRegionsRow : OpenClaim := { program := "ytbpaamnofkhonaadoor", sum := "4e35aa74d2aaeb7b4b6ae07032a70e092d542017bf5383bf3ed7c5c36da0adcf", func := "bedrock/bedrocklaw13.SuperblockRegions", spec := "superblockRegions", unfollowed := true, recurses := true, named := ["bedrock/crc.nibbles"], apart := false, laid := [("bedrock/crc.nibbles", laid_bedrock_crc_nibbles)] }
def SuperblockRegionsSaid : Prop := superblockRegionsRow.holds Tryd.pinned (OpenSpec.ofChange superblockRegionsSpec)

/-- ITS FALSE NEIGHBOUR: 'it returns false'. Refute it at one input. -/
def superblockRegionsWrong : ChangeSpec := { name := "superblockRegions", fn := fun _ => fun
  | [d1, d2] => { results := [.lit (.bool false)], args := [d1, d2] }
  | _ => none }
def SuperblockRegionsWrongFalsely : Prop := superblockRegionsRow.holds Tryd.pinned (OpenSpec.ofChange superblockRegionsWrong)

/-- 'bedrocklaw13.SuperblockCovers': WHATEVER THE INPUT: true; the input reads as it did. -/
def superblockCoversSpec : ChangeSpec := { name := "superblockCovers", fn := fun _ => fun
  | [d] => { results := [.lit (.bool true)], args := [d] }
  | _ => none }
def superblockCoversRow : OpenClaim := { program := "ytbpaamnofkhonaadoor", sum := "4e35aa74d2aaeb7b4b6ae07032a70e092d542017bf5383bf3ed7c5c36da0adcf", func := "bedrock/bedrocklaw13.SuperblockCovers", spec := "superblockCovers", unfollowed := true, recurses := true, named := ["bedrock/crc.nibbles"], apart := false, laid := [("bedrock/crc.nibbles", laid_bedrock_crc_nibbles)] }
def SuperblockCoversSaid : Prop := superblockCoversRow.holds Tryd.pinned (OpenSpec.ofChange superblockCoversSpec)

/-- ITS FALSE NEIGHBOUR: 'it returns false'. Refute it at one input. -/
def superblockCoversWrong : ChangeSpec := { name := "superblockCovers", fn := fun _ => fun
  | [d] => { results := [.lit (.bool false)], args := [d] }
  | _ => none }
def SuperblockCoversWrongFalsely : Prop := superblockCoversRow.holds Tryd.pinned (OpenSpec.ofChange superblockCoversWrong)

/-- 'bedrocklaw13.SuperblockOpens': WHATEVER THE INPUT: true; the input reads as it did. -/
def superblockOpensSpec : ChangeSpec := { name := "superblockOpens", fn := fun _ => fun
  | [d1, d2, d3] => { results := [.lit (.bool true)], args := [d1, d2, d3] }
  | _ => none }
def superblockOpensRow : OpenClaim := { program := "ytbpaamnofkhonaadoor", sum := "4e35aa74d2aaeb7b4b6ae07032a70e092d542017bf5383bf3ed7c5c36da0adcf", func := "bedrock/bedrocklaw13.SuperblockOpens", spec := "superblockOpens", unfollowed := true, recurses := true, named := ["bedrock/crc.nibbles"], apart := false, laid := [("bedrock/crc.nibbles", laid_bedrock_crc_nibbles)] }
def SuperblockOpensSaid : Prop := superblockOpensRow.holds Tryd.pinned (OpenSpec.ofChange superblockOpensSpec)

/-- ITS FALSE NEIGHBOUR: 'it returns false'. Refute it at one input. -/
def superblockOpensWrong : ChangeSpec := { name := "superblockOpens", fn := fun _ => fun
  | [d1, d2, d3] => { results := [.lit (.bool false)], args := [d1, d2, d3] }
  | _ => none }
def SuperblockOpensWrongFalsely : Prop := superblockOpensRow.holds Tryd.pinned (OpenSpec.ofChange superblockOpensWrong)

/-- 'bedrocklaw13.SuperblockErrors': WHATEVER THE INPUT: true; the input reads as it did. -/
def superblockErrorsSpec : ChangeSpec := { name := "superblockErrors", fn := fun _ => fun
  | [d1, d2, d3] => { results := [.lit (.bool true)], args := [d1, d2, d3] }
  | _ => none }
def superblockErrorsRow : OpenClaim := { program := "ytbpaamnofkhonaadoor", sum := "4e35aa74d2aaeb7b4b6ae07032a70e092d542017bf5383bf3ed7c5c36da0adcf", func := "bedrock/bedrocklaw13.SuperblockErrors", spec := "superblockErrors", unfollowed := true, recurses := true, named := ["bedrock/crc.nibbles"], apart := false, laid := [("bedrock/crc.nibbles", laid_bedrock_crc_nibbles)] }
def SuperblockErrorsSaid : Prop := superblockErrorsRow.holds Tryd.pinned (OpenSpec.ofChange superblockErrorsSpec)

/-- ITS FALSE NEIGHBOUR: 'it returns false'. Refute it at one input. -/
def superblockErrorsWrong : ChangeSpec := { name := "superblockErrors", fn := fun _ => fun
  | [d1, d2, d3] => { results := [.lit (.bool false)], args := [d1, d2, d3] }
  | _ => none }
def SuperblockErrorsWrongFalsely : Prop := superblockErrorsRow.holds Tryd.pinned (OpenSpec.ofChange superblockErrorsWrong)

/-- 'bedrocklaw13.SuperblockPlans': WHATEVER THE INPUT: true; the input reads as it did. -/
def superblockPlansSpec : ChangeSpec := { name := "superblockPlans", fn := fun _ => fun
  | [d1, d2, d3] => { results := [.lit (.bool true)], args := [d1, d2, d3] }
  | _ => none }
def superblockPlansRow : OpenClaim := { program := "ytbpaamnofkhonaadoor", sum := "4e35aa74d2aaeb7b4b6ae07032a70e092d542017bf5383bf3ed7c5c36da0adcf", func := "bedrock/bedrocklaw13.SuperblockPlans", spec := "superblockPlans", inPlace := ["maps.clone"], unfollowed := true, recurses := true, named := ["bedrock/crc.nibbles"], apart := false, laid := [("bedrock/crc.nibbles", laid_bedrock_crc_nibbles)] }
def SuperblockPlansSaid : Prop := superblockPlansRow.holds Tryd.pinned (OpenSpec.ofChange superblockPlansSpec)

/-- ITS FALSE NEIGHBOUR: 'it returns false'. Refute it at one input. -/
def superblockPlansWrong : ChangeSpec := { name := "superblockPlans", fn := fun _ => fun
  | [d1, d2, d3] => { results := [.lit (.bool false)], args := [d1, d2, d3] }
  | _ => none }
def SuperblockPlansWrongFalsely : Prop := superblockPlansRow.holds Tryd.pinned (OpenSpec.ofChange superblockPlansWrong)

/-- 'bedrocklaw13.SuperblockAtomic': WHATEVER THE INPUT: true; the input reads as it did. -/
def superblockAtomicSpec : ChangeSpec := { name := "superblockAtomic", fn := fun _ => fun
  | [d1, d2, d3] => { results := [.lit (.bool true)], args := [d1, d2, d3] }
  | _ => none }
def superblockAtomicRow : OpenClaim := { program := "ytbpaamnofkhonaadoor", sum := "4e35aa74d2aaeb7b4b6ae07032a70e092d542017bf5383bf3ed7c5c36da0adcf", func := "bedrock/bedrocklaw13.SuperblockAtomic", spec := "superblockAtomic", unfollowed := true, recurses := true, named := ["bedrock/crc.nibbles"], apart := false, laid := [("bedrock/crc.nibbles", laid_bedrock_crc_nibbles)] }
def SuperblockAtomicSaid : Prop := superblockAtomicRow.holds Tryd.pinned (OpenSpec.ofChange superblockAtomicSpec)

/-- ITS FALSE NEIGHBOUR: 'it returns false'. Refute it at one input. -/
def superblockAtomicWrong : ChangeSpec := { name := "superblockAtomic", fn := fun _ => fun
  | [d1, d2, d3] => { results := [.lit (.bool false)], args := [d1, d2, d3] }
  | _ => none }
def SuperblockAtomicWrongFalsely : Prop := superblockAtomicRow.holds Tryd.pinned (OpenSpec.ofChange superblockAtomicWrong)

/-- 'bedrocklaw13.SuperblockFormats': WHATEVER THE INPUT: true; the input reads as it did. -/
def superblockFormatsSpec : ChangeSpec := { name := "superblockFormats", fn := fun _ => fun
  | [d1, d2, d3] => { results := [.lit (.bool true)], args := [d1, d2, d3] }
  | _ => none }
def superblockFormatsRow : OpenClaim := { program := "ytbpaamnofkhonaadoor", sum := "4e35aa74d2aaeb7b4b6ae07032a70e092d542017bf5383bf3ed7c5c36da0adcf", func := "bedrock/bedrocklaw13.SuperblockFormats", spec := "superblockFormats", unfollowed := true, recurses := true, named := ["bedrock/crc.nibbles"], apart := false, laid := [("bedrock/crc.nibbles", laid_bedrock_crc_nibbles)] }
def SuperblockFormatsSaid : Prop := superblockFormatsRow.holds Tryd.pinned (OpenSpec.ofChange superblockFormatsSpec)

/-- ITS FALSE NEIGHBOUR: 'it returns false'. Refute it at one input. -/
def superblockFormatsWrong : ChangeSpec := { name := "superblockFormats", fn := fun _ => fun
  | [d1, d2, d3] => { results := [.lit (.bool false)], args := [d1, d2, d3] }
  | _ => none }
def SuperblockFormatsWrongFalsely : Prop := superblockFormatsRow.holds Tryd.pinned (OpenSpec.ofChange superblockFormatsWrong)

/-- 'bedrocklaw13.SuperblockRepairs': WHATEVER THE INPUT: true; the input reads as it did. -/
def superblockRepairsSpec : ChangeSpec := { name := "superblockRepairs", fn := fun _ => fun
  | [d1, d2, d3] => { results := [.lit (.bool true)], args := [d1, d2, d3] }
  | _ => none }
def superblockRepairsRow : OpenClaim := { program := "ytbpaamnofkhonaadoor", sum := "4e35aa74d2aaeb7b4b6ae07032a70e092d542017bf5383bf3ed7c5c36da0adcf", func := "bedrock/bedrocklaw13.SuperblockRepairs", spec := "superblockRepairs", unfollowed := true, recurses := true, named := ["bedrock/crc.nibbles"], apart := false, laid := [("bedrock/crc.nibbles", laid_bedrock_crc_nibbles)] }
def SuperblockRepairsSaid : Prop := superblockRepairsRow.holds Tryd.pinned (OpenSpec.ofChange superblockRepairsSpec)

/-- ITS FALSE NEIGHBOUR: 'it returns false'. Refute it at one input. -/
def superblockRepairsWrong : ChangeSpec := { name := "superblockRepairs", fn := fun _ => fun
  | [d1, d2, d3] => { results := [.lit (.bool false)], args := [d1, d2, d3] }
  | _ => none }
def SuperblockRepairsWrongFalsely : Prop := superblockRepairsRow.holds Tryd.pinned (OpenSpec.ofChange superblockRepairsWrong)

/- THE SECOND FORM. 'bulk': how many values and letters a reading holds, each counted each time it is reached (what is shared counts as often as it is met; a slice's spare places count too). A statement '..UptoSaid' is the law's where the arguments, and the package variables that the reading takes, are together of bulk at most 1048576: NARROWER than '..Said'. Prove '..Said' where nothing that the law and all that it calls make is longer than what came in: it says more and counts as full. Else prove '..UptoSaid'. A law counts once. -/
mutual
def uptoBulk {H : Type} : DataW H → Nat
  | .lit (.string bytes) => bytes.length + 1
  | .lit _ => 1
  | .nil => 1
  | .ptr d => uptoBulk d + 1
  | .slice elems spare => uptoBulkAll elems + uptoBulkAll spare + 1
  | .agg parts => uptoBulkAll parts + 1
  | .iface _ d => uptoBulk d + 1
  | .map entries => uptoBulkEntries entries + 1
  | .held _ => 1
def uptoBulkAll {H : Type} : List (DataW H) → Nat
  | [] => 0
  | d :: r => uptoBulk d + uptoBulkAll r
def uptoBulkEntries {H : Type} : List (Lit × DataW H) → Nat
  | [] => 0
  | x :: r => uptoBulkEntry x + uptoBulkEntries r
def uptoBulkEntry {H : Type} : Lit × DataW H → Nat
  | (.string bytes, d) => bytes.length + uptoBulk d + 1
  | (_, d) => uptoBulk d + 1
 end
def uptoSmall : (H : Type) → List (DataW H) → Bool := fun _ ds => decide (uptoBulkAll ds ≤ 1048576)
def OpenSpec.upto (s : _root_.Go.ChangeSpec) : _root_.Go.OpenSpec := { _root_.Go.OpenSpec.ofChange s with cond := some uptoSmall }

/-- 'bedrocklaw13.SuperblockRegions', WHERE WHAT IT READS IS OF BULK AT MOST 1048576: true; the input reads as it did. -/
def superblockRegionsUptoRow : OpenClaim := { program := "ytbpaamnofkhonaadoor", sum := "4e35aa74d2aaeb7b4b6ae07032a70e092d542017bf5383bf3ed7c5c36da0adcf", func := "bedrock/bedrocklaw13.SuperblockRegions", spec := "superblockRegions", unfollowed := true, recurses := true, named := ["bedrock/crc.nibbles"], apart := false, laid := [("bedrock/crc.nibbles", laid_bedrock_crc_nibbles)], narrowed := true }
def SuperblockRegionsUptoSaid : Prop := superblockRegionsUptoRow.holds Tryd.pinned (OpenSpec.upto superblockRegionsSpec)

/-- 'bedrocklaw13.SuperblockCovers', WHERE WHAT IT READS IS OF BULK AT MOST 1048576: true; the input reads as it did. -/
def superblockCoversUptoRow : OpenClaim := { program := "ytbpaamnofkhonaadoor", sum := "4e35aa74d2aaeb7b4b6ae07032a70e092d542017bf5383bf3ed7c5c36da0adcf", func := "bedrock/bedrocklaw13.SuperblockCovers", spec := "superblockCovers", unfollowed := true, recurses := true, named := ["bedrock/crc.nibbles"], apart := false, laid := [("bedrock/crc.nibbles", laid_bedrock_crc_nibbles)], narrowed := true }
def SuperblockCoversUptoSaid : Prop := superblockCoversUptoRow.holds Tryd.pinned (OpenSpec.upto superblockCoversSpec)

/-- 'bedrocklaw13.SuperblockOpens', WHERE WHAT IT READS IS OF BULK AT MOST 1048576: true; the input reads as it did. -/
def superblockOpensUptoRow : OpenClaim := { program := "ytbpaamnofkhonaadoor", sum := "4e35aa74d2aaeb7b4b6ae07032a70e092d542017bf5383bf3ed7c5c36da0adcf", func := "bedrock/bedrocklaw13.SuperblockOpens", spec := "superblockOpens", unfollowed := true, recurses := true, named := ["bedrock/crc.nibbles"], apart := false, laid := [("bedrock/crc.nibbles", laid_bedrock_crc_nibbles)], narrowed := true }
def SuperblockOpensUptoSaid : Prop := superblockOpensUptoRow.holds Tryd.pinned (OpenSpec.upto superblockOpensSpec)

/-- 'bedrocklaw13.SuperblockErrors', WHERE WHAT IT READS IS OF BULK AT MOST 1048576: true; the input reads as it did. -/
def superblockErrorsUptoRow : OpenClaim := { program := "ytbpaamnofkhonaadoor", sum := "4e35aa74d2aaeb7b4b6ae07032a70e092d542017bf5383bf3ed7c5c36da0adcf", func := "bedrock/bedrocklaw13.SuperblockErrors", spec := "superblockErrors", unfollowed := true, recurses := true, named := ["bedrock/crc.nibbles"], apart := false, laid := [("bedrock/crc.nibbles", laid_bedrock_crc_nibbles)], narrowed := true }
def SuperblockErrorsUptoSaid : Prop := superblockErrorsUptoRow.holds Tryd.pinned (OpenSpec.upto superblockErrorsSpec)

/-- 'bedrocklaw13.SuperblockPlans', WHERE WHAT IT READS IS OF BULK AT MOST 1048576: true; the input reads as it did. -/
def superblockPlansUptoRow : OpenClaim := { program := "ytbpaamnofkhonaadoor", sum := "4e35aa74d2aaeb7b4b6ae07032a70e092d542017bf5383bf3ed7c5c36da0adcf", func := "bedrock/bedrocklaw13.SuperblockPlans", spec := "superblockPlans", inPlace := ["maps.clone"], unfollowed := true, recurses := true, named := ["bedrock/crc.nibbles"], apart := false, laid := [("bedrock/crc.nibbles", laid_bedrock_crc_nibbles)], narrowed := true }
def SuperblockPlansUptoSaid : Prop := superblockPlansUptoRow.holds Tryd.pinned (OpenSpec.upto superblockPlansSpec)

/-- 'bedrocklaw13.SuperblockAtomic', WHERE WHAT IT READS IS OF BULK AT MOST 1048576: true; the input reads as it did. -/
def superblockAtomicUptoRow : OpenClaim := { program := "ytbpaamnofkhonaadoor", sum := "4e35aa74d2aaeb7b4b6ae07032a70e092d542017bf5383bf3ed7c5c36da0adcf", func := "bedrock/bedrocklaw13.SuperblockAtomic", spec := "superblockAtomic", unfollowed := true, recurses := true, named := ["bedrock/crc.nibbles"], apart := false, laid := [("bedrock/crc.nibbles", laid_bedrock_crc_nibbles)], narrowed := true }
def SuperblockAtomicUptoSaid : Prop := superblockAtomicUptoRow.holds Tryd.pinned (OpenSpec.upto superblockAtomicSpec)

/-- 'bedrocklaw13.SuperblockFormats', WHERE WHAT IT READS IS OF BULK AT MOST 1048576: true; the input reads as it did. -/
def superblockFormatsUptoRow : OpenClaim := { program := "ytbpaamnofkhonaadoor", sum := "4e35aa74d2aaeb7b4b6ae07032a70e092d542017bf5383bf3ed7c5c36da0adcf", func := "bedrock/bedrocklaw13.SuperblockFormats", spec := "superblockFormats", unfollowed := true, recurses := true, named := ["bedrock/crc.nibbles"], apart := false, laid := [("bedrock/crc.nibbles", laid_bedrock_crc_nibbles)], narrowed := true }
def SuperblockFormatsUptoSaid : Prop := superblockFormatsUptoRow.holds Tryd.pinned (OpenSpec.upto superblockFormatsSpec)

/-- 'bedrocklaw13.SuperblockRepairs', WHERE WHAT IT READS IS OF BULK AT MOST 1048576: true; the input reads as it did. -/
def superblockRepairsUptoRow : OpenClaim := { program := "ytbpaamnofkhonaadoor", sum := "4e35aa74d2aaeb7b4b6ae07032a70e092d542017bf5383bf3ed7c5c36da0adcf", func := "bedrock/bedrocklaw13.SuperblockRepairs", spec := "superblockRepairs", unfollowed := true, recurses := true, named := ["bedrock/crc.nibbles"], apart := false, laid := [("bedrock/crc.nibbles", laid_bedrock_crc_nibbles)], narrowed := true }
def SuperblockRepairsUptoSaid : Prop := superblockRepairsUptoRow.holds Tryd.pinned (OpenSpec.upto superblockRepairsSpec)

end Rows
end Go.Proofs.YtbpaamnofkhonaaDoor
