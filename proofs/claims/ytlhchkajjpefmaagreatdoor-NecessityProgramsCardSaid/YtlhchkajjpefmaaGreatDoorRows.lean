/-
  NARROWER THAN 'FOR EVERY INPUT', by the rows' own cells (each row's printed sentence says how): NecessitySystem: laid · NecessityJudges: laid · NecessityFences: laid · NecessityPrograms: laid.
  DERIVED. THE GIVEN ROWS OF THIS SEAT. 4 by the template 'for every input the law returns true; each argument reads behind the call as it read before'; 0 by the template 'total and deterministic' (their statements: YtlhchkajjpefmaaGreatDoorTotals.lean).
  GIVEN WITH THE SEED: the statements are not yours to turn. If you find one false, say at which input.
  Laid BY PROGRAM, IN A SANDBOX (cutbox-rows.mjs): the forced cells as the released guide's own fill.sh prints them over the translation 61e51979bb767e3c… (all of the seat's roots in one cut). By AI agents, Wed Nov 11 2026. No macro, syntax, notation, axiom, sorry.
-/
import Derived.Test.YtlhchkajjpefmaaGreatDoorChecked
import GoSem.PinnedTables
import GoSem.Claim
import GoSem.ClaimJoined
import GoSem.ClaimMapViews
import Derived.JoinedTies
import Derived.KernelRfl
namespace Go.Proofs.YtlhchkajjpefmaaGreatDoor
/- THE CELL 'sum', in the pinned program and in every row, IS THE sha256 OF THE DUMP (.gsa) THAT YtlhchkajjpefmaaGreatDoorProg.lean LOADS. Nothing in Lean hashes anything: it is a label: what it is worth is what the hold of that sum in a sandbox is worth. -/
noncomputable def Tryz.pinned : Pinned := { name := "ytlhchkajjpefmaagreatdoor", sum := "61e51979bb767e3c9fc4b4229dc115d2c5e7431fd933483029ed9349c302a935", checked := Tryz.checked }
namespace Rows
def none {H : Type} : Left H := { results := [], args := [] }

/- WHAT THE LISTED PACKAGE-LEVEL VARIABLES READ AS WHEN THE CALL BEGINS. Each datum BY PROGRAM (the guide's laid-datum.mjs) off the statement by which the dump's own 'gosem.cut.vars' lays the variable. In a bare row this is a premise. The card (YtlhchkajjpefmaaGreatDoorCards.lean) ties it to the program's text. -/
def laid_bedrock_crc_nibbles {H : Type} : DataW H := .agg [.lit (.int .u32 0), .lit (.int .u32 274646895), .lit (.int .u32 549293790), .lit (.int .u32 820201905), .lit (.int .u32 1098587580), .lit (.int .u32 1361435347), .lit (.int .u32 1640403810), .lit (.int .u32 1905808397), .lit (.int .u32 2197175160), .lit (.int .u32 2460548119), .lit (.int .u32 2722870694), .lit (.int .u32 2987750089), .lit (.int .u32 3280807620), .lit (.int .u32 3553878443), .lit (.int .u32 3811616794), .lit (.int .u32 4084100981)]
def laid_unicode_utf8_acceptRanges {H : Type} : DataW H := .agg [.agg [.lit (.int .u8 128), .lit (.int .u8 191)], .agg [.lit (.int .u8 160), .lit (.int .u8 191)], .agg [.lit (.int .u8 128), .lit (.int .u8 159)], .agg [.lit (.int .u8 144), .lit (.int .u8 191)], .agg [.lit (.int .u8 128), .lit (.int .u8 143)], .agg [.lit (.int .u8 0), .lit (.int .u8 0)], .agg [.lit (.int .u8 0), .lit (.int .u8 0)], .agg [.lit (.int .u8 0), .lit (.int .u8 0)], .agg [.lit (.int .u8 0), .lit (.int .u8 0)], .agg [.lit (.int .u8 0), .lit (.int .u8 0)], .agg [.lit (.int .u8 0), .lit (.int .u8 0)], .agg [.lit (.int .u8 0), .lit (.int .u8 0)], .agg [.lit (.int .u8 0), .lit (.int .u8 0)], .agg [.lit (.int .u8 0), .lit (.int .u8 0)], .agg [.lit (.int .u8 0), .lit (.int .u8 0)], .agg [.lit (.int .u8 0), .lit (.int .u8 0)]]
/-- One of Go's own tables, pinned by name: the form's constant. -/
def laid_unicode_utf8_first : DataW Unit := Go.Pinned.utf8First

/-- 'bedrocklaw54.NecessitySystem': WHATEVER THE INPUT: true; the input reads as it did. -/
def necessitySystemSpec : ChangeSpec := { name := "necessitySystem", fn := fun _ => fun
  | [d1, d2] => { results := [.lit (.bool true)], args := [d1, d2] }
  | _ => none }
def necessitySystemRow : OpenClaim := { program := "ytlhchkajjpefmaagreatdoor", sum := "61e51979bb767e3c9fc4b4229dc115d2c5e7431fd933483029ed9349c302a935", func := "bedrock/bedrocklaw54.NecessitySystem", spec := "necessitySystem", inPlace := ["internal/bytealg.IndexByteString", "internal/bytealg.IndexString"], unfollowed := true, recurses := true, named := ["bedrock/crc.nibbles", "unicode/utf8.first", "unicode/utf8.acceptRanges", "internal/bytealg.MaxLen"], apart := false, laid := [("bedrock/crc.nibbles", laid_bedrock_crc_nibbles), ("unicode/utf8.acceptRanges", laid_unicode_utf8_acceptRanges), ("unicode/utf8.first", laid_unicode_utf8_first)] }
def NecessitySystemSaid : Prop := necessitySystemRow.holds Tryz.pinned (OpenSpec.ofChange necessitySystemSpec)

/-- ITS FALSE NEIGHBOUR: 'it returns false'. Refute it at one input. -/
def necessitySystemWrong : ChangeSpec := { name := "necessitySystem", fn := fun _ => fun
  | [d1, d2] => { results := [.lit (.bool false)], args := [d1, d2] }
  | _ => none }
def NecessitySystemWrongFalsely : Prop := necessitySystemRow.holds Tryz.pinned (OpenSpec.ofChange necessitySystemWrong)

/-- 'bedrocklaw54.NecessityJudges': WHATEVER THE INPUT: true; the input reads as it did. -/
def necessityJudgesSpec : ChangeSpec := { name := "necessityJudges", fn := fun _ => fun
  | [d1, d2, d3] => { results := [.lit (.bool true)], args := [d1, d2, d3] }
  | _ => none }
def necessityJudgesRow : OpenClaim := { program := "ytlhchkajjpefmaagreatdoor", sum := "61e51979bb767e3c9fc4b4229dc115d2c5e7431fd933483029ed9349c302a935", func := "bedrock/bedrocklaw54.NecessityJudges", spec := "necessityJudges", inPlace := ["internal/bytealg.IndexByteString", "internal/bytealg.IndexString"], unfollowed := true, recurses := true, named := ["bedrock/crc.nibbles", "unicode/utf8.first", "unicode/utf8.acceptRanges", "internal/bytealg.MaxLen"], apart := false, laid := [("bedrock/crc.nibbles", laid_bedrock_crc_nibbles), ("unicode/utf8.acceptRanges", laid_unicode_utf8_acceptRanges), ("unicode/utf8.first", laid_unicode_utf8_first)] }
def NecessityJudgesSaid : Prop := necessityJudgesRow.holds Tryz.pinned (OpenSpec.ofChange necessityJudgesSpec)

/-- ITS FALSE NEIGHBOUR: 'it returns false'. Refute it at one input. -/
def necessityJudgesWrong : ChangeSpec := { name := "necessityJudges", fn := fun _ => fun
  | [d1, d2, d3] => { results := [.lit (.bool false)], args := [d1, d2, d3] }
  | _ => none }
def NecessityJudgesWrongFalsely : Prop := necessityJudgesRow.holds Tryz.pinned (OpenSpec.ofChange necessityJudgesWrong)

/-- 'bedrocklaw54.NecessityFences': WHATEVER THE INPUT: true; the input reads as it did. -/
def necessityFencesSpec : ChangeSpec := { name := "necessityFences", fn := fun _ => fun
  | [d1, d2, d3] => { results := [.lit (.bool true)], args := [d1, d2, d3] }
  | _ => none }
def necessityFencesRow : OpenClaim := { program := "ytlhchkajjpefmaagreatdoor", sum := "61e51979bb767e3c9fc4b4229dc115d2c5e7431fd933483029ed9349c302a935", func := "bedrock/bedrocklaw54.NecessityFences", spec := "necessityFences", inPlace := ["internal/bytealg.IndexByteString", "internal/bytealg.IndexString"], unfollowed := true, recurses := true, named := ["bedrock/crc.nibbles", "unicode/utf8.first", "unicode/utf8.acceptRanges", "internal/bytealg.MaxLen"], apart := false, laid := [("bedrock/crc.nibbles", laid_bedrock_crc_nibbles), ("unicode/utf8.acceptRanges", laid_unicode_utf8_acceptRanges), ("unicode/utf8.first", laid_unicode_utf8_first)] }
def NecessityFencesSaid : Prop := necessityFencesRow.holds Tryz.pinned (OpenSpec.ofChange necessityFencesSpec)

/-- ITS FALSE NEIGHBOUR: 'it returns false'. Refute it at one input. -/
def necessityFencesWrong : ChangeSpec := { name := "necessityFences", fn := fun _ => fun
  | [d1, d2, d3] => { results := [.lit (.bool false)], args := [d1, d2, d3] }
  | _ => none }
def NecessityFencesWrongFalsely : Prop := necessityFencesRow.holds Tryz.pinned (OpenSpec.ofChange necessityFencesWrong)

/-- 'bedrocklaw54.NecessityPrograms': WHATEVER THE INPUT: true; the input reads as it did. -/
def necessityProgramsSpec : ChangeSpec := { name := "necessityPrograms", fn := fun _ => fun
  | [d] => { results := [.lit (.bool true)], args := [d] }
  | _ => none }
def necessityProgramsRow : OpenClaim := { program := "ytlhchkajjpefmaagreatdoor", sum := "61e51979bb767e3c9fc4b4229dc115d2c5e7431fd933483029ed9349c302a935", func := "bedrock/bedrocklaw54.NecessityPrograms", spec := "necessityPrograms", inPlace := ["internal/bytealg.IndexByteString", "internal/bytealg.IndexString", "maps.clone"], unfollowed := true, recurses := true, named := ["bedrock/crc.nibbles", "unicode/utf8.first", "unicode/utf8.acceptRanges", "internal/bytealg.MaxLen"], apart := false, laid := [("bedrock/crc.nibbles", laid_bedrock_crc_nibbles), ("unicode/utf8.acceptRanges", laid_unicode_utf8_acceptRanges), ("unicode/utf8.first", laid_unicode_utf8_first)] }
def NecessityProgramsSaid : Prop := necessityProgramsRow.holds Tryz.pinned (OpenSpec.ofChange necessityProgramsSpec)

/-- ITS FALSE NEIGHBOUR: 'it returns false'. Refute it at one input. -/
def necessityProgramsWrong : ChangeSpec := { name := "necessityPrograms", fn := fun _ => fun
  | [d] => { results := [.lit (.bool false)], args := [d] }
  | _ => none }
def NecessityProgramsWrongFalsely : Prop := necessityProgramsRow.holds Tryz.pinned (OpenSpec.ofChange necessityProgramsWrong)

/- THE SECOND FORM. 'bulk': how many values and letters a reading holds, each counted each time it is reached (what is shared counts as often as it is met; a slice's spare places count too). A statement '..UptoSaid' is the law's where the arguments, and the package variables that the reading takes, are together of bulk at most 1048576: NARROWER than '..Said'. Prove '..Said' where nothing that the law and all that it calls make is longer than what came in: it says more and counts as full. Else prove '..UptoSaid'. A law counts once. -/
mutual
def uptoBulk {H : Type} : DataW H → Nat
  | .lit (.string bytes) => bytes.length + 1
  | .lit _ => 1
  | .nil => 1
  | .ptr d => uptoBulk d + 1
  | .slice elems spare => uptoBulkAll elems + uptoBulkAll spare + 1
  | .agg parts => uptoBulkAll parts + 1
  | .iface _ d => uptoBulk d + 1
  | .map entries => uptoBulkEntries entries + 1
  | .held _ => 1
def uptoBulkAll {H : Type} : List (DataW H) → Nat
  | [] => 0
  | d :: r => uptoBulk d + uptoBulkAll r
def uptoBulkEntries {H : Type} : List (Lit × DataW H) → Nat
  | [] => 0
  | x :: r => uptoBulkEntry x + uptoBulkEntries r
def uptoBulkEntry {H : Type} : Lit × DataW H → Nat
  | (.string bytes, d) => bytes.length + uptoBulk d + 1
  | (_, d) => uptoBulk d + 1
 end
def uptoSmall : (H : Type) → List (DataW H) → Bool := fun _ ds => decide (uptoBulkAll ds ≤ 1048576)
def OpenSpec.upto (s : _root_.Go.ChangeSpec) : _root_.Go.OpenSpec := { _root_.Go.OpenSpec.ofChange s with cond := some uptoSmall }

/-- 'bedrocklaw54.NecessitySystem', WHERE WHAT IT READS IS OF BULK AT MOST 1048576: true; the input reads as it did. -/
def necessitySystemUptoRow : OpenClaim := { program := "ytlhchkajjpefmaagreatdoor", sum := "61e51979bb767e3c9fc4b4229dc115d2c5e7431fd933483029ed9349c302a935", func := "bedrock/bedrocklaw54.NecessitySystem", spec := "necessitySystem", inPlace := ["internal/bytealg.IndexByteString", "internal/bytealg.IndexString"], unfollowed := true, recurses := true, named := ["bedrock/crc.nibbles", "unicode/utf8.first", "unicode/utf8.acceptRanges", "internal/bytealg.MaxLen"], apart := false, laid := [("bedrock/crc.nibbles", laid_bedrock_crc_nibbles), ("unicode/utf8.acceptRanges", laid_unicode_utf8_acceptRanges), ("unicode/utf8.first", laid_unicode_utf8_first)], narrowed := true }
def NecessitySystemUptoSaid : Prop := necessitySystemUptoRow.holds Tryz.pinned (OpenSpec.upto necessitySystemSpec)

/-- 'bedrocklaw54.NecessityJudges', WHERE WHAT IT READS IS OF BULK AT MOST 1048576: true; the input reads as it did. -/
def necessityJudgesUptoRow : OpenClaim := { program := "ytlhchkajjpefmaagreatdoor", sum := "61e51979bb767e3c9fc4b4229dc115d2c5e7431fd933483029ed9349c302a935", func := "bedrock/bedrocklaw54.NecessityJudges", spec := "necessityJudges", inPlace := ["internal/bytealg.IndexByteString", "internal/bytealg.IndexString"], unfollowed := true, recurses := true, named := ["bedrock/crc.nibbles", "unicode/utf8.first", "unicode/utf8.acceptRanges", "internal/bytealg.MaxLen"], apart := false, laid := [("bedrock/crc.nibbles", laid_bedrock_crc_nibbles), ("unicode/utf8.acceptRanges", laid_unicode_utf8_acceptRanges), ("unicode/utf8.first", laid_unicode_utf8_first)], narrowed := true }
def NecessityJudgesUptoSaid : Prop := necessityJudgesUptoRow.holds Tryz.pinned (OpenSpec.upto necessityJudgesSpec)

/-- 'bedrocklaw54.NecessityFences', WHERE WHAT IT READS IS OF BULK AT MOST 1048576: true; the input reads as it did. -/
def necessityFencesUptoRow : OpenClaim := { program := "ytlhchkajjpefmaagreatdoor", sum := "61e51979bb767e3c9fc4b4229dc115d2c5e7431fd933483029ed9349c302a935", func := "bedrock/bedrocklaw54.NecessityFences", spec := "necessityFences", inPlace := ["internal/bytealg.IndexByteString", "internal/bytealg.IndexString"], unfollowed := true, recurses := true, named := ["bedrock/crc.nibbles", "unicode/utf8.first", "unicode/utf8.acceptRanges", "internal/bytealg.MaxLen"], apart := false, laid := [("bedrock/crc.nibbles", laid_bedrock_crc_nibbles), ("unicode/utf8.acceptRanges", laid_unicode_utf8_acceptRanges), ("unicode/utf8.first", laid_unicode_utf8_first)], narrowed := true }
def NecessityFencesUptoSaid : Prop := necessityFencesUptoRow.holds Tryz.pinned (OpenSpec.upto necessityFencesSpec)

/-- 'bedrocklaw54.NecessityPrograms', WHERE WHAT IT READS IS OF BULK AT MOST 1048576: true; the input reads as it did. -/
def necessityProgramsUptoRow : OpenClaim := { program := "ytlhchkajjpefmaagreatdoor", sum := "61e51979bb767e3c9fc4b4229dc115d2c5e7431fd933483029ed9349c302a935", func := "bedrock/bedrocklaw54.NecessityPrograms", spec := "necessityPrograms", inPlace := ["internal/bytealg.IndexByteString", "internal/bytealg.IndexString", "maps.clone"], unfollowed := true, recurses := true, named := ["bedrock/crc.nibbles", "unicode/utf8.first", "unicode/utf8.acceptRanges", "internal/bytealg.MaxLen"], apart := false, laid := [("bedrock/crc.nibbles", laid_bedrock_crc_nibbles), ("unicode/utf8.acceptRanges", laid_unicode_utf8_acceptRanges), ("unicode/utf8.first", laid_unicode_utf8_first)], narrowed := true }
def NecessityProgramsUptoSaid : Prop := necessityProgramsUptoRow.holds Tryz.pinned (OpenSpec.upto necessityProgramsSpec)

end Rows
end Go.Proofs.YtlhchkajjpefmaaGreatDoor
