/-
  NARROWER THAN 'FOR EVERY INPUT', by the rows' own cells (each row's printed sentence says how): RootNames: laid · RootOpens: laid · RootRegions: laid · RootNil: laid · RootPlays: laid · RootPlans: laid · RootAtomic: laid.
  DERIVED. THE GIVEN ROWS OF THIS SEAT. 7 by the template 'for every input the law returns true; each argument reads behind the call as it read before'; 0 by the template 'total and deterministic' (their statements: YtmfchlliechikaaGreatDoorTotals.lean).
  GIVEN WITH THE SEED: the statements are not yours to turn. If you find one false, say at which input.
  Laid BY PROGRAM, IN A SANDBOX (cutbox-rows.mjs): the forced cells as the released guide's own fill.sh prints them over the translation f6ff795fc7152b5b… (all of the seat's roots in one cut). By AI agents, Wed Nov 11 2026. No macro, syntax, notation, axiom, sorry.
-/
import Derived.Test.YtmfchlliechikaaGreatDoorChecked
import GoSem.PinnedTables
import GoSem.Claim
import GoSem.ClaimJoined
import GoSem.ClaimMapViews
import Derived.JoinedTies
import Derived.KernelRfl
namespace Go.Proofs.YtmfchlliechikaaGreatDoor
/- THE CELL 'sum', in the pinned program and in every row, IS THE sha256 OF THE DUMP (.gsa) THAT YtmfchlliechikaaGreatDoorProg.lean LOADS. Nothing in Lean hashes anything: it is a label: what it is worth is what the hold of that sum in a sandbox is worth. -/
noncomputable def Tryz.pinned : Pinned := { name := "ytmfchlliechikaagreatdoor", sum := "f6ff795fc7152b5b0a61948f6863d250129648e83e50fd3054e027cb191cf057", checked := Tryz.checked }
namespace Rows
def none {H : Type} : Left H := { results := [], args := [] }

/- WHAT THE LISTED PACKAGE-LEVEL VARIABLES READ AS WHEN THE CALL BEGINS. Each datum BY PROGRAM (the guide's laid-datum.mjs) off the statement by which the dump's own 'gosem.cut.vars' lays the variable. In a bare row this is a premise. The card (YtmfchlliechikaaGreatDoorCards.lean) ties it to the program's text. -/
def laid_bedrock_crc_nibbles {H : Type} : DataW H := .agg [.lit (.int .u32 0), .lit (.int .u32 274646895), .lit (.int .u32 549293790), .lit (.int .u32 820201905), .lit (.int .u32 1098587580), .lit (.int .u32 1361435347), .lit (.int .u32 1640403810), .lit (.int .u32 1905808397), .lit (.int .u32 2197175160), .lit (.int .u32 2460548119), .lit (.int .u32 2722870694), .lit (.int .u32 2987750089), .lit (.int .u32 3280807620), .lit (.int .u32 3553878443), .lit (.int .u32 3811616794), .lit (.int .u32 4084100981)]
def laid_unicode_utf8_acceptRanges {H : Type} : DataW H := .agg [.agg [.lit (.int .u8 128), .lit (.int .u8 191)], .agg [.lit (.int .u8 160), .lit (.int .u8 191)], .agg [.lit (.int .u8 128), .lit (.int .u8 159)], .agg [.lit (.int .u8 144), .lit (.int .u8 191)], .agg [.lit (.int .u8 128), .lit (.int .u8 143)], .agg [.lit (.int .u8 0), .lit (.int .u8 0)], .agg [.lit (.int .u8 0), .lit (.int .u8 0)], .agg [.lit (.int .u8 0), .lit (.int .u8 0)], .agg [.lit (.int .u8 0), .lit (.int .u8 0)], .agg [.lit (.int .u8 0), .lit (.int .u8 0)], .agg [.lit (.int .u8 0), .lit (.int .u8 0)], .agg [.lit (.int .u8 0), .lit (.int .u8 0)], .agg [.lit (.int .u8 0), .lit (.int .u8 0)], .agg [.lit (.int .u8 0), .lit (.int .u8 0)], .agg [.lit (.int .u8 0), .lit (.int .u8 0)], .agg [.lit (.int .u8 0), .lit (.int .u8 0)]]
/-- One of Go's own tables, pinned by name: the form's constant. -/
def laid_unicode_utf8_first : DataW Unit := Go.Pinned.utf8First

/-- 'bedrocklaw14.RootNames': WHATEVER THE INPUT: true; the input reads as it did. -/
def rootNamesSpec : ChangeSpec := { name := "rootNames", fn := fun _ => fun
  | [d] => { results := [.lit (.bool true)], args := [d] }
  | _ => none }
def rootNamesRow : OpenClaim := { program := "ytmfchlliechikaagreatdoor", sum := "f6ff795fc7152b5b0a61948f6863d250129648e83e50fd3054e027cb191cf057", func := "bedrock/bedrocklaw14.RootNames", spec := "rootNames", inPlace := ["internal/bytealg.IndexByteString", "internal/bytealg.IndexString"], unfollowed := true, recurses := true, named := ["unicode/utf8.first", "unicode/utf8.acceptRanges", "bedrock/crc.nibbles", "internal/bytealg.MaxLen"], apart := false, laid := [("bedrock/crc.nibbles", laid_bedrock_crc_nibbles), ("unicode/utf8.acceptRanges", laid_unicode_utf8_acceptRanges), ("unicode/utf8.first", laid_unicode_utf8_first)] }
def RootNamesSaid : Prop := rootNamesRow.holds Tryz.pinned (OpenSpec.ofChange rootNamesSpec)

/-- ITS FALSE NEIGHBOUR: 'it returns false'. Refute it at one input. -/
def rootNamesWrong : ChangeSpec := { name := "rootNames", fn := fun _ => fun
  | [d] => { results := [.lit (.bool false)], args := [d] }
  | _ => none }
def RootNamesWrongFalsely : Prop := rootNamesRow.holds Tryz.pinned (OpenSpec.ofChange rootNamesWrong)

/-- 'bedrocklaw14.RootOpens': WHATEVER THE INPUT: true; the input reads as it did. -/
def rootOpensSpec : ChangeSpec := { name := "rootOpens", fn := fun _ => fun
  | [d1, d2, d3] => { results := [.lit (.bool true)], args := [d1, d2, d3] }
  | _ => none }
def rootOpensRow : OpenClaim := { program := "ytmfchlliechikaagreatdoor", sum := "f6ff795fc7152b5b0a61948f6863d250129648e83e50fd3054e027cb191cf057", func := "bedrock/bedrocklaw14.RootOpens", spec := "rootOpens", inPlace := ["internal/bytealg.IndexByteString", "internal/bytealg.IndexString"], unfollowed := true, recurses := true, named := ["unicode/utf8.first", "unicode/utf8.acceptRanges", "bedrock/crc.nibbles", "internal/bytealg.MaxLen"], apart := false, laid := [("bedrock/crc.nibbles", laid_bedrock_crc_nibbles), ("unicode/utf8.acceptRanges", laid_unicode_utf8_acceptRanges), ("unicode/utf8.first", laid_unicode_utf8_first)] }
def RootOpensSaid : Prop := rootOpensRow.holds Tryz.pinned (OpenSpec.ofChange rootOpensSpec)

/-- ITS FALSE NEIGHBOUR: 'it returns false'. Refute it at one input. -/
def rootOpensWrong : ChangeSpec := { name := "rootOpens", fn := fun _ => fun
  | [d1, d2, d3] => { results := [.lit (.bool false)], args := [d1, d2, d3] }
  | _ => none }
def RootOpensWrongFalsely : Prop := rootOpensRow.holds Tryz.pinned (OpenSpec.ofChange rootOpensWrong)

/-- 'bedrocklaw14.RootRegions': WHATEVER THE INPUT: true; the input reads as it did. -/
def rootRegionsSpec : ChangeSpec := { name := "rootRegions", fn := fun _ => fun
  | [d1, d2, d3] => { results := [.lit (.bool true)], args := [d1, d2, d3] }
  | _ => none }
def rootRegionsRow : OpenClaim := { program := "ytmfchlliechikaagreatdoor", sum := "f6ff795fc7152b5b0a61948f6863d250129648e83e50fd3054e027cb191cf057", func := "bedrock/bedrocklaw14.RootRegions", spec := "rootRegions", inPlace := ["internal/bytealg.IndexByteString", "internal/bytealg.IndexString"], unfollowed := true, recurses := true, named := ["unicode/utf8.first", "unicode/utf8.acceptRanges", "bedrock/crc.nibbles", "internal/bytealg.MaxLen"], apart := false, laid := [("bedrock/crc.nibbles", laid_bedrock_crc_nibbles), ("unicode/utf8.acceptRanges", laid_unicode_utf8_acceptRanges), ("unicode/utf8.first", laid_unicode_utf8_first)] }
def RootRegionsSaid : Prop := rootRegionsRow.holds Tryz.pinned (OpenSpec.ofChange rootRegionsSpec)

/-- ITS FALSE NEIGHBOUR: 'it returns false'. Refute it at one input. -/
def rootRegionsWrong : ChangeSpec := { name := "rootRegions", fn := fun _ => fun
  | [d1, d2, d3] => { results := [.lit (.bool false)], args := [d1, d2, d3] }
  | _ => none }
def RootRegionsWrongFalsely : Prop := rootRegionsRow.holds Tryz.pinned (OpenSpec.ofChange rootRegionsWrong)

/-- 'bedrocklaw14.RootNil': WHATEVER THE INPUT: true; the input reads as it did. -/
def rootNilSpec : ChangeSpec := { name := "rootNil", fn := fun _ => fun
  | [d1, d2] => { results := [.lit (.bool true)], args := [d1, d2] }
  | _ => none }
def rootNilRow : OpenClaim := { program := "ytmfchlliechikaagreatdoor", sum := "f6ff795fc7152b5b0a61948f6863d250129648e83e50fd3054e027cb191cf057", func := "bedrock/bedrocklaw14.RootNil", spec := "rootNil", inPlace := ["internal/bytealg.IndexByteString", "internal/bytealg.IndexString"], unfollowed := true, recurses := true, named := ["unicode/utf8.first", "unicode/utf8.acceptRanges", "bedrock/crc.nibbles", "internal/bytealg.MaxLen"], apart := false, laid := [("bedrock/crc.nibbles", laid_bedrock_crc_nibbles), ("unicode/utf8.acceptRanges", laid_unicode_utf8_acceptRanges), ("unicode/utf8.first", laid_unicode_utf8_first)] }
def RootNilSaid : Prop := rootNilRow.holds Tryz.pinned (OpenSpec.ofChange rootNilSpec)

/-- ITS FALSE NEIGHBOUR: 'it returns false'. Refute it at one input. -/
def rootNilWrong : ChangeSpec := { name := "rootNil", fn := fun _ => fun
  | [d1, d2] => { results := [.lit (.bool false)], args := [d1, d2] }
  | _ => none }
def RootNilWrongFalsely : Prop := rootNilRow.holds Tryz.pinned (OpenSpec.ofChange rootNilWrong)

/-- 'bedrocklaw14.RootPlays': WHATEVER THE INPUT: true; the input reads as it did. -/
def rootPlaysSpec : ChangeSpec := { name := "rootPlays", fn := fun _ => fun
  | [d1, d2] => { results := [.lit (.bool true)], args := [d1, d2] }
  | _ => none }
def rootPlaysRow : OpenClaim := { program := "ytmfchlliechikaagreatdoor", sum := "f6ff795fc7152b5b0a61948f6863d250129648e83e50fd3054e027cb191cf057", func := "bedrock/bedrocklaw14.RootPlays", spec := "rootPlays", inPlace := ["internal/bytealg.IndexByteString", "internal/bytealg.IndexString"], unfollowed := true, recurses := true, named := ["unicode/utf8.first", "unicode/utf8.acceptRanges", "bedrock/crc.nibbles", "internal/bytealg.MaxLen"], apart := false, laid := [("bedrock/crc.nibbles", laid_bedrock_crc_nibbles), ("unicode/utf8.acceptRanges", laid_unicode_utf8_acceptRanges), ("unicode/utf8.first", laid_unicode_utf8_first)] }
def RootPlaysSaid : Prop := rootPlaysRow.holds Tryz.pinned (OpenSpec.ofChange rootPlaysSpec)

/-- ITS FALSE NEIGHBOUR: 'it returns false'. Refute it at one input. -/
def rootPlaysWrong : ChangeSpec := { name := "rootPlays", fn := fun _ => fun
  | [d1, d2] => { results := [.lit (.bool false)], args := [d1, d2] }
  | _ => none }
def RootPlaysWrongFalsely : Prop := rootPlaysRow.holds Tryz.pinned (OpenSpec.ofChange rootPlaysWrong)

/-- 'bedrocklaw14.RootPlans': WHATEVER THE INPUT: true; the input reads as it did. -/
def rootPlansSpec : ChangeSpec := { name := "rootPlans", fn := fun _ => fun
  | [d1, d2] => { results := [.lit (.bool true)], args := [d1, d2] }
  | _ => none }
def rootPlansRow : OpenClaim := { program := "ytmfchlliechikaagreatdoor", sum := "f6ff795fc7152b5b0a61948f6863d250129648e83e50fd3054e027cb191cf057", func := "bedrock/bedrocklaw14.RootPlans", spec := "rootPlans", inPlace := ["internal/bytealg.IndexByteString", "internal/bytealg.IndexString"], unfollowed := true, recurses := true, named := ["unicode/utf8.first", "unicode/utf8.acceptRanges", "bedrock/crc.nibbles", "internal/bytealg.MaxLen"], apart := false, laid := [("bedrock/crc.nibbles", laid_bedrock_crc_nibbles), ("unicode/utf8.acceptRanges", laid_unicode_utf8_acceptRanges), ("unicode/utf8.first", laid_unicode_utf8_first)] }
def RootPlansSaid : Prop := rootPlansRow.holds Tryz.pinned (OpenSpec.ofChange rootPlansSpec)

/-- ITS FALSE NEIGHBOUR: 'it returns false'. Refute it at one input. -/
def rootPlansWrong : ChangeSpec := { name := "rootPlans", fn := fun _ => fun
  | [d1, d2] => { results := [.lit (.bool false)], args := [d1, d2] }
  | _ => none }
def RootPlansWrongFalsely : Prop := rootPlansRow.holds Tryz.pinned (OpenSpec.ofChange rootPlansWrong)

/-- 'bedrocklaw14.RootAtomic': WHATEVER THE INPUT: true; the input reads as it did. -/
def rootAtomicSpec : ChangeSpec := { name := "rootAtomic", fn := fun _ => fun
  | [d1, d2, d3] => { results := [.lit (.bool true)], args := [d1, d2, d3] }
  | _ => none }
def rootAtomicRow : OpenClaim := { program := "ytmfchlliechikaagreatdoor", sum := "f6ff795fc7152b5b0a61948f6863d250129648e83e50fd3054e027cb191cf057", func := "bedrock/bedrocklaw14.RootAtomic", spec := "rootAtomic", inPlace := ["internal/bytealg.IndexByteString", "internal/bytealg.IndexString"], unfollowed := true, recurses := true, named := ["unicode/utf8.first", "unicode/utf8.acceptRanges", "bedrock/crc.nibbles", "internal/bytealg.MaxLen"], apart := false, laid := [("bedrock/crc.nibbles", laid_bedrock_crc_nibbles), ("unicode/utf8.acceptRanges", laid_unicode_utf8_acceptRanges), ("unicode/utf8.first", laid_unicode_utf8_first)] }
def RootAtomicSaid : Prop := rootAtomicRow.holds Tryz.pinned (OpenSpec.ofChange rootAtomicSpec)

/-- ITS FALSE NEIGHBOUR: 'it returns false'. Refute it at one input. -/
def rootAtomicWrong : ChangeSpec := { name := "rootAtomic", fn := fun _ => fun
  | [d1, d2, d3] => { results := [.lit (.bool false)], args := [d1, d2, d3] }
  | _ => none }
def RootAtomicWrongFalsely : Prop := rootAtomicRow.holds Tryz.pinned (OpenSpec.ofChange rootAtomicWrong)

/- THE SECOND FORM. 'bulk': how many values and letters a reading holds, each counted each time it is reached (what is shared counts as often as it is met; a slice's spare places count too). A statement '..UptoSaid' is the law's where the arguments, and the package variables that the reading takes, are together of bulk at most 1048576: NARROWER than '..Said'. Prove '..Said' where nothing that the law and all that it calls make is longer than what came in: it says more and counts as full. Else prove '..UptoSaid'. A law counts once. -/
mutual
def uptoBulk {H : Type} : DataW H → Nat
  | .lit (.string bytes) => bytes.length + 1
  | .lit _ => 1
  | .nil => 1
  | .ptr d => uptoBulk d + 1
  | .slice elems spare => uptoBulkAll elems + uptoBulkAll spare + 1
  | .agg parts => uptoBulkAll parts + 1
  | .iface _ d => uptoBulk d + 1
  | .map entries => uptoBulkEntries entries + 1
  | .held _ => 1
def uptoBulkAll {H : Type} : List (DataW H) → Nat
  | [] => 0
  | d :: r => uptoBulk d + uptoBulkAll r
def uptoBulkEntries {H : Type} : List (Lit × DataW H) → Nat
  | [] => 0
  | x :: r => uptoBulkEntry x + uptoBulkEntries r
def uptoBulkEntry {H : Type} : Lit × DataW H → Nat
  | (.string bytes, d) => bytes.length + uptoBulk d + 1
  | (_, d) => uptoBulk d + 1
 end
def uptoSmall : (H : Type) → List (DataW H) → Bool := fun _ ds => decide (uptoBulkAll ds ≤ 1048576)
def OpenSpec.upto (s : _root_.Go.ChangeSpec) : _root_.Go.OpenSpec := { _root_.Go.OpenSpec.ofChange s with cond := some uptoSmall }

/-- 'bedrocklaw14.RootNames', WHERE WHAT IT READS IS OF BULK AT MOST 1048576: true; the input reads as it did. -/
def rootNamesUptoRow : OpenClaim := { program := "ytmfchlliechikaagreatdoor", sum := "f6ff795fc7152b5b0a61948f6863d250129648e83e50fd3054e027cb191cf057", func := "bedrock/bedrocklaw14.RootNames", spec := "rootNames", inPlace := ["internal/bytealg.IndexByteString", "internal/bytealg.IndexString"], unfollowed := true, recurses := true, named := ["unicode/utf8.first", "unicode/utf8.acceptRanges", "bedrock/crc.nibbles", "internal/bytealg.MaxLen"], apart := false, laid := [("bedrock/crc.nibbles", laid_bedrock_crc_nibbles), ("unicode/utf8.acceptRanges", laid_unicode_utf8_acceptRanges), ("unicode/utf8.first", laid_unicode_utf8_first)], narrowed := true }
def RootNamesUptoSaid : Prop := rootNamesUptoRow.holds Tryz.pinned (OpenSpec.upto rootNamesSpec)

/-- 'bedrocklaw14.RootOpens', WHERE WHAT IT READS IS OF BULK AT MOST 1048576: true; the input reads as it did. -/
def rootOpensUptoRow : OpenClaim := { program := "ytmfchlliechikaagreatdoor", sum := "f6ff795fc7152b5b0a61948f6863d250129648e83e50fd3054e027cb191cf057", func := "bedrock/bedrocklaw14.RootOpens", spec := "rootOpens", inPlace := ["internal/bytealg.IndexByteString", "internal/bytealg.IndexString"], unfollowed := true, recurses := true, named := ["unicode/utf8.first", "unicode/utf8.acceptRanges", "bedrock/crc.nibbles", "internal/bytealg.MaxLen"], apart := false, laid := [("bedrock/crc.nibbles", laid_bedrock_crc_nibbles), ("unicode/utf8.acceptRanges", laid_unicode_utf8_acceptRanges), ("unicode/utf8.first", laid_unicode_utf8_first)], narrowed := true }
def RootOpensUptoSaid : Prop := rootOpensUptoRow.holds Tryz.pinned (OpenSpec.upto rootOpensSpec)

/-- 'bedrocklaw14.RootRegions', WHERE WHAT IT READS IS OF BULK AT MOST 1048576: true; the input reads as it did. -/
def rootRegionsUptoRow : OpenClaim := { program := "ytmfchlliechikaagreatdoor", sum := "f6ff795fc7152b5b0a61948f6863d250129648e83e50fd3054e027cb191cf057", func := "bedrock/bedrocklaw14.RootRegions", spec := "rootRegions", inPlace := ["internal/bytealg.IndexByteString", "internal/bytealg.IndexString"], unfollowed := true, recurses := true, named := ["unicode/utf8.first", "unicode/utf8.acceptRanges", "bedrock/crc.nibbles", "internal/bytealg.MaxLen"], apart := false, laid := [("bedrock/crc.nibbles", laid_bedrock_crc_nibbles), ("unicode/utf8.acceptRanges", laid_unicode_utf8_acceptRanges), ("unicode/utf8.first", laid_unicode_utf8_first)], narrowed := true }
def RootRegionsUptoSaid : Prop := rootRegionsUptoRow.holds Tryz.pinned (OpenSpec.upto rootRegionsSpec)

/-- 'bedrocklaw14.RootNil', WHERE WHAT IT READS IS OF BULK AT MOST 1048576: true; the input reads as it did. -/
def rootNilUptoRow : OpenClaim := { program := "ytmfchlliechikaagreatdoor", sum := "f6ff795fc7152b5b0a61948f6863d250129648e83e50fd3054e027cb191cf057", func := "bedrock/bedrocklaw14.RootNil", spec := "rootNil", inPlace := ["internal/bytealg.IndexByteString", "internal/bytealg.IndexString"], unfollowed := true, recurses := true, named := ["unicode/utf8.first", "unicode/utf8.acceptRanges", "bedrock/crc.nibbles", "internal/bytealg.MaxLen"], apart := false, laid := [("bedrock/crc.nibbles", laid_bedrock_crc_nibbles), ("unicode/utf8.acceptRanges", laid_unicode_utf8_acceptRanges), ("unicode/utf8.first", laid_unicode_utf8_first)], narrowed := true }
def RootNilUptoSaid : Prop := rootNilUptoRow.holds Tryz.pinned (OpenSpec.upto rootNilSpec)

/-- 'bedrocklaw14.RootPlays', WHERE WHAT IT READS IS OF BULK AT MOST 1048576: true; the input reads as it did. -/
def rootPlaysUptoRow : OpenClaim := { program := "ytmfchlliechikaagreatdoor", sum := "f6ff795fc7152b5b0a61948f6863d250129648e83e50fd3054e027cb191cf057", func := "bedrock/bedrocklaw14.RootPlays", spec := "rootPlays", inPlace := ["internal/bytealg.IndexByteString", "internal/bytealg.IndexString"], unfollowed := true, recurses := true, named := ["unicode/utf8.first", "unicode/utf8.acceptRanges", "bedrock/crc.nibbles", "internal/bytealg.MaxLen"], apart := false, laid := [("bedrock/crc.nibbles", laid_bedrock_crc_nibbles), ("unicode/utf8.acceptRanges", laid_unicode_utf8_acceptRanges), ("unicode/utf8.first", laid_unicode_utf8_first)], narrowed := true }
def RootPlaysUptoSaid : Prop := rootPlaysUptoRow.holds Tryz.pinned (OpenSpec.upto rootPlaysSpec)

/-- 'bedrocklaw14.RootPlans', WHERE WHAT IT READS IS OF BULK AT MOST 1048576: true; the input reads as it did. -/
def rootPlansUptoRow : OpenClaim := { program := "ytmfchlliechikaagreatdoor", sum := "f6ff795fc7152b5b0a61948f6863d250129648e83e50fd3054e027cb191cf057", func := "bedrock/bedrocklaw14.RootPlans", spec := "rootPlans", inPlace := ["internal/bytealg.IndexByteString", "internal/bytealg.IndexString"], unfollowed := true, recurses := true, named := ["unicode/utf8.first", "unicode/utf8.acceptRanges", "bedrock/crc.nibbles", "internal/bytealg.MaxLen"], apart := false, laid := [("bedrock/crc.nibbles", laid_bedrock_crc_nibbles), ("unicode/utf8.acceptRanges", laid_unicode_utf8_acceptRanges), ("unicode/utf8.first", laid_unicode_utf8_first)], narrowed := true }
def RootPlansUptoSaid : Prop := rootPlansUptoRow.holds Tryz.pinned (OpenSpec.upto rootPlansSpec)

/-- 'bedrocklaw14.RootAtomic', WHERE WHAT IT READS IS OF BULK AT MOST 1048576: true; the input reads as it did. -/
def rootAtomicUptoRow : OpenClaim := { program := "ytmfchlliechikaagreatdoor", sum := "f6ff795fc7152b5b0a61948f6863d250129648e83e50fd3054e027cb191cf057", func := "bedrock/bedrocklaw14.RootAtomic", spec := "rootAtomic", inPlace := ["internal/bytealg.IndexByteString", "internal/bytealg.IndexString"], unfollowed := true, recurses := true, named := ["unicode/utf8.first", "unicode/utf8.acceptRanges", "bedrock/crc.nibbles", "internal/bytealg.MaxLen"], apart := false, laid := [("bedrock/crc.nibbles", laid_bedrock_crc_nibbles), ("unicode/utf8.acceptRanges", laid_unicode_utf8_acceptRanges), ("unicode/utf8.first", laid_unicode_utf8_first)], narrowed := true }
def RootAtomicUptoSaid : Prop := rootAtomicUptoRow.holds Tryz.pinned (OpenSpec.upto rootAtomicSpec)

end Rows
end Go.Proofs.YtmfchlliechikaaGreatDoor
