/-
  DERIVED. GIVEN WITH THE SEED: THE CARDS: each row of YtlhchkajjpefmaaGreatDoorRows.lean that lists a variable, with what it lists TIED to the program's text (the seventh form; the later family's looks); each row that meets fmt, with fmt's text TOLD by the authors' own Lean function (tested against real Go, not proved from fmt's source: count such statements apart). THE CARD IS WHAT COUNTS. Prove the row's statement (the work); the ties are given (YtlhchkajjpefmaaGreatDoorTie.lean); close each card by the builder's one call (the guide's Derived/Test/ToyasCard.lean, 'card_holds'). Laid BY PROGRAM, IN A SANDBOX (cutbox-door.mjs). By AI agents, Wed Nov 11 2026. No macro, syntax, notation, axiom, sorry.
-/
import Derived.Test.YtlhchkajjpefmaaGreatDoorRows
import GoSem.ClaimSeven
namespace Go.Proofs.YtlhchkajjpefmaaGreatDoor
namespace Rows

/-- THE TIED CARD OF 'bedrocklaw54.NecessitySystem'. -/
def necessitySystemCard : Claim7 := { stood := { row := necessitySystemRow, standIns := [], harness := (true, "b5f6d9d790a8d3e0fc89ba715c3978f7e4ce583c46d2305e0114f01e1416f344"), looks := true }, kinds := [], alts := [], laidByText := true, laidKinds := [.data, .data, .pinned], laidTests := true, laidLooks := .later }
def NecessitySystemCardSaid : Prop := Claim7.holds Tryz.pinned (.plain (OpenSpec.ofChange necessitySystemSpec)) necessitySystemCard

/-- THE TIED CARD OF 'bedrocklaw54.NecessityJudges'. -/
def necessityJudgesCard : Claim7 := { stood := { row := necessityJudgesRow, standIns := [], harness := (true, "b5f6d9d790a8d3e0fc89ba715c3978f7e4ce583c46d2305e0114f01e1416f344"), looks := true }, kinds := [], alts := [], laidByText := true, laidKinds := [.data, .data, .pinned], laidTests := true, laidLooks := .later }
def NecessityJudgesCardSaid : Prop := Claim7.holds Tryz.pinned (.plain (OpenSpec.ofChange necessityJudgesSpec)) necessityJudgesCard

/-- THE TIED CARD OF 'bedrocklaw54.NecessityFences'. -/
def necessityFencesCard : Claim7 := { stood := { row := necessityFencesRow, standIns := [], harness := (true, "b5f6d9d790a8d3e0fc89ba715c3978f7e4ce583c46d2305e0114f01e1416f344"), looks := true }, kinds := [], alts := [], laidByText := true, laidKinds := [.data, .data, .pinned], laidTests := true, laidLooks := .later }
def NecessityFencesCardSaid : Prop := Claim7.holds Tryz.pinned (.plain (OpenSpec.ofChange necessityFencesSpec)) necessityFencesCard

/-- THE TIED CARD OF 'bedrocklaw54.NecessityPrograms'. -/
def necessityProgramsCard : Claim7 := { stood := { row := necessityProgramsRow, standIns := [], harness := (true, "b5f6d9d790a8d3e0fc89ba715c3978f7e4ce583c46d2305e0114f01e1416f344"), looks := true }, kinds := [], alts := [], laidByText := true, laidKinds := [.data, .data, .pinned], laidTests := true, laidLooks := .later }
def NecessityProgramsCardSaid : Prop := Claim7.holds Tryz.pinned (.plain (OpenSpec.ofChange necessityProgramsSpec)) necessityProgramsCard

/-- THE SECOND FORM's CARD OF 'bedrocklaw54.NecessitySystem'. -/
def necessitySystemUptoCard : Claim7 := { stood := { row := necessitySystemUptoRow, standIns := [], harness := (true, "b5f6d9d790a8d3e0fc89ba715c3978f7e4ce583c46d2305e0114f01e1416f344"), looks := true }, kinds := [], alts := [], laidByText := true, laidKinds := [.data, .data, .pinned], laidTests := true, laidLooks := .later }
def NecessitySystemUptoCardSaid : Prop := Claim7.holds Tryz.pinned (.plain (OpenSpec.upto necessitySystemSpec)) necessitySystemUptoCard

/-- THE SECOND FORM's CARD OF 'bedrocklaw54.NecessityJudges'. -/
def necessityJudgesUptoCard : Claim7 := { stood := { row := necessityJudgesUptoRow, standIns := [], harness := (true, "b5f6d9d790a8d3e0fc89ba715c3978f7e4ce583c46d2305e0114f01e1416f344"), looks := true }, kinds := [], alts := [], laidByText := true, laidKinds := [.data, .data, .pinned], laidTests := true, laidLooks := .later }
def NecessityJudgesUptoCardSaid : Prop := Claim7.holds Tryz.pinned (.plain (OpenSpec.upto necessityJudgesSpec)) necessityJudgesUptoCard

/-- THE SECOND FORM's CARD OF 'bedrocklaw54.NecessityFences'. -/
def necessityFencesUptoCard : Claim7 := { stood := { row := necessityFencesUptoRow, standIns := [], harness := (true, "b5f6d9d790a8d3e0fc89ba715c3978f7e4ce583c46d2305e0114f01e1416f344"), looks := true }, kinds := [], alts := [], laidByText := true, laidKinds := [.data, .data, .pinned], laidTests := true, laidLooks := .later }
def NecessityFencesUptoCardSaid : Prop := Claim7.holds Tryz.pinned (.plain (OpenSpec.upto necessityFencesSpec)) necessityFencesUptoCard

/-- THE SECOND FORM's CARD OF 'bedrocklaw54.NecessityPrograms'. -/
def necessityProgramsUptoCard : Claim7 := { stood := { row := necessityProgramsUptoRow, standIns := [], harness := (true, "b5f6d9d790a8d3e0fc89ba715c3978f7e4ce583c46d2305e0114f01e1416f344"), looks := true }, kinds := [], alts := [], laidByText := true, laidKinds := [.data, .data, .pinned], laidTests := true, laidLooks := .later }
def NecessityProgramsUptoCardSaid : Prop := Claim7.holds Tryz.pinned (.plain (OpenSpec.upto necessityProgramsSpec)) necessityProgramsUptoCard
end Rows
end Go.Proofs.YtlhchkajjpefmaaGreatDoor
