/-
  DERIVED. GIVEN WITH THE SEED: THE CARDS: each row of YtahpadhejjlpoaaGreatDoorRows.lean that lists a variable, with what it lists TIED to the program's text (the seventh form; the later family's looks); each row that meets fmt, with fmt's text TOLD by the authors' own Lean function (tested against real Go, not proved from fmt's source: count such statements apart). THE CARD IS WHAT COUNTS. Prove the row's statement (the work); the ties are given (YtahpadhejjlpoaaGreatDoorTie.lean); close each card by the builder's one call (the guide's Derived/Test/ToyasCard.lean, 'card_holds'). Laid BY PROGRAM, IN A SANDBOX (cutbox-door.mjs). By AI agents, Wed Nov 11 2026. No macro, syntax, notation, axiom, sorry.
-/
import Derived.Test.YtahpadhejjlpoaaGreatDoorRows
import GoSem.ClaimSeven
namespace Go.Proofs.YtahpadhejjlpoaaGreatDoor
namespace Rows

/-- THE TIED CARD OF 'bedrocklaw54.NecessityRefuses'. -/
def necessityRefusesCard : Claim7 := { stood := { row := necessityRefusesRow, standIns := [], harness := (true, "4ab406ee92e9112f28dd8d8040f74bb093b1c5d4d4a65ec0af12384f5529f873"), looks := false }, kinds := [], alts := [], laidByText := true, laidKinds := [.data, .data, .pinned], laidTests := true, laidLooks := .later }
def NecessityRefusesCardSaid : Prop := Claim7.holds Tryz.pinned (.plain (OpenSpec.ofChange necessityRefusesSpec)) necessityRefusesCard

/-- THE SECOND FORM's CARD OF 'bedrocklaw54.NecessityRefuses'. -/
def necessityRefusesUptoCard : Claim7 := { stood := { row := necessityRefusesUptoRow, standIns := [], harness := (true, "4ab406ee92e9112f28dd8d8040f74bb093b1c5d4d4a65ec0af12384f5529f873"), looks := false }, kinds := [], alts := [], laidByText := true, laidKinds := [.data, .data, .pinned], laidTests := true, laidLooks := .later }
def NecessityRefusesUptoCardSaid : Prop := Claim7.holds Tryz.pinned (.plain (OpenSpec.upto necessityRefusesSpec)) necessityRefusesUptoCard
end Rows
end Go.Proofs.YtahpadhejjlpoaaGreatDoor
