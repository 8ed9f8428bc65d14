/-
  DERIVED. GIVEN WITH THE SEED: THE CARDS: each row of YtbpaamnofkhonaaDoorRows.lean that lists a variable, with what it lists TIED to the program's text (the seventh form; the later family's looks); each row that meets fmt, with fmt's text TOLD by the authors' own Lean function (tested against real Go, not proved from fmt's source: count such statements apart). THE CARD IS WHAT COUNTS. Prove the row's statement (the work); the ties are given (YtbpaamnofkhonaaDoorTie.lean); close each card by the builder's one call (the guide's Derived/Test/ToyasCard.lean, 'card_holds'). Laid BY PROGRAM, IN A SANDBOX (cutbox-door.mjs). By AI agents, Wed Nov 11 2026. No macro, syntax, notation, axiom, sorry.
-/
import Derived.Test.YtbpaamnofkhonaaDoorRows
import GoSem.ClaimSeven
namespace Go.Proofs.YtbpaamnofkhonaaDoor
namespace Rows

/-- THE TIED CARD OF 'bedrocklaw13.SuperblockRegions'. -/
def superblockRegionsCard : Claim7 := { stood := { row := superblockRegionsRow, standIns := [], harness := (true, "fc064b992a7f6df9ac85d739889c8be557836e3390c9adb5bc14c0332ab08470"), looks := true }, kinds := [], alts := [], laidByText := true, laidKinds := [.data], laidTests := true, laidLooks := .later }
def SuperblockRegionsCardSaid : Prop := Claim7.holds Tryd.pinned (.plain (OpenSpec.ofChange superblockRegionsSpec)) superblockRegionsCard

/-- THE TIED CARD OF 'bedrocklaw13.SuperblockCovers'. -/
def superblockCoversCard : Claim7 := { stood := { row := superblockCoversRow, standIns := [], harness := (true, "fc064b992a7f6df9ac85d739889c8be557836e3390c9adb5bc14c0332ab08470"), looks := true }, kinds := [], alts := [], laidByText := true, laidKinds := [.data], laidTests := true, laidLooks := .later }
def SuperblockCoversCardSaid : Prop := Claim7.holds Tryd.pinned (.plain (OpenSpec.ofChange superblockCoversSpec)) superblockCoversCard

/-- THE TIED CARD OF 'bedrocklaw13.SuperblockOpens'. -/
def superblockOpensCard : Claim7 := { stood := { row := superblockOpensRow, standIns := [], harness := (true, "fc064b992a7f6df9ac85d739889c8be557836e3390c9adb5bc14c0332ab08470"), looks := true }, kinds := [], alts := [], laidByText := true, laidKinds := [.data], laidTests := true, laidLooks := .later }
def SuperblockOpensCardSaid : Prop := Claim7.holds Tryd.pinned (.plain (OpenSpec.ofChange superblockOpensSpec)) superblockOpensCard

/-- THE TIED CARD OF 'bedrocklaw13.SuperblockErrors'. -/
def superblockErrorsCard : Claim7 := { stood := { row := superblockErrorsRow, standIns := [], harness := (true, "fc064b992a7f6df9ac85d739889c8be557836e3390c9adb5bc14c0332ab08470"), looks := true }, kinds := [], alts := [], laidByText := true, laidKinds := [.data], laidTests := true, laidLooks := .later }
def SuperblockErrorsCardSaid : Prop := Claim7.holds Tryd.pinned (.plain (OpenSpec.ofChange superblockErrorsSpec)) superblockErrorsCard

/-- THE TIED CARD OF 'bedrocklaw13.SuperblockPlans'. -/
def superblockPlansCard : Claim7 := { stood := { row := superblockPlansRow, standIns := [], harness := (true, "fc064b992a7f6df9ac85d739889c8be557836e3390c9adb5bc14c0332ab08470"), looks := true }, kinds := [], alts := [], laidByText := true, laidKinds := [.data], laidTests := true, laidLooks := .later }
def SuperblockPlansCardSaid : Prop := Claim7.holds Tryd.pinned (.plain (OpenSpec.ofChange superblockPlansSpec)) superblockPlansCard

/-- THE TIED CARD OF 'bedrocklaw13.SuperblockAtomic'. -/
def superblockAtomicCard : Claim7 := { stood := { row := superblockAtomicRow, standIns := [], harness := (true, "fc064b992a7f6df9ac85d739889c8be557836e3390c9adb5bc14c0332ab08470"), looks := true }, kinds := [], alts := [], laidByText := true, laidKinds := [.data], laidTests := true, laidLooks := .later }
def SuperblockAtomicCardSaid : Prop := Claim7.holds Tryd.pinned (.plain (OpenSpec.ofChange superblockAtomicSpec)) superblockAtomicCard

/-- THE TIED CARD OF 'bedrocklaw13.SuperblockFormats'. -/
def superblockFormatsCard : Claim7 := { stood := { row := superblockFormatsRow, standIns := [], harness := (true, "fc064b992a7f6df9ac85d739889c8be557836e3390c9adb5bc14c0332ab08470"), looks := true }, kinds := [], alts := [], laidByText := true, laidKinds := [.data], laidTests := true, laidLooks := .later }
def SuperblockFormatsCardSaid : Prop := Claim7.holds Tryd.pinned (.plain (OpenSpec.ofChange superblockFormatsSpec)) superblockFormatsCard

/-- THE TIED CARD OF 'bedrocklaw13.SuperblockRepairs'. -/
def superblockRepairsCard : Claim7 := { stood := { row := superblockRepairsRow, standIns := [], harness := (true, "fc064b992a7f6df9ac85d739889c8be557836e3390c9adb5bc14c0332ab08470"), looks := true }, kinds := [], alts := [], laidByText := true, laidKinds := [.data], laidTests := true, laidLooks := .later }
def SuperblockRepairsCardSaid : Prop := Claim7.holds Tryd.pinned (.plain (OpenSpec.ofChange superblockRepairsSpec)) superblockRepairsCard

/-- THE SECOND FORM's CARD OF 'bedrocklaw13.SuperblockRegions'. -/
def superblockRegionsUptoCard : Claim7 := { stood := { row := superblockRegionsUptoRow, standIns := [], harness := (true, "fc064b992a7f6df9ac85d739889c8be557836e3390c9adb5bc14c0332ab08470"), looks := true }, kinds := [], alts := [], laidByText := true, laidKinds := [.data], laidTests := true, laidLooks := .later }
def SuperblockRegionsUptoCardSaid : Prop := Claim7.holds Tryd.pinned (.plain (OpenSpec.upto superblockRegionsSpec)) superblockRegionsUptoCard

/-- THE SECOND FORM's CARD OF 'bedrocklaw13.SuperblockCovers'. -/
def superblockCoversUptoCard : Claim7 := { stood := { row := superblockCoversUptoRow, standIns := [], harness := (true, "fc064b992a7f6df9ac85d739889c8be557836e3390c9adb5bc14c0332ab08470"), looks := true }, kinds := [], alts := [], laidByText := true, laidKinds := [.data], laidTests := true, laidLooks := .later }
def SuperblockCoversUptoCardSaid : Prop := Claim7.holds Tryd.pinned (.plain (OpenSpec.upto superblockCoversSpec)) superblockCoversUptoCard

/-- THE SECOND FORM's CARD OF 'bedrocklaw13.SuperblockOpens'. -/
def superblockOpensUptoCard : Claim7 := { stood := { row := superblockOpensUptoRow, standIns := [], harness := (true, "fc064b992a7f6df9ac85d739889c8be557836e3390c9adb5bc14c0332ab08470"), looks := true }, kinds := [], alts := [], laidByText := true, laidKinds := [.data], laidTests := true, laidLooks := .later }
def SuperblockOpensUptoCardSaid : Prop := Claim7.holds Tryd.pinned (.plain (OpenSpec.upto superblockOpensSpec)) superblockOpensUptoCard

/-- THE SECOND FORM's CARD OF 'bedrocklaw13.SuperblockErrors'. -/
def superblockErrorsUptoCard : Claim7 := { stood := { row := superblockErrorsUptoRow, standIns := [], harness := (true, "fc064b992a7f6df9ac85d739889c8be557836e3390c9adb5bc14c0332ab08470"), looks := true }, kinds := [], alts := [], laidByText := true, laidKinds := [.data], laidTests := true, laidLooks := .later }
def SuperblockErrorsUptoCardSaid : Prop := Claim7.holds Tryd.pinned (.plain (OpenSpec.upto superblockErrorsSpec)) superblockErrorsUptoCard

/-- THE SECOND FORM's CARD OF 'bedrocklaw13.SuperblockPlans'. -/
def superblockPlansUptoCard : Claim7 := { stood := { row := superblockPlansUptoRow, standIns := [], harness := (true, "fc064b992a7f6df9ac85d739889c8be557836e3390c9adb5bc14c0332ab08470"), looks := true }, kinds := [], alts := [], laidByText := true, laidKinds := [.data], laidTests := true, laidLooks := .later }
def SuperblockPlansUptoCardSaid : Prop := Claim7.holds Tryd.pinned (.plain (OpenSpec.upto superblockPlansSpec)) superblockPlansUptoCard

/-- THE SECOND FORM's CARD OF 'bedrocklaw13.SuperblockAtomic'. -/
def superblockAtomicUptoCard : Claim7 := { stood := { row := superblockAtomicUptoRow, standIns := [], harness := (true, "fc064b992a7f6df9ac85d739889c8be557836e3390c9adb5bc14c0332ab08470"), looks := true }, kinds := [], alts := [], laidByText := true, laidKinds := [.data], laidTests := true, laidLooks := .later }
def SuperblockAtomicUptoCardSaid : Prop := Claim7.holds Tryd.pinned (.plain (OpenSpec.upto superblockAtomicSpec)) superblockAtomicUptoCard

/-- THE SECOND FORM's CARD OF 'bedrocklaw13.SuperblockFormats'. -/
def superblockFormatsUptoCard : Claim7 := { stood := { row := superblockFormatsUptoRow, standIns := [], harness := (true, "fc064b992a7f6df9ac85d739889c8be557836e3390c9adb5bc14c0332ab08470"), looks := true }, kinds := [], alts := [], laidByText := true, laidKinds := [.data], laidTests := true, laidLooks := .later }
def SuperblockFormatsUptoCardSaid : Prop := Claim7.holds Tryd.pinned (.plain (OpenSpec.upto superblockFormatsSpec)) superblockFormatsUptoCard

/-- THE SECOND FORM's CARD OF 'bedrocklaw13.SuperblockRepairs'. -/
def superblockRepairsUptoCard : Claim7 := { stood := { row := superblockRepairsUptoRow, standIns := [], harness := (true, "fc064b992a7f6df9ac85d739889c8be557836e3390c9adb5bc14c0332ab08470"), looks := true }, kinds := [], alts := [], laidByText := true, laidKinds := [.data], laidTests := true, laidLooks := .later }
def SuperblockRepairsUptoCardSaid : Prop := Claim7.holds Tryd.pinned (.plain (OpenSpec.upto superblockRepairsSpec)) superblockRepairsUptoCard
end Rows
end Go.Proofs.YtbpaamnofkhonaaDoor
