/-
  DERIVED. GIVEN WITH THE SEED: THE CARDS: each row of YtmfchlliechikaaGreatDoorRows.lean that lists a variable, with what it lists TIED to the program's text (the seventh form; the later family's looks); each row that meets fmt, with fmt's text TOLD by the authors' own Lean function (tested against real Go, not proved from fmt's source: count such statements apart). THE CARD IS WHAT COUNTS. Prove the row's statement (the work); the ties are given (YtmfchlliechikaaGreatDoorTie.lean); close each card by the builder's one call (the guide's Derived/Test/ToyasCard.lean, 'card_holds'). Laid BY PROGRAM, IN A SANDBOX (cutbox-door.mjs). By AI agents, Wed Nov 11 2026. No macro, syntax, notation, axiom, sorry.
-/
import Derived.Test.YtmfchlliechikaaGreatDoorRows
import GoSem.ClaimSeven
namespace Go.Proofs.YtmfchlliechikaaGreatDoor
namespace Rows

/-- THE TIED CARD OF 'bedrocklaw14.RootNames'. -/
def rootNamesCard : Claim7 := { stood := { row := rootNamesRow, standIns := [], harness := (true, "b1066382bb95359cb7e5da091713a8ca24ae976503139a2b294d0712f3ff22bc"), looks := false }, kinds := [], alts := [], laidByText := true, laidKinds := [.data, .data, .pinned], laidTests := true, laidLooks := .later }
def RootNamesCardSaid : Prop := Claim7.holds Tryz.pinned (.plain (OpenSpec.ofChange rootNamesSpec)) rootNamesCard

/-- THE TIED CARD OF 'bedrocklaw14.RootOpens'. -/
def rootOpensCard : Claim7 := { stood := { row := rootOpensRow, standIns := [], harness := (true, "b1066382bb95359cb7e5da091713a8ca24ae976503139a2b294d0712f3ff22bc"), looks := false }, kinds := [], alts := [], laidByText := true, laidKinds := [.data, .data, .pinned], laidTests := true, laidLooks := .later }
def RootOpensCardSaid : Prop := Claim7.holds Tryz.pinned (.plain (OpenSpec.ofChange rootOpensSpec)) rootOpensCard

/-- THE TIED CARD OF 'bedrocklaw14.RootRegions'. -/
def rootRegionsCard : Claim7 := { stood := { row := rootRegionsRow, standIns := [], harness := (true, "b1066382bb95359cb7e5da091713a8ca24ae976503139a2b294d0712f3ff22bc"), looks := false }, kinds := [], alts := [], laidByText := true, laidKinds := [.data, .data, .pinned], laidTests := true, laidLooks := .later }
def RootRegionsCardSaid : Prop := Claim7.holds Tryz.pinned (.plain (OpenSpec.ofChange rootRegionsSpec)) rootRegionsCard

/-- THE TIED CARD OF 'bedrocklaw14.RootNil'. -/
def rootNilCard : Claim7 := { stood := { row := rootNilRow, standIns := [], harness := (true, "b1066382bb95359cb7e5da091713a8ca24ae976503139a2b294d0712f3ff22bc"), looks := false }, kinds := [], alts := [], laidByText := true, laidKinds := [.data, .data, .pinned], laidTests := true, laidLooks := .later }
def RootNilCardSaid : Prop := Claim7.holds Tryz.pinned (.plain (OpenSpec.ofChange rootNilSpec)) rootNilCard

/-- THE TIED CARD OF 'bedrocklaw14.RootPlays'. -/
def rootPlaysCard : Claim7 := { stood := { row := rootPlaysRow, standIns := [], harness := (true, "b1066382bb95359cb7e5da091713a8ca24ae976503139a2b294d0712f3ff22bc"), looks := false }, kinds := [], alts := [], laidByText := true, laidKinds := [.data, .data, .pinned], laidTests := true, laidLooks := .later }
def RootPlaysCardSaid : Prop := Claim7.holds Tryz.pinned (.plain (OpenSpec.ofChange rootPlaysSpec)) rootPlaysCard

/-- THE TIED CARD OF 'bedrocklaw14.RootPlans'. -/
def rootPlansCard : Claim7 := { stood := { row := rootPlansRow, standIns := [], harness := (true, "b1066382bb95359cb7e5da091713a8ca24ae976503139a2b294d0712f3ff22bc"), looks := false }, kinds := [], alts := [], laidByText := true, laidKinds := [.data, .data, .pinned], laidTests := true, laidLooks := .later }
def RootPlansCardSaid : Prop := Claim7.holds Tryz.pinned (.plain (OpenSpec.ofChange rootPlansSpec)) rootPlansCard

/-- THE TIED CARD OF 'bedrocklaw14.RootAtomic'. -/
def rootAtomicCard : Claim7 := { stood := { row := rootAtomicRow, standIns := [], harness := (true, "b1066382bb95359cb7e5da091713a8ca24ae976503139a2b294d0712f3ff22bc"), looks := false }, kinds := [], alts := [], laidByText := true, laidKinds := [.data, .data, .pinned], laidTests := true, laidLooks := .later }
def RootAtomicCardSaid : Prop := Claim7.holds Tryz.pinned (.plain (OpenSpec.ofChange rootAtomicSpec)) rootAtomicCard

/-- THE SECOND FORM's CARD OF 'bedrocklaw14.RootNames'. -/
def rootNamesUptoCard : Claim7 := { stood := { row := rootNamesUptoRow, standIns := [], harness := (true, "b1066382bb95359cb7e5da091713a8ca24ae976503139a2b294d0712f3ff22bc"), looks := false }, kinds := [], alts := [], laidByText := true, laidKinds := [.data, .data, .pinned], laidTests := true, laidLooks := .later }
def RootNamesUptoCardSaid : Prop := Claim7.holds Tryz.pinned (.plain (OpenSpec.upto rootNamesSpec)) rootNamesUptoCard

/-- THE SECOND FORM's CARD OF 'bedrocklaw14.RootOpens'. -/
def rootOpensUptoCard : Claim7 := { stood := { row := rootOpensUptoRow, standIns := [], harness := (true, "b1066382bb95359cb7e5da091713a8ca24ae976503139a2b294d0712f3ff22bc"), looks := false }, kinds := [], alts := [], laidByText := true, laidKinds := [.data, .data, .pinned], laidTests := true, laidLooks := .later }
def RootOpensUptoCardSaid : Prop := Claim7.holds Tryz.pinned (.plain (OpenSpec.upto rootOpensSpec)) rootOpensUptoCard

/-- THE SECOND FORM's CARD OF 'bedrocklaw14.RootRegions'. -/
def rootRegionsUptoCard : Claim7 := { stood := { row := rootRegionsUptoRow, standIns := [], harness := (true, "b1066382bb95359cb7e5da091713a8ca24ae976503139a2b294d0712f3ff22bc"), looks := false }, kinds := [], alts := [], laidByText := true, laidKinds := [.data, .data, .pinned], laidTests := true, laidLooks := .later }
def RootRegionsUptoCardSaid : Prop := Claim7.holds Tryz.pinned (.plain (OpenSpec.upto rootRegionsSpec)) rootRegionsUptoCard

/-- THE SECOND FORM's CARD OF 'bedrocklaw14.RootNil'. -/
def rootNilUptoCard : Claim7 := { stood := { row := rootNilUptoRow, standIns := [], harness := (true, "b1066382bb95359cb7e5da091713a8ca24ae976503139a2b294d0712f3ff22bc"), looks := false }, kinds := [], alts := [], laidByText := true, laidKinds := [.data, .data, .pinned], laidTests := true, laidLooks := .later }
def RootNilUptoCardSaid : Prop := Claim7.holds Tryz.pinned (.plain (OpenSpec.upto rootNilSpec)) rootNilUptoCard

/-- THE SECOND FORM's CARD OF 'bedrocklaw14.RootPlays'. -/
def rootPlaysUptoCard : Claim7 := { stood := { row := rootPlaysUptoRow, standIns := [], harness := (true, "b1066382bb95359cb7e5da091713a8ca24ae976503139a2b294d0712f3ff22bc"), looks := false }, kinds := [], alts := [], laidByText := true, laidKinds := [.data, .data, .pinned], laidTests := true, laidLooks := .later }
def RootPlaysUptoCardSaid : Prop := Claim7.holds Tryz.pinned (.plain (OpenSpec.upto rootPlaysSpec)) rootPlaysUptoCard

/-- THE SECOND FORM's CARD OF 'bedrocklaw14.RootPlans'. -/
def rootPlansUptoCard : Claim7 := { stood := { row := rootPlansUptoRow, standIns := [], harness := (true, "b1066382bb95359cb7e5da091713a8ca24ae976503139a2b294d0712f3ff22bc"), looks := false }, kinds := [], alts := [], laidByText := true, laidKinds := [.data, .data, .pinned], laidTests := true, laidLooks := .later }
def RootPlansUptoCardSaid : Prop := Claim7.holds Tryz.pinned (.plain (OpenSpec.upto rootPlansSpec)) rootPlansUptoCard

/-- THE SECOND FORM's CARD OF 'bedrocklaw14.RootAtomic'. -/
def rootAtomicUptoCard : Claim7 := { stood := { row := rootAtomicUptoRow, standIns := [], harness := (true, "b1066382bb95359cb7e5da091713a8ca24ae976503139a2b294d0712f3ff22bc"), looks := false }, kinds := [], alts := [], laidByText := true, laidKinds := [.data, .data, .pinned], laidTests := true, laidLooks := .later }
def RootAtomicUptoCardSaid : Prop := Claim7.holds Tryz.pinned (.plain (OpenSpec.upto rootAtomicSpec)) rootAtomicUptoCard
end Rows
end Go.Proofs.YtmfchlliechikaaGreatDoor
