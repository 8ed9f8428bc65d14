/-
  DERIVED. GIVEN WITH THE SEED: THE CARDS: each row of YtokgplgdaememaaDoorRows.lean that lists a variable, with what it lists TIED to the program's text (the seventh form; the later family's looks); each row that meets fmt, with fmt's text TOLD by the authors' own Lean function (tested against real Go, not proved from fmt's source: count such statements apart). THE CARD IS WHAT COUNTS. Prove the row's statement (the work); the ties are given (YtokgplgdaememaaDoorTie.lean); close each card by the builder's one call (the guide's Derived/Test/ToyasCard.lean, 'card_holds'). Laid BY PROGRAM, IN A SANDBOX (cutbox-door.mjs). By AI agents, Wed Nov 11 2026. No macro, syntax, notation, axiom, sorry.
-/
import Derived.Test.YtokgplgdaememaaDoorRows
import GoSem.ClaimSeven
namespace Go.Proofs.YtokgplgdaememaaDoor
namespace Rows

/-- THE TIED CARD OF 'bedrocklaw16.UndoRegions'. -/
def undoRegionsCard : Claim7 := { stood := { row := undoRegionsRow, standIns := [], harness := (true, "5d02ff41f4c91551bdde88e9d7154ed27509754a1175b7e710bd6818def5a27d"), looks := false }, kinds := [], alts := [], laidByText := true, laidKinds := [.data], laidTests := true, laidLooks := .later }
def UndoRegionsCardSaid : Prop := Claim7.holds Tryd.pinned (.plain (OpenSpec.ofChange undoRegionsSpec)) undoRegionsCard

/-- THE TIED CARD OF 'bedrocklaw16.UndoSaves'. -/
def undoSavesCard : Claim7 := { stood := { row := undoSavesRow, standIns := [], harness := (true, "5d02ff41f4c91551bdde88e9d7154ed27509754a1175b7e710bd6818def5a27d"), looks := false }, kinds := [], alts := [], laidByText := true, laidKinds := [.data], laidTests := true, laidLooks := .later }
def UndoSavesCardSaid : Prop := Claim7.holds Tryd.pinned (.plain (OpenSpec.ofChange undoSavesSpec)) undoSavesCard

/-- THE TIED CARD OF 'bedrocklaw16.UndoPlans'. -/
def undoPlansCard : Claim7 := { stood := { row := undoPlansRow, standIns := [], harness := (true, "5d02ff41f4c91551bdde88e9d7154ed27509754a1175b7e710bd6818def5a27d"), looks := false }, kinds := [], alts := [], laidByText := true, laidKinds := [.data], laidTests := true, laidLooks := .later }
def UndoPlansCardSaid : Prop := Claim7.holds Tryd.pinned (.plain (OpenSpec.ofChange undoPlansSpec)) undoPlansCard

/-- THE TIED CARD OF 'bedrocklaw16.UndoOff'. -/
def undoOffCard : Claim7 := { stood := { row := undoOffRow, standIns := [], harness := (true, "5d02ff41f4c91551bdde88e9d7154ed27509754a1175b7e710bd6818def5a27d"), looks := false }, kinds := [], alts := [], laidByText := true, laidKinds := [.data], laidTests := true, laidLooks := .later }
def UndoOffCardSaid : Prop := Claim7.holds Tryd.pinned (.plain (OpenSpec.ofChange undoOffSpec)) undoOffCard

/-- THE TIED CARD OF 'bedrocklaw16.UndoLooks'. -/
def undoLooksCard : Claim7 := { stood := { row := undoLooksRow, standIns := [], harness := (true, "5d02ff41f4c91551bdde88e9d7154ed27509754a1175b7e710bd6818def5a27d"), looks := false }, kinds := [], alts := [], laidByText := true, laidKinds := [.data], laidTests := true, laidLooks := .later }
def UndoLooksCardSaid : Prop := Claim7.holds Tryd.pinned (.plain (OpenSpec.ofChange undoLooksSpec)) undoLooksCard

/-- THE TIED CARD OF 'bedrocklaw16.UndoCommits'. -/
def undoCommitsCard : Claim7 := { stood := { row := undoCommitsRow, standIns := [], harness := (true, "5d02ff41f4c91551bdde88e9d7154ed27509754a1175b7e710bd6818def5a27d"), looks := false }, kinds := [], alts := [], laidByText := true, laidKinds := [.data], laidTests := true, laidLooks := .later }
def UndoCommitsCardSaid : Prop := Claim7.holds Tryd.pinned (.plain (OpenSpec.ofChange undoCommitsSpec)) undoCommitsCard

/-- THE TIED CARD OF 'bedrocklaw16.UndoTwice'. -/
def undoTwiceCard : Claim7 := { stood := { row := undoTwiceRow, standIns := [], harness := (true, "5d02ff41f4c91551bdde88e9d7154ed27509754a1175b7e710bd6818def5a27d"), looks := false }, kinds := [], alts := [], laidByText := true, laidKinds := [.data], laidTests := true, laidLooks := .later }
def UndoTwiceCardSaid : Prop := Claim7.holds Tryd.pinned (.plain (OpenSpec.ofChange undoTwiceSpec)) undoTwiceCard

/-- THE TIED CARD OF 'bedrocklaw16.UndoAtomic'. -/
def undoAtomicCard : Claim7 := { stood := { row := undoAtomicRow, standIns := [], harness := (true, "5d02ff41f4c91551bdde88e9d7154ed27509754a1175b7e710bd6818def5a27d"), looks := false }, kinds := [], alts := [], laidByText := true, laidKinds := [.data], laidTests := true, laidLooks := .later }
def UndoAtomicCardSaid : Prop := Claim7.holds Tryd.pinned (.plain (OpenSpec.ofChange undoAtomicSpec)) undoAtomicCard

/-- THE SECOND FORM's CARD OF 'bedrocklaw16.UndoRegions'. -/
def undoRegionsUptoCard : Claim7 := { stood := { row := undoRegionsUptoRow, standIns := [], harness := (true, "5d02ff41f4c91551bdde88e9d7154ed27509754a1175b7e710bd6818def5a27d"), looks := false }, kinds := [], alts := [], laidByText := true, laidKinds := [.data], laidTests := true, laidLooks := .later }
def UndoRegionsUptoCardSaid : Prop := Claim7.holds Tryd.pinned (.plain (OpenSpec.upto undoRegionsSpec)) undoRegionsUptoCard

/-- THE SECOND FORM's CARD OF 'bedrocklaw16.UndoSaves'. -/
def undoSavesUptoCard : Claim7 := { stood := { row := undoSavesUptoRow, standIns := [], harness := (true, "5d02ff41f4c91551bdde88e9d7154ed27509754a1175b7e710bd6818def5a27d"), looks := false }, kinds := [], alts := [], laidByText := true, laidKinds := [.data], laidTests := true, laidLooks := .later }
def UndoSavesUptoCardSaid : Prop := Claim7.holds Tryd.pinned (.plain (OpenSpec.upto undoSavesSpec)) undoSavesUptoCard

/-- THE SECOND FORM's CARD OF 'bedrocklaw16.UndoPlans'. -/
def undoPlansUptoCard : Claim7 := { stood := { row := undoPlansUptoRow, standIns := [], harness := (true, "5d02ff41f4c91551bdde88e9d7154ed27509754a1175b7e710bd6818def5a27d"), looks := false }, kinds := [], alts := [], laidByText := true, laidKinds := [.data], laidTests := true, laidLooks := .later }
def UndoPlansUptoCardSaid : Prop := Claim7.holds Tryd.pinned (.plain (OpenSpec.upto undoPlansSpec)) undoPlansUptoCard

/-- THE SECOND FORM's CARD OF 'bedrocklaw16.UndoOff'. -/
def undoOffUptoCard : Claim7 := { stood := { row := undoOffUptoRow, standIns := [], harness := (true, "5d02ff41f4c91551bdde88e9d7154ed27509754a1175b7e710bd6818def5a27d"), looks := false }, kinds := [], alts := [], laidByText := true, laidKinds := [.data], laidTests := true, laidLooks := .later }
def UndoOffUptoCardSaid : Prop := Claim7.holds Tryd.pinned (.plain (OpenSpec.upto undoOffSpec)) undoOffUptoCard

/-- THE SECOND FORM's CARD OF 'bedrocklaw16.UndoLooks'. -/
def undoLooksUptoCard : Claim7 := { stood := { row := undoLooksUptoRow, standIns := [], harness := (true, "5d02ff41f4c91551bdde88e9d7154ed27509754a1175b7e710bd6818def5a27d"), looks := false }, kinds := [], alts := [], laidByText := true, laidKinds := [.data], laidTests := true, laidLooks := .later }
def UndoLooksUptoCardSaid : Prop := Claim7.holds Tryd.pinned (.plain (OpenSpec.upto undoLooksSpec)) undoLooksUptoCard

/-- THE SECOND FORM's CARD OF 'bedrocklaw16.UndoCommits'. -/
def undoCommitsUptoCard : Claim7 := { stood := { row := undoCommitsUptoRow, standIns := [], harness := (true, "5d02ff41f4c91551bdde88e9d7154ed27509754a1175b7e710bd6818def5a27d"), looks := false }, kinds := [], alts := [], laidByText := true, laidKinds := [.data], laidTests := true, laidLooks := .later }
def UndoCommitsUptoCardSaid : Prop := Claim7.holds Tryd.pinned (.plain (OpenSpec.upto undoCommitsSpec)) undoCommitsUptoCard

/-- THE SECOND FORM's CARD OF 'bedrocklaw16.UndoTwice'. -/
def undoTwiceUptoCard : Claim7 := { stood := { row := undoTwiceUptoRow, standIns := [], harness := (true, "5d02ff41f4c91551bdde88e9d7154ed27509754a1175b7e710bd6818def5a27d"), looks := false }, kinds := [], alts := [], laidByText := true, laidKinds := [.data], laidTests := true, laidLooks := .later }
def UndoTwiceUptoCardSaid : Prop := Claim7.holds Tryd.pinned (.plain (OpenSpec.upto undoTwiceSpec)) undoTwiceUptoCard

/-- THE SECOND FORM's CARD OF 'bedrocklaw16.UndoAtomic'. -/
def undoAtomicUptoCard : Claim7 := { stood := { row := undoAtomicUptoRow, standIns := [], harness := (true, "5d02ff41f4c91551bdde88e9d7154ed27509754a1175b7e710bd6818def5a27d"), looks := false }, kinds := [], alts := [], laidByText := true, laidKinds := [.data], laidTests := true, laidLooks := .later }
def UndoAtomicUptoCardSaid : Prop := Claim7.holds Tryd.pinned (.plain (OpenSpec.upto undoAtomicSpec)) undoAtomicUptoCard
end Rows
end Go.Proofs.YtokgplgdaememaaDoor
