/-
  DERIVED. GIVEN WITH THE SEED: THE CARDS: each row of YtdidpppjkbgccaaDoorRows.lean that lists a variable, with what it lists TIED to the program's text (the seventh form; the later family's looks); each row that meets fmt, with fmt's text TOLD by the authors' own Lean function (tested against real Go, not proved from fmt's source: count such statements apart). THE CARD IS WHAT COUNTS. Prove the row's statement (the work); the ties are given (YtdidpppjkbgccaaDoorTie.lean); close each card by the builder's one call (the guide's Derived/Test/ToyasCard.lean, 'card_holds'). Laid BY PROGRAM, IN A SANDBOX (cutbox-door.mjs). By AI agents, Wed Nov 11 2026. No macro, syntax, notation, axiom, sorry.
-/
import Derived.Test.YtdidpppjkbgccaaDoorRows
import GoSem.ClaimSeven
namespace Go.Proofs.YtdidpppjkbgccaaDoor
namespace Rows

/-- THE TIED CARD OF 'bedrocklaw15.RedoCommits'. -/
def redoCommitsCard : Claim7 := { stood := { row := redoCommitsRow, standIns := [], harness := (true, "129004a49d41f948f5202582d9c30b237853a504e0195d60f110fa6484a99802"), looks := false }, kinds := [], alts := [], laidByText := true, laidKinds := [.data, .data], laidTests := true, laidLooks := .later }
def RedoCommitsCardSaid : Prop := Claim7.holds Tryd.pinned (.plain (OpenSpec.ofChange redoCommitsSpec)) redoCommitsCard

/-- THE TIED CARD OF 'bedrocklaw15.RedoAtomic'. -/
def redoAtomicCard : Claim7 := { stood := { row := redoAtomicRow, standIns := [], harness := (true, "129004a49d41f948f5202582d9c30b237853a504e0195d60f110fa6484a99802"), looks := false }, kinds := [], alts := [], laidByText := true, laidKinds := [.data, .data], laidTests := true, laidLooks := .later }
def RedoAtomicCardSaid : Prop := Claim7.holds Tryd.pinned (.plain (OpenSpec.ofChange redoAtomicSpec)) redoAtomicCard

/-- THE TIED CARD OF 'bedrocklaw15.RedoImages'. -/
def redoImagesCard : Claim7 := { stood := { row := redoImagesRow, standIns := [], harness := (true, "129004a49d41f948f5202582d9c30b237853a504e0195d60f110fa6484a99802"), looks := false }, kinds := [], alts := [], laidByText := true, laidKinds := [.data, .data], laidTests := true, laidLooks := .later }
def RedoImagesCardSaid : Prop := Claim7.holds Tryd.pinned (.plain (OpenSpec.ofChange redoImagesSpec)) redoImagesCard

/-- THE SECOND FORM's CARD OF 'bedrocklaw15.RedoCommits'. -/
def redoCommitsUptoCard : Claim7 := { stood := { row := redoCommitsUptoRow, standIns := [], harness := (true, "129004a49d41f948f5202582d9c30b237853a504e0195d60f110fa6484a99802"), looks := false }, kinds := [], alts := [], laidByText := true, laidKinds := [.data, .data], laidTests := true, laidLooks := .later }
def RedoCommitsUptoCardSaid : Prop := Claim7.holds Tryd.pinned (.plain (OpenSpec.upto redoCommitsSpec)) redoCommitsUptoCard

/-- THE SECOND FORM's CARD OF 'bedrocklaw15.RedoAtomic'. -/
def redoAtomicUptoCard : Claim7 := { stood := { row := redoAtomicUptoRow, standIns := [], harness := (true, "129004a49d41f948f5202582d9c30b237853a504e0195d60f110fa6484a99802"), looks := false }, kinds := [], alts := [], laidByText := true, laidKinds := [.data, .data], laidTests := true, laidLooks := .later }
def RedoAtomicUptoCardSaid : Prop := Claim7.holds Tryd.pinned (.plain (OpenSpec.upto redoAtomicSpec)) redoAtomicUptoCard

/-- THE SECOND FORM's CARD OF 'bedrocklaw15.RedoImages'. -/
def redoImagesUptoCard : Claim7 := { stood := { row := redoImagesUptoRow, standIns := [], harness := (true, "129004a49d41f948f5202582d9c30b237853a504e0195d60f110fa6484a99802"), looks := false }, kinds := [], alts := [], laidByText := true, laidKinds := [.data, .data], laidTests := true, laidLooks := .later }
def RedoImagesUptoCardSaid : Prop := Claim7.holds Tryd.pinned (.plain (OpenSpec.upto redoImagesSpec)) redoImagesUptoCard
end Rows
end Go.Proofs.YtdidpppjkbgccaaDoor
