/-
  DERIVED. GIVEN WITH THE SEED: THE CARDS: each row of YtfigngoojphffaaDoorRows.lean that lists a variable, with what it lists TIED to the program's text (the seventh form; the later family's looks); each row that meets fmt, with fmt's text TOLD by the authors' own Lean function (tested against real Go, not proved from fmt's source: count such statements apart). THE CARD IS WHAT COUNTS. Prove the row's statement (the work); the ties are given (YtfigngoojphffaaDoorTie.lean); close each card by the builder's one call (the guide's Derived/Test/ToyasCard.lean, 'card_holds'). Laid BY PROGRAM, IN A SANDBOX (cutbox-door.mjs). By AI agents, Wed Nov 11 2026. No macro, syntax, notation, axiom, sorry.
-/
import Derived.Test.YtfigngoojphffaaDoorRows
import GoSem.ClaimSeven
namespace Go.Proofs.YtfigngoojphffaaDoor
namespace Rows

/-- THE TIED CARD OF 'bedrocklaw15.RedoPlans'. -/
def redoPlansCard : Claim7 := { stood := { row := redoPlansRow, standIns := [], harness := (true, "6c8382d66fed74331e36732d3b63920c0171efd836e9d9d810685add84560283"), looks := false }, kinds := [], alts := [], laidByText := true, laidKinds := [.data, .data], laidTests := true, laidLooks := .later }
def RedoPlansCardSaid : Prop := Claim7.holds Tryd.pinned (.plain (OpenSpec.ofChange redoPlansSpec)) redoPlansCard

/-- THE TIED CARD OF 'bedrocklaw15.RedoLooks'. -/
def redoLooksCard : Claim7 := { stood := { row := redoLooksRow, standIns := [], harness := (true, "6c8382d66fed74331e36732d3b63920c0171efd836e9d9d810685add84560283"), looks := false }, kinds := [], alts := [], laidByText := true, laidKinds := [.data, .data], laidTests := true, laidLooks := .later }
def RedoLooksCardSaid : Prop := Claim7.holds Tryd.pinned (.plain (OpenSpec.ofChange redoLooksSpec)) redoLooksCard

/-- THE TIED CARD OF 'bedrocklaw15.RedoCommits'. -/
def redoCommitsCard : Claim7 := { stood := { row := redoCommitsRow, standIns := [], harness := (true, "6c8382d66fed74331e36732d3b63920c0171efd836e9d9d810685add84560283"), looks := false }, kinds := [], alts := [], laidByText := true, laidKinds := [.data, .data], laidTests := true, laidLooks := .later }
def RedoCommitsCardSaid : Prop := Claim7.holds Tryd.pinned (.plain (OpenSpec.ofChange redoCommitsSpec)) redoCommitsCard

/-- THE TIED CARD OF 'bedrocklaw15.RedoRegions'. -/
def redoRegionsCard : Claim7 := { stood := { row := redoRegionsRow, standIns := [], harness := (true, "6c8382d66fed74331e36732d3b63920c0171efd836e9d9d810685add84560283"), looks := false }, kinds := [], alts := [], laidByText := true, laidKinds := [.data], laidTests := true, laidLooks := .later }
def RedoRegionsCardSaid : Prop := Claim7.holds Tryd.pinned (.plain (OpenSpec.ofChange redoRegionsSpec)) redoRegionsCard

/-- THE TIED CARD OF 'bedrocklaw15.RedoRecovers'. -/
def redoRecoversCard : Claim7 := { stood := { row := redoRecoversRow, standIns := [], harness := (true, "6c8382d66fed74331e36732d3b63920c0171efd836e9d9d810685add84560283"), looks := false }, kinds := [], alts := [], laidByText := true, laidKinds := [.data, .data], laidTests := true, laidLooks := .later }
def RedoRecoversCardSaid : Prop := Claim7.holds Tryd.pinned (.plain (OpenSpec.ofChange redoRecoversSpec)) redoRecoversCard

/-- THE TIED CARD OF 'bedrocklaw15.RedoAtomic'. -/
def redoAtomicCard : Claim7 := { stood := { row := redoAtomicRow, standIns := [], harness := (true, "6c8382d66fed74331e36732d3b63920c0171efd836e9d9d810685add84560283"), looks := false }, kinds := [], alts := [], laidByText := true, laidKinds := [.data, .data], laidTests := true, laidLooks := .later }
def RedoAtomicCardSaid : Prop := Claim7.holds Tryd.pinned (.plain (OpenSpec.ofChange redoAtomicSpec)) redoAtomicCard

/-- THE TIED CARD OF 'bedrocklaw15.RedoImages'. -/
def redoImagesCard : Claim7 := { stood := { row := redoImagesRow, standIns := [], harness := (true, "6c8382d66fed74331e36732d3b63920c0171efd836e9d9d810685add84560283"), looks := false }, kinds := [], alts := [], laidByText := true, laidKinds := [.data, .data], laidTests := true, laidLooks := .later }
def RedoImagesCardSaid : Prop := Claim7.holds Tryd.pinned (.plain (OpenSpec.ofChange redoImagesSpec)) redoImagesCard

/-- THE SECOND FORM's CARD OF 'bedrocklaw15.RedoPlans'. -/
def redoPlansUptoCard : Claim7 := { stood := { row := redoPlansUptoRow, standIns := [], harness := (true, "6c8382d66fed74331e36732d3b63920c0171efd836e9d9d810685add84560283"), looks := false }, kinds := [], alts := [], laidByText := true, laidKinds := [.data, .data], laidTests := true, laidLooks := .later }
def RedoPlansUptoCardSaid : Prop := Claim7.holds Tryd.pinned (.plain (OpenSpec.upto redoPlansSpec)) redoPlansUptoCard

/-- THE SECOND FORM's CARD OF 'bedrocklaw15.RedoLooks'. -/
def redoLooksUptoCard : Claim7 := { stood := { row := redoLooksUptoRow, standIns := [], harness := (true, "6c8382d66fed74331e36732d3b63920c0171efd836e9d9d810685add84560283"), looks := false }, kinds := [], alts := [], laidByText := true, laidKinds := [.data, .data], laidTests := true, laidLooks := .later }
def RedoLooksUptoCardSaid : Prop := Claim7.holds Tryd.pinned (.plain (OpenSpec.upto redoLooksSpec)) redoLooksUptoCard

/-- THE SECOND FORM's CARD OF 'bedrocklaw15.RedoCommits'. -/
def redoCommitsUptoCard : Claim7 := { stood := { row := redoCommitsUptoRow, standIns := [], harness := (true, "6c8382d66fed74331e36732d3b63920c0171efd836e9d9d810685add84560283"), looks := false }, kinds := [], alts := [], laidByText := true, laidKinds := [.data, .data], laidTests := true, laidLooks := .later }
def RedoCommitsUptoCardSaid : Prop := Claim7.holds Tryd.pinned (.plain (OpenSpec.upto redoCommitsSpec)) redoCommitsUptoCard

/-- THE SECOND FORM's CARD OF 'bedrocklaw15.RedoRegions'. -/
def redoRegionsUptoCard : Claim7 := { stood := { row := redoRegionsUptoRow, standIns := [], harness := (true, "6c8382d66fed74331e36732d3b63920c0171efd836e9d9d810685add84560283"), looks := false }, kinds := [], alts := [], laidByText := true, laidKinds := [.data], laidTests := true, laidLooks := .later }
def RedoRegionsUptoCardSaid : Prop := Claim7.holds Tryd.pinned (.plain (OpenSpec.upto redoRegionsSpec)) redoRegionsUptoCard

/-- THE SECOND FORM's CARD OF 'bedrocklaw15.RedoRecovers'. -/
def redoRecoversUptoCard : Claim7 := { stood := { row := redoRecoversUptoRow, standIns := [], harness := (true, "6c8382d66fed74331e36732d3b63920c0171efd836e9d9d810685add84560283"), looks := false }, kinds := [], alts := [], laidByText := true, laidKinds := [.data, .data], laidTests := true, laidLooks := .later }
def RedoRecoversUptoCardSaid : Prop := Claim7.holds Tryd.pinned (.plain (OpenSpec.upto redoRecoversSpec)) redoRecoversUptoCard

/-- THE SECOND FORM's CARD OF 'bedrocklaw15.RedoAtomic'. -/
def redoAtomicUptoCard : Claim7 := { stood := { row := redoAtomicUptoRow, standIns := [], harness := (true, "6c8382d66fed74331e36732d3b63920c0171efd836e9d9d810685add84560283"), looks := false }, kinds := [], alts := [], laidByText := true, laidKinds := [.data, .data], laidTests := true, laidLooks := .later }
def RedoAtomicUptoCardSaid : Prop := Claim7.holds Tryd.pinned (.plain (OpenSpec.upto redoAtomicSpec)) redoAtomicUptoCard

/-- THE SECOND FORM's CARD OF 'bedrocklaw15.RedoImages'. -/
def redoImagesUptoCard : Claim7 := { stood := { row := redoImagesUptoRow, standIns := [], harness := (true, "6c8382d66fed74331e36732d3b63920c0171efd836e9d9d810685add84560283"), looks := false }, kinds := [], alts := [], laidByText := true, laidKinds := [.data, .data], laidTests := true, laidLooks := .later }
def RedoImagesUptoCardSaid : Prop := Claim7.holds Tryd.pinned (.plain (OpenSpec.upto redoImagesSpec)) redoImagesUptoCard
end Rows
end Go.Proofs.YtfigngoojphffaaDoor
