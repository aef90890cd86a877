/-
  DERIVED. GIVEN WITH THE SEED: THE CARDS: each row of YtpafocfpofnkpaaGreatDoorRows.lean that lists a variable, with what it lists TIED to the program's text (the seventh form; the later family's looks); each row that meets fmt, with fmt's text TOLD by the authors' own Lean function (tested against real Go, not proved from fmt's source: count such statements apart). THE CARD IS WHAT COUNTS. Prove the row's statement (the work); the ties are given (YtpafocfpofnkpaaGreatDoorTie.lean); close each card by the builder's one call (the guide's Derived/Test/ToyasCard.lean, 'card_holds'). Laid BY PROGRAM, IN A SANDBOX (cutbox-door.mjs). By AI agents, Wed Nov 11 2026. No macro, syntax, notation, axiom, sorry.
-/
import Derived.Test.YtpafocfpofnkpaaGreatDoorRows
import GoSem.ClaimSeven
namespace Go.Proofs.YtpafocfpofnkpaaGreatDoor
namespace Rows

/-- THE TIED CARD OF 'schismalaw04.ConvergentBests'. -/
def convergentBestsCard : Claim7 := { stood := { row := convergentBestsRow, standIns := [], harness := (true, "cc6febd79be4f845bb316a52e56f00157aa27f31c3c14d8f84d94142a6159f3a"), looks := true }, kinds := [], alts := [], laidByText := true, laidKinds := [.data, .data, .data, .sentinel, .sentinel], laidTests := true, laidLooks := .later }
def ConvergentBestsCardSaid : Prop := Claim7.holds Tryz.pinned (.plain (OpenSpec.ofChange convergentBestsSpec)) convergentBestsCard

/-- THE TIED CARD OF 'schismalaw04.ConvergentSides'. -/
def convergentSidesCard : Claim7 := { stood := { row := convergentSidesRow, standIns := [], harness := (true, "cc6febd79be4f845bb316a52e56f00157aa27f31c3c14d8f84d94142a6159f3a"), looks := true }, kinds := [], alts := [], laidByText := true, laidKinds := [.data, .data, .data, .sentinel, .sentinel], laidTests := true, laidLooks := .later }
def ConvergentSidesCardSaid : Prop := Claim7.holds Tryz.pinned (.plain (OpenSpec.ofChange convergentSidesSpec)) convergentSidesCard

/-- THE TIED CARD OF 'schismalaw04.ConvergentSimplest'. -/
def convergentSimplestCard : Claim7 := { stood := { row := convergentSimplestRow, standIns := [], harness := (true, "cc6febd79be4f845bb316a52e56f00157aa27f31c3c14d8f84d94142a6159f3a"), looks := true }, kinds := [], alts := [], laidByText := true, laidKinds := [.data, .data, .data, .sentinel, .sentinel], laidTests := true, laidLooks := .later }
def ConvergentSimplestCardSaid : Prop := Claim7.holds Tryz.pinned (.plain (OpenSpec.ofChange convergentSimplestSpec)) convergentSimplestCard

/-- THE TIED CARD OF 'schismalaw04.ConvergentBetween'. -/
def convergentBetweenCard : Claim7 := { stood := { row := convergentBetweenRow, standIns := [], harness := (true, "cc6febd79be4f845bb316a52e56f00157aa27f31c3c14d8f84d94142a6159f3a"), looks := true }, kinds := [], alts := [], laidByText := true, laidKinds := [.data, .data, .data, .sentinel, .sentinel], laidTests := true, laidLooks := .later }
def ConvergentBetweenCardSaid : Prop := Claim7.holds Tryz.pinned (.plain (OpenSpec.ofChange convergentBetweenSpec)) convergentBetweenCard

/-- THE TIED CARD OF 'schismalaw04.ConvergentPaths'. -/
def convergentPathsCard : Claim7 := { stood := { row := convergentPathsRow, standIns := [], harness := (true, "cc6febd79be4f845bb316a52e56f00157aa27f31c3c14d8f84d94142a6159f3a"), looks := true }, kinds := [], alts := [], laidByText := true, laidKinds := [.data, .data, .data, .data, .sentinel, .sentinel, .pinned], laidTests := true, laidLooks := .later }
def ConvergentPathsCardSaid : Prop := Claim7.holds Tryz.pinned (.plain (OpenSpec.ofChange convergentPathsSpec)) convergentPathsCard

/-- THE TIED CARD OF 'schismalaw04.ConvergentWays'. -/
def convergentWaysCard : Claim7 := { stood := { row := convergentWaysRow, standIns := [], harness := (true, "cc6febd79be4f845bb316a52e56f00157aa27f31c3c14d8f84d94142a6159f3a"), looks := true }, kinds := [], alts := [], laidByText := true, laidKinds := [.data, .data, .data, .data, .sentinel, .sentinel, .pinned], laidTests := true, laidLooks := .later }
def ConvergentWaysCardSaid : Prop := Claim7.holds Tryz.pinned (.plain (OpenSpec.ofChange convergentWaysSpec)) convergentWaysCard

/-- THE SECOND FORM's CARD OF 'schismalaw04.ConvergentBests'. -/
def convergentBestsUptoCard : Claim7 := { stood := { row := convergentBestsUptoRow, standIns := [], harness := (true, "cc6febd79be4f845bb316a52e56f00157aa27f31c3c14d8f84d94142a6159f3a"), looks := true }, kinds := [], alts := [], laidByText := true, laidKinds := [.data, .data, .data, .sentinel, .sentinel], laidTests := true, laidLooks := .later }
def ConvergentBestsUptoCardSaid : Prop := Claim7.holds Tryz.pinned (.plain (OpenSpec.upto convergentBestsSpec)) convergentBestsUptoCard

/-- THE SECOND FORM's CARD OF 'schismalaw04.ConvergentSides'. -/
def convergentSidesUptoCard : Claim7 := { stood := { row := convergentSidesUptoRow, standIns := [], harness := (true, "cc6febd79be4f845bb316a52e56f00157aa27f31c3c14d8f84d94142a6159f3a"), looks := true }, kinds := [], alts := [], laidByText := true, laidKinds := [.data, .data, .data, .sentinel, .sentinel], laidTests := true, laidLooks := .later }
def ConvergentSidesUptoCardSaid : Prop := Claim7.holds Tryz.pinned (.plain (OpenSpec.upto convergentSidesSpec)) convergentSidesUptoCard

/-- THE SECOND FORM's CARD OF 'schismalaw04.ConvergentSimplest'. -/
def convergentSimplestUptoCard : Claim7 := { stood := { row := convergentSimplestUptoRow, standIns := [], harness := (true, "cc6febd79be4f845bb316a52e56f00157aa27f31c3c14d8f84d94142a6159f3a"), looks := true }, kinds := [], alts := [], laidByText := true, laidKinds := [.data, .data, .data, .sentinel, .sentinel], laidTests := true, laidLooks := .later }
def ConvergentSimplestUptoCardSaid : Prop := Claim7.holds Tryz.pinned (.plain (OpenSpec.upto convergentSimplestSpec)) convergentSimplestUptoCard

/-- THE SECOND FORM's CARD OF 'schismalaw04.ConvergentBetween'. -/
def convergentBetweenUptoCard : Claim7 := { stood := { row := convergentBetweenUptoRow, standIns := [], harness := (true, "cc6febd79be4f845bb316a52e56f00157aa27f31c3c14d8f84d94142a6159f3a"), looks := true }, kinds := [], alts := [], laidByText := true, laidKinds := [.data, .data, .data, .sentinel, .sentinel], laidTests := true, laidLooks := .later }
def ConvergentBetweenUptoCardSaid : Prop := Claim7.holds Tryz.pinned (.plain (OpenSpec.upto convergentBetweenSpec)) convergentBetweenUptoCard

/-- THE SECOND FORM's CARD OF 'schismalaw04.ConvergentPaths'. -/
def convergentPathsUptoCard : Claim7 := { stood := { row := convergentPathsUptoRow, standIns := [], harness := (true, "cc6febd79be4f845bb316a52e56f00157aa27f31c3c14d8f84d94142a6159f3a"), looks := true }, kinds := [], alts := [], laidByText := true, laidKinds := [.data, .data, .data, .data, .sentinel, .sentinel, .pinned], laidTests := true, laidLooks := .later }
def ConvergentPathsUptoCardSaid : Prop := Claim7.holds Tryz.pinned (.plain (OpenSpec.upto convergentPathsSpec)) convergentPathsUptoCard

/-- THE SECOND FORM's CARD OF 'schismalaw04.ConvergentWays'. -/
def convergentWaysUptoCard : Claim7 := { stood := { row := convergentWaysUptoRow, standIns := [], harness := (true, "cc6febd79be4f845bb316a52e56f00157aa27f31c3c14d8f84d94142a6159f3a"), looks := true }, kinds := [], alts := [], laidByText := true, laidKinds := [.data, .data, .data, .data, .sentinel, .sentinel, .pinned], laidTests := true, laidLooks := .later }
def ConvergentWaysUptoCardSaid : Prop := Claim7.holds Tryz.pinned (.plain (OpenSpec.upto convergentWaysSpec)) convergentWaysUptoCard
end Rows
end Go.Proofs.YtpafocfpofnkpaaGreatDoor
