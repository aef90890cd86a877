/-
  DERIVED. GIVEN WITH THE SEED: THE CARDS: each row of YtolnojkdalbppaaGreatDoorRows.lean that lists a variable, with what it lists TIED to the program's text (the seventh form; the later family's looks); each row that meets fmt, with fmt's text TOLD by the authors' own Lean function (tested against real Go, not proved from fmt's source: count such statements apart). THE CARD IS WHAT COUNTS. Prove the row's statement (the work); the ties are given (YtolnojkdalbppaaGreatDoorTie.lean); close each card by the builder's one call (the guide's Derived/Test/ToyasCard.lean, 'card_holds'). Laid BY PROGRAM, IN A SANDBOX (cutbox-door.mjs). By AI agents, Wed Nov 11 2026. No macro, syntax, notation, axiom, sorry.
-/
import Derived.Test.YtolnojkdalbppaaGreatDoorRows
import GoSem.ClaimSeven
namespace Go.Proofs.YtolnojkdalbppaaGreatDoor
namespace Rows

/-- THE TIED CARD OF 'schismalaw11.PrimeJoins'. -/
def primeJoinsCard : Claim7 := { stood := { row := primeJoinsRow, standIns := [], harness := (true, "132ac70506bb5c290ecd182e13d3aa8714ffce1e09a9a2e6a25e68b6bc9a33e3"), looks := true }, kinds := [], alts := [], laidByText := true, laidKinds := [.data, .data, .data, .data, .sentinel, .sentinel, .pinned], laidTests := true, laidLooks := .later }
def PrimeJoinsCardSaid : Prop := Claim7.holds Tryz.pinned (.plain (OpenSpec.ofChange primeJoinsSpec)) primeJoinsCard

/-- THE SECOND FORM's CARD OF 'schismalaw11.PrimeJoins'. -/
def primeJoinsUptoCard : Claim7 := { stood := { row := primeJoinsUptoRow, standIns := [], harness := (true, "132ac70506bb5c290ecd182e13d3aa8714ffce1e09a9a2e6a25e68b6bc9a33e3"), looks := true }, kinds := [], alts := [], laidByText := true, laidKinds := [.data, .data, .data, .data, .sentinel, .sentinel, .pinned], laidTests := true, laidLooks := .later }
def PrimeJoinsUptoCardSaid : Prop := Claim7.holds Tryz.pinned (.plain (OpenSpec.upto primeJoinsSpec)) primeJoinsUptoCard
end Rows
end Go.Proofs.YtolnojkdalbppaaGreatDoor
