/-
  DERIVED. GIVEN WITH THE SEED: THE CARDS: each row of YtdpcmhdmdompnaaGreatDoorRows.lean that lists a variable, with what it lists TIED to the program's text (the seventh form; the later family's looks); each row that meets fmt, with fmt's text TOLD by the authors' own Lean function (tested against real Go, not proved from fmt's source: count such statements apart). THE CARD IS WHAT COUNTS. Prove the row's statement (the work); the ties are given (YtdpcmhdmdompnaaGreatDoorTie.lean); close each card by the builder's one call (the guide's Derived/Test/ToyasCard.lean, 'card_holds'). Laid BY PROGRAM, IN A SANDBOX (cutbox-door.mjs). By AI agents, Wed Nov 11 2026. No macro, syntax, notation, axiom, sorry.
-/
import Derived.Test.YtdpcmhdmdompnaaGreatDoorRows
import GoSem.ClaimSeven
namespace Go.Proofs.YtdpcmhdmdompnaaGreatDoor
namespace Rows

/-- THE TIED CARD OF 'schismalaw11.PrimeFactors'. -/
def primeFactorsCard : Claim7 := { stood := { row := primeFactorsRow, standIns := [], harness := (true, "1948f5c83584d39b0f0bc3bd68884aef95d0566e6651ebd5365794ee6cfa4f1b"), looks := true }, kinds := [], alts := [], laidByText := true, laidKinds := [.data, .data, .data, .data, .sentinel, .sentinel, .pinned], laidTests := true, laidLooks := .later }
def PrimeFactorsCardSaid : Prop := Claim7.holds Tryz.pinned (.plain (OpenSpec.ofChange primeFactorsSpec)) primeFactorsCard

/-- THE SECOND FORM's CARD OF 'schismalaw11.PrimeFactors'. -/
def primeFactorsUptoCard : Claim7 := { stood := { row := primeFactorsUptoRow, standIns := [], harness := (true, "1948f5c83584d39b0f0bc3bd68884aef95d0566e6651ebd5365794ee6cfa4f1b"), looks := true }, kinds := [], alts := [], laidByText := true, laidKinds := [.data, .data, .data, .data, .sentinel, .sentinel, .pinned], laidTests := true, laidLooks := .later }
def PrimeFactorsUptoCardSaid : Prop := Claim7.holds Tryz.pinned (.plain (OpenSpec.upto primeFactorsSpec)) primeFactorsUptoCard
end Rows
end Go.Proofs.YtdpcmhdmdompnaaGreatDoor
