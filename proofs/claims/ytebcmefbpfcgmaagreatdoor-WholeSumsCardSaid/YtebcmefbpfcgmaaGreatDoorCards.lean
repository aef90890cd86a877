/-
  DERIVED. GIVEN WITH THE SEED: THE CARDS: each row of YtebcmefbpfcgmaaGreatDoorRows.lean that lists a variable, with what it lists TIED to the program's text (the seventh form; the later family's looks); each row that meets fmt, with fmt's text TOLD by the authors' own Lean function (tested against real Go, not proved from fmt's source: count such statements apart). THE CARD IS WHAT COUNTS. Prove the row's statement (the work); the ties are given (YtebcmefbpfcgmaaGreatDoorTie.lean); close each card by the builder's one call (the guide's Derived/Test/ToyasCard.lean, 'card_holds'). Laid BY PROGRAM, IN A SANDBOX (cutbox-door.mjs). By AI agents, Wed Nov 11 2026. No macro, syntax, notation, axiom, sorry.
-/
import Derived.Test.YtebcmefbpfcgmaaGreatDoorRows
import GoSem.ClaimSeven
namespace Go.Proofs.YtebcmefbpfcgmaaGreatDoor
namespace Rows

/-- THE TIED CARD OF 'schismalaw02.WholeSums'. -/
def wholeSumsCard : Claim7 := { stood := { row := wholeSumsRow, standIns := [], harness := (true, "c2bfa6fb7e47aeb8bfcb7028cd68181071652b87b659bc0c02620cab8742c31f"), looks := true }, kinds := [], alts := [], laidByText := true, laidKinds := [.data, .data, .data, .data, .sentinel, .sentinel, .pinned], laidTests := true, laidLooks := .later }
def WholeSumsCardSaid : Prop := Claim7.holds Tryz.pinned (.plain (OpenSpec.ofChange wholeSumsSpec)) wholeSumsCard

/-- THE TIED CARD OF 'schismalaw02.WholePowers'. -/
def wholePowersCard : Claim7 := { stood := { row := wholePowersRow, standIns := [], harness := (true, "c2bfa6fb7e47aeb8bfcb7028cd68181071652b87b659bc0c02620cab8742c31f"), looks := true }, kinds := [], alts := [], laidByText := true, laidKinds := [.data, .data, .data, .data, .sentinel, .sentinel, .pinned], laidTests := true, laidLooks := .later }
def WholePowersCardSaid : Prop := Claim7.holds Tryz.pinned (.plain (OpenSpec.ofChange wholePowersSpec)) wholePowersCard

/-- THE SECOND FORM's CARD OF 'schismalaw02.WholeSums'. -/
def wholeSumsUptoCard : Claim7 := { stood := { row := wholeSumsUptoRow, standIns := [], harness := (true, "c2bfa6fb7e47aeb8bfcb7028cd68181071652b87b659bc0c02620cab8742c31f"), looks := true }, kinds := [], alts := [], laidByText := true, laidKinds := [.data, .data, .data, .data, .sentinel, .sentinel, .pinned], laidTests := true, laidLooks := .later }
def WholeSumsUptoCardSaid : Prop := Claim7.holds Tryz.pinned (.plain (OpenSpec.upto wholeSumsSpec)) wholeSumsUptoCard

/-- THE SECOND FORM's CARD OF 'schismalaw02.WholePowers'. -/
def wholePowersUptoCard : Claim7 := { stood := { row := wholePowersUptoRow, standIns := [], harness := (true, "c2bfa6fb7e47aeb8bfcb7028cd68181071652b87b659bc0c02620cab8742c31f"), looks := true }, kinds := [], alts := [], laidByText := true, laidKinds := [.data, .data, .data, .data, .sentinel, .sentinel, .pinned], laidTests := true, laidLooks := .later }
def WholePowersUptoCardSaid : Prop := Claim7.holds Tryz.pinned (.plain (OpenSpec.upto wholePowersSpec)) wholePowersUptoCard
end Rows
end Go.Proofs.YtebcmefbpfcgmaaGreatDoor
