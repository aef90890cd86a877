/-
  DERIVED. GIVEN WITH THE SEED: THE CARDS: each row of YtejelchcpbchgaaGreatDoorRows.lean that lists a variable, with what it lists TIED to the program's text (the seventh form; the later family's looks); each row that meets fmt, with fmt's text TOLD by the authors' own Lean function (tested against real Go, not proved from fmt's source: count such statements apart). THE CARD IS WHAT COUNTS. Prove the row's statement (the work); the ties are given (YtejelchcpbchgaaGreatDoorTie.lean); close each card by the builder's one call (the guide's Derived/Test/ToyasCard.lean, 'card_holds'). Laid BY PROGRAM, IN A SANDBOX (cutbox-door.mjs). By AI agents, Wed Nov 11 2026. No macro, syntax, notation, axiom, sorry.
-/
import Derived.Test.YtejelchcpbchgaaGreatDoorRows
import GoSem.ClaimSeven
namespace Go.Proofs.YtejelchcpbchgaaGreatDoor
namespace Rows

/-- THE TIED CARD OF 'schismalaw03.FractionParses'. -/
def fractionParsesCard : Claim7 := { stood := { row := fractionParsesRow, standIns := [], harness := (true, "cca8caa361265ae8565a37d69f44d765de2031a9f3565f653486060ecc6bf5b2"), looks := true }, kinds := [], alts := [], laidByText := true, laidKinds := [.data, .data, .data, .data, .sentinel, .sentinel, .pinned], laidTests := true, laidLooks := .later }
def FractionParsesCardSaid : Prop := Claim7.holds Tryz.pinned (.plain (OpenSpec.ofChange fractionParsesSpec)) fractionParsesCard

/-- THE TIED CARD OF 'schismalaw03.FractionRounds'. -/
def fractionRoundsCard : Claim7 := { stood := { row := fractionRoundsRow, standIns := [], harness := (true, "cca8caa361265ae8565a37d69f44d765de2031a9f3565f653486060ecc6bf5b2"), looks := true }, kinds := [], alts := [], laidByText := true, laidKinds := [.data, .data, .data, .data, .sentinel, .sentinel, .pinned], laidTests := true, laidLooks := .later }
def FractionRoundsCardSaid : Prop := Claim7.holds Tryz.pinned (.plain (OpenSpec.ofChange fractionRoundsSpec)) fractionRoundsCard

/-- THE TIED CARD OF 'schismalaw03.FractionField'. -/
def fractionFieldCard : Claim7 := { stood := { row := fractionFieldRow, standIns := [], harness := (true, "cca8caa361265ae8565a37d69f44d765de2031a9f3565f653486060ecc6bf5b2"), looks := true }, kinds := [], alts := [], laidByText := true, laidKinds := [.data, .data, .data, .data, .sentinel, .sentinel, .pinned], laidTests := true, laidLooks := .later }
def FractionFieldCardSaid : Prop := Claim7.holds Tryz.pinned (.plain (OpenSpec.ofChange fractionFieldSpec)) fractionFieldCard

/-- THE TIED CARD OF 'schismalaw03.FractionNears'. -/
def fractionNearsCard : Claim7 := { stood := { row := fractionNearsRow, standIns := [], harness := (true, "cca8caa361265ae8565a37d69f44d765de2031a9f3565f653486060ecc6bf5b2"), looks := true }, kinds := [], alts := [], laidByText := true, laidKinds := [.data, .data, .data, .data, .sentinel, .sentinel, .pinned], laidTests := true, laidLooks := .later }
def FractionNearsCardSaid : Prop := Claim7.holds Tryz.pinned (.plain (OpenSpec.ofChange fractionNearsSpec)) fractionNearsCard

/-- THE TIED CARD OF 'schismalaw03.FractionChecks'. -/
def fractionChecksCard : Claim7 := { stood := { row := fractionChecksRow, standIns := [], harness := (true, "cca8caa361265ae8565a37d69f44d765de2031a9f3565f653486060ecc6bf5b2"), looks := true }, kinds := [], alts := [], laidByText := true, laidKinds := [.data, .data, .data, .data, .sentinel, .sentinel, .pinned], laidTests := true, laidLooks := .later }
def FractionChecksCardSaid : Prop := Claim7.holds Tryz.pinned (.plain (OpenSpec.ofChange fractionChecksSpec)) fractionChecksCard

/-- THE SECOND FORM's CARD OF 'schismalaw03.FractionParses'. -/
def fractionParsesUptoCard : Claim7 := { stood := { row := fractionParsesUptoRow, standIns := [], harness := (true, "cca8caa361265ae8565a37d69f44d765de2031a9f3565f653486060ecc6bf5b2"), looks := true }, kinds := [], alts := [], laidByText := true, laidKinds := [.data, .data, .data, .data, .sentinel, .sentinel, .pinned], laidTests := true, laidLooks := .later }
def FractionParsesUptoCardSaid : Prop := Claim7.holds Tryz.pinned (.plain (OpenSpec.upto fractionParsesSpec)) fractionParsesUptoCard

/-- THE SECOND FORM's CARD OF 'schismalaw03.FractionRounds'. -/
def fractionRoundsUptoCard : Claim7 := { stood := { row := fractionRoundsUptoRow, standIns := [], harness := (true, "cca8caa361265ae8565a37d69f44d765de2031a9f3565f653486060ecc6bf5b2"), looks := true }, kinds := [], alts := [], laidByText := true, laidKinds := [.data, .data, .data, .data, .sentinel, .sentinel, .pinned], laidTests := true, laidLooks := .later }
def FractionRoundsUptoCardSaid : Prop := Claim7.holds Tryz.pinned (.plain (OpenSpec.upto fractionRoundsSpec)) fractionRoundsUptoCard

/-- THE SECOND FORM's CARD OF 'schismalaw03.FractionField'. -/
def fractionFieldUptoCard : Claim7 := { stood := { row := fractionFieldUptoRow, standIns := [], harness := (true, "cca8caa361265ae8565a37d69f44d765de2031a9f3565f653486060ecc6bf5b2"), looks := true }, kinds := [], alts := [], laidByText := true, laidKinds := [.data, .data, .data, .data, .sentinel, .sentinel, .pinned], laidTests := true, laidLooks := .later }
def FractionFieldUptoCardSaid : Prop := Claim7.holds Tryz.pinned (.plain (OpenSpec.upto fractionFieldSpec)) fractionFieldUptoCard

/-- THE SECOND FORM's CARD OF 'schismalaw03.FractionNears'. -/
def fractionNearsUptoCard : Claim7 := { stood := { row := fractionNearsUptoRow, standIns := [], harness := (true, "cca8caa361265ae8565a37d69f44d765de2031a9f3565f653486060ecc6bf5b2"), looks := true }, kinds := [], alts := [], laidByText := true, laidKinds := [.data, .data, .data, .data, .sentinel, .sentinel, .pinned], laidTests := true, laidLooks := .later }
def FractionNearsUptoCardSaid : Prop := Claim7.holds Tryz.pinned (.plain (OpenSpec.upto fractionNearsSpec)) fractionNearsUptoCard

/-- THE SECOND FORM's CARD OF 'schismalaw03.FractionChecks'. -/
def fractionChecksUptoCard : Claim7 := { stood := { row := fractionChecksUptoRow, standIns := [], harness := (true, "cca8caa361265ae8565a37d69f44d765de2031a9f3565f653486060ecc6bf5b2"), looks := true }, kinds := [], alts := [], laidByText := true, laidKinds := [.data, .data, .data, .data, .sentinel, .sentinel, .pinned], laidTests := true, laidLooks := .later }
def FractionChecksUptoCardSaid : Prop := Claim7.holds Tryz.pinned (.plain (OpenSpec.upto fractionChecksSpec)) fractionChecksUptoCard
end Rows
end Go.Proofs.YtejelchcpbchgaaGreatDoor
