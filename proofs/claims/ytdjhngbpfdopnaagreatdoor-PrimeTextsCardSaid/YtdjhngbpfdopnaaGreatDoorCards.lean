/-
  DERIVED. GIVEN WITH THE SEED: THE CARDS: each row of YtdjhngbpfdopnaaGreatDoorRows.lean that lists a variable, with what it lists TIED to the program's text (the seventh form; the later family's looks); each row that meets fmt, with fmt's text TOLD by the authors' own Lean function (tested against real Go, not proved from fmt's source: count such statements apart). THE CARD IS WHAT COUNTS. Prove the row's statement (the work); the ties are given (YtdjhngbpfdopnaaGreatDoorTie.lean); close each card by the builder's one call (the guide's Derived/Test/ToyasCard.lean, 'card_holds'). Laid BY PROGRAM, IN A SANDBOX (cutbox-door.mjs). By AI agents, Wed Nov 11 2026. No macro, syntax, notation, axiom, sorry.
-/
import Derived.Test.YtdjhngbpfdopnaaGreatDoorRows
import GoSem.ClaimSeven
namespace Go.Proofs.YtdjhngbpfdopnaaGreatDoor
namespace Rows

/-- THE TIED CARD OF 'schismalaw03.FractionParses'. -/
def fractionParsesCard : Claim7 := { stood := { row := fractionParsesRow, standIns := [], harness := (true, "28fad55286a312c89e456bad85015a8beb89e027e8b3f9b48e43d397b2a272a2"), looks := true }, kinds := [], alts := [], laidByText := true, laidKinds := [.data, .data, .data, .data, .sentinel, .sentinel, .pinned], laidTests := true, laidLooks := .later }
def FractionParsesCardSaid : Prop := Claim7.holds Tryz.pinned (.plain (OpenSpec.ofChange fractionParsesSpec)) fractionParsesCard

/-- THE TIED CARD OF 'schismalaw11.PrimeJoins'. -/
def primeJoinsCard : Claim7 := { stood := { row := primeJoinsRow, standIns := [], harness := (true, "28fad55286a312c89e456bad85015a8beb89e027e8b3f9b48e43d397b2a272a2"), looks := true }, kinds := [], alts := [], laidByText := true, laidKinds := [.data, .data, .data, .data, .sentinel, .sentinel, .pinned], laidTests := true, laidLooks := .later }
def PrimeJoinsCardSaid : Prop := Claim7.holds Tryz.pinned (.plain (OpenSpec.ofChange primeJoinsSpec)) primeJoinsCard

/-- THE TIED CARD OF 'schismalaw11.PrimeRefuses'. -/
def primeRefusesCard : Claim7 := { stood := { row := primeRefusesRow, standIns := [], harness := (true, "28fad55286a312c89e456bad85015a8beb89e027e8b3f9b48e43d397b2a272a2"), looks := true }, kinds := [], alts := [], laidByText := true, laidKinds := [.data, .data, .data, .data, .sentinel, .sentinel, .pinned], laidTests := true, laidLooks := .later }
def PrimeRefusesCardSaid : Prop := Claim7.holds Tryz.pinned (.plain (OpenSpec.ofChange primeRefusesSpec)) primeRefusesCard

/-- THE TIED CARD OF 'schismalaw11.PrimeLists'. -/
def primeListsCard : Claim7 := { stood := { row := primeListsRow, standIns := [], harness := (true, "28fad55286a312c89e456bad85015a8beb89e027e8b3f9b48e43d397b2a272a2"), looks := true }, kinds := [], alts := [], laidByText := true, laidKinds := [.data, .data, .data, .data, .sentinel, .sentinel, .pinned], laidTests := true, laidLooks := .later }
def PrimeListsCardSaid : Prop := Claim7.holds Tryz.pinned (.plain (OpenSpec.ofChange primeListsSpec)) primeListsCard

/-- THE TIED CARD OF 'schismalaw11.PrimeEmbeds'. -/
def primeEmbedsCard : Claim7 := { stood := { row := primeEmbedsRow, standIns := [], harness := (true, "28fad55286a312c89e456bad85015a8beb89e027e8b3f9b48e43d397b2a272a2"), looks := true }, kinds := [], alts := [], laidByText := true, laidKinds := [.data, .data, .data, .data, .sentinel, .sentinel, .pinned], laidTests := true, laidLooks := .later }
def PrimeEmbedsCardSaid : Prop := Claim7.holds Tryz.pinned (.plain (OpenSpec.ofChange primeEmbedsSpec)) primeEmbedsCard

/-- THE TIED CARD OF 'schismalaw11.PrimeTexts'. -/
def primeTextsCard : Claim7 := { stood := { row := primeTextsRow, standIns := [], harness := (true, "28fad55286a312c89e456bad85015a8beb89e027e8b3f9b48e43d397b2a272a2"), looks := true }, kinds := [], alts := [], laidByText := true, laidKinds := [.data, .data, .data, .data, .sentinel, .sentinel, .pinned], laidTests := true, laidLooks := .later }
def PrimeTextsCardSaid : Prop := Claim7.holds Tryz.pinned (.plain (OpenSpec.ofChange primeTextsSpec)) primeTextsCard

/-- THE TIED CARD OF 'schismalaw11.PrimeExponents'. -/
def primeExponentsCard : Claim7 := { stood := { row := primeExponentsRow, standIns := [], harness := (true, "28fad55286a312c89e456bad85015a8beb89e027e8b3f9b48e43d397b2a272a2"), looks := true }, kinds := [], alts := [], laidByText := true, laidKinds := [.data, .data, .data, .data, .sentinel, .sentinel, .pinned], laidTests := true, laidLooks := .later }
def PrimeExponentsCardSaid : Prop := Claim7.holds Tryz.pinned (.plain (OpenSpec.ofChange primeExponentsSpec)) primeExponentsCard

/-- THE TIED CARD OF 'schismalaw11.PrimeValues'. -/
def primeValuesCard : Claim7 := { stood := { row := primeValuesRow, standIns := [], harness := (true, "28fad55286a312c89e456bad85015a8beb89e027e8b3f9b48e43d397b2a272a2"), looks := true }, kinds := [], alts := [], laidByText := true, laidKinds := [.data, .data, .data, .data, .sentinel, .sentinel, .pinned], laidTests := true, laidLooks := .later }
def PrimeValuesCardSaid : Prop := Claim7.holds Tryz.pinned (.plain (OpenSpec.ofChange primeValuesSpec)) primeValuesCard

/-- THE TIED CARD OF 'schismalaw11.PrimeFactors'. -/
def primeFactorsCard : Claim7 := { stood := { row := primeFactorsRow, standIns := [], harness := (true, "28fad55286a312c89e456bad85015a8beb89e027e8b3f9b48e43d397b2a272a2"), looks := true }, kinds := [], alts := [], laidByText := true, laidKinds := [.data, .data, .data, .data, .sentinel, .sentinel, .pinned], laidTests := true, laidLooks := .later }
def PrimeFactorsCardSaid : Prop := Claim7.holds Tryz.pinned (.plain (OpenSpec.ofChange primeFactorsSpec)) primeFactorsCard

/-- THE SECOND FORM's CARD OF 'schismalaw03.FractionParses'. -/
def fractionParsesUptoCard : Claim7 := { stood := { row := fractionParsesUptoRow, standIns := [], harness := (true, "28fad55286a312c89e456bad85015a8beb89e027e8b3f9b48e43d397b2a272a2"), looks := true }, kinds := [], alts := [], laidByText := true, laidKinds := [.data, .data, .data, .data, .sentinel, .sentinel, .pinned], laidTests := true, laidLooks := .later }
def FractionParsesUptoCardSaid : Prop := Claim7.holds Tryz.pinned (.plain (OpenSpec.upto fractionParsesSpec)) fractionParsesUptoCard

/-- THE SECOND FORM's CARD OF 'schismalaw11.PrimeJoins'. -/
def primeJoinsUptoCard : Claim7 := { stood := { row := primeJoinsUptoRow, standIns := [], harness := (true, "28fad55286a312c89e456bad85015a8beb89e027e8b3f9b48e43d397b2a272a2"), looks := true }, kinds := [], alts := [], laidByText := true, laidKinds := [.data, .data, .data, .data, .sentinel, .sentinel, .pinned], laidTests := true, laidLooks := .later }
def PrimeJoinsUptoCardSaid : Prop := Claim7.holds Tryz.pinned (.plain (OpenSpec.upto primeJoinsSpec)) primeJoinsUptoCard

/-- THE SECOND FORM's CARD OF 'schismalaw11.PrimeRefuses'. -/
def primeRefusesUptoCard : Claim7 := { stood := { row := primeRefusesUptoRow, standIns := [], harness := (true, "28fad55286a312c89e456bad85015a8beb89e027e8b3f9b48e43d397b2a272a2"), looks := true }, kinds := [], alts := [], laidByText := true, laidKinds := [.data, .data, .data, .data, .sentinel, .sentinel, .pinned], laidTests := true, laidLooks := .later }
def PrimeRefusesUptoCardSaid : Prop := Claim7.holds Tryz.pinned (.plain (OpenSpec.upto primeRefusesSpec)) primeRefusesUptoCard

/-- THE SECOND FORM's CARD OF 'schismalaw11.PrimeLists'. -/
def primeListsUptoCard : Claim7 := { stood := { row := primeListsUptoRow, standIns := [], harness := (true, "28fad55286a312c89e456bad85015a8beb89e027e8b3f9b48e43d397b2a272a2"), looks := true }, kinds := [], alts := [], laidByText := true, laidKinds := [.data, .data, .data, .data, .sentinel, .sentinel, .pinned], laidTests := true, laidLooks := .later }
def PrimeListsUptoCardSaid : Prop := Claim7.holds Tryz.pinned (.plain (OpenSpec.upto primeListsSpec)) primeListsUptoCard

/-- THE SECOND FORM's CARD OF 'schismalaw11.PrimeEmbeds'. -/
def primeEmbedsUptoCard : Claim7 := { stood := { row := primeEmbedsUptoRow, standIns := [], harness := (true, "28fad55286a312c89e456bad85015a8beb89e027e8b3f9b48e43d397b2a272a2"), looks := true }, kinds := [], alts := [], laidByText := true, laidKinds := [.data, .data, .data, .data, .sentinel, .sentinel, .pinned], laidTests := true, laidLooks := .later }
def PrimeEmbedsUptoCardSaid : Prop := Claim7.holds Tryz.pinned (.plain (OpenSpec.upto primeEmbedsSpec)) primeEmbedsUptoCard

/-- THE SECOND FORM's CARD OF 'schismalaw11.PrimeTexts'. -/
def primeTextsUptoCard : Claim7 := { stood := { row := primeTextsUptoRow, standIns := [], harness := (true, "28fad55286a312c89e456bad85015a8beb89e027e8b3f9b48e43d397b2a272a2"), looks := true }, kinds := [], alts := [], laidByText := true, laidKinds := [.data, .data, .data, .data, .sentinel, .sentinel, .pinned], laidTests := true, laidLooks := .later }
def PrimeTextsUptoCardSaid : Prop := Claim7.holds Tryz.pinned (.plain (OpenSpec.upto primeTextsSpec)) primeTextsUptoCard

/-- THE SECOND FORM's CARD OF 'schismalaw11.PrimeExponents'. -/
def primeExponentsUptoCard : Claim7 := { stood := { row := primeExponentsUptoRow, standIns := [], harness := (true, "28fad55286a312c89e456bad85015a8beb89e027e8b3f9b48e43d397b2a272a2"), looks := true }, kinds := [], alts := [], laidByText := true, laidKinds := [.data, .data, .data, .data, .sentinel, .sentinel, .pinned], laidTests := true, laidLooks := .later }
def PrimeExponentsUptoCardSaid : Prop := Claim7.holds Tryz.pinned (.plain (OpenSpec.upto primeExponentsSpec)) primeExponentsUptoCard

/-- THE SECOND FORM's CARD OF 'schismalaw11.PrimeValues'. -/
def primeValuesUptoCard : Claim7 := { stood := { row := primeValuesUptoRow, standIns := [], harness := (true, "28fad55286a312c89e456bad85015a8beb89e027e8b3f9b48e43d397b2a272a2"), looks := true }, kinds := [], alts := [], laidByText := true, laidKinds := [.data, .data, .data, .data, .sentinel, .sentinel, .pinned], laidTests := true, laidLooks := .later }
def PrimeValuesUptoCardSaid : Prop := Claim7.holds Tryz.pinned (.plain (OpenSpec.upto primeValuesSpec)) primeValuesUptoCard

/-- THE SECOND FORM's CARD OF 'schismalaw11.PrimeFactors'. -/
def primeFactorsUptoCard : Claim7 := { stood := { row := primeFactorsUptoRow, standIns := [], harness := (true, "28fad55286a312c89e456bad85015a8beb89e027e8b3f9b48e43d397b2a272a2"), looks := true }, kinds := [], alts := [], laidByText := true, laidKinds := [.data, .data, .data, .data, .sentinel, .sentinel, .pinned], laidTests := true, laidLooks := .later }
def PrimeFactorsUptoCardSaid : Prop := Claim7.holds Tryz.pinned (.plain (OpenSpec.upto primeFactorsSpec)) primeFactorsUptoCard
end Rows
end Go.Proofs.YtdjhngbpfdopnaaGreatDoor
