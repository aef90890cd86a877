/-
  DERIVED. GIVEN WITH THE SEED: THE CARDS: each row of YtnofikanepbfhaaGreatDoorRows.lean that lists a variable, with what it lists TIED to the program's text (the seventh form; the later family's looks); each row that meets fmt, with fmt's text TOLD by the authors' own Lean function (tested against real Go, not proved from fmt's source: count such statements apart). THE CARD IS WHAT COUNTS. Prove the row's statement (the work); the ties are given (YtnofikanepbfhaaGreatDoorTie.lean); close each card by the builder's one call (the guide's Derived/Test/ToyasCard.lean, 'card_holds'). Laid BY PROGRAM, IN A SANDBOX (cutbox-door.mjs). By AI agents, Wed Nov 11 2026. No macro, syntax, notation, axiom, sorry.
-/
import Derived.Test.YtnofikanepbfhaaGreatDoorRows
import GoSem.ClaimSeven
namespace Go.Proofs.YtnofikanepbfhaaGreatDoor
namespace Rows

/-- THE TIED CARD OF 'schismalaw03.FractionNews'. -/
def fractionNewsCard : Claim7 := { stood := { row := fractionNewsRow, standIns := [], harness := (true, "2acea4fa088baa69d508b9d5273da589ecff7497d9df1517c471288fc78fe517"), looks := true }, kinds := [], alts := [], laidByText := true, laidKinds := [.data, .data, .data, .data, .sentinel, .sentinel, .pinned], laidTests := true, laidLooks := .later }
def FractionNewsCardSaid : Prop := Claim7.holds Tryz.pinned (.plain (OpenSpec.ofChange fractionNewsSpec)) fractionNewsCard

/-- THE TIED CARD OF 'schismalaw03.FractionTexts'. -/
def fractionTextsCard : Claim7 := { stood := { row := fractionTextsRow, standIns := [], harness := (true, "2acea4fa088baa69d508b9d5273da589ecff7497d9df1517c471288fc78fe517"), looks := true }, kinds := [], alts := [], laidByText := true, laidKinds := [.data, .data, .data, .data, .sentinel, .sentinel, .pinned], laidTests := true, laidLooks := .later }
def FractionTextsCardSaid : Prop := Claim7.holds Tryz.pinned (.plain (OpenSpec.ofChange fractionTextsSpec)) fractionTextsCard

/-- THE TIED CARD OF 'schismalaw03.FractionParses'. -/
def fractionParsesCard : Claim7 := { stood := { row := fractionParsesRow, standIns := [], harness := (true, "2acea4fa088baa69d508b9d5273da589ecff7497d9df1517c471288fc78fe517"), looks := true }, kinds := [], alts := [], laidByText := true, laidKinds := [.data, .data, .data, .data, .sentinel, .sentinel, .pinned], laidTests := true, laidLooks := .later }
def FractionParsesCardSaid : Prop := Claim7.holds Tryz.pinned (.plain (OpenSpec.ofChange fractionParsesSpec)) fractionParsesCard

/-- THE TIED CARD OF 'schismalaw03.FractionAdds'. -/
def fractionAddsCard : Claim7 := { stood := { row := fractionAddsRow, standIns := [], harness := (true, "2acea4fa088baa69d508b9d5273da589ecff7497d9df1517c471288fc78fe517"), looks := true }, kinds := [], alts := [], laidByText := true, laidKinds := [.data, .data, .data, .data, .sentinel, .sentinel, .pinned], laidTests := true, laidLooks := .later }
def FractionAddsCardSaid : Prop := Claim7.holds Tryz.pinned (.plain (OpenSpec.ofChange fractionAddsSpec)) fractionAddsCard

/-- THE TIED CARD OF 'schismalaw03.FractionMultiplies'. -/
def fractionMultipliesCard : Claim7 := { stood := { row := fractionMultipliesRow, standIns := [], harness := (true, "2acea4fa088baa69d508b9d5273da589ecff7497d9df1517c471288fc78fe517"), looks := true }, kinds := [], alts := [], laidByText := true, laidKinds := [.data, .data, .data, .data, .sentinel, .sentinel, .pinned], laidTests := true, laidLooks := .later }
def FractionMultipliesCardSaid : Prop := Claim7.holds Tryz.pinned (.plain (OpenSpec.ofChange fractionMultipliesSpec)) fractionMultipliesCard

/-- THE TIED CARD OF 'schismalaw03.FractionRounds'. -/
def fractionRoundsCard : Claim7 := { stood := { row := fractionRoundsRow, standIns := [], harness := (true, "2acea4fa088baa69d508b9d5273da589ecff7497d9df1517c471288fc78fe517"), looks := true }, kinds := [], alts := [], laidByText := true, laidKinds := [.data, .data, .data, .data, .sentinel, .sentinel, .pinned], laidTests := true, laidLooks := .later }
def FractionRoundsCardSaid : Prop := Claim7.holds Tryz.pinned (.plain (OpenSpec.ofChange fractionRoundsSpec)) fractionRoundsCard

/-- THE TIED CARD OF 'schismalaw03.FractionField'. -/
def fractionFieldCard : Claim7 := { stood := { row := fractionFieldRow, standIns := [], harness := (true, "2acea4fa088baa69d508b9d5273da589ecff7497d9df1517c471288fc78fe517"), looks := true }, kinds := [], alts := [], laidByText := true, laidKinds := [.data, .data, .data, .data, .sentinel, .sentinel, .pinned], laidTests := true, laidLooks := .later }
def FractionFieldCardSaid : Prop := Claim7.holds Tryz.pinned (.plain (OpenSpec.ofChange fractionFieldSpec)) fractionFieldCard

/-- THE TIED CARD OF 'schismalaw03.FractionNears'. -/
def fractionNearsCard : Claim7 := { stood := { row := fractionNearsRow, standIns := [], harness := (true, "2acea4fa088baa69d508b9d5273da589ecff7497d9df1517c471288fc78fe517"), looks := true }, kinds := [], alts := [], laidByText := true, laidKinds := [.data, .data, .data, .data, .sentinel, .sentinel, .pinned], laidTests := true, laidLooks := .later }
def FractionNearsCardSaid : Prop := Claim7.holds Tryz.pinned (.plain (OpenSpec.ofChange fractionNearsSpec)) fractionNearsCard

/-- THE TIED CARD OF 'schismalaw03.FractionCompares'. -/
def fractionComparesCard : Claim7 := { stood := { row := fractionComparesRow, standIns := [], harness := (true, "2acea4fa088baa69d508b9d5273da589ecff7497d9df1517c471288fc78fe517"), looks := true }, kinds := [], alts := [], laidByText := true, laidKinds := [.data, .data, .data, .data, .sentinel, .sentinel, .pinned], laidTests := true, laidLooks := .later }
def FractionComparesCardSaid : Prop := Claim7.holds Tryz.pinned (.plain (OpenSpec.ofChange fractionComparesSpec)) fractionComparesCard

/-- THE TIED CARD OF 'schismalaw03.FractionChecks'. -/
def fractionChecksCard : Claim7 := { stood := { row := fractionChecksRow, standIns := [], harness := (true, "2acea4fa088baa69d508b9d5273da589ecff7497d9df1517c471288fc78fe517"), looks := true }, kinds := [], alts := [], laidByText := true, laidKinds := [.data, .data, .data, .data, .sentinel, .sentinel, .pinned], laidTests := true, laidLooks := .later }
def FractionChecksCardSaid : Prop := Claim7.holds Tryz.pinned (.plain (OpenSpec.ofChange fractionChecksSpec)) fractionChecksCard

/-- THE SECOND FORM's CARD OF 'schismalaw03.FractionNews'. -/
def fractionNewsUptoCard : Claim7 := { stood := { row := fractionNewsUptoRow, standIns := [], harness := (true, "2acea4fa088baa69d508b9d5273da589ecff7497d9df1517c471288fc78fe517"), looks := true }, kinds := [], alts := [], laidByText := true, laidKinds := [.data, .data, .data, .data, .sentinel, .sentinel, .pinned], laidTests := true, laidLooks := .later }
def FractionNewsUptoCardSaid : Prop := Claim7.holds Tryz.pinned (.plain (OpenSpec.upto fractionNewsSpec)) fractionNewsUptoCard

/-- THE SECOND FORM's CARD OF 'schismalaw03.FractionTexts'. -/
def fractionTextsUptoCard : Claim7 := { stood := { row := fractionTextsUptoRow, standIns := [], harness := (true, "2acea4fa088baa69d508b9d5273da589ecff7497d9df1517c471288fc78fe517"), looks := true }, kinds := [], alts := [], laidByText := true, laidKinds := [.data, .data, .data, .data, .sentinel, .sentinel, .pinned], laidTests := true, laidLooks := .later }
def FractionTextsUptoCardSaid : Prop := Claim7.holds Tryz.pinned (.plain (OpenSpec.upto fractionTextsSpec)) fractionTextsUptoCard

/-- THE SECOND FORM's CARD OF 'schismalaw03.FractionParses'. -/
def fractionParsesUptoCard : Claim7 := { stood := { row := fractionParsesUptoRow, standIns := [], harness := (true, "2acea4fa088baa69d508b9d5273da589ecff7497d9df1517c471288fc78fe517"), looks := true }, kinds := [], alts := [], laidByText := true, laidKinds := [.data, .data, .data, .data, .sentinel, .sentinel, .pinned], laidTests := true, laidLooks := .later }
def FractionParsesUptoCardSaid : Prop := Claim7.holds Tryz.pinned (.plain (OpenSpec.upto fractionParsesSpec)) fractionParsesUptoCard

/-- THE SECOND FORM's CARD OF 'schismalaw03.FractionAdds'. -/
def fractionAddsUptoCard : Claim7 := { stood := { row := fractionAddsUptoRow, standIns := [], harness := (true, "2acea4fa088baa69d508b9d5273da589ecff7497d9df1517c471288fc78fe517"), looks := true }, kinds := [], alts := [], laidByText := true, laidKinds := [.data, .data, .data, .data, .sentinel, .sentinel, .pinned], laidTests := true, laidLooks := .later }
def FractionAddsUptoCardSaid : Prop := Claim7.holds Tryz.pinned (.plain (OpenSpec.upto fractionAddsSpec)) fractionAddsUptoCard

/-- THE SECOND FORM's CARD OF 'schismalaw03.FractionMultiplies'. -/
def fractionMultipliesUptoCard : Claim7 := { stood := { row := fractionMultipliesUptoRow, standIns := [], harness := (true, "2acea4fa088baa69d508b9d5273da589ecff7497d9df1517c471288fc78fe517"), looks := true }, kinds := [], alts := [], laidByText := true, laidKinds := [.data, .data, .data, .data, .sentinel, .sentinel, .pinned], laidTests := true, laidLooks := .later }
def FractionMultipliesUptoCardSaid : Prop := Claim7.holds Tryz.pinned (.plain (OpenSpec.upto fractionMultipliesSpec)) fractionMultipliesUptoCard

/-- THE SECOND FORM's CARD OF 'schismalaw03.FractionRounds'. -/
def fractionRoundsUptoCard : Claim7 := { stood := { row := fractionRoundsUptoRow, standIns := [], harness := (true, "2acea4fa088baa69d508b9d5273da589ecff7497d9df1517c471288fc78fe517"), looks := true }, kinds := [], alts := [], laidByText := true, laidKinds := [.data, .data, .data, .data, .sentinel, .sentinel, .pinned], laidTests := true, laidLooks := .later }
def FractionRoundsUptoCardSaid : Prop := Claim7.holds Tryz.pinned (.plain (OpenSpec.upto fractionRoundsSpec)) fractionRoundsUptoCard

/-- THE SECOND FORM's CARD OF 'schismalaw03.FractionField'. -/
def fractionFieldUptoCard : Claim7 := { stood := { row := fractionFieldUptoRow, standIns := [], harness := (true, "2acea4fa088baa69d508b9d5273da589ecff7497d9df1517c471288fc78fe517"), looks := true }, kinds := [], alts := [], laidByText := true, laidKinds := [.data, .data, .data, .data, .sentinel, .sentinel, .pinned], laidTests := true, laidLooks := .later }
def FractionFieldUptoCardSaid : Prop := Claim7.holds Tryz.pinned (.plain (OpenSpec.upto fractionFieldSpec)) fractionFieldUptoCard

/-- THE SECOND FORM's CARD OF 'schismalaw03.FractionNears'. -/
def fractionNearsUptoCard : Claim7 := { stood := { row := fractionNearsUptoRow, standIns := [], harness := (true, "2acea4fa088baa69d508b9d5273da589ecff7497d9df1517c471288fc78fe517"), looks := true }, kinds := [], alts := [], laidByText := true, laidKinds := [.data, .data, .data, .data, .sentinel, .sentinel, .pinned], laidTests := true, laidLooks := .later }
def FractionNearsUptoCardSaid : Prop := Claim7.holds Tryz.pinned (.plain (OpenSpec.upto fractionNearsSpec)) fractionNearsUptoCard

/-- THE SECOND FORM's CARD OF 'schismalaw03.FractionCompares'. -/
def fractionComparesUptoCard : Claim7 := { stood := { row := fractionComparesUptoRow, standIns := [], harness := (true, "2acea4fa088baa69d508b9d5273da589ecff7497d9df1517c471288fc78fe517"), looks := true }, kinds := [], alts := [], laidByText := true, laidKinds := [.data, .data, .data, .data, .sentinel, .sentinel, .pinned], laidTests := true, laidLooks := .later }
def FractionComparesUptoCardSaid : Prop := Claim7.holds Tryz.pinned (.plain (OpenSpec.upto fractionComparesSpec)) fractionComparesUptoCard

/-- THE SECOND FORM's CARD OF 'schismalaw03.FractionChecks'. -/
def fractionChecksUptoCard : Claim7 := { stood := { row := fractionChecksUptoRow, standIns := [], harness := (true, "2acea4fa088baa69d508b9d5273da589ecff7497d9df1517c471288fc78fe517"), looks := true }, kinds := [], alts := [], laidByText := true, laidKinds := [.data, .data, .data, .data, .sentinel, .sentinel, .pinned], laidTests := true, laidLooks := .later }
def FractionChecksUptoCardSaid : Prop := Claim7.holds Tryz.pinned (.plain (OpenSpec.upto fractionChecksSpec)) fractionChecksUptoCard
end Rows
end Go.Proofs.YtnofikanepbfhaaGreatDoor
