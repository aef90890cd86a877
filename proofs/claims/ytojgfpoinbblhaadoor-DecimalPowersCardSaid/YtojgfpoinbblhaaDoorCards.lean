/-
  DERIVED. GIVEN WITH THE SEED: THE CARDS: each row of YtojgfpoinbblhaaDoorRows.lean that lists a variable, with what it lists TIED to the program's text (the seventh form; the later family's looks); each row that meets fmt, with fmt's text TOLD by the authors' own Lean function (tested against real Go, not proved from fmt's source: count such statements apart). THE CARD IS WHAT COUNTS. Prove the row's statement (the work); the ties are given (YtojgfpoinbblhaaDoorTie.lean); close each card by the builder's one call (the guide's Derived/Test/ToyasCard.lean, 'card_holds'). Laid BY PROGRAM, IN A SANDBOX (cutbox-door.mjs). By AI agents, Wed Nov 11 2026. No macro, syntax, notation, axiom, sorry.
-/
import Derived.Test.YtojgfpoinbblhaaDoorRows
import GoSem.ClaimSeven
namespace Go.Proofs.YtojgfpoinbblhaaDoor
namespace Rows

/-- THE TIED CARD OF 'schismalaw01.DecimalSmall'. -/
def decimalSmallCard : Claim7 := { stood := { row := decimalSmallRow, standIns := [], harness := (true, "714ab034305e00da232335ba83829c14decaeca0182984eeceb27ef39a519a64"), looks := true }, kinds := [], alts := [], laidByText := true, laidKinds := [.data, .data, .data, .sentinel, .sentinel], laidTests := true, laidLooks := .later }
def DecimalSmallCardSaid : Prop := Claim7.holds Tryd.pinned (.plain (OpenSpec.ofChange decimalSmallSpec)) decimalSmallCard

/-- THE TIED CARD OF 'schismalaw01.DecimalDivides'. -/
def decimalDividesCard : Claim7 := { stood := { row := decimalDividesRow, standIns := [], harness := (true, "714ab034305e00da232335ba83829c14decaeca0182984eeceb27ef39a519a64"), looks := true }, kinds := [], alts := [], laidByText := true, laidKinds := [.data, .data, .data, .sentinel, .sentinel], laidTests := true, laidLooks := .later }
def DecimalDividesCardSaid : Prop := Claim7.holds Tryd.pinned (.plain (OpenSpec.ofChange decimalDividesSpec)) decimalDividesCard

/-- THE TIED CARD OF 'schismalaw01.DecimalPowers'. -/
def decimalPowersCard : Claim7 := { stood := { row := decimalPowersRow, standIns := [], harness := (true, "714ab034305e00da232335ba83829c14decaeca0182984eeceb27ef39a519a64"), looks := true }, kinds := [], alts := [], laidByText := true, laidKinds := [.data, .data, .data, .sentinel, .sentinel], laidTests := true, laidLooks := .later }
def DecimalPowersCardSaid : Prop := Claim7.holds Tryd.pinned (.plain (OpenSpec.ofChange decimalPowersSpec)) decimalPowersCard

/-- THE TIED CARD OF 'schismalaw01.DecimalForms'. -/
def decimalFormsCard : Claim7 := { stood := { row := decimalFormsRow, standIns := [], harness := (true, "714ab034305e00da232335ba83829c14decaeca0182984eeceb27ef39a519a64"), looks := true }, kinds := [], alts := [], laidByText := true, laidKinds := [.data, .data, .data, .sentinel, .sentinel], laidTests := true, laidLooks := .later }
def DecimalFormsCardSaid : Prop := Claim7.holds Tryd.pinned (.plain (OpenSpec.ofChange decimalFormsSpec)) decimalFormsCard

/-- THE TIED CARD OF 'schismalaw01.DecimalLimits'. -/
def decimalLimitsCard : Claim7 := { stood := { row := decimalLimitsRow, standIns := [], harness := (true, "714ab034305e00da232335ba83829c14decaeca0182984eeceb27ef39a519a64"), looks := true }, kinds := [], alts := [], laidByText := true, laidKinds := [.data, .data, .data, .sentinel, .sentinel], laidTests := true, laidLooks := .later }
def DecimalLimitsCardSaid : Prop := Claim7.holds Tryd.pinned (.plain (OpenSpec.ofChange decimalLimitsSpec)) decimalLimitsCard

/-- THE TIED CARD OF 'schismalaw01.DecimalCompares'. -/
def decimalComparesCard : Claim7 := { stood := { row := decimalComparesRow, standIns := [], harness := (true, "714ab034305e00da232335ba83829c14decaeca0182984eeceb27ef39a519a64"), looks := true }, kinds := [], alts := [], laidByText := true, laidKinds := [.data, .data, .data, .sentinel, .sentinel], laidTests := true, laidLooks := .later }
def DecimalComparesCardSaid : Prop := Claim7.holds Tryd.pinned (.plain (OpenSpec.ofChange decimalComparesSpec)) decimalComparesCard

/-- THE TIED CARD OF 'schismalaw01.DecimalCommon'. -/
def decimalCommonCard : Claim7 := { stood := { row := decimalCommonRow, standIns := [], harness := (true, "714ab034305e00da232335ba83829c14decaeca0182984eeceb27ef39a519a64"), looks := true }, kinds := [], alts := [], laidByText := true, laidKinds := [.data, .data, .data, .sentinel, .sentinel], laidTests := true, laidLooks := .later }
def DecimalCommonCardSaid : Prop := Claim7.holds Tryd.pinned (.plain (OpenSpec.ofChange decimalCommonSpec)) decimalCommonCard

/-- THE TIED CARD OF 'schismalaw01.DecimalExponents'. -/
def decimalExponentsCard : Claim7 := { stood := { row := decimalExponentsRow, standIns := [], harness := (true, "714ab034305e00da232335ba83829c14decaeca0182984eeceb27ef39a519a64"), looks := true }, kinds := [], alts := [], laidByText := true, laidKinds := [.data, .data, .data, .sentinel, .sentinel], laidTests := true, laidLooks := .later }
def DecimalExponentsCardSaid : Prop := Claim7.holds Tryd.pinned (.plain (OpenSpec.ofChange decimalExponentsSpec)) decimalExponentsCard

/-- THE TIED CARD OF 'schismalaw01.DecimalAdds'. -/
def decimalAddsCard : Claim7 := { stood := { row := decimalAddsRow, standIns := [], harness := (true, "714ab034305e00da232335ba83829c14decaeca0182984eeceb27ef39a519a64"), looks := true }, kinds := [], alts := [], laidByText := true, laidKinds := [.data, .data, .data, .sentinel, .sentinel], laidTests := true, laidLooks := .later }
def DecimalAddsCardSaid : Prop := Claim7.holds Tryd.pinned (.plain (OpenSpec.ofChange decimalAddsSpec)) decimalAddsCard

/-- THE TIED CARD OF 'schismalaw01.DecimalLaws'. -/
def decimalLawsCard : Claim7 := { stood := { row := decimalLawsRow, standIns := [], harness := (true, "714ab034305e00da232335ba83829c14decaeca0182984eeceb27ef39a519a64"), looks := true }, kinds := [], alts := [], laidByText := true, laidKinds := [.data, .data, .data, .sentinel, .sentinel], laidTests := true, laidLooks := .later }
def DecimalLawsCardSaid : Prop := Claim7.holds Tryd.pinned (.plain (OpenSpec.ofChange decimalLawsSpec)) decimalLawsCard

/-- THE SECOND FORM's CARD OF 'schismalaw01.DecimalSmall'. -/
def decimalSmallUptoCard : Claim7 := { stood := { row := decimalSmallUptoRow, standIns := [], harness := (true, "714ab034305e00da232335ba83829c14decaeca0182984eeceb27ef39a519a64"), looks := true }, kinds := [], alts := [], laidByText := true, laidKinds := [.data, .data, .data, .sentinel, .sentinel], laidTests := true, laidLooks := .later }
def DecimalSmallUptoCardSaid : Prop := Claim7.holds Tryd.pinned (.plain (OpenSpec.upto decimalSmallSpec)) decimalSmallUptoCard

/-- THE SECOND FORM's CARD OF 'schismalaw01.DecimalDivides'. -/
def decimalDividesUptoCard : Claim7 := { stood := { row := decimalDividesUptoRow, standIns := [], harness := (true, "714ab034305e00da232335ba83829c14decaeca0182984eeceb27ef39a519a64"), looks := true }, kinds := [], alts := [], laidByText := true, laidKinds := [.data, .data, .data, .sentinel, .sentinel], laidTests := true, laidLooks := .later }
def DecimalDividesUptoCardSaid : Prop := Claim7.holds Tryd.pinned (.plain (OpenSpec.upto decimalDividesSpec)) decimalDividesUptoCard

/-- THE SECOND FORM's CARD OF 'schismalaw01.DecimalPowers'. -/
def decimalPowersUptoCard : Claim7 := { stood := { row := decimalPowersUptoRow, standIns := [], harness := (true, "714ab034305e00da232335ba83829c14decaeca0182984eeceb27ef39a519a64"), looks := true }, kinds := [], alts := [], laidByText := true, laidKinds := [.data, .data, .data, .sentinel, .sentinel], laidTests := true, laidLooks := .later }
def DecimalPowersUptoCardSaid : Prop := Claim7.holds Tryd.pinned (.plain (OpenSpec.upto decimalPowersSpec)) decimalPowersUptoCard

/-- THE SECOND FORM's CARD OF 'schismalaw01.DecimalForms'. -/
def decimalFormsUptoCard : Claim7 := { stood := { row := decimalFormsUptoRow, standIns := [], harness := (true, "714ab034305e00da232335ba83829c14decaeca0182984eeceb27ef39a519a64"), looks := true }, kinds := [], alts := [], laidByText := true, laidKinds := [.data, .data, .data, .sentinel, .sentinel], laidTests := true, laidLooks := .later }
def DecimalFormsUptoCardSaid : Prop := Claim7.holds Tryd.pinned (.plain (OpenSpec.upto decimalFormsSpec)) decimalFormsUptoCard

/-- THE SECOND FORM's CARD OF 'schismalaw01.DecimalLimits'. -/
def decimalLimitsUptoCard : Claim7 := { stood := { row := decimalLimitsUptoRow, standIns := [], harness := (true, "714ab034305e00da232335ba83829c14decaeca0182984eeceb27ef39a519a64"), looks := true }, kinds := [], alts := [], laidByText := true, laidKinds := [.data, .data, .data, .sentinel, .sentinel], laidTests := true, laidLooks := .later }
def DecimalLimitsUptoCardSaid : Prop := Claim7.holds Tryd.pinned (.plain (OpenSpec.upto decimalLimitsSpec)) decimalLimitsUptoCard

/-- THE SECOND FORM's CARD OF 'schismalaw01.DecimalCompares'. -/
def decimalComparesUptoCard : Claim7 := { stood := { row := decimalComparesUptoRow, standIns := [], harness := (true, "714ab034305e00da232335ba83829c14decaeca0182984eeceb27ef39a519a64"), looks := true }, kinds := [], alts := [], laidByText := true, laidKinds := [.data, .data, .data, .sentinel, .sentinel], laidTests := true, laidLooks := .later }
def DecimalComparesUptoCardSaid : Prop := Claim7.holds Tryd.pinned (.plain (OpenSpec.upto decimalComparesSpec)) decimalComparesUptoCard

/-- THE SECOND FORM's CARD OF 'schismalaw01.DecimalCommon'. -/
def decimalCommonUptoCard : Claim7 := { stood := { row := decimalCommonUptoRow, standIns := [], harness := (true, "714ab034305e00da232335ba83829c14decaeca0182984eeceb27ef39a519a64"), looks := true }, kinds := [], alts := [], laidByText := true, laidKinds := [.data, .data, .data, .sentinel, .sentinel], laidTests := true, laidLooks := .later }
def DecimalCommonUptoCardSaid : Prop := Claim7.holds Tryd.pinned (.plain (OpenSpec.upto decimalCommonSpec)) decimalCommonUptoCard

/-- THE SECOND FORM's CARD OF 'schismalaw01.DecimalExponents'. -/
def decimalExponentsUptoCard : Claim7 := { stood := { row := decimalExponentsUptoRow, standIns := [], harness := (true, "714ab034305e00da232335ba83829c14decaeca0182984eeceb27ef39a519a64"), looks := true }, kinds := [], alts := [], laidByText := true, laidKinds := [.data, .data, .data, .sentinel, .sentinel], laidTests := true, laidLooks := .later }
def DecimalExponentsUptoCardSaid : Prop := Claim7.holds Tryd.pinned (.plain (OpenSpec.upto decimalExponentsSpec)) decimalExponentsUptoCard

/-- THE SECOND FORM's CARD OF 'schismalaw01.DecimalAdds'. -/
def decimalAddsUptoCard : Claim7 := { stood := { row := decimalAddsUptoRow, standIns := [], harness := (true, "714ab034305e00da232335ba83829c14decaeca0182984eeceb27ef39a519a64"), looks := true }, kinds := [], alts := [], laidByText := true, laidKinds := [.data, .data, .data, .sentinel, .sentinel], laidTests := true, laidLooks := .later }
def DecimalAddsUptoCardSaid : Prop := Claim7.holds Tryd.pinned (.plain (OpenSpec.upto decimalAddsSpec)) decimalAddsUptoCard

/-- THE SECOND FORM's CARD OF 'schismalaw01.DecimalLaws'. -/
def decimalLawsUptoCard : Claim7 := { stood := { row := decimalLawsUptoRow, standIns := [], harness := (true, "714ab034305e00da232335ba83829c14decaeca0182984eeceb27ef39a519a64"), looks := true }, kinds := [], alts := [], laidByText := true, laidKinds := [.data, .data, .data, .sentinel, .sentinel], laidTests := true, laidLooks := .later }
def DecimalLawsUptoCardSaid : Prop := Claim7.holds Tryd.pinned (.plain (OpenSpec.upto decimalLawsSpec)) decimalLawsUptoCard
end Rows
end Go.Proofs.YtojgfpoinbblhaaDoor
