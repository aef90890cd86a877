/-
  DERIVED. GIVEN WITH THE SEED: THE CARDS: each row of YtjglooeljdpadaaGreatDoorRows.lean that lists a variable, with what it lists TIED to the program's text (the seventh form; the later family's looks); each row that meets fmt, with fmt's text TOLD by the authors' own Lean function (tested against real Go, not proved from fmt's source: count such statements apart). THE CARD IS WHAT COUNTS. Prove the row's statement (the work); the ties are given (YtjglooeljdpadaaGreatDoorTie.lean); close each card by the builder's one call (the guide's Derived/Test/ToyasCard.lean, 'card_holds'). Laid BY PROGRAM, IN A SANDBOX (cutbox-door.mjs). By AI agents, Wed Nov 11 2026. No macro, syntax, notation, axiom, sorry.
-/
import Derived.Test.YtjglooeljdpadaaGreatDoorRows
import GoSem.ClaimSeven
namespace Go.Proofs.YtjglooeljdpadaaGreatDoor
namespace Rows

/-- THE TIED CARD OF 'schismalaw02.WholeSums'. -/
def wholeSumsCard : Claim7 := { stood := { row := wholeSumsRow, standIns := [], harness := (true, "1ed2fecdbbf35983b30e80c13693c37d5145cfd547d1a0e7186909347d1e7e98"), looks := true }, kinds := [], alts := [], laidByText := true, laidKinds := [.data, .data, .data, .data, .sentinel, .sentinel, .pinned], laidTests := true, laidLooks := .later }
def WholeSumsCardSaid : Prop := Claim7.holds Tryz.pinned (.plain (OpenSpec.ofChange wholeSumsSpec)) wholeSumsCard

/-- THE TIED CARD OF 'schismalaw02.WholeProducts'. -/
def wholeProductsCard : Claim7 := { stood := { row := wholeProductsRow, standIns := [], harness := (true, "1ed2fecdbbf35983b30e80c13693c37d5145cfd547d1a0e7186909347d1e7e98"), looks := true }, kinds := [], alts := [], laidByText := true, laidKinds := [.data, .data, .data, .data, .sentinel, .sentinel, .pinned], laidTests := true, laidLooks := .later }
def WholeProductsCardSaid : Prop := Claim7.holds Tryz.pinned (.plain (OpenSpec.ofChange wholeProductsSpec)) wholeProductsCard

/-- THE TIED CARD OF 'schismalaw02.WholeDivides'. -/
def wholeDividesCard : Claim7 := { stood := { row := wholeDividesRow, standIns := [], harness := (true, "1ed2fecdbbf35983b30e80c13693c37d5145cfd547d1a0e7186909347d1e7e98"), looks := true }, kinds := [], alts := [], laidByText := true, laidKinds := [.data, .data, .data, .data, .sentinel, .sentinel, .pinned], laidTests := true, laidLooks := .later }
def WholeDividesCardSaid : Prop := Claim7.holds Tryz.pinned (.plain (OpenSpec.ofChange wholeDividesSpec)) wholeDividesCard

/-- THE TIED CARD OF 'schismalaw02.WholeGcds'. -/
def wholeGcdsCard : Claim7 := { stood := { row := wholeGcdsRow, standIns := [], harness := (true, "1ed2fecdbbf35983b30e80c13693c37d5145cfd547d1a0e7186909347d1e7e98"), looks := true }, kinds := [], alts := [], laidByText := true, laidKinds := [.data, .data, .data, .data, .sentinel, .sentinel, .pinned], laidTests := true, laidLooks := .later }
def WholeGcdsCardSaid : Prop := Claim7.holds Tryz.pinned (.plain (OpenSpec.ofChange wholeGcdsSpec)) wholeGcdsCard

/-- THE TIED CARD OF 'schismalaw02.WholePowers'. -/
def wholePowersCard : Claim7 := { stood := { row := wholePowersRow, standIns := [], harness := (true, "1ed2fecdbbf35983b30e80c13693c37d5145cfd547d1a0e7186909347d1e7e98"), looks := true }, kinds := [], alts := [], laidByText := true, laidKinds := [.data, .data, .data, .data, .sentinel, .sentinel, .pinned], laidTests := true, laidLooks := .later }
def WholePowersCardSaid : Prop := Claim7.holds Tryz.pinned (.plain (OpenSpec.ofChange wholePowersSpec)) wholePowersCard

/-- THE SECOND FORM's CARD OF 'schismalaw02.WholeSums'. -/
def wholeSumsUptoCard : Claim7 := { stood := { row := wholeSumsUptoRow, standIns := [], harness := (true, "1ed2fecdbbf35983b30e80c13693c37d5145cfd547d1a0e7186909347d1e7e98"), looks := true }, kinds := [], alts := [], laidByText := true, laidKinds := [.data, .data, .data, .data, .sentinel, .sentinel, .pinned], laidTests := true, laidLooks := .later }
def WholeSumsUptoCardSaid : Prop := Claim7.holds Tryz.pinned (.plain (OpenSpec.upto wholeSumsSpec)) wholeSumsUptoCard

/-- THE SECOND FORM's CARD OF 'schismalaw02.WholeProducts'. -/
def wholeProductsUptoCard : Claim7 := { stood := { row := wholeProductsUptoRow, standIns := [], harness := (true, "1ed2fecdbbf35983b30e80c13693c37d5145cfd547d1a0e7186909347d1e7e98"), looks := true }, kinds := [], alts := [], laidByText := true, laidKinds := [.data, .data, .data, .data, .sentinel, .sentinel, .pinned], laidTests := true, laidLooks := .later }
def WholeProductsUptoCardSaid : Prop := Claim7.holds Tryz.pinned (.plain (OpenSpec.upto wholeProductsSpec)) wholeProductsUptoCard

/-- THE SECOND FORM's CARD OF 'schismalaw02.WholeDivides'. -/
def wholeDividesUptoCard : Claim7 := { stood := { row := wholeDividesUptoRow, standIns := [], harness := (true, "1ed2fecdbbf35983b30e80c13693c37d5145cfd547d1a0e7186909347d1e7e98"), looks := true }, kinds := [], alts := [], laidByText := true, laidKinds := [.data, .data, .data, .data, .sentinel, .sentinel, .pinned], laidTests := true, laidLooks := .later }
def WholeDividesUptoCardSaid : Prop := Claim7.holds Tryz.pinned (.plain (OpenSpec.upto wholeDividesSpec)) wholeDividesUptoCard

/-- THE SECOND FORM's CARD OF 'schismalaw02.WholeGcds'. -/
def wholeGcdsUptoCard : Claim7 := { stood := { row := wholeGcdsUptoRow, standIns := [], harness := (true, "1ed2fecdbbf35983b30e80c13693c37d5145cfd547d1a0e7186909347d1e7e98"), looks := true }, kinds := [], alts := [], laidByText := true, laidKinds := [.data, .data, .data, .data, .sentinel, .sentinel, .pinned], laidTests := true, laidLooks := .later }
def WholeGcdsUptoCardSaid : Prop := Claim7.holds Tryz.pinned (.plain (OpenSpec.upto wholeGcdsSpec)) wholeGcdsUptoCard

/-- THE SECOND FORM's CARD OF 'schismalaw02.WholePowers'. -/
def wholePowersUptoCard : Claim7 := { stood := { row := wholePowersUptoRow, standIns := [], harness := (true, "1ed2fecdbbf35983b30e80c13693c37d5145cfd547d1a0e7186909347d1e7e98"), looks := true }, kinds := [], alts := [], laidByText := true, laidKinds := [.data, .data, .data, .data, .sentinel, .sentinel, .pinned], laidTests := true, laidLooks := .later }
def WholePowersUptoCardSaid : Prop := Claim7.holds Tryz.pinned (.plain (OpenSpec.upto wholePowersSpec)) wholePowersUptoCard
end Rows
end Go.Proofs.YtjglooeljdpadaaGreatDoor
