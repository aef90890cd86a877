/-
  DERIVED. GIVEN WITH THE SEED: THE CARDS: each row of YtjglooeljdpadaaDoorRows.lean that lists a variable, with what it lists TIED to the program's text (the seventh form; the later family's looks); each row that meets fmt, with fmt's text TOLD by the authors' own Lean function (tested against real Go, not proved from fmt's source: count such statements apart). THE CARD IS WHAT COUNTS. Prove the row's statement (the work); the ties are given (YtjglooeljdpadaaDoorTie.lean); close each card by the builder's one call (the guide's Derived/Test/ToyasCard.lean, 'card_holds'). Laid BY PROGRAM, IN A SANDBOX (cutbox-door.mjs). By AI agents, Wed Nov 11 2026. No macro, syntax, notation, axiom, sorry.
-/
import Derived.Test.YtjglooeljdpadaaDoorRows
import GoSem.ClaimSeven
namespace Go.Proofs.YtjglooeljdpadaaDoor
namespace Rows

/-- THE TIED CARD OF 'schismalaw02.WholeParses'. -/
def wholeParsesCard : Claim7 := { stood := { row := wholeParsesRow, standIns := [], harness := (true, "2d541694288b038fb535465aa605b94fc2b66ca6cb0c24c18dac804213c13454"), looks := true }, kinds := [], alts := [], laidByText := true, laidKinds := [.data, .data, .data, .data, .sentinel, .sentinel, .pinned], laidTests := true, laidLooks := .later }
def WholeParsesCardSaid : Prop := Claim7.holds Tryd.pinned (.plain (OpenSpec.ofChange wholeParsesSpec)) wholeParsesCard

/-- THE TIED CARD OF 'schismalaw02.WholeSmall'. -/
def wholeSmallCard : Claim7 := { stood := { row := wholeSmallRow, standIns := [], harness := (true, "2d541694288b038fb535465aa605b94fc2b66ca6cb0c24c18dac804213c13454"), looks := true }, kinds := [], alts := [], laidByText := true, laidKinds := [.data, .data, .data, .data, .sentinel, .sentinel, .pinned], laidTests := true, laidLooks := .later }
def WholeSmallCardSaid : Prop := Claim7.holds Tryd.pinned (.plain (OpenSpec.ofChange wholeSmallSpec)) wholeSmallCard

/-- THE TIED CARD OF 'schismalaw02.WholeOrders'. -/
def wholeOrdersCard : Claim7 := { stood := { row := wholeOrdersRow, standIns := [], harness := (true, "2d541694288b038fb535465aa605b94fc2b66ca6cb0c24c18dac804213c13454"), looks := true }, kinds := [], alts := [], laidByText := true, laidKinds := [.data, .data, .data, .data, .sentinel, .sentinel, .pinned], laidTests := true, laidLooks := .later }
def WholeOrdersCardSaid : Prop := Claim7.holds Tryd.pinned (.plain (OpenSpec.ofChange wholeOrdersSpec)) wholeOrdersCard

/-- THE TIED CARD OF 'schismalaw02.WholeLaws'. -/
def wholeLawsCard : Claim7 := { stood := { row := wholeLawsRow, standIns := [], harness := (true, "2d541694288b038fb535465aa605b94fc2b66ca6cb0c24c18dac804213c13454"), looks := true }, kinds := [], alts := [], laidByText := true, laidKinds := [.data, .data, .data, .data, .sentinel, .sentinel, .pinned], laidTests := true, laidLooks := .later }
def WholeLawsCardSaid : Prop := Claim7.holds Tryd.pinned (.plain (OpenSpec.ofChange wholeLawsSpec)) wholeLawsCard

/-- THE TIED CARD OF 'schismalaw02.WholeRemainders'. -/
def wholeRemaindersCard : Claim7 := { stood := { row := wholeRemaindersRow, standIns := [], harness := (true, "2d541694288b038fb535465aa605b94fc2b66ca6cb0c24c18dac804213c13454"), looks := true }, kinds := [], alts := [], laidByText := true, laidKinds := [.data, .data, .data, .data, .sentinel, .sentinel, .pinned], laidTests := true, laidLooks := .later }
def WholeRemaindersCardSaid : Prop := Claim7.holds Tryd.pinned (.plain (OpenSpec.ofChange wholeRemaindersSpec)) wholeRemaindersCard

/-- THE TIED CARD OF 'schismalaw02.WholeChecks'. -/
def wholeChecksCard : Claim7 := { stood := { row := wholeChecksRow, standIns := [], harness := (true, "2d541694288b038fb535465aa605b94fc2b66ca6cb0c24c18dac804213c13454"), looks := true }, kinds := [], alts := [], laidByText := true, laidKinds := [.data, .data, .data, .data, .sentinel, .sentinel, .pinned], laidTests := true, laidLooks := .later }
def WholeChecksCardSaid : Prop := Claim7.holds Tryd.pinned (.plain (OpenSpec.ofChange wholeChecksSpec)) wholeChecksCard

/-- THE SECOND FORM's CARD OF 'schismalaw02.WholeParses'. -/
def wholeParsesUptoCard : Claim7 := { stood := { row := wholeParsesUptoRow, standIns := [], harness := (true, "2d541694288b038fb535465aa605b94fc2b66ca6cb0c24c18dac804213c13454"), looks := true }, kinds := [], alts := [], laidByText := true, laidKinds := [.data, .data, .data, .data, .sentinel, .sentinel, .pinned], laidTests := true, laidLooks := .later }
def WholeParsesUptoCardSaid : Prop := Claim7.holds Tryd.pinned (.plain (OpenSpec.upto wholeParsesSpec)) wholeParsesUptoCard

/-- THE SECOND FORM's CARD OF 'schismalaw02.WholeSmall'. -/
def wholeSmallUptoCard : Claim7 := { stood := { row := wholeSmallUptoRow, standIns := [], harness := (true, "2d541694288b038fb535465aa605b94fc2b66ca6cb0c24c18dac804213c13454"), looks := true }, kinds := [], alts := [], laidByText := true, laidKinds := [.data, .data, .data, .data, .sentinel, .sentinel, .pinned], laidTests := true, laidLooks := .later }
def WholeSmallUptoCardSaid : Prop := Claim7.holds Tryd.pinned (.plain (OpenSpec.upto wholeSmallSpec)) wholeSmallUptoCard

/-- THE SECOND FORM's CARD OF 'schismalaw02.WholeOrders'. -/
def wholeOrdersUptoCard : Claim7 := { stood := { row := wholeOrdersUptoRow, standIns := [], harness := (true, "2d541694288b038fb535465aa605b94fc2b66ca6cb0c24c18dac804213c13454"), looks := true }, kinds := [], alts := [], laidByText := true, laidKinds := [.data, .data, .data, .data, .sentinel, .sentinel, .pinned], laidTests := true, laidLooks := .later }
def WholeOrdersUptoCardSaid : Prop := Claim7.holds Tryd.pinned (.plain (OpenSpec.upto wholeOrdersSpec)) wholeOrdersUptoCard

/-- THE SECOND FORM's CARD OF 'schismalaw02.WholeLaws'. -/
def wholeLawsUptoCard : Claim7 := { stood := { row := wholeLawsUptoRow, standIns := [], harness := (true, "2d541694288b038fb535465aa605b94fc2b66ca6cb0c24c18dac804213c13454"), looks := true }, kinds := [], alts := [], laidByText := true, laidKinds := [.data, .data, .data, .data, .sentinel, .sentinel, .pinned], laidTests := true, laidLooks := .later }
def WholeLawsUptoCardSaid : Prop := Claim7.holds Tryd.pinned (.plain (OpenSpec.upto wholeLawsSpec)) wholeLawsUptoCard

/-- THE SECOND FORM's CARD OF 'schismalaw02.WholeRemainders'. -/
def wholeRemaindersUptoCard : Claim7 := { stood := { row := wholeRemaindersUptoRow, standIns := [], harness := (true, "2d541694288b038fb535465aa605b94fc2b66ca6cb0c24c18dac804213c13454"), looks := true }, kinds := [], alts := [], laidByText := true, laidKinds := [.data, .data, .data, .data, .sentinel, .sentinel, .pinned], laidTests := true, laidLooks := .later }
def WholeRemaindersUptoCardSaid : Prop := Claim7.holds Tryd.pinned (.plain (OpenSpec.upto wholeRemaindersSpec)) wholeRemaindersUptoCard

/-- THE SECOND FORM's CARD OF 'schismalaw02.WholeChecks'. -/
def wholeChecksUptoCard : Claim7 := { stood := { row := wholeChecksUptoRow, standIns := [], harness := (true, "2d541694288b038fb535465aa605b94fc2b66ca6cb0c24c18dac804213c13454"), looks := true }, kinds := [], alts := [], laidByText := true, laidKinds := [.data, .data, .data, .data, .sentinel, .sentinel, .pinned], laidTests := true, laidLooks := .later }
def WholeChecksUptoCardSaid : Prop := Claim7.holds Tryd.pinned (.plain (OpenSpec.upto wholeChecksSpec)) wholeChecksUptoCard
end Rows
end Go.Proofs.YtjglooeljdpadaaDoor
