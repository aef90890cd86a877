/-
  NARROWER THAN 'FOR EVERY INPUT', by the rows' own cells (each row's printed sentence says how): DecimalSmall: laid · DecimalDivides: laid · DecimalPowers: laid · DecimalForms: laid · DecimalLimits: laid · DecimalCompares: laid · DecimalCommon: laid · DecimalExponents: laid · DecimalAdds: laid · DecimalLaws: laid.
  DERIVED. THE GIVEN ROWS OF THIS SEAT. 10 by the template 'for every input the law returns true; each argument reads behind the call as it read before'; 0 by the template 'total and deterministic' (their statements: YtojgfpoinbblhaaDoorTotals.lean).
  GIVEN WITH THE SEED: the statements are not yours to turn. If you find one false, say at which input.
  Laid BY PROGRAM, IN A SANDBOX (cutbox-rows.mjs): the forced cells as the released guide's own fill.sh prints them over the translation 44dea3f1f45825b3… (all of the seat's roots in one cut). By AI agents, Wed Nov 11 2026. No macro, syntax, notation, axiom, sorry.
-/
import Derived.Test.YtojgfpoinbblhaaDoorChecked
import GoSem.Claim
import GoSem.ClaimJoined
import GoSem.ClaimMapViews
import Derived.JoinedTies
import Derived.KernelRfl
namespace Go.Proofs.YtojgfpoinbblhaaDoor
/- THE CELL 'sum', in the pinned program and in every row, IS THE sha256 OF THE DUMP (.gsa) THAT YtojgfpoinbblhaaDoorProg.lean LOADS. Nothing in Lean hashes anything: it is a label: what it is worth is what the hold of that sum in a sandbox is worth. -/
noncomputable def Tryd.pinned : Pinned := { name := "ytojgfpoinbblhaadoor", sum := "44dea3f1f45825b369761ba3c8d810fc84643f429fbdb748c793798a366b9a3d", checked := Tryd.checked }
namespace Rows
def none {H : Type} : Left H := { results := [], args := [] }

/- WHAT THE LISTED PACKAGE-LEVEL VARIABLES READ AS WHEN THE CALL BEGINS. Each datum BY PROGRAM (the guide's laid-datum.mjs) off the statement by which the dump's own 'gosem.cut.vars' lays the variable. In a bare row this is a premise. The card (YtojgfpoinbblhaaDoorCards.lean) ties it to the program's text. -/
def laid_math_bits_deBruijn32tab {H : Type} : DataW H := .agg [.lit (.int .u8 0), .lit (.int .u8 1), .lit (.int .u8 28), .lit (.int .u8 2), .lit (.int .u8 29), .lit (.int .u8 14), .lit (.int .u8 24), .lit (.int .u8 3), .lit (.int .u8 30), .lit (.int .u8 22), .lit (.int .u8 20), .lit (.int .u8 15), .lit (.int .u8 25), .lit (.int .u8 17), .lit (.int .u8 4), .lit (.int .u8 8), .lit (.int .u8 31), .lit (.int .u8 27), .lit (.int .u8 13), .lit (.int .u8 23), .lit (.int .u8 21), .lit (.int .u8 19), .lit (.int .u8 16), .lit (.int .u8 7), .lit (.int .u8 26), .lit (.int .u8 12), .lit (.int .u8 18), .lit (.int .u8 6), .lit (.int .u8 11), .lit (.int .u8 5), .lit (.int .u8 10), .lit (.int .u8 9)]
def laid_math_bits_deBruijn64tab {H : Type} : DataW H := .agg [.lit (.int .u8 0), .lit (.int .u8 1), .lit (.int .u8 56), .lit (.int .u8 2), .lit (.int .u8 57), .lit (.int .u8 49), .lit (.int .u8 28), .lit (.int .u8 3), .lit (.int .u8 61), .lit (.int .u8 58), .lit (.int .u8 42), .lit (.int .u8 50), .lit (.int .u8 38), .lit (.int .u8 29), .lit (.int .u8 17), .lit (.int .u8 4), .lit (.int .u8 62), .lit (.int .u8 47), .lit (.int .u8 59), .lit (.int .u8 36), .lit (.int .u8 45), .lit (.int .u8 43), .lit (.int .u8 51), .lit (.int .u8 22), .lit (.int .u8 53), .lit (.int .u8 39), .lit (.int .u8 33), .lit (.int .u8 30), .lit (.int .u8 24), .lit (.int .u8 18), .lit (.int .u8 12), .lit (.int .u8 5), .lit (.int .u8 63), .lit (.int .u8 55), .lit (.int .u8 48), .lit (.int .u8 27), .lit (.int .u8 60), .lit (.int .u8 41), .lit (.int .u8 37), .lit (.int .u8 16), .lit (.int .u8 46), .lit (.int .u8 35), .lit (.int .u8 44), .lit (.int .u8 21), .lit (.int .u8 52), .lit (.int .u8 32), .lit (.int .u8 23), .lit (.int .u8 11), .lit (.int .u8 54), .lit (.int .u8 26), .lit (.int .u8 40), .lit (.int .u8 15), .lit (.int .u8 34), .lit (.int .u8 20), .lit (.int .u8 31), .lit (.int .u8 10), .lit (.int .u8 25), .lit (.int .u8 14), .lit (.int .u8 19), .lit (.int .u8 9), .lit (.int .u8 13), .lit (.int .u8 8), .lit (.int .u8 7), .lit (.int .u8 6)]
def laid_internal_strconv_uint64pow10 {H : Type} : DataW H := .agg [.lit (.int .u64 1), .lit (.int .u64 10), .lit (.int .u64 100), .lit (.int .u64 1000), .lit (.int .u64 10000), .lit (.int .u64 100000), .lit (.int .u64 1000000), .lit (.int .u64 10000000), .lit (.int .u64 100000000), .lit (.int .u64 1000000000), .lit (.int .u64 10000000000), .lit (.int .u64 100000000000), .lit (.int .u64 1000000000000), .lit (.int .u64 10000000000000), .lit (.int .u64 100000000000000), .lit (.int .u64 1000000000000000), .lit (.int .u64 10000000000000000), .lit (.int .u64 100000000000000000), .lit (.int .u64 1000000000000000000), .lit (.int .u64 10000000000000000000)]
def laid_strconv_ErrRange {H : Type} : DataW H := .iface "*errors.errorString" (.ptr (.agg [.lit (.string [118, 97, 108, 117, 101, 32, 111, 117, 116, 32, 111, 102, 32, 114, 97, 110, 103, 101])]))
def laid_strconv_ErrSyntax {H : Type} : DataW H := .iface "*errors.errorString" (.ptr (.agg [.lit (.string [105, 110, 118, 97, 108, 105, 100, 32, 115, 121, 110, 116, 97, 120])]))

/-- 'schismalaw01.DecimalSmall': WHATEVER THE INPUT: true; the input reads as it did. -/
def decimalSmallSpec : ChangeSpec := { name := "decimalSmall", fn := fun _ => fun
  | [d1, d2] => { results := [.lit (.bool true)], args := [d1, d2] }
  | _ => none }
def decimalSmallRow : OpenClaim := { program := "ytojgfpoinbblhaadoor", sum := "44dea3f1f45825b369761ba3c8d810fc84643f429fbdb748c793798a366b9a3d", func := "schisma/schismalaw01.DecimalSmall", spec := "decimalSmall", named := ["strconv.ErrSyntax", "strconv.ErrRange", "internal/strconv.uint64pow10", "math/bits.deBruijn32tab", "math/bits.deBruijn64tab"], apart := false, laid := [("math/bits.deBruijn32tab", laid_math_bits_deBruijn32tab), ("math/bits.deBruijn64tab", laid_math_bits_deBruijn64tab), ("internal/strconv.uint64pow10", laid_internal_strconv_uint64pow10), ("strconv.ErrRange", laid_strconv_ErrRange), ("strconv.ErrSyntax", laid_strconv_ErrSyntax)] }
def DecimalSmallSaid : Prop := decimalSmallRow.holds Tryd.pinned (OpenSpec.ofChange decimalSmallSpec)

/-- ITS FALSE NEIGHBOUR: 'it returns false'. Refute it at one input. -/
def decimalSmallWrong : ChangeSpec := { name := "decimalSmall", fn := fun _ => fun
  | [d1, d2] => { results := [.lit (.bool false)], args := [d1, d2] }
  | _ => none }
def DecimalSmallWrongFalsely : Prop := decimalSmallRow.holds Tryd.pinned (OpenSpec.ofChange decimalSmallWrong)

/-- 'schismalaw01.DecimalDivides': WHATEVER THE INPUT: true; the input reads as it did. -/
def decimalDividesSpec : ChangeSpec := { name := "decimalDivides", fn := fun _ => fun
  | [d1, d2] => { results := [.lit (.bool true)], args := [d1, d2] }
  | _ => none }
def decimalDividesRow : OpenClaim := { program := "ytojgfpoinbblhaadoor", sum := "44dea3f1f45825b369761ba3c8d810fc84643f429fbdb748c793798a366b9a3d", func := "schisma/schismalaw01.DecimalDivides", spec := "decimalDivides", named := ["strconv.ErrSyntax", "strconv.ErrRange", "internal/strconv.uint64pow10", "math/bits.deBruijn32tab", "math/bits.deBruijn64tab"], apart := false, laid := [("math/bits.deBruijn32tab", laid_math_bits_deBruijn32tab), ("math/bits.deBruijn64tab", laid_math_bits_deBruijn64tab), ("internal/strconv.uint64pow10", laid_internal_strconv_uint64pow10), ("strconv.ErrRange", laid_strconv_ErrRange), ("strconv.ErrSyntax", laid_strconv_ErrSyntax)] }
def DecimalDividesSaid : Prop := decimalDividesRow.holds Tryd.pinned (OpenSpec.ofChange decimalDividesSpec)

/-- ITS FALSE NEIGHBOUR: 'it returns false'. Refute it at one input. -/
def decimalDividesWrong : ChangeSpec := { name := "decimalDivides", fn := fun _ => fun
  | [d1, d2] => { results := [.lit (.bool false)], args := [d1, d2] }
  | _ => none }
def DecimalDividesWrongFalsely : Prop := decimalDividesRow.holds Tryd.pinned (OpenSpec.ofChange decimalDividesWrong)

/-- 'schismalaw01.DecimalPowers': WHATEVER THE INPUT: true; the input reads as it did. -/
def decimalPowersSpec : ChangeSpec := { name := "decimalPowers", fn := fun _ => fun
  | [d1, d2] => { results := [.lit (.bool true)], args := [d1, d2] }
  | _ => none }
def decimalPowersRow : OpenClaim := { program := "ytojgfpoinbblhaadoor", sum := "44dea3f1f45825b369761ba3c8d810fc84643f429fbdb748c793798a366b9a3d", func := "schisma/schismalaw01.DecimalPowers", spec := "decimalPowers", named := ["strconv.ErrSyntax", "strconv.ErrRange", "internal/strconv.uint64pow10", "math/bits.deBruijn32tab", "math/bits.deBruijn64tab"], apart := false, laid := [("math/bits.deBruijn32tab", laid_math_bits_deBruijn32tab), ("math/bits.deBruijn64tab", laid_math_bits_deBruijn64tab), ("internal/strconv.uint64pow10", laid_internal_strconv_uint64pow10), ("strconv.ErrRange", laid_strconv_ErrRange), ("strconv.ErrSyntax", laid_strconv_ErrSyntax)] }
def DecimalPowersSaid : Prop := decimalPowersRow.holds Tryd.pinned (OpenSpec.ofChange decimalPowersSpec)

/-- ITS FALSE NEIGHBOUR: 'it returns false'. Refute it at one input. -/
def decimalPowersWrong : ChangeSpec := { name := "decimalPowers", fn := fun _ => fun
  | [d1, d2] => { results := [.lit (.bool false)], args := [d1, d2] }
  | _ => none }
def DecimalPowersWrongFalsely : Prop := decimalPowersRow.holds Tryd.pinned (OpenSpec.ofChange decimalPowersWrong)

/-- 'schismalaw01.DecimalForms': WHATEVER THE INPUT: true; the input reads as it did. -/
def decimalFormsSpec : ChangeSpec := { name := "decimalForms", fn := fun _ => fun
  | [d] => { results := [.lit (.bool true)], args := [d] }
  | _ => none }
def decimalFormsRow : OpenClaim := { program := "ytojgfpoinbblhaadoor", sum := "44dea3f1f45825b369761ba3c8d810fc84643f429fbdb748c793798a366b9a3d", func := "schisma/schismalaw01.DecimalForms", spec := "decimalForms", named := ["strconv.ErrSyntax", "strconv.ErrRange", "internal/strconv.uint64pow10", "math/bits.deBruijn32tab", "math/bits.deBruijn64tab"], apart := false, laid := [("math/bits.deBruijn32tab", laid_math_bits_deBruijn32tab), ("math/bits.deBruijn64tab", laid_math_bits_deBruijn64tab), ("internal/strconv.uint64pow10", laid_internal_strconv_uint64pow10), ("strconv.ErrRange", laid_strconv_ErrRange), ("strconv.ErrSyntax", laid_strconv_ErrSyntax)] }
def DecimalFormsSaid : Prop := decimalFormsRow.holds Tryd.pinned (OpenSpec.ofChange decimalFormsSpec)

/-- ITS FALSE NEIGHBOUR: 'it returns false'. Refute it at one input. -/
def decimalFormsWrong : ChangeSpec := { name := "decimalForms", fn := fun _ => fun
  | [d] => { results := [.lit (.bool false)], args := [d] }
  | _ => none }
def DecimalFormsWrongFalsely : Prop := decimalFormsRow.holds Tryd.pinned (OpenSpec.ofChange decimalFormsWrong)

/-- 'schismalaw01.DecimalLimits': WHATEVER THE INPUT: true; the input reads as it did. -/
def decimalLimitsSpec : ChangeSpec := { name := "decimalLimits", fn := fun _ => fun
  | [d] => { results := [.lit (.bool true)], args := [d] }
  | _ => none }
def decimalLimitsRow : OpenClaim := { program := "ytojgfpoinbblhaadoor", sum := "44dea3f1f45825b369761ba3c8d810fc84643f429fbdb748c793798a366b9a3d", func := "schisma/schismalaw01.DecimalLimits", spec := "decimalLimits", named := ["strconv.ErrSyntax", "strconv.ErrRange", "internal/strconv.uint64pow10", "math/bits.deBruijn32tab", "math/bits.deBruijn64tab"], apart := false, laid := [("math/bits.deBruijn32tab", laid_math_bits_deBruijn32tab), ("math/bits.deBruijn64tab", laid_math_bits_deBruijn64tab), ("internal/strconv.uint64pow10", laid_internal_strconv_uint64pow10), ("strconv.ErrRange", laid_strconv_ErrRange), ("strconv.ErrSyntax", laid_strconv_ErrSyntax)] }
def DecimalLimitsSaid : Prop := decimalLimitsRow.holds Tryd.pinned (OpenSpec.ofChange decimalLimitsSpec)

/-- ITS FALSE NEIGHBOUR: 'it returns false'. Refute it at one input. -/
def decimalLimitsWrong : ChangeSpec := { name := "decimalLimits", fn := fun _ => fun
  | [d] => { results := [.lit (.bool false)], args := [d] }
  | _ => none }
def DecimalLimitsWrongFalsely : Prop := decimalLimitsRow.holds Tryd.pinned (OpenSpec.ofChange decimalLimitsWrong)

/-- 'schismalaw01.DecimalCompares': WHATEVER THE INPUT: true; the input reads as it did. -/
def decimalComparesSpec : ChangeSpec := { name := "decimalCompares", fn := fun _ => fun
  | [d1, d2] => { results := [.lit (.bool true)], args := [d1, d2] }
  | _ => none }
def decimalComparesRow : OpenClaim := { program := "ytojgfpoinbblhaadoor", sum := "44dea3f1f45825b369761ba3c8d810fc84643f429fbdb748c793798a366b9a3d", func := "schisma/schismalaw01.DecimalCompares", spec := "decimalCompares", named := ["strconv.ErrSyntax", "strconv.ErrRange", "internal/strconv.uint64pow10", "math/bits.deBruijn32tab", "math/bits.deBruijn64tab"], apart := false, laid := [("math/bits.deBruijn32tab", laid_math_bits_deBruijn32tab), ("math/bits.deBruijn64tab", laid_math_bits_deBruijn64tab), ("internal/strconv.uint64pow10", laid_internal_strconv_uint64pow10), ("strconv.ErrRange", laid_strconv_ErrRange), ("strconv.ErrSyntax", laid_strconv_ErrSyntax)] }
def DecimalComparesSaid : Prop := decimalComparesRow.holds Tryd.pinned (OpenSpec.ofChange decimalComparesSpec)

/-- ITS FALSE NEIGHBOUR: 'it returns false'. Refute it at one input. -/
def decimalComparesWrong : ChangeSpec := { name := "decimalCompares", fn := fun _ => fun
  | [d1, d2] => { results := [.lit (.bool false)], args := [d1, d2] }
  | _ => none }
def DecimalComparesWrongFalsely : Prop := decimalComparesRow.holds Tryd.pinned (OpenSpec.ofChange decimalComparesWrong)

/-- 'schismalaw01.DecimalCommon': WHATEVER THE INPUT: true; the input reads as it did. -/
def decimalCommonSpec : ChangeSpec := { name := "decimalCommon", fn := fun _ => fun
  | [d1, d2] => { results := [.lit (.bool true)], args := [d1, d2] }
  | _ => none }
def decimalCommonRow : OpenClaim := { program := "ytojgfpoinbblhaadoor", sum := "44dea3f1f45825b369761ba3c8d810fc84643f429fbdb748c793798a366b9a3d", func := "schisma/schismalaw01.DecimalCommon", spec := "decimalCommon", named := ["strconv.ErrSyntax", "strconv.ErrRange", "internal/strconv.uint64pow10", "math/bits.deBruijn32tab", "math/bits.deBruijn64tab"], apart := false, laid := [("math/bits.deBruijn32tab", laid_math_bits_deBruijn32tab), ("math/bits.deBruijn64tab", laid_math_bits_deBruijn64tab), ("internal/strconv.uint64pow10", laid_internal_strconv_uint64pow10), ("strconv.ErrRange", laid_strconv_ErrRange), ("strconv.ErrSyntax", laid_strconv_ErrSyntax)] }
def DecimalCommonSaid : Prop := decimalCommonRow.holds Tryd.pinned (OpenSpec.ofChange decimalCommonSpec)

/-- ITS FALSE NEIGHBOUR: 'it returns false'. Refute it at one input. -/
def decimalCommonWrong : ChangeSpec := { name := "decimalCommon", fn := fun _ => fun
  | [d1, d2] => { results := [.lit (.bool false)], args := [d1, d2] }
  | _ => none }
def DecimalCommonWrongFalsely : Prop := decimalCommonRow.holds Tryd.pinned (OpenSpec.ofChange decimalCommonWrong)

/-- 'schismalaw01.DecimalExponents': WHATEVER THE INPUT: true; the input reads as it did. -/
def decimalExponentsSpec : ChangeSpec := { name := "decimalExponents", fn := fun _ => fun
  | [d1, d2, d3] => { results := [.lit (.bool true)], args := [d1, d2, d3] }
  | _ => none }
def decimalExponentsRow : OpenClaim := { program := "ytojgfpoinbblhaadoor", sum := "44dea3f1f45825b369761ba3c8d810fc84643f429fbdb748c793798a366b9a3d", func := "schisma/schismalaw01.DecimalExponents", spec := "decimalExponents", named := ["strconv.ErrSyntax", "strconv.ErrRange", "internal/strconv.uint64pow10", "math/bits.deBruijn32tab", "math/bits.deBruijn64tab"], apart := false, laid := [("math/bits.deBruijn32tab", laid_math_bits_deBruijn32tab), ("math/bits.deBruijn64tab", laid_math_bits_deBruijn64tab), ("internal/strconv.uint64pow10", laid_internal_strconv_uint64pow10), ("strconv.ErrRange", laid_strconv_ErrRange), ("strconv.ErrSyntax", laid_strconv_ErrSyntax)] }
def DecimalExponentsSaid : Prop := decimalExponentsRow.holds Tryd.pinned (OpenSpec.ofChange decimalExponentsSpec)

/-- ITS FALSE NEIGHBOUR: 'it returns false'. Refute it at one input. -/
def decimalExponentsWrong : ChangeSpec := { name := "decimalExponents", fn := fun _ => fun
  | [d1, d2, d3] => { results := [.lit (.bool false)], args := [d1, d2, d3] }
  | _ => none }
def DecimalExponentsWrongFalsely : Prop := decimalExponentsRow.holds Tryd.pinned (OpenSpec.ofChange decimalExponentsWrong)

/-- 'schismalaw01.DecimalAdds': WHATEVER THE INPUT: true; the input reads as it did. -/
def decimalAddsSpec : ChangeSpec := { name := "decimalAdds", fn := fun _ => fun
  | [d1, d2] => { results := [.lit (.bool true)], args := [d1, d2] }
  | _ => none }
def decimalAddsRow : OpenClaim := { program := "ytojgfpoinbblhaadoor", sum := "44dea3f1f45825b369761ba3c8d810fc84643f429fbdb748c793798a366b9a3d", func := "schisma/schismalaw01.DecimalAdds", spec := "decimalAdds", named := ["strconv.ErrSyntax", "strconv.ErrRange", "internal/strconv.uint64pow10", "math/bits.deBruijn32tab", "math/bits.deBruijn64tab"], apart := false, laid := [("math/bits.deBruijn32tab", laid_math_bits_deBruijn32tab), ("math/bits.deBruijn64tab", laid_math_bits_deBruijn64tab), ("internal/strconv.uint64pow10", laid_internal_strconv_uint64pow10), ("strconv.ErrRange", laid_strconv_ErrRange), ("strconv.ErrSyntax", laid_strconv_ErrSyntax)] }
def DecimalAddsSaid : Prop := decimalAddsRow.holds Tryd.pinned (OpenSpec.ofChange decimalAddsSpec)

/-- ITS FALSE NEIGHBOUR: 'it returns false'. Refute it at one input. -/
def decimalAddsWrong : ChangeSpec := { name := "decimalAdds", fn := fun _ => fun
  | [d1, d2] => { results := [.lit (.bool false)], args := [d1, d2] }
  | _ => none }
def DecimalAddsWrongFalsely : Prop := decimalAddsRow.holds Tryd.pinned (OpenSpec.ofChange decimalAddsWrong)

/-- 'schismalaw01.DecimalLaws': WHATEVER THE INPUT: true; the input reads as it did. -/
def decimalLawsSpec : ChangeSpec := { name := "decimalLaws", fn := fun _ => fun
  | [d1, d2, d3] => { results := [.lit (.bool true)], args := [d1, d2, d3] }
  | _ => none }
def decimalLawsRow : OpenClaim := { program := "ytojgfpoinbblhaadoor", sum := "44dea3f1f45825b369761ba3c8d810fc84643f429fbdb748c793798a366b9a3d", func := "schisma/schismalaw01.DecimalLaws", spec := "decimalLaws", named := ["strconv.ErrSyntax", "strconv.ErrRange", "internal/strconv.uint64pow10", "math/bits.deBruijn32tab", "math/bits.deBruijn64tab"], apart := false, laid := [("math/bits.deBruijn32tab", laid_math_bits_deBruijn32tab), ("math/bits.deBruijn64tab", laid_math_bits_deBruijn64tab), ("internal/strconv.uint64pow10", laid_internal_strconv_uint64pow10), ("strconv.ErrRange", laid_strconv_ErrRange), ("strconv.ErrSyntax", laid_strconv_ErrSyntax)] }
def DecimalLawsSaid : Prop := decimalLawsRow.holds Tryd.pinned (OpenSpec.ofChange decimalLawsSpec)

/-- ITS FALSE NEIGHBOUR: 'it returns false'. Refute it at one input. -/
def decimalLawsWrong : ChangeSpec := { name := "decimalLaws", fn := fun _ => fun
  | [d1, d2, d3] => { results := [.lit (.bool false)], args := [d1, d2, d3] }
  | _ => none }
def DecimalLawsWrongFalsely : Prop := decimalLawsRow.holds Tryd.pinned (OpenSpec.ofChange decimalLawsWrong)

/- THE SECOND FORM. 'bulk': how many values and letters a reading holds, each counted each time it is reached (what is shared counts as often as it is met; a slice's spare places count too). A statement '..UptoSaid' is the law's where the arguments, and the package variables that the reading takes, are together of bulk at most 1048576: NARROWER than '..Said'. Prove '..Said' where nothing that the law and all that it calls make is longer than what came in: it says more and counts as full. Else prove '..UptoSaid'. A law counts once. -/
mutual
def uptoBulk {H : Type} : DataW H → Nat
  | .lit (.string bytes) => bytes.length + 1
  | .lit _ => 1
  | .nil => 1
  | .ptr d => uptoBulk d + 1
  | .slice elems spare => uptoBulkAll elems + uptoBulkAll spare + 1
  | .agg parts => uptoBulkAll parts + 1
  | .iface _ d => uptoBulk d + 1
  | .map entries => uptoBulkEntries entries + 1
  | .held _ => 1
def uptoBulkAll {H : Type} : List (DataW H) → Nat
  | [] => 0
  | d :: r => uptoBulk d + uptoBulkAll r
def uptoBulkEntries {H : Type} : List (Lit × DataW H) → Nat
  | [] => 0
  | x :: r => uptoBulkEntry x + uptoBulkEntries r
def uptoBulkEntry {H : Type} : Lit × DataW H → Nat
  | (.string bytes, d) => bytes.length + uptoBulk d + 1
  | (_, d) => uptoBulk d + 1
 end
def uptoSmall : (H : Type) → List (DataW H) → Bool := fun _ ds => decide (uptoBulkAll ds ≤ 1048576)
def OpenSpec.upto (s : _root_.Go.ChangeSpec) : _root_.Go.OpenSpec := { _root_.Go.OpenSpec.ofChange s with cond := some uptoSmall }

/-- 'schismalaw01.DecimalSmall', WHERE WHAT IT READS IS OF BULK AT MOST 1048576: true; the input reads as it did. -/
def decimalSmallUptoRow : OpenClaim := { program := "ytojgfpoinbblhaadoor", sum := "44dea3f1f45825b369761ba3c8d810fc84643f429fbdb748c793798a366b9a3d", func := "schisma/schismalaw01.DecimalSmall", spec := "decimalSmall", named := ["strconv.ErrSyntax", "strconv.ErrRange", "internal/strconv.uint64pow10", "math/bits.deBruijn32tab", "math/bits.deBruijn64tab"], apart := false, laid := [("math/bits.deBruijn32tab", laid_math_bits_deBruijn32tab), ("math/bits.deBruijn64tab", laid_math_bits_deBruijn64tab), ("internal/strconv.uint64pow10", laid_internal_strconv_uint64pow10), ("strconv.ErrRange", laid_strconv_ErrRange), ("strconv.ErrSyntax", laid_strconv_ErrSyntax)], narrowed := true }
def DecimalSmallUptoSaid : Prop := decimalSmallUptoRow.holds Tryd.pinned (OpenSpec.upto decimalSmallSpec)

/-- 'schismalaw01.DecimalDivides', WHERE WHAT IT READS IS OF BULK AT MOST 1048576: true; the input reads as it did. -/
def decimalDividesUptoRow : OpenClaim := { program := "ytojgfpoinbblhaadoor", sum := "44dea3f1f45825b369761ba3c8d810fc84643f429fbdb748c793798a366b9a3d", func := "schisma/schismalaw01.DecimalDivides", spec := "decimalDivides", named := ["strconv.ErrSyntax", "strconv.ErrRange", "internal/strconv.uint64pow10", "math/bits.deBruijn32tab", "math/bits.deBruijn64tab"], apart := false, laid := [("math/bits.deBruijn32tab", laid_math_bits_deBruijn32tab), ("math/bits.deBruijn64tab", laid_math_bits_deBruijn64tab), ("internal/strconv.uint64pow10", laid_internal_strconv_uint64pow10), ("strconv.ErrRange", laid_strconv_ErrRange), ("strconv.ErrSyntax", laid_strconv_ErrSyntax)], narrowed := true }
def DecimalDividesUptoSaid : Prop := decimalDividesUptoRow.holds Tryd.pinned (OpenSpec.upto decimalDividesSpec)

/-- 'schismalaw01.DecimalPowers', WHERE WHAT IT READS IS OF BULK AT MOST 1048576: true; the input reads as it did. -/
def decimalPowersUptoRow : OpenClaim := { program := "ytojgfpoinbblhaadoor", sum := "44dea3f1f45825b369761ba3c8d810fc84643f429fbdb748c793798a366b9a3d", func := "schisma/schismalaw01.DecimalPowers", spec := "decimalPowers", named := ["strconv.ErrSyntax", "strconv.ErrRange", "internal/strconv.uint64pow10", "math/bits.deBruijn32tab", "math/bits.deBruijn64tab"], apart := false, laid := [("math/bits.deBruijn32tab", laid_math_bits_deBruijn32tab), ("math/bits.deBruijn64tab", laid_math_bits_deBruijn64tab), ("internal/strconv.uint64pow10", laid_internal_strconv_uint64pow10), ("strconv.ErrRange", laid_strconv_ErrRange), ("strconv.ErrSyntax", laid_strconv_ErrSyntax)], narrowed := true }
def DecimalPowersUptoSaid : Prop := decimalPowersUptoRow.holds Tryd.pinned (OpenSpec.upto decimalPowersSpec)

/-- 'schismalaw01.DecimalForms', WHERE WHAT IT READS IS OF BULK AT MOST 1048576: true; the input reads as it did. -/
def decimalFormsUptoRow : OpenClaim := { program := "ytojgfpoinbblhaadoor", sum := "44dea3f1f45825b369761ba3c8d810fc84643f429fbdb748c793798a366b9a3d", func := "schisma/schismalaw01.DecimalForms", spec := "decimalForms", named := ["strconv.ErrSyntax", "strconv.ErrRange", "internal/strconv.uint64pow10", "math/bits.deBruijn32tab", "math/bits.deBruijn64tab"], apart := false, laid := [("math/bits.deBruijn32tab", laid_math_bits_deBruijn32tab), ("math/bits.deBruijn64tab", laid_math_bits_deBruijn64tab), ("internal/strconv.uint64pow10", laid_internal_strconv_uint64pow10), ("strconv.ErrRange", laid_strconv_ErrRange), ("strconv.ErrSyntax", laid_strconv_ErrSyntax)], narrowed := true }
def DecimalFormsUptoSaid : Prop := decimalFormsUptoRow.holds Tryd.pinned (OpenSpec.upto decimalFormsSpec)

/-- 'schismalaw01.DecimalLimits', WHERE WHAT IT READS IS OF BULK AT MOST 1048576: true; the input reads as it did. -/
def decimalLimitsUptoRow : OpenClaim := { program := "ytojgfpoinbblhaadoor", sum := "44dea3f1f45825b369761ba3c8d810fc84643f429fbdb748c793798a366b9a3d", func := "schisma/schismalaw01.DecimalLimits", spec := "decimalLimits", named := ["strconv.ErrSyntax", "strconv.ErrRange", "internal/strconv.uint64pow10", "math/bits.deBruijn32tab", "math/bits.deBruijn64tab"], apart := false, laid := [("math/bits.deBruijn32tab", laid_math_bits_deBruijn32tab), ("math/bits.deBruijn64tab", laid_math_bits_deBruijn64tab), ("internal/strconv.uint64pow10", laid_internal_strconv_uint64pow10), ("strconv.ErrRange", laid_strconv_ErrRange), ("strconv.ErrSyntax", laid_strconv_ErrSyntax)], narrowed := true }
def DecimalLimitsUptoSaid : Prop := decimalLimitsUptoRow.holds Tryd.pinned (OpenSpec.upto decimalLimitsSpec)

/-- 'schismalaw01.DecimalCompares', WHERE WHAT IT READS IS OF BULK AT MOST 1048576: true; the input reads as it did. -/
def decimalComparesUptoRow : OpenClaim := { program := "ytojgfpoinbblhaadoor", sum := "44dea3f1f45825b369761ba3c8d810fc84643f429fbdb748c793798a366b9a3d", func := "schisma/schismalaw01.DecimalCompares", spec := "decimalCompares", named := ["strconv.ErrSyntax", "strconv.ErrRange", "internal/strconv.uint64pow10", "math/bits.deBruijn32tab", "math/bits.deBruijn64tab"], apart := false, laid := [("math/bits.deBruijn32tab", laid_math_bits_deBruijn32tab), ("math/bits.deBruijn64tab", laid_math_bits_deBruijn64tab), ("internal/strconv.uint64pow10", laid_internal_strconv_uint64pow10), ("strconv.ErrRange", laid_strconv_ErrRange), ("strconv.ErrSyntax", laid_strconv_ErrSyntax)], narrowed := true }
def DecimalComparesUptoSaid : Prop := decimalComparesUptoRow.holds Tryd.pinned (OpenSpec.upto decimalComparesSpec)

/-- 'schismalaw01.DecimalCommon', WHERE WHAT IT READS IS OF BULK AT MOST 1048576: true; the input reads as it did. -/
def decimalCommonUptoRow : OpenClaim := { program := "ytojgfpoinbblhaadoor", sum := "44dea3f1f45825b369761ba3c8d810fc84643f429fbdb748c793798a366b9a3d", func := "schisma/schismalaw01.DecimalCommon", spec := "decimalCommon", named := ["strconv.ErrSyntax", "strconv.ErrRange", "internal/strconv.uint64pow10", "math/bits.deBruijn32tab", "math/bits.deBruijn64tab"], apart := false, laid := [("math/bits.deBruijn32tab", laid_math_bits_deBruijn32tab), ("math/bits.deBruijn64tab", laid_math_bits_deBruijn64tab), ("internal/strconv.uint64pow10", laid_internal_strconv_uint64pow10), ("strconv.ErrRange", laid_strconv_ErrRange), ("strconv.ErrSyntax", laid_strconv_ErrSyntax)], narrowed := true }
def DecimalCommonUptoSaid : Prop := decimalCommonUptoRow.holds Tryd.pinned (OpenSpec.upto decimalCommonSpec)

/-- 'schismalaw01.DecimalExponents', WHERE WHAT IT READS IS OF BULK AT MOST 1048576: true; the input reads as it did. -/
def decimalExponentsUptoRow : OpenClaim := { program := "ytojgfpoinbblhaadoor", sum := "44dea3f1f45825b369761ba3c8d810fc84643f429fbdb748c793798a366b9a3d", func := "schisma/schismalaw01.DecimalExponents", spec := "decimalExponents", named := ["strconv.ErrSyntax", "strconv.ErrRange", "internal/strconv.uint64pow10", "math/bits.deBruijn32tab", "math/bits.deBruijn64tab"], apart := false, laid := [("math/bits.deBruijn32tab", laid_math_bits_deBruijn32tab), ("math/bits.deBruijn64tab", laid_math_bits_deBruijn64tab), ("internal/strconv.uint64pow10", laid_internal_strconv_uint64pow10), ("strconv.ErrRange", laid_strconv_ErrRange), ("strconv.ErrSyntax", laid_strconv_ErrSyntax)], narrowed := true }
def DecimalExponentsUptoSaid : Prop := decimalExponentsUptoRow.holds Tryd.pinned (OpenSpec.upto decimalExponentsSpec)

/-- 'schismalaw01.DecimalAdds', WHERE WHAT IT READS IS OF BULK AT MOST 1048576: true; the input reads as it did. -/
def decimalAddsUptoRow : OpenClaim := { program := "ytojgfpoinbblhaadoor", sum := "44dea3f1f45825b369761ba3c8d810fc84643f429fbdb748c793798a366b9a3d", func := "schisma/schismalaw01.DecimalAdds", spec := "decimalAdds", named := ["strconv.ErrSyntax", "strconv.ErrRange", "internal/strconv.uint64pow10", "math/bits.deBruijn32tab", "math/bits.deBruijn64tab"], apart := false, laid := [("math/bits.deBruijn32tab", laid_math_bits_deBruijn32tab), ("math/bits.deBruijn64tab", laid_math_bits_deBruijn64tab), ("internal/strconv.uint64pow10", laid_internal_strconv_uint64pow10), ("strconv.ErrRange", laid_strconv_ErrRange), ("strconv.ErrSyntax", laid_strconv_ErrSyntax)], narrowed := true }
def DecimalAddsUptoSaid : Prop := decimalAddsUptoRow.holds Tryd.pinned (OpenSpec.upto decimalAddsSpec)

/-- 'schismalaw01.DecimalLaws', WHERE WHAT IT READS IS OF BULK AT MOST 1048576: true; the input reads as it did. -/
def decimalLawsUptoRow : OpenClaim := { program := "ytojgfpoinbblhaadoor", sum := "44dea3f1f45825b369761ba3c8d810fc84643f429fbdb748c793798a366b9a3d", func := "schisma/schismalaw01.DecimalLaws", spec := "decimalLaws", named := ["strconv.ErrSyntax", "strconv.ErrRange", "internal/strconv.uint64pow10", "math/bits.deBruijn32tab", "math/bits.deBruijn64tab"], apart := false, laid := [("math/bits.deBruijn32tab", laid_math_bits_deBruijn32tab), ("math/bits.deBruijn64tab", laid_math_bits_deBruijn64tab), ("internal/strconv.uint64pow10", laid_internal_strconv_uint64pow10), ("strconv.ErrRange", laid_strconv_ErrRange), ("strconv.ErrSyntax", laid_strconv_ErrSyntax)], narrowed := true }
def DecimalLawsUptoSaid : Prop := decimalLawsUptoRow.holds Tryd.pinned (OpenSpec.upto decimalLawsSpec)

end Rows
end Go.Proofs.YtojgfpoinbblhaaDoor
