/- Greater text, out of: V9. -/
import Derived.Test.YtejelchcpbchgaaGreatDoorV9a
import Derived.Test.YtejelchcpbchgaaGreatDoorV9b
import Derived.IntWalk
namespace Go.Proofs.YtejelchcpbchgaaGreatDoor
open Go.RowKit Go.PlainAid
attribute [local go_sem] field_rat0 field_rat1

theorem lawField_walk (a0 b0 a1 b1 a2 b2 : Int) (w : World) (hamb : Amb w) (ha0 : -32768 ≤ a0 ∧ a0 ≤ 32767) (hb0 : 0 ≤ b0 ∧ b0 ≤ 255) (ha1 : -32768 ≤ a1 ∧ a1 ≤ 32767) (hb1 : 0 ≤ b1 ∧ b1 ≤ 255) (ha2 : -32768 ≤ a2 ∧ a2 ≤ 32767) (hb2 : 0 ≤ b2 ∧ b2 ≤ 255) :
    Calls Tryz.prog 5 #[.agg #[.int .i16 a0, .int .u8 b0], .agg #[.int .i16 a1, .int .u8 b1], .agg #[.int .i16 a2, .int .u8 b2]] w (SmallRes (.bool true) w) := by
  by_cases h0 : (mkQ a1 b1).num = 0
  · exact lawField_1 a0 b0 a1 b1 a2 b2 (mkQ a0 b0) (mkQ a1 b1) (mkQ a2 b2) w hamb (nq_mk ha0 hb0) (nq_mk ha1 hb1) (nq_mk ha2 hb2) (Lib.hid fun w h => tmk_any a0 b0 w h ha0 hb0) (Lib.hid fun w h => tmk_any a1 b1 w h ha1 hb1) (Lib.hid fun w h => tmk_any a2 b2 w h ha2 hb2) h0
  · exact lawField_0 a0 b0 a1 b1 a2 b2 (mkQ a0 b0) (mkQ a1 b1) (mkQ a2 b2) w hamb (nq_mk ha0 hb0) (nq_mk ha1 hb1) (nq_mk ha2 hb2) (Lib.hid fun w h => tmk_any a0 b0 w h ha0 hb0) (Lib.hid fun w h => tmk_any a1 b1 w h ha1 hb1) (Lib.hid fun w h => tmk_any a2 b2 w h ha2 hb2) h0
end Go.Proofs.YtejelchcpbchgaaGreatDoor
