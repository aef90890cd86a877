/- Greater text, out of: K42. -/
import Derived.Test.YtpafocfpofnkpaaGreatDoorK38
import Derived.OrdersHeld
namespace Go.Proofs.YtpafocfpofnkpaaGreatDoor
open Go.RowKit Go.PlainAid
attribute [local go_sem] field_rat0 field_rat1
theorem RB_q (x : Rat) (h : NQ x 400) : RB (itx x.num) (itx (x.den : Int)) = true := by
  have e1 := (itx_inj (canonR_itx (canonR_itoa x.num h.1)).1).symm
  have e2 := (itx_inj (canonR_itx (canonR_itoa (x.den : Int) h.2)).1).symm
  unfold RB rightB
  rw [canonR_itoa _ h.1, canonR_itoa _ h.2, e1, e2, decide_eq_true (rden_pos x), decide_eq_true (rat_gcd x)]
  rfl

end Go.Proofs.YtpafocfpofnkpaaGreatDoor
