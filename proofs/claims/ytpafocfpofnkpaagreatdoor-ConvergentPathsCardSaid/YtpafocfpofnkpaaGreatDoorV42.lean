/- Greater text, out of: V42. -/
import Derived.Test.YtpafocfpofnkpaaGreatDoorV41
import Derived.Test.YtpafocfpofnkpaaGreatDoorK46
import Derived.Test.YtpafocfpofnkpaaGreatDoorK48
import Derived.Test.YtpafocfpofnkpaaGreatDoorK49
import Derived.Deep.DrawnRows
namespace Go.Proofs.YtpafocfpofnkpaaGreatDoor
open Go.RowKit Go.PlainAid
attribute [local go_sem] field_rat0 field_rat1
/-- The last convergent is the number. -/
theorem convs_last (q : Rat) (m : Nat) (hm : (tms q.num (q.den : Int)).length = m + 1) : ((cvs beg (tms q.num (q.den : Int))).map tr).getD m 0 = q := by
  have h := cvs_beg (tms q.num (q.den : Int)) m (by omega)
  rw [List.take_of_length_le (by omega)] at h
  obtain ⟨e1, e2⟩ := cv_right (rden_pos q) (rat_gcd q)
  rw [List.getD_eq_getElem?_getD, List.getElem?_map, h]
  show Rat.divInt (cv (tms q.num (q.den : Int))).1 (cv (tms q.num (q.den : Int))).2 = q
  rw [e1, e2, Rat.num_divInt_den]
end Go.Proofs.YtpafocfpofnkpaaGreatDoor
