/- Greater text, out of: K48. -/
import Derived.Test.YtpafocfpofnkpaaGreatDoorK47
import Derived.Test.YtpafocfpofnkpaaGreatDoorK9
namespace Go.Proofs.YtpafocfpofnkpaaGreatDoor
open Go.RowKit Go.PlainAid
attribute [local go_sem] field_rat0 field_rat1
end Go.Proofs.YtpafocfpofnkpaaGreatDoor
