/- Greater text, out of: V41. -/
import Derived.Test.YtpafocfpofnkpaaGreatDoorV40
import Derived.Test.YtpafocfpofnkpaaGreatDoorK44
import Derived.Test.YtpafocfpofnkpaaGreatDoorK45
namespace Go.Proofs.YtpafocfpofnkpaaGreatDoor
open Go.RowKit Go.PlainAid
attribute [local go_sem] field_rat0 field_rat1
end Go.Proofs.YtpafocfpofnkpaaGreatDoor
