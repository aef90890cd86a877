/- Greater text, out of: T21. -/
import Derived.Test.YtdpcmhdmdompnaaGreatDoorGi
import Derived.Test.YtdpcmhdmdompnaaGreatDoorGm
namespace Go.Proofs.YtdpcmhdmdompnaaGreatDoor
open Go.RowKit Go.PlainAid
attribute [local go_sem] field_whole0 field_whole1
end Go.Proofs.YtdpcmhdmdompnaaGreatDoor
