/- 'CoordBack' of the coordinator: kernel runs. -/
import Derived.Test.YtfakidohjmjbbaaGreatDoorCbDefs
namespace Go.Proofs.YtfakidohjmjbbaaGreatDoor
open Go.RowKit Ab
theorem cbRunC3 : (cbRun cbC3).allYes = true := by kernel_rfl
end Go.Proofs.YtfakidohjmjbbaaGreatDoor
