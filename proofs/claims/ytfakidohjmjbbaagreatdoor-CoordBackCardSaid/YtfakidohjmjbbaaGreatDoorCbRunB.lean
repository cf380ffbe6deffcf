/- 'CoordBack' of the coordinator: kernel runs. -/
import Derived.Test.YtfakidohjmjbbaaGreatDoorCbDefs
namespace Go.Proofs.YtfakidohjmjbbaaGreatDoor
open Go.RowKit Ab
theorem cbRunU20 : (cbRun (cbU 2 0)).allYes = true := by kernel_rfl
theorem cbRunU21 : (cbRun (cbU 2 1)).allYes = true := by kernel_rfl
theorem cbRunU22 : (cbRun (cbU 2 2)).allYes = true := by kernel_rfl
theorem cbRunC2 : (cbRun cbC2).allYes = true := by kernel_rfl
end Go.Proofs.YtfakidohjmjbbaaGreatDoor
