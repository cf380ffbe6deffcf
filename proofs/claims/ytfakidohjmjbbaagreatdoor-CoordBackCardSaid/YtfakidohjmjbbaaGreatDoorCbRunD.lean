/- 'CoordBack' of the coordinator: kernel runs. -/
import Derived.Test.YtfakidohjmjbbaaGreatDoorCbDefs
namespace Go.Proofs.YtfakidohjmjbbaaGreatDoor
open Go.RowKit Ab
theorem cbRunU30 : (cbRun (cbU 3 0)).allYes = true := by kernel_rfl
theorem cbRunU31 : (cbRun (cbU 3 1)).allYes = true := by kernel_rfl
theorem cbRunU32 : (cbRun (cbU 3 2)).allYes = true := by kernel_rfl
theorem cbRunU33 : (cbRun (cbU 3 3)).allYes = true := by kernel_rfl
end Go.Proofs.YtfakidohjmjbbaaGreatDoor
