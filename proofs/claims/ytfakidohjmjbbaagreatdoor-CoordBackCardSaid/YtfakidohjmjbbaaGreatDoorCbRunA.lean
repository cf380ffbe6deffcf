/- 'CoordBack' of the coordinator: kernel runs. -/
import Derived.Test.YtfakidohjmjbbaaGreatDoorCbDefs
namespace Go.Proofs.YtfakidohjmjbbaaGreatDoor
open Go.RowKit Ab
theorem cbHead : (summ (keepT cbGs (callNF cbCx0 1000000 4 [] (St.glob cbGs 1 [])))).allYes = true := by kernel_rfl
theorem cbRunU00 : (cbRun (cbU 0 0)).allYes = true := by kernel_rfl
theorem cbRunC0 : (cbRun cbC0).allYes = true := by kernel_rfl
theorem cbRunU10 : (cbRun (cbU 1 0)).allYes = true := by kernel_rfl
theorem cbRunU11 : (cbRun (cbU 1 1)).allYes = true := by kernel_rfl
theorem cbRunC1 : (cbRun cbC1).allYes = true := by kernel_rfl
end Go.Proofs.YtfakidohjmjbbaaGreatDoor
