/- 'CoordAcks' of the coordinator: kernel runs. -/
import Derived.Test.YtnjlogdhmhoajaaGreatDoorCaForm
namespace Go.Proofs.YtnjlogdhmhoajaaGreatDoor
open Go.RowKit Ab
theorem caHead : (summ (keepT caGs (callNF caCx0 1000000 4 [] (St.glob caGs 1 [])))).allYes = true := by kernel_rfl
theorem caRun0_0 : (caRun0 ((.lt (.c 0) (.len 2), false) :: caN 0)).allYes = true := by kernel_rfl
theorem caRun0_1 : (caRun0 ((.lt (.c 0) (.len 2), false) :: caN 1)).allYes = true := by kernel_rfl
theorem caRun0_2 : (caRun0 ((.lt (.c 0) (.len 2), false) :: caN 2)).allYes = true := by kernel_rfl
theorem caRun0_3 : (caRun0 ((.lt (.c 0) (.len 2), false) :: caN 3)).allYes = true := by kernel_rfl
theorem caLaw0 : caLaw caQ0 0 = true := by kernel_rfl
theorem caLaw1 : caLaw caQ1 1 = true := by kernel_rfl
theorem caLaw2 : caLaw caQ2 2 = true := by kernel_rfl
theorem caLaw3 : caLaw caQ3 3 = true := by kernel_rfl
end Go.Proofs.YtnjlogdhmhoajaaGreatDoor
