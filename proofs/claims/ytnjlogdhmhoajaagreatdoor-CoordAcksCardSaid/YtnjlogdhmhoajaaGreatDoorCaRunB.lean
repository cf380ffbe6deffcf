/- 'CoordAcks' of the coordinator: kernel runs. -/
import Derived.Test.YtnjlogdhmhoajaaGreatDoorCaForm
namespace Go.Proofs.YtnjlogdhmhoajaaGreatDoor
open Go.RowKit Ab
theorem caRunB0_0 : (caRunB 0 (caN 0)).allYes = true := by kernel_rfl
theorem caRunB0_1 : (caRunB 0 (caN 1)).allYes = true := by kernel_rfl
theorem caRunB1_0 : (caRunB 1 (caN 0)).allYes = true := by kernel_rfl
theorem caRunB1_1 : (caRunB 1 (caN 1)).allYes = true := by kernel_rfl
theorem caRunB2_0 : (caRunB 2 (caN 0)).allYes = true := by kernel_rfl
theorem caRunB2_1 : (caRunB 2 (caN 1)).allYes = true := by kernel_rfl
end Go.Proofs.YtnjlogdhmhoajaaGreatDoor
