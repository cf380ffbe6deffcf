/- 'CoordAcks' of the coordinator: kernel runs. -/
import Derived.Test.YtnjlogdhmhoajaaGreatDoorCaForm
namespace Go.Proofs.YtnjlogdhmhoajaaGreatDoor
open Go.RowKit Ab
theorem caRunB0_2 : (caRunB 0 (caN 2)).allYes = true := by kernel_rfl
theorem caRunB0_3 : (caRunB 0 (caN 3)).allYes = true := by kernel_rfl
theorem caRunB1_2 : (caRunB 1 (caN 2)).allYes = true := by kernel_rfl
theorem caRunB1_3 : (caRunB 1 (caN 3)).allYes = true := by kernel_rfl
theorem caRunB2_2 : (caRunB 2 (caN 2)).allYes = true := by kernel_rfl
theorem caRunB2_3 : (caRunB 2 (caN 3)).allYes = true := by kernel_rfl
end Go.Proofs.YtnjlogdhmhoajaaGreatDoor
