/- 'CoordAcks' of the coordinator: kernel runs. -/
import Derived.Test.YtnjlogdhmhoajaaGreatDoorCaForm
namespace Go.Proofs.YtnjlogdhmhoajaaGreatDoor
open Go.RowKit Ab
theorem caOk1x6 : caChk1 caS1x6 = true := by kernel_rfl
theorem caOk2x0 : caChk2 caS2x0 = true := by kernel_rfl
theorem caOk2x1 : caChk2 caS2x1 = true := by kernel_rfl
theorem caOk2x2 : caChk2 caS2x2 = true := by kernel_rfl
theorem caOk2x3 : caChk2 caS2x3 = true := by kernel_rfl
theorem caOk2x4 : caChk2 caS2x4 = true := by kernel_rfl
theorem caOk2x5 : caChk2 caS2x5 = true := by kernel_rfl
theorem caOk2x6 : caChk2 caS2x6 = true := by kernel_rfl
theorem caOk2x7 : caChk2 caS2x7 = true := by kernel_rfl
end Go.Proofs.YtnjlogdhmhoajaaGreatDoor
