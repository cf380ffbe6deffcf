/- 'CoordAcks' of the coordinator: kernel runs. -/
import Derived.Test.YtnjlogdhmhoajaaGreatDoorCaForm
namespace Go.Proofs.YtnjlogdhmhoajaaGreatDoor
open Go.RowKit Ab
theorem caOk0x0 : caChk0 caS0x0 = true := by kernel_rfl
theorem caOk0x1 : caChk0 caS0x1 = true := by kernel_rfl
theorem caOk0x2 : caChk0 caS0x2 = true := by kernel_rfl
theorem caOk1x0 : caChk1 caS1x0 = true := by kernel_rfl
theorem caOk1x1 : caChk1 caS1x1 = true := by kernel_rfl
theorem caOk1x2 : caChk1 caS1x2 = true := by kernel_rfl
theorem caOk1x3 : caChk1 caS1x3 = true := by kernel_rfl
theorem caOk1x4 : caChk1 caS1x4 = true := by kernel_rfl
theorem caOk1x5 : caChk1 caS1x5 = true := by kernel_rfl
end Go.Proofs.YtnjlogdhmhoajaaGreatDoor
