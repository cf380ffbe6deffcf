/- 'CoordAcks' of the coordinator: kernel runs. -/
import Derived.Test.YtnjlogdhmhoajaaGreatDoorCaForm
namespace Go.Proofs.YtnjlogdhmhoajaaGreatDoor
open Go.RowKit Ab
theorem caOk2x8 : caChk2 caS2x8 = true := by kernel_rfl
theorem caOk2x9 : caChk2 caS2x9 = true := by kernel_rfl
theorem caOk2x10 : caChk2 caS2x10 = true := by kernel_rfl
theorem caOk2x11 : caChk2 caS2x11 = true := by kernel_rfl
theorem caOk2x12 : caChk2 caS2x12 = true := by kernel_rfl
theorem caOk2x13 : caChk2 caS2x13 = true := by kernel_rfl
theorem caOk2x14 : caChk2 caS2x14 = true := by kernel_rfl
theorem caOk3x0 : caChk3 caS3x0 = true := by kernel_rfl
theorem caOk3x1 : caChk3 caS3x1 = true := by kernel_rfl
end Go.Proofs.YtnjlogdhmhoajaaGreatDoor
