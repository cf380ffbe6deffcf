/- 'CoordAcks' of the coordinator: kernel runs. -/
import Derived.Test.YtnjlogdhmhoajaaGreatDoorCaForm
namespace Go.Proofs.YtnjlogdhmhoajaaGreatDoor
open Go.RowKit Ab
theorem caOk3x11 : caChk3 caS3x11 = true := by kernel_rfl
theorem caOk3x12 : caChk3 caS3x12 = true := by kernel_rfl
theorem caOk3x13 : caChk3 caS3x13 = true := by kernel_rfl
theorem caOk3x14 : caChk3 caS3x14 = true := by kernel_rfl
theorem caOk3x15 : caChk3 caS3x15 = true := by kernel_rfl
theorem caOk3x16 : caChk3 caS3x16 = true := by kernel_rfl
theorem caOk3x17 : caChk3 caS3x17 = true := by kernel_rfl
theorem caOk3x18 : caChk3 caS3x18 = true := by kernel_rfl
theorem caOk3x19 : caChk3 caS3x19 = true := by kernel_rfl
end Go.Proofs.YtnjlogdhmhoajaaGreatDoor
