/- 'CoordAcks' of the coordinator: kernel runs. -/
import Derived.Test.YtnjlogdhmhoajaaGreatDoorCaForm
namespace Go.Proofs.YtnjlogdhmhoajaaGreatDoor
open Go.RowKit Ab
theorem caOk3x20 : caChk3 caS3x20 = true := by kernel_rfl
theorem caOk3x21 : caChk3 caS3x21 = true := by kernel_rfl
theorem caOk3x22 : caChk3 caS3x22 = true := by kernel_rfl
theorem caOk3x23 : caChk3 caS3x23 = true := by kernel_rfl
theorem caOk3x24 : caChk3 caS3x24 = true := by kernel_rfl
theorem caOk3x25 : caChk3 caS3x25 = true := by kernel_rfl
theorem caOk3x26 : caChk3 caS3x26 = true := by kernel_rfl
theorem caOk3x27 : caChk3 caS3x27 = true := by kernel_rfl
theorem caOk3x28 : caChk3 caS3x28 = true := by kernel_rfl
end Go.Proofs.YtnjlogdhmhoajaaGreatDoor
