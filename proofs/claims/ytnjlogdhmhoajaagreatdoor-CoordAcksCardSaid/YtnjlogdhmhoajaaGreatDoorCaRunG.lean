/- 'CoordAcks' of the coordinator: kernel runs. -/
import Derived.Test.YtnjlogdhmhoajaaGreatDoorCaForm
namespace Go.Proofs.YtnjlogdhmhoajaaGreatDoor
open Go.RowKit Ab
theorem caOk3x2 : caChk3 caS3x2 = true := by kernel_rfl
theorem caOk3x3 : caChk3 caS3x3 = true := by kernel_rfl
theorem caOk3x4 : caChk3 caS3x4 = true := by kernel_rfl
theorem caOk3x5 : caChk3 caS3x5 = true := by kernel_rfl
theorem caOk3x6 : caChk3 caS3x6 = true := by kernel_rfl
theorem caOk3x7 : caChk3 caS3x7 = true := by kernel_rfl
theorem caOk3x8 : caChk3 caS3x8 = true := by kernel_rfl
theorem caOk3x9 : caChk3 caS3x9 = true := by kernel_rfl
theorem caOk3x10 : caChk3 caS3x10 = true := by kernel_rfl
end Go.Proofs.YtnjlogdhmhoajaaGreatDoor
