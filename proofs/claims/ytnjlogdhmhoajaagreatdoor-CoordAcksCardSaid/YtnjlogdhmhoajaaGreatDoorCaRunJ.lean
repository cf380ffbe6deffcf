/- 'CoordAcks' of the coordinator: kernel runs. -/
import Derived.Test.YtnjlogdhmhoajaaGreatDoorCaForm
namespace Go.Proofs.YtnjlogdhmhoajaaGreatDoor
open Go.RowKit Ab
theorem caOk3x29 : caChk3 caS3x29 = true := by kernel_rfl
end Go.Proofs.YtnjlogdhmhoajaaGreatDoor
