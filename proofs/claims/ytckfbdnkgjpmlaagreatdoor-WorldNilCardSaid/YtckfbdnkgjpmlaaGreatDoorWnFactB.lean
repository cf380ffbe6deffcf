/- 'WorldNil': closed facts of the row, part B. -/
import Derived.Test.YtckfbdnkgjpmlaaGreatDoorRows
import Derived.JoinedOf
import Derived.SevenTiedAt
namespace Go.Proofs.YtckfbdnkgjpmlaaGreatDoor

theorem jf12 : (Rows.worldNilRow.recurses == Tryz.prog.recurses 3) = true := by kernel_rfl
theorem jf13 : (Rows.worldNilRow.named == Tryz.prog.varsNamed 3) = true := by kernel_rfl
theorem jf25 : Tryz.prog.stopsHeard = true := by kernel_rfl
theorem jf26 : Tryz.prog.mayEnter = true := by kernel_rfl
theorem jf27 : (Rows.worldNilRow.lifted == Tryz.prog.liftsFinal) = true := by kernel_rfl
end Go.Proofs.YtckfbdnkgjpmlaaGreatDoor
