/- 'ShardDown': closed facts of the row, part B. -/
import Derived.Test.YtidnbdaegpegiaaGreatDoorRows
import Derived.JoinedOf
import Derived.SevenTiedAt
namespace Go.Proofs.YtidnbdaegpegiaaGreatDoor

theorem jf12 : (Rows.shardDownRow.recurses == Tryz.prog.recurses 3) = true := by kernel_rfl
theorem jf13 : (Rows.shardDownRow.named == Tryz.prog.varsNamed 3) = true := by kernel_rfl
theorem jf25 : Tryz.prog.stopsHeard = true := by kernel_rfl
theorem jf26 : Tryz.prog.mayEnter = true := by kernel_rfl
theorem jf27 : (Rows.shardDownRow.lifted == Tryz.prog.liftsFinal) = true := by kernel_rfl
end Go.Proofs.YtidnbdaegpegiaaGreatDoor
