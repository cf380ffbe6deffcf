/- 'ShardDown': closed facts of the card. -/
import Derived.Test.YtidnbdaegpegiaaGreatDoorRows
import Derived.JoinedOf
import Derived.SevenTiedAt
namespace Go.Proofs.YtidnbdaegpegiaaGreatDoor

theorem cdMain : Tryz.prog.mainIs = some (true, ("58686c88eae94af05633f904cc7014431bb1889567dc00746803020602b89fc4" : String).toList) := by kernel_rfl
theorem cdLooks : true = Tryz.prog.looks [] := by kernel_rfl
theorem cdGoes : false = Rows.shardDownRow.goesBy Tryz.prog := by kernel_rfl
theorem cdStand : ([3, 3, 23, 24].all fun u => !Tryz.prog.wantsStandIn u) = true := by kernel_rfl
end Go.Proofs.YtidnbdaegpegiaaGreatDoor
