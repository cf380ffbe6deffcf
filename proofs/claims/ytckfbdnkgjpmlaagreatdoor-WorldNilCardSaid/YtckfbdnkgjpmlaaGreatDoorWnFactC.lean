/- 'WorldNil': closed facts of the card. -/
import Derived.Test.YtckfbdnkgjpmlaaGreatDoorRows
import Derived.JoinedOf
import Derived.SevenTiedAt
namespace Go.Proofs.YtckfbdnkgjpmlaaGreatDoor

theorem cdMain : Tryz.prog.mainIs = some (true, ("08d4ba8597b9636e8bc9ef96610bf97b2725c11e68c7e432244e4dedebf65af4" : String).toList) := by kernel_rfl
theorem cdLooks : true = Tryz.prog.looks [] := by kernel_rfl
theorem cdGoes : false = Rows.worldNilRow.goesBy Tryz.prog := by kernel_rfl
theorem cdStand : ([3, 26].all fun u => !Tryz.prog.wantsStandIn u) = true := by kernel_rfl
end Go.Proofs.YtckfbdnkgjpmlaaGreatDoor
