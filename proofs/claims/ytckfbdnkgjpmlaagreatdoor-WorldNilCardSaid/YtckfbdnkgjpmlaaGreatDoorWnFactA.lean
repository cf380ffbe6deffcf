/- 'WorldNil': closed facts of the row, part A. -/
import Derived.Test.YtckfbdnkgjpmlaaGreatDoorRows
import Derived.JoinedOf
import Derived.SevenTiedAt
namespace Go.Proofs.YtckfbdnkgjpmlaaGreatDoor

theorem and_mk {a b : Bool} (ha : a = true) (hb : b = true) : (a && b) = true := by rw [ha, hb]; rfl
theorem jf2 : laidOutB Tryz.prog = true := by kernel_rfl
theorem jf3 : mapsRowed Tryz.prog = true := by kernel_rfl
theorem jf10 : (Rows.worldNilRow.inPlace == Tryz.prog.inPlace 3) = true := by kernel_rfl
theorem jf11 : (Rows.worldNilRow.unfollowed == Tryz.prog.unfollowed 3) = true := by kernel_rfl
end Go.Proofs.YtckfbdnkgjpmlaaGreatDoor
