/- 'ShardDown' of the nodes: the summaries and the runs. -/
import Derived.Test.YtidnbdaegpegiaaGreatDoorProg
import Derived.Test.YtidnbdaegpegiaaGreatDoorE44
namespace Go.Proofs.YtidnbdaegpegiaaGreatDoor
open Go.RowKit Ab

noncomputable def sdGs : List (Nat × AObj) := [(0, .ro 0 [.int .i64 (.c 1500), .int .i64 (.c 700), .int .i64 (.c 6)])]
noncomputable def sdCx0 : Ctx := mkCtxG Tryz.prog .nil 100 1
noncomputable def sdHk : Tr (List AV → St → T (AV × St)) := Tr.set .nil 4 (globHook sdGs)
noncomputable def sdCx : Ctx := mkCtxG Tryz.prog sdHk 100 1
noncomputable def sdRun : Ab.Sum := summ (keepT sdGs (callNF sdCx 1000000 3 [.int .i64 (.v 0), .int .i64 (.v 1), .agg [.int .i64 (.v 2), .int .i64 (.v 3), .int .i64 (.v 4), .str (.v 0), .str (.v 1)], .opq 2] (St.glob sdGs 1 [])))
/-- What cannot be: a number below another one that is 64 at the most, and not below 64. -/
abbrev sdNone : List (Atom × Bool) := [(.lt (.v 0) (.c 64), false), (.lt (.v 0) (.v 1), true), (.lt (.c 64) (.v 1), false)]
set_option maxRecDepth 100000 in
theorem sdHead : (summ (keepT sdGs (callNF sdCx0 1000000 4 [] (St.glob sdGs 1 [])))).allYes = true := by kernel_rfl
set_option maxRecDepth 100000 in
theorem sdRun_all : sdRun.allUnless sdNone [] = true := by kernel_rfl
end Go.Proofs.YtidnbdaegpegiaaGreatDoor
