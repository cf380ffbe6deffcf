/- 'CoordBack' of the coordinator: the summaries and the runs, given names. -/
import Derived.Test.YtfakidohjmjbbaaGreatDoorProg
import Derived.Test.YtfakidohjmjbbaaGreatDoorE44
namespace Go.Proofs.YtfakidohjmjbbaaGreatDoor
open Go.RowKit Ab

abbrev cbM0 : Tm := .bin .and .i64 (.v 0) (.c 3)
abbrev cbM1 : Tm := .bin .and .i64 (.v 1) (.c 7)
noncomputable def cbGs : List (Nat × AObj) := [(0, .ro 0 [.int .i64 (.c 600), .int .i64 (.c 60), .int .i64 (.c 4)])]
noncomputable def cbCx0 : Ctx := mkCtxG Tryz.prog .nil 100 1
noncomputable def cbHkA : Tr (List AV → St → T (AV × St)) := Tr.set .nil 74 (sortedOr [123] 3 (callAF cbCx0 1000000) 74)
noncomputable def cbCxA : Ctx := mkCtxG Tryz.prog cbHkA 100 1
noncomputable def cbHk : Tr (List AV → St → T (AV × St)) := Tr.set (Tr.set cbHkA 4 (globHook cbGs)) 27 (ordHook cbCxA (callAF cbCxA 1000000) 1000000 27)
noncomputable def cbCx : Ctx := mkCtxG Tryz.prog cbHk 1 1
noncomputable def cbRun (fx : Facts) : Ab.Sum := summ (keepT cbGs (callNF cbCx 1000000 3 [.int .i64 (.v 0), .int .i64 (.v 1), .opq 2] (St.glob cbGs 1 fx)))
/-- So many nodes, but one, and the one that says nothing. -/
abbrev cbU (k j : Int) : Facts := [(.eq cbM0 (.c k), true), (.eq cbM1 (.c j), true)]
abbrev cbC0 : Facts := [(.eq cbM0 (.c 0), true), (.eq cbM1 (.c 0), false)]
abbrev cbC1 : Facts := [(.eq cbM0 (.c 1), true), (.eq cbM1 (.c 0), false), (.eq cbM1 (.c 1), false)]
abbrev cbC2 : Facts := [(.eq cbM0 (.c 2), true), (.eq cbM1 (.c 0), false), (.eq cbM1 (.c 1), false), (.eq cbM1 (.c 2), false)]
abbrev cbC3 : Facts := [(.eq cbM0 (.c 3), true), (.eq cbM1 (.c 0), false), (.eq cbM1 (.c 1), false), (.eq cbM1 (.c 2), false), (.eq cbM1 (.c 3), false)]
end Go.Proofs.YtfakidohjmjbbaaGreatDoor
