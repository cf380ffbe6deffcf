/- 'WorldNil' of the clusters: the summaries and the runs. -/
import Derived.Test.YtckfbdnkgjpmlaaGreatDoorProg
import Derived.Test.YtckfbdnkgjpmlaaGreatDoorE44
namespace Go.Proofs.YtckfbdnkgjpmlaaGreatDoor
open Go.RowKit Ab

noncomputable def wnGs : List (Nat × AObj) := [(0, .ro 0 [.int .i64 (.c 800), .int .i64 (.c 300), .int .i64 (.c 6)])]
noncomputable def wnCx0 : Ctx := mkCtxG Tryz.prog .nil 100 1
noncomputable def wnHk : Tr (List AV → St → T (AV × St)) := Tr.set .nil 4 (globHook wnGs)
noncomputable def wnCx : Ctx := mkCtxG Tryz.prog wnHk 100 1
noncomputable def wnS : AV := .agg [.int .i64 (.v 1), .int .i64 (.v 2), .int .i64 (.v 3), .int .i64 (.v 4), .int .i64 (.v 5), .str (.v 0), .str (.v 1), .int .i64 (.v 6), .int .i64 (.v 7), .opq 2, .int .i64 (.v 8)]
/-- So many nodes. -/
noncomputable def wnRunC (k : Int) : Ab.Sum := summ (keepT wnGs (callNF wnCx 1000000 3 [.int .i64 (.c k), wnS] (St.glob wnGs 1 [])))
/-- A number of which something is known. -/
noncomputable def wnRun (fx : Facts) : Ab.Sum := summ (keepT wnGs (callNF wnCx 1000000 3 [.int .i64 (.v 0), wnS] (St.glob wnGs 1 fx)))
abbrev wnMid : Facts := [(.lt (.c 3) (.v 0), true), (.lt (.c 64) (.v 0), false)]
abbrev wnLow : Facts := [(.lt (.c 3) (.v 0), false), (.lt (.v 0) (.c 1), true)]
abbrev wnHigh : Facts := [(.lt (.c 3) (.v 0), true), (.lt (.c 64) (.v 0), true), (.lt (.v 0) (.c 1), false)]
set_option maxRecDepth 100000 in
theorem wnHead : (summ (keepT wnGs (callNF wnCx0 1000000 4 [] (St.glob wnGs 1 [])))).allYes = true := by kernel_rfl
set_option maxRecDepth 100000 in
theorem wnRun_1 : (wnRunC 1).allYes = true := by kernel_rfl
set_option maxRecDepth 100000 in
theorem wnRun_2 : (wnRunC 2).allYes = true := by kernel_rfl
set_option maxRecDepth 100000 in
theorem wnRun_3 : (wnRunC 3).allYes = true := by kernel_rfl
set_option maxRecDepth 100000 in
theorem wnRun_mid : (wnRun wnMid).allYes = true := by kernel_rfl
set_option maxRecDepth 100000 in
theorem wnRun_low : (wnRun wnLow).allYes = true := by kernel_rfl
set_option maxRecDepth 100000 in
theorem wnRun_high : (wnRun wnHigh).allYes = true := by kernel_rfl
end Go.Proofs.YtckfbdnkgjpmlaaGreatDoor
