/- 'SpaceAll' of the views of a pool, part A: what the verified abstract executor says of the law, where 'pages' is so behind its mask. -/
import Derived.Test.YtaldffnpppdobaaRows
import Derived.Test.YtaldffnpppdobaaE35
namespace Go.Proofs.Ytaldffnpppdobaa
open Go.RowKit Ab

noncomputable def saHk : Tr (List AV → St → T (AV × St)) := Tr.set .nil 21 trueHook
noncomputable def saCx : Ctx := mkCtxE Try.prog saHk 1
abbrev saM (i : Nat) : Tm := .bin .and .i64 (.v i) (.c 15)
noncomputable def saRun (p : Int) : Ab.Sum := summ (callNF saCx 1000000 4 [.int .i64 (.v 0), .int .i64 (.v 1)] (St.with_ [(.eq (saM 0) (.c p), true)]))
/-- What no number can be: none of those that a masked one may be. -/
def saNone : List Atom := [.eq (.c 15) (saM 1), .eq (saM 1) (.c 0), .eq (saM 1) (.c 1), .eq (saM 1) (.c 2), .eq (saM 1) (.c 3), .eq (saM 1) (.c 4), .eq (saM 1) (.c 5), .eq (saM 1) (.c 6), .eq (saM 1) (.c 7), .eq (saM 1) (.c 8), .eq (saM 1) (.c 9), .eq (saM 1) (.c 10), .eq (saM 1) (.c 11), .eq (saM 1) (.c 12), .eq (saM 1) (.c 13), .eq (saM 1) (.c 14)]
theorem saHead : (summ (callNF (mkCtx Try.prog) 1000000 21 [] (St.with_ []))).allYes = true := by kernel_rfl
theorem saRun_0 : (saRun 0).allBut saNone [] = true := by kernel_rfl
theorem saRun_1 : (saRun 1).allBut saNone [] = true := by kernel_rfl
theorem saRun_2 : (saRun 2).allBut saNone [] = true := by kernel_rfl
theorem saRun_3 : (saRun 3).allBut saNone [] = true := by kernel_rfl
theorem saRun_4 : (saRun 4).allBut saNone [] = true := by kernel_rfl
theorem saRun_5 : (saRun 5).allBut saNone [] = true := by kernel_rfl
theorem saRun_6 : (saRun 6).allBut saNone [] = true := by kernel_rfl
theorem saRun_7 : (saRun 7).allBut saNone [] = true := by kernel_rfl
theorem saRun_8 : (saRun 8).allBut saNone [] = true := by kernel_rfl
end Go.Proofs.Ytaldffnpppdobaa
