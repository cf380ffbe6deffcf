/- 'SpaceAll' of the views of a pool, part B: what the verified abstract executor says of the law, where 'pages' is so behind its mask. -/
import Derived.Test.YtaldffnpppdobaaRows
import Derived.Test.YtaldffnpppdobaaSpaceAllA
namespace Go.Proofs.Ytaldffnpppdobaa
open Go.RowKit Ab
theorem saRun_9 : (saRun 9).allBut saNone [] = true := by kernel_rfl
theorem saRun_10 : (saRun 10).allBut saNone [] = true := by kernel_rfl
theorem saRun_11 : (saRun 11).allBut saNone [] = true := by kernel_rfl
theorem saRun_12 : (saRun 12).allBut saNone [] = true := by kernel_rfl
end Go.Proofs.Ytaldffnpppdobaa
