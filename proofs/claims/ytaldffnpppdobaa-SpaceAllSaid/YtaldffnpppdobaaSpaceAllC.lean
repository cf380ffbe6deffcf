/- 'SpaceAll' of the views of a pool, part C: what the verified abstract executor says of the law, where 'pages' is so behind its mask. -/
import Derived.Test.YtaldffnpppdobaaRows
import Derived.Test.YtaldffnpppdobaaSpaceAllA
namespace Go.Proofs.Ytaldffnpppdobaa
open Go.RowKit Ab
theorem saRun_13 : (saRun 13).allBut saNone [] = true := by kernel_rfl
theorem saRun_14 : (saRun 14).allBut saNone [] = true := by kernel_rfl
theorem saRun_15 : (saRun 15).allBut saNone [] = true := by kernel_rfl
end Go.Proofs.Ytaldffnpppdobaa
