/-
  Closed facts of the row, part B.
-/
import Derived.Test.YtbhlagidmifijaaGreatDoorRows
import Derived.JoinedCond
import Derived.KernelRfl
namespace Go.Proofs.YtbhlagidmifijaaGreatDoor
open Go
set_option maxRecDepth 100000
theorem fact_10 : ((Rows.brokerNilRow.unfollowed == Tryz.pinned.checked.prog.unfollowed 3)) = true := by kernel_rfl
end Go.Proofs.YtbhlagidmifijaaGreatDoor
