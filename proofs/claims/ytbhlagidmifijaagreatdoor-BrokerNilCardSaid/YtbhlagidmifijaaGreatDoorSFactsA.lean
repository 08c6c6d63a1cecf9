/-
  Closed facts of the row, part A.
-/
import Derived.Test.YtbhlagidmifijaaGreatDoorRows
import Derived.JoinedCond
import Derived.KernelRfl
namespace Go.Proofs.YtbhlagidmifijaaGreatDoor
open Go
set_option maxRecDepth 100000
theorem fact_9 : ((Rows.brokerNilRow.inPlace == Tryz.pinned.checked.prog.inPlace 3)) = true := by kernel_rfl
end Go.Proofs.YtbhlagidmifijaaGreatDoor
