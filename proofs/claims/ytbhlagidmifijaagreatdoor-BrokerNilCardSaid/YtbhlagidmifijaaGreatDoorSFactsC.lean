/-
  Closed facts of the row, part C.
-/
import Derived.Test.YtbhlagidmifijaaGreatDoorRows
import Derived.JoinedCond
import Derived.KernelRfl
namespace Go.Proofs.YtbhlagidmifijaaGreatDoor
open Go
set_option maxRecDepth 100000
theorem fact_11 : ((Rows.brokerNilRow.recurses == Tryz.pinned.checked.prog.recurses 3)) = true := by kernel_rfl
end Go.Proofs.YtbhlagidmifijaaGreatDoor
