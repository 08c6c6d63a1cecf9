/-
  Closed facts of the row, part D.
-/
import Derived.Test.YtbhlagidmifijaaGreatDoorRows
import Derived.JoinedCond
import Derived.KernelRfl
namespace Go.Proofs.YtbhlagidmifijaaGreatDoor
open Go
set_option maxRecDepth 100000
theorem fact_12 : ((Rows.brokerNilRow.named == Tryz.pinned.checked.prog.varsNamed 3)) = true := by kernel_rfl
end Go.Proofs.YtbhlagidmifijaaGreatDoor
