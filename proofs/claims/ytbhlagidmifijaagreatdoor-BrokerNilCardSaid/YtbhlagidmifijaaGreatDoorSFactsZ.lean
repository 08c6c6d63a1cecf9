/-
  Closed facts of the row, part last.
-/
import Derived.Test.YtbhlagidmifijaaGreatDoorSFactsA
import Derived.Test.YtbhlagidmifijaaGreatDoorSFactsB
import Derived.Test.YtbhlagidmifijaaGreatDoorSFactsC
import Derived.Test.YtbhlagidmifijaaGreatDoorSFactsD
import Derived.Test.YtbhlagidmifijaaGreatDoorSFactsE
import Derived.JoinedCond
import Derived.KernelRfl
namespace Go.Proofs.YtbhlagidmifijaaGreatDoor
open Go
set_option maxRecDepth 100000
theorem both {a b : Bool} (ha : a = true) (hb : b = true) : (a && b) = true := by rw [ha, hb]; rfl
theorem joined : joinedFacts Tryz.pinned.checked.prog 3 Tryz.f3 (OpenSpec.ofChange Rows.brokerNilSpec).bare Rows.brokerNilRow = true :=
  (both (both (both (both (both (both (both (both (both (both (both (both (both (both (both (both (both (both (both (both (both (both (both (both (both (both (both (both (both (both (both fact_0 fact_1) fact_2) fact_3) fact_4) fact_5) fact_6) fact_7) fact_8) fact_9) fact_10) fact_11) fact_12) fact_13) fact_14) fact_15) fact_16) fact_17) fact_18) fact_19) fact_20) fact_21) fact_22) fact_23) fact_24) fact_25) fact_26) fact_27) fact_28) fact_29) fact_30) fact_31)
end Go.Proofs.YtbhlagidmifijaaGreatDoor
