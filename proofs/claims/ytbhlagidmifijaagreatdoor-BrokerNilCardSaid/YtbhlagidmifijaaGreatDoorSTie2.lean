/-
  The tie of the row's listed variables to the program's text: the closed facts, second part: the run that lays them.
-/
import Derived.Test.YtbhlagidmifijaaGreatDoorSTie1
namespace Go.Proofs.YtbhlagidmifijaaGreatDoor
open Go
theorem tie_d : ∀ os tape, varsDone Tryz.prog 400 (varsId Tryz.prog) os tape = true := fun _ _ => by kernel_rfl
end Go.Proofs.YtbhlagidmifijaaGreatDoor
