/-
  The tie of the row's listed variables to the program's text: the closed facts, third part: what the variables read as behind that run.
-/
import Derived.Test.YtbhlagidmifijaaGreatDoorSTie2
namespace Go.Proofs.YtbhlagidmifijaaGreatDoor
open Go
theorem tie_1 : ∀ os tape, (DataW.laidRun Tryz.prog (varsWorld Tryz.prog 400 (varsId Tryz.prog) os tape).memory 8 (tieLaid.map (·.1))).map (·.1) = some tieLaid := fun _ _ => by kernel_rfl
end Go.Proofs.YtbhlagidmifijaaGreatDoor
