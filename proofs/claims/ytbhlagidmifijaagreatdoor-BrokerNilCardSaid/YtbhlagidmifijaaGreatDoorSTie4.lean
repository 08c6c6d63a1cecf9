/-
  The tie of the row's listed variables to the program's text: the closed facts, fourth part, and the tie.
-/
import Derived.Test.YtbhlagidmifijaaGreatDoorSTie3
namespace Go.Proofs.YtbhlagidmifijaaGreatDoor
open Go
theorem tie_2 : ∀ os tape, (DataW.laidRun Tryz.prog (varsWorld Tryz.prog 400 (varsId Tryz.prog) os tape).memory 8 (tieLaid.map (·.1))).map (fun x => decide x.2.Nodup && laidRowsB Tryz.prog (varsWorld Tryz.prog 400 (varsId Tryz.prog) os tape).memory x.2) = some true := fun _ _ => by kernel_rfl
theorem tied : Tryz.prog.laidByTextLater tieLaid [.sentinel, .sentinel, .data, .data, .data, .data] true :=
  Program.laidByTextLater_by_run 400 8 tie_w tie_w' tie_root tie_k tie_g tie_n tie_d tie_1 tie_2
end Go.Proofs.YtbhlagidmifijaaGreatDoor
