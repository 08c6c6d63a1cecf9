/-
  The law BrokerNil: closed facts on the world of the witness.
-/
import Derived.Test.YtbhlagidmifijaaGreatDoorSWit1
namespace Go.Proofs.YtbhlagidmifijaaGreatDoor
open Go.ChangeShapes Go.WideShapes Go.ChangeAt Go.RowKit Go.Proofs.YtbhlagidmifijaaGreatDoor.AX
set_option maxRecDepth 100000
theorem wit_noInit : Tryz.checked.prog.inits.idxOf? 3 = none := by kernel_rfl
theorem wit_vars (os : Os) : ((laidWorld os).forCall (fun _ _ => 0) ⟨#[], wargs, []⟩).variablesB Tryz.checked.prog = true := by kernel_rfl
theorem wit_rest (os : Os) : (((laidWorld os).forCall (fun _ _ => 0) ⟨#[], wargs, []⟩).heap.toList.drop Tryz.checked.prog.globals.size).take ((begin Tryz.checked.prog (fun _ _ => 0) default).world.heap.size - Tryz.checked.prog.globals.size) =
      (begin Tryz.checked.prog (fun _ _ => 0) default).world.heap.toList.drop Tryz.checked.prog.globals.size := by kernel_rfl
theorem wit_ok (os : Os) : Input.okWideB Tryz.checked.prog ((laidWorld os).forCall (fun _ _ => 0) ⟨#[], wargs, []⟩) 3 ⟨#[], wargs, []⟩ = true := by kernel_rfl
theorem wit_sized (os : Os) {H : Type} (enc : TypeId × Value → H) : (OpenSpec.ofChange Rows.brokerNilSpec).bare.sizedB enc Tryz.prog Tryz.f3 false ((laidWorld os).forCall (fun _ _ => 0) ⟨#[], wargs, []⟩).memory wargs 8 = true := by kernel_rfl
end Go.Proofs.YtbhlagidmifijaaGreatDoor
