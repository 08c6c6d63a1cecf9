/-
  Closed facts of the row, part E.
-/
import Derived.Test.YtbhlagidmifijaaGreatDoorRows
import Derived.JoinedCond
import Derived.KernelRfl
namespace Go.Proofs.YtbhlagidmifijaaGreatDoor
open Go
set_option maxRecDepth 100000
theorem fact_0 : (Rows.brokerNilRow.wf (OpenSpec.ofChange (OpenSpec.ofChange Rows.brokerNilSpec).bare)) = true := by kernel_rfl
theorem fact_1 : (laidOutB Tryz.pinned.checked.prog) = true := by kernel_rfl
theorem fact_2 : (mapsRowed Tryz.pinned.checked.prog) = true := by kernel_rfl
theorem fact_3 : (Tryz.f3.params.all (Tryz.pinned.checked.prog.readableRec ·)) = true := by kernel_rfl
theorem fact_4 : (namedTie Tryz.pinned.checked.prog Rows.brokerNilRow.named (OpenSpec.ofChange Rows.brokerNilSpec).bare.vars) = true := by kernel_rfl
theorem fact_5 : ((Rows.brokerNilRow.stops == [])) = true := by kernel_rfl
theorem fact_6 : ((Tryz.pinned.checked.prog.stops == [])) = true := by kernel_rfl
theorem fact_7 : ((Rows.brokerNilRow.knobs == [])) = true := by kernel_rfl
theorem fact_8 : ((Tryz.pinned.checked.prog.stopKnobs == [])) = true := by kernel_rfl
theorem fact_13 : ((Rows.brokerNilRow.maps == (Tryz.f3.params.toList ++ (OpenSpec.ofChange Rows.brokerNilSpec).bare.plain.varTypes Tryz.pinned.checked.prog).any (Tryz.pinned.checked.prog.mapsRec ·))) = true := by kernel_rfl
theorem fact_14 : ((Rows.brokerNilRow.ifaces == (Tryz.f3.params.toList ++ (OpenSpec.ofChange Rows.brokerNilSpec).bare.plain.varTypes Tryz.pinned.checked.prog).any (Tryz.pinned.checked.prog.ifacesRec ·))) = true := by kernel_rfl
theorem fact_15 : ((Rows.brokerNilRow.mapsOut == Tryz.pinned.checked.prog.mapsAmong Tryz.f3.resultTypes.toList)) = true := by kernel_rfl
theorem fact_16 : ((Rows.brokerNilRow.loops == (Tryz.f3.params.toList ++ (OpenSpec.ofChange Rows.brokerNilSpec).bare.plain.varTypes Tryz.pinned.checked.prog).any (Tryz.pinned.checked.prog.loopsFrom ·))) = true := by kernel_rfl
theorem fact_17 : ((Rows.brokerNilRow.wideKeys == (Tryz.f3.params.toList ++ (OpenSpec.ofChange Rows.brokerNilSpec).bare.plain.varTypes Tryz.pinned.checked.prog ++ Tryz.f3.resultTypes.toList).any (Tryz.pinned.checked.prog.wideKeysFrom ·))) = true := by kernel_rfl
theorem fact_18 : ((OpenSpec.ofChange Rows.brokerNilSpec).bare.vars.all (Tryz.pinned.checked.prog.varReadable ·)) = true := by kernel_rfl
theorem fact_19 : (Tryz.f3.resultTypes.all (fun t => Tryz.pinned.checked.prog.readableRec t && decide (t < Tryz.pinned.checked.prog.types.size))) = true := by kernel_rfl
theorem fact_20 : ((Rows.brokerNilRow.ifacesOut == Tryz.f3.resultTypes.toList.any (Tryz.pinned.checked.prog.ifacesRec ·))) = true := by kernel_rfl
theorem fact_21 : ((Rows.brokerNilRow.loopsOut == Tryz.f3.resultTypes.toList.any (Tryz.pinned.checked.prog.loopsFrom ·))) = true := by kernel_rfl
theorem fact_22 : ((Rows.brokerNilRow.plainKeys == Tryz.pinned.checked.prog.plainKeys)) = true := by kernel_rfl
theorem fact_23 : (Rows.brokerNilRow.shortTexts.isNone) = true := by kernel_rfl
theorem fact_24 : (Tryz.pinned.checked.prog.stopsHeard) = true := by kernel_rfl
theorem fact_25 : (Tryz.pinned.checked.prog.mayEnter) = true := by kernel_rfl
theorem fact_26 : ((Rows.brokerNilRow.lifted == Tryz.pinned.checked.prog.liftsFinal)) = true := by kernel_rfl
theorem fact_27 : ((Tryz.pinned.checked.prog.make == some Rows.brokerNilRow.make)) = true := by kernel_rfl
theorem fact_28 : ((Rows.brokerNilRow.kinds == (if Rows.brokerNilRow.domain.isEmpty then [] else Tryz.f3.params.toList.map fun t => match Tryz.pinned.checked.prog.underlying t with | some (.int k) => some k | _ => none))) = true := by kernel_rfl
theorem fact_29 : ((Rows.brokerNilRow.pinned == Rows.brokerNilRow.pinnedBy)) = true := by kernel_rfl
theorem fact_30 : ((Rows.brokerNilRow.veiled == (Tryz.f3.params.toList ++ (OpenSpec.ofChange Rows.brokerNilSpec).bare.plain.varTypes Tryz.pinned.checked.prog ++ Tryz.f3.resultTypes.toList).any (Tryz.pinned.checked.prog.veiledRec ·))) = true := by kernel_rfl
theorem fact_31 : (Rows.brokerNilRow.veiledFits Tryz.pinned.checked.prog Tryz.f3.params.toList (Tryz.f3.params.toList ++ (OpenSpec.ofChange Rows.brokerNilSpec).bare.plain.varTypes Tryz.pinned.checked.prog ++ Tryz.f3.resultTypes.toList)) = true := by kernel_rfl
end Go.Proofs.YtbhlagidmifijaaGreatDoor
