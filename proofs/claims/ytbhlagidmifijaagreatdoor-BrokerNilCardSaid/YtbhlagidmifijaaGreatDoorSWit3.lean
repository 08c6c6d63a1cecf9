/-
  The law BrokerNil: whatever the input, it answers true, and the input reads as it did: the row.
-/
import Derived.Test.YtbhlagidmifijaaGreatDoorSWit2
namespace Go.Proofs.YtbhlagidmifijaaGreatDoor
open Go.ChangeShapes Go.WideShapes Go.ChangeAt Go.RowKit Go.Proofs.YtbhlagidmifijaaGreatDoor.AX
set_option maxRecDepth 100000
theorem lifted (os : Os) (started : os.Started) (H : Type) (enc : TypeId × Value → H) (F : Stop.Interp) :
    ReturnsInHanded {} Tryz.checked os 3 .any ((OpenSpec.ofChange Rows.brokerNilSpec).preRow enc Tryz.prog Tryz.f3 Rows.brokerNilRow.domain false Rows.brokerNilRow.laid) (((OpenSpec.ofChange Rows.brokerNilSpec).at F).post enc Tryz.prog Tryz.f3 false true false false) := by
  obtain ⟨places, hx⟩ := reads os enc
  refine returnsInHanded_of_row (C := Tryz.checked) (s := OpenSpec.ofChange Rows.brokerNilSpec) own started wit_noInit Tryz.func3
    (witness_row_at (enc := enc) (C := Tryz.checked) false (laidWorld os) wargs rfl (wit_vars os) (wit_rest os) (wit_ok os)
      (OpenSpec.preRow_of_cond 8 hx rfl (fun k hk => by cases hk) (wit_sized os enc) (laid_met os))) ?_
  intro W base args ds gs before hval hW _ _ _ hL _ _
  exact contract H enc W base args ds gs before hval hW

end Go.Proofs.YtbhlagidmifijaaGreatDoor
