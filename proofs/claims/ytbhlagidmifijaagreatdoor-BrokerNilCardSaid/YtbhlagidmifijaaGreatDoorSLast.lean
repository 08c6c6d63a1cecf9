/-
  The law BrokerNil, whatever the input (an event, a number): the call answers true and leaves the input as it read. Its tied card. CONDITIONS: the package-level variables that the row lists hold what the program's text lays; the card ties that to the text of the pruned copy.
-/
import Derived.Test.YtbhlagidmifijaaGreatDoorSCard
import Derived.Test.YtbhlagidmifijaaGreatDoorSGoes
namespace Go.Proofs.YtbhlagidmifijaaGreatDoor
open Go
set_option maxRecDepth 100000
theorem wf_law : Rows.brokerNilRow.wfByText (OpenSpec.ofChange Rows.brokerNilSpec) = true := by kernel_rfl
theorem main_law : Tryz.pinned.checked.prog.mainIs = some (true, "0cb4c1dd068591aae0e133b8cb55f81f36134c81f04fe5db93b64219362181a4".toList) := by kernel_rfl
theorem card : Rows.BrokerNilCardSaid :=
  Claim7.holds_tied_plain_at .later [] _ _ _ _ said (fun _ h => by cases h) wf_law (fun _ h => by cases h) brokerNil_row_tie rfl ⟨rfl, rfl⟩ main_law rfl plain_law goes_law
end Go.Proofs.YtbhlagidmifijaaGreatDoor
