/-
  The run of the law, by the executor.
-/
import Derived.Test.YtbhlagidmifijaaGreatDoorXA16
import Derived.Test.YtbhlagidmifijaaGreatDoorProg
import Derived.KernelRfl
namespace Go.Proofs.YtbhlagidmifijaaGreatDoor
open Go.Proofs.YtbhlagidmifijaaGreatDoor.AX
def intr : Intr := fun g =>
  bif Nat.beq g 442 then some iUsed
  else bif Nat.beq g 124 then some (iKeys 205)
  else bif Nat.beq g 123 then some (iSortedS fun f => Nat.beq f 205)
  else bif Nat.beq g 532 then some iIndexByte
  else bif Nat.beq g 519 then some iIndexByte
  else bif Nat.beq g 50 then some iMapsClone
  else none
def A0 : AW := { n := 0, h := .nil }
set_option maxRecDepth 1000000
theorem run_law (a b c d k : Int) (p q : Option Addr) (m m' n n' : Nat) :
    (run Tryz.prog intr 3000 3 [.agg [.lit (.int .i64 a), .lit (.int .i64 b), .lit (.slice p m m'), .lit (.int .i64 c), .lit (.int .i64 d), .lit (.slice q n n')], .lit (.int .i64 k)] A0).map (·.1) = some (.lit (.bool true)) := by kernel_rfl
end Go.Proofs.YtbhlagidmifijaaGreatDoor
