/-
  The law BrokerNil: there is a world in which the listed variables hold what the program's text lays; the row and the card.
-/
import Derived.Test.YtbhlagidmifijaaGreatDoorSProof
namespace Go.Proofs.YtbhlagidmifijaaGreatDoor
open Go.ChangeShapes Go.WideShapes Go.ChangeAt Go.RowKit Go.Proofs.YtbhlagidmifijaaGreatDoor.AX
set_option maxRecDepth 100000

/-- The cells of a table of numbers. -/
def flatD : Nat → DataW Unit → List Value
  | _, .lit (.int k n) => [.int k n]
  | f + 1, .agg ds => ds.flatMap (flatD f)
  | _, _ => []
def setCells (h : Array Obj) (i : Nat) (cs : List Value) : Array Obj := h.modify i fun
  | .cells _ t fr => .cells cs.toArray t fr
  | o => o
def strD : DataW Unit → ByteArray
  | .iface _ (.ptr (.agg [.lit (.string l)])) => ⟨l.toArray⟩
  | _ => ⟨#[]⟩

/-- The settled world, the listed variables holding what their initialisers lay. -/
noncomputable def laidWorld (os : Os) : World :=
  let w0 := World.holding Tryz.prog os ⟨#[], #[], []⟩
  let n := w0.heap.size
  let h := setCells w0.heap 1 [.iface 574 (.pointer (some ⟨n, 0, none⟩))]
  let h := setCells h 2 [.iface 574 (.pointer (some ⟨n + 1, 0, none⟩))]
  let h := setCells h 3 (flatD 3 Rows.laid_internal_strconv_uint64pow10)
  let h := setCells h 4 (flatD 3 Rows.laid_unicode_utf8_first)
  let h := setCells h 5 (flatD 3 Rows.laid_unicode_utf8_acceptRanges)
  let h := setCells h 6 (flatD 3 Rows.laid_math_bits_deBruijn64tab)
  let h := setCells h 7 (flatD 3 Rows.laid_math_bits_deBruijn32tab)
  { w0 with heap := (h.push (.cells #[.string (strD Rows.laid_strconv_ErrSyntax)] 576 (0, 0))).push (.cells #[.string (strD Rows.laid_strconv_ErrRange)] 576 (0, 0)) }

def wargs : Array Value := #[.agg #[.int .i64 0, .int .i64 0, .slice none 0 0, .int .i64 0, .int .i64 0, .slice none 0 0], .int .i64 0]

theorem laid_met (os : Os) : laidMet Tryz.prog Rows.brokerNilRow.laid ((laidWorld os).forCall (fun _ _ => 0) ⟨#[], wargs, []⟩).memory :=
  laidMet_of_run' 8 (by kernel_rfl) (by kernel_rfl)
theorem reads (os : Os) {H : Type} (enc : TypeId × Value → H) : ∃ places, DataW.whole enc Tryz.prog ((laidWorld os).forCall (fun _ _ => 0) ⟨#[], wargs, []⟩).memory Tryz.f3.params.toList Rows.brokerNilSpec.vars false wargs.toList 8 =
    some ([.agg [.lit (.int .i64 0), .lit (.int .i64 0), .nil, .lit (.int .i64 0), .lit (.int .i64 0), .nil], .lit (.int .i64 0)], [], places) :=
  ⟨[], by kernel_rfl⟩

end Go.Proofs.YtbhlagidmifijaaGreatDoor
