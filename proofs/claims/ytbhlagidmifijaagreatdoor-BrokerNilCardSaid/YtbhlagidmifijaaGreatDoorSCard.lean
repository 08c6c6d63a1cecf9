/-
  The law BrokerNil: whatever the input (an event, a number), the call answers true and leaves the input as it read. CONDITIONS: the package-level variables that the row lists hold what the program's text lays (the card ties that to the text).
-/
import Derived.Test.YtbhlagidmifijaaGreatDoorSWit3
import Derived.Test.YtbhlagidmifijaaGreatDoorSFactsZ
namespace Go.Proofs.YtbhlagidmifijaaGreatDoor
open Go.ChangeShapes Go.WideShapes Go.ChangeAt Go.RowKit Go.Proofs.YtbhlagidmifijaaGreatDoor.AX
set_option maxRecDepth 100000
theorem named_law : Tryz.pinned.checked.prog.funcNamed Rows.brokerNilRow.func = some 3 := by kernel_rfl
theorem inst_law : Tryz.f3.isInstance Tryz.pinned.checked.prog Rows.brokerNilRow.origin Rows.brokerNilRow.targs := of_decide_eq_true (by kernel_rfl)
theorem wrap_law : Tryz.f3.isWrapper Tryz.pinned.checked.prog Rows.brokerNilRow.wrapper Rows.brokerNilRow.mainSum := by
  unfold Func.isWrapper; first | (rw [if_pos (by decide +kernel)]; kernel_rfl) | (rw [if_neg (by decide +kernel)]; exact ⟨rfl, rfl⟩)
theorem said : Rows.BrokerNilSaid :=
  OpenClaim.holds_of_cond 3 Tryz.f3 rfl rfl rfl rfl rfl rfl rfl ⟨rfl, rfl, rfl, rfl, rfl⟩ rfl rfl rfl rfl rfl named_law Tryz.func3 joined inst_law wrap_law
    (fun os started H enc _ F => by rw [OpenClaim.pre_eq_preRow]; exact lifted os started H enc F)

/-- No parameter wants a stand-in; the program's own looks are off: what the card asks. -/
theorem looks_off : true = Tryz.pinned.checked.prog.looks [] := by kernel_rfl
theorem wants25 : Tryz.prog.wantsStandIn 25 = false := by kernel_rfl
theorem wants3 : Tryz.prog.wantsStandIn 3 = false := by kernel_rfl
theorem plain_law (f : FuncId) (fn : Func) (hf : Tryz.pinned.checked.prog.funcNamed "halyard/halyardlaw26.BrokerNil" = some f) (hfn : Tryz.pinned.checked.prog.funcs[f]? = some fn) :
    true = Tryz.pinned.checked.prog.looks [] ∧ ∀ (j : Nat) t, fn.params[j]? = some t → Tryz.pinned.checked.prog.wantsStandIn t = false := by
  obtain rfl : f = 3 := Option.some.inj (named_law.symm.trans hf) |>.symm
  obtain rfl : fn = Tryz.f3 := (Option.some.inj (Tryz.func3.symm.trans hfn)).symm
  refine ⟨looks_off, fun j t ht => ?_⟩
  rw [Tryz.params3] at ht
  have : t = 25 ∨ t = 3 := by
    have := Array.mem_of_getElem? ht
    simpa using this
  rcases this with rfl | rfl
  · exact wants25
  · exact wants3
end Go.Proofs.YtbhlagidmifijaaGreatDoor
