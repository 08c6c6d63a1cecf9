/-
  The law BrokerNil: no function of the translation starts a goroutine.
-/
import Derived.Test.YtbhlagidmifijaaGreatDoorCards
import Derived.SevenTiedAt
import Derived.KernelRfl
namespace Go.Proofs.YtbhlagidmifijaaGreatDoor
open Go
set_option maxRecDepth 100000
theorem none_goes : (Tryz.prog.funcs.toList.all fun f => !f.goes) = true := by kernel_rfl

theorem goes_of_none {P : Program} (h : (P.funcs.toList.all fun f => !f.goes) = true) (c : OpenClaim) (hc : c.start = .entering) : false = c.goesBy P := by
  have one : ∀ g : Nat, (P.funcs[g]?).any Func.goes = false := by
    intro g
    cases hg : P.funcs[g]? with
    | none => rfl
    | some fn =>
      have := List.all_eq_true.1 h fn (by
        rw [← Array.getElem?_toList] at hg
        exact List.mem_of_getElem? hg)
      simpa using this
  have two : P.funcs.any Func.goes = false := by
    rw [← Array.any_toList, Bool.eq_false_iff]
    intro h2
    obtain ⟨fn, h3, h4⟩ := List.any_eq_true.1 h2
    have := List.all_eq_true.1 h fn h3
    rw [h4] at this
    cases this
  have three : ∀ f : FuncId, P.goes f = false := by
    intro f
    unfold Program.goes
    rw [two, Bool.and_false, Bool.or_false, Bool.eq_false_iff]
    intro h2
    rw [List.any_eq_true] at h2
    obtain ⟨g, _, h4⟩ := h2
    rw [one g] at h4
    cases h4
  unfold OpenClaim.goesBy Program.goesAt Program.goesFrom
  rw [hc]
  simp only [Bool.or_false]
  cases P.funcNamed c.func with
  | none => rfl
  | some f => simp [three f]

theorem goes_law : false = Rows.brokerNilRow.goesBy Tryz.pinned.checked.prog := goes_of_none none_goes _ rfl
end Go.Proofs.YtbhlagidmifijaaGreatDoor
