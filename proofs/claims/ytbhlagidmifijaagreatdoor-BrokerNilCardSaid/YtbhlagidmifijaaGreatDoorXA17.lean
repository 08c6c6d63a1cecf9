/-
  The executor: from a run to a call: a law whose run is closed.
-/
import Derived.Test.YtbhlagidmifijaaGreatDoorXA16
namespace Go.Proofs.YtbhlagidmifijaaGreatDoor.AX
open Go.RowKit

/-- Of what was there nothing has turned. -/
def Kept (w w' : World) : Prop := Same (fun k => k < w.heap.size) w w'

theorem wrel_start (W : World) (A : AW) (hA : ∀ b, A.get b = none) (hG : ∀ g cs, lookG A.G g = some cs → ∃ arr e fr, W.heap[g]? = some (.cells arr e fr) ∧ arr.toList = cs) : WRel (fun k => k < W.heap.size) ⟨W, fun _ => False⟩ (fun _ => none) A W := by
  refine ⟨Same.refl _ _, fun _ h => h, fun _ _ h => (by cases h), fun _ _ h => (by cases h), fun _ _ _ h => (by cases h), fun _ _ _ _ _ _ h => (by cases h), ?_, fun _ h => h.elim⟩
  intro g cs h
  obtain ⟨arr, e, fr, h1, h2⟩ := hG g cs h
  exact ⟨(Array.getElem?_eq_some_iff.1 h1).1, arr, e, fr, h1, h2⟩

/-- A run that tells a plain value is a call that hands it back. -/
theorem calls_of_run {P : Program} (hn : noCount P) (hm : P.follows .mixedOrders = true) {I : Intr} (hI : ∀ g f args A v A', I g = some f → f args A = some (v, A') → CallsTo P g args A v A') {f : Nat} {g : FuncId} {fn : Func} {c : Code} (hf : P.funcs[g]? = some fn) (hb : fn.body = some c)
    {args : List AV} {A : AW} {v : Value} (h : (run P I f g args A).map (·.1) = some (.lit v)) (W : World) (hA : ∀ b, A.get b = none) (hG : ∀ g cs, lookG A.G g = some cs → ∃ arr e fr, W.heap[g]? = some (.cells arr e fr) ∧ arr.toList = cs)
    {vs : List Value} (hv : VRels (fun _ => none) args vs) : Calls P g vs.toArray W fun e w' => e = .returned v ∧ Kept W w' := by
  obtain ⟨⟨v1, A'⟩, h1, h2⟩ := opt_map h
  simp only at h2
  subst h2
  have hc := run_ok hn (aop_ok P) hm hI h1
  rcases hc _ _ _ W vs (wrel_start W A hA hG) hv with ⟨_, h3⟩ | ⟨v', w', φ', h3, _⟩
  · refine h3.mono ?_
    rintro e w' ⟨v', φ', rfl, _, h4, h5⟩
    rw [vrel_lit] at h5
    subst h5
    exact ⟨rfl, h4.same⟩
  · rw [run_callFunc hn hf hb] at h3
    cases h3

theorem Kept.sameAt {W W' : World} (h : Kept W W') {p : MemPlace} (hp : p.block < W.heap.size) : W.sameAt W' p := by
  cases p with
  | cell b o => exact World.cell?_of_block (w := W) (h.block b hp)
  | map b => exact h.block b hp
theorem Kept.frame {W W' : World} (h : Kept W W') (may : MemPlace → Prop) : W.keptBut W' may := by
  refine ⟨h.os, h.output, fun i hi => ?_⟩
  rw [h.block i hi]
  split <;> simp_all
end Go.Proofs.YtbhlagidmifijaaGreatDoor.AX
