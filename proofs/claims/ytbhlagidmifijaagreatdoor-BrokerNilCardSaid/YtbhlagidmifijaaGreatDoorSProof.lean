/-
  The law BrokerNil: whatever the input, it answers true, and the input reads as it did; its row, and its card.
-/
import Derived.Test.YtbhlagidmifijaaGreatDoorCards
import Derived.Test.YtbhlagidmifijaaGreatDoorSLaw
import Derived.Test.YtbhlagidmifijaaGreatDoorSTie5
import Derived.WalkKit
import Derived.ProofKit
import Derived.OpenShut
import Derived.Deep.DeepHandedRow
import Derived.Carry
namespace Go.Proofs.YtbhlagidmifijaaGreatDoor
open Go.ChangeShapes Go.WideShapes Go.ChangeAt Go.RowKit Go.Proofs.YtbhlagidmifijaaGreatDoor.AX
set_option maxRecDepth 100000

theorem own : ownKnob Tryz.prog.godebug = none := by kernel_rfl
theorem laidOut : laidOutB Tryz.prog = true := by kernel_rfl
theorem cells25 : Tryz.prog.cellsOf 25 = 6 := by kernel_rfl
theorem cells3 : Tryz.prog.cellsOf 3 = 1 := by kernel_rfl
theorem cells2 : Tryz.prog.cellsOf 2 = 1 := by kernel_rfl
theorem cells22 : Tryz.prog.cellsOf 22 = 1 := by kernel_rfl
theorem cells23 : Tryz.prog.cellsOf 23 = 1 := by kernel_rfl
theorem reads25 : Tryz.prog.readableRec 25 = true := by kernel_rfl
theorem reads3 : Tryz.prog.readableRec 3 = true := by kernel_rfl
theorem few25 : 25 < Tryz.prog.types.size := of_decide_eq_true (by kernel_rfl)
theorem few3 : 3 < Tryz.prog.types.size := of_decide_eq_true (by kernel_rfl)

section
variable {H : Type} {enc : TypeId × Value → H} {w : World}
theorem int_of {t : TypeId} {k : IntKind} (ht : Tryz.prog.underlying t = some (.int k)) {n : Nat} {v : Value} {x : DataW H × List MemPlace} (h : DataW.trod enc Tryz.prog w 0 (fun _ => true) true n t [v] = some x) : ∃ a, v = .int k a := by
  obtain ⟨a, h1, _⟩ := DataW.trod_int ht h
  exact ⟨a, List.cons.inj h1 |>.1⟩
theorem slice_of {t e : TypeId} (ht : Tryz.prog.underlying t = some (.slice e)) {n : Nat} {v : Value} {x : DataW H × List MemPlace} (h : DataW.trod enc Tryz.prog w 0 (fun _ => true) true n t [v] = some x) : ∃ p m m', v = .slice p m m' := by
  rcases DataW.trod_slice ht h with ⟨h1, _⟩ | ⟨a, len, cap, _, _, _, _, h1, _⟩
  · exact ⟨_, _, _, List.cons.inj h1 |>.1⟩
  · exact ⟨_, _, _, List.cons.inj h1 |>.1⟩

/-- An event, as a value. -/
theorem event_of {b0 : Nat} {v : Value} {d : DataW H} {ps : List MemPlace} (hv : Value.okWide Tryz.prog w .any b0 25 v) (h : DataW.Trod enc Tryz.prog w 0 (fun _ => true) true 25 v d ps) :
    ∃ (a b c e : Int) (p q : Option Addr) (m m' n n' : Nat), v = .agg #[.int .i64 a, .int .i64 b, .slice p m m', .int .i64 c, .int .i64 e, .slice q n n'] := by
  obtain ⟨cs, rfl, hsz⟩ := okWide_struct Tryz.underlying25 hv
  obtain ⟨l⟩ := cs
  rw [cells25] at hsz
  match l, hsz with
  | [c0, c1, c2, c3, c4, c5], _ =>
    obtain ⟨fuel, hf⟩ := h
    obtain ⟨xs, n, _, _, _, hlen, hg⟩ := DataW.trod_struct Tryz.underlying25 hf
    match xs, hlen with
    | [y0, y1, y2, y3, y4, y5], _ =>
      have g0 := hg 0 _ rfl
      have g1 := hg 1 _ rfl
      have g2 := hg 2 _ rfl
      have g3 := hg 3 _ rfl
      have g4 := hg 4 _ rfl
      have g5 := hg 5 _ rfl
      simp only [Value.cells, cells3, cells2, cells22, cells23, List.drop, List.take, List.getElem?_cons_zero, List.getElem?_cons_succ] at g0 g1 g2 g3 g4 g5
      obtain ⟨a, rfl⟩ := int_of Tryz.underlying3 g0
      obtain ⟨b, rfl⟩ := int_of Tryz.underlying3 g1
      obtain ⟨p, m, m', rfl⟩ := slice_of Tryz.underlying22 g2
      obtain ⟨c, rfl⟩ := int_of Tryz.underlying2 g3
      obtain ⟨e, rfl⟩ := int_of Tryz.underlying2 g4
      obtain ⟨q, n1, n2, rfl⟩ := slice_of Tryz.underlying23 g5
      exact ⟨a, b, c, e, p, q, m, m', n1, n2, rfl⟩
end

/-- What the call gives, for every argument and every world. -/
theorem contract (H : Type) (enc : TypeId × Value → H) (W : World) (base : Nat) (args : Array Value) (ds gs : List (DataW H)) (before : List MemPlace)
    (hval : ∀ (j : Nat) t v, Tryz.f3.params[j]? = some t → args[j]? = some v → Value.okWide Tryz.prog W .any base t v)
    (hW : DataW.Whole enc Tryz.prog Tryz.f3.params.toList Rows.brokerNilSpec.vars false W args.toList ds gs before) :
    Calls Tryz.prog 3 args W fun e W' => ∃ v, e = .returned v ∧ Rows.brokerNilSpec.post enc Tryz.prog Tryz.f3 false true false false W args v W' := by
  have hW' := hW
  obtain ⟨p, q, hA0, hV, rfl, hfz, hnd⟩ := hW
  have hA : DataW.TrodAll enc Tryz.prog W 0 (fun _ => true) true Tryz.f3.params.toList args.toList ds p := hA0
  rw [Tryz.params3] at hA hval
  obtain ⟨v0, vs0, d0, ds0, p0, q0, hargs, rfl, rfl, h0, r0⟩ := trodAll_cons hA
  obtain ⟨v1, vs1, d1, ds1, p1, q1, rfl, rfl, rfl, h1, r1⟩ := trodAll_cons r0
  obtain ⟨rfl, rfl, rfl⟩ := trodAll_nil r1
  obtain rfl : args = #[v0, v1] := by cases args; simp_all
  obtain ⟨rfl, rfl⟩ := trodVars_none hV
  obtain ⟨a, b, c, e, pp, qq, m, m', n, n', rfl⟩ := event_of (hval 0 25 v0 rfl rfl) h0
  obtain ⟨k, rfl, rfl, rfl, hwk⟩ := open_int Tryz.underlying3 (hval 1 3 v1 rfl rfl) h1
  have hlt0 : ∀ x ∈ p0, x.block < W.heap.size := fun x hx => hW'.lt x (by simp [hx])
  refine (law_calls a b c e k pp qq m m' n n' W).mono ?_
  rintro e1 W' ⟨rfl, hs⟩
  refine ⟨_, rfl, _, _, _, [], p0, [], hW', ?_, ?_, rfl, hs.frame _, fun h => by cases h⟩
  · exact trodAll_cons_mk (shut_bool Tryz.underlying4 _) trodAll_mk0
  · have t0 : DataW.Trod enc Tryz.prog W' 0 (fun b => decide (b < W.heap.size)) true 25 _ d0 p0 :=
      WideElems.Trod_stays laidOut reads25 few25 h0 (fun x hx => hs.sameAt (hlt0 x hx)) (fun x hx => by simpa using hlt0 x hx)
    have t1 := trodAll_cons_mk t0 (trodAll_cons_mk (shut_int Tryz.underlying3 hwk) trodAll_mk0)
    rw [Tryz.params3]
    simp only [List.append_nil] at t1
    exact t1
end Go.Proofs.YtbhlagidmifijaaGreatDoor
