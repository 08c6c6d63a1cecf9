/-
  What the executor does at an operation is what the machine does there: the operations that look, build and make.
-/
import Derived.Test.YtbhlagidmifijaaGreatDoorXA5
namespace Go.Proofs.YtbhlagidmifijaaGreatDoor.AX
open Go.RowKit

/-- The machine's step at an operation, as the executor tells it. -/
def OpOK (P : Program) (K : Nat → Prop) (w0 : Base) (φ : Phi) (w : World) (ρ : Operand → Value) (o : Oper) : AN → Prop
  | .same v => ∃ v', (execOp ρ o).run P w = .ok (.value v') w ∧ VRel φ v v'
  | .value v A' => ∃ v' w' φ', (execOp ρ o).run P w = .ok (.value v') w' ∧ Ext φ φ' ∧ WRel K w0 φ' A' w' ∧ VRel φ' v v'
  | .skip A' => ∃ w' φ', (execOp ρ o).run P w = .ok .skip w' ∧ Ext φ φ' ∧ WRel K w0 φ' A' w'
  | .call g args => ∃ vs, (execOp ρ o).run P w = (callFunc g vs.toArray).run P w ∧ VRels φ args vs

/-- What the machine makes where the executor makes a block. -/
def MkOK (P : Program) (φ : Phi) (ρ : Operand → Value) (o : Oper) (z : AO) (f : Nat → AV) : Prop :=
  ∀ w : World, ∃ W o' S v, (W = w ∨ W = w.drew) ∧ (execOp ρ o).run P w = .ok (.value v) (W.alloc o') ∧ ORel φ ⟨w.heap.size, 0, S⟩ z o' ∧ ∀ (φ' : Phi) (id : Nat), φ' id = some ⟨w.heap.size, 0, S⟩ → VRel φ' (f id) v

theorem MkOK.op {P : Program} {K : Nat → Prop} {w0 : Base} {φ : Phi} {A : AW} {w : World} {ρ : Operand → Value} {o : Oper} {z : AO} {f : Nat → AV} (hm : MkOK P φ ρ o z f) (h : WRel K w0 φ A w) : OpOK P K w0 φ w ρ o (.value (f A.n) (A.new z)) := by
  obtain ⟨W, o', S, v, hW, hr, hO, hV⟩ := hm w
  rcases hW with rfl | rfl
  · obtain ⟨h1, h2⟩ := h.new z o' S hO
    exact ⟨v, _, _, hr, h1, h2, hV _ _ (Phi.up_self _ _ _)⟩
  · obtain ⟨h1, h2⟩ := h.drew.new z o' S hO
    exact ⟨v, _, _, hr, h1, h2, hV _ _ (Phi.up_self _ _ _)⟩

section
variable {P : Program} {K : Nat → Prop} {w0 : Base} {φ : Phi} {A : AW} {w : World} {ρ : Operand → AV} {ρ' : Operand → Value}

theorem opt_map {α β : Type} {x : Option α} {f : α → β} {b : β} (h : x.map f = some b) : ∃ a, x = some a ∧ f a = b := by
  cases x with
  | none => cases h
  | some a => exact ⟨a, rfl, Option.some.inj h⟩
theorem opt_bind {α β : Type} {x : Option α} {f : α → Option β} {b : β} (h : (x >>= f) = some b) : ∃ a, x = some a ∧ f a = some b := by
  cases x with
  | none => cases h
  | some a => exact ⟨a, rfl, h⟩
theorem cond_some {α : Type} {c : Bool} {x y : Option α} {b : α} (h : (bif c then x else y) = some b) : (c = true ∧ x = some b) ∨ (c = false ∧ y = some b) := by
  cases c
  · exact .inr ⟨rfl, h⟩
  · exact .inl ⟨rfl, h⟩
theorem guard_some {α : Type} {c : Bool} {y : Option α} {b : α} (h : (bif c then none else y) = some b) : c = false ∧ y = some b := by
  cases c
  · exact ⟨rfl, h⟩
  · cases h
theorem then_some {α : Type} {c : Bool} {y : Option α} {b : α} (h : (bif c then y else none) = some b) : c = true ∧ y = some b := by
  cases c
  · cases h
  · exact ⟨rfl, h⟩

theorem litsOf_rel (z : Value) : VRels φ (litsOf z) z.cells.toList := vrels_lits _

/-- A row whose first cells are known. -/
theorem orel_row {cs : List AV} {vs extra : List Value} (hall : cs.all AV.one = true) (hv : VRels φ cs vs) (c S : Nat) (pl : Bool) (e : TypeId) (fr : Nat × Nat) (hfr : Mark pl S fr) (hS : S = vs.length + extra.length) :
    ORel φ ⟨c, 0, S⟩ (.cells none 0 pl (cs.map some)) (.cells (vs ++ extra).toArray e fr) := by
  subst hS
  refine ⟨_, e, fr, rfl, by simp, by simp [hv.length], hfr, ?_⟩
  intro i x hx
  rw [List.getElem?_map] at hx
  cases hc : cs[i]? with
  | none => simp [hc] at hx
  | some y =>
    simp only [hc, Option.map_some, Option.some.injEq] at hx
    subst hx
    obtain ⟨v, hv', hr⟩ := hv.get i y hc
    refine ⟨List.all_eq_true.1 hall _ (List.mem_of_getElem? hc), v, ?_, hr⟩
    simp only [Nat.zero_add, List.getElem?_toArray]
    rw [List.getElem?_append_left (List.getElem?_eq_some_iff.1 hv').1]; exact hv'

theorem mk_alloc {dst : Option Tmp} {ty : TypeId} {pos : String} {after : Array Edge} {guard : Option (Nat × Bool)} {elem : TypeId} {r : AO × (Nat → AV)}
    (hr : mk P ρ (.alloc elem) = some r) : MkOK P φ ρ' ⟨dst, .alloc elem, ty, pos, after, guard⟩ r.1 r.2 := by
  simp only [mk] at hr
  obtain ⟨i, hi, hr⟩ := opt_bind hr
  obtain ⟨z, hz, hr⟩ := opt_bind hr
  obtain ⟨hall, hr⟩ := then_some hr
  cases hr
  intro w
  refine ⟨w, .cells z.cells elem, z.cells.size, .pointer (some ⟨w.heap.size, 0, none⟩), .inl rfl, ?_, ?_, ?_⟩
  · simp [execOp, Instr.alloc, zeroValue, typeInfo, hi, hz, newVar, newRow]
  · have := orel_row (extra := []) hall (litsOf_rel (φ := φ) z) w.heap.size z.cells.size true elem (0, 0) (.inl rfl) (by simp)
    simpa using this
  · intro φ' id hid; simp only [VRel]; exact ⟨_, hid, rfl⟩
theorem mk_box (hρ : ∀ x, VRel φ (ρ x) (ρ' x)) {dst : Option Tmp} {ty : TypeId} {pos : String} {after : Array Edge} {guard : Option (Nat × Bool)} {elem : TypeId} {x : Operand} {r : AO × (Nat → AV)}
    (hr : mk P ρ (.box elem x) = some r) : MkOK P φ ρ' ⟨dst, .box elem x, ty, pos, after, guard⟩ r.1 r.2 := by
  simp only [mk] at hr
  obtain ⟨hall, hr⟩ := then_some hr
  cases hr
  intro w
  refine ⟨w, .cells (ρ' x).cells elem, (ρ' x).cells.size, .pointer (some ⟨w.heap.size, 0, none⟩), .inl rfl, ?_, ?_, ?_⟩
  · simp [execOp, Instr.box, newVar, newRow]
  · have := orel_row (extra := []) hall (AV.cells_rel (hρ x)) w.heap.size (ρ' x).cells.size true elem (0, 0) (.inl rfl) (by simp)
    simpa using this
  · intro φ' id hid; simp only [VRel]; exact ⟨_, hid, rfl⟩

theorem foldl_put (off : Nat) : ∀ (c : List Value) (k : Nat) (cs : Array Value), off + k + c.length ≤ cs.size →
    (c.zipIdx k).foldl (fun (cs : Array Value) (x : Value × Nat) => cs.setIfInBounds (off + x.2) x.1) cs = (cs.toList.take (off + k) ++ c ++ cs.toList.drop (off + k + c.length)).toArray
  | [], k, cs, _ => by simp
  | v :: c, k, cs, h => by
    simp only [List.zipIdx_cons, List.foldl_cons]
    rw [foldl_put off c (k + 1) _ (by simp at h ⊢; omega)]
    congr 1
    have e := list_seg_step cs.toList (off + k) v c (by simp at h ⊢; omega)
    simpa [Array.toList_setIfInBounds, Nat.add_assoc] using e

theorem fill_rel (place : Nat → Option (Nat × Nat)) : ∀ (ps : List (Nat × Operand)) (cs : List AV) (cs' : Array Value) (r : List AV), VRels φ cs cs'.toList → (∀ x, VRel φ (ρ x) (ρ' x)) →
    fillA place cs (ps.map fun p => (p.1, ρ p.2)) = some r → ∃ r' : Array Value, Instr.fill place cs' (ps.map fun p => (p.1, ρ' p.2)) = some r' ∧ VRels φ r r'.toList
  | [], cs, cs', r, hc, _, h => by
    simp only [List.map_nil, fillA, Option.some.injEq] at h
    subst h
    exact ⟨cs', rfl, hc⟩
  | p :: ps, cs, cs', r, hc, hρ, h => by
    simp only [List.map_cons, fillA] at h
    cases hp : place p.1 with
    | none => simp [hp] at h
    | some os =>
      obtain ⟨off, size⟩ := os
      simp only [hp] at h
      obtain ⟨hb, h⟩ := then_some h
      rw [Bool.and_eq_true, beq_iff, ble_iff] at hb
      have hcell := AV.cells_rel (hρ p.2)
      have hl : (ρ' p.2).cells.size = (ρ p.2).cells.length := by rw [hcell.length]; simp
      have hcl : cs.length = cs'.size := by rw [hc.length]; simp
      have hfold : (ρ' p.2).cells.zipIdx.foldl (fun (cs : Array Value) (x : Value × Nat) => cs.setIfInBounds (off + x.2) x.1) cs' =
          (cs'.toList.take off ++ (ρ' p.2).cells.toList ++ cs'.toList.drop (off + (ρ' p.2).cells.size)).toArray := by
        rw [← Array.foldl_toList, Array.toList_zipIdx]
        have := foldl_put off (ρ' p.2).cells.toList 0 cs' (by simp; omega)
        simpa using this
      obtain ⟨r', h1, h2⟩ := fill_rel place ps _ ((cs'.toList.take off ++ (ρ' p.2).cells.toList ++ cs'.toList.drop (off + (ρ' p.2).cells.size)).toArray) r (by
        rw [List.toList_toArray]
        refine ((hc.take off).append hcell).append ?_
        rw [hl]
        exact hc.drop _) hρ h
      refine ⟨r', ?_, h2⟩
      simp only [List.map_cons, Instr.fill, hp]
      rw [if_neg (by simp; omega)]
      rw [← h1, ← hfold]

theorem ok_build (h : WRel K w0 φ A w) (hρ : ∀ x, VRel φ (ρ x) (ρ' x)) {dst : Option Tmp} {ty : TypeId} {pos : String} {after : Array Edge} {guard : Option (Nat × Bool)} {t : TypeId} {ps : Array (Nat × Operand)} {r : AN}
    (hr : aopRef P A ρ ⟨dst, .build t ps, ty, pos, after, guard⟩ = some r) : OpOK P K w0 φ w ρ' ⟨dst, .build t ps, ty, pos, after, guard⟩ r := by
  simp only [aopRef] at hr
  obtain ⟨i, hi, hr⟩ := opt_bind hr
  obtain ⟨z, hz, hr⟩ := opt_bind hr
  cases hu : P.underlying t with
  | none => simp [hu] at hr
  | some d =>
    rw [hu] at hr
    cases d <;> simp only [reduceCtorEq] at hr
    case struct fields =>
      obtain ⟨places, hpl, hr⟩ := opt_bind hr
      obtain ⟨cs, hcs, hr⟩ := opt_bind hr
      cases hr
      obtain ⟨r', h1, h2⟩ := fill_rel (places[·]?) ps.toList (litsOf z) z.cells cs (litsOf_rel z) hρ hcs
      have hm : (fields.mapM fun f => do pure (f.offset, ← sizeOf f.type) : Sem (Array (Nat × Nat))).run P w = .ok places.toArray w := by
        have hpl' := seqOpt_some hpl
        rw [Array.mapM_eq_mapM_toList, Sem.run_map]
        have : ∀ (l : List Field) (q : List (Nat × Nat)), l.map (fun f => (tsize P f.type).map fun n => (f.offset, n)) = q.map some →
            (l.mapM fun f => (do pure (f.offset, ← sizeOf f.type) : Sem (Nat × Nat))).run P w = .ok q w := by
          intro l
          induction l with
          | nil => intro q hq; cases q <;> simp at hq ⊢
          | cons f l ih =>
            intro q hq
            cases q with
            | nil => simp at hq
            | cons x q =>
              simp only [List.map_cons, List.cons.injEq] at hq
              obtain ⟨n, hn, e⟩ := opt_map hq.1
              simp only [List.mapM_cons, Sem.run_bind, run_sizeOf' hn, Result.andThen_ok, Sem.run_pure, ih q hq.2, e]
        rw [this _ _ hpl', Result.andThen_ok]
      refine ⟨.agg r', ?_, by simp only [VRel]; exact ⟨r', rfl, h2⟩⟩
      have h1' : Instr.fill (places.toArray[·]?) z.cells (ps.map fun p => (p.1, ρ' p.2)).toList = some r' := by
        rw [Array.toList_map, ← h1]
        congr 1
        funext k
        simp
      simp only [execOp, Instr.build, zeroValue, typeInfo, Sem.run_bind, run_program, Result.andThen_ok, hi, hz, Sem.run_pure, run_underlying hu, hm, h1']
    case array n elem =>
      obtain ⟨size, hsz, hr⟩ := opt_bind hr
      obtain ⟨cs, hcs, hr⟩ := opt_bind hr
      cases hr
      obtain ⟨r', h1, h2⟩ := fill_rel (fun i => some (i * size, size)) ps.toList (litsOf z) z.cells cs (litsOf_rel z) hρ hcs
      refine ⟨.agg r', ?_, by simp only [VRel]; exact ⟨r', rfl, h2⟩⟩
      have h1' : Instr.fill (fun i => some (i * size, size)) z.cells (ps.map fun p => (p.1, ρ' p.2)).toList = some r' := by
        rw [Array.toList_map, ← h1]
      simp only [execOp, Instr.build, zeroValue, typeInfo, Sem.run_bind, run_program, Result.andThen_ok, hi, hz, Sem.run_pure, run_underlying hu, run_sizeOf' hsz, h1']
end
end Go.Proofs.YtbhlagidmifijaaGreatDoor.AX
