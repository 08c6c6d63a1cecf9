/-
  The executor against the machine: a region that draws its order, fourth part: one more operation done.
-/
import Derived.Test.YtbhlagidmifijaaGreatDoorXA12
namespace Go.Proofs.YtbhlagidmifijaaGreatDoor.AX
open Go.RowKit

section
variable {P : Program} {K : Nat → Prop} {w0 : Base} {φ : Phi} {N base : Nat} {call : ACall} {ops : Array Oper} {tm : T AV} {A0 : AW} {es : List DE}

theorem freeD_put {listed : Array Bool} {i : Nat} (hi : i < listed.size) (hD : ∀ b, w0.D b → b < base) (b : Nat) (h : (freeD w0 base ops (listed.setIfInBounds i true)).D b) : (freeD w0 base ops listed).D b ∧ b ≠ base + i := by
  rcases h with h | ⟨j, h1, h2, rfl⟩
  · have := hD b h
    exact ⟨.inl h, by omega⟩
  · rw [getD_put hi] at h2
    by_cases hj : j = i
    · rw [if_pos hj] at h2; cases h2
    · rw [if_neg hj] at h2
      exact ⟨.inr ⟨j, h1, h2, rfl⟩, by omega⟩

/-- One more operation done. -/
theorem RelD.put {listed : Array Bool} {a : Act} {w : World} (h : RelD K w0 φ N base ops tm A0 es listed a w) {i : Nat} {o : Oper} {e : DE} (hi : i < listed.size) (ho : ops[i]? = some o) (he : es[i]? = some e)
    (hd : ∀ d, o.dst = some d → d < N) (hu : ∀ j o' d, ops[j]? = some o' → o'.dst = some d → o.dst = some d → i = j) {φ' : Phi} (hx : Ext φ φ') {A' : AW} {w' : World} {v' : Value} (hv : VRel φ' e.v v') (hfl : ∀ z, e.fl = some z → ∃ p, φ' (base + i) = some p)
    (hW : (worldsD A0 es)[countW es fun j => (listed.setIfInBounds i true).getD j false]? = some A') (hw : WRel K (freeD w0 base ops (listed.setIfInBounds i true)) φ' (fullD base es (listed.setIfInBounds i true) A') w') :
    RelD K w0 φ' N base ops tm A0 es (listed.setIfInBounds i true) (a.put o.dst v') w' := by
  have other : ∀ t : Tmp, o.dst ≠ some t → (a.put o.dst v').tmps.getD t undef = a.tmps.getD t undef := by
    intro t ht
    cases hdst : o.dst with
    | none => rfl
    | some d =>
      have : d ≠ t := fun e' => ht (by rw [hdst, e'])
      simp [Act.put, Array.getElem?_setIfInBounds_ne this]
  refine ⟨⟨A', hW, hw⟩, ?_, ?_, ?_, ?_, ?_⟩
  · cases hdst : o.dst <;> simp [Act.put, h.size]
  · cases hdst : o.dst <;> simp [Act.put, h.defers]
  · intro j o' e' t h1 h2 h3 h4
    rw [getD_put hi] at h4
    by_cases hj : j = i
    · subst hj
      rw [ho] at h1; cases h1
      rw [he] at h2; cases h2
      have hlt := hd t h3
      rw [h3]
      have : t < a.tmps.size := by rw [h.size]; exact hlt
      simpa [Act.put, this] using hv
    · rw [if_neg hj] at h4
      rw [other t fun e1 => hj (hu j o' t h1 h3 e1).symm]
      exact VRel.ext hx _ _ (h.done j o' e' t h1 h2 h3 h4)
  · intro t ht
    have hne : o.dst ≠ some t := by
      intro e1
      have := ht i o ho e1
      rw [getD_put hi, if_pos rfl] at this
      cases this
    rw [other t hne]
    refine VRel.ext hx _ _ (h.rest t fun j o' h1 h2 => ?_)
    have := ht j o' h1 h2
    rw [getD_put hi] at this
    by_cases hj : j = i
    · rw [if_pos hj] at this; cases this
    · rwa [if_neg hj] at this
  · intro j e' z h1 h2 h3
    rw [getD_put hi] at h3
    by_cases hj : j = i
    · subst hj
      rw [he] at h1; cases h1
      exact hfl z h2
    · rw [if_neg hj] at h3
      obtain ⟨p, hp⟩ := h.floats j e' z h1 h2 h3
      exact ⟨p, hx _ _ hp⟩

/-- An operation that makes no block that floats. -/
theorem full_put {listed : Array Bool} {i : Nat} {e : DE} (hi : i < listed.size) (he : es[i]? = some e) (hz : e.fl = none) (A : AW) (b : Nat) : (fullD base es (listed.setIfInBounds i true) A).get b = (fullD base es listed A).get b := by
  rw [full_get, full_get]
  congr 1
  unfold flAt
  split
  · split
    · rename_i hle z hl
      have hne : b - base ≠ i := by
        rintro rfl
        rw [Nat.add_zero, List.getElem?_map, he, Option.map_some, hz] at hl
        cases hl
      simp only [getD_put hi, if_neg hne]
    · rfl
  · rfl
end
end Go.Proofs.YtbhlagidmifijaaGreatDoor.AX
