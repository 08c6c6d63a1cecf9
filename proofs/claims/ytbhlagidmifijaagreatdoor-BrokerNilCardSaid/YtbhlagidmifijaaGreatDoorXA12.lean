/-
  The executor against the machine: a region that draws its order, third part: what floats, and one more operation done.
-/
import Derived.Test.YtbhlagidmifijaaGreatDoorXA11
namespace Go.Proofs.YtbhlagidmifijaaGreatDoor.AX
open Go.RowKit

section
variable {P : Program} {K : Nat → Prop} {w0 : Base} {φ : Phi} {N base : Nat} {call : ACall} {ops : Array Oper} {tm : T AV} {A0 : AW} {es : List DE}

theorem getD_put {listed : Array Bool} {i : Nat} (hi : i < listed.size) (j : Nat) (d : Bool) : (listed.setIfInBounds i true).getD j d = if j = i then true else listed.getD j d := by
  by_cases h : j = i
  · subst h; simp [hi]
  · rw [if_neg h]; simp [Array.getElem?_setIfInBounds_ne (Ne.symm h)]

theorem mk_notkin {ρ : Operand → AV} {o : Op} {z : AO × (Nat → AV)} (h : mk P ρ o = some z) : ∀ g base pl cs, z.1 ≠ .cells (some g) base pl cs := by
  intro g base pl cs e
  cases o
  case alloc t =>
    simp only [mk] at h
    obtain ⟨i, _, h⟩ := opt_bind h
    obtain ⟨_, _, h⟩ := opt_bind h
    obtain ⟨_, h⟩ := then_some h
    cases h; cases e
  case box t x =>
    simp only [mk] at h
    obtain ⟨_, h⟩ := then_some h
    cases h; cases e
  case buildSlice t n ps =>
    simp only [mk] at h
    split at h
    · obtain ⟨i, _, h⟩ := opt_bind h
      obtain ⟨_, _, h⟩ := opt_bind h
      obtain ⟨_, h⟩ := guard_some h
      obtain ⟨_, _, h⟩ := opt_bind h
      obtain ⟨_, h⟩ := then_some h
      cases h; cases e
    · cases h
  case makeMap t q =>
    simp only [mk] at h
    split at h
    · cases h; cases e
    · split at h
      · cases h; cases e
      · cases h
    · cases h
  case makeSlice t x y =>
    simp only [mk] at h
    split at h
    · obtain ⟨i, _, h⟩ := opt_bind h
      obtain ⟨_, _, h⟩ := opt_bind h
      obtain ⟨_, h⟩ := then_some h
      cases h; cases e
    · cases h
  case convert s d x =>
    simp only [mk] at h
    split at h
    · split at h
      · obtain ⟨_, h⟩ := then_some h
        cases h; cases e
      · cases h
    · cases h
  all_goals simp [mk] at h

theorem dstep_fl {mask i : Nat} {o : Oper} {A : AW} {e : DE} {z : AO} (hd : dstep P call ops tm base mask i o es A = some e) (hz : e.fl = some z) :
    wantedD ops tm (es.map (·.v)) o = some true ∧ ∃ f, mk P (evalD ops.toList tm (es.map (·.v)) (o.looksAt ops)) o.op = some (z, f) ∧ e = ⟨false, f (base + i), A, some z⟩ := by
  have wr : ∀ (f : Nat) (A1 : AW) (v : AV) (A' : AW), wrote base f A A1 v A' = some e → False := by
    intro f A1 v A' h
    obtain ⟨_, h⟩ := then_some h
    cases h
    cases hz
  unfold dstep at hd
  simp only at hd
  split at hd
  · cases hd; cases hz
  · rename_i hw
    refine ⟨hw, ?_⟩
    split at hd
    · rename_i zz hmk
      cases hd
      cases hz
      exact ⟨zz.2, hmk, rfl⟩
    · split at hd
      · cases hd; cases hz
      · split at hd
        · exact (wr _ _ _ _ hd).elim
        · exact (wr _ _ _ _ hd).elim
        · split at hd
          · exact (wr _ _ _ _ hd).elim
          · cases hd
        · cases hd
  · cases hd

theorem flAt_some {p : Nat → Bool} {l : List (Option AO)} {b : Nat} {o : AO} (h : flAt base p 0 l b = some o) : ∃ j, b = base + j ∧ l[j]? = some (some o) ∧ p j = true := by
  unfold flAt at h
  split at h
  · rename_i hle
    split at h
    · rename_i z hz
      split at h
      · rename_i hp
        cases h
        refine ⟨b - base, by omega, ?_, hp⟩
        simpa using hz
      · cases h
    · cases h
  · cases h
theorem flAt_of {p : Nat → Bool} {l : List (Option AO)} {j : Nat} {o : AO} (h : l[j]? = some (some o)) (hp : p j = true) : flAt base p 0 l (base + j) = some o := by
  unfold flAt
  rw [if_pos (by omega)]
  have : base + j - (base + 0) = j := by omega
  rw [this, h]
  have : base + j - base = j := by omega
  simp only [this, hp, if_true]

theorem full_get (listed : Array Bool) (A : AW) (b : Nat) : (fullD base es listed A).get b = (A.get b).or (flAt base (fun j => listed.getD j false) 0 (es.map (·.fl)) b) := realize_get _ _ _ _ _ _
theorem full_sub {listed : Array Bool} {A : AW} (b : Nat) (o : AO) (h : A.get b = some o) : (fullD base es listed A).get b = some o := by rw [full_get, h]; rfl
theorem full_case {listed : Array Bool} {A : AW} {b : Nat} {o : AO} (h : (fullD base es listed A).get b = some o) : A.get b = some o ∨ (A.get b = none ∧ ∃ j e, b = base + j ∧ es[j]? = some e ∧ e.fl = some o ∧ listed.getD j false = true) := by
  rw [full_get] at h
  cases hA : A.get b with
  | some x => rw [hA] at h; exact .inl h
  | none =>
    rw [hA, Option.none_or] at h
    obtain ⟨j, h1, h2, h3⟩ := flAt_some h
    rw [List.getElem?_map] at h2
    obtain ⟨e, h4, h5⟩ := opt_map h2
    exact .inr ⟨rfl, j, e, h1, h4, h5, h3⟩
theorem full_float {listed : Array Bool} {A : AW} {j : Nat} {e : DE} {z : AO} (h1 : A.get (base + j) = none) (h2 : es[j]? = some e) (h3 : e.fl = some z) (h4 : listed.getD j false = true) : (fullD base es listed A).get (base + j) = some z := by
  rw [full_get, h1]
  have : (es.map (·.fl))[j]? = some (some z) := by rw [List.getElem?_map, h2, Option.map_some, h3]
  rw [flAt_of this h4]; rfl

end
end Go.Proofs.YtbhlagidmifijaaGreatDoor.AX
