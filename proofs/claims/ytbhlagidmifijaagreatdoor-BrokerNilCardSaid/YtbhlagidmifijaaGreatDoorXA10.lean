/-
  The executor against the machine: a region that draws its order comes to the same in whatever order.
-/
import Derived.Test.YtbhlagidmifijaaGreatDoorXA9
namespace Go.Proofs.YtbhlagidmifijaaGreatDoor.AX
open Go.RowKit

theorem maskOf_bit {acc : List Nat} {o : Oper} {j : Nat} (h : (maskOf acc o).testBit j = true) :
    ∃ e ∈ o.after.toList, Region.binds .any e = true ∧ (e.on = j ∨ (acc.getD e.on 0).testBit j = true) := by
  unfold maskOf at h
  have key : ∀ (l : List Edge) (s : Nat), (l.foldl (fun s e => bif Region.binds .any e then s ||| (2 ^ e.on) ||| acc.getD e.on 0 else s) s).testBit j = true →
      s.testBit j = true ∨ ∃ e ∈ l, Region.binds .any e = true ∧ (e.on = j ∨ (acc.getD e.on 0).testBit j = true) := by
    intro l
    induction l with
    | nil => intro s hs; exact .inl hs
    | cons e l ih =>
      intro s hs
      simp only [List.foldl_cons] at hs
      rcases ih _ hs with h1 | ⟨e', h1, h2⟩
      · cases hb : Region.binds .any e with
        | false => rw [hb] at h1; exact .inl h1
        | true =>
          rw [hb] at h1
          simp only [cond_true, Nat.testBit_or, Bool.or_eq_true] at h1
          rcases h1 with (h1 | h1) | h1
          · exact .inl h1
          · rw [Nat.testBit_two_pow] at h1
            exact .inr ⟨e, by simp, hb, .inl (by simpa using h1)⟩
          · exact .inr ⟨e, by simp, hb, .inr h1⟩
      · exact .inr ⟨e', by simp [h1], h2⟩
  rcases key _ _ h with h1 | h1
  · simp at h1
  · exact h1

theorem masks_spec : ∀ (l : List Oper) (acc : List Nat), (masks l acc).take acc.length = acc ∧ ∀ (i : Nat) (o : Oper), l[i]? = some o → ∃ pre : List Nat, pre = (masks l acc).take (acc.length + i) ∧ pre.length = acc.length + i ∧ (masks l acc)[acc.length + i]? = some (maskOf pre o)
  | [], acc => ⟨by simp [masks], by simp⟩
  | o :: l, acc => by
    obtain ⟨h1, h2⟩ := masks_spec l (acc ++ [maskOf acc o])
    simp only [masks]
    have h1' : (masks l (acc ++ [maskOf acc o])).take (acc.length + 1) = acc ++ [maskOf acc o] := by simpa using h1
    refine ⟨?_, fun i o' ho => ?_⟩
    · have := congrArg (List.take acc.length) h1'
      rw [List.take_take, Nat.min_eq_left (by omega)] at this
      simpa using this
    · cases i with
      | zero =>
        simp only [List.getElem?_cons_zero, Option.some.injEq] at ho
        subst ho
        refine ⟨acc, ?_, rfl, ?_⟩
        · have := congrArg (List.take acc.length) h1'
          rw [List.take_take, Nat.min_eq_left (by omega)] at this
          simpa using this.symm
        · have := congrArg (fun q => q[acc.length]?) h1'
          simpa [List.getElem?_take] using this
      | succ i =>
        obtain ⟨pre, q1, q2, q3⟩ := h2 i o' (by simpa using ho)
        simp only [List.length_append, List.length_cons, List.length_nil] at q1 q2 q3
        exact ⟨pre, by rw [q1]; congr 1; omega, by omega, by rw [← q3]; congr 1; omega⟩

/-- What a bit of a mask says. -/
theorem mask_bit {l : List Oper} {i j : Nat} {o : Oper} (ho : l[i]? = some o) (h : ((masks l []).getD i 0).testBit j = true) :
    ∃ e ∈ o.after.toList, Region.binds .any e = true ∧ (e.on = j ∨ (e.on < i ∧ ((masks l []).getD e.on 0).testBit j = true)) := by
  obtain ⟨pre, h1, h2, h3⟩ := (masks_spec l []).2 i o ho
  simp only [List.length_nil, Nat.zero_add] at h1 h2 h3
  have hm : (masks l []).getD i 0 = maskOf pre o := by simp [List.getD, h3]
  rw [hm] at h
  obtain ⟨e, q1, q2, q3⟩ := maskOf_bit h
  refine ⟨e, q1, q2, q3.imp id fun q => ?_⟩
  by_cases hlt : e.on < i
  · refine ⟨hlt, ?_⟩
    rw [h1] at q
    simpa [List.getD, List.getElem?_take, hlt] using q
  · have : pre.getD e.on 0 = 0 := by simp [List.getD, List.getElem?_eq_none (show pre.length ≤ e.on by omega)]
    rw [this] at q
    simp at q

theorem beq_lit {a b : Value} (h : Instr.sameBits 0 a b = true) : a = b := by
  cases a <;> cases b <;> simp [Instr.sameBits] at h <;> first | (simp_all; done) | (rw [← list_beq_bytes, beq_iff_eq] at h; rw [WideShapes.bytes_inj h])

mutual
theorem AV.beq_eq : ∀ {a b : AV}, AV.beq a b = true → a = b
  | .lit a, .lit b, h => by
    simp only [AV.beq, Bool.or_eq_true] at h
    rcases h with h | h
    · rw [beq_lit h]
    · split at h
      · rfl
      · rfl
      · rfl
      · rename_i x y
        simp only [Bool.and_eq_true, Array.isEmpty_iff] at h
        rw [h.1, h.2]
      · rename_i f x u g y v
        simp only [Bool.and_eq_true, Array.isEmpty_iff, beq_iff] at h
        obtain ⟨⟨⟨⟨h1, h2⟩, h3⟩, h4⟩, h5⟩ := h
        rw [h1, h2, h3, h4, h5]
      · cases h
  | .ptr b o, .ptr b' o', h => by
    simp only [AV.beq, Bool.and_eq_true, beq_iff] at h
    rw [h.1, h.2]
  | .slice b o z n c, .slice b' o' z' n' c', h => by
    simp only [AV.beq, Bool.and_eq_true, beq_iff] at h
    obtain ⟨⟨⟨⟨h1, h2⟩, h3⟩, h4⟩, h5⟩ := h
    have : c = c' := by
      cases c <;> cases c' <;> simp [beq_iff] at h5 <;> simp_all
    rw [h1, h2, h3, h4, this]
  | .map b, .map b', h => by
    simp only [AV.beq, beq_iff] at h
    rw [h]
  | .iface t v, .iface t' v', h => by
    simp only [AV.beq, Bool.and_eq_true, beq_iff] at h
    rw [h.1, AV.beq_eq h.2]
  | .agg l, .agg l', h => by
    simp only [AV.beq] at h
    rw [AV.beqs_eq h]
  | .tuple l, .tuple l', h => by
    simp only [AV.beq] at h
    rw [AV.beqs_eq h]
theorem AV.beqs_eq : ∀ {a b : List AV}, AV.beqs a b = true → a = b
  | [], [], _ => rfl
  | a :: l, b :: m, h => by
    simp only [AV.beqs, Bool.and_eq_true] at h
    rw [AV.beq_eq h.1, AV.beqs_eq h.2]
end

theorem lookD_some : ∀ {os : List Oper} {vs : List AV} {t : Tmp} {v : AV}, lookD os vs t = some v → ∃ (j : Nat) (o : Oper), os[j]? = some o ∧ o.dst = some t ∧ vs[j]? = some v
  | o :: os, u :: vs, t, v, h => by
    simp only [lookD] at h
    rcases cond_some h with ⟨hb, h⟩ | ⟨_, h⟩
    · cases h
      exact ⟨0, o, rfl, by simpa using hb, rfl⟩
    · obtain ⟨j, o', h1, h2, h3⟩ := lookD_some h
      exact ⟨j + 1, o', by simpa using h1, h2, by simpa using h3⟩
  | [], _, _, _, h => by simp [lookD] at h
  | _ :: _, [], _, _, h => by simp [lookD] at h
theorem cond_some' {α : Type} {c : Bool} {x y : Option α} {b : Option α} (h : (bif c then x else y) = b) : (c = true ∧ x = b) ∨ (c = false ∧ y = b) := by
  cases c
  · exact .inr ⟨rfl, h⟩
  · exact .inl ⟨rfl, h⟩
theorem lookD_none : ∀ {os : List Oper} {vs : List AV} {t : Tmp}, lookD os vs t = none → ∀ (j : Nat) (o : Oper) (v : AV), os[j]? = some o → vs[j]? = some v → o.dst ≠ some t
  | o :: os, u :: vs, t, h, j, o', v, h1, h2 => by
    simp only [lookD] at h
    rcases cond_some' h with ⟨_, h⟩ | ⟨hb, h⟩
    · cases h
    · cases j with
      | zero =>
        simp only [List.getElem?_cons_zero, Option.some.injEq] at h1
        subst h1
        simpa using hb
      | succ j => exact lookD_none h j o' v (by simpa using h1) (by simpa using h2)
  | [], _, _, _, j, o', v, h1, _ => by simp at h1
  | _ :: _, [], _, _, j, o', v, _, h2 => by simp at h2

theorem finalT_get : ∀ (os : List Oper) (vs : List AV) (tm : T AV) (t : Tmp), os.length = vs.length → (∀ (i j : Nat) (o o' : Oper), os[i]? = some o → os[j]? = some o' → o.dst = some t → o'.dst = some t → i = j) →
    (finalT os vs tm).get t = match lookD os vs t with | some v => some v | none => tm.get t
  | [], vs, tm, t, _, _ => by cases vs <;> rfl
  | o :: os, [], tm, t, h, _ => by simp at h
  | o :: os, v :: vs, tm, t, h, hd => by
    simp only [finalT, lookD]
    rw [finalT_get os vs _ t (by simpa using h) fun i j o1 o2 h1 h2 h3 h4 => by
      have := hd (i + 1) (j + 1) o1 o2 (by simpa using h1) (by simpa using h2) h3 h4
      omega]
    cases hb : (o.dst == some t) with
    | false =>
      simp only [cond_false]
      cases lookD os vs t with
      | some u => rfl
      | none =>
        cases hdst : o.dst with
        | none => rfl
        | some d =>
          have : d ≠ t := by rw [hdst] at hb; simpa using hb
          simp only [T.get_set_other _ _ _ _ this]
    | true =>
      have hdst : o.dst = some t := by simpa using hb
      simp only [cond_true, hdst]
      cases hl : lookD os vs t with
      | some u =>
        obtain ⟨j, o', h1, h2, _⟩ := lookD_some hl
        have := hd 0 (j + 1) o o' rfl (by simpa using h1) hdst h2
        omega
      | none => simp only [T.get_set_same]
end Go.Proofs.YtbhlagidmifijaaGreatDoor.AX
