/-
  The executor against the machine: a region that draws its order, second part.
-/
import Derived.Test.YtbhlagidmifijaaGreatDoorXA10b
namespace Go.Proofs.YtbhlagidmifijaaGreatDoor.AX
open Go.RowKit

theorem countFrom_mono (p q : Nat → Bool) : ∀ (es : List DE) (k : Nat), (∀ (j : Nat) (e : DE), es[j]? = some e → e.w = true → p (k + j) = true → q (k + j) = true) → countFrom es k p ≤ countFrom es k q
  | [], k, _ => Nat.le_refl _
  | e :: es, k, h => by
    simp only [countFrom]
    have ih := countFrom_mono p q es (k + 1) fun j e' h1 h2 h3 => by
      have := h (j + 1) e' (by simpa using h1) h2 (by rw [show k + (j + 1) = k + 1 + j by omega]; exact h3)
      rwa [show k + (j + 1) = k + 1 + j by omega] at this
    have h0 := h 0 e rfl
    simp only [Nat.add_zero] at h0
    cases hw : e.w <;> cases hp : p k <;> cases hq : q k <;> simp_all <;> omega
theorem countFrom_congr (p q : Nat → Bool) (es : List DE) (k : Nat) (h : ∀ j e, es[j]? = some e → e.w = true → (p (k + j) = true ↔ q (k + j) = true)) : countFrom es k p = countFrom es k q :=
  Nat.le_antisymm (countFrom_mono p q es k fun j e h1 h2 => (h j e h1 h2).1) (countFrom_mono q p es k fun j e h1 h2 => (h j e h1 h2).2)
theorem countFrom_put (p q : Nat → Bool) : ∀ (es : List DE) (k i : Nat) (e : DE), es[i]? = some e → (∀ j, j ≠ k + i → q j = p j) → q (k + i) = true → p (k + i) = false →
    countFrom es k q = countFrom es k p + (if e.w = true then 1 else 0)
  | [], k, i, e, h, _, _, _ => by simp at h
  | x :: es, k, 0, e, h, hq, h1, h2 => by
    simp only [List.getElem?_cons_zero, Option.some.injEq] at h
    subst h
    simp only [countFrom]
    simp only [Nat.add_zero] at h1 h2
    have : countFrom es (k + 1) q = countFrom es (k + 1) p := countFrom_congr q p es (k + 1) fun j e _ _ => by rw [hq (k + 1 + j) (by omega)]
    rw [this, h1, h2]
    cases x.w <;> simp; omega
  | x :: es, k, i + 1, e, h, hq, h1, h2 => by
    simp only [countFrom]
    have ih := countFrom_put p q es (k + 1) i e (by simpa using h) (fun j hj => hq j (by omega)) (by rw [show k + 1 + i = k + (i + 1) by omega]; exact h1) (by rw [show k + 1 + i = k + (i + 1) by omega]; exact h2)
    rw [ih, hq k (by omega)]
    omega
theorem countFrom_below : ∀ (es : List DE) (k i : Nat), countFrom es k (fun j => Nat.blt j (k + i)) = ((es.take i).filter (·.w)).length
  | [], k, i => by simp [countFrom]
  | e :: es, k, 0 => by
    have : countFrom (e :: es) k (fun j => Nat.blt j (k + 0)) = countFrom (e :: es) k (fun _ => false) := countFrom_congr _ _ _ _ fun j e _ _ => by
      simp only [blt_iff]; constructor
      · intro h; omega
      · intro h; cases h
    rw [this]
    have z : ∀ (es : List DE) (k : Nat), countFrom es k (fun _ => false) = 0 := by
      intro es
      induction es with
      | nil => intro k; rfl
      | cons e es ih => intro k; simp [countFrom, ih]
    rw [z]; rfl
  | e :: es, k, i + 1 => by
    simp only [countFrom, List.take_succ_cons, List.filter_cons]
    have ih := countFrom_below es (k + 1) i
    rw [show k + 1 + i = k + (i + 1) by omega] at ih
    rw [ih]
    have hk : Nat.blt k (k + (i + 1)) = true := blt_iff.2 (by omega)
    rw [hk]
    cases e.w <;> simp; omega

theorem worldsD_last (A : AW) (es : List DE) : (worldsD A es)[countW es fun _ => true]? = some ((worldsD A es).getLastD A) := by
  have h : countW es (fun _ => true) = (es.filter (·.w)).length := by
    have := countFrom_below es 0 es.length
    rw [List.take_length] at this
    rw [← this]
    exact countFrom_congr _ _ _ _ fun j e hj _ => by
      have := (List.getElem?_eq_some_iff.1 hj).1
      simp only [blt_iff]; constructor
      · intro _; omega
      · intro _; trivial
  rw [h]
  unfold worldsD
  cases hl : (es.filter (·.w)).map (·.A) with
  | nil =>
    have : (es.filter (·.w)).length = 0 := by have := congrArg List.length hl; simpa using this
    rw [this]; rfl
  | cons x xs =>
    have : (es.filter (·.w)).length = xs.length + 1 := by have := congrArg List.length hl; simpa using this
    rw [this]
    simp [List.getLastD, List.getLast_eq_getElem]

theorem sameFrom_spec {P : Program} {ρ : Operand → AV} {o : Oper} {v : AV} {Ws : List AW} {own : Nat} : ∀ (n k : Nat), sameFrom P ρ o v Ws own k n = true → ∀ j, k ≤ j → j < k + n → j ≠ own → ∃ A, Ws[j]? = some A ∧ aop P A ρ o = some (.same v)
  | 0, k, _, j, h1, h2, _ => by omega
  | n + 1, k, h, j, h1, h2, h3 => by
    simp only [sameFrom, Bool.and_eq_true, Bool.or_eq_true, beq_iff] at h
    by_cases hj : j = k
    · subst hj
      rcases h.1 with h4 | h4
      · exact absurd h4 h3
      · split at h4
        · rename_i A hA
          split at h4
          · rename_i v' hv
            rw [AV.beq_eq h4] at hv
            exact ⟨A, hA, hv⟩
          · cases h4
        · cases h4
    · exact sameFrom_spec n (k + 1) h.2 j (by omega) (by omega) h3

theorem dcheck_spec {P : Program} {N : Nat} {ops : Array Oper} {tm : T AV} {msk : List Nat} {vals : List AV} {es0 : List DE} {Ws : List AW} : ∀ (i : Nat) (l : List Oper) (m : List DE), dcheck P N ops tm msk vals es0 Ws i l m = true →
    ∀ (k : Nat) (o : Oper) (e : DE), l[k]? = some o → m[k]? = some e → dcheckOne P N ops tm msk (vals.take (i + k)) es0 Ws (i + k) o e = true
  | i, o :: l, e :: m, h, k, o', e', h1, h2 => by
    simp only [dcheck, Bool.and_eq_true] at h
    cases k with
    | zero =>
      simp only [List.getElem?_cons_zero, Option.some.injEq] at h1 h2
      subst h1; subst h2
      exact h.1
    | succ k =>
      have := dcheck_spec (i + 1) l m h.2 k o' e' (by simpa using h1) (by simpa using h2)
      rwa [show i + 1 + k = i + (k + 1) by omega] at this
  | i, [], m, _, k, o', e', h1, _ => by simp at h1
  | i, _ :: _, [], _, k, o', e', _, h2 => by simp at h2

/-- Which numbers are held free: those of the operations that are not done. -/
def freeD (w0 : Base) (base : Nat) (ops : Array Oper) (listed : Array Bool) : Base := ⟨w0.w, fun b => w0.D b ∨ ∃ j, j < ops.size ∧ listed.getD j false = false ∧ b = base + j⟩

def fullD (base : Nat) (es : List DE) (listed : Array Bool) (A : AW) : AW := realize base (fun j => listed.getD j false) 0 (es.map (·.fl)) A

/-- The machine's state inside a drawn region, so many of the operations done. -/
structure RelD (K : Nat → Prop) (w0 : Base) (φ : Phi) (N : Nat) (base : Nat) (ops : Array Oper) (tm : T AV) (A0 : AW) (es : List DE) (listed : Array Bool) (a : Act) (w : World) : Prop where
  world : ∃ A, (worldsD A0 es)[countW es fun j => listed.getD j false]? = some A ∧ WRel K (freeD w0 base ops listed) φ (fullD base es listed A) w
  size : a.tmps.size = N
  defers : a.defers = []
  done : ∀ (j : Nat) (o : Oper) (e : DE) (t : Tmp), ops[j]? = some o → es[j]? = some e → o.dst = some t → listed.getD j false = true → VRel φ e.v (a.tmps.getD t undef)
  rest : ∀ t : Tmp, (∀ (j : Nat) (o : Oper), ops[j]? = some o → o.dst = some t → listed.getD j false = false) → VRel φ ((tm.get t).getD (.lit undef)) (a.tmps.getD t undef)
  floats : ∀ (j : Nat) (e : DE) (z : AO), es[j]? = some e → e.fl = some z → listed.getD j false = true → ∃ p, φ (base + j) = some p

def Closed (ops : Array Oper) (listed : Array Bool) : Prop :=
  ∀ (i : Nat) (o : Oper) (g : Edge), ops[i]? = some o → listed.getD i false = true → g ∈ o.after.toList → Region.binds .any g = true → listed.getD g.on false = true

section
variable {P : Program} {B : Nat} {w0 : Base} {φ : Phi} {N : Nat} {call : ACall} {ops : Array Oper} {tm : T AV} {A0 : AW} {es : List DE}

theorem mask_closed {listed : Array Bool} (hcl : Closed ops listed) : ∀ (i : Nat) (o : Oper), ops[i]? = some o → (∀ g ∈ o.after.toList, Region.binds .any g = true → listed.getD g.on false = true) → ∀ j, ((masks ops.toList []).getD i 0).testBit j = true → listed.getD j false = true := by
  intro i
  induction i using Nat.strongRecOn with
  | _ i ih =>
    intro o ho hg j hj
    obtain ⟨e, h1, h2, h3⟩ := mask_bit (by rw [Array.getElem?_toList]; exact ho) hj
    rcases h3 with rfl | ⟨h4, h5⟩
    · exact hg e h1 h2
    · have hl := hg e h1 h2
      cases ho' : ops[e.on]? with
      | none =>
        exfalso
        have hlen : ops.size ≤ e.on := by
          rcases Nat.lt_or_ge e.on ops.size with h' | h'
          · simp [h'] at ho'
          · exact h'
        have hi : i < ops.size := (Array.getElem?_eq_some_iff.1 ho).1
        omega
      | some o' => exact ih e.on h4 o' ho' (fun g hg1 hg2 => hcl e.on o' g ho' hl hg1 hg2) j h5

theorem mask_lt (hE : ∀ (i : Nat) (o : Oper), ops[i]? = some o → ∀ g ∈ o.after.toList, Region.binds .any g = true → g.on < i) : ∀ (i : Nat) (o : Oper), ops[i]? = some o → ∀ j, ((masks ops.toList []).getD i 0).testBit j = true → j < i := by
  intro i
  induction i using Nat.strongRecOn with
  | _ i ih =>
    intro o ho j hj
    obtain ⟨e, h1, h2, h3⟩ := mask_bit (by rw [Array.getElem?_toList]; exact ho) hj
    have hlt := hE i o ho e h1 h2
    rcases h3 with rfl | ⟨h4, h5⟩
    · exact hlt
    · have : e.on < ops.size := by have := (Array.getElem?_eq_some_iff.1 ho).1; omega
      have := ih e.on h4 _ (Array.getElem?_eq_getElem this) j h5
      omega
end
section
variable {P : Program} {N : Nat}

/-- What a pass in the text's order has told. -/
theorem dpass_spec {call : ACall} {ops : Array Oper} {tm : T AV} {base : Nat} {msk : List Nat} : ∀ (l : List Oper) (k : Nat) (es0 : List DE) (A : AW) (es : List DE), dpass P call ops tm base msk k l es0 A = some es → es.length = l.length ∧
    ∀ (i : Nat) (o : Oper), l[i]? = some o → ∃ e, es[i]? = some e ∧ dstep P call ops tm base (msk.getD (k + i) 0) (k + i) o (es0 ++ es.take i) (match i with | 0 => A | j + 1 => (es.getD j default).A) = some e
  | [], k, es0, A, es, h => by
    simp only [dpass, Option.some.injEq] at h
    subst h
    exact ⟨rfl, by simp⟩
  | o :: l, k, es0, A, es, h => by
    simp only [dpass] at h
    cases hd : dstep P call ops tm base (msk.getD k 0) k o es0 A with
    | none => rw [hd] at h; cases h
    | some e =>
      simp only [hd] at h
      obtain ⟨m, hm, rfl⟩ := opt_map h
      obtain ⟨h1, h2⟩ := dpass_spec l (k + 1) (es0 ++ [e]) e.A m hm
      refine ⟨by simp [h1], fun i o' ho => ?_⟩
      cases i with
      | zero =>
        simp only [List.getElem?_cons_zero, Option.some.injEq] at ho
        subst ho
        exact ⟨e, rfl, by simpa using hd⟩
      | succ i =>
        obtain ⟨e', q1, q2⟩ := h2 i o' (by simpa using ho)
        refine ⟨e', by simpa using q1, ?_⟩
        rw [← q2, show k + (i + 1) = k + 1 + i by omega]
        simp only [List.take_succ_cons, List.append_assoc, List.singleton_append]
        cases i with
        | zero => rfl
        | succ i => rfl

theorem dstep_same {call : ACall} {ops : Array Oper} {tm : T AV} {base mask i : Nat} {o : Oper} {es : List DE} {A : AW} {e : DE} (hd : dstep P call ops tm base mask i o es A = some e) (hw : e.w = false) : e.A = A := by
  have wr : ∀ (f : Nat) (A1 : AW) (v : AV) (A' : AW), wrote base f A A1 v A' = some e → False := by
    intro f A1 v A' h
    obtain ⟨_, h⟩ := then_some h
    cases h
    cases hw
  unfold dstep at hd
  simp only at hd
  split at hd
  · cases hd; rfl
  · split at hd
    · cases hd; rfl
    · split at hd
      · cases hd; rfl
      · split at hd
        · exact (wr _ _ _ _ hd).elim
        · exact (wr _ _ _ _ hd).elim
        · split at hd
          · exact (wr _ _ _ _ hd).elim
          · cases hd
        · cases hd
  · cases hd

/-- The world ahead of an operation in the text's order: that behind as many writes. -/
theorem worldsD_at {call : ACall} {ops : Array Oper} {tm : T AV} {base : Nat} {msk : List Nat} : ∀ (l : List Oper) (k : Nat) (es0 : List DE) (A : AW) (es : List DE), dpass P call ops tm base msk k l es0 A = some es → ∀ i, i ≤ es.length →
    (worldsD A es)[((es.take i).filter (·.w)).length]? = some (match i with | 0 => A | j + 1 => (es.getD j default).A)
  | [], k, es0, A, es, h, i, hi => by
    simp only [dpass, Option.some.injEq] at h
    subst h
    have : i = 0 := by simpa using hi
    subst this
    rfl
  | o :: l, k, es0, A, es, h, i, hi => by
    simp only [dpass] at h
    cases hd : dstep P call ops tm base (msk.getD k 0) k o es0 A with
    | none => rw [hd] at h; cases h
    | some e =>
      simp only [hd] at h
      obtain ⟨m, hm, rfl⟩ := opt_map h
      have hlast : ∀ q : Nat, (match q with | 0 => e.A | j + 1 => (m.getD j default).A) = ((e :: m).getD q default).A := by intro q; cases q <;> rfl
      cases i with
      | zero => rfl
      | succ i =>
        have ih := worldsD_at l (k + 1) (es0 ++ [e]) e.A m hm i (by simpa using hi)
        rw [hlast i] at ih
        cases hw : e.w with
        | true =>
          simp only [List.take_succ_cons, List.filter_cons, hw, if_true, List.length_cons, worldsD, List.map_cons, List.getElem?_cons_succ]
          exact ih
        | false =>
          simp only [List.take_succ_cons, List.filter_cons, hw, Bool.false_eq_true, if_false, worldsD]
          rw [dstep_same hd hw] at ih
          exact ih
end
end Go.Proofs.YtbhlagidmifijaaGreatDoor.AX
