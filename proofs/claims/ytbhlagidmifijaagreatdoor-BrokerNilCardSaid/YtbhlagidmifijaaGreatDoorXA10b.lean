/-
  The executor against the machine: blocks that float in a drawn region; heaps of which a part is laid aside.
-/
import Derived.Test.YtbhlagidmifijaaGreatDoorXA10
namespace Go.Proofs.YtbhlagidmifijaaGreatDoor.AX
open Go.RowKit

def flAt (base : Nat) (p : Nat → Bool) (j : Nat) (l : List (Option AO)) (b : Nat) : Option AO :=
  if base + j ≤ b then (match l[b - (base + j)]? with | some (some z) => (if p (b - base) = true then some z else none) | _ => none) else none
theorem flAt_lt {base : Nat} {p : Nat → Bool} {j : Nat} {l : List (Option AO)} {b : Nat} (h : b < base + j) : flAt base p j l b = none := by
  unfold flAt; rw [if_neg (by omega)]
theorem flAt_self {base : Nat} {p : Nat → Bool} {j : Nat} {x : Option AO} {l : List (Option AO)} : flAt base p j (x :: l) (base + j) = (match x with | some z => (if p j = true then some z else none) | none => none) := by
  unfold flAt
  rw [if_pos (Nat.le_refl _), Nat.sub_self, List.getElem?_cons_zero, show base + j - base = j by omega]
  cases x <;> rfl
theorem flAt_ne {base : Nat} {p : Nat → Bool} {j : Nat} {x : Option AO} {l : List (Option AO)} {b : Nat} (h : b ≠ base + j) : flAt base p j (x :: l) b = flAt base p (j + 1) l b := by
  unfold flAt
  by_cases h1 : base + j ≤ b
  · rw [if_pos h1, if_pos (by omega)]
    have : b - (base + j) = (b - (base + (j + 1))) + 1 := by omega
    rw [this, List.getElem?_cons_succ]
  · rw [if_neg h1, if_neg (by omega)]

theorem realize_n (base : Nat) (p : Nat → Bool) : ∀ (l : List (Option AO)) (j : Nat) (A : AW), (realize base p j l A).n = A.n ∧ (realize base p j l A).G = A.G
  | [], j, A => by simp only [realize]; exact ⟨trivial, trivial⟩
  | none :: l, j, A => by simp only [realize]; exact realize_n base p l (j + 1) A
  | some z :: l, j, A => by
    simp only [realize]
    cases A.get (base + j) with
    | some o => exact realize_n base p l (j + 1) A
    | none =>
      cases p j with
      | true => exact realize_n base p l (j + 1) (A.put (base + j) z)
      | false => exact realize_n base p l (j + 1) A

theorem realize_get (base : Nat) (p : Nat → Bool) : ∀ (l : List (Option AO)) (j : Nat) (A : AW) (b : Nat), (realize base p j l A).get b = (A.get b).or (flAt base p j l b)
  | [], j, A, b => by
    simp only [realize]
    have : flAt base p j [] b = none := by unfold flAt; split <;> simp
    rw [this]; cases A.get b <;> rfl
  | none :: l, j, A, b => by
    simp only [realize]
    rw [realize_get base p l (j + 1) A b]
    by_cases hb : b = base + j
    · subst hb; rw [flAt_self, flAt_lt (by omega)]
    · rw [flAt_ne hb]
  | some z :: l, j, A, b => by
    simp only [realize]
    cases hg : A.get (base + j) with
    | some o =>
      simp only
      rw [realize_get base p l (j + 1) A b]
      by_cases hb : b = base + j
      · subst hb; rw [hg]; rfl
      · rw [flAt_ne hb]
    | none =>
      simp only
      cases hp : p j with
      | true =>
        simp only [cond_true]
        rw [realize_get base p l (j + 1) _ b, AW.get_put]
        by_cases hb : b = base + j
        · subst hb
          rw [if_pos rfl, hg, flAt_self]
          simp [hp]
        · rw [if_neg (Ne.symm hb), flAt_ne hb]
      | false =>
        simp only [cond_false]
        rw [realize_get base p l (j + 1) _ b]
        by_cases hb : b = base + j
        · subst hb; rw [flAt_self, flAt_lt (by omega)]; simp [hp]
        · rw [flAt_ne hb]

theorem keeps_spec {base : Nat} {A A' : AW} : ∀ (n : Nat), keeps base A A' n = true → ∀ i, i < n → ∀ o, A.get (base + i) = some o → ∃ o', A'.get (base + i) = some o'
  | 0, _, i, hi, _, _ => by omega
  | n + 1, h, i, hi, o, ho => by
    simp only [keeps, Bool.and_eq_true, Bool.or_eq_true] at h
    by_cases hin : i = n
    · subst hin
      rcases h.1 with h1 | h1
      · rw [ho] at h1; cases h1
      · exact Option.isSome_iff_exists.1 h1
    · exact keeps_spec n h.2 i (by omega) o ho

section
variable {K : Nat → Prop} {w0 : Base} {φ : Phi} {F A : AW} {w : World}

theorem WRel.mono (h : WRel K w0 φ A w) {D : Nat → Prop} (hD : ∀ b, D b → w0.D b) : WRel K ⟨w0.w, D⟩ φ A w :=
  ⟨h.same, h.klt, h.dom, h.lt, h.obj, h.inj, h.glob, fun b hb => h.res b (hD b hb)⟩

/-- Blocks laid aside. -/
def Aside (K : Nat → Prop) (φ : Phi) (F A : AW) (c : Nat) : Prop := K c ∨ ∃ b p o, φ b = some p ∧ F.get b = some o ∧ A.get b = none ∧ p.c = c

theorem WRel.restrict (h : WRel K w0 φ F w) (hn : A.n = F.n) (hG : A.G = F.G) (hsub : ∀ b o, A.get b = some o → F.get b = some o)
    (hkin : ∀ b o, F.get b = some o → A.get b = none → ∀ g base pl cs, o ≠ .cells (some g) base pl cs) : WRel (Aside K φ F A) ⟨w, w0.D⟩ φ A w := by
  refine ⟨Same.refl _ _, ?_, fun b p hp => by rw [hn]; exact h.dom b p hp, h.lt, ?_, ?_, ?_, ?_⟩
  · rintro k (hk | ⟨b, p, o, hp, ho, _, rfl⟩)
    · exact h.klt k hk
    · exact h.lt b p hp
  · intro b p o hp ho
    obtain ⟨h1, o', h2, h3⟩ := h.obj b p o hp (hsub b o ho)
    refine ⟨?_, o', h2, h3⟩
    rintro (hk | ⟨b', p', o2, hp', ho', hn', hc⟩)
    · exact h1 hk
    · rcases h.inj b' b p' p o2 o hp' hp ho' (hsub b o ho) hc with e | ⟨g, base, pl, cs, base', pl', cs', k1, _, _⟩
      · rw [e, ho] at hn'; cases hn'
      · rw [ho'] at k1; cases k1; exact hkin b' _ ho' hn' _ _ _ _ rfl
  · intro b b' p p' o o' hp hp' ho ho' hc
    rcases h.inj b b' p p' o o' hp hp' (hsub b o ho) (hsub b' o' ho') hc with e | ⟨g, base, pl, cs, base', pl', cs', k1, k2, k3⟩
    · exact .inl e
    · refine .inr ⟨g, base, pl, cs, base', pl', cs', ?_, ?_, k3⟩
      · rw [← k1, hsub b o ho]; exact ho
      · rw [← k2, hsub b' o' ho']; exact ho'
  · intro g cs hg
    obtain ⟨h1, h2⟩ := h.glob g cs (by rw [← hG]; exact hg)
    exact ⟨.inl h1, h2⟩
  · intro b hb
    obtain ⟨h1, h2, h3⟩ := h.res b hb
    refine ⟨h1, by rw [hn]; exact h2, ?_⟩
    cases hq : A.get b with
    | none => rfl
    | some o => rw [hsub b o hq] at h3; cases h3

theorem WRel.expand (h : WRel K w0 φ F w) (hkin : ∀ b o, F.get b = some o → A.get b = none → ∀ g base pl cs, o ≠ .cells (some g) base pl cs) (hφ : ∀ b o, F.get b = some o → A.get b = none → ∃ p, φ b = some p)
    {φ' : Phi} (he : Ext φ φ') {A' F' : AW} {w' : World} (h' : WRel (Aside K φ F A) ⟨w, w0.D⟩ φ' A' w') (hn : F'.n = A'.n) (hG : F'.G = F.G)
    (h1 : ∀ b o, F'.get b = some o → A'.get b = some o ∨ (A'.get b = none ∧ A.get b = none ∧ F.get b = some o)) (h2 : ∀ b o, A'.get b = some o → F'.get b = some o) : WRel K w0 φ' F' w' := by
  have aside : ∀ b o p, A.get b = none → F.get b = some o → φ' b = some p → φ b = some p ∧ Aside K φ F A p.c := by
    intro b o p ha hf hp
    obtain ⟨q, hq⟩ := hφ b o hf ha
    have := he b q hq
    rw [hp] at this
    cases this
    exact ⟨hq, .inr ⟨b, p, o, hq, hf, ha, rfl⟩⟩
  refine ⟨h.same.trans (h'.same.mono fun k hk => .inl hk), fun k hk => h'.klt k (.inl hk), fun b p hp => by rw [hn]; exact h'.dom b p hp, h'.lt, ?_, ?_, ?_, ?_⟩
  · intro b p o hp ho
    rcases h1 b o ho with q | ⟨_, q2, q3⟩
    · obtain ⟨r1, r2⟩ := h'.obj b p o hp q
      exact ⟨fun hk => r1 (.inl hk), r2⟩
    · obtain ⟨r1, r2⟩ := aside b o p q2 q3 hp
      obtain ⟨s1, o', s2, s3⟩ := h.obj b p o r1 q3
      exact ⟨s1, o', by rw [h'.same.block p.c r2]; exact s2, s3.ext he⟩
  · intro b b' p p' o o' hp hp' ho ho' hc
    rcases h1 b o ho with q | ⟨_, q2, q3⟩
    · rcases h1 b' o' ho' with r | ⟨_, r2, r3⟩
      · rcases h'.inj b b' p p' o o' hp hp' q r hc with e | ⟨g, base, pl, cs, base', pl', cs', k1, k2, k3⟩
        · exact .inl e
        · exact .inr ⟨g, base, pl, cs, base', pl', cs', h2 _ _ k1, h2 _ _ k2, k3⟩
      · exfalso
        have := (aside b' o' p' r2 r3 hp').2
        rw [← hc] at this
        exact (h'.obj b p o hp q).1 this
    · rcases h1 b' o' ho' with r | ⟨_, r2, r3⟩
      · exfalso
        have := (aside b o p q2 q3 hp).2
        rw [hc] at this
        exact (h'.obj b' p' o' hp' r).1 this
      · rcases h.inj b b' p p' o o' (aside b o p q2 q3 hp).1 (aside b' o' p' r2 r3 hp').1 q3 r3 hc with e | ⟨g, base, pl, cs, base', pl', cs', k1, _, _⟩
        · exact .inl e
        · rw [q3] at k1; cases k1; exact absurd rfl (hkin b _ q3 q2 _ _ _ _)
  · intro g cs hg
    obtain ⟨r1, arr, e, fr, r2, r3⟩ := h.glob g cs (by rw [← hG]; exact hg)
    exact ⟨r1, arr, e, fr, by rw [h'.same.block g (.inl r1)]; exact r2, r3⟩
  · intro b hb
    obtain ⟨r1, r2, r3⟩ := h'.res b hb
    refine ⟨r1, by rw [hn]; exact r2, ?_⟩
    cases hq : F'.get b with
    | none => rfl
    | some o =>
      rcases h1 b o hq with q | ⟨_, _, q⟩
      · rw [r3] at q; cases q
      · rw [(h.res b hb).2.2] at q; cases q

/-- A block that floats is made. -/
theorem WRel.newAt (h : WRel K w0 φ F w) {id : Nat} (hid : w0.D id) {z : AO} {o' : Obj} {S : Nat} (hr : ORel φ ⟨w.heap.size, 0, S⟩ z o') {F' : AW} (hget : ∀ b, F'.get b = if id = b then some z else F.get b) (hn : F'.n = F.n) (hG : F'.G = F.G) :
    Ext φ (φ.up id ⟨w.heap.size, 0, S⟩) ∧ WRel K ⟨w0.w, fun b => w0.D b ∧ b ≠ id⟩ (φ.up id ⟨w.heap.size, 0, S⟩) F' (w.alloc o') := by
  obtain ⟨h1, h2, h3⟩ := h.res id hid
  have he := Phi.ext_up h1 ⟨w.heap.size, 0, S⟩
  refine ⟨he, ?_⟩
  have hm : WRel K ⟨w0.w, fun b => w0.D b ∧ b ≠ id⟩ φ F w := h.mono fun b hb => hb.1
  have hres := hm.reserve h1 h2 h3 (fun hb => hb.2 rfl) o' S
  refine hres.track (Phi.up_self _ _ _) (heap_alloc_new w o') (hr.ext he) (fun hk => Nat.lt_irrefl _ (h.klt _ hk)) ?_ hget hn hG
  intro b q o hq ho hc
  by_cases hb : b = id
  · subst hb; rw [h3] at ho; cases ho
  · have hq' : φ b = some q := by simpa [Phi.up, hb] using hq
    have := h.lt b q hq'
    simp only at hc; omega
end
end Go.Proofs.YtbhlagidmifijaaGreatDoor.AX
