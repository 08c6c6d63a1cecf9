/-
  The executor's heap against the machine's, second part: the relation of blocks and worlds; a new block, a store.
-/
import Derived.Test.YtbhlagidmifijaaGreatDoorXA2
namespace Go.Proofs.YtbhlagidmifijaaGreatDoor.AX
open Go.RowKit

def Mark (pl : Bool) (S : Nat) (fr : Nat × Nat) : Prop := fr = (0, 0) ∨ (pl = false ∧ S ≤ fr.1)
theorem Mark.free {pl : Bool} {S : Nat} {fr : Nat × Nat} (h : Mark pl S fr) (i : Nat) (hi : i < S) : (decide (fr.1 ≤ i) && decide (i < fr.2)) = false := by
  rcases h with rfl | ⟨_, h⟩
  · simp
  · have : ¬ fr.1 ≤ i := by omega
    simp [this]

def ERels (φ : Phi) : List (Value × AV × Nat) → List MapEntry → Prop
  | [], es => es = []
  | x :: xs, es => ∃ e es', es = e :: es' ∧ e.key = x.1 ∧ VRel φ x.2.1 e.val ∧ e.born = x.2.2 ∧ ERels φ xs es'
theorem erels_nil {φ : Phi} {es : List MapEntry} : ERels φ [] es ↔ es = [] := Iff.rfl
theorem erels_cons {φ : Phi} {x : Value × AV × Nat} {xs : List (Value × AV × Nat)} {es : List MapEntry} :
    ERels φ (x :: xs) es ↔ ∃ e es', es = e :: es' ∧ e.key = x.1 ∧ VRel φ x.2.1 e.val ∧ e.born = x.2.2 ∧ ERels φ xs es' := Iff.rfl
theorem ERels.ext {φ φ' : Phi} (h : Ext φ φ') : ∀ (xs : List (Value × AV × Nat)) (es : List MapEntry), ERels φ xs es → ERels φ' xs es
  | [], _, r => r
  | x :: xs, _, r => by
    obtain ⟨e, es', rfl, h1, h2, h3, h4⟩ := r
    exact ⟨e, es', rfl, h1, VRel.ext h _ _ h2, h3, ERels.ext h xs es' h4⟩

def ORel (φ : Phi) (p : Place) : AO → Obj → Prop
  | .cells _ _ pl cs, o => ∃ arr e fr, o = .cells arr e fr ∧ arr.size = p.S ∧ p.s + cs.length ≤ p.S ∧ Mark pl p.S fr ∧
      ∀ i x, cs[i]? = some (some x) → x.one = true ∧ ∃ v, arr[p.s + i]? = some v ∧ VRel φ x v
  | .map es clock, o => ∃ es', o = .map es' clock ∧ ERels φ es es'.toList
  | .iter m since seen last, o => p.s = 0 ∧ ∃ m', o = .mapIter m' since seen.toArray last ∧ (match m with | none => m' = none | some b => ∃ q, φ b = some q ∧ m' = some q.c)
  | .striter s pos, o => p.s = 0 ∧ o = .stringIter s pos
  | .box m, o => p.s = 0 ∧ ∃ mb t, o = .cells #[.map mb] t (0, 0) ∧ (match m with | none => mb = none | some b => ∃ q, φ b = some q ∧ mb = some q.c)
theorem ORel.ext {φ φ' : Phi} (h : Ext φ φ') {p : Place} {o : AO} {o' : Obj} (r : ORel φ p o o') : ORel φ' p o o' := by
  cases o with
  | cells g base pl cs =>
    obtain ⟨arr, e, fr, rfl, h1, h2, h3, h4⟩ := r
    exact ⟨arr, e, fr, rfl, h1, h2, h3, fun i x hx => ⟨(h4 i x hx).1, let ⟨v, hv, hr⟩ := (h4 i x hx).2; ⟨v, hv, VRel.ext h _ _ hr⟩⟩⟩
  | map es clock =>
    obtain ⟨es', rfl, h1⟩ := r
    exact ⟨es', rfl, ERels.ext h _ _ h1⟩
  | iter m since seen last =>
    obtain ⟨h0, m', rfl, h1⟩ := r
    refine ⟨h0, m', rfl, ?_⟩
    cases m with
    | none => exact h1
    | some b => obtain ⟨q, hq, e⟩ := h1; exact ⟨q, h _ _ hq, e⟩
  | striter s pos => exact r
  | box m =>
    obtain ⟨h0, mb, t, rfl, h1⟩ := r
    refine ⟨h0, mb, t, rfl, ?_⟩
    cases m with
    | none => exact h1
    | some b => obtain ⟨q, hq, e⟩ := h1; exact ⟨q, h _ _ hq, e⟩

def KinAt (A : AW) (b : Nat) (p : Place) (b' : Nat) (p' : Place) : Prop :=
  ∃ g base pl cs base' pl' cs', A.get b = some (.cells (some g) base pl cs) ∧ A.get b' = some (.cells (some g) base' pl' cs') ∧ p.s + base' = p'.s + base

/-- At these blocks, and in its streams, the world is as it was. -/
structure Same (K : Nat → Prop) (w w' : World) : Prop where
  os : w'.os = w.os
  output : w'.output = w.output
  size : w.heap.size ≤ w'.heap.size
  block : ∀ k, K k → w'.heap[k]? = w.heap[k]?
theorem Same.refl (K : Nat → Prop) (w : World) : Same K w w := ⟨rfl, rfl, Nat.le_refl _, fun _ _ => rfl⟩
theorem Same.trans {K : Nat → Prop} {a b c : World} (h : Same K a b) (k : Same K b c) : Same K a c :=
  ⟨k.os.trans h.os, k.output.trans h.output, Nat.le_trans h.size k.size, fun i hi => (k.block i hi).trans (h.block i hi)⟩
theorem Same.mono {K K' : Nat → Prop} {w w' : World} (h : Same K w w') (hk : ∀ k, K' k → K k) : Same K' w w' := ⟨h.os, h.output, h.size, fun k hk' => h.block k (hk k hk')⟩
theorem Same.alloc {K : Nat → Prop} {a w : World} (h : Same K a w) (hK : ∀ k, K k → k < w.heap.size) (o : Obj) : Same K a (w.alloc o) :=
  h.trans ⟨rfl, rfl, by simp, fun k hk => heap_alloc_old w o (hK k hk)⟩

/-- A world that was, and numbers that are held free. -/
structure Base where
  w : World
  D : Nat → Prop

/-- The executor's heap and the machine's world: K: blocks that are not the executor's; w0: the world in which they lie as they do. -/
structure WRel (K : Nat → Prop) (w0 : Base) (φ : Phi) (A : AW) (w : World) : Prop where
  same : Same K w0.w w
  klt : ∀ k, K k → k < w.heap.size
  dom : ∀ b p, φ b = some p → b < A.n
  lt : ∀ b p, φ b = some p → p.c < w.heap.size
  obj : ∀ b p o, φ b = some p → A.get b = some o → ¬ K p.c ∧ ∃ o', w.heap[p.c]? = some o' ∧ ORel φ p o o'
  inj : ∀ b b' p p' o o', φ b = some p → φ b' = some p' → A.get b = some o → A.get b' = some o' → p.c = p'.c → b = b' ∨ KinAt A b p b' p'
  glob : ∀ g cs, lookG A.G g = some cs → K g ∧ ∃ arr e fr, w.heap[g]? = some (.cells arr e fr) ∧ arr.toList = cs
  res : ∀ b, w0.D b → φ b = none ∧ b < A.n ∧ A.get b = none

theorem AW.get_new (A : AW) (o : AO) (b : Nat) : (A.new o).get b = if A.n = b then some o else A.get b := T.get_set _ _ _ _
theorem AW.get_put (A : AW) (b : Nat) (o : AO) (j : Nat) : (A.put b o).get j = if b = j then some o else A.get j := T.get_set _ _ _ _

def Phi.up (φ : Phi) (n : Nat) (p : Place) : Phi := fun b => if b = n then some p else φ b
theorem Phi.up_self (φ : Phi) (n : Nat) (p : Place) : φ.up n p n = some p := by simp [Phi.up]
theorem Phi.ext_up {φ : Phi} {n : Nat} (h : φ n = none) (p : Place) : Ext φ (φ.up n p) := fun b q hq => by
  have : b ≠ n := by rintro rfl; rw [h] at hq; cases hq
  simp [Phi.up, this, hq]

section
variable {K : Nat → Prop} {w0 : Base} {φ : Phi} {A : AW} {w : World}

theorem WRel.drew (h : WRel K w0 φ A w) : WRel K w0 φ A w.drew :=
  ⟨h.same.trans ⟨rfl, rfl, Nat.le_refl _, fun _ _ => rfl⟩, h.klt, h.dom, h.lt, h.obj, h.inj, h.glob, h.res⟩
theorem WRel.free (h : WRel K w0 φ A w) : φ A.n = none := by
  cases hp : φ A.n with
  | none => rfl
  | some p => exact absurd (h.dom _ _ hp) (Nat.lt_irrefl _)

/-- A block is made of which the executor's heap knows the place alone. -/
theorem WRel.reserve (h : WRel K w0 φ A w) {id : Nat} (hφ : φ id = none) (hid : id < A.n) (hg : A.get id = none) (hD : ¬ w0.D id) (o' : Obj) (S : Nat) :
    WRel K w0 (φ.up id ⟨w.heap.size, 0, S⟩) A (w.alloc o') := by
  have he := Phi.ext_up hφ ⟨w.heap.size, 0, S⟩
  have old : ∀ b p, φ.up id ⟨w.heap.size, 0, S⟩ b = some p → b ≠ id → φ b = some p := by
    intro b p hp hb
    simpa [Phi.up, hb] using hp
  have ne : ∀ b o, A.get b = some o → b ≠ id := by rintro b o ho rfl; rw [hg] at ho; cases ho
  refine ⟨h.same.alloc h.klt o', fun k hk => by have := h.klt k hk; simp; omega, ?_, ?_, ?_, ?_, ?_, ?_⟩
  · intro b p hp
    by_cases hb : b = id
    · rw [hb]; exact hid
    · exact h.dom b p (old b p hp hb)
  · intro b p hp
    by_cases hb : b = id
    · subst hb; rw [Phi.up_self] at hp; cases hp; simp
    · have := h.lt b p (old b p hp hb); simp; omega
  · intro b p o hp ho
    obtain ⟨h1, x', h3, h4⟩ := h.obj b p o (old b p hp (ne b o ho)) ho
    exact ⟨h1, x', by rw [heap_alloc_old w o' (h.lt _ _ (old b p hp (ne b o ho)))]; exact h3, h4.ext he⟩
  · intro b b' p p' o o1 hp hp' ho ho' hc
    exact h.inj b b' p p' o o1 (old b p hp (ne b o ho)) (old b' p' hp' (ne b' o1 ho')) ho ho' hc
  · intro g cs hgl
    obtain ⟨h1, arr, e, fr, h2, h3⟩ := h.glob g cs hgl
    exact ⟨h1, arr, e, fr, by rw [heap_alloc_old w o' (h.klt g h1)]; exact h2, h3⟩
  · intro b hb
    obtain ⟨h1, h2, h3⟩ := h.res b hb
    have hne : b ≠ id := by rintro rfl; exact hD hb
    exact ⟨by simp [Phi.up, hne, h1], h2, h3⟩

/-- A block of which the place was known is known whole. -/
theorem WRel.track (h : WRel K w0 φ A w) {id : Nat} {p : Place} (hp : φ id = some p) {z : AO} {o' : Obj} (ho' : w.heap[p.c]? = some o') (hr : ORel φ p z o') (hK : ¬ K p.c)
    (hne : ∀ b q o, φ b = some q → A.get b = some o → q.c ≠ p.c) {A' : AW} (hget : ∀ b, A'.get b = if id = b then some z else A.get b) (hn : A'.n = A.n) (hG : A'.G = A.G) : WRel K w0 φ A' w := by
  refine ⟨h.same, h.klt, fun b q hq => by rw [hn]; exact h.dom b q hq, h.lt, ?_, ?_, ?_, ?_⟩
  · intro b q o hq ho
    rw [hget] at ho
    by_cases hb : id = b
    · subst hb
      rw [if_pos rfl] at ho; cases ho
      rw [hp] at hq; cases hq
      exact ⟨hK, o', ho', hr⟩
    · rw [if_neg hb] at ho
      exact h.obj b q o hq ho
  · intro b b' q q' o o1 hq hq' ho ho1 hc
    rw [hget] at ho ho1
    by_cases hb : id = b
    · subst hb
      by_cases hb' : id = b'
      · exact .inl hb'
      · rw [if_neg hb'] at ho1
        rw [hp] at hq; cases hq
        exact absurd hc.symm (hne b' q' o1 hq' ho1)
    · rw [if_neg hb] at ho
      by_cases hb' : id = b'
      · subst hb'
        rw [hp] at hq'; cases hq'
        exact absurd hc (hne b q o hq ho)
      · rw [if_neg hb'] at ho1
        rcases h.inj b b' q q' o o1 hq hq' ho ho1 hc with k | ⟨g, base, pl, cs, base', pl', cs', k1, k2, k3⟩
        · exact .inl k
        · exact .inr ⟨g, base, pl, cs, base', pl', cs', by rw [hget, if_neg hb]; exact k1, by rw [hget, if_neg hb']; exact k2, k3⟩
  · intro g cs hgl
    rw [hG] at hgl
    exact h.glob g cs hgl
  · intro b hb
    obtain ⟨h1, h2, h3⟩ := h.res b hb
    have hne : id ≠ b := by rintro rfl; rw [hp] at h1; cases h1
    exact ⟨h1, by rw [hn]; exact h2, by rw [hget, if_neg hne]; exact h3⟩

theorem WRel.more (h : WRel K w0 φ A w) {A' : AW} (hget : ∀ b, A'.get b = A.get b) (hn : A.n ≤ A'.n) (hG : A'.G = A.G) : WRel K w0 φ A' w := by
  refine ⟨h.same, h.klt, fun b p hp => Nat.lt_of_lt_of_le (h.dom b p hp) hn, h.lt, fun b p o hp ho => h.obj b p o hp (by rw [← hget]; exact ho), ?_, fun g cs hg => h.glob g cs (by rw [← hG]; exact hg), fun b hb => ⟨(h.res b hb).1, Nat.lt_of_lt_of_le (h.res b hb).2.1 hn, by rw [hget]; exact (h.res b hb).2.2⟩⟩
  intro b b' p p' o o' hp hp' ho ho' hc
  rcases h.inj b b' p p' o o' hp hp' (by rw [← hget]; exact ho) (by rw [← hget]; exact ho') hc with k | ⟨g, base, pl, cs, base', pl', cs', k1, k2, k3⟩
  · exact .inl k
  · exact .inr ⟨g, base, pl, cs, base', pl', cs', by rw [hget]; exact k1, by rw [hget]; exact k2, k3⟩

/-- A heap in which no block lies at a number that is not given out. -/
def Tidy (A : AW) : Prop := ∀ b, A.n ≤ b → A.get b = none

/-- A new block. -/
theorem WRel.new (h : WRel K w0 φ A w) (o : AO) (o' : Obj) (S : Nat) (hr : ORel φ ⟨w.heap.size, 0, S⟩ o o') :
    Ext φ (φ.up A.n ⟨w.heap.size, 0, S⟩) ∧ WRel K w0 (φ.up A.n ⟨w.heap.size, 0, S⟩) (A.new o) (w.alloc o') := by
  have hφ := h.free
  have he := Phi.ext_up hφ ⟨w.heap.size, 0, S⟩
  refine ⟨he, h.same.alloc h.klt o', fun k hk => by have := h.klt k hk; simp; omega, ?_, ?_, ?_, ?_, ?_, ?_⟩
  · intro b p hp
    show b < A.n + 1
    by_cases hb : b = A.n
    · omega
    · have := h.dom b p (by simpa [Phi.up, hb] using hp); omega
  · intro b p hp
    by_cases hb : b = A.n
    · subst hb; rw [Phi.up_self] at hp; cases hp; simp
    · have := h.lt b p (by simpa [Phi.up, hb] using hp); simp; omega
  · intro b p x hp hx
    by_cases hb : b = A.n
    · subst hb
      rw [Phi.up_self] at hp; cases hp
      rw [AW.get_new, if_pos rfl] at hx; cases hx
      exact ⟨fun hk => Nat.lt_irrefl _ (h.klt _ hk), o', heap_alloc_new w o', hr.ext he⟩
    · have hp' : φ b = some p := by simpa [Phi.up, hb] using hp
      rw [AW.get_new, if_neg (Ne.symm hb)] at hx
      obtain ⟨h1, x', h3, h4⟩ := h.obj b p x hp' hx
      exact ⟨h1, x', by rw [heap_alloc_old w o' (h.lt _ _ hp')]; exact h3, h4.ext he⟩
  · intro b b' p p' x x' hp hp' hx hx' hc
    by_cases hb : b = A.n
    · subst hb
      rw [Phi.up_self] at hp; cases hp
      by_cases hb' : b' = A.n
      · exact .inl hb'.symm
      · have := h.lt b' p' (by simpa [Phi.up, hb'] using hp')
        simp only at hc; omega
    · have hq : φ b = some p := by simpa [Phi.up, hb] using hp
      by_cases hb' : b' = A.n
      · subst hb'
        rw [Phi.up_self] at hp'; cases hp'
        have := h.lt b p hq
        simp only at hc; omega
      · have hq' : φ b' = some p' := by simpa [Phi.up, hb'] using hp'
        rw [AW.get_new, if_neg (Ne.symm hb)] at hx
        rw [AW.get_new, if_neg (Ne.symm hb')] at hx'
        rcases h.inj b b' p p' x x' hq hq' hx hx' hc with e | ⟨g, base, pl, cs, base', pl', cs', k1, k2, k3⟩
        · exact .inl e
        · exact .inr ⟨g, base, pl, cs, base', pl', cs', by rw [AW.get_new, if_neg (Ne.symm hb)]; exact k1, by rw [AW.get_new, if_neg (Ne.symm hb')]; exact k2, k3⟩
  · intro g cs hgl
    obtain ⟨h1, arr, e, fr, h2, h3⟩ := h.glob g cs hgl
    exact ⟨h1, arr, e, fr, by rw [heap_alloc_old w o' (h.klt g h1)]; exact h2, h3⟩
  · intro b hb
    obtain ⟨h1, h2, h3⟩ := h.res b hb
    have hne : b ≠ A.n := by omega
    exact ⟨by simp [Phi.up, hne, h1], Nat.lt_succ_of_lt h2, by rw [AW.get_new, if_neg (Ne.symm hne)]; exact h3⟩

/-- An object that is no row of cells is put anew. -/
theorem WRel.putObj (h : WRel K w0 φ A w) {b : Nat} {p : Place} (hp : φ b = some p) {o : AO} (ho : A.get b = some o) (hno : ∀ g base pl cs, o ≠ .cells (some g) base pl cs) (o1 : AO) (o2 : Obj) (hr : ORel φ p o1 o2) :
    WRel K w0 φ (A.put b o1) { w with heap := w.heap.setIfInBounds p.c o2 } := by
  have hlt := h.lt b p hp
  obtain ⟨hK, ob, hob, hor⟩ := h.obj b p o hp ho
  have other : ∀ k, k ≠ p.c → (w.heap.setIfInBounds p.c o2)[k]? = w.heap[k]? := fun k hk => Array.getElem?_setIfInBounds_ne (Ne.symm hk)
  refine ⟨h.same.trans ⟨rfl, rfl, by simp, fun k hk => ?_⟩, fun k hk => by simpa using h.klt k hk, h.dom, fun b' p' hp' => by simpa using h.lt b' p' hp', ?_, ?_, ?_, ?_⟩
  · exact other k (by rintro rfl; exact hK hk)
  · intro b' p' o' hp' ho'
    rw [AW.get_put] at ho'
    by_cases hb : b = b'
    · subst hb
      rw [if_pos rfl] at ho'; cases ho'
      rw [hp] at hp'; cases hp'
      exact ⟨hK, o2, by simp [hlt], hr⟩
    · rw [if_neg hb] at ho'
      obtain ⟨h1, x', h3, h4⟩ := h.obj b' p' o' hp' ho'
      have hc : p.c ≠ p'.c := by
        intro hc
        rcases h.inj b b' p p' o o' hp hp' ho ho' hc with e | ⟨g, base, pl, cs, base', pl', cs', k1, k2, k3⟩
        · exact hb e
        · rw [ho] at k1; cases k1; exact hno _ _ _ _ rfl
      exact ⟨h1, x', by rw [show ({ w with heap := w.heap.setIfInBounds p.c o2 } : World).heap[p'.c]? = w.heap[p'.c]? from other _ (Ne.symm hc)]; exact h3, h4⟩
  · intro b1 b2 p1 p2 x1 x2 hp1 hp2 hx1 hx2 hc
    have tr : ∀ b' x', (A.put b o1).get b' = some x' → ∃ y, A.get b' = some y := by
      intro b' x' hx
      rw [AW.get_put] at hx
      by_cases hb : b = b'
      · subst hb; exact ⟨o, ho⟩
      · rw [if_neg hb] at hx; exact ⟨x', hx⟩
    obtain ⟨y1, hy1⟩ := tr b1 x1 hx1
    obtain ⟨y2, hy2⟩ := tr b2 x2 hx2
    rcases h.inj b1 b2 p1 p2 y1 y2 hp1 hp2 hy1 hy2 hc with e | ⟨g, base, pl, cs, base', pl', cs', k1, k2, k3⟩
    · exact .inl e
    · refine .inr ⟨g, base, pl, cs, base', pl', cs', ?_, ?_, k3⟩
      · rw [AW.get_put, if_neg]; · exact k1
        rintro rfl; rw [ho] at k1; cases k1; exact hno _ _ _ _ rfl
      · rw [AW.get_put, if_neg]; · exact k2
        rintro rfl; rw [ho] at k2; cases k2; exact hno _ _ _ _ rfl
  · intro g cs hgl
    obtain ⟨h1, arr, e, fr, h2, h3⟩ := h.glob g cs hgl
    exact ⟨h1, arr, e, fr, by rw [show ({ w with heap := w.heap.setIfInBounds p.c o2 } : World).heap[g]? = w.heap[g]? from other _ (by rintro rfl; exact hK h1)]; exact h2, h3⟩
  · intro b' hb
    obtain ⟨h1, h2, h3⟩ := h.res b' hb
    have hne : b ≠ b' := by rintro rfl; rw [hp] at h1; cases h1
    exact ⟨h1, h2, by rw [AW.get_put, if_neg hne]; exact h3⟩

/-- A block of cells is written. -/
theorem WRel.update (h : WRel K w0 φ A w) {c : Nat} {arr arr' : Array Value} {e : TypeId} {fr : Nat × Nat} (hc : w.heap[c]? = some (.cells arr e fr)) (hK : ¬ K c) {A' : AW} (hn : A'.n = A.n) (hG : A'.G = A.G)
    (hdom : ∀ b o1, A'.get b = some o1 → ∃ o, A.get b = some o)
    (hobj : ∀ b p o o1, φ b = some p → A.get b = some o → A'.get b = some o1 → p.c ≠ c → ∀ x, ORel φ p o x → ORel φ p o1 x)
    (hcell : ∀ b p o o1, φ b = some p → A.get b = some o → A'.get b = some o1 → p.c = c → ORel φ p o1 (.cells arr' e fr))
    (hkin : ∀ b b' p p', φ b = some p → φ b' = some p' → b ≠ b' → KinAt A b p b' p' → KinAt A' b p b' p') : WRel K w0 φ A' (w.setRow c arr') := by
  refine ⟨h.same.trans ⟨rfl, rfl, by simp, fun k hk => setRow_other w c k arr' (by rintro rfl; exact hK hk)⟩, fun k hk => by simpa using h.klt k hk, fun b p hp => by rw [hn]; exact h.dom b p hp, fun b p hp => by simpa using h.lt b p hp, ?_, ?_, ?_, ?_⟩
  · intro b p o1 hp ho1
    obtain ⟨o, ho⟩ := hdom b o1 ho1
    obtain ⟨h1, x', h3, h4⟩ := h.obj b p o hp ho
    by_cases he : p.c = c
    · exact ⟨h1, _, by rw [he]; exact setRow_heap w c arr arr' e fr hc, hcell b p o o1 hp ho ho1 he⟩
    · exact ⟨h1, x', by rw [setRow_other w c _ _ he]; exact h3, hobj b p o o1 hp ho ho1 he _ h4⟩
  · intro b1 b2 p1 p2 x1 x2 hp1 hp2 hx1 hx2 he
    by_cases hb : b1 = b2
    · exact .inl hb
    · obtain ⟨y1, hy1⟩ := hdom b1 x1 hx1
      obtain ⟨y2, hy2⟩ := hdom b2 x2 hx2
      rcases h.inj b1 b2 p1 p2 y1 y2 hp1 hp2 hy1 hy2 he with k | k
      · exact .inl k
      · exact .inr (hkin b1 b2 p1 p2 hp1 hp2 hb k)
  · intro g cs hgl
    rw [hG] at hgl
    obtain ⟨h1, arr2, e2, fr2, h2, h3⟩ := h.glob g cs hgl
    exact ⟨h1, arr2, e2, fr2, by rw [setRow_other w c _ _ (by rintro rfl; exact hK h1)]; exact h2, h3⟩
  · intro b hb
    obtain ⟨h1, h2, h3⟩ := h.res b hb
    refine ⟨h1, by rw [hn]; exact h2, ?_⟩
    cases hq : A'.get b with
    | none => rfl
    | some o1 => obtain ⟨o, ho⟩ := hdom b o1 hq; rw [h3] at ho; cases ho
end
end Go.Proofs.YtbhlagidmifijaaGreatDoor.AX
