/-
  The executor's heap against the machine's, fourth part: append.
-/
import Derived.Test.YtbhlagidmifijaaGreatDoorXA4
namespace Go.Proofs.YtbhlagidmifijaaGreatDoor.AX
open Go.RowKit

theorem run_append_room' {P : Program} (w : World) (t u ty e : TypeId) (d : TypeDesc) (i : TypeInfo) (ht : P.underlying t = some (.slice e)) (hu : P.underlying u = some d) (hd : ∀ k, d ≠ .int k) (hi : P.info? e = some i)
    (base : Option Addr) (sLen sCap n : Nat) (x : Value) (hl : (Builtin.lenOf x).run P w = .ok n w) (news : List Value) (hf : (Builtin.firstCells i.size n x).run P w = .ok news.toArray w) (hroom : sLen + n ≤ sCap) :
    (Builtin.append_ #[t, u] ty #[.slice base sLen sCap, x]).run P w =
      ((match base with | some a => storeCells (a.add (sLen * i.size)) news | none => pure ()).run P w).andThen fun _ w' => .ok (.slice base (sLen + n) sCap) w' := by
  have hz : (match d with | .int _ => true | _ => false) = false := by cases d <;> first | rfl | exact absurd rfl (hd _)
  cases base with
  | none => simp [Builtin.append_, run_underlying ht, run_underlying hu, sizeOf, typeInfo, hi, hz, hl, hroom, hf]
  | some a => simp [Builtin.append_, run_underlying ht, run_underlying hu, sizeOf, typeInfo, hi, hz, hl, hroom, hf]

theorem run_append_grow' {P : Program} (w : World) (t u ty e : TypeId) (d : TypeDesc) (i : TypeInfo) (z : Value) (ht : P.underlying t = some (.slice e)) (hu : P.underlying u = some d) (hd : ∀ k, d ≠ .int k) (hi : P.info? e = some i) (hz : i.zero = some z)
    (base : Option Addr) (sLen sCap n : Nat) (x : Value) (hl : (Builtin.lenOf x).run P w = .ok n w) (news olds : List Value) (hf : (Builtin.firstCells i.size n x).run P w.drew = .ok news.toArray w.drew)
    (ho : (Builtin.firstCells i.size sLen (.slice base sLen sCap)).run P w.drew = .ok olds.toArray w.drew) (hg : ¬ sLen + n ≤ sCap) (h63 : sLen + n ≤ 9223372036854775807) (h47 : (sLen + n) * i.bytes ≤ 140737488355328) :
    (Builtin.append_ #[t, u] ty #[.slice base sLen sCap, x]).run P w =
      .ok (.slice (some ⟨w.heap.size, 0, none⟩) (sLen + n) (grownCap w (sLen + n) sCap e))
        (w.drew.alloc (.cells (olds ++ news ++ (Builtin.zeroCells z.cells (grownCap w (sLen + n) sCap e - (sLen + n))).toList).toArray e)) := by
  have hz' : (match d with | .int _ => true | _ => false) = false := by cases d <;> first | rfl | exact absurd rfl (hd _)
  have h63' : ¬ (9223372036854775807 < ((sLen : Int) + (n : Int))) := by omega
  have hfit := growslice_fits (need := sLen + n) (old := sCap) (bytes := i.bytes) (by omega) h47
  have h48' : ¬ (281474976710656 < Builtin.nextslicecap (sLen + n) sCap * i.bytes) := by omega
  simp [Builtin.append_, run_underlying ht, run_underlying hu, sizeOf, typeInfo, zeroValue, hi, hz, hz', hl, hg, h63', h48', Question.forced, hf, ho, newRow, grownCap]
  congr 2
  apply Array.ext'
  simp [List.append_assoc]

section
variable {K : Nat → Prop} {w0 : Base} {φ : Phi} {A : AW} {w : World}

/-- Less is known. -/
theorem WRel.weaken (h : WRel K w0 φ A w) {A' : AW} (hn : A'.n = A.n) (hG : A'.G = A.G) (hdom : ∀ b o1, A'.get b = some o1 → ∃ o, A.get b = some o)
    (hobj : ∀ b p o o1, φ b = some p → A.get b = some o → A'.get b = some o1 → ∀ x, ORel φ p o x → ORel φ p o1 x)
    (hkin : ∀ b b' p p', φ b = some p → φ b' = some p' → b ≠ b' → KinAt A b p b' p' → KinAt A' b p b' p') : WRel K w0 φ A' w := by
  refine ⟨h.same, h.klt, fun b p hp => by rw [hn]; exact h.dom b p hp, h.lt, ?_, ?_, fun g cs hg => h.glob g cs (by rw [← hG]; exact hg), ?_⟩
  · intro b p o1 hp ho1
    obtain ⟨o, ho⟩ := hdom b o1 ho1
    obtain ⟨h1, o', h3, h4⟩ := h.obj b p o hp ho
    exact ⟨h1, o', h3, hobj b p o o1 hp ho ho1 _ h4⟩
  · intro b1 b2 p1 p2 x1 x2 hp1 hp2 hx1 hx2 he
    by_cases hb : b1 = b2
    · exact .inl hb
    · obtain ⟨y1, hy1⟩ := hdom b1 x1 hx1
      obtain ⟨y2, hy2⟩ := hdom b2 x2 hx2
      rcases h.inj b1 b2 p1 p2 y1 y2 hp1 hp2 hy1 hy2 he with k | k
      · exact .inl k
      · exact .inr (hkin b1 b2 p1 p2 hp1 hp2 hb k)
  · intro b hb
    obtain ⟨h1, h2, h3⟩ := h.res b hb
    refine ⟨h1, by rw [hn]; exact h2, ?_⟩
    cases hq : A'.get b with
    | none => rfl
    | some o1 => obtain ⟨o, ho⟩ := hdom b o1 hq; rw [h3] at ho; cases ho

/-- A further view of a block. -/
theorem WRel.view (h : WRel K w0 φ A w) {b k base : Nat} {p : Place} {pl : Bool} {cs : List (Option AV)} (hp : φ b = some p) (hget : A.get b = some (.cells (some k) base pl cs)) (off : Nat) (l : List (Option AV))
    (hfit : p.s + off + l.length ≤ p.S) (hl : ∀ arr e fr, w.heap[p.c]? = some (.cells arr e fr) → ∀ i x, l[i]? = some (some x) → x.one = true ∧ ∃ v, arr[p.s + off + i]? = some v ∧ VRel φ x v) :
    Ext φ (φ.up A.n ⟨p.c, p.s + off, p.S⟩) ∧ WRel K w0 (φ.up A.n ⟨p.c, p.s + off, p.S⟩) (A.new (.cells (some k) (base + off) pl l)) w := by
  have he := Phi.ext_up h.free ⟨p.c, p.s + off, p.S⟩
  obtain ⟨hB, o', h3, h4⟩ := h.obj b p _ hp hget
  obtain ⟨arr, e, fr, rfl, k1, k2, k3, k4⟩ := h4
  have hlt := h.dom b p hp
  refine ⟨he, h.same, h.klt, ?_, ?_, ?_, ?_, h.glob, ?_⟩
  · intro b' p' hp'
    show b' < A.n + 1
    by_cases hb : b' = A.n
    · omega
    · simp only [Phi.up, hb, if_false] at hp'
      have := h.dom b' p' hp'; omega
  · intro b' p' hp'
    by_cases hb : b' = A.n
    · subst hb
      rw [Phi.up_self] at hp'
      cases hp'
      exact h.lt b p hp
    · simp only [Phi.up, hb, if_false] at hp'
      exact h.lt b' p' hp'
  · intro b' p' x hp' hx
    rw [AW.get_new] at hx
    by_cases hb : b' = A.n
    · subst hb
      rw [Phi.up_self] at hp'
      cases hp'
      rw [if_pos rfl] at hx; cases hx
      refine ⟨hB, _, h3, arr, e, fr, rfl, k1, hfit, k3, ?_⟩
      intro i x hx
      obtain ⟨g1, v, g2, g3⟩ := hl arr e fr h3 i x hx
      exact ⟨g1, v, g2, VRel.ext he _ _ g3⟩
    · simp only [Phi.up, hb, if_false] at hp'
      rw [if_neg (Ne.symm hb)] at hx
      obtain ⟨q1, x', q3, q4⟩ := h.obj b' p' x hp' hx
      exact ⟨q1, x', q3, q4.ext he⟩
  · have fresh : ∀ b' p' o1, φ b' = some p' → A.get b' = some o1 → p'.c = p.c → b' ≠ A.n ∧ ∃ base' pl' cs', A.get b' = some (.cells (some k) base' pl' cs') ∧ p.s + base' = p'.s + base := by
      intro b' p' o1 hp' ho1 hc
      refine ⟨by have := h.dom b' p' hp'; omega, ?_⟩
      rcases h.inj b b' p p' _ _ hp hp' hget ho1 hc.symm with rfl | ⟨g', base1, pl1, cs1, base2, pl2, cs2, q1, q2, q3⟩
      · rw [hp] at hp'; cases hp'
        exact ⟨base, pl, cs, hget, rfl⟩
      · rw [hget] at q1; cases q1
        exact ⟨base2, pl2, cs2, q2, q3⟩
    intro b1 b2 p1 p2 x1 x2 hp1 hp2 hx1 hx2 hc
    rw [AW.get_new] at hx1 hx2
    by_cases e1 : b1 = A.n
    · subst e1
      rw [Phi.up_self] at hp1; cases hp1
      by_cases e2 : b2 = A.n
      · exact .inl e2.symm
      · simp only [Phi.up, e2, if_false] at hp2
        rw [if_neg (Ne.symm e2)] at hx2
        obtain ⟨n2, base', pl', cs', q1, q2⟩ := fresh b2 p2 _ hp2 hx2 hc.symm
        exact .inr ⟨k, base + off, pl, l, base', pl', cs', by rw [AW.get_new, if_pos rfl], by rw [AW.get_new, if_neg (Ne.symm n2)]; exact q1, by simp only; omega⟩
    · simp only [Phi.up, e1, if_false] at hp1
      rw [if_neg (Ne.symm e1)] at hx1
      by_cases e2 : b2 = A.n
      · subst e2
        rw [Phi.up_self] at hp2; cases hp2
        obtain ⟨n1, base', pl', cs', q1, q2⟩ := fresh b1 p1 _ hp1 hx1 hc
        exact .inr ⟨k, base', pl', cs', base + off, pl, l, by rw [AW.get_new, if_neg (Ne.symm n1)]; exact q1, by rw [AW.get_new, if_pos rfl], by simp only; omega⟩
      · simp only [Phi.up, e2, if_false] at hp2
        rw [if_neg (Ne.symm e2)] at hx2
        rcases h.inj b1 b2 p1 p2 _ _ hp1 hp2 hx1 hx2 hc with q | ⟨g', base1, pl1, cs1, base2, pl2, cs2, q1, q2, q3⟩
        · exact .inl q
        · exact .inr ⟨g', base1, pl1, cs1, base2, pl2, cs2, by rw [AW.get_new, if_neg (Ne.symm e1)]; exact q1, by rw [AW.get_new, if_neg (Ne.symm e2)]; exact q2, q3⟩
  · intro b' hb
    obtain ⟨h1, h2, h3⟩ := h.res b' hb
    have hne : b' ≠ A.n := by omega
    exact ⟨by simp [Phi.up, hne, h1], Nat.lt_succ_of_lt h2, by rw [AW.get_new, if_neg (Ne.symm hne)]; exact h3⟩

theorem kin_get {b : Nat} {g : Option Nat} {base : Nat} {pl : Bool} {cs : List (Option AV)} (lo n : Nat) (hget : A.get b = some (.cells g base pl cs)) :
    (∀ b', b' ≠ b → (A.kin b g base pl cs lo n).get b' = (A.get b').map (fun o => match g with | none => o | some k => o.blur k lo n)) ∧
    (A.kin b g base pl cs lo n).get b = some (AO.blur (g.getD b) lo n (.cells (some (g.getD b)) base pl cs)) := by
  cases g with
  | none =>
    constructor
    · intro b' hb
      simp only [AW.kin]
      rw [AW.get_put, if_neg (Ne.symm hb)]
      cases A.get b' <;> rfl
    · simp only [AW.kin]
      rw [AW.get_put, if_pos rfl]
  | some k =>
    constructor
    · intro b' hb
      simp only [AW.kin]
      show (A.h.map _).get b' = _
      rw [T.get_map]
      rfl
    · simp only [AW.kin]
      show (A.h.map _).get b = _
      rw [T.get_map]
      show (A.get b).map _ = _
      rw [hget]; rfl
theorem kin_dom {b : Nat} {g : Option Nat} {base : Nat} {pl : Bool} {cs : List (Option AV)} (lo n : Nat) (hget : A.get b = some (.cells g base pl cs)) (b' : Nat) (o1 : AO) (h1 : (A.kin b g base pl cs lo n).get b' = some o1) : ∃ o, A.get b' = some o := by
  by_cases hb : b' = b
  · subst hb; exact ⟨_, hget⟩
  · rw [(kin_get lo n hget).1 b' hb] at h1
    cases hq : A.get b' with
    | none => rw [hq] at h1; simp at h1
    | some y => exact ⟨y, rfl⟩

theorem kin_kept {b : Nat} {g : Option Nat} {base : Nat} {pl : Bool} {cs : List (Option AV)} (lo n : Nat) (hget : A.get b = some (.cells g base pl cs)) (b' : Nat) {g' bs : Nat} {pl' : Bool} {cs' : List (Option AV)}
    (hq : A.get b' = some (.cells (some g') bs pl' cs')) : ∃ pl'' cs'', (A.kin b g base pl cs lo n).get b' = some (.cells (some g') bs pl'' cs'') := by
  obtain ⟨k1, k2⟩ := kin_get lo n hget
  by_cases hb : b' = b
  · subst hb
    rw [hget] at hq; cases hq
    obtain ⟨cs'', eb, _⟩ := blur_cells g' lo n (some g') base pl cs
    exact ⟨pl, cs'', by rw [k2]; simpa using eb⟩
  · rw [k1 b' hb, hq]
    cases g with
    | none => exact ⟨pl', cs', rfl⟩
    | some k =>
      obtain ⟨cs'', eb, _⟩ := blur_cells k lo n (some g') bs pl' cs'
      exact ⟨pl', cs'', by rw [← eb]; rfl⟩

theorem WRel.kin (h : WRel K w0 φ A w) {b : Nat} {g : Option Nat} {base : Nat} {pl : Bool} {cs : List (Option AV)} (lo n : Nat) (hget : A.get b = some (.cells g base pl cs)) :
    WRel K w0 φ (A.kin b g base pl cs lo n) w := by
  obtain ⟨k1, k2⟩ := kin_get lo n hget
  refine h.weaken (by cases g <;> rfl) (by cases g <;> rfl) (kin_dom lo n hget) ?_ ?_
  · intro b' p' o o1 hp' ho ho1 x r
    by_cases hb : b' = b
    · subst hb
      rw [hget] at ho; cases ho
      rw [k2] at ho1; cases ho1
      exact ORel.blur (o := .cells (some (g.getD b')) base pl cs) _ _ _ r
    · rw [k1 b' hb, ho] at ho1
      simp only [Option.map_some, Option.some.injEq] at ho1
      subst ho1
      cases g with
      | none => exact r
      | some k => exact r.blur _ _ _
  · intro b1 b2 p1 p2 _ _ _ ⟨g', base1, pl1, cs1, base2, pl2, cs2, q1, q2, q3⟩
    obtain ⟨u1, u2, u3⟩ := kin_kept lo n hget b1 q1
    obtain ⟨v1, v2, v3⟩ := kin_kept lo n hget b2 q2
    exact ⟨g', base1, u1, u2, base2, v1, v2, u3, v3, q3⟩

/-- Cells are written at places of a block of which nothing is known then. -/
theorem WRel.kinStore (h : WRel K w0 φ A w) {b : Nat} {p : Place} {g : Option Nat} {base : Nat} {pl : Bool} {cs : List (Option AV)} (off : Nat) (hp : φ b = some p) (hget : A.get b = some (.cells g base pl cs))
    {arr : Array Value} {e : TypeId} {fr : Nat × Nat} (hc : w.heap[p.c]? = some (.cells arr e fr)) (vs : List Value) (hfit : p.s + off + vs.length ≤ arr.size) :
    WRel K w0 φ (A.kin b g base pl cs (off + base) vs.length) (w.setRow p.c (arr.toList.take (p.s + off) ++ vs ++ arr.toList.drop (p.s + off + vs.length)).toArray) := by
  obtain ⟨k1, k2⟩ := kin_get (off + base) vs.length hget
  have hfit' : p.s + off + vs.length ≤ arr.toList.length := by simpa using hfit
  -- a view of the block of which these places are blurred
  have view : ∀ (p' : Place) (g' base' : Nat) (pl' : Bool) (cs' : List (Option AV)), p.s + base' = p'.s + base → ORel φ p' (.cells (some g') base' pl' cs') (.cells arr e fr) →
      ORel φ p' (AO.blur g' (off + base) vs.length (.cells (some g') base' pl' cs')) (.cells (arr.toList.take (p.s + off) ++ vs ++ arr.toList.drop (p.s + off + vs.length)).toArray e fr) := by
    intro p' g' base' pl' cs' hb ⟨arr2, e2, fr2, r0, r1, r2, r3, r4⟩
    cases r0
    obtain ⟨cs'', eb, l1, l2, l3⟩ := blur_cells g' (off + base) vs.length (some g') base' pl' cs'
    rw [eb]
    refine ⟨_, e, fr, rfl, ?_, by rw [l1]; exact r2, r3, ?_⟩
    · rw [List.size_toArray, splice_length _ _ _ hfit', Array.length_toList, r1]
    · intro i x hx
      have hni := l3 rfl i x hx
      have hcs := r4 i x (l2 i x hx)
      rw [List.getElem?_toArray, splice_get arr.toList vs (p.s + off) (p'.s + i) hfit', Array.getElem?_toList]
      by_cases c1 : p'.s + i < p.s + off
      · rw [if_pos c1]; exact hcs
      · rw [if_neg c1]
        by_cases c2 : p'.s + i < p.s + off + vs.length
        · exact absurd ⟨by omega, by omega⟩ hni
        · rw [if_neg c2]; exact hcs
  refine h.update hc (h.obj b p _ hp hget).1 (by cases g <;> rfl) (by cases g <;> rfl) (kin_dom _ _ hget) ?_ ?_ ?_
  · intro b' p' o o1 hp' ho ho1 hne x r
    have hb : b' ≠ b := by rintro rfl; rw [hp] at hp'; cases hp'; exact hne rfl
    rw [k1 b' hb, ho] at ho1
    simp only [Option.map_some, Option.some.injEq] at ho1
    subst ho1
    cases g with
    | none => exact r
    | some k => exact r.blur _ _ _
  · intro b' p' o o1 hp' ho ho1 he
    obtain ⟨_, oo', m3, m4⟩ := h.obj b' p' o hp' ho
    rw [he, hc] at m3; cases m3
    by_cases hb : b' = b
    · subst hb
      rw [hp] at hp'; cases hp'
      rw [hget] at ho; cases ho
      rw [k2] at ho1; cases ho1
      exact view p (g.getD b') base pl cs rfl m4
    · rcases h.inj b b' p p' _ _ hp hp' hget ho he.symm with e' | ⟨g', base1, pl1, cs1, base2, pl2, cs2, q1, q2, q3⟩
      · exact absurd e'.symm hb
      · rw [hget] at q1; cases q1
        rw [ho] at q2; cases q2
        rw [k1 b' hb, ho] at ho1
        simp only [Option.map_some, Option.some.injEq] at ho1
        subst ho1
        exact view p' g' base2 pl2 cs2 q3 m4
  · intro b1 b2 p1 p2 _ _ _ ⟨g', base1, pl1, cs1, base2, pl2, cs2, q1, q2, q3⟩
    obtain ⟨u1, u2, u3⟩ := kin_kept (off + base) vs.length hget b1 q1
    obtain ⟨v1, v2, v3⟩ := kin_kept (off + base) vs.length hget b2 q2
    exact ⟨g', base1, u1, u2, base2, v1, v2, u3, v3, q3⟩

theorem WRel.append (h : WRel K w0 φ A w) (P : Program) {sz bytes n : Nat} {s x r : AV} {sv xv : Value} {xs : List AV} {A' : AW} (ha : A.append sz bytes s n xs = some (r, A')) (hs : VRel φ s sv) (hx : VRel φ x xv)
    (hlen : x.lenOf = some n) (hf : A.first sz n x = some xs) (t u ty e : TypeId) (d : TypeDesc) (i : TypeInfo) (z : Value) (ht : P.underlying t = some (.slice e)) (hu : P.underlying u = some d) (hd : ∀ k, d ≠ .int k)
    (hi : P.info? e = some i) (hz : i.zero = some z) (hsz : i.size = sz) (hby : i.bytes = bytes) (hzs : z.cells.size = sz) (h0 : 0 < sz) :
    ∃ v' w' φ', (Builtin.append_ #[t, u] ty #[sv, xv]).run P w = .ok v' w' ∧ Ext φ φ' ∧ WRel K w0 φ' A' w' ∧ VRel φ' r v' := by
  subst hsz
  subst hby
  obtain ⟨news, hnr, hnf⟩ := h.first P hf hx
  obtain ⟨newd, hndr, hndf⟩ := h.drew.first P hf hx
  have hl := run_lenOf (P := P) hlen hx w
  have hbytes : ∀ m : Nat, Nat.ble (m * (i.bytes + 1)) mostBytes = true → m ≤ 9223372036854775807 ∧ m * i.bytes ≤ 140737488355328 := by
    intro m hm
    rw [ble_iff, Nat.mul_add, Nat.mul_one] at hm
    have : mostBytes = 1099511627776 := rfl
    constructor <;> omega
  unfold AW.append at ha
  cases hone : (!(xs.all AV.one) || !(Nat.beq xs.length (n * i.size))) with
  | true => simp [hone] at ha
  | false =>
    simp only [hone, cond_false] at ha
    simp only [Bool.or_eq_false_iff, Bool.not_eq_false', beq_iff] at hone
    obtain ⟨hone, hxl⟩ := hone
    have hgrown : ∀ (sCap : Nat) (base : Option Addr) (sLen : Nat) (old : List AV) (olds : List Value), VRels φ old olds → old.length = sLen * i.size → sv = .slice base sLen sCap → ¬ sLen + n ≤ sCap → Nat.ble ((sLen + n) * (i.bytes + 1)) mostBytes = true →
        (Builtin.firstCells i.size sLen (.slice base sLen sCap)).run P w.drew = .ok olds.toArray w.drew → ∀ (o : AO) (g' : Option Nat) (base' : Nat) (pl' : Bool) (A1 : AW), o = .cells g' base' pl' ((old ++ xs).map some) → (old ++ xs).all AV.one = true → A1.n = A.n → WRel K w0 φ A1 w →
        ∃ v' w' φ', (Builtin.append_ #[t, u] ty #[sv, xv]).run P w = .ok v' w' ∧ Ext φ φ' ∧ WRel K w0 φ' (A1.new o) w' ∧ VRel φ' (.slice A.n 0 i.size (sLen + n) none) v' := by
      intro sCap base sLen old olds hold hol hsv hno hfits hrun o g' base' pl' A1 ho hall hn1 hW
      subst hsv
      have hr := run_append_grow' w t u ty e d i z ht hu hd hi hz base sLen sCap n xv hl newd olds hndf hrun hno (hbytes _ hfits).1 (hbytes _ hfits).2
      have hvr : VRels φ (old ++ xs) (olds ++ newd) := hold.append hndr
      have hnew := hW.drew.new o (.cells (olds ++ newd ++ (Builtin.zeroCells z.cells (grownCap w (sLen + n) sCap e - (sLen + n))).toList).toArray e)
        ((sLen + n) * i.size + (grownCap w (sLen + n) sCap e - (sLen + n)) * i.size) (by
          subst ho
          refine ⟨_, e, (0, 0), rfl, ?_, ?_, .inl rfl, ?_⟩
          · have := size_zeroCells z.cells (grownCap w (sLen + n) sCap e - (sLen + n))
            rw [hzs] at this
            simp only [List.size_toArray, List.length_append, Array.length_toList, this, ← hold.length, ← hndr.length, hol, hxl, Nat.add_mul]
          · simp only [List.length_map, List.length_append, hol, hxl, Nat.add_mul]; omega
          · intro j y hy
            rw [List.getElem?_map] at hy
            cases hc : (old ++ xs)[j]? with
            | none => simp [hc] at hy
            | some y' =>
              simp only [hc, Option.map_some, Option.some.injEq] at hy
              subst hy
              obtain ⟨v, hv', hr'⟩ := hvr.get j y' hc
              refine ⟨List.all_eq_true.1 hall _ (List.mem_of_getElem? hc), v, ?_, hr'⟩
              simp only [Nat.zero_add, List.getElem?_toArray]
              rw [List.getElem?_append_left (List.getElem?_eq_some_iff.1 hv').1]; exact hv')
      refine ⟨_, _, _, hr, ?_, hnew.2, ?_⟩
      · exact hnew.1
      · simp only [VRel]
        refine ⟨⟨w.heap.size, 0, none⟩, grownCap w (sLen + n) sCap e, rfl, grownCap_ge w _ _ e, .inl trivial, .inl ⟨⟨w.heap.size, 0, _⟩, by rw [← hn1]; exact Phi.up_self _ _ _, rfl, ?_⟩⟩
        have hge := grownCap_ge w (sLen + n) sCap e
        simp only [Nat.zero_add, ← Nat.add_mul]
        exact Nat.mul_le_mul_right _ (by omega)
    cases s with
    | lit v =>
      rw [vrel_lit] at hs
      subst hs
      cases sv with
      | slice a m c =>
        cases a with
        | some a => simp at ha
        | none =>
          cases m with
          | succ m => simp at ha
          | zero =>
            cases c with
            | succ c => simp at ha
            | zero =>
              simp only at ha
              by_cases hn0 : n = 0
              · subst hn0
                simp only [(beq_iff 0 0).2 rfl, cond_true, Option.some.injEq, Prod.mk.injEq] at ha
                obtain ⟨rfl, rfl⟩ := ha
                refine ⟨_, w, φ, run_append_room' w t u ty e d i ht hu hd hi none 0 0 0 xv hl news hnf (by omega), Ext.refl φ, h, vrel_lit.2 rfl⟩
              · simp only [beq_false.2 hn0, cond_false] at ha
                cases hfits : Nat.ble (n * (i.bytes + 1)) mostBytes with
                | false => simp [hfits] at ha
                | true =>
                  simp only [hfits, cond_true] at ha
                  cases hnc : A.newCells xs with
                  | none => simp [hnc] at ha
                  | some A2 =>
                    simp only [hnc, Option.map_some, Option.some.injEq, Prod.mk.injEq] at ha
                    obtain ⟨rfl, rfl⟩ := ha
                    have hA2 : A2 = A.new (.cells none 0 true (xs.map some)) := by
                      unfold AW.newCells at hnc
                      simpa [hone] using hnc.symm
                    subst hA2
                    have := hgrown 0 none 0 [] [] (vrels_nil.2 rfl) (by simp) rfl (by omega) (by simpa using hfits) (by simp [Builtin.firstCells]) (.cells none 0 true (xs.map some)) none 0 true A rfl (by simpa using hone) rfl h
                    simpa using this
      | _ => simp at ha
    | slice b off sz' len cap =>
      simp only [VRel] at hs
      obtain ⟨a, k, rfl, hnk, hcap, hal⟩ := hs
      have hold : ∀ (W : World) (old : List AV), WRel K w0 φ A W → A.first i.size len (.slice b off sz' len cap) = some old → ∃ olds, VRels φ old olds ∧ (Builtin.firstCells i.size len (.slice (some a) len k)).run P W = .ok olds.toArray W :=
        fun W old hW ho => hW.first P ho (by simp only [VRel]; exact ⟨a, k, rfl, hnk, hcap, hal⟩)
      have holdlen : ∀ old, A.first i.size len (.slice b off sz' len cap) = some old → old.length = len * i.size := by
        intro old ho
        unfold AW.first at ho
        simp only at ho
        cases hb : (Nat.beq i.size sz' && Nat.ble len len) with
        | false => simp [hb] at ho
        | true =>
          simp only [hb, cond_true] at ho
          by_cases hl0 : len = 0
          · subst hl0
            simp only [(beq_iff 0 0).2 rfl, cond_true, Option.some.injEq] at ho
            subst ho; simp
          · simp only [beq_false.2 hl0, cond_false] at ho
            rcases hal with ⟨p, hp, _⟩ | ⟨e1, _⟩
            · obtain ⟨_, _, hl', _⟩ := h.cells hp ho
              exact hl'
            · omega
      cases cap with
      | some c =>
        have hck : c = k := by rcases hcap with e' | e' <;> cases e'; rfl
        subst hck
        simp only at ha
        cases hz' : Nat.beq i.size sz' with
        | false => simp [hz'] at ha
        | true =>
          rw [beq_iff] at hz'
          subst hz'
          simp only [(beq_iff i.size i.size).2 rfl, Bool.not_true, cond_false] at ha
          cases hroom : Nat.ble (len + n) c with
          | true =>
            simp only [hroom, cond_true] at ha
            rw [ble_iff] at hroom
            have hrun := run_append_room' w t u ty e d i ht hu hd hi (some a) len c n xv hl news hnf hroom
            simp only at hrun
            by_cases hx0 : xs.length = 0
            · simp only [beq_iff, hx0, cond_true, (beq_iff 0 0).2 rfl, Option.map_some, Option.some.injEq, Prod.mk.injEq] at ha
              obtain ⟨rfl, rfl⟩ := ha
              have hn0 : news = [] := List.eq_nil_of_length_eq_zero (by rw [← hnr.length, hx0])
              subst hn0
              have hnz : n = 0 := by
                rcases Nat.eq_zero_or_pos n with h' | h'
                · exact h'
                · have := Nat.mul_pos h' h0; omega
              subst hnz
              refine ⟨_, w, φ, by rw [hrun]; rfl, Ext.refl φ, h, ?_⟩
              simp only [VRel]
              exact ⟨a, c, rfl, hroom, .inr rfl, hal⟩
            · simp only [beq_false.2 hx0, cond_false] at ha
              cases hst : A.storeCells b (off + len * i.size) xs with
              | none => simp [hst] at ha
              | some A2 =>
                simp only [hst, Option.map_some, Option.some.injEq, Prod.mk.injEq] at ha
                obtain ⟨rfl, rfl⟩ := ha
                rcases hal with ⟨p, hp, rfl, hfit⟩ | ⟨e1, e2⟩
                · obtain ⟨w', hw', hW'⟩ := h.storeCells P hp hst hnr
                  refine ⟨.slice (some ⟨p.c, p.s + off, none⟩) (len + n) c, w', φ, ?_, Ext.refl φ, hW', ?_⟩
                  · rw [hrun, Addr.add_lit, Nat.add_assoc, hw']; rfl
                  · simp only [VRel]
                    exact ⟨_, c, rfl, hroom, .inr rfl, .inl ⟨p, hp, rfl, hfit⟩⟩
                · exfalso
                  have : n = 0 := by omega
                  subst this
                  simp at hxl; exact hx0 (by simpa using hxl)
          | false =>
            simp only [hroom, cond_false] at ha
            cases hfits : Nat.ble ((len + n) * (i.bytes + 1)) mostBytes with
            | false => simp [hfits] at ha
            | true =>
              simp only [hfits, cond_true] at ha
              cases ho : A.first i.size len (.slice b off i.size len (some c)) with
              | none => simp [ho] at ha
              | some old =>
                simp only [ho] at ha
                obtain ⟨olds, hor, hof⟩ := hold w.drew old h.drew ho
                cases hnc : A.newCells (old ++ xs) with
                | none => simp [hnc] at ha
                | some A2 =>
                  simp only [hnc, Option.map_some, Option.some.injEq, Prod.mk.injEq] at ha
                  obtain ⟨rfl, rfl⟩ := ha
                  have hall : (old ++ xs).all AV.one = true := by
                    cases hq : (old ++ xs).all AV.one with
                    | true => rfl
                    | false => unfold AW.newCells at hnc; simp [hq] at hnc
                  have hA2 : A2 = A.new (.cells none 0 true ((old ++ xs).map some)) := by
                    unfold AW.newCells at hnc
                    rw [hall] at hnc
                    simpa using hnc.symm
                  subst hA2
                  exact hgrown c (some a) len old olds hor (holdlen old ho) rfl (by rw [ble_false] at hroom; omega) hfits hof _ none 0 true A rfl hall rfl h
      | none =>
        simp only at ha
        cases hz' : Nat.beq i.size sz' with
        | false => simp [hz'] at ha
        | true =>
          rw [beq_iff] at hz'
          subst hz'
          simp only [(beq_iff i.size i.size).2 rfl, Bool.not_true, cond_false] at ha
          by_cases hn0 : n = 0
          · subst hn0
            simp only [(beq_iff 0 0).2 rfl, cond_true, Option.some.injEq, Prod.mk.injEq] at ha
            obtain ⟨rfl, rfl⟩ := ha
            have hrun := run_append_room' w t u ty e d i ht hu hd hi (some a) len k 0 xv hl news hnf (by omega)
            have hn0 : news = [] := List.eq_nil_of_length_eq_zero (by rw [← hnr.length, hxl]; simp)
            subst hn0
            refine ⟨_, w, φ, by rw [hrun]; rfl, Ext.refl φ, h, ?_⟩
            simp only [VRel]
            exact ⟨a, k, rfl, hnk, .inl trivial, hal⟩
          · simp only [beq_false.2 hn0, cond_false] at ha
            cases hfits : Nat.ble ((len + n) * (i.bytes + 1)) mostBytes with
            | false => simp [hfits] at ha
            | true =>
              simp only [hfits, cond_true] at ha
              cases ho : A.first i.size len (.slice b off i.size len none) with
              | none => simp [ho] at ha
              | some old =>
                cases hget : A.get b with
                | none => simp [ho, hget] at ha
                | some ob =>
                  cases ob with
                  | cells g base pl cs =>
                    simp only [ho, hget] at ha
                    cases hao : old.all AV.one with
                    | false => simp [hao] at ha
                    | true =>
                      simp only [hao, cond_true, Option.some.injEq, Prod.mk.injEq] at ha
                      obtain ⟨rfl, rfl⟩ := ha
                      have hall : (old ++ xs).all AV.one = true := by rw [List.all_append, hao, hone]; rfl
                      by_cases hroom : len + n ≤ k
                      · -- in place
                        have hrun := run_append_room' w t u ty e d i ht hu hd hi (some a) len k n xv hl news hnf hroom
                        simp only at hrun
                        rcases hal with ⟨p, hp, rfl, hfit⟩ | ⟨e1, e2⟩
                        · obtain ⟨olds, hor, hof⟩ := hold w old h ho
                          obtain ⟨_, o1', m3, m4⟩ := h.obj b p _ hp hget
                          obtain ⟨arr, el, fr, rfl, k1, k2, k3, k4⟩ := m4
                          have hnl : news.length = n * i.size := by rw [← hnr.length, hxl]
                          have hkm : (len + n) * i.size ≤ k * i.size := Nat.mul_le_mul_right _ hroom
                          rw [Nat.add_mul] at hkm
                          have hfit2 : p.s + (off + len * i.size) + news.length ≤ arr.size := by rw [hnl]; omega
                          have hst := run_storeCells_row P p.c (p.s + (off + len * i.size)) el fr news 0 arr w m3 (fun j hj => k3.free j (by omega)) (by simpa using hfit2)
                            (fun v hvm => by
                              obtain ⟨j, hj⟩ := List.mem_iff_getElem?.1 hvm
                              have hjl : j < xs.length := by rw [hnr.length]; exact (List.getElem?_eq_some_iff.1 hj).1
                              obtain ⟨v', hv', hr⟩ := hnr.get j xs[j] (List.getElem?_eq_getElem hjl)
                              rw [hj] at hv'; cases hv'
                              exact AV.one_rel (List.all_eq_true.1 hone _ (List.getElem_mem hjl)) hr)
                          simp only [Nat.add_zero] at hst
                          have hW1 := h.kinStore (off + len * i.size) hp hget m3 news hfit2
                          rw [hnl] at hW1
                          have hgb := (kin_get (off + len * i.size + base) (n * i.size) hget).2
                          obtain ⟨cs2, eb, _⟩ := blur_cells (g.getD b) (off + len * i.size + base) (n * i.size) (some (g.getD b)) base pl cs
                          rw [eb] at hgb
                          have hlo := holdlen old ho
                          -- the cells of the view
                          have holdcell : ∀ j v, olds[j]? = some v → arr[p.s + off + j]? = some v := by
                            intro j v hj
                            have hl0 : len ≠ 0 := by
                              rintro rfl
                              have := hor.length
                              have hlt := (List.getElem?_eq_some_iff.1 hj).1
                              rw [Nat.zero_mul] at hlo; omega
                            have hof' := ho
                            unfold AW.first at hof'
                            simp only [(beq_iff i.size i.size).2 rfl, ble_iff.2 (Nat.le_refl len), Bool.and_self, cond_true, beq_false.2 hl0, cond_false] at hof'
                            obtain ⟨vs2, q1, _, _, q4, _⟩ := h.cells hp hof'
                            have hcells := run_firstCells_some (P := P) w i.size len (⟨p.c, p.s + off, none⟩ : Addr) len k vs2 (by rw [← q1.length, hlo]) q4
                            rw [hcells] at hof
                            have hvv : vs2 = olds := by simpa using hof
                            subst hvv
                            have := q4 j v hj
                            rw [Addr.add_lit, cell_of_row w p.c _ arr el fr m3] at this
                            exact this
                          have hview := hW1.view hp hgb off ((old ++ xs).map some) (by simp only [List.length_map, List.length_append, hlo, hxl]; omega) (by
                            intro arr2 e2 fr2 hq j y hy
                            rw [setRow_heap w p.c arr _ el fr m3, ← hnl] at hq
                            cases hq
                            rw [List.getElem?_map] at hy
                            cases hc : (old ++ xs)[j]? with
                            | none => simp [hc] at hy
                            | some y' =>
                              simp only [hc, Option.map_some, Option.some.injEq] at hy
                              subst hy
                              refine ⟨List.all_eq_true.1 hall _ (List.mem_of_getElem? hc), ?_⟩
                              rw [List.getElem?_toArray, splice_get arr.toList news (p.s + (off + len * i.size)) (p.s + off + j) (by simpa using hfit2), Array.getElem?_toList]
                              by_cases hj : j < old.length
                              · rw [List.getElem?_append_left hj] at hc
                                obtain ⟨v, hv', hr'⟩ := hor.get j y' hc
                                rw [if_pos (by omega)]
                                exact ⟨v, holdcell j v hv', hr'⟩
                              · rw [List.getElem?_append_right (by omega)] at hc
                                obtain ⟨v, hv', hr'⟩ := hnr.get _ y' hc
                                have hjl := (List.getElem?_eq_some_iff.1 hv').1
                                rw [if_neg (by omega), if_pos (by omega), show p.s + off + j - (p.s + (off + len * i.size)) = j - old.length by omega]
                                exact ⟨v, hv', hr'⟩)
                          have hAn : (A.kin b g base pl cs (off + len * i.size + base) (n * i.size)).n = A.n := by cases g <;> rfl
                          rw [hnl] at hst
                          refine ⟨.slice (some ⟨p.c, p.s + off, none⟩) (len + n) k, _, _, ?_, hview.1, hview.2, ?_⟩
                          · rw [hrun, Addr.add_lit, Nat.add_assoc, hst]; rfl
                          · simp only [VRel]
                            refine ⟨_, k, rfl, hroom, .inl trivial, .inl ⟨⟨p.c, p.s + off, p.S⟩, by rw [hAn]; exact Phi.up_self _ _ _, by simp, by simpa using hfit⟩⟩
                        · exfalso; omega
                      · -- a new row
                        obtain ⟨olds, hor, hof⟩ := hold w.drew old h.drew ho
                        have hW1 := h.kin (off + len * i.size + base) (n * i.size) hget
                        have hAn : (A.kin b g base pl cs (off + len * i.size + base) (n * i.size)).n = A.n := by cases g <;> rfl
                        exact hgrown k _ len old olds hor (holdlen old ho) rfl hroom hfits hof _ (some (g.getD b)) (base + off) pl _ rfl hall hAn hW1
                  | _ => simp [ho, hget] at ha
    | _ => simp at ha
end
end Go.Proofs.YtbhlagidmifijaaGreatDoor.AX
