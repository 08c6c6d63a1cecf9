/-
  What the executor does at an operation is what the machine does there: comparisons, conversions, what is made, slices, maps.
-/
import Derived.Test.YtbhlagidmifijaaGreatDoorXA7
namespace Go.Proofs.YtbhlagidmifijaaGreatDoor.AX
open Go.RowKit

section
variable {P : Program} {K : Nat → Prop} {w0 : Base} {φ : Phi} {A : AW} {w : World} {ρ : Operand → AV} {ρ' : Operand → Value}

theorem WRel.cellAt (h : WRel K w0 φ A w) {b : Nat} {p : Place} (hp : φ b = some p) {g : Option Nat} {base : Nat} {cs : List (Option AV)} (hget : A.get b = some (.cells g base true cs)) (o : Nat) (ho : o < cs.length) :
    ∃ arr e, w.heap[p.c]? = some (.cells arr e (0, 0)) ∧ p.s + o < arr.size := by
  obtain ⟨_, x', m3, m4⟩ := h.obj b p _ hp hget
  obtain ⟨arr, e, fr, rfl, k1, k2, k3, _⟩ := m4
  rcases k3 with rfl | ⟨e', _⟩
  · exact ⟨arr, e, m3, by omega⟩
  · cases e'

theorem eqA_ok (h : WRel K w0 φ A w) {t : TypeId} {x y : AV} {x' y' : Value} {b : Bool} (he : eqA P A t x y = some b) (hx : VRel φ x x') (hy : VRel φ y y') : (Op.equal t x' y').run P w = .ok b w := by
  unfold eqA at he
  unfold Op.equal Op.maxDepth Op.equalIn
  split at he
  · rename_i e b1 o1 hu
    cases he
    simp only [VRel] at hx
    rw [vrel_lit] at hy
    obtain ⟨p, _, rfl⟩ := hx
    subst hy
    simp [Sem.run_bind, run_underlying hu]
  · rename_i e b1 o1 hu
    cases he
    simp only [VRel] at hy
    rw [vrel_lit] at hx
    obtain ⟨p, _, rfl⟩ := hy
    subst hx
    simp [Sem.run_bind, run_underlying hu]
  · rename_i e b1 o1 b2 o2 hu
    simp only [VRel] at hx hy
    obtain ⟨p, hp, rfl⟩ := hx
    obtain ⟨q, hq, rfl⟩ := hy
    split at he
    · rename_i m hs
      cases hb : Nat.beq b1 b2 with
      | true =>
        rw [hb] at he
        rw [beq_iff] at hb
        subst hb
        rw [hp] at hq; cases hq
        cases he
        have hbeq : ((⟨p.c, p.s + o1, none⟩ : Addr) == ⟨p.c, p.s + o2, none⟩) = Nat.beq o1 o2 := by
          rw [Bool.eq_iff_iff]; simp [beq_iff]
        simp only [Sem.run_bind, run_underlying hu, Result.andThen_ok, run_sizeOf' hs]
        rw [hbeq]
        have hm : ¬ (Nat.succ m = 0) := by omega
        simp [sameAddr]
        exact hbeq
      | false =>
        rw [hb] at he
        rw [beq_false] at hb
        simp only [cond_false] at he
        split at he
        · rename_i base1 cs1 base2 cs2 hg1 hg2
          obtain ⟨hc, he⟩ := then_some he
          simp only [Bool.and_eq_true, blt_iff] at hc
          cases he
          have hne : p.c ≠ q.c := by
            intro hc
            rcases h.inj b1 b2 p q _ _ hp hq hg1 hg2 hc with e' | ⟨g', _, _, _, _, _, _, q1, _⟩
            · exact hb e'
            · rw [hg1] at q1; cases q1
          obtain ⟨arr1, e1, m1, l1⟩ := h.cellAt hp hg1 o1 hc.1
          obtain ⟨arr2, e2, m2, l2⟩ := h.cellAt hq hg2 o2 hc.2
          have hne' : (p.c == q.c) = false := by simpa using hne
          have f1 : ∀ k, w.frozen? ⟨p.c, k, none⟩ = false := fun k => by simp [World.frozen?, m1]
          have f2 : ∀ k, w.frozen? ⟨q.c, k, none⟩ = false := fun k => by simp [World.frozen?, m2]
          have s1 : w.shape? p.c = some (e1, arr1.size) := by simp [World.shape?, m1]
          have s2 : w.shape? q.c = some (e2, arr2.size) := by simp [World.shape?, m2]
          simp only [Sem.run_bind, run_underlying hu, Result.andThen_ok, run_sizeOf' hs]
          simp [sameAddr, hne', f1, noView, viewAt, s1, s2, mayBeOne, stringish, f2]
        · cases he
    · cases he
  · rename_i e b1 o1 sz n c a m k hu
    cases he
    simp only [VRel] at hx
    rw [vrel_lit] at hy
    obtain ⟨a', k', rfl, _⟩ := hx
    subst hy
    simp [Sem.run_bind, run_underlying hu]
  · rename_i e m k b1 o1 sz n c hu
    cases he
    simp only [VRel] at hy
    rw [vrel_lit] at hx
    obtain ⟨a', k', rfl, _⟩ := hy
    subst hx
    simp [Sem.run_bind, run_underlying hu]
  · rename_i kt e b1 hu
    cases he
    simp only [VRel] at hx
    rw [vrel_lit] at hy
    obtain ⟨p, _, rfl⟩ := hx
    subst hy
    simp [Sem.run_bind, run_underlying hu]
  · rename_i kt e b1 hu
    cases he
    simp only [VRel] at hy
    rw [vrel_lit] at hx
    obtain ⟨p, _, rfl⟩ := hy
    subst hx
    simp [Sem.run_bind, run_underlying hu]
  · rename_i ps rs v fn a c hu
    cases he
    simp only [VRel] at hx
    rw [vrel_lit] at hy
    obtain ⟨_, _, rfl, _⟩ := hx
    subst hy
    simp [Sem.run_bind, run_underlying hu]
  · rename_i ps rs v fn a c hu
    cases he
    simp only [VRel] at hy
    rw [vrel_lit] at hx
    obtain ⟨_, _, rfl, _⟩ := hy
    subst hx
    simp [Sem.run_bind, run_underlying hu]
  · rename_i ms t' v hu
    cases he
    simp only [VRel] at hx
    rw [vrel_lit] at hy
    obtain ⟨_, rfl, _⟩ := hx
    subst hy
    simp [Sem.run_bind, run_underlying hu]
  · rename_i ms t' v hu
    cases he
    simp only [VRel] at hy
    rw [vrel_lit] at hx
    obtain ⟨_, rfl, _⟩ := hy
    subst hx
    simp [Sem.run_bind, run_underlying hu]
  · cases he

/-- The guard of a comparison: not both sides nil. -/
theorem eqGuard_ok {t : TypeId} {x y : AV} {x' y' : Value} {b : Bool} (he : eqA P A t x y = some b) (hx : VRel φ x x') (hy : VRel φ y y') (u v : Operand) :
    (eqGuard .eql t u v x' y').run P w = .ok () w ∧ (eqGuard .neq t u v x' y').run P w = .ok () w := by
  unfold eqA at he
  split at he
  · simp only [VRel] at hx; rw [vrel_lit] at hy; obtain ⟨p, _, rfl⟩ := hx; subst hy; exact ⟨rfl, rfl⟩
  · simp only [VRel] at hy; rw [vrel_lit] at hx; obtain ⟨p, _, rfl⟩ := hy; subst hx; exact ⟨rfl, rfl⟩
  · simp only [VRel] at hx hy; obtain ⟨p, _, rfl⟩ := hx; obtain ⟨q, _, rfl⟩ := hy; exact ⟨rfl, rfl⟩
  · simp only [VRel] at hx; rw [vrel_lit] at hy; obtain ⟨_, _, rfl, _⟩ := hx; subst hy; exact ⟨rfl, rfl⟩
  · simp only [VRel] at hy; rw [vrel_lit] at hx; obtain ⟨_, _, rfl, _⟩ := hy; subst hx; exact ⟨rfl, rfl⟩
  · simp only [VRel] at hx; rw [vrel_lit] at hy; obtain ⟨p, _, rfl⟩ := hx; subst hy; exact ⟨rfl, rfl⟩
  · simp only [VRel] at hy; rw [vrel_lit] at hx; obtain ⟨p, _, rfl⟩ := hy; subst hx; exact ⟨rfl, rfl⟩
  · simp only [VRel] at hx; rw [vrel_lit] at hy; obtain ⟨_, _, rfl, _⟩ := hx; subst hy; exact ⟨rfl, rfl⟩
  · simp only [VRel] at hy; rw [vrel_lit] at hx; obtain ⟨_, _, rfl, _⟩ := hy; subst hx; exact ⟨rfl, rfl⟩
  · simp only [VRel] at hx; rw [vrel_lit] at hy; obtain ⟨_, rfl, _⟩ := hx; subst hy; exact ⟨rfl, rfl⟩
  · simp only [VRel] at hy; rw [vrel_lit] at hx; obtain ⟨_, rfl, _⟩ := hy; subst hx; exact ⟨rfl, rfl⟩
  · cases he

/-- Neither side is a number, a float, a complex number, or both strings: the comparison is 'Op.equal'. -/
theorem binOp_eqA {t : TypeId} {x y : AV} {x' y' : Value} {b : Bool} (he : eqA P A t x y = some b) (hx : VRel φ x x') (hy : VRel φ y y') :
    binOp .eql t x' y' = (do pure (.bool (← Op.equal t x' y'))) ∧ binOp .neq t x' y' = (do pure (.bool (!(← Op.equal t x' y')))) := by
  unfold eqA at he
  split at he
  · simp only [VRel] at hx; rw [vrel_lit] at hy; obtain ⟨p, _, rfl⟩ := hx; subst hy; exact ⟨rfl, rfl⟩
  · simp only [VRel] at hy; rw [vrel_lit] at hx; obtain ⟨p, _, rfl⟩ := hy; subst hx; exact ⟨rfl, rfl⟩
  · simp only [VRel] at hx hy; obtain ⟨p, _, rfl⟩ := hx; obtain ⟨q, _, rfl⟩ := hy; exact ⟨rfl, rfl⟩
  · simp only [VRel] at hx; rw [vrel_lit] at hy; obtain ⟨_, _, rfl, _⟩ := hx; subst hy; exact ⟨rfl, rfl⟩
  · simp only [VRel] at hy; rw [vrel_lit] at hx; obtain ⟨_, _, rfl, _⟩ := hy; subst hx; exact ⟨rfl, rfl⟩
  · simp only [VRel] at hx; rw [vrel_lit] at hy; obtain ⟨p, _, rfl⟩ := hx; subst hy; exact ⟨rfl, rfl⟩
  · simp only [VRel] at hy; rw [vrel_lit] at hx; obtain ⟨p, _, rfl⟩ := hy; subst hx; exact ⟨rfl, rfl⟩
  · simp only [VRel] at hx; rw [vrel_lit] at hy; obtain ⟨_, _, rfl, _⟩ := hx; subst hy; exact ⟨rfl, rfl⟩
  · simp only [VRel] at hy; rw [vrel_lit] at hx; obtain ⟨_, _, rfl, _⟩ := hy; subst hx; exact ⟨rfl, rfl⟩
  · simp only [VRel] at hx; rw [vrel_lit] at hy; obtain ⟨_, rfl, _⟩ := hx; subst hy; exact ⟨rfl, rfl⟩
  · simp only [VRel] at hy; rw [vrel_lit] at hx; obtain ⟨_, rfl, _⟩ := hy; subst hx; exact ⟨rfl, rfl⟩
  · cases he

theorem ok_eql (h : WRel K w0 φ A w) (hρ : ∀ x, VRel φ (ρ x) (ρ' x)) {dst : Option Tmp} {ty yt : TypeId} {pos : String} {after : Array Edge} {guard : Option (Nat × Bool)} {t : TypeId} {x y : Operand} {r : AN}
    (hr : aopRef P A ρ ⟨dst, .binOp .eql t x y yt, ty, pos, after, guard⟩ = some r) : OpOK P K w0 φ w ρ' ⟨dst, .binOp .eql t x y yt, ty, pos, after, guard⟩ r := by
  simp only [aopRef] at hr
  obtain ⟨b, hb, rfl⟩ := opt_map hr
  have h1 := eqA_ok h hb (hρ x) (hρ y)
  have h2 := (eqGuard_ok (w := w) hb (hρ x) (hρ y) x y).1
  have h3 := (binOp_eqA hb (hρ x) (hρ y)).1
  exact ⟨.bool b, by simp only [execOp, Sem.run_bind, h2, Result.andThen_ok, h3, h1, Sem.run_pure], vrel_lit.2 rfl⟩
theorem ok_neq (h : WRel K w0 φ A w) (hρ : ∀ x, VRel φ (ρ x) (ρ' x)) {dst : Option Tmp} {ty yt : TypeId} {pos : String} {after : Array Edge} {guard : Option (Nat × Bool)} {t : TypeId} {x y : Operand} {r : AN}
    (hr : aopRef P A ρ ⟨dst, .binOp .neq t x y yt, ty, pos, after, guard⟩ = some r) : OpOK P K w0 φ w ρ' ⟨dst, .binOp .neq t x y yt, ty, pos, after, guard⟩ r := by
  simp only [aopRef] at hr
  obtain ⟨b, hb, rfl⟩ := opt_map hr
  have h1 := eqA_ok h hb (hρ x) (hρ y)
  have h2 := (eqGuard_ok (w := w) hb (hρ x) (hρ y) x y).2
  have h3 := (binOp_eqA hb (hρ x) (hρ y)).2
  exact ⟨.bool (!b), by simp only [execOp, Sem.run_bind, h2, Result.andThen_ok, h3, h1, Sem.run_pure], vrel_lit.2 rfl⟩

theorem ok_makeInterface (hρ : ∀ x, VRel φ (ρ x) (ρ' x)) {dst : Option Tmp} {ty : TypeId} {pos : String} {after : Array Edge} {guard : Option (Nat × Bool)} {t : TypeId} {x : Operand} {r : AN}
    (hr : aopRef P A ρ ⟨dst, .makeInterface t x, ty, pos, after, guard⟩ = some r) : OpOK P K w0 φ w ρ' ⟨dst, .makeInterface t x, ty, pos, after, guard⟩ r := by
  simp only [aopRef] at hr
  split at hr
  · cases hr
  · cases hr
  · rename_i d hd hu
    cases hr
    refine ⟨.iface t (ρ' x), ?_, ?_⟩
    rotate_left
    · have hv := hρ x
      split
      · rename_i v hx
        rw [hx, vrel_lit] at hv
        rw [hv]
        exact vrel_lit.2 rfl
      · simp only [VRel]; exact ⟨_, rfl, hv⟩
    have : P.concrete t = true := by
      unfold Program.concrete
      rw [hu]
      cases d <;> first | rfl | exact absurd rfl (hd _)
    simp only [execOp, Sem.run_bind, run_makeInterface w t _ this, Result.andThen_ok, Sem.run_pure]
theorem ok_makeFunc (hρ : ∀ x, VRel φ (ρ x) (ρ' x)) {dst : Option Tmp} {ty : TypeId} {pos : String} {after : Array Edge} {guard : Option (Nat × Bool)} {fn : Fn} {fs cs : Array Operand} {r : AN}
    (hr : aopRef P A ρ ⟨dst, .makeFunc fn fs cs, ty, pos, after, guard⟩ = some r) : OpOK P K w0 φ w ρ' ⟨dst, .makeFunc fn fs cs, ty, pos, after, guard⟩ r := by
  simp only [aopRef, Option.some.injEq] at hr
  subst hr
  refine ⟨.func fn (fs.map ρ') (cs.map ρ'), rfl, ?_⟩
  simp only [VRel]
  refine ⟨_, _, rfl, ?_, ?_⟩
  · rw [Array.toList_map]; exact vrels_map _ _ _ fun x _ => hρ x
  · rw [Array.toList_map]; exact vrels_map _ _ _ fun x _ => hρ x
theorem mk_makeMap (hρ : ∀ x, VRel φ (ρ x) (ρ' x)) {dst : Option Tmp} {ty : TypeId} {pos : String} {after : Array Edge} {guard : Option (Nat × Bool)} {t : TypeId} {q : Option Operand} {r : AO × (Nat → AV)}
    (hr : mk P ρ (.makeMap t q) = some r) : MkOK P φ ρ' ⟨dst, .makeMap t q, ty, pos, after, guard⟩ r.1 r.2 := by
  have fin : (∀ w : World, (Instr.makeMap t (q.map ρ')).run P w = .ok (.map (some w.heap.size)) (w.alloc (.map #[] 0))) → r = (.map [] 0, .map) → MkOK P φ ρ' ⟨dst, .makeMap t q, ty, pos, after, guard⟩ r.1 r.2 := by
    rintro h1 rfl w
    exact ⟨w, .map #[] 0, 0, .map (some w.heap.size), .inl rfl, by simp only [execOp, Sem.run_bind, h1 w, Result.andThen_ok, Sem.run_pure], ⟨#[], rfl, rfl⟩, fun φ' id hid => by simp only [VRel]; exact ⟨_, hid, rfl⟩⟩
  simp only [mk] at hr
  split at hr
  · rename_i k e hu
    cases hr
    exact fin (fun _ => rfl) rfl
  · rename_i k e x hu
    split at hr
    · rename_i kk n hx
      cases hr
      have hv := hρ x
      rw [hx, vrel_lit] at hv
      refine fin (fun w => ?_) rfl
      simp only [Instr.makeMap, Option.map_some, Sem.run_bind, run_underlying hu, Result.andThen_ok, hv, asInt, asIntOf, Sem.run_pure, run_newObj]
      rfl
    · cases hr
  · cases hr

theorem bytesOf_rel : ∀ {cs : List AV} {l : List UInt8} {vs : List Value}, bytesOf cs = some l → VRels φ cs vs → l.length = vs.length ∧ ∀ (i : Nat) (v : Value), vs[i]? = some v → ∃ n : Int, v = .int .u8 n ∧ l[i]? = some (UInt8.ofNat n.toNat)
  | [], l, vs, h, hv => by
    simp only [bytesOf, Option.some.injEq] at h
    subst h
    rw [vrels_nil] at hv
    subst hv
    exact ⟨rfl, by simp⟩
  | c :: cs, l, vs, h, hv => by
    rw [vrels_cons] at hv
    obtain ⟨v, vs', rfl, h1, h2⟩ := hv
    unfold bytesOf at h
    split at h
    · rename_i hh; cases hh
    · rename_i n l' heq
      cases heq
      obtain ⟨m, hm, rfl⟩ := opt_map h
      obtain ⟨q1, q2⟩ := bytesOf_rel hm h2
      rw [vrel_lit] at h1
      refine ⟨by simp [q1], fun i u hu => ?_⟩
      cases i with
      | zero => simp only [List.getElem?_cons_zero, Option.some.injEq] at hu; subst hu; exact ⟨n, h1, rfl⟩
      | succ i => simpa using q2 i u (by simpa using hu)
    · cases h
end
end Go.Proofs.YtbhlagidmifijaaGreatDoor.AX
