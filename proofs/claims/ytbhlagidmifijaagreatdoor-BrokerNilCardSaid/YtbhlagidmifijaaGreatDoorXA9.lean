/-
  The executor against the machine: operations one behind the other, code, loops, scopes, calls.
-/
import Derived.Test.YtbhlagidmifijaaGreatDoorXA8f
namespace Go.Proofs.YtbhlagidmifijaaGreatDoor.AX
open Go.RowKit

structure SRel (F : Nat → Prop) (w0 : Base) (φ : Phi) (N : Nat) (s : ASt) (a : Act) (w : World) : Prop where
  world : WRel F w0 φ s.A w
  size : a.tmps.size = N
  defers : a.defers = []
  tmps : ∀ t, VRel φ ((s.tm.get t).getD (.lit undef)) (a.tmps.getD t undef)

/-- A call comes to what the executor tells. -/
def CallsTo (P : Program) (g : FuncId) (args : List AV) (A : AW) (v : AV) (A' : AW) : Prop :=
  ∀ F w0 φ w vs, WRel F w0 φ A w → VRels φ args vs →
    ((callFunc g vs.toArray).run P w = .ok (.enter g vs.toArray) w ∧ Calls P g vs.toArray w fun e w' => ∃ v' φ', e = .returned v' ∧ Ext φ φ' ∧ WRel F w0 φ' A' w' ∧ VRel φ' v v') ∨
    ∃ v' w' φ', (callFunc g vs.toArray).run P w = .ok (.value v') w' ∧ Ext φ φ' ∧ WRel F w0 φ' A' w' ∧ VRel φ' v v'

/-- No function of the program bears the one name that a call does not enter. -/
def noCount (P : Program) : Prop := ∀ (g : FuncId) (fn : Func), P.funcs[g]? = some fn → fn.name ≠ "runtime.NumGoroutine"

theorem run_callFunc {P : Program} {w : World} (hn : noCount P) {g : FuncId} {fn : Func} {c : Code} (hf : P.funcs[g]? = some fn) (hb : fn.body = some c) (vs : Array Value) : (callFunc g vs).run P w = .ok (.enter g vs) w := by
  unfold callFunc
  have h1 : (fn.name == "runtime.NumGoroutine") = false := by simpa using hn g fn hf
  simp only [Sem.run_bind, run_program, Result.andThen_ok, hf, h1, hb, Option.isNone_some, Bool.false_eq_true, if_false, Sem.run_pure]

def CallOK (P : Program) (call : ACall) : Prop := ∀ g args A v A', call g args A = some (v, A') → CallsTo P g args A v A'

section
variable {P : Program} {F : Nat → Prop} {w0 : Base} {φ : Phi} {N : Nat} {s : ASt} {a : Act} {w : World}

theorem SRel.eval (h : SRel F w0 φ N s a w) (x : Operand) : VRel φ (aeval s.tm x) (a.eval x) := by
  cases x with
  | tmp t => exact h.tmps t
  | const v => exact vrel_lit.2 rfl
  | global g => exact vrel_lit.2 rfl
  | func f => exact vrel_lit.2 rfl

theorem SRel.put (h : SRel F w0 φ N s a w) {φ' : Phi} (he : Ext φ φ') {A' : AW} {w' : World} (hw : WRel F w0 φ' A' w') {d : Option Tmp} {v : AV} {v' : Value} (hv : VRel φ' v v') {tm : T AV} (ht : aput s.tm N d v = some tm) :
    SRel F w0 φ' N { tm, A := A' } (a.put d v') w' := by
  cases d with
  | none =>
    simp only [aput, Option.some.injEq] at ht
    subst ht
    exact ⟨hw, h.size, h.defers, fun t => VRel.ext he _ _ (h.tmps t)⟩
  | some d =>
    simp only [aput] at ht
    obtain ⟨hb, ht⟩ := then_some ht
    rw [blt_iff] at hb
    cases ht
    refine ⟨hw, by simp [Act.put, h.size], h.defers, fun t => ?_⟩
    simp only [T.get_set, Act.put]
    by_cases e : d = t
    · subst e
      rw [if_pos rfl]
      have : d < a.tmps.size := by rw [h.size]; exact hb
      simpa [this] using hv
    · rw [if_neg e]
      have := VRel.ext he _ _ (h.tmps t)
      have e2 : (a.tmps.setIfInBounds d v').getD t undef = a.tmps.getD t undef := by
        simp [Array.getElem?_setIfInBounds_ne e]
      rw [e2]; exact this

theorem SRel.wanted (h : SRel F w0 φ N s a w) {ops : Array Oper} {o : Oper} {b : Bool} (hw : awanted ops s.tm o = some b) : Region.wanted o (yielded ops a.tmps) = b := by
  unfold awanted at hw
  unfold Region.wanted
  cases hg : o.guard with
  | none => rw [hg] at hw; simpa using hw
  | some g =>
    obtain ⟨j, want⟩ := g
    rw [hg] at hw
    simp only at hw ⊢
    unfold yielded
    cases hd : (ops[j]?).bind (·.dst) with
    | none => rw [hd] at hw; simp at hw; simp [← hw]
    | some d =>
      rw [hd] at hw
      simp only [Option.bind_some] at hw ⊢
      have ht := h.tmps d
      split at hw
      · rename_i b' he
        rw [he, vrel_lit] at ht
        simp only [Option.some.injEq] at hw
        cases hx : a.tmps[d]? with
        | none => simp [hx, undef] at ht
        | some u =>
          simp [hx] at ht
          subst ht
          rw [← hw]; cases b' <;> cases want <;> rfl
      · rename_i vs he
        rw [he, vrel_lit] at ht
        simp only [Option.some.injEq] at hw
        cases hx : a.tmps[d]? with
        | none => simp [← hw]
        | some u =>
          simp [hx] at ht
          subst ht
          simp [← hw]
      · cases hw

/-- One operation of a region. -/
theorem opStep_ok (hA : ∀ {F : Nat → Prop} {w0 : Base} {φ : Phi} {A : AW} {w : World} {ρ : Operand → AV} {ρ' : Operand → Value} {o : Oper} {r : AN}, WRel F w0 φ A w → (∀ x, VRel φ (ρ x) (ρ' x)) → aop P A ρ o = some r → OpOK P F w0 φ w ρ' o r)
    {call : ACall} (hc : CallOK P call) {ops : Array Oper} {i : Nat} {s' : ASt} (h : SRel F w0 φ N s a w) (hs : opStep P call N ops i s = some s') {Q : Exit → Act → World → Prop} {K : Act → World → Prop}
    (hK : ∀ φ' a' w', Ext φ φ' → SRel F w0 φ' N s' a' w' → K a' w') : wpOp P ops Q i K a w := by
  unfold opStep at hs
  unfold wpOp
  cases ho : ops[i]? with
  | none => rw [ho] at hs; cases hs; exact hK φ a w (Ext.refl φ) h
  | some o =>
    rw [ho] at hs
    simp only at hs ⊢
    cases hw : awanted ops s.tm o with
    | none => simp [hw] at hs
    | some b =>
      have hwant := h.wanted hw
      cases b with
      | false =>
        simp only [hw] at hs
        obtain ⟨tm, ht, e⟩ := opt_map hs
        subst e
        rw [hwant]
        simp only [Bool.false_eq_true, if_false]
        exact hK φ _ w (Ext.refl φ) (h.put (Ext.refl φ) h.world (vrel_lit.2 rfl) ht)
      | true =>
        simp only [hw] at hs
        rw [hwant]
        simp only [if_true]
        left
        unfold Oper.wp
        cases hr : aop P s.A (aeval s.tm) o with
        | none => simp [hr] at hs
        | some r =>
          have hok := hA h.world h.eval hr
          rw [hr] at hs
          cases r with
          | same v =>
            obtain ⟨tm, ht, e⟩ := opt_map hs
            subst e
            obtain ⟨v', q1, q2⟩ := hok
            rw [q1]
            exact hK φ _ w (Ext.refl φ) (h.put (Ext.refl φ) h.world q2 ht)
          | value v A' =>
            obtain ⟨tm, ht, e⟩ := opt_map hs
            subst e
            obtain ⟨v', w', φ', q1, q2, q3, q4⟩ := hok
            rw [q1]
            exact hK φ' _ w' q2 (h.put q2 q3 q4 ht)
          | skip A' =>
            obtain ⟨tm, ht, e⟩ := opt_map hs
            subst e
            obtain ⟨w', φ', q1, q2, q3⟩ := hok
            rw [q1]
            exact hK φ' _ w' q2 (h.put q2 q3 (vrel_lit.2 rfl) ht)
          | call g args =>
            simp only at hs
            obtain ⟨vs, q1, q2⟩ := hok
            rw [q1]
            cases hcl : call g args s.A with
            | none => simp [hcl] at hs
            | some vA =>
              obtain ⟨v, A'⟩ := vA
              simp only [hcl] at hs
              obtain ⟨tm, ht, e⟩ := opt_map hs
              subst e
              rcases hc g args s.A v A' hcl F w0 φ w vs h.world q2 with ⟨r1, r2⟩ | ⟨v', w', φ', r1, h1, h2, h3⟩
              · rw [r1]
                refine r2.mono ?_
                rintro e w' ⟨v', φ', rfl, h1, h2, h3⟩
                exact hK φ' _ w' h1 (h.put h1 h2 h3 ht)
              · rw [r1]
                exact hK φ' _ w' h1 (h.put h1 h2 h3 ht)

def AE.conc : AE → Exit
  | .normal => .normal
  | .exit id => .exit id
  | .goto l => .goto l
  | .ret => .ret

/-- What holds behind the code. -/
def Post (F : Nat → Prop) (w0 : Base) (φ : Phi) (N : Nat) (e : AE) (s : ASt) : Exit → Act → World → Prop :=
  fun e' a w => e' = e.conc ∧ ∃ φ', Ext φ φ' ∧ SRel F w0 φ' N s a w

def RecOK (P : Program) (rec : ARec) : Prop :=
  ∀ N c s e s', rec N c s = some (e, s') → ∀ F w0 φ a w, SRel F w0 φ N s a w → c.wp P (Post F w0 φ N e s') a w

theorem Post.ext {φ' : Phi} (he : Ext φ φ') {e : AE} {e' : Exit} {a : Act} {w : World} (h : Post F w0 φ' N e s e' a w) : Post F w0 φ N e s e' a w :=
  ⟨h.1, let ⟨φ'', h1, h2⟩ := h.2; ⟨φ'', he.trans h1, h2⟩⟩

theorem opsRun_ok (hA : ∀ {F : Nat → Prop} {w0 : Base} {φ : Phi} {A : AW} {w : World} {ρ : Operand → AV} {ρ' : Operand → Value} {o : Oper} {r : AN}, WRel F w0 φ A w → (∀ x, VRel φ (ρ x) (ρ' x)) → aop P A ρ o = some r → OpOK P F w0 φ w ρ' o r)
    {call : ACall} (hc : CallOK P call) {ops : Array Oper} (φ0 : Phi) : ∀ (l : List Nat) (φ : Phi) (s s' : ASt) (a : Act) (w : World), Ext φ0 φ → SRel F w0 φ N s a w → opsRun P call N ops l s = some s' → wpOps P ops (Post F w0 φ0 N .normal s') l a w
  | [], φ, s, s', a, w, h0, h, hs => by
    simp only [opsRun, Option.some.injEq] at hs
    subst hs
    exact ⟨rfl, φ, h0, h⟩
  | i :: l, φ, s, s', a, w, h0, h, hs => by
    simp only [opsRun] at hs
    rw [wpOps_cons]
    cases h1 : opStep P call N ops i s with
    | none => simp [h1] at hs
    | some s1 =>
      simp only [h1] at hs
      exact opStep_ok hA hc h h1 fun φ' a' w' he hr => opsRun_ok hA hc φ0 l φ' s1 s' a' w' (h0.trans he) hr hs

/-- A loop. -/
theorem loopRun_ok {rec : ARec} (hrec : RecOK P rec) {c : Code} {e : AE} {s' : ASt} (φ0 : Phi) (b : Frame) (k : List Item) (cs : List Frame) : ∀ (j : Nat) (φ : Phi) (s : ASt) (a : Act) (w : World), Ext φ0 φ → SRel F w0 φ N s a w →
    loopRun (rec N) c j s = some (e, s') → ∃ e' a' w', Post F w0 φ0 N e s' e' a' w' ∧ Arrives P (lone (b.at a (.code c :: .inLoop c :: k)) cs w) b k cs e' a' w'
  | 0, _, _, _, _, _, _, h => by simp [loopRun] at h
  | j + 1, φ, s, a, w, h0, hs, h => by
    simp only [loopRun] at h
    cases hr : rec N c s with
    | none => simp [hr] at h
    | some es =>
      obtain ⟨e1, s1⟩ := es
      obtain ⟨e', a1, w1, ⟨he, φ1, hx, hs1⟩, harr⟩ := hrec N c s e1 s1 hr F w0 φ a w hs b (.inLoop c :: k) cs
      subst he
      cases e1 with
      | normal =>
        simp only [hr] at h
        obtain ⟨e2, a2, w2, hq, harr2⟩ := loopRun_ok hrec φ0 b k cs j φ1 s1 a1 w1 (h0.trans hx) hs1 h
        exact ⟨e2, a2, w2, hq, .of_steps (Steps.trans harr (.one step_inLoop)) harr2⟩
      | exit id =>
        simp only [hr, Option.some.injEq, Prod.mk.injEq] at h
        obtain ⟨rfl, rfl⟩ := h
        exact ⟨_, a1, w1, ⟨rfl, φ1, h0.trans hx, hs1⟩, .pass (x := .inLoop c) rfl (fun _ _ => .inl (by simp [AE.conc])) harr⟩
      | goto l =>
        simp only [hr, Option.some.injEq, Prod.mk.injEq] at h
        obtain ⟨rfl, rfl⟩ := h
        exact ⟨_, a1, w1, ⟨rfl, φ1, h0.trans hx, hs1⟩, .pass (x := .inLoop c) rfl (fun _ _ => .inl (by simp [AE.conc])) harr⟩
      | ret =>
        simp only [hr, Option.some.injEq, Prod.mk.injEq] at h
        obtain ⟨rfl, rfl⟩ := h
        exact ⟨_, a1, w1, ⟨rfl, φ1, h0.trans hx, hs1⟩, .pass (x := .inLoop c) rfl (fun _ _ => .inl (by simp [AE.conc])) harr⟩

/-- The jumps inside a scope. -/
theorem jumps_ok {rec : ARec} (hrec : RecOK P rec) {body : Code} {e : AE} {s' : ASt} (φ0 : Phi) (b : Frame) (k : List Item) (cs : List Frame) (m : Machine) : ∀ (j : Nat) (φ : Phi) (e1 : AE) (s1 : ASt) (a1 : Act) (w1 : World), Ext φ0 φ →
    SRel F w0 φ N s1 a1 w1 → Arrives P m b (.inScope body :: k) cs e1.conc a1 w1 → jumps (rec N) body j (some (e1, s1)) = some (e, s') →
    ∃ e' a' w', Post F w0 φ0 N e s' e' a' w' ∧ Arrives P m b k cs e' a' w'
  | 0, _, _, _, _, _, _, _, _, h => by simp [jumps] at h
  | j + 1, φ, e1, s1, a1, w1, h0, hs, harr, h => by
    cases e1 with
    | normal =>
      simp only [jumps, Option.some.injEq, Prod.mk.injEq] at h
      obtain ⟨rfl, rfl⟩ := h
      exact ⟨.normal, a1, w1, ⟨rfl, φ, h0, hs⟩, Steps.trans harr (.one step_inScope)⟩
    | exit id =>
      simp only [jumps, Option.some.injEq, Prod.mk.injEq] at h
      obtain ⟨rfl, rfl⟩ := h
      exact ⟨.exit id, a1, w1, ⟨rfl, φ, h0, hs⟩, fun k' hk => harr k' (by simp [exitTo, hk])⟩
    | ret =>
      simp only [jumps, Option.some.injEq, Prod.mk.injEq] at h
      obtain ⟨rfl, rfl⟩ := h
      exact ⟨.ret, a1, w1, ⟨rfl, φ, h0, hs⟩, harr⟩
    | goto l =>
      simp only [jumps] at h
      cases hf : findLabel body l with
      | none =>
        simp only [hf, Option.some.injEq, Prod.mk.injEq] at h
        obtain ⟨rfl, rfl⟩ := h
        exact ⟨.goto l, a1, w1, ⟨rfl, φ, h0, hs⟩, fun k' hk => harr k' (by simp [gotoIn, hf, hk])⟩
      | some rest =>
        simp only [hf] at h
        cases hr : rec N rest s1 with
        | none =>
          rw [hr] at h
          cases j <;> simp [jumps] at h
        | some es =>
          obtain ⟨e2, s2⟩ := es
          obtain ⟨e', a2, w2, ⟨he, φ2, hx, hs2⟩, harr2⟩ := hrec N rest s1 e2 s2 hr F w0 φ a1 w1 hs b (.inScope body :: k) cs
          subst he
          rw [hr] at h
          exact jumps_ok hrec φ0 b k cs m j φ2 e2 s2 a2 w2 (h0.trans hx) hs2 (.of_steps (harr _ (by simp [gotoIn, hf])) harr2) h

theorem argsT_get : ∀ (l : List AV) (i : Nat) (t : T AV) (k : Nat), (argsT l i t).get k = if i ≤ k ∧ k < i + l.length then l[k - i]? else t.get k
  | [], i, t, k => by
    rw [if_neg (by simp only [List.length_nil]; omega)]; rfl
  | x :: l, i, t, k => by
    simp only [argsT]
    rw [argsT_get l (i + 1) _ k, T.get_set]
    by_cases h1 : i = k
    · subst h1
      rw [if_neg (by omega), if_pos rfl, if_pos (by simp)]
      simp
    · by_cases h2 : i + 1 ≤ k ∧ k < i + 1 + l.length
      · rw [if_pos h2, if_pos (by simp; omega)]
        have : k - i = (k - (i + 1)) + 1 := by omega
        rw [this]; rfl
      · rw [if_neg h2, if_neg h1, if_neg (by simp at h2 ⊢; omega)]

theorem resA_ok (h : SRel F w0 φ N s a w) {r : ResultVar} {v : AV} (hr : resA P s.A s.tm r = some v) :
    ∃ v', (match r with | .tmp t => (pure (a.tmps.getD t undef) : Sem Value) | .cell x t => do loadVar t (← asAddr (a.tmps.getD x undef))).run P w = .ok v' w ∧ VRel φ v v' := by
  cases r with
  | tmp t =>
    simp only [resA, Option.some.injEq] at hr
    subst hr
    exact ⟨_, rfl, h.tmps t⟩
  | cell x t =>
    simp only [resA] at hr
    have hx := h.tmps x
    split at hr
    · rename_i b off he
      rw [he] at hx
      simp only [VRel] at hx
      obtain ⟨p, hp, e⟩ := hx
      obtain ⟨g, hg, hr⟩ := opt_bind hr
      obtain ⟨h1, h2⟩ := run_loadVar_ok h.world hg (off := off) hp
      cases g with
      | true =>
        simp only [cond_true] at hr
        obtain ⟨n, hn, hr⟩ := opt_bind hr
        obtain ⟨cs, hc, hr⟩ := opt_bind hr
        cases hr
        obtain ⟨v, q1, q2⟩ := h1 rfl n cs hn hc
        exact ⟨v, by simp only [e, asAddr, Sem.run_bind, Sem.run_pure, Result.andThen_ok, q1], q2⟩
      | false =>
        simp only [cond_false] at hr
        obtain ⟨cs, hc, hr⟩ := opt_bind hr
        match cs, hr with
        | [c], hr =>
          cases hr
          obtain ⟨v, q1, q2⟩ := h2 rfl _ hc
          exact ⟨v, by simp only [e, asAddr, Sem.run_bind, Sem.run_pure, Result.andThen_ok, q1], q2⟩
    · cases hr

theorem mapM_ok {α : Type} (f : α → Sem Value) : ∀ (l : List α) (vs : List AV), (∀ (i : Nat) (x : α) (v : AV), l[i]? = some x → vs[i]? = some v → ∃ v', (f x).run P w = .ok v' w ∧ VRel φ v v') → l.length = vs.length →
    ∃ vs', (l.mapM f).run P w = .ok vs' w ∧ VRels φ vs vs'
  | [], vs, _, hl => by
    cases vs with
    | nil => exact ⟨[], rfl, vrels_nil.2 rfl⟩
    | cons v vs => simp at hl
  | x :: l, vs, h, hl => by
    cases vs with
    | nil => simp at hl
    | cons v vs =>
      obtain ⟨v', q1, q2⟩ := h 0 x v rfl rfl
      obtain ⟨vs', r1, r2⟩ := mapM_ok f l vs (fun i y u h1 h2 => h (i + 1) y u (by simpa using h1) (by simpa using h2)) (by simpa using hl)
      exact ⟨v' :: vs', by simp only [List.mapM_cons, Sem.run_bind, q1, Result.andThen_ok, r1, Sem.run_pure], vrels_cons.2 ⟨v', vs', rfl, q2, r2⟩⟩

theorem results_ok (h : SRel F w0 φ N s a w) {fn : Func} {v : AV} (hr : resultsA P s.A s.tm fn.results = some v) : ∃ v', (results fn a.tmps).run P w = .ok v' w ∧ VRel φ v v' := by
  unfold resultsA at hr
  cases hq : seqOpt (fn.results.toList.map (resA P s.A s.tm)) with
  | none => simp [hq] at hr
  | some vs =>
    have hm := seqOpt_some hq
    have hlen : fn.results.toList.length = vs.length := by have := congrArg List.length hm; simpa using this
    obtain ⟨vs', q1, q2⟩ := mapM_ok (P := P) (w := w) (φ := φ) (fun r => match r with | .tmp t => (pure (a.tmps.getD t undef) : Sem Value) | .cell x t => do loadVar t (← asAddr (a.tmps.getD x undef))) fn.results.toList vs (fun i x u h1 h2 => by
      refine resA_ok h ?_
      have := congrArg (fun l => l[i]?) hm
      simp only [List.getElem?_map, h1, h2, Option.map_some] at this
      exact Option.some.inj this) hlen
    have hrun : (fn.results.mapM (fun (r : ResultVar) => match r with | .tmp t => (pure (a.tmps.getD t undef) : Sem Value) | .cell x t => (do loadVar t (← asAddr (a.tmps.getD x undef)) : Sem Value)) : Sem (Array Value)).run P w = .ok vs'.toArray w := by
      rw [Array.mapM_eq_mapM_toList, Sem.run_map, q1]; rfl
    have hres : (results fn a.tmps).run P w = .ok (if h : vs'.toArray.size = 1 then vs'.toArray[0] else .tuple vs'.toArray) w := by
      unfold results
      simp only [Sem.run_bind]
      erw [hrun]
      rfl
    match vs, hq, hr, q2, hlen with
    | [], hq, hr, q2, _ =>
      rw [hq] at hr
      simp only [Option.some.injEq] at hr
      subst hr
      rw [vrels_nil] at q2
      subst q2
      exact ⟨_, hres, by simp only [VRel]; exact ⟨#[], rfl, by simp [vrels_nil]⟩⟩
    | [u], hq, hr, q2, _ =>
      rw [hq] at hr
      simp only [Option.some.injEq] at hr
      subst hr
      simp only [vrels_cons, vrels_nil] at q2
      obtain ⟨u', _, rfl, q3, rfl⟩ := q2
      exact ⟨u', hres, q3⟩
    | u1 :: u2 :: us, hq, hr, q2, _ =>
      rw [hq] at hr
      simp only [Option.some.injEq] at hr
      subst hr
      refine ⟨.tuple vs'.toArray, ?_, by simp only [VRel]; exact ⟨_, rfl, by simpa using q2⟩⟩
      rw [hres, dif_neg]
      have := q2.length
      simp at this ⊢
      omega

/-- A call that is entered. -/
theorem callWith_ok (hn : noCount P) {I : Intr} (hI : ∀ g f args A v A', I g = some f → f args A = some (v, A') → CallsTo P g args A v A') {rec : ARec} (hrec : RecOK P rec) : CallOK P (callWith P I rec) := by
  intro g args A v A' hc
  unfold callWith at hc
  cases hi : I g with
  | some f => rw [hi] at hc; exact hI g f args A v A' hi hc
  | none =>
    rw [hi] at hc
    simp only at hc
    cases hf : P.funcs[g]? with
    | none => simp [hf] at hc
    | some fn =>
      simp only [hf] at hc
      cases hb : fn.body with
      | none => simp [hb] at hc
      | some c =>
        simp only [hb] at hc
        intro F w0 φ w vs hw hv
        refine .inl ⟨run_callFunc hn hf hb _, ?_⟩
        have hlen := hv.length
        have h0 : SRel F w0 φ (args.length + (fn.ntmps - args.length)) { tm := argsT args 0 .nil, A } { tmps := vs.toArray ++ Array.replicate (fn.ntmps - vs.toArray.size) undef, defers := [] } w := by
          refine ⟨hw, by simp [hlen], rfl, fun t => ?_⟩
          simp only [argsT_get, Nat.zero_add, Nat.zero_le, true_and, Nat.sub_zero]
          by_cases ht : t < args.length
          · rw [if_pos ht]
            obtain ⟨v', q1, q2⟩ := hv.get t args[t] (List.getElem?_eq_getElem ht)
            rw [List.getElem?_eq_getElem ht]
            have : (vs.toArray ++ Array.replicate (fn.ntmps - vs.toArray.size) undef).getD t undef = v' := by
              have hv2 : t < vs.length := by omega
              have q1' := q1
              rw [List.getElem?_eq_getElem hv2] at q1'
              simp [Array.getElem?_append, hv2]
              exact Option.some.inj q1'
            rw [this]; exact q2
          · rw [if_neg ht, T.get_nil]
            have : (vs.toArray ++ Array.replicate (fn.ntmps - vs.toArray.size) undef).getD t undef = undef := by
              have hv2 : ¬ t < vs.length := by omega
              simp [Array.getElem?_append, hv2, Array.getElem?_replicate]
              split <;> rfl
            rw [this]; exact vrel_lit.2 rfl
        have fin : ∀ e s1, rec (args.length + (fn.ntmps - args.length)) c { tm := argsT args 0 .nil, A } = some (e, s1) → (e = .normal ∨ e = .ret) → (resultsA P s1.A s1.tm fn.results).map (fun v => (v, s1.A)) = some (v, A') →
            Calls P g vs.toArray w fun e w' => ∃ v' φ', e = .returned v' ∧ Ext φ φ' ∧ WRel F w0 φ' A' w' ∧ VRel φ' v v' := by
          intro e s1 hr he hres
          obtain ⟨v1, hres1, e1⟩ := opt_map hres
          cases e1
          refine calls_of_wp hf hb (wp_mono (hrec _ c _ e s1 hr F w0 φ _ w h0) ?_)
          rintro e' a' w' ⟨rfl, φ', h1, h2⟩
          obtain ⟨v', q1, q2⟩ := results_ok h2 hres1
          rcases he with rfl | rfl
          · exact ⟨h2.defers, v', q1, v', φ', rfl, h1, h2.world, q2⟩
          · exact ⟨h2.defers, v', q1, v', φ', rfl, h1, h2.world, q2⟩
        split at hc
        · rename_i s1 hr
          exact fin .normal s1 hr (.inl rfl) hc
        · rename_i s1 hr
          exact fin .ret s1 hr (.inr rfl) hc
        · cases hc
end
end Go.Proofs.YtbhlagidmifijaaGreatDoor.AX
