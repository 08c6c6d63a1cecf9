/-
  The executor against the machine: drawn regions whole, code, the main theorem.
-/
import Derived.Test.YtbhlagidmifijaaGreatDoorXA12c
namespace Go.Proofs.YtbhlagidmifijaaGreatDoor.AX
open Go.RowKit

section
variable {P : Program} {K : Nat → Prop} {w0 : Base} {N base : Nat} {call : ACall} {ops : Array Oper} {tm : T AV} {A0 : AW} {es : List DE}

def leftOf (ops : Array Oper) (listed : Array Bool) : Nat := ((List.range ops.size).filter fun j => !(listed.getD j false)).length

theorem leftOf_put {listed : Array Bool} {i : Nat} (hi : i < listed.size) (hl : listed.size = ops.size) (hni : listed.getD i false = false) : leftOf ops (listed.setIfInBounds i true) < leftOf ops listed := by
  unfold leftOf
  have hsub : ((List.range ops.size).filter fun j => !((listed.setIfInBounds i true).getD j false)) = (((List.range ops.size).filter fun j => !(listed.getD j false)).filter fun j => !(j == i)) := by
    rw [List.filter_filter]
    refine List.filter_congr fun j _ => ?_
    rw [getD_put hi]
    by_cases h : j = i
    · subst h; simp
    · simp [h]
  rw [hsub]
  refine Nat.lt_of_le_of_ne (List.length_filter_le _ _) fun e => ?_
  have := (List.length_filter_eq_length_iff.1 e) i (List.mem_filter.2 ⟨List.mem_range.2 (by omega), by simp [hni]⟩)
  simp at this

theorem all_listed (hE : ∀ (j : Nat) (o' : Oper), ops[j]? = some o' → ∀ g ∈ o'.after.toList, Region.binds .any g = true → g.on < j) {listed : Array Bool} (hl : listed.size = ops.size) (hr : Region.ready .any ops listed = []) :
    ∀ i, i < ops.size → listed.getD i false = true := by
  intro i
  induction i using Nat.strongRecOn with
  | _ i ih =>
    intro hi
    cases hc : listed.getD i false with
    | true => rfl
    | false =>
      exfalso
      have hmem : i ∈ Region.ready .any ops listed := by
        unfold Region.ready
        refine List.mem_filter.2 ⟨List.mem_range.2 hi, ?_⟩
        have h1 : listed.getD i true = false := by
          have : i < listed.size := by omega
          simpa [this] using hc
        rw [h1, Array.getElem?_eq_getElem hi]
        simp only [Bool.not_false, Option.map_some, Option.getD_some, Bool.true_and]
        rw [Array.all_eq_true']
        intro g hg
        cases hb : Region.binds .any g with
        | false => rfl
        | true =>
          have hlt := hE i _ (Array.getElem?_eq_getElem hi) g (by simpa using hg) hb
          rw [ih g.on hlt (by omega)]; rfl
      rw [hr] at hmem
      cases hmem

theorem ready_spec {listed : Array Bool} (hl : listed.size = ops.size) {i : Nat} (h : i ∈ Region.ready .any ops listed) : ∃ o, ops[i]? = some o ∧ listed.getD i false = false ∧ ∀ g ∈ o.after.toList, Region.binds .any g = true → listed.getD g.on false = true := by
  unfold Region.ready at h
  obtain ⟨h1, h2⟩ := List.mem_filter.1 h
  have hi : i < ops.size := List.mem_range.1 h1
  rw [Bool.and_eq_true] at h2
  refine ⟨ops[i], Array.getElem?_eq_getElem hi, ?_, ?_⟩
  · have : i < listed.size := by omega
    simpa [this] using h2.1
  · intro g hg hb
    have := h2.2
    rw [Array.getElem?_eq_getElem hi] at this
    simp only [Option.map_some, Option.getD_some, Array.all_eq_true'] at this
    have := this g (by simpa using hg)
    rw [hb] at this
    simpa using this

theorem drawAny_ok (hA : AopOK P) (hc : CallOK P call) (hD : ∀ b, w0.D b → b < base) (hpass : dpass P call ops tm base (masks ops.toList []) 0 ops.toList [] A0 = some es)
    (hchk : dcheck P N ops tm (masks ops.toList []) (es.map (·.v)) es (worldsD A0 es) 0 ops.toList es = true) (φ0 : Phi) : ∀ (fuel : Nat) (φ : Phi) (listed : Array Bool) (a : Act) (w : World), listed.size = ops.size → leftOf ops listed ≤ fuel → Closed ops listed →
    Ext φ0 φ → RelD K w0 φ N base ops tm A0 es listed a w →
    wpAny P .any ops (Post K w0 φ0 N .normal { tm := finalT ops.toList (es.map (·.v)) tm, A := realize base (fun _ => true) 0 (es.map (·.fl)) ((worldsD A0 es).getLastD A0) }) fuel listed a w := by
  obtain ⟨hlen, hd⟩ := dpass_spec _ _ _ _ _ hpass
  have hlen' : es.length = ops.size := by simpa using hlen
  have toL : ∀ j, ops.toList[j]? = ops[j]? := fun j => Array.getElem?_toList
  have chk : ∀ (j : Nat) (o' : Oper) (e' : DE), ops[j]? = some o' → es[j]? = some e' → dcheckOne P N ops tm (masks ops.toList []) ((es.map (·.v)).take j) es (worldsD A0 es) j o' e' = true := by
    intro j o' e' h1 h2
    have := dcheck_spec 0 ops.toList es hchk j o' e' (by rw [toL]; exact h1) h2
    simpa using this
  have hE : ∀ (j : Nat) (o' : Oper), ops[j]? = some o' → ∀ g ∈ o'.after.toList, Region.binds .any g = true → g.on < j := by
    intro j o' h1 g hg hb
    have hj : j < es.length := by rw [hlen']; exact (Array.getElem?_eq_some_iff.1 h1).1
    have c := chk j o' _ h1 (List.getElem?_eq_getElem hj)
    simp only [dcheckOne, Bool.and_eq_true] at c
    have := List.all_eq_true.1 c.1.1.1.1 g hg
    rw [hb] at this
    simpa [blt_iff] using this
  have hdist : ∀ (i j : Nat) (o o' : Oper) (t : Tmp), ops.toList[i]? = some o → ops.toList[j]? = some o' → o.dst = some t → o'.dst = some t → i = j := by
    intro i j o o' t h1 h2 h3 h4
    rw [toL] at h1 h2
    have hi : i < es.length := by rw [hlen']; exact (Array.getElem?_eq_some_iff.1 h1).1
    have c := chk i o _ h1 (List.getElem?_eq_getElem hi)
    simp only [dcheckOne, Bool.and_eq_true] at c
    have := List.all_eq_true.1 c.1.2 j (List.mem_range.2 (Array.getElem?_eq_some_iff.1 h2).1)
    rw [h2] at this
    simp only [Option.bind_some, h4, Bool.and_eq_true, Bool.or_eq_true, Bool.not_eq_true', beq_iff] at this
    rcases this.1 with h5 | h5
    · rw [h3] at h5; simp at h5
    · exact h5
  have finish : ∀ (φ : Phi) (listed : Array Bool) (a : Act) (w : World), listed.size = ops.size → (∀ i, i < ops.size → listed.getD i false = true) → Ext φ0 φ → RelD K w0 φ N base ops tm A0 es listed a w →
      Post K w0 φ0 N .normal { tm := finalT ops.toList (es.map (·.v)) tm, A := realize base (fun _ => true) 0 (es.map (·.fl)) ((worldsD A0 es).getLastD A0) } .normal a w := by
    intro φ listed a w _ hall hx h
    refine ⟨rfl, φ, hx, ?_, h.size, h.defers, ?_⟩
    · obtain ⟨A, h1, h2⟩ := h.world
      have : countW es (fun j => listed.getD j false) = countW es (fun _ => true) := countFrom_congr _ _ es 0 fun j e hj _ => by
        have := hall j (by rw [← hlen']; exact (List.getElem?_eq_some_iff.1 hj).1)
        simp [this]
      rw [this, worldsD_last] at h1
      rw [← Option.some.inj h1] at h2
      refine (h2.mono (D := w0.D) fun b hb => .inl hb).more (fun b => ?_) (Nat.le_of_eq (((realize_n _ _ _ _ _).1).trans (realize_n _ _ _ _ _).1.symm)) (((realize_n _ _ _ _ _).2).trans (realize_n _ _ _ _ _).2.symm)
      rw [full_get, realize_get]
      congr 1
      unfold flAt
      split
      · split
        · rename_i hle z hl
          have hj : b - base < ops.size := by
            have := (List.getElem?_eq_some_iff.1 hl).1
            simp only [List.length_map] at this
            omega
          have := hall _ hj
          simp only [this, if_true]
        · rfl
      · rfl
    · intro t
      rw [finalT_get ops.toList (es.map (·.v)) tm t (by simp [hlen']) fun i j o o' => hdist i j o o' t]
      cases hl : lookD ops.toList (es.map (·.v)) t with
      | some v =>
        obtain ⟨j, o', h1, h2, h3⟩ := lookD_some hl
        rw [toL] at h1
        rw [List.getElem?_map] at h3
        obtain ⟨e', h4, rfl⟩ := opt_map h3
        exact h.done j o' e' t h1 h4 h2 (hall j (Array.getElem?_eq_some_iff.1 h1).1)
      | none =>
        refine h.rest t fun j o' h1 h2 => ?_
        exfalso
        have hj : j < es.length := by rw [hlen']; exact (Array.getElem?_eq_some_iff.1 h1).1
        exact lookD_none hl j o' es[j].v (by rw [toL]; exact h1) (by rw [List.getElem?_map, List.getElem?_eq_getElem hj]; rfl) h2
  intro fuel
  induction fuel with
  | zero =>
    intro φ listed a w hls hleft hcl hx h
    have hall : ∀ i, i < ops.size → listed.getD i false = true := by
      intro i hi
      cases hc' : listed.getD i false with
      | true => rfl
      | false =>
        exfalso
        have : i ∈ (List.range ops.size).filter fun j => !(listed.getD j false) := List.mem_filter.2 ⟨List.mem_range.2 hi, by simp [hc']⟩
        have := List.length_pos_of_mem this
        unfold leftOf at hleft
        omega
    refine ⟨?_, finish φ listed a w hls hall hx h⟩
    cases hr : Region.ready .any ops listed with
    | nil => rfl
    | cons i l =>
      exfalso
      obtain ⟨o, h1, h2, _⟩ := ready_spec hls (i := i) (by rw [hr]; simp)
      rw [hall i (Array.getElem?_eq_some_iff.1 h1).1] at h2
      cases h2
  | succ fuel ih =>
    intro φ listed a w hls hleft hcl hx h
    refine ⟨fun hr => finish φ listed a w hls (all_listed hE hls hr) hx h, fun i hi => ?_⟩
    obtain ⟨o, ho, hni, hrd⟩ := ready_spec hls hi
    have hil : i < listed.size := by rw [hls]; exact (Array.getElem?_eq_some_iff.1 ho).1
    refine draw_step hA hc hD hpass hchk hls hcl h ho hni hrd fun φ' a' w' he hr => ih φ' _ a' w' (by simpa using hls) ?_ ?_ (hx.trans he) hr
    · have := leftOf_put (ops := ops) hil hls hni
      omega
    · intro j o' g h1 h2 h3 h4
      rw [getD_put hil]
      by_cases hg : g.on = i
      · rw [if_pos hg]
      · rw [if_neg hg]
        rw [getD_put hil] at h2
        by_cases hj : j = i
        · subst hj
          rw [ho] at h1; cases h1
          exact hrd g h3 h4
        · rw [if_neg hj] at h2
          exact hcl j o' g h1 h2 h3 h4

theorem fresh_spec {base : Nat} {A : AW} : ∀ (n : Nat), fresh base A n = true → ∀ i, i < n → A.get (base + i) = none
  | 0, _, i, hi => by omega
  | n + 1, h, i, hi => by
    simp only [fresh, Bool.and_eq_true, Option.isNone_iff_eq_none] at h
    by_cases hin : i = n
    · subst hin; exact h.1
    · exact fresh_spec n h.2 i (by omega)

theorem drawRun_ok (hA : AopOK P) (hc : CallOK P call) (hm : P.follows .mixedOrders = true) {φ : Phi} {s s' : ASt} {a : Act} {w : World} (h : SRel K w0 φ N s a w) {ops : Array Oper} (hs : drawRun P call N ops s = some s') (id : Nat) :
    (Code.region id ops true).wp P (Post K w0 φ N .normal s') a w := by
  unfold drawRun at hs
  simp only at hs
  cases hf : fresh s.A.n s.A ops.size with
  | false => simp [hf] at hs
  | true =>
  simp only [hf, cond_true] at hs
  cases hp : dpass P call ops s.tm s.A.n (masks ops.toList []) 0 ops.toList [] { s.A with n := s.A.n + ops.size } with
  | none => simp [hp] at hs
  | some es =>
    simp only [hp] at hs
    obtain ⟨hchk, hs⟩ := then_some hs
    cases hs
    have hD : ∀ b, w0.D b → b < s.A.n := fun b hb => (h.world.res b hb).2.1
    refine wp_region_any hm (drawAny_ok hA hc hD hp hchk φ ops.size φ _ a _ (by simp) ?_ ?_ (Ext.refl φ) ?_)
    · unfold leftOf
      refine Nat.le_trans (List.length_filter_le _ _) (by simp)
    · intro i o g h1 h2
      have : (Array.replicate ops.size false).getD i false = false := by simp [Array.getElem?_replicate]; split <;> rfl
      rw [this] at h2; cases h2
    · have hz : ∀ j : Nat, (Array.replicate ops.size false).getD j false = false := by intro j; simp [Array.getElem?_replicate]; split <;> rfl
      have hbase : WRel K (freeD w0 s.A.n ops (Array.replicate ops.size false)) φ ({ s.A with n := s.A.n + ops.size } : AW) w.drew := by
        have h0 := h.world.drew
        refine ⟨h0.same, h0.klt, fun b p hp => Nat.lt_of_lt_of_le (h0.dom b p hp) (Nat.le_add_right _ _), h0.lt, h0.obj, h0.inj, h0.glob, ?_⟩
        rintro b (hb | ⟨j, h1, _, rfl⟩)
        · obtain ⟨r1, r2, r3⟩ := h0.res b hb
          exact ⟨r1, Nat.lt_of_lt_of_le r2 (Nat.le_add_right _ _), r3⟩
        · refine ⟨?_, Nat.add_lt_add_left h1 _, fresh_spec _ hf j h1⟩
          cases hq : φ (s.A.n + j) with
          | none => rfl
          | some p => have := h0.dom _ _ hq; omega
      refine ⟨⟨{ s.A with n := s.A.n + ops.size }, ?_, ?_⟩, h.size, h.defers, ?_, ?_, ?_⟩
      · have : countW es (fun j => (Array.replicate ops.size false).getD j false) = 0 := by
          have : ∀ (es : List DE) (k : Nat), countFrom es k (fun j => (Array.replicate ops.size false).getD j false) = 0 := by
            intro es
            induction es with
            | nil => intro k; rfl
            | cons e es ih => intro k; simp only [countFrom, hz, Bool.and_false, cond_false, Nat.zero_add]; have := ih (k + 1); simpa only [hz] using this
          exact this es 0
        rw [this]; rfl
      · refine hbase.more (fun b => ?_) (Nat.le_of_eq (realize_n _ _ _ _ _).1.symm) (realize_n _ _ _ _ _).2
        rw [full_get]
        have : flAt s.A.n (fun j => (Array.replicate ops.size false).getD j false) 0 (es.map (·.fl)) b = none := by
          unfold flAt
          split
          · split
            · simp [hz]
            · rfl
          · rfl
        rw [this, Option.or_none]
      · intro j o e t _ _ _ h4
        rw [hz] at h4; cases h4
      · intro t _
        exact h.tmps t
      · intro j e z _ _ h4
        rw [hz] at h4; cases h4

end
section
variable {P : Program}

theorem exStep_ok (hn : noCount P) (hA : AopOK P) (hm : P.follows .mixedOrders = true) {I : Intr} (hI : ∀ g f args A v A', I g = some f → f args A = some (v, A') → CallsTo P g args A v A') {rec : ARec} (hrec : RecOK P rec) : RecOK P (exStep P I rec) := by
  have hcall : CallOK P (callWith P I rec) := callWith_ok hn hI hrec
  have hA' : ∀ {K : Nat → Prop} {w0 : Base} {φ : Phi} {A : AW} {w : World} {ρ : Operand → AV} {ρ' : Operand → Value} {o : Oper} {r : AN}, WRel K w0 φ A w → (∀ x, VRel φ (ρ x) (ρ' x)) → aop P A ρ o = some r → OpOK P K w0 φ w ρ' o r :=
    fun {K w0 φ A w ρ ρ' o r} => hA K w0 φ A w ρ ρ' o r
  intro N c s e s' hex K w0 φ a w h
  cases c with
  | skip =>
    simp only [exStep, Option.some.injEq, Prod.mk.injEq] at hex
    obtain ⟨rfl, rfl⟩ := hex
    exact wp_skip ⟨rfl, φ, Ext.refl φ, h⟩
  | label l =>
    simp only [exStep, Option.some.injEq, Prod.mk.injEq] at hex
    obtain ⟨rfl, rfl⟩ := hex
    exact wp_label ⟨rfl, φ, Ext.refl φ, h⟩
  | exit id =>
    simp only [exStep, Option.some.injEq, Prod.mk.injEq] at hex
    obtain ⟨rfl, rfl⟩ := hex
    exact wp_exit ⟨rfl, φ, Ext.refl φ, h⟩
  | goto l =>
    simp only [exStep, Option.some.injEq, Prod.mk.injEq] at hex
    obtain ⟨rfl, rfl⟩ := hex
    exact wp_goto ⟨rfl, φ, Ext.refl φ, h⟩
  | ret =>
    simp only [exStep, Option.some.injEq, Prod.mk.injEq] at hex
    obtain ⟨rfl, rfl⟩ := hex
    exact wp_ret ⟨rfl, φ, Ext.refl φ, h⟩
  | seq x y =>
    simp only [exStep] at hex
    cases hx : rec N x s with
    | none => simp [hx] at hex
    | some es =>
      obtain ⟨e1, s1⟩ := es
      rw [hx] at hex
      refine wp_seq (wp_mono (hrec N x s e1 s1 hx K w0 φ a w h) ?_)
      rintro e' a' w' ⟨rfl, φ', hφ, h1⟩
      cases e1 with
      | normal =>
        exact wp_mono (hrec N y s1 e s' hex K w0 φ' a' w' h1) fun e2 a2 w2 hp => hp.ext hφ
      | exit id => simp only [Option.some.injEq, Prod.mk.injEq] at hex; obtain ⟨rfl, rfl⟩ := hex; exact ⟨rfl, φ', hφ, h1⟩
      | goto l => simp only [Option.some.injEq, Prod.mk.injEq] at hex; obtain ⟨rfl, rfl⟩ := hex; exact ⟨rfl, φ', hφ, h1⟩
      | ret => simp only [Option.some.injEq, Prod.mk.injEq] at hex; obtain ⟨rfl, rfl⟩ := hex; exact ⟨rfl, φ', hφ, h1⟩
  | cond c x y =>
    simp only [exStep] at hex
    have hv := h.eval c
    split at hex
    · rename_i t ht
      rw [ht, vrel_lit] at hv
      cases t with
      | true => exact wp_cond_true hv (hrec N x s e s' hex K w0 φ a w h)
      | false => exact wp_cond_false hv (hrec N y s e s' hex K w0 φ a w h)
    · cases hex
  | block id body =>
    simp only [exStep] at hex
    cases hx : rec N body s with
    | none => simp [hx] at hex
    | some es =>
      obtain ⟨e1, s1⟩ := es
      rw [hx] at hex
      refine wp_block (wp_mono (hrec N body s e1 s1 hx K w0 φ a w h) ?_)
      rintro e' a' w' ⟨rfl, φ', hφ, h1⟩
      cases e1 with
      | exit i =>
        simp only at hex
        by_cases hi : i = id
        · subst hi
          simp only [(beq_iff i i).2 rfl, cond_true, Option.some.injEq, Prod.mk.injEq] at hex
          obtain ⟨rfl, rfl⟩ := hex
          show (if i = i then _ else _)
          rw [if_pos rfl]
          exact ⟨rfl, φ', hφ, h1⟩
        · simp only [beq_false.2 hi, cond_false, Option.some.injEq, Prod.mk.injEq] at hex
          obtain ⟨rfl, rfl⟩ := hex
          show (if i = id then _ else _)
          rw [if_neg hi]
          exact ⟨rfl, φ', hφ, h1⟩
      | normal => simp only [Option.some.injEq, Prod.mk.injEq] at hex; obtain ⟨rfl, rfl⟩ := hex; exact ⟨rfl, φ', hφ, h1⟩
      | goto l => simp only [Option.some.injEq, Prod.mk.injEq] at hex; obtain ⟨rfl, rfl⟩ := hex; exact ⟨rfl, φ', hφ, h1⟩
      | ret => simp only [Option.some.injEq, Prod.mk.injEq] at hex; obtain ⟨rfl, rfl⟩ := hex; exact ⟨rfl, φ', hφ, h1⟩
  | loop body =>
    simp only [exStep] at hex
    intro b k cs
    obtain ⟨e', a', w', h1, h2⟩ := loopRun_ok hrec φ b k cs mostRounds φ s a w (Ext.refl φ) h hex
    exact ⟨e', a', w', h1, .of_steps (.one step_loop) h2⟩
  | scope body =>
    simp only [exStep] at hex
    intro b k cs
    cases hx : rec N body s with
    | none => rw [hx] at hex; simp [mostRounds, jumps] at hex
    | some es =>
      obtain ⟨e1, s1⟩ := es
      rw [hx] at hex
      obtain ⟨e', a1, w1, ⟨he, φ1, hφ, hs1⟩, harr⟩ := hrec N body s e1 s1 hx K w0 φ a w h b (.inScope body :: k) cs
      subst he
      exact jumps_ok hrec φ b k cs _ mostRounds φ1 e1 s1 a1 w1 hφ hs1 (.of_steps (.one step_scope) harr) hex
  | region id ops draw =>
    cases draw with
    | false =>
      simp only [exStep] at hex
      obtain ⟨sz, h1, h2⟩ := opt_map hex
      cases h2
      exact wp_region (opsRun_ok hA' hcall φ _ φ s _ a w (Ext.refl φ) h h1)
    | true =>
      simp only [exStep] at hex
      obtain ⟨sz, h1, h2⟩ := opt_map hex
      cases h2
      exact drawRun_ok hA hcall hm h h1 id
  | rangeFunc f ps as body => simp [exStep] at hex
  | refuse why => simp [exStep] at hex

theorem ex_ok (hn : noCount P) (hA : AopOK P) (hm : P.follows .mixedOrders = true) {I : Intr} (hI : ∀ g f args A v A', I g = some f → f args A = some (v, A') → CallsTo P g args A v A') : ∀ f, RecOK P (ex P I f)
  | 0 => fun N c s e s' h => by cases h
  | f + 1 => exStep_ok hn hA hm hI (ex_ok hn hA hm hI f)

/-- THE EXECUTOR TELLS WHAT THE MACHINE DOES, WHATEVER THE TAPE. -/
theorem run_ok (hn : noCount P) (hA : AopOK P) (hm : P.follows .mixedOrders = true) {I : Intr} (hI : ∀ g f args A v A', I g = some f → f args A = some (v, A') → CallsTo P g args A v A') {f : Nat} {g : FuncId} {args : List AV} {A A' : AW} {v : AV}
    (h : run P I f g args A = some (v, A')) : CallsTo P g args A v A' := callWith_ok hn hI (ex_ok hn hA hm hI f) g args A v A' h
end
end Go.Proofs.YtbhlagidmifijaaGreatDoor.AX
