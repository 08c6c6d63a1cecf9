/-
  The executor against the machine: a region that draws its order, fifth part: the step.
-/
import Derived.Test.YtbhlagidmifijaaGreatDoorXA12b
namespace Go.Proofs.YtbhlagidmifijaaGreatDoor.AX
open Go.RowKit

section
variable {P : Program} {K : Nat → Prop} {w0 : Base} {φ : Phi} {N base : Nat} {call : ACall} {ops : Array Oper} {tm : T AV} {A0 : AW} {es : List DE}

theorem draw_step (hA : AopOK P) (hc : CallOK P call) (hD : ∀ b, w0.D b → b < base) (hpass : dpass P call ops tm base (masks ops.toList []) 0 ops.toList [] A0 = some es)
    (hchk : dcheck P N ops tm (masks ops.toList []) (es.map (·.v)) es (worldsD A0 es) 0 ops.toList es = true) {listed : Array Bool} (hls : listed.size = ops.size) (hcl : Closed ops listed) {a : Act} {w : World}
    (h : RelD K w0 φ N base ops tm A0 es listed a w) {i : Nat} {o : Oper} (ho : ops[i]? = some o) (hni : listed.getD i false = false)
    (hrd : ∀ g ∈ o.after.toList, Region.binds .any g = true → listed.getD g.on false = true) {Q : Exit → Act → World → Prop} {R : Act → World → Prop}
    (hK : ∀ φ' a' w', Ext φ φ' → RelD K w0 φ' N base ops tm A0 es (listed.setIfInBounds i true) a' w' → R a' w') : wpOp P ops Q i R a w := by
  obtain ⟨hlen, hd⟩ := dpass_spec _ _ _ _ _ hpass
  have hlen' : es.length = ops.size := by simpa using hlen
  have toL : ∀ j, ops.toList[j]? = ops[j]? := fun j => Array.getElem?_toList
  obtain ⟨e, he, hstep⟩ := hd i o (by rw [toL]; exact ho)
  simp only [List.nil_append, Nat.zero_add] at hstep
  have hvals : (es.take i).map (·.v) = (es.map (·.v)).take i := List.map_take ..
  have hilt : i < es.length := (List.getElem?_eq_some_iff.1 he).1
  have hi : i < listed.size := by omega
  have chk : ∀ (j : Nat) (o' : Oper) (e' : DE), ops[j]? = some o' → es[j]? = some e' → dcheckOne P N ops tm (masks ops.toList []) ((es.map (·.v)).take j) es (worldsD A0 es) j o' e' = true := by
    intro j o' e' h1 h2
    have := dcheck_spec 0 ops.toList es hchk j o' e' (by rw [toL]; exact h1) h2
    simpa using this
  have hE : ∀ (j : Nat) (o' : Oper), ops[j]? = some o' → ∀ g ∈ o'.after.toList, Region.binds .any g = true → g.on < j := by
    intro j o' h1 g hg hb
    have hj : j < es.length := by rw [hlen']; exact (Array.getElem?_eq_some_iff.1 h1).1
    have c := chk j o' _ h1 (List.getElem?_eq_getElem hj)
    simp only [dcheckOne, Bool.and_eq_true] at c
    have := List.all_eq_true.1 c.1.1.1.1 g hg
    rw [hb] at this
    simpa [blt_iff] using this
  have hbit : ∀ (j : Nat) (o' : Oper), ops[j]? = some o' → (∀ g ∈ o'.after.toList, Region.binds .any g = true → listed.getD g.on false = true) → ∀ q, ((masks ops.toList []).getD j 0).testBit q = true → listed.getD q false = true :=
    fun j o' h1 h2 q h3 => mask_closed hcl j o' h1 h2 q h3
  have c := chk i o e ho he
  simp only [dcheckOne, Bool.and_eq_true] at c
  obtain ⟨⟨⟨⟨_, csel⟩, cdst⟩, ctidy⟩, crest⟩ := c
  have hsel : ∀ cs b, o.op ≠ .select cs b := by intro cs b e1; rw [e1] at csel; cases csel
  have hdN : ∀ d, o.dst = some d → d < N := by intro d e1; rw [e1] at cdst; simpa [blt_iff] using cdst
  have htidy : ∀ j o' d, ops[j]? = some o' → o'.dst = some d → (o.dst = some d → i = j) ∧ ((o.looksAt ops).contains d = true → ((masks ops.toList []).getD i 0).testBit j = true ∨ ((masks ops.toList []).getD j 0).testBit i = true) := by
    intro j o' d h1 h2
    have hj : j < ops.size := (Array.getElem?_eq_some_iff.1 h1).1
    have := List.all_eq_true.1 ctidy j (List.mem_range.2 hj)
    rw [h1] at this
    simp only [Option.bind_some, h2, Bool.and_eq_true, Bool.or_eq_true, Bool.not_eq_true', beq_iff] at this
    constructor
    · intro e1
      rcases this.1 with h3 | h3
      · rw [e1] at h3; simp at h3
      · exact h3
    · intro e1
      rcases this.2 with (h3 | h3) | h3
      · rw [e1] at h3; cases h3
      · exact .inl h3
      · exact .inr h3
  -- the operands
  have hop : ∀ t, (o.looksAt ops).contains t = true → VRel φ (lookT ops.toList tm ((es.map (·.v)).take i) t) (a.tmps.getD t undef) := by
    intro t ht
    unfold lookT
    cases hl : lookD ops.toList ((es.map (·.v)).take i) t with
    | some v =>
      obtain ⟨j, o', h1, h2, h3⟩ := lookD_some hl
      rw [toL] at h1
      rw [List.getElem?_take] at h3
      split at h3
      · rename_i hji
        rw [List.getElem?_map] at h3
        obtain ⟨e', h4, rfl⟩ := opt_map h3
        rcases (htidy j o' t h1 h2).2 ht with hb | hb
        · exact h.done j o' e' t h1 h4 h2 (hbit i o ho hrd j hb)
        · have := mask_lt hE j o' h1 i hb
          omega
      · cases h3
    | none =>
      refine h.rest t fun j o' h1 h2 => ?_
      rcases (htidy j o' t h1 h2).2 ht with hb | hb
      rotate_left
      · cases hlj : listed.getD j false with
        | false => rfl
        | true =>
          exfalso
          have := hbit j o' h1 (fun g hg1 hg2 => hcl j o' g h1 hlj hg1 hg2) i hb
          rw [hni] at this; cases this
      exfalso
      have hji := mask_lt hE i o ho j hb
      have hj : j < es.length := by rw [hlen']; exact (Array.getElem?_eq_some_iff.1 h1).1
      exact lookD_none hl j o' es[j].v (by rw [toL]; exact h1) (by rw [List.getElem?_take, if_pos hji, List.getElem?_map, List.getElem?_eq_getElem hj]; rfl) h2
  have hρ : ∀ x, VRel φ (evalD ops.toList tm ((es.map (·.v)).take i) (o.looksAt ops) x) ((fun x => match x with | .tmp t => if (o.looksAt ops).contains t = true then a.tmps.getD t undef else undef | x => a.eval x : Operand → Value) x) := by
    intro x
    cases x with
    | tmp t =>
      simp only [evalD]
      cases hct : (o.looksAt ops).contains t with
      | true => simp only [cond_true, if_true]; exact hop t hct
      | false => simp only [cond_false, Bool.false_eq_true, if_false]; exact vrel_lit.2 rfl
    | const v => exact vrel_lit.2 rfl
    | global g => exact vrel_lit.2 rfl
    | func f => exact vrel_lit.2 rfl
  have hcongr : execOp a.eval o = execOp (fun x => match x with | .tmp t => if (o.looksAt ops).contains t = true then a.tmps.getD t undef else undef | x => a.eval x : Operand → Value) o := by
    refine execOp_congr o hsel fun x hx => ?_
    cases x with
    | tmp t =>
      have : (o.looksAt ops).contains t = true := by
        rw [List.contains_iff_mem]
        unfold Oper.looksAt
        exact List.mem_append_left _ (List.mem_filterMap.2 ⟨.tmp t, by simpa using hx, rfl⟩)
      simp only [this, if_true]; rfl
    | _ => rfl
  have hwant : ∀ b, wantedD ops tm ((es.map (·.v)).take i) o = some b → Region.wanted o (yielded ops a.tmps) = b := by
    intro b hb
    unfold wantedD at hb
    unfold Region.wanted
    cases hg : o.guard with
    | none => rw [hg] at hb; simpa using hb
    | some g =>
      obtain ⟨j, want⟩ := g
      rw [hg] at hb
      simp only at hb ⊢
      unfold yielded
      cases hdd : (ops[j]?).bind (·.dst) with
      | none => rw [hdd] at hb; simp at hb; simp [← hb]
      | some d =>
        rw [hdd] at hb
        simp only [Option.bind_some] at hb ⊢
        have ht := hop d (by
          rw [List.contains_iff_mem]
          unfold Oper.looksAt
          refine List.mem_append_right _ ?_
          rw [hg]
          simp [hdd])
        split at hb
        · rename_i b' he'
          rw [he', vrel_lit] at ht
          simp only [Option.some.injEq] at hb
          cases hxx : a.tmps[d]? with
          | none => simp [hxx, undef] at ht
          | some u =>
            simp [hxx] at ht
            subst ht
            rw [← hb]; cases b' <;> cases want <;> rfl
        · rename_i vs he'
          rw [he', vrel_lit] at ht
          simp only [Option.some.injEq] at hb
          cases hxx : a.tmps[d]? with
          | none => simp [← hb]
          | some u =>
            simp [hxx] at ht
            subst ht
            simp [← hb]
        · cases hb
  have hpi : listed.getD (0 + i) false = false := by simpa using hni
  have hcnt := countFrom_put (fun j => listed.getD j false) (fun j => (listed.setIfInBounds i true).getD j false) es 0 i e he (fun j hj => by
    rw [getD_put hi, if_neg (by omega)]) (by rw [getD_put hi, if_pos (by omega)]) hpi
  have hcnt' : countW es (fun j => (listed.setIfInBounds i true).getD j false) = countW es (fun j => listed.getD j false) + (if e.w = true then 1 else 0) := hcnt
  obtain ⟨A, hAw, hAr⟩ := h.world
  obtain ⟨Ai, hAi⟩ : ∃ Ai, Ai = (match i with | 0 => A0 | j + 1 => (es.getD j default).A) := ⟨_, rfl⟩
  replace hstep : dstep P call ops tm base ((masks ops.toList []).getD i 0) i o (es.take i) Ai = some e := by rw [hAi]; exact hstep
  have hown : (worldsD A0 es)[countW es fun j => Nat.blt j i]? = some Ai := by
    have h1 := worldsD_at _ _ _ _ _ hpass i (by omega)
    have h2 : countW es (fun j => Nat.blt j i) = ((es.take i).filter (·.w)).length := by unfold countW; have := countFrom_below es 0 i; simpa using this
    rw [h2, hAi]; exact h1
  have hmono : WRel K (freeD w0 base ops (listed.setIfInBounds i true)) φ (fullD base es listed A) w := hAr.mono fun b hb => (freeD_put hi hD b hb).1
  -- what is in the heap whole and not in a part of it floats
  have hfl : ∀ (A2 : AW), (∀ b o, A.get b = some o → A2.get b = some o) → ∀ b o, (fullD base es listed A).get b = some o → A2.get b = none → (∀ g bs pl cs, o ≠ .cells (some g) bs pl cs) ∧ (∃ p, φ b = some p) := by
    intro A2 hA2 b z hF hn2
    rcases full_case hF with h1 | ⟨_, j, e', rfl, h2, h3, h4⟩
    · rw [hA2 b z h1] at hn2; cases hn2
    · refine ⟨?_, h.floats j e' z h2 h3 h4⟩
      have hj : j < ops.size := by rw [← hlen']; exact (List.getElem?_eq_some_iff.1 h2).1
      obtain ⟨e2, k1, k2⟩ := hd j ops[j] (by rw [toL]; exact Array.getElem?_eq_getElem hj)
      rw [h2] at k1; cases k1
      obtain ⟨_, f, k3, _⟩ := dstep_fl k2 h3
      exact mk_notkin k3
  have huniq : ∀ j o' d, ops[j]? = some o' → o'.dst = some d → o.dst = some d → i = j := fun j o' d h1 h2 h3 => (htidy j o' d h1 h2).1 h3
  -- nothing is written, nothing floats
  have quiet : e.w = false → e.fl = none → ∀ v', VRel φ e.v v' → R (a.put o.dst v') w := by
    intro hew hez v' hv
    refine hK φ _ w (Ext.refl φ) (h.put hi ho he hdN huniq (Ext.refl φ) hv (fun z hz => by rw [hez] at hz; cases hz) (A' := A) ?_ ?_)
    · rw [hcnt', hew]; simpa using hAw
    · exact hmono.more (full_put hi he hez A) (Nat.le_of_eq (((realize_n _ _ _ _ _).1 : (fullD base es listed A).n = A.n).trans (realize_n _ _ _ _ _).1.symm)) (((realize_n _ _ _ _ _).2 : (fullD base es (listed.setIfInBounds i true) A).G = A.G).trans (realize_n _ _ _ _ _).2.symm)
  -- carry it out
  unfold wpOp
  simp only [ho]
  have hilo : i < ops.size := (Array.getElem?_eq_some_iff.1 ho).1
  have hidD : (freeD w0 base ops listed).D (base + i) := .inr ⟨i, hilo, hni, rfl⟩
  unfold dstep at hstep
  simp only [hvals] at hstep
  cases hw : wantedD ops tm ((es.map (·.v)).take i) o with
  | none => simp [hw] at hstep
  | some b =>
    rw [hwant b hw]
    rw [hw] at hstep
    cases b with
    | false =>
      simp only [Option.some.injEq] at hstep
      subst hstep
      simp only [Bool.false_eq_true, if_false]
      exact quiet rfl rfl undef (vrel_lit.2 rfl)
    | true =>
      simp only at hstep
      simp only [if_true]
      left
      unfold Oper.wp
      rw [hcongr]
      split at hstep
      · rename_i z hmk
        cases hstep
        obtain ⟨W, o', S, v, hWw, hr, hO, hV⟩ := mk_ok (o := o) hρ hmk w
        rw [hr]
        have hAn : A.get (base + i) = none := by
          have := (hAr.res _ hidD).2.2
          cases hq : A.get (base + i) with
          | none => rfl
          | some x => rw [full_sub _ x hq] at this; cases this
        have hw2 : WRel K (freeD w0 base ops listed) φ (fullD base es listed A) W := by
          rcases hWw with rfl | rfl
          · exact hAr
          · exact hAr.drew
        have hsz : W.heap.size = w.heap.size := by rcases hWw with rfl | rfl <;> rfl
        obtain ⟨n1, n2⟩ := hw2.newAt hidD (o' := o') (S := S) (z := z.1) (by rw [hsz]; exact hO) (F' := fullD base es (listed.setIfInBounds i true) A) (by
          intro b
          by_cases hb : base + i = b
          · subst hb
            rw [if_pos rfl]
            exact full_float hAn he rfl (by rw [getD_put hi, if_pos rfl])
          · rw [if_neg hb, full_get, full_get]
            congr 1
            unfold flAt
            split
            · split
              · rename_i hle zz hl
                have hne : b - base ≠ i := by omega
                simp only [getD_put hi, if_neg hne]
              · rfl
            · rfl) (((realize_n _ _ _ _ _).1).trans (realize_n _ _ _ _ _).1.symm) (((realize_n _ _ _ _ _).2).trans (realize_n _ _ _ _ _).2.symm)
        refine hK _ _ _ n1 (h.put hi ho he hdN huniq n1 (A' := A) (hV _ _ (by rw [← hsz]; exact Phi.up_self _ _ _)) (fun _ _ => ⟨_, Phi.up_self _ _ _⟩) ?_ (n2.mono (freeD_put hi hD)))
        rw [hcnt']; simpa using hAw
      · rename_i hmk
        have hrestr : ∀ A2 : AW, A2.n = A.n → A2.G = A.G → (∀ b o, A.get b = some o → A2.get b = some o) → (∀ b o, A2.get b = some o → (fullD base es listed A).get b = some o) →
            WRel (Aside K φ (fullD base es listed A) A2) ⟨w, (freeD w0 base ops listed).D⟩ φ A2 w := by
          intro A2 hn hG h1 h2
          exact hAr.restrict (hn.trans (realize_n _ _ _ _ _).1.symm) (hG.trans (realize_n _ _ _ _ _).2.symm) h2 fun b z hF hz => (hfl A2 h1 b z hF hz).1
        have hread : ∀ v, e = ⟨false, v, Ai, none⟩ → aop P Ai (evalD ops.toList tm ((es.map (·.v)).take i) (o.looksAt ops)) o = some (.same v) →
            aop P A (evalD ops.toList tm ((es.map (·.v)).take i) (o.looksAt ops)) o = some (.same v) := by
          intro v hev hsame
          by_cases hk : countW es (fun j => listed.getD j false) = countW es (fun j => Nat.blt j i)
          · rw [hk, hown] at hAw
            rw [← Option.some.inj hAw]; exact hsame
          · rw [hev] at crest
            simp only [cond_false, hw, Option.isSome_none, Bool.false_or] at crest
            have hlo : countW es (fun j => ((masks ops.toList []).getD i 0).testBit j) ≤ countW es (fun j => listed.getD j false) :=
              countFrom_mono _ _ es 0 fun j e' _ _ h3 => by
                simp only [Nat.zero_add] at h3 ⊢
                exact hbit i o ho hrd j h3
            have hhi : countW es (fun j => listed.getD j false) ≤ countW es (fun j => !(((masks ops.toList []).getD j 0).testBit i)) :=
              countFrom_mono _ _ es 0 fun j e' h1 _ h3 => by
                simp only [Nat.zero_add] at h3 ⊢
                cases hb : ((masks ops.toList []).getD j 0).testBit i with
                | false => rfl
                | true =>
                  exfalso
                  have hj : j < ops.size := by rw [← hlen']; exact (List.getElem?_eq_some_iff.1 h1).1
                  have hoj := Array.getElem?_eq_getElem hj
                  have := hbit j _ hoj (fun g hg1 hg2 => hcl j _ g hoj h3 hg1 hg2) i hb
                  rw [hni] at this; cases this
            obtain ⟨A2, h5, h6⟩ := sameFrom_spec _ _ crest _ hlo (by omega) hk
            rw [hAw] at h5
            rw [Option.some.inj h5]; exact h6
        have hwrite : e.w = true → A = Ai ∧ (worldsD A0 es)[countW es fun j => (listed.setIfInBounds i true).getD j false]? = some e.A := by
          intro hew
          rw [hew] at crest
          simp only [cond_true] at crest
          have hk : countW es (fun j => listed.getD j false) = countW es (fun j => Nat.blt j i) := by
            refine countFrom_congr _ _ es 0 fun j e' h1 h2 => ?_
            simp only [Nat.zero_add, blt_iff]
            have hj : j < ops.size := by rw [← hlen']; exact (List.getElem?_eq_some_iff.1 h1).1
            have hoj := Array.getElem?_eq_getElem hj
            constructor
            · intro hlj
              rcases Nat.lt_trichotomy j i with h3 | h3 | h3
              · exact h3
              · subst h3; rw [hni] at hlj; cases hlj
              · exfalso
                have cj := chk j _ e' hoj h1
                simp only [dcheckOne, Bool.and_eq_true] at cj
                have cj2 := cj.2
                rw [h2] at cj2
                simp only [cond_true] at cj2
                have := List.all_eq_true.1 cj2 i (List.mem_range.2 h3)
                have hgi : es.getD i default = e := by simp [List.getD, he]
                rw [hgi, hew] at this
                simp only [Bool.not_true, Bool.false_or] at this
                have := hbit j _ hoj (fun g hg1 hg2 => hcl j _ g hoj hlj hg1 hg2) i this
                rw [hni] at this; cases this
            · intro hlt
              have := List.all_eq_true.1 crest j (List.mem_range.2 hlt)
              have hgj : es.getD j default = e' := by simp [List.getD, h1]
              rw [hgj, h2] at this
              simp only [Bool.not_true, Bool.false_or] at this
              exact hbit i o ho hrd j this
          constructor
          · rw [hk, hown] at hAw
            exact (Option.some.inj hAw).symm
          · rw [hcnt', hk, if_pos hew]
            have h1 := worldsD_at _ _ _ _ _ hpass (i + 1) (by omega)
            simp only at h1
            have hgi : es.getD i default = e := by simp [List.getD, he]
            rw [hgi] at h1
            rw [← h1]
            congr 1
            have h2 : countW es (fun j => Nat.blt j i) = ((es.take i).filter (·.w)).length := by unfold countW; have := countFrom_below es 0 i; simpa using this
            rw [h2]
            have h3 : es.take (i + 1) = es.take i ++ [e] := by rw [List.take_succ_eq_append_getElem hilt]; congr 1; rw [List.getElem?_eq_getElem hilt] at he; rw [Option.some.inj he]
            rw [h3, List.filter_append]
            simp [hew]
        split at hstep
        · -- an operation that only looks
          rename_i v hsame
          simp only [Option.some.injEq] at hstep
          have hs2 := hread v hstep.symm hsame
          have hsub : ∀ b o, A.get b = some o → (fullD base es listed A).get b = some o := fun b o hb => full_sub b o hb
          obtain ⟨v', q1, q2⟩ := hA _ _ φ A w _ _ o _ (hrestr A rfl rfl (fun _ _ hb => hb) hsub) hρ hs2
          rw [q1]
          have hev : e.v = v := by rw [← hstep]
          exact quiet (by rw [← hstep]) (by rw [← hstep]) v' (by rw [hev]; exact q2)
        · -- an operation that writes
          rename_i hns
          obtain ⟨A1, hA1⟩ : ∃ A1, A1 = realize base (fun j => ((masks ops.toList []).getD i 0).testBit j) 0 ((es.take i).map (·.fl)) Ai := ⟨_, rfl⟩
          rw [← hA1] at hstep
          have fin : e.w = true → A = Ai → A1.n = A.n ∧ A1.G = A.G ∧ (∀ b o, A.get b = some o → A1.get b = some o) ∧ (∀ b o, A1.get b = some o → (fullD base es listed A).get b = some o) := by
            intro _ hAA
            subst hAA
            refine ⟨by rw [hA1]; exact (realize_n _ _ _ _ _).1, by rw [hA1]; exact (realize_n _ _ _ _ _).2, ?_, ?_⟩
            · intro b x hb
              rw [hA1, realize_get, hb]; rfl
            · intro b x hb
              rw [hA1, realize_get] at hb
              cases hq : A.get b with
              | some y =>
                rw [hq] at hb
                exact full_sub b x (by rw [hq]; exact hb)
              | none =>
                rw [hq, Option.none_or] at hb
                obtain ⟨j, rfl, h2, h3⟩ := flAt_some hb
                rw [List.getElem?_map] at h2
                obtain ⟨e', h4, h5⟩ := opt_map h2
                rw [List.getElem?_take] at h4
                split at h4
                · exact full_float hq h4 h5 (hbit i o ho hrd j h3)
                · cases h4
          have after : ∀ (v : AV) (A' : AW), wrote base ops.size Ai A1 v A' = some e → ∀ φ' w' v', Ext φ φ' → WRel (Aside K φ (fullD base es listed A) A1) ⟨w, (freeD w0 base ops listed).D⟩ φ' A' w' → VRel φ' v v' → R (a.put o.dst v') w' := by
            intro v A' hwr φ' w' v' hx hW hv
            obtain ⟨hkp, hwr⟩ := then_some hwr
            simp only [Option.some.injEq] at hwr
            have hew : e.w = true := by rw [← hwr]
            have hez : e.fl = none := by rw [← hwr]
            have heA : e.A = { A' with G := Ai.G } := by rw [← hwr]
            have hev : e.v = v := by rw [← hwr]
            obtain ⟨g1, g2⟩ := hwrite hew
            obtain ⟨f1, f2, f3, f4⟩ := fin hew g1
            have hgetE : ∀ b, e.A.get b = A'.get b := by intro b; rw [heA]; rfl
            refine hK φ' _ w' hx (h.put hi ho he hdN huniq hx (by rw [hev]; exact hv) (fun z hz => by rw [hez] at hz; cases hz) g2 ?_)
            have hexp := hAr.expand (A := A1) (fun b z hF hz => (hfl A1 f3 b z hF hz).1) (fun b z hF hz => (hfl A1 f3 b z hF hz).2) hx (F' := fullD base es (listed.setIfInBounds i true) e.A) hW
              (by
                have k1 : (fullD base es (listed.setIfInBounds i true) e.A).n = e.A.n := (realize_n _ _ _ _ _).1
                rw [k1, heA]) (by
                have k1 : (fullD base es (listed.setIfInBounds i true) e.A).G = e.A.G := (realize_n _ _ _ _ _).2
                have k2 : (fullD base es listed A).G = A.G := (realize_n _ _ _ _ _).2
                rw [k1, k2, heA, g1])
              (by
                intro b x hb
                rcases full_case hb with h1 | ⟨h1, j, e', rfl, h2, h3, h4⟩
                · exact .inl (by rw [← hgetE]; exact h1)
                · rw [hgetE] at h1
                  have hji : j ≠ i := by
                    rintro rfl
                    rw [he] at h2; cases h2
                    rw [hez] at h3; cases h3
                  rw [getD_put hi, if_neg hji] at h4
                  have hj : j < ops.size := by rw [← hlen']; exact (List.getElem?_eq_some_iff.1 h2).1
                  have h5 : A1.get (base + j) = none := by
                    cases hq : A1.get (base + j) with
                    | none => rfl
                    | some y =>
                      obtain ⟨y', hy⟩ := keeps_spec _ hkp j hj y hq
                      rw [h1] at hy; cases hy
                  have h6 : A.get (base + j) = none := by
                    cases hq : A.get (base + j) with
                    | none => rfl
                    | some y => rw [f3 _ _ hq] at h5; cases h5
                  exact .inr ⟨h1, h5, full_float h6 h2 h3 h4⟩)
              (by
                intro b x hb
                exact full_sub b x (by rw [hgetE]; exact hb))
            exact hexp.mono fun b hb => (freeD_put hi hD b hb).1
          have hwr_w : ∀ (v : AV) (A' : AW), wrote base ops.size Ai A1 v A' = some e → e.w = true := by
            intro v A' hwr
            obtain ⟨_, hwr⟩ := then_some hwr
            simp only [Option.some.injEq] at hwr
            rw [← hwr]
          have hrel1 : e.w = true → WRel (Aside K φ (fullD base es listed A) A1) ⟨w, (freeD w0 base ops listed).D⟩ φ A1 w := by
            intro hew
            obtain ⟨f1, f2, f3, f4⟩ := fin hew (hwrite hew).1
            exact hrestr A1 f1 f2 f3 f4
          split at hstep
          · rename_i v A' hr
            obtain ⟨v', w', φ', q1, q2, q3, q4⟩ := hA _ _ φ A1 w _ _ o _ (hrel1 (hwr_w _ _ hstep)) hρ hr
            rw [q1]
            exact after v A' hstep φ' w' v' q2 q3 q4
          · rename_i A' hr
            obtain ⟨w', φ', q1, q2, q3⟩ := hA _ _ φ A1 w _ _ o _ (hrel1 (hwr_w _ _ hstep)) hρ hr
            rw [q1]
            exact after _ A' hstep φ' w' undef q2 q3 (vrel_lit.2 rfl)
          · rename_i g args hr
            split at hstep
            · rename_i r hcl'
              obtain ⟨v, A'⟩ := r
              have hrel := hrel1 (hwr_w _ _ hstep)
              obtain ⟨vs, q1, q2⟩ := hA _ _ φ A1 w _ _ o _ hrel hρ hr
              rw [q1]
              rcases hc g args A1 v A' hcl' _ _ φ w vs hrel q2 with ⟨r1, r2⟩ | ⟨v', w', φ', r1, h1, h2, h3⟩
              · rw [r1]
                refine r2.mono ?_
                rintro e1 w' ⟨v', φ', rfl, h1, h2, h3⟩
                exact after v A' hstep φ' w' v' h1 h2 h3
              · rw [r1]
                exact after v A' hstep φ' w' v' h1 h2 h3
            · cases hstep
          · cases hstep
end
end Go.Proofs.YtbhlagidmifijaaGreatDoor.AX
