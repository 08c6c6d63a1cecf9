/-
  What the executor does at an operation is what the machine does there: builtins, calls; all operations.
-/
import Derived.Test.YtbhlagidmifijaaGreatDoorXA8e
namespace Go.Proofs.YtbhlagidmifijaaGreatDoor.AX
open Go.RowKit

section
variable {P : Program} {K : Nat → Prop} {w0 : Base} {φ : Phi} {A : AW} {w : World} {ρ : Operand → AV} {ρ' : Operand → Value}

def AopOK (P : Program) : Prop := ∀ (K : Nat → Prop) (w0 : Base) (φ : Phi) (A : AW) (w : World) (ρ : Operand → AV) (ρ' : Operand → Value) (o : Oper) (r : AN), WRel K w0 φ A w → (∀ x, VRel φ (ρ x) (ρ' x)) → aop P A ρ o = some r → OpOK P K w0 φ w ρ' o r

/-- What a builtin does. -/
def BuiltinOK (P : Program) (K : Nat → Prop) (w0 : Base) (φ : Phi) (w : World) (b : Builtin) (ts : Array TypeId) (ty : TypeId) (consts : Array Bool) (vs : List Value) : AN → Prop
  | .same v => ∃ v', (builtin b ts ty consts vs.toArray).run P w = .ok (.value v') w ∧ VRel φ v v'
  | .value v A' => ∃ v' w' φ', (builtin b ts ty consts vs.toArray).run P w = .ok (.value v') w' ∧ Ext φ φ' ∧ WRel K w0 φ' A' w' ∧ VRel φ' v v'
  | _ => False

theorem vrels1 {a : AV} {vs : List Value} (h : VRels φ [a] vs) : ∃ v, vs = [v] ∧ VRel φ a v := by
  simp only [vrels_cons, vrels_nil] at h
  obtain ⟨v, _, rfl, h1, rfl⟩ := h
  exact ⟨v, rfl, h1⟩
theorem vrels2 {a b : AV} {vs : List Value} (h : VRels φ [a, b] vs) : ∃ u v, vs = [u, v] ∧ VRel φ a u ∧ VRel φ b v := by
  simp only [vrels_cons, vrels_nil] at h
  obtain ⟨u, _, rfl, h1, v, _, rfl, h2, rfl⟩ := h
  exact ⟨u, v, rfl, h1, h2⟩
theorem ts_get {ts : Array TypeId} {d : TypeDesc} (h : P.underlying (ts.getD 0 0) = some d) (hn : ts[0]? = none → False) : ∃ t, ts[0]? = some t ∧ P.underlying t = some d := by
  cases ht : ts[0]? with
  | none => exact (hn ht).elim
  | some t => exact ⟨t, rfl, by simpa [ht] using h⟩

theorem delAt_rel {es : List (Value × AV × Nat)} {es' : Array MapEntry} (he : ERels φ es es'.toList) (i : Nat) : ERels φ (delAt es i) (es'.eraseIdxIfInBounds i).toList := by
  have : (es'.eraseIdxIfInBounds i).toList = es'.toList.take i ++ es'.toList.drop (i + 1) := by
    rw [Array.toList_eraseIdxIfInBounds, List.eraseIdx_eq_take_drop_succ]
  rw [this]
  exact erels_append (erels_take he i) (erels_drop he (i + 1))

theorem abuiltin_ok (h : WRel K w0 φ A w) {b : Builtin} {ts : Array TypeId} {args : List AV} {vs : List Value} {r : AN} (hts : ts.size = args.length) (hr : abuiltin P A b ts args = some r) (hv : VRels φ args vs) (ty : TypeId) (consts : Array Bool) :
    BuiltinOK P K w0 φ w b ts ty consts vs r := by
  unfold abuiltin at hr
  split at hr
  · -- len of a string
    rename_i s
    obtain ⟨v, rfl, hw⟩ := vrels1 hv
    replace hv := hw
    clear hw
    rw [vrel_lit] at hv
    subst hv
    split at hr
    · rename_i hu
      cases hr
      obtain ⟨t, ht, hu⟩ := ts_get hu (fun hn => by simp at hts; simp [hts] at hn)
      exact ⟨goInt s.size, by simp [builtin, Builtin.len_, ht, run_underlying hu], vrel_lit.2 rfl⟩
    · cases hr
  · -- len of nil
    rename_i n c
    obtain ⟨v, rfl, hw⟩ := vrels1 hv
    replace hv := hw
    clear hw
    rw [vrel_lit] at hv
    subst hv
    split at hr
    · rename_i e hu
      cases hr
      obtain ⟨t, ht, hu⟩ := ts_get hu (fun hn => by simp at hts; simp [hts] at hn)
      exact ⟨goInt n, by simp [builtin, Builtin.len_, ht, run_underlying hu], vrel_lit.2 rfl⟩
    · cases hr
  · -- len of a nil map
    obtain ⟨v, rfl, hw⟩ := vrels1 hv
    replace hv := hw
    clear hw
    rw [vrel_lit] at hv
    subst hv
    split at hr
    · rename_i kt e hu
      cases hr
      obtain ⟨t, ht, hu⟩ := ts_get hu (fun hn => by simp at hts; simp [hts] at hn)
      exact ⟨goInt 0, by simp [builtin, Builtin.len_, ht, run_underlying hu], vrel_lit.2 rfl⟩
    · cases hr
  · -- cap of nil
    rename_i n c
    obtain ⟨v, rfl, hw⟩ := vrels1 hv
    replace hv := hw
    clear hw
    rw [vrel_lit] at hv
    subst hv
    split at hr
    · rename_i e hu
      cases hr
      obtain ⟨t, ht, hu⟩ := ts_get hu (fun hn => by simp at hts; simp [hts] at hn)
      exact ⟨goInt c, by simp [builtin, Builtin.cap_, ht, run_underlying hu], vrel_lit.2 rfl⟩
    · cases hr
  · -- len of a slice
    rename_i b1 o1 sz n c
    obtain ⟨v, rfl, hw⟩ := vrels1 hv
    replace hv := hw
    clear hw
    simp only [VRel] at hv
    obtain ⟨a, k, rfl, _⟩ := hv
    split at hr
    · rename_i e hu
      cases hr
      obtain ⟨t, ht, hu⟩ := ts_get hu (fun hn => by simp at hts; simp [hts] at hn)
      exact ⟨goInt n, by simp [builtin, Builtin.len_, ht, run_underlying hu], vrel_lit.2 rfl⟩
    · cases hr
  · -- len of a map
    rename_i m
    obtain ⟨v, rfl, hw⟩ := vrels1 hv
    replace hv := hw
    clear hw
    simp only [VRel] at hv
    obtain ⟨p, hp, rfl⟩ := hv
    split at hr
    · rename_i kt et es clock hu hg
      cases hr
      obtain ⟨t, ht, hu⟩ := ts_get hu (fun hn => by simp at hts; simp [hts] at hn)
      obtain ⟨es', hm, he⟩ := h.getMap hp hg
      have hobj := run_getObj' (P := P) hm (fun _ _ _ e => by cases e)
      have hl : es.length = es'.size := by rw [erels_len he]; simp
      exact ⟨goInt es'.size, by simp [builtin, Builtin.len_, ht, run_underlying hu, hobj], by rw [hl]; exact vrel_lit.2 rfl⟩
    · cases hr
  · -- len of an array
    rename_i x _ _
    obtain ⟨v, rfl, hw⟩ := vrels1 hv
    replace hv := hw
    clear hw
    split at hr
    · rename_i n e hu
      cases hr
      obtain ⟨t, ht, hu⟩ := ts_get hu (fun hn => by simp at hts; simp [hts] at hn)
      refine ⟨goInt n, ?_, vrel_lit.2 rfl⟩
      simp only [builtin, Builtin.len_, List.getElem?_toArray, ht, List.getElem?_cons_zero, Sem.run_bind, run_underlying hu, Result.andThen_ok]
      cases v <;> rfl
    · cases hr
  · -- cap of a slice
    rename_i b1 o1 sz n c
    obtain ⟨v, rfl, hw⟩ := vrels1 hv
    replace hv := hw
    clear hw
    simp only [VRel] at hv
    obtain ⟨a, k, rfl, _, hc, _⟩ := hv
    split at hr
    · rename_i e hu
      cases hr
      obtain ⟨t, ht, hu⟩ := ts_get hu (fun hn => by simp at hts; simp [hts] at hn)
      have : c = k := by rcases hc with e' | e' <;> cases e'; rfl
      subst this
      exact ⟨goInt c, by simp [builtin, Builtin.cap_, ht, run_underlying hu], vrel_lit.2 rfl⟩
    · cases hr
  · -- append
    rename_i s x
    obtain ⟨sv, xv, rfl, hs, hx⟩ := vrels2 hv
    split at hr
    · rename_i e u hu ht1
      split at hr
      · cases hr
      · rename_i d _ i hd hi
        obtain ⟨n, hn, hr⟩ := opt_bind hr
        obtain ⟨xs, hxs, hr⟩ := opt_bind hr
        obtain ⟨z, hz, hr⟩ := opt_bind hr
        obtain ⟨hb, hr⟩ := guard_some hr
        simp only [Bool.or_eq_false_iff, Bool.not_eq_false', beq_iff, beq_false] at hb
        obtain ⟨⟨v, A'⟩, hap, hr⟩ := opt_bind hr
        cases hr
        obtain ⟨t, ht, hu⟩ := ts_get hu (fun hn => by simp at hts; have := (Array.getElem?_eq_none_iff.1 hn); omega)
        obtain ⟨t1, ht1', hu1⟩ := opt_map ht1
        have hts2 : ts = #[t, t1] := by
          apply Array.ext'
          apply List.ext_getElem?
          intro j
          rw [Array.getElem?_toList]
          match j with
          | 0 => simpa using ht
          | 1 => simpa using ht1'
          | j + 2 => simp at hts; simp [hts]
        subst hts2
        obtain ⟨v', w', φ', q1, q2, q3, q4⟩ := h.append P hap hs hx hn hxs t t1 ty e _ i z hu hu1 (fun k e' => hd k e') hi hz rfl rfl hb.1 (Nat.pos_of_ne_zero hb.2)
        exact ⟨v', w', φ', by simp only [builtin, Sem.run_bind, q1, Result.andThen_ok, Sem.run_pure], q2, q3, q4⟩
      · cases hr
    · cases hr
  · -- copy
    rename_i d s
    obtain ⟨dv, sv, rfl, hd, hs⟩ := vrels2 hv
    split at hr
    · rename_i e b1 off sz len cap hu
      obtain ⟨i, hi, hr1⟩ := opt_bind hr
      obtain ⟨hb, hr2⟩ := guard_some hr1
      clear hr hr1
      rw [Bool.not_eq_false', beq_iff] at hb
      subst hb
      obtain ⟨m, hm, hr⟩ := opt_bind hr2
      obtain ⟨xs, hxs, hr⟩ := opt_bind hr
      obtain ⟨t, ht, hu⟩ := ts_get hu (fun hn => by simp at hts; have := (Array.getElem?_eq_none_iff.1 hn); omega)
      have hsz : tsize P e = some i.size := by simp [tsize, hi]
      obtain ⟨news, hnr, hnf⟩ := h.first P hxs hs
      have hl := run_lenOf (P := P) hm hs w
      simp only [VRel] at hd
      obtain ⟨a, k, rfl, hnk, hcap, hal⟩ := hd
      rcases cond_some hr with ⟨hx0, hr⟩ | ⟨hx0, hr⟩
      · rw [beq_iff] at hx0
        cases hr
        have hn0 : news = [] := List.eq_nil_of_length_eq_zero (by rw [← hnr.length, hx0])
        subst hn0
        refine ⟨goInt (Nat.min m len), w, φ, ?_, Ext.refl φ, h, vrel_lit.2 rfl⟩
        simp [builtin, Builtin.copy_, ht, run_underlying hu, hl, run_sizeOf' hsz, hnf, Go.storeCells]
      · obtain ⟨A', hA, hr⟩ := opt_bind hr
        cases hr
        rcases hal with ⟨p, hp, rfl, hfit⟩ | ⟨q1, q2⟩
        · obtain ⟨w', hw', hW'⟩ := h.storeCells P hp hA hnr
          refine ⟨goInt (Nat.min m len), w', φ, ?_, Ext.refl φ, hW', vrel_lit.2 rfl⟩
          simp [builtin, Builtin.copy_, ht, run_underlying hu, hl, run_sizeOf' hsz, hnf, hw']
        · exfalso
          have hmin : Nat.min m len = 0 := by rw [q1]; exact Nat.min_zero m
          rw [hmin] at hxs
          have : xs.length = 0 := by
            have := hnr.length
            rw [hmin] at hnf
            cases s with
            | slice b2 o2 sz2 m2 c2 =>
              unfold AW.first at hxs
              simp only at hxs
              obtain ⟨_, hxs⟩ := then_some hxs
              simp only [(beq_iff 0 0).2 rfl, cond_true, Option.some.injEq] at hxs
              rw [← hxs]; rfl
            | lit u =>
              cases u with
              | slice a2 m2 c2 =>
                cases a2 with
                | none =>
                  simp only [AW.first, (beq_iff 0 0).2 rfl, cond_true, Option.some.injEq] at hxs
                  rw [← hxs]; rfl
                | some a2 => simp [AW.first] at hxs
              | string s2 =>
                simp only [AW.first, Option.some.injEq] at hxs
                rw [← hxs]
                simp
              | _ => simp [AW.first] at hxs
            | _ => simp [AW.first] at hxs
          rw [beq_false] at hx0
          exact hx0 this
    · rename_i e k hu
      obtain ⟨i, hi, hr⟩ := opt_bind hr
      obtain ⟨m, hm, hr⟩ := opt_bind hr
      obtain ⟨xs, hxs, hr⟩ := opt_bind hr
      obtain ⟨hx0, hr⟩ := then_some hr
      rw [beq_iff] at hx0
      cases hr
      obtain ⟨t, ht, hu⟩ := ts_get hu (fun hn => by simp at hts; have := (Array.getElem?_eq_none_iff.1 hn); omega)
      have hsz : tsize P e = some i.size := by simp [tsize, hi]
      obtain ⟨news, hnr, hnf⟩ := h.first P hxs hs
      have hl := run_lenOf (P := P) hm hs w
      rw [vrel_lit] at hd
      subst hd
      refine ⟨goInt 0, ?_, vrel_lit.2 rfl⟩
      have hmin : Nat.min m 0 = 0 := Nat.min_zero m
      simp only [hmin] at hnf
      simp [builtin, Builtin.copy_, ht, run_underlying hu, hl, run_sizeOf' hsz, hmin, hnf]
    · cases hr
  · -- delete
    rename_i m k
    obtain ⟨mv, kv, rfl, hm, hk⟩ := vrels2 hv
    rw [vrel_lit] at hk
    subst hk
    simp only [VRel] at hm
    obtain ⟨p, hp, rfl⟩ := hm
    split at hr
    · rename_i kt et es clock hu hg
      split at hr
      · rename_i kind hkt
        obtain ⟨hpl, hr⟩ := guard_some hr
        rw [Bool.not_eq_false'] at hpl
        obtain ⟨t, ht, hu⟩ := ts_get hu (fun hn => by simp at hts; have := (Array.getElem?_eq_none_iff.1 hn); omega)
        obtain ⟨es', hmo, he⟩ := h.getMap hp hg
        have hobj := run_getObj' (P := P) hmo (fun _ _ _ e => by cases e)
        have hchk := fun b => plainKey_check (P := P) (w := w) hkt hpl b kv
        split at hr
        · rename_i i u hf
          cases hr
          obtain ⟨v2, e, q1, q2, _⟩ := findA_rel kind kv es es'.toList 0 _ he hf
          have hfind := run_findKey (P := P) (w := w) hkt q1
          have hW := h.putObj hp hg (fun _ _ _ _ e => by cases e) (.map (delAt es i) clock) (.map (es'.eraseIdxIfInBounds i) clock) ⟨_, rfl, delAt_rel he i⟩ 
          have hset := run_setObj' (P := P) (o2 := .map (es'.eraseIdxIfInBounds i) clock) hmo (fun _ _ _ e => by cases e)
          refine ⟨.tuple #[], _, φ, ?_, Ext.refl φ, hW, vrel_lit.2 rfl⟩
          simp only [builtin, Builtin.delete_, List.getElem?_toArray, ht, List.getElem?_cons_zero, List.getElem?_cons_succ, Sem.run_bind, run_underlying hu, Result.andThen_ok, hobj, hchk, hfind, hset, Sem.run_pure]
        · rename_i hf
          cases hr
          have q1 := findA_rel kind kv es es'.toList 0 _ he hf
          have hfind := run_findKey (P := P) (w := w) hkt q1
          have hW := h.putObj hp hg (fun _ _ _ _ e => by cases e) (.map es clock) (.map es' clock) ⟨_, rfl, he⟩ 
          have hset := run_setObj' (P := P) (o2 := .map es' clock) hmo (fun _ _ _ e => by cases e)
          refine ⟨.tuple #[], _, φ, ?_, Ext.refl φ, hW, vrel_lit.2 rfl⟩
          simp only [builtin, Builtin.delete_, List.getElem?_toArray, ht, List.getElem?_cons_zero, List.getElem?_cons_succ, Sem.run_bind, run_underlying hu, Result.andThen_ok, hobj, hchk, hfind, hset, Sem.run_pure]
        · cases hr
      · cases hr
    · cases hr
  · cases hr

theorem method_ok (h : WRel K w0 φ A w) {t : TypeId} {i : TypeInfo} (hi : P.info? t = some i) {name : String} {m : Method} (hm : i.methods.toList.find? (·.name == name) = some m) (hp : m.path.isEmpty = true) {f : FuncId} {pr : Bool} (hf : m.func = some (f, pr)) {elem : TypeId} (hu : P.underlying t = some (.pointer elem))
    {v : Value} {r : Value} (hr : if pr then r = v else ∃ a, v = .pointer (some a) ∧ (loadVar elem a).run P w = .ok r w) (n : Nat) : (Go.method (n + 1) t v name).run P w = .ok (f, r) w := by
  have hpl : m.path.toList = [] := by simpa using hp
  have hfind : i.methods.find? (fun x => x.name == name) = some m := by rw [← Array.find?_toList]; exact hm
  unfold Go.method
  simp only [Sem.run_bind, typeInfo, run_program, Result.andThen_ok, hi, Sem.run_pure, hfind, hpl, follow, hf, hp, if_true]
  cases pr with
  | true =>
    simp only [if_true] at hr
    subst hr
    simp only [receiverAt, Sem.run_bind, run_underlying hu, Result.andThen_ok, Place.get, Sem.run_pure]
  | false =>
    simp only [Bool.false_eq_true, if_false] at hr
    obtain ⟨a, rfl, hl⟩ := hr
    have hw : ∀ nm : String, (Builtin.ssaWrapNilChk_ #[t] t #[.pointer (some a), strVal "", strVal nm]).run P w = .ok (.pointer (some a)) w := fun _ => rfl
    simp only [receiverAt, Sem.run_bind, run_underlying hu, Result.andThen_ok, Place.get, Sem.run_pure, hw, asAddr, hl]

theorem ok_call (h : WRel K w0 φ A w) (hρ : ∀ x, VRel φ (ρ x) (ρ' x)) {dst : Option Tmp} {ty : TypeId} {pos : String} {after : Array Edge} {guard : Option (Nat × Bool)} {c : Call} {r : AN}
    (hr : aopRef P A ρ ⟨dst, .call c, ty, pos, after, guard⟩ = some r) : OpOK P K w0 φ w ρ' ⟨dst, .call c, ty, pos, after, guard⟩ r := by
  simp only [aopRef] at hr
  have hargs : VRels φ (c.args.toList.map ρ) (c.args.map ρ').toList := by
    rw [Array.toList_map]; exact vrels_map _ _ _ fun x _ => hρ x
  obtain ⟨callee, args, argTypes⟩ := c
  cases callee with
  | invoke rv name =>
    simp only at hr
    have hrv := hρ rv
    split at hr
    · rename_i t v hx
      rw [hx] at hrv
      simp only [VRel] at hrv
      obtain ⟨v', erv, hv⟩ := hrv
      split at hr
      · rename_i m hm
        obtain ⟨hp, hr⟩ := guard_some hr
        rw [Bool.not_eq_false'] at hp
        cases hi : P.info? t with
        | none => rw [hi] at hm; cases hm
        | some i =>
        rw [hi] at hm
        have hm' : i.methods.toList.find? (·.name == name) = some m := hm
        have hfuel : ∃ n, P.types.size + Made.depth = n + 1 := ⟨P.types.size + (Made.depth - 1), rfl⟩
        obtain ⟨n, hfuel⟩ := hfuel
        have run : ∀ (f : FuncId) (rc : Value), (Go.method (n + 1) t v' name).run P w = .ok (f, rc) w → (execOp ρ' ⟨dst, .call ⟨.invoke rv name, args, argTypes⟩, ty, pos, after, guard⟩).run P w = (callFunc f (rc :: (args.map ρ').toList).toArray).run P w := by
          intro f rc hq
          have he : ((#[ρ' rv] ++ args.map ρ').extract 1 (#[ρ' rv] ++ args.map ρ').size) = args.map ρ' := by
            apply Array.ext'; simp [Array.toList_extract, List.take_of_length_le]
          have h0 : (#[ρ' rv] ++ args.map ρ')[0]? = some (.iface t v') := by rw [erv, Array.getElem?_append_left (by simp)]; rfl
          have he2 : (rc :: (args.map ρ').toList).toArray = #[rc] ++ args.map ρ' := by apply Array.ext'; first | rfl | simp
          simp only [execOp, resolve, Sem.run_bind, Sem.run_pure, Result.andThen_ok, invoke, h0, callMethod, run_program, hfuel, hq, he, he2]
        split at hr
        · rename_i f elem hf hu
          cases hr
          refine ⟨v' :: (args.map ρ').toList, run f v' (method_ok (pr := true) (r := v') (v := v') h hi hm' hp hf hu (if_pos rfl ▸ rfl) n), ?_⟩
          rw [vrels_cons]; exact ⟨v', _, rfl, hv, hargs⟩
        · rename_i f elem hf hu
          cases v with
          | ptr b off =>
            simp only at hr
            simp only [VRel] at hv
            obtain ⟨p, hp', ev⟩ := hv
            obtain ⟨g, hg, hr⟩ := opt_bind hr
            obtain ⟨h1, h2⟩ := run_loadVar_ok h hg (off := off) hp'
            cases g with
            | true =>
              simp only [cond_true] at hr
              obtain ⟨k, hk, hr⟩ := opt_bind hr
              obtain ⟨cs, hc, hr⟩ := opt_bind hr
              cases hr
              obtain ⟨u, q1, q2⟩ := h1 rfl k cs hk hc
              refine ⟨u :: (args.map ρ').toList, run f u (method_ok h hi hm' hp hf hu (by simp only [Bool.false_eq_true, if_false]; exact ⟨_, ev, q1⟩) n), ?_⟩
              rw [vrels_cons]; exact ⟨u, _, rfl, q2, hargs⟩
            | false =>
              simp only [cond_false] at hr
              obtain ⟨cs, hc, hr⟩ := opt_bind hr
              match cs, hr with
              | [c], hr =>
                cases hr
                obtain ⟨u, q1, q2⟩ := h2 rfl c hc
                refine ⟨u :: (args.map ρ').toList, run f u (method_ok h hi hm' hp hf hu (by simp only [Bool.false_eq_true, if_false]; exact ⟨_, ev, q1⟩) n), ?_⟩
                rw [vrels_cons]; exact ⟨u, _, rfl, q2, hargs⟩
          | _ => cases hr
        · cases hr
      · cases hr
    · cases hr
  | builtin b =>
    simp only at hr
    obtain ⟨hts, hr⟩ := then_some hr
    rw [beq_iff] at hts
    have := abuiltin_ok (P := P) h (by simpa using hts) hr hargs ty (args.map fun | .const _ => true | _ => false)
    simp only [Array.toArray_toList] at this
    have hrun : (execOp ρ' ⟨dst, .call ⟨.builtin b, args, argTypes⟩, ty, pos, after, guard⟩) = builtin b argTypes ty (args.map fun | .const _ => true | _ => false) (args.map ρ') := rfl
    cases r with
    | same v =>
      obtain ⟨v', q1, q2⟩ := this
      exact ⟨v', by rw [hrun]; exact q1, q2⟩
    | value v A' =>
      obtain ⟨v', w', φ', q1, q2⟩ := this
      exact ⟨v', w', φ', by rw [hrun]; exact q1, q2⟩
    | skip A' => exact this.elim
    | call g vs => exact this.elim
  | value f =>
    simp only at hr
    have hf := hρ f
    split at hr
    · rename_i g fst cap hx
      rw [hx, vrel_lit] at hf
      cases hr
      refine ⟨fst.toList ++ (args.map ρ').toList ++ cap.toList, ?_, ((vrels_lits _).append hargs).append (vrels_lits _)⟩
      have he : (fst.toList ++ (args.map ρ').toList ++ cap.toList).toArray = fst ++ args.map ρ' ++ cap := by apply Array.ext'; simp
      rw [he]
      simp only [execOp, resolve, hf, Deferred.ofValue, Sem.run_bind, Sem.run_pure, Result.andThen_ok, invoke]
    · rename_i g fst cap hx
      rw [hx] at hf
      simp only [VRel] at hf
      obtain ⟨f', c', ef, h1, h2⟩ := hf
      cases hr
      refine ⟨f'.toList ++ (args.map ρ').toList ++ c'.toList, ?_, (h1.append hargs).append h2⟩
      have he : (f'.toList ++ (args.map ρ').toList ++ c'.toList).toArray = f' ++ args.map ρ' ++ c' := by apply Array.ext'; simp
      rw [he]
      simp only [execOp, resolve, ef, Deferred.ofValue, Sem.run_bind, Sem.run_pure, Result.andThen_ok, invoke]
    · cases hr

theorem mk_ok (hρ : ∀ x, VRel φ (ρ x) (ρ' x)) {o : Oper} {z : AO × (Nat → AV)} (hr : mk P ρ o.op = some z) : MkOK P φ ρ' o z.1 z.2 := by
  obtain ⟨dst, op, ty, pos, after, guard⟩ := o
  simp only at hr
  cases op
  case alloc e => exact mk_alloc hr
  case box e x => exact mk_box hρ hr
  case buildSlice t n ps => exact mk_buildSlice hρ hr
  case makeMap t q => exact mk_makeMap hρ hr
  case makeSlice t x y => exact mk_makeSlice hρ hr
  case convert s d x => exact mk_convert hρ hr
  all_goals simp [mk] at hr

theorem aopRef_ok (h : WRel K w0 φ A w) (hρ : ∀ x, VRel φ (ρ x) (ρ' x)) {o : Oper} {r : AN} (hr : aopRef P A ρ o = some r) : OpOK P K w0 φ w ρ' o r := by
  obtain ⟨dst, op, ty, pos, after, guard⟩ := o
  cases op
  case move x => simp only [aopRef, Option.some.injEq] at hr; subst hr; exact ⟨ρ' x, rfl, hρ x⟩
  case assign x => simp only [aopRef, Option.some.injEq] at hr; subst hr; exact ⟨ρ' x, rfl, hρ x⟩
  case pick c a b => exact ok_pick hρ hr
  case build t ps => exact ok_build h hρ hr
  case insert t m k v => exact ok_insert h hρ hr
  case load t a => exact ok_load h hρ hr
  case store t a x => exact ok_store h hρ hr
  case nilCheck x => exact ok_nilCheck hρ hr
  case binOp op t x y yt =>
    cases op
    case eql => exact ok_eql h hρ hr
    case neq => exact ok_neq h hρ hr
    all_goals simp [aopRef] at hr
  case convert s d x => exact ok_convert h hρ hr
  case makeInterface t x => exact ok_makeInterface hρ hr
  case makeFunc f a c => exact ok_makeFunc hρ hr
  case slice t x lo hi mx => exact ok_slice h hρ hr
  case fieldAddr s x f => exact ok_fieldAddr hρ hr
  case field t x f => exact ok_field hρ hr
  case indexAddr t x i => exact ok_indexAddr h hρ hr
  case index t x i => exact ok_index hρ hr
  case lookup t x k b => exact ok_lookup h hρ hr
  case mapUpdate t m k x => exact ok_mapUpdate h hρ hr
  case range t x => exact ok_range h hρ hr
  case next x b => exact ok_next h hρ hr
  case entry x => exact ok_entry h hρ hr
  case typeAssert x xt as b => exact ok_typeAssert hρ hr
  case extract x i => exact ok_extract hρ hr
  case call c => exact ok_call h hρ hr
  all_goals simp [aopRef] at hr

theorem strFast_ok (hρ : ∀ x, VRel φ (ρ x) (ρ' x)) {o : Oper} {v : AV} (hr : strFast ρ o = some v) : OpOK P K w0 φ w ρ' o (.same v) := by
  obtain ⟨dst, op, ty, pos, after, guard⟩ := o
  unfold strFast at hr
  try simp only at hr
  split at hr
  · rename_i bop t x y yt
    have hx := hρ x
    have hy := hρ y
    split at hr
    · rename_i a b ea eb
      rw [ea, vrel_lit] at hx
      rw [eb, vrel_lit] at hy
      have hg : ∀ op, (eqGuard op t x y (.string a) (.string b)).run P w = .ok () w := by intro op; cases op <;> rfl
      have hrun : (execOp ρ' ⟨dst, .binOp bop t x y yt, ty, pos, after, guard⟩).run P w = ((binOp bop t (.string a) (.string b)).run P w).andThen fun v w => .ok (.value v) w := by
        simp only [execOp, hx, hy, Sem.run_bind, hg, Result.andThen_ok]
        cases (binOp bop t (.string a) (.string b)).run P w <;> rfl
      have fin : ∀ v', (binOp bop t (.string a) (.string b)).run P w = .ok v' w → v = .lit v' → OpOK P K w0 φ w ρ' ⟨dst, .binOp bop t x y yt, ty, pos, after, guard⟩ (.same v) := by
        rintro v' h1 rfl
        exact ⟨v', by rw [hrun, h1]; rfl, vrel_lit.2 rfl⟩
      try simp only at hr
      have hbin : ∀ op, (binOp op t (.string a) (.string b)) = (match op with | .shl | .shr => (stuck "BinOp: no such operator on these operands" : Sem Value) | op => Op.stringOp op a b) ∨ True := fun _ => .inr trivial
      split at hr
      · obtain ⟨hb, hr⟩ := then_some hr
        rw [ble_iff] at hb
        cases hr
        have hm : mostBytes = 1099511627776 := rfl
        have hs : ¬ (((a.size + b.size : Nat) : Int) > IntKind.i64.max) := by
          have e1 : a.size = a.data.toList.length := by rw [Array.length_toList]; rfl
          have e2 : b.size = b.data.toList.length := by rw [Array.length_toList]; rfl
          have e3 : IntKind.i64.max = 9223372036854775807 := by decide
          rw [e1, e2, e3]; omega
        refine fin (.string (a ++ b)) ?_ ?_
        · show (Op.stringOp .add a b).run P w = _
          unfold Op.stringOp
          simp only [hs, if_false]; rfl
        · congr 2
      · cases hr
        exact fin _ (show (Op.stringOp .eql a b).run P w = _ by unfold Op.stringOp; rw [ByteArray.toList_eq, ByteArray.toList_eq]; rfl) rfl
      · cases hr
        exact fin _ (show (Op.stringOp .neq a b).run P w = _ by unfold Op.stringOp; rw [ByteArray.toList_eq, ByteArray.toList_eq]; rfl) rfl
      · cases hr
        exact fin _ (show (Op.stringOp .lss a b).run P w = _ by unfold Op.stringOp; rw [ByteArray.toList_eq, ByteArray.toList_eq]; rfl) rfl
      · cases hr
        exact fin _ (show (Op.stringOp .leq a b).run P w = _ by unfold Op.stringOp; rw [ByteArray.toList_eq, ByteArray.toList_eq]; rfl) rfl
      · cases hr
        exact fin _ (show (Op.stringOp .gtr a b).run P w = _ by unfold Op.stringOp; rw [ByteArray.toList_eq, ByteArray.toList_eq]; rfl) rfl
      · cases hr
        exact fin _ (show (Op.stringOp .geq a b).run P w = _ by unfold Op.stringOp; rw [ByteArray.toList_eq, ByteArray.toList_eq]; rfl) rfl
      · cases hr
    · cases hr
  · cases hr

theorem aop_ok (P : Program) : AopOK P := by
  intro K w0 φ A w ρ ρ' o r h hρ hr
  unfold aop at hr
  split at hr
  · rename_i v hs
    cases hr
    exact strFast_ok hρ hs
  · split at hr
    · rename_i z hz
      cases hr
      exact (mk_ok hρ hz).op h
    · split at hr
      · rename_i r' href
        cases hr
        exact aopRef_ok h hρ href
      · obtain ⟨hc, hr⟩ := then_some hr
        rw [Bool.and_eq_true, Bool.not_eq_true'] at hc
        have hsel : ∀ cs b, o.op ≠ .select cs b := by
          intro cs b e
          rw [e] at hc
          simp [isCall] at hc
        have hcongr : execOp ρ' o = execOp (fun x => (ρ x).val) o := by
          refine execOp_congr o hsel fun x hx => ?_
          have hl := List.all_eq_true.1 hc.2 x (by simpa using hx)
          have hv := hρ x
          cases hxx : ρ x <;> rw [hxx] at hl hv <;> first | (simp [AV.isLit] at hl; done) | skip
          rw [vrel_lit] at hv
          simp only [AV.val]
          exact hv
        split at hr
        · rename_i v hp
          cases hr
          exact ⟨v, by rw [hcongr]; exact pureRun_run _ _ hp w, vrel_lit.2 rfl⟩
        · cases hr
end
end Go.Proofs.YtbhlagidmifijaaGreatDoor.AX
