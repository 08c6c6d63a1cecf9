/-
  What the executor does at an operation is what the machine does there: stores into maps, iterators, interfaces, builtins, calls; all operations.
-/
import Derived.Test.YtbhlagidmifijaaGreatDoorXA8c
namespace Go.Proofs.YtbhlagidmifijaaGreatDoor.AX
open Go.RowKit

section
variable {P : Program} {K : Nat → Prop} {w0 : Base} {φ : Phi} {A : AW} {w : World} {ρ : Operand → AV} {ρ' : Operand → Value}

theorem erels_len : ∀ {es : List (Value × AV × Nat)} {es' : List MapEntry}, ERels φ es es' → es.length = es'.length
  | [], _, h => by rw [erels_nil] at h; subst h; rfl
  | x :: es, _, h => by rw [erels_cons] at h; obtain ⟨e, es', rfl, _, _, _, h4⟩ := h; simp [erels_len h4]
theorem erels_get : ∀ {es : List (Value × AV × Nat)} {es' : List MapEntry}, ERels φ es es' → ∀ (i : Nat) (x : Value × AV × Nat), es[i]? = some x → ∃ e : MapEntry, es'[i]? = some e ∧ e.key = x.1 ∧ VRel φ x.2.1 e.val ∧ e.born = x.2.2
  | [], _, h, i, x, hx => by simp at hx
  | y :: es, _, h, i, x, hx => by
    rw [erels_cons] at h
    obtain ⟨e, es', rfl, h1, h2, h3, h4⟩ := h
    cases i with
    | zero => simp only [List.getElem?_cons_zero, Option.some.injEq] at hx; subst hx; exact ⟨e, rfl, h1, h2, h3⟩
    | succ i => simpa using erels_get h4 i x (by simpa using hx)
theorem erels_append {es fs : List (Value × AV × Nat)} {es' fs' : List MapEntry} (h : ERels φ es es') (k : ERels φ fs fs') : ERels φ (es ++ fs) (es' ++ fs') := by
  induction es generalizing es' with
  | nil => rw [erels_nil] at h; subst h; simpa using k
  | cons x es ih =>
    rw [erels_cons] at h
    obtain ⟨e, es', rfl, h1, h2, h3, h4⟩ := h
    rw [List.cons_append, List.cons_append, erels_cons]
    exact ⟨e, _, rfl, h1, h2, h3, ih h4⟩
theorem erels_take {es : List (Value × AV × Nat)} {es' : List MapEntry} (h : ERels φ es es') (n : Nat) : ERels φ (es.take n) (es'.take n) := by
  induction es generalizing es' n with
  | nil => rw [erels_nil] at h; subst h; simp [erels_nil]
  | cons x es ih =>
    rw [erels_cons] at h
    obtain ⟨e, es', rfl, h1, h2, h3, h4⟩ := h
    cases n with
    | zero => simp [erels_nil]
    | succ n => rw [List.take_succ_cons, List.take_succ_cons, erels_cons]; exact ⟨e, _, rfl, h1, h2, h3, ih h4 n⟩
theorem erels_drop {es : List (Value × AV × Nat)} {es' : List MapEntry} (h : ERels φ es es') (n : Nat) : ERels φ (es.drop n) (es'.drop n) := by
  induction es generalizing es' n with
  | nil => rw [erels_nil] at h; subst h; simp [erels_nil]
  | cons x es ih =>
    rw [erels_cons] at h
    obtain ⟨e, es', rfl, h1, h2, h3, h4⟩ := h
    cases n with
    | zero => rw [List.drop_zero, List.drop_zero, erels_cons]; exact ⟨e, _, rfl, h1, h2, h3, h4⟩
    | succ n => simpa using ih h4 n
theorem erels_one {k : Value} {v : AV} {v' : Value} {b : Nat} (h : VRel φ v v') : ERels φ [(k, v, b)] [{ key := k, val := v', born := b }] := by
  rw [erels_cons]; exact ⟨_, [], rfl, rfl, h, rfl, erels_nil.2 rfl⟩

theorem sameNow_eq {kind : TypeDesc} {k e : Value} (h : Instr.sameNow kind k e = some true) : k = e ∧ Instr.sameBits 10000 e k = true := by
  unfold Instr.sameNow at h
  split at h
  · split at h
    · rename_i hk
      simp only [Option.some.injEq, beq_iff_eq] at h
      subst hk; subst h
      exact ⟨rfl, by simp [Instr.sameBits]⟩
    · cases h
  · rename_i a b
    simp only [Option.some.injEq] at h
    rw [← list_beq_bytes, beq_iff_eq] at h
    have hab := WideShapes.bytes_inj h
    subst hab
    exact ⟨rfl, by simp only [Instr.sameBits]; rw [← list_beq_bytes]; exact beq_self_eq_true _⟩
  · simp only [Option.some.injEq, beq_iff_eq] at h
    subst h
    exact ⟨rfl, by simp [Instr.sameBits]⟩
  · cases h

theorem modify_toList {α : Type} (a : Array α) (i : Nat) (f : α → α) (h : i < a.size) : (a.modify i f).toList = a.toList.take i ++ [f a[i]] ++ a.toList.drop (i + 1) := by
  apply List.ext_getElem?
  intro j
  rw [Array.getElem?_toList, Array.getElem?_modify]
  by_cases h1 : j < i
  · rw [List.append_assoc, List.getElem?_append_left (by simp; omega), List.getElem?_take, if_pos h1, if_neg (by omega), Array.getElem?_toList]
  · by_cases h2 : j = i
    · subst h2
      rw [if_pos rfl, List.append_assoc, List.getElem?_append_right (by simp; omega)]
      have hm : min j a.size = j := by omega
      simp [h, hm]
    · rw [if_neg (by omega), List.getElem?_append_right (by simp; omega), List.getElem?_drop, Array.getElem?_toList]
      congr 1
      simp; omega

/-- A store into a map. -/
theorem mapPut_ok (h : WRel K w0 φ A w) {kt et t : TypeId} {kind : TypeDesc} {b : Nat} {p : Place} (hp : φ b = some p) {es : List (Value × AV × Nat)} {clock : Nat} (hg : A.get b = some (.map es clock)) (hu : P.underlying t = some (.map kt et))
    (hkt : P.underlying kt = some kind) (hpl : plainKey kind = true) {key : Value} {v : AV} {v' : Value} (hv : VRel φ v v') {r : AN}
    (hr : (match findA kind key es 0 with
      | some (some (i, _)) => some (AN.skip (A.put b (.map (es.take i ++ [(key, v, ((es[i]?).map (·.2.2)).getD 0)] ++ es.drop (i + 1)) clock)))
      | some none => some (AN.skip (A.put b (.map (es ++ [(key, v, clock)]) (clock + 1))))
      | none => none) = some r) : ∃ A' w', r = .skip A' ∧ (Instr.mapUpdate t (.map (some p.c)) key v').run P w = .ok () w' ∧ WRel K w0 φ A' w' := by
  obtain ⟨es', hm, he⟩ := h.getMap hp hg
  have hobj := run_getObj' (P := P) hm (fun _ _ _ e => by cases e)
  have hchk := plainKey_check (P := P) (w := w) hkt hpl false key
  split at hr
  · rename_i i u hf
    cases hr
    obtain ⟨v2, e, q1, q2, _, q4, q5⟩ := findA_rel kind key es es'.toList 0 _ he hf
    have hfind := run_findKey (P := P) (w := w) hkt q1
    obtain ⟨rfl, hbits⟩ := sameNow_eq q5
    simp only [Nat.sub_zero] at q4
    obtain ⟨e2, r1, r2, _, r4⟩ := erels_get he i _ q4
    have hi : i < es'.size := by have := (List.getElem?_eq_some_iff.1 r1).1; simpa using this
    have r1' : es'[i]? = some e2 := by rw [← Array.getElem?_toList]; exact r1
    have hstays : (Instr.keyThatStays (((es'[i]?).map (·.key)).getD key) key).run P w = .ok key w := by
      unfold Instr.keyThatStays
      rw [r1']
      simp only [Option.map_some, Option.getD_some, r2]
      rw [hbits]; rfl
    have hW := h.putObj hp hg (fun _ _ _ _ e => by cases e) (.map (es.take i ++ [(key, v, ((es[i]?).map (·.2.2)).getD 0)] ++ es.drop (i + 1)) clock) (.map (es'.modify i fun e => { e with key := key, val := v' }) clock) (by
      refine ⟨_, rfl, ?_⟩
      rw [modify_toList _ _ _ hi]
      refine erels_append (erels_append (erels_take he i) ?_) (erels_drop he (i + 1))
      rw [q4]
      simp only [Option.map_some, Option.getD_some]
      have e3 : es'[i] = e2 := by rw [Array.getElem?_eq_getElem hi] at r1'; exact Option.some.inj r1'
      rw [e3, erels_cons]
      exact ⟨_, [], rfl, rfl, hv, r4, erels_nil.2 rfl⟩)
    refine ⟨_, _, rfl, ?_, hW⟩
    have hset := run_setObj' (P := P) (o2 := .map (es'.modify i fun e => { e with key := key, val := v' }) clock) hm (fun _ _ _ e => by cases e)
    simp only [Instr.mapUpdate, Sem.run_bind, run_underlying hu, Result.andThen_ok, hobj, hchk, hfind, hstays, hset]
  · rename_i hf
    cases hr
    have q1 := findA_rel kind key es es'.toList 0 _ he hf
    have hfind := run_findKey (P := P) (w := w) hkt q1
    have hW := h.putObj hp hg (fun _ _ _ _ e => by cases e) (.map (es ++ [(key, v, clock)]) (clock + 1)) (.map (es'.push { key, val := v', born := clock }) (clock + 1)) (by
      refine ⟨_, rfl, ?_⟩
      rw [Array.toList_push]
      exact erels_append he (erels_one hv))
    refine ⟨_, _, rfl, ?_, hW⟩
    have hset := run_setObj' (P := P) (o2 := .map (es'.push { key, val := v', born := clock }) (clock + 1)) hm (fun _ _ _ e => by cases e)
    simp only [Instr.mapUpdate, Sem.run_bind, run_underlying hu, Result.andThen_ok, hobj, hchk, hfind, hset]
  · cases hr

theorem ok_mapUpdate (h : WRel K w0 φ A w) (hρ : ∀ x, VRel φ (ρ x) (ρ' x)) {dst : Option Tmp} {ty : TypeId} {pos : String} {after : Array Edge} {guard : Option (Nat × Bool)} {t : TypeId} {m k x : Operand} {r : AN}
    (hr : aopRef P A ρ ⟨dst, .mapUpdate t m k x, ty, pos, after, guard⟩ = some r) : OpOK P K w0 φ w ρ' ⟨dst, .mapUpdate t m k x, ty, pos, after, guard⟩ r := by
  simp only [aopRef] at hr
  have hvm := hρ m
  have hvk := hρ k
  split at hr
  · rename_i kt et b key hu hm hk
    rw [hm] at hvm
    rw [hk, vrel_lit] at hvk
    simp only [VRel] at hvm
    obtain ⟨p, hp, em⟩ := hvm
    split at hr
    · rename_i es clock kind hg hkt
      obtain ⟨hpl, hr⟩ := guard_some hr
      rw [Bool.not_eq_false'] at hpl
      obtain ⟨A', w', rfl, q1, q2⟩ := mapPut_ok h hp hg hu hkt hpl (hρ x) hr
      exact ⟨w', φ, by simp only [execOp, em, hvk, Sem.run_bind, q1, Result.andThen_ok, Sem.run_pure], Ext.refl φ, q2⟩
    · cases hr
  · cases hr
theorem ok_insert (h : WRel K w0 φ A w) (hρ : ∀ x, VRel φ (ρ x) (ρ' x)) {dst : Option Tmp} {ty : TypeId} {pos : String} {after : Array Edge} {guard : Option (Nat × Bool)} {t : TypeId} {m k x : Operand} {r : AN}
    (hr : aopRef P A ρ ⟨dst, .insert t m k x, ty, pos, after, guard⟩ = some r) : OpOK P K w0 φ w ρ' ⟨dst, .insert t m k x, ty, pos, after, guard⟩ r := by
  simp only [aopRef] at hr
  have hvm := hρ m
  have hvk := hρ k
  split at hr
  · rename_i kt et b key hu hm hk
    rw [hm] at hvm
    rw [hk, vrel_lit] at hvk
    simp only [VRel] at hvm
    obtain ⟨p, hp, em⟩ := hvm
    split at hr
    · rename_i es clock kind hg hkt
      obtain ⟨hpl, hr⟩ := guard_some hr
      rw [Bool.not_eq_false'] at hpl
      obtain ⟨A', w', rfl, q1, q2⟩ := mapPut_ok h hp hg hu hkt hpl (hρ x) hr
      exact ⟨w', φ, by simp only [execOp, em, hvk, Sem.run_bind, q1, Result.andThen_ok, Sem.run_pure], Ext.refl φ, q2⟩
    · cases hr
  · cases hr

theorem ok_range (h : WRel K w0 φ A w) (hρ : ∀ x, VRel φ (ρ x) (ρ' x)) {dst : Option Tmp} {ty : TypeId} {pos : String} {after : Array Edge} {guard : Option (Nat × Bool)} {t : TypeId} {x : Operand} {r : AN}
    (hr : aopRef P A ρ ⟨dst, .range t x, ty, pos, after, guard⟩ = some r) : OpOK P K w0 φ w ρ' ⟨dst, .range t x, ty, pos, after, guard⟩ r := by
  simp only [aopRef] at hr
  have hv := hρ x
  split at hr
  · rename_i kt et m hu hx
    rw [hx] at hv
    simp only [VRel] at hv
    obtain ⟨p, hp, ex⟩ := hv
    split at hr
    · rename_i es clock hg
      cases hr
      obtain ⟨es', hm, he⟩ := h.getMap hp hg
      have hobj := run_getObj' (P := P) hm (fun _ _ _ e => by cases e)
      have hn := h.new (.iter (some m) clock [] clock) (.mapIter (some p.c) clock #[] clock) 0 ⟨rfl, _, rfl, p, hp, rfl⟩
      refine ⟨.pointer (some ⟨w.heap.size, 0, none⟩), _, _, ?_, hn.1, hn.2, by simp only [VRel]; exact ⟨_, Phi.up_self _ _ _, rfl⟩⟩
      simp only [execOp, ex, Instr.range, Sem.run_bind, run_underlying hu, Result.andThen_ok, hobj, Sem.run_pure, run_newObj]
      rfl
    · cases hr
  · rename_i kt et hu hx
    rw [hx, vrel_lit] at hv
    cases hr
    have hn := h.new (.iter none 0 [] 0) (.mapIter none 0 #[] 0) 0 ⟨rfl, _, rfl, rfl⟩
    refine ⟨.pointer (some ⟨w.heap.size, 0, none⟩), _, _, ?_, hn.1, hn.2, by simp only [VRel]; exact ⟨_, Phi.up_self _ _ _, rfl⟩⟩
    simp only [execOp, hv, Instr.range, Sem.run_bind, run_underlying hu, Result.andThen_ok, Sem.run_pure, run_newObj]
    rfl
  · rename_i s hu hx
    rw [hx, vrel_lit] at hv
    cases hr
    have hn := h.new (.striter s 0) (.stringIter s 0) 0 ⟨rfl, rfl⟩
    refine ⟨.pointer (some ⟨w.heap.size, 0, none⟩), _, _, ?_, hn.1, hn.2, by simp only [VRel]; exact ⟨_, Phi.up_self _ _ _, rfl⟩⟩
    simp only [execOp, hv, Instr.range, Sem.run_bind, run_underlying hu, Result.andThen_ok, Sem.run_pure, run_newObj]
    rfl
  · cases hr
end
end Go.Proofs.YtbhlagidmifijaaGreatDoor.AX
