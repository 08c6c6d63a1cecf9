/-
  What the executor does at an operation is what the machine does there: iterators, interfaces, builtins, calls; all operations.
-/
import Derived.Test.YtbhlagidmifijaaGreatDoorXA8d
namespace Go.Proofs.YtbhlagidmifijaaGreatDoor.AX
open Go.RowKit

section
variable {P : Program} {K : Nat → Prop} {w0 : Base} {φ : Phi} {A : AW} {w : World} {ρ : Operand → AV} {ρ' : Operand → Value}

theorem filter_rel : ∀ {es : List (Value × AV × Nat)} {es' : List MapEntry}, ERels φ es es' → ∀ (f : Nat → Bool), ERels φ (es.filter fun e => f e.2.2) (es'.filter fun e => f e.born)
  | [], _, h, f => by rw [erels_nil] at h; subst h; simp [erels_nil]
  | x :: es, _, h, f => by
    rw [erels_cons] at h
    obtain ⟨e, es', rfl, h1, h2, h3, h4⟩ := h
    have ih := filter_rel h4 f
    rw [List.filter_cons, List.filter_cons, h3]
    cases f x.2.2 with
    | true => simp only [if_true]; rw [erels_cons]; exact ⟨e, _, rfl, h1, h2, h3, ih⟩
    | false => simpa using ih
theorem all_rel : ∀ {es : List (Value × AV × Nat)} {es' : List MapEntry}, ERels φ es es' → ∀ (f : Nat → Bool), es.all (fun e => f e.2.2) = es'.all (fun e => f e.born)
  | [], _, h, f => by rw [erels_nil] at h; subst h; rfl
  | x :: es, _, h, f => by
    rw [erels_cons] at h
    obtain ⟨e, es', rfl, h1, h2, h3, h4⟩ := h
    rw [List.all_cons, List.all_cons, h3, all_rel h4 f]

theorem ok_next (h : WRel K w0 φ A w) (hρ : ∀ x, VRel φ (ρ x) (ρ' x)) {dst : Option Tmp} {ty : TypeId} {pos : String} {after : Array Edge} {guard : Option (Nat × Bool)} {x : Operand} {b : Bool} {r : AN}
    (hr : aopRef P A ρ ⟨dst, .next x b, ty, pos, after, guard⟩ = some r) : OpOK P K w0 φ w ρ' ⟨dst, .next x b, ty, pos, after, guard⟩ r := by
  simp only [aopRef] at hr
  have hv := hρ x
  split at hr
  · rename_i it hx
    rw [hx] at hv
    simp only [VRel] at hv
    obtain ⟨p, hp, ex⟩ := hv
    cases m2 : A.get it with
    | none => rw [m2] at hr; simp at hr
    | some o =>
    obtain ⟨_, o', m3, m4⟩ := h.obj it p o hp m2
    rw [m2] at hr
    cases o with
    | iter m since seen last =>
      obtain ⟨hs0, m', rfl, hm⟩ := m4
      have hobj := run_getObj' (P := P) m3 (fun _ _ _ e => by cases e)
      rw [hs0] at ex
      cases m with
      | none =>
        simp only [Option.some.injEq] at hr
        subst hr
        subst hm
        exact ⟨.tuple #[.bool false], by simp only [execOp, ex, Instr.next, Nat.zero_add, Nat.add_zero, Sem.run_bind, hobj, Result.andThen_ok, Sem.run_pure], vrel_lit.2 rfl⟩
      | some mb =>
        obtain ⟨q, hq, rfl⟩ := hm
        simp only at hr
        split at hr
        · rename_i es clock hg
          obtain ⟨es', hmo, he⟩ := h.getMap hq hg
          have hmobj := run_getObj' (P := P) hmo (fun _ _ _ e => by cases e)
          obtain ⟨hb, hr⟩ := guard_some hr
          have hguard : (!seen.toArray.isEmpty && !es'.isEmpty && es'.all (fun e => decide (e.born ≥ last))) = false := by
            have h1 : es.all (fun e => Nat.ble last e.2.2) = es'.all (fun e => decide (e.born ≥ last)) := by
              rw [all_rel he (fun n => Nat.ble last n), ← Array.all_toList]
              congr 1
              funext e
              rw [Bool.eq_iff_iff]
              simp [ble_iff]
            have h2 : es.isEmpty = es'.isEmpty := by
              have := erels_len he
              cases es with
              | nil => cases hh : es'.isEmpty with
                | true => rfl
                | false => simp at this hh; rw [Array.size_eq_zero_iff.1 this.symm] at hh; simp at hh
              | cons y ys => cases hh : es'.isEmpty with
                | false => rfl
                | true => simp at this hh; subst hh; simp at this
            have h3 : seen.isEmpty = seen.toArray.isEmpty := by cases seen <;> rfl
            rw [← h1, ← h2, ← h3]; exact hb
          have hfil := filter_rel he (fun n => !(seen.contains n))
          have hleft : (es'.filter fun e => !seen.toArray.contains e.born).toList = es'.toList.filter fun e => !(seen.contains e.born) := by
            rw [Array.toList_filter]; congr 1; funext e; rw [List.contains_toArray]
          split at hr
          · rename_i hl
            cases hr
            rw [hl, erels_nil] at hfil
            have hl0 : (es'.filter fun e => !seen.toArray.contains e.born) = #[] := by
              apply Array.ext'; rw [hleft, hfil]
            refine ⟨.tuple #[.bool false], ?_, vrel_lit.2 rfl⟩
            simp only [execOp, ex, Instr.next, Nat.zero_add, Nat.add_zero, Sem.run_bind, hobj, hmobj, Result.andThen_ok]
            rw [if_neg (by rw [hguard]; decide)]
            simp only [hl0]
            simp [Question.forced]
          · rename_i e hl
            obtain ⟨hlt, hr⟩ := then_some hr
            rw [blt_iff] at hlt
            cases hr
            rw [hl, erels_cons] at hfil
            obtain ⟨e', rest, h5, h6, h7, h8, h9⟩ := hfil
            rw [erels_nil] at h9
            subst h9
            have hl1 : (es'.filter fun e => !seen.toArray.contains e.born) = #[e'] := by
              apply Array.ext'; rw [hleft, h5]
            have hW := h.putObj hp m2 (fun _ _ _ _ e => by cases e) (.iter (some mb) since (seen ++ [e.2.2]) clock) (.mapIter (some q.c) since (seen.toArray.push e'.born) clock) (by
              refine ⟨hs0, _, ?_, q, hq, rfl⟩
              rw [h8]; congr 1; simp) 
            have hset := run_setObj' (P := P) (o2 := .mapIter (some q.c) since (seen.toArray.push e'.born) clock) m3 (fun _ _ _ e => by cases e)
            refine ⟨.tuple #[.bool true, e'.key, e'.val], _, φ, ?_, Ext.refl φ, hW, ?_⟩
            · simp only [execOp, ex, Instr.next, Nat.zero_add, Nat.add_zero, Sem.run_bind, hobj, hmobj, Result.andThen_ok]
              rw [if_neg (by rw [hguard]; decide)]
              have hlt' : e'.born < since := by rw [h8]; exact hlt
              have hge : ¬ since ≤ e'.born := by omega
              rw [hl1]
              simp only [List.push_toArray] at hset
              simp [hlt', hge, Question.forced, hset]
            · simp only [VRel, VRels]
              exact ⟨_, rfl, .bool true, _, rfl, rfl, e'.key, _, rfl, h6, e'.val, [], rfl, h7, rfl⟩
          · cases hr
        · cases hr
    | _ => simp at hr
  · rename_i it hx
    rw [hx] at hv
    simp only [VRel] at hv
    obtain ⟨p, hp, ex⟩ := hv
    cases m2 : A.get it with
    | none => rw [m2] at hr; simp at hr
    | some o =>
    obtain ⟨_, o', m3, m4⟩ := h.obj it p o hp m2
    rw [m2] at hr
    cases o with
    | striter s pos =>
      obtain ⟨hs0, rfl⟩ := m4
      have hobj := run_getObj' (P := P) m3 (fun _ _ _ e => by cases e)
      rw [hs0] at ex
      simp only at hr
      rcases cond_some hr with ⟨hlt, hr⟩ | ⟨hlt, hr⟩
      · rw [blt_iff] at hlt
        cases hr
        have hW := h.putObj hp m2 (fun _ _ _ _ e => by cases e) (.striter s (pos + (Utf8.decode s pos).2)) (.stringIter s (pos + (Utf8.decode s pos).2)) ⟨hs0, rfl⟩
        have hset := run_setObj' (P := P) (o2 := .stringIter s (pos + (Utf8.decode s pos).2)) m3 (fun _ _ _ e => by cases e)
        refine ⟨_, _, φ, ?_, Ext.refl φ, hW, vrel_lit.2 rfl⟩
        simp only [execOp, ex, Instr.next, Nat.zero_add, Nat.add_zero, Sem.run_bind, hobj, Result.andThen_ok, hlt, if_true, hset, Sem.run_pure]
      · rw [blt_false] at hlt
        cases hr
        refine ⟨_, ?_, vrel_lit.2 rfl⟩
        have : ¬ pos < s.size := by omega
        simp only [execOp, ex, Instr.next, Nat.zero_add, Nat.add_zero, Sem.run_bind, hobj, Result.andThen_ok, this, if_false, Sem.run_pure]
    | _ => simp at hr
  · cases hr

theorem ok_entry (h : WRel K w0 φ A w) (hρ : ∀ x, VRel φ (ρ x) (ρ' x)) {dst : Option Tmp} {ty : TypeId} {pos : String} {after : Array Edge} {guard : Option (Nat × Bool)} {x : Operand} {r : AN}
    (hr : aopRef P A ρ ⟨dst, .entry x, ty, pos, after, guard⟩ = some r) : OpOK P K w0 φ w ρ' ⟨dst, .entry x, ty, pos, after, guard⟩ r := by
  simp only [aopRef] at hr
  have hv := hρ x
  split at hr
  · rename_i it hx
    rw [hx] at hv
    simp only [VRel] at hv
    obtain ⟨p, hp, ex⟩ := hv
    cases m2 : A.get it with
    | none => rw [m2] at hr; simp at hr
    | some o =>
    obtain ⟨_, o', m3, m4⟩ := h.obj it p o hp m2
    rw [m2] at hr
    split at hr
    · rename_i mb since seen last heq
      cases heq
      obtain ⟨hs0, m', rfl, q, hq, rfl⟩ := m4
      have hobj := run_getObj' (P := P) m3 (fun _ _ _ e => by cases e)
      rw [hs0] at ex
      split at hr
      · rename_i es clock stamp hg hlast
        obtain ⟨es', hmo, he⟩ := h.getMap hq hg
        have hmobj := run_getObj' (P := P) hmo (fun _ _ _ e => by cases e)
        obtain ⟨hb, hr2⟩ := guard_some hr
        clear hr
        rw [Bool.not_eq_false', beq_iff] at hb
        subst hb
        split at hr2
        · rename_i e hf
          cases hr2
          have hfind : ∃ e', es'.find? (fun z => z.born == stamp) = some e' ∧ e'.key = e.1 ∧ VRel φ e.2.1 e'.val := by
            rw [← Array.find?_toList]
            have : ∀ (es : List (Value × AV × Nat)) (es' : List MapEntry), ERels φ es es' → es.find? (fun z => Nat.beq z.2.2 stamp) = some e → ∃ e', es'.find? (fun z => z.born == stamp) = some e' ∧ e'.key = e.1 ∧ VRel φ e.2.1 e'.val := by
              intro es
              induction es with
              | nil => intro es' _ hh; cases hh
              | cons y ys ih =>
                intro es' hr2 hh
                rw [erels_cons] at hr2
                obtain ⟨e', es'', rfl, h1, h2, h3, h4⟩ := hr2
                rw [List.find?_cons] at hh
                rw [List.find?_cons]
                by_cases hy : y.2.2 = stamp
                · have hbq : Nat.beq y.2.2 stamp = true := (beq_iff _ _).2 hy
                  rw [hbq] at hh
                  cases hh
                  have : (e'.born == stamp) = true := by rw [h3]; simpa using hy
                  rw [this]
                  exact ⟨e', rfl, h1, h2⟩
                · have hbq : Nat.beq y.2.2 stamp = false := beq_false.2 hy
                  rw [hbq] at hh
                  have : (e'.born == stamp) = false := by rw [h3]; simpa using hy
                  rw [this]
                  exact ih es'' h4 hh
            exact this es es'.toList he hf
          obtain ⟨e', h1, h2, h3⟩ := hfind
          have hback : seen.toArray.back? = some stamp := by simpa [Array.back?, List.getLast?_eq_getElem?] using hlast
          refine ⟨.tuple #[e'.key, e'.val], ?_, ?_⟩
          · simp only [execOp, ex, Instr.entry, Nat.zero_add, Nat.add_zero, Sem.run_bind, hobj, Result.andThen_ok, hback, hmobj, h1]
            simp
          · simp only [VRel, VRels]
            exact ⟨_, rfl, e'.key, _, rfl, h2, e'.val, [], rfl, h3, rfl⟩
        · cases hr2
      · cases hr
    · cases hr
  · cases hr

theorem ok_typeAssert (hρ : ∀ x, VRel φ (ρ x) (ρ' x)) {dst : Option Tmp} {ty : TypeId} {pos : String} {after : Array Edge} {guard : Option (Nat × Bool)} {x : Operand} {xt as : TypeId} {ok : Bool} {r : AN}
    (hr : aopRef P A ρ ⟨dst, .typeAssert x xt as ok, ty, pos, after, guard⟩ = some r) : OpOK P K w0 φ w ρ' ⟨dst, .typeAssert x xt as ok, ty, pos, after, guard⟩ r := by
  simp only [aopRef] at hr
  have hv := hρ x
  split at hr
  · cases hr
  · rename_i d t v hd hu hx
    rw [hx] at hv
    simp only [VRel] at hv
    obtain ⟨v', ex, hv⟩ := hv
    obtain ⟨hb, hr2⟩ := then_some hr
    clear hr
    rw [beq_iff] at hb
    subst hb
    cases hr2
    have hrun : (Instr.typeAssert (.iface t v') xt t ok).run P w = .ok (if ok then .tuple #[v', .bool true] else v') w := by
      unfold Instr.typeAssert
      simp only [Sem.run_bind, run_underlying hu, Result.andThen_ok]
      cases d <;> first | exact absurd rfl (hd _) | (cases ok <;> simp)
    cases ok with
    | true =>
      refine ⟨.tuple #[v', .bool true], by simp only [execOp, ex, Sem.run_bind, hrun, Result.andThen_ok, Sem.run_pure]; rfl, ?_⟩
      simp only [VRel, VRels, cond_true]
      exact ⟨_, rfl, v', _, rfl, hv, .bool true, [], rfl, rfl, rfl⟩
    | false => exact ⟨v', by simp only [execOp, ex, Sem.run_bind, hrun, Result.andThen_ok, Sem.run_pure]; rfl, hv⟩
  · cases hr

theorem ok_pick (hρ : ∀ x, VRel φ (ρ x) (ρ' x)) {dst : Option Tmp} {ty : TypeId} {pos : String} {after : Array Edge} {guard : Option (Nat × Bool)} {c a b : Operand} {r : AN}
    (hr : aopRef P A ρ ⟨dst, .pick c a b, ty, pos, after, guard⟩ = some r) : OpOK P K w0 φ w ρ' ⟨dst, .pick c a b, ty, pos, after, guard⟩ r := by
  simp only [aopRef] at hr
  have hv := hρ c
  split at hr
  · rename_i t hx
    rw [hx, vrel_lit] at hv
    cases hr
    refine ⟨if t then ρ' a else ρ' b, by simp only [execOp, hv, asBool, Sem.run_bind, Sem.run_pure, Result.andThen_ok], ?_⟩
    cases t with
    | true => exact hρ a
    | false => exact hρ b
  · cases hr
end
end Go.Proofs.YtbhlagidmifijaaGreatDoor.AX
