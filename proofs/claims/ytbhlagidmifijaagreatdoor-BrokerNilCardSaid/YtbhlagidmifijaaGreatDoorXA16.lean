/-
  The executor: the keys of a map, sorted (strings): 'maps.Keys' and 'slices.Sorted' behind it.
-/
import Derived.Test.YtbhlagidmifijaaGreatDoorXA15
import Derived.Sort.KeysCollected
import Derived.Laws.AppendOwn
import Derived.MapKept
import Derived.Below
namespace Go.Proofs.YtbhlagidmifijaaGreatDoor.AX
open Go.RowKit
open Go.Proofs (encStr)

/-- maps.Keys: a function value over a new cell that holds the map. -/
def iKeys (gk : FuncId) (args : List AV) (A : AW) : Option (AV × AW) :=
  match args with
  | [.map m] => some (.func (.func gk) [] [.ptr A.n 0], A.new (.box (some m)))
  | _ => none

def nodupS : List (List UInt8) → Bool
  | [] => true
  | x :: l => l.all (fun y => !(x == y)) && nodupS l

/-- slices.Sorted of what maps.Keys handed back. -/
def iSortedS (gk : FuncId → Bool) (args : List AV) (A : AW) : Option (AV × AW) :=
  match args with
  | [.func (.func g) [] [.ptr b 0]] =>
    bif gk g then
      match A.get b with
      | some (.box (some m)) =>
        match A.get m with
        | some (.map es clock) =>
          match strKeysA es with
          | some ks =>
            bif es.all (fun e => Nat.blt e.2.2 clock) && nodupB (es.map (·.2.2)) && nodupS ks && ks.all (fun k => Nat.ble k.length mostBytes) && Nat.ble ks.length 1000000 then
              (bif ks.isEmpty then some (.lit (.slice none 0 0), A) else
              some (.slice A.n 0 1 ks.length none, A.new (.cells none 0 true ((sortB ks).map fun k => some (.lit (.string ⟨k.toArray⟩))))))
            else none
          | none => none
        | _ => none
      | _ => none
    else none
  | _ => none

def KeysOK (P : Program) (g gk : FuncId) : Prop :=
  ∃ t : TypeId, ∀ (mb : Option Nat) (w : World), Calls P g #[.map mb] w fun e w' => e = .returned (.func (.func gk) #[] #[.pointer (some ⟨w.heap.size, 0, none⟩)]) ∧ w' = w.alloc (.cells #[.map mb] t)

def SortedOK (P : Program) (g gk : FuncId) : Prop :=
  ∀ (c m : Nat) (es : Array MapEntry) (clock : Nat) (w : World) (ks : List (List UInt8)), w.cell? ⟨c, 0, none⟩ = some (.map (some m)) → w.heap[m]? = some (.map es clock) → es.toList.map (·.key) = ks.map encStr → MapKept.Stamped es clock →
    (∀ k ∈ ks, k.length ≤ 2 ^ 40) → ks.length ≤ 1000000 →
    Calls P g #[.func (.func gk) #[] #[.pointer (some ⟨c, 0, none⟩)]] w fun e w' => ∃ (v : Value) (k : TypeId), e = .returned v ∧ w'.ownsRow w.heap.size k 1 v ks.length ((ks.mergeSort (fun x y => decide (x ≤ y))).map encStr) ∧ (v = .slice none 0 0 ↔ ks = []) ∧ Below w.heap.size w w'

section
variable {P : Program} {K : Nat → Prop} {w0 : Base} {φ : Phi} {A : AW} {w : World}

/-- A block that was made is the executor's. -/
theorem WRel.adopt (h : WRel K w0 φ A w) {c S : Nat} {z : AO} {o' : Obj} (hc : w.heap[c]? = some o') (hK : ¬ K c) (hne : ∀ b q, φ b = some q → q.c ≠ c) (hr : ORel φ ⟨c, 0, S⟩ z o') :
    Ext φ (φ.up A.n ⟨c, 0, S⟩) ∧ WRel K w0 (φ.up A.n ⟨c, 0, S⟩) (A.new z) w := by
  have hφ := h.free
  have he := Phi.ext_up hφ ⟨c, 0, S⟩
  have hlt : c < w.heap.size := (Array.getElem?_eq_some_iff.1 hc).1
  have old : ∀ b p, b ≠ A.n → φ.up A.n ⟨c, 0, S⟩ b = some p → φ b = some p := fun b p hb hp => by simpa [Phi.up, hb] using hp
  refine ⟨he, h.same, h.klt, ?_, ?_, ?_, ?_, h.glob, ?_⟩
  · intro b p hp
    show b < A.n + 1
    by_cases hb : b = A.n
    · omega
    · have := h.dom b p (old b p hb hp); omega
  · intro b p hp
    by_cases hb : b = A.n
    · subst hb; rw [Phi.up_self] at hp; cases hp; exact hlt
    · exact h.lt b p (old b p hb hp)
  · intro b p x hp hx
    by_cases hb : b = A.n
    · subst hb
      rw [Phi.up_self] at hp; cases hp
      rw [AW.get_new, if_pos rfl] at hx; cases hx
      exact ⟨hK, o', hc, hr.ext he⟩
    · rw [AW.get_new, if_neg (Ne.symm hb)] at hx
      obtain ⟨h1, x', h3, h4⟩ := h.obj b p x (old b p hb hp) hx
      exact ⟨h1, x', h3, h4.ext he⟩
  · intro b b' p p' x x' hp hp' hx hx' hcc
    by_cases hb : b = A.n
    · subst hb
      rw [Phi.up_self] at hp; cases hp
      by_cases hb' : b' = A.n
      · exact .inl hb'.symm
      · exact absurd hcc.symm (hne b' p' (old b' p' hb' hp'))
    · by_cases hb' : b' = A.n
      · subst hb'
        rw [Phi.up_self] at hp'; cases hp'
        exact absurd hcc (hne b p (old b p hb hp))
      · rw [AW.get_new, if_neg (Ne.symm hb)] at hx
        rw [AW.get_new, if_neg (Ne.symm hb')] at hx'
        rcases h.inj b b' p p' x x' (old b p hb hp) (old b' p' hb' hp') hx hx' hcc with e | ⟨g, base, pl, cs, base', pl', cs', k1, k2, k3⟩
        · exact .inl e
        · exact .inr ⟨g, base, pl, cs, base', pl', cs', by rw [AW.get_new, if_neg (Ne.symm hb)]; exact k1, by rw [AW.get_new, if_neg (Ne.symm hb')]; exact k2, k3⟩
  · intro b hb
    obtain ⟨h1, h2, h3⟩ := h.res b hb
    have hne : b ≠ A.n := by omega
    exact ⟨by simp [Phi.up, hne, h1], Nat.lt_succ_of_lt h2, by rw [AW.get_new, if_neg (Ne.symm hne)]; exact h3⟩

theorem iKeys_ok (hn : noCount P) {g gk : FuncId} {fn : Func} {c : Code} (hf : P.funcs[g]? = some fn) (hb : fn.body = some c) (hg : KeysOK P g gk) {args : List AV} {A A' : AW} {v : AV} (h : iKeys gk args A = some (v, A')) : CallsTo P g args A v A' := by
  intro F w0 φ w vs hw hv
  obtain ⟨t, hg⟩ := hg
  unfold iKeys at h
  split at h
  · rename_i m
    cases h
    obtain ⟨u, rfl, h1⟩ := vrels1 hv
    simp only [VRel] at h1
    obtain ⟨q, hq, rfl⟩ := h1
    refine .inl ⟨run_callFunc hn hf hb _, (hg (some q.c) w).mono ?_⟩
    rintro e w' ⟨rfl, rfl⟩
    obtain ⟨n1, n2⟩ := hw.new (.box (some m)) (.cells #[.map (some q.c)] t) 1 ⟨rfl, some q.c, t, rfl, q, hq, rfl⟩
    refine ⟨_, _, rfl, n1, n2, ?_⟩
    simp only [VRel]
    refine ⟨#[], #[.pointer (some ⟨w.heap.size, 0, none⟩)], rfl, by rw [vrels_nil], ?_⟩
    rw [vrels_cons]
    refine ⟨_, [], rfl, ?_, by rw [vrels_nil]⟩
    simp only [VRel]
    exact ⟨_, Phi.up_self _ _ _, rfl⟩
  · cases h

theorem strKeysA_spec : ∀ (es : List (Value × AV × Nat)) (ks : List (List UInt8)) (es' : List MapEntry), strKeysA es = some ks → ERels φ es es' → es'.map (·.key) = ks.map encStr
  | [], ks, es', h, hr => by
    simp only [strKeysA, Option.some.injEq] at h
    subst h
    rw [erels_nil] at hr
    subst hr; rfl
  | e :: es, ks, es', h, hr => by
    rw [erels_cons] at hr
    obtain ⟨x, es'', rfl, hk, _, _, hr⟩ := hr
    simp only [strKeysA] at h
    split at h
    · rename_i s hs
      obtain ⟨l, hl, rfl⟩ := opt_map h
      rw [List.map_cons, List.map_cons, strKeysA_spec es l es'' hl hr, hk, hs]
    · cases h

theorem nodupS_spec : ∀ {l : List (List UInt8)}, nodupS l = true → l.Nodup
  | [], _ => List.nodup_nil
  | x :: l, h => by
    simp only [nodupS, Bool.and_eq_true] at h
    refine List.nodup_cons.2 ⟨fun hx => ?_, nodupS_spec h.2⟩
    have := List.all_eq_true.1 h.1 x hx
    simp at this

theorem leB_iff : ∀ (x y : List UInt8), leB x y = true ↔ x ≤ y
  | [], y => by simp [leB]
  | a :: x, [] => by simp [leB]
  | a :: x, b :: y => by
    rw [List.cons_le_cons_iff, ← leB_iff x y]
    simp only [leB, Bool.or_eq_true, Bool.and_eq_true, blt_iff, beq_iff]
    rw [← UInt8.lt_iff_toNat_lt, UInt8.toNat_inj]

theorem insB_perm (x : List UInt8) : ∀ l, (insB x l).Perm (x :: l)
  | [] => .refl _
  | y :: l => by
    simp only [insB]
    cases leB x y with
    | true => exact .refl _
    | false => exact ((insB_perm x l).cons y).trans (.swap x y l)
theorem sortB_perm : ∀ l, (sortB l).Perm l
  | [] => .refl _
  | x :: l => (insB_perm x _).trans ((sortB_perm l).cons x)
theorem insB_sorted (x : List UInt8) : ∀ l, l.Pairwise (fun a b => a ≤ b) → (insB x l).Pairwise (fun a b => a ≤ b)
  | [], _ => by simp [insB]
  | y :: l, h => by
    simp only [insB]
    cases hc : leB x y with
    | true =>
      have hxy := (leB_iff x y).1 hc
      refine List.pairwise_cons.2 ⟨fun z hz => ?_, h⟩
      rcases List.mem_cons.1 hz with rfl | hz
      · exact hxy
      · exact List.le_trans hxy ((List.pairwise_cons.1 h).1 z hz)
    | false =>
      have hyx : y ≤ x := by
        rcases List.le_total x y with h1 | h1
        · rw [(leB_iff x y).2 h1] at hc; cases hc
        · exact h1
      refine List.pairwise_cons.2 ⟨fun z hz => ?_, insB_sorted x l (List.pairwise_cons.1 h).2⟩
      rcases List.mem_cons.1 ((insB_perm x l).mem_iff.1 hz) with rfl | hz
      · exact hyx
      · exact (List.pairwise_cons.1 h).1 z hz
theorem sortB_sorted : ∀ l, (sortB l).Pairwise (fun a b => a ≤ b)
  | [] => .nil
  | x :: l => insB_sorted x _ (sortB_sorted l)
theorem sortB_eq (l : List (List UInt8)) : l.mergeSort (fun x y => decide (x ≤ y)) = sortB l := by
  have tr : ∀ a b c : List UInt8, decide (a ≤ b) = true → decide (b ≤ c) = true → decide (a ≤ c) = true := fun a b c h1 h2 => by simp only [decide_eq_true_eq] at *; exact List.le_trans h1 h2
  have to : ∀ a b : List UInt8, (decide (a ≤ b) || decide (b ≤ a)) = true := fun a b => by simp only [Bool.or_eq_true, decide_eq_true_eq]; exact List.le_total a b
  refine List.Perm.eq_of_pairwise (le := fun a b => a ≤ b) (fun a b _ _ h1 h2 => List.le_antisymm h1 h2) ?_ (sortB_sorted l) ((List.mergeSort_perm l _).trans (sortB_perm l).symm)
  exact (List.pairwise_mergeSort tr to l).imp fun h => by simpa using h

theorem iSortedS_ok (hn : noCount P) {g : FuncId} {gk : FuncId → Bool} {fn : Func} {c : Code} (hf : P.funcs[g]? = some fn) (hb : fn.body = some c) (hg : ∀ k, gk k = true → SortedOK P g k) {args : List AV} {A A' : AW} {v : AV} (h : iSortedS gk args A = some (v, A')) :
    CallsTo P g args A v A' := by
  intro F w0 φ w vs hw hv
  unfold iSortedS at h
  split at h
  · rename_i k b
    obtain ⟨hk, h⟩ := then_some h
    split at h
    · rename_i m hbox
      split at h
      · rename_i es clock hm
        split at h
        · rename_i ks hks
          obtain ⟨hchk, h⟩ := then_some h
          simp only [Bool.and_eq_true] at hchk
          obtain ⟨⟨⟨⟨c1, c2⟩, c3⟩, c4⟩, c5⟩ := hchk
          obtain ⟨u, rfl, h1⟩ := vrels1 hv
          simp only [VRel] at h1
          obtain ⟨f', c', rfl, h2, h3⟩ := h1
          rw [vrels_nil] at h2
          obtain ⟨u, h4, h5⟩ := vrels1 h3
          have hf' : f' = #[] := by apply Array.toList_inj.1; simpa using h2
          have hc' : c' = #[u] := by apply Array.toList_inj.1; simpa using h4
          subst hf' hc'
          simp only [VRel] at h5
          obtain ⟨p, hp, rfl⟩ := h5
          obtain ⟨_, o', hob, hor⟩ := hw.obj b p _ hp hbox
          obtain ⟨hs0, mb, t, rfl, q, hq, rfl⟩ := hor
          obtain ⟨es', hmo, he⟩ := hw.getMap hq hm
          have hborn := erels_born he
          have hkeys := strKeysA_spec es ks es'.toList hks he
          have hst : MapKept.Stamped es' clock := by
            refine ⟨?_, by rw [hborn]; exact nodupB_spec c2, ?_⟩
            · have := all_rel he (fun b => Nat.blt b clock)
              rw [c1] at this
              intro x hx
              exact blt_iff.1 (List.all_eq_true.1 this.symm x hx)
            · rw [hkeys]
              exact (nodupS_spec c3).map _ fun x y hxy e => hxy (encStr_inj e)
          have hcell : w.cell? ⟨p.c, 0, none⟩ = some (.map (some q.c)) := by simp [World.cell?, hob]
          refine .inl ⟨run_callFunc hn hf hb _, ?_⟩
          have hp0 : (.pointer (some ⟨p.c, p.s + 0, none⟩) : Value) = .pointer (some ⟨p.c, 0, none⟩) := by rw [hs0]
          rw [hp0]
          refine (hg k hk p.c q.c es' clock w ks hcell hmo hkeys hst (fun k hk => ble_iff.1 (List.all_eq_true.1 c4 k hk)) (ble_iff.1 c5)).mono ?_
          rintro e w' ⟨v', kt, rfl, hrow, hnil, hbel⟩
          have hgr := hw.grown hbel.os hbel.output hbel.size hbel.block
          cases hke : ks.isEmpty with
          | true =>
            rw [hke] at h
            cases h
            have : ks = [] := by simpa using hke
            rw [hnil.2 this]
            exact ⟨_, φ, rfl, Ext.refl φ, hgr, vrel_lit.2 rfl⟩
          | false =>
            rw [hke] at h
            cases h
            have hne : ks ≠ [] := by rintro rfl; cases hke
            obtain ⟨_, ⟨hv0, _⟩ | ⟨gr, cap, cur, rfl, hge, hcur, hcap, _, hsz, htk⟩⟩ := hrow
            · exact absurd (hnil.1 hv0) hne
            · rw [sortB_eq] at htk
              have hlen : (sortB ks).length = ks.length := (sortB_perm ks).length_eq
              obtain ⟨n1, n2⟩ := hgr.adopt (c := gr) (S := cur.size) (z := .cells none 0 true ((sortB ks).map fun k => some (.lit (.string ⟨k.toArray⟩)))) hcur (fun hk => by have := hw.klt gr hk; omega) (fun b' q' hq' e => by have := hw.lt b' q' hq'; omega) (by
                refine ⟨cur, kt, (0, 0), rfl, rfl, ?_, .inl rfl, ?_⟩
                · simp only [List.length_map, hlen, hsz]; omega
                · intro i x hx
                  rw [List.getElem?_map] at hx
                  obtain ⟨y, hy, hx⟩ := opt_map hx
                  cases hx
                  refine ⟨rfl, encStr y, ?_, vrel_lit.2 rfl⟩
                  have hi : i < ks.length := by rw [← hlen]; exact (List.getElem?_eq_some_iff.1 hy).1
                  have := congrArg (fun l => l[i]?) htk
                  simp only [List.getElem?_take, List.getElem?_map, hy, Option.map_some, Nat.mul_one, hi, if_true] at this
                  simpa using this)
              refine ⟨_, _, rfl, n1, n2, ?_⟩
              simp only [VRel]
              exact ⟨_, cap, rfl, hcap, .inl trivial, .inl ⟨_, Phi.up_self _ _ _, rfl, by simp only [hsz]; omega⟩⟩
        · cases h
      · cases h
    · cases h
  · cases h
end
end Go.Proofs.YtbhlagidmifijaaGreatDoor.AX
