/-
  The executor: functions without a body that the model answers by a word of its own (bytes, strings, maps).
-/
import Derived.Test.YtbhlagidmifijaaGreatDoorXA13
import Derived.Lib.BytesEntry
import Derived.Lib.Bytealg
namespace Go.Proofs.YtbhlagidmifijaaGreatDoor.AX
open Go.RowKit

/-- Blocks are made that are not the executor's. -/
theorem WRel.grown {K : Nat → Prop} {w0 : Base} {φ : Phi} {A : AW} {w w' : World} (h : WRel K w0 φ A w) (hos : w'.os = w.os) (hout : w'.output = w.output) (hsz : w.heap.size ≤ w'.heap.size) (hb : ∀ k, k < w.heap.size → w'.heap[k]? = w.heap[k]?) : WRel K w0 φ A w' := by
  refine ⟨h.same.trans ⟨hos, hout, hsz, fun k hk => hb k (h.klt k hk)⟩, fun k hk => Nat.lt_of_lt_of_le (h.klt k hk) hsz, h.dom, fun b p hp => Nat.lt_of_lt_of_le (h.lt b p hp) hsz, ?_, h.inj, ?_, h.res⟩
  · intro b p o hp ho
    obtain ⟨h1, o', h2, h3⟩ := h.obj b p o hp ho
    exact ⟨h1, o', by rw [hb _ (h.lt b p hp)]; exact h2, h3⟩
  · intro g cs hg
    obtain ⟨h1, arr, e, fr, h2, h3⟩ := h.glob g cs hg
    exact ⟨h1, arr, e, fr, by rw [hb _ (h.klt g h1)]; exact h2, h3⟩

/-- A function of no body, and the word that the model answers by. -/
def IsExt (P : Program) (g : FuncId) (e : Array Value → Sem Value) : Prop :=
  ∃ fn, P.funcs[g]? = some fn ∧ (fn.name == "runtime.NumGoroutine") = false ∧ fn.body.isNone = true ∧ Extern.findNext fn = none ∧ Extern.find fn = some e

theorem run_ext {P : Program} {g : FuncId} {e : Array Value → Sem Value} (h : IsExt P g e) (vs : Array Value) (w : World) :
    (callFunc g vs).run P w = ((e vs).run P w).andThen fun v w' => .ok (.value v) w' := by
  obtain ⟨fn, h1, h2, h3, h4, h5⟩ := h
  exact run_callFunc_extern h1 h2 h3 h4 h5 vs w

def goI (n : Int) : AV := .lit (.int .i64 n)

/-- The bytes of a string or of a slice of bytes. -/
def bytesA (A : AW) (a : AV) : Option (List UInt8) := do
  let n ← a.lenOf
  let x ← A.first 1 n a
  bytesOf x

def iIndexByte (args : List AV) (A : AW) : Option (AV × AW) :=
  match args with
  | [a, .lit (.int .u8 c)] => do
    let x ← bytesA A a
    pure (goI (Lib.indexByte x c.toNat.toUInt8), A)
  | _ => none
def iCountString (args : List AV) (A : AW) : Option (AV × AW) :=
  match args with
  | [.lit (.string s), .lit (.int .u8 c)] => some (goI (Lib.countByte s.data.toList c.toNat.toUInt8), A)
  | _ => none
def iCompare (args : List AV) (A : AW) : Option (AV × AW) :=
  match args with
  | [a, b] => do
    let x ← bytesA A a
    let y ← bytesA A b
    pure (goI (Lib.compareBytes x y), A)
  | _ => none
def iMapsClone (args : List AV) (A : AW) : Option (AV × AW) :=
  match args with
  | [.iface t (.map m)] =>
    match A.get m with
    | some (.map es clock) => some (.iface t (.map A.n), A.new (.map es clock))
    | _ => none
  | _ => none

section
variable {P : Program} {K : Nat → Prop} {w0 : Base} {φ : Phi} {A : AW} {w : World}

theorem bytesOf_spec : ∀ {l : List AV} {bs : List UInt8}, bytesOf l = some bs → ∃ ns : List Int, l = ns.map (fun n => AV.lit (.int .u8 n)) ∧ bs = ns.map fun n => UInt8.ofNat n.toNat
  | [], bs, h => by
    simp only [bytesOf, Option.some.injEq] at h
    subst h
    exact ⟨[], rfl, rfl⟩
  | x :: l, bs, h => by
    unfold bytesOf at h
    split at h
    · cases ‹_ :: _ = []›
    · rename_i n l' he
      cases he
      obtain ⟨bs', h1, rfl⟩ := opt_map h
      obtain ⟨ns, rfl, rfl⟩ := bytesOf_spec h1
      exact ⟨n :: ns, rfl, rfl⟩
    · cases h

theorem vrels_bytes : ∀ (ns : List Int) (vs : List Value), VRels φ (ns.map fun n => AV.lit (.int .u8 n)) vs → vs = ns.map fun n => Value.int .u8 n
  | [], vs, hr => by simpa [vrels_nil] using hr
  | y :: ys, vs, hr => by
    simp only [List.map_cons] at hr
    rw [vrels_cons] at hr
    obtain ⟨v, vs', rfl, r1, r2⟩ := hr
    rw [vrel_lit] at r1
    rw [r1, vrels_bytes ys vs' r2]; rfl
theorem lits_bytes : ∀ (l : List UInt8) (ns : List Int), l.map (fun b => AV.lit (.int .u8 b.toNat)) = ns.map (fun n => AV.lit (.int .u8 n)) → l = ns.map fun n => UInt8.ofNat n.toNat
  | [], ns, h => by cases ns with | nil => rfl | cons _ _ => cases h
  | b :: l, ns, h => by
    cases ns with
    | nil => cases h
    | cons n ns =>
      simp only [List.map_cons, List.cons.injEq, AV.lit.injEq, Value.int.injEq, true_and] at h
      obtain ⟨h1, h2⟩ := h
      rw [List.map_cons, ← lits_bytes l ns h2, ← h1, Int.toNat_natCast, UInt8.ofNat_toNat]

/-- What the model's word reads. -/
theorem run_bytesA (h : WRel K w0 φ A w) {a : AV} {bs : List UInt8} (hb : bytesA A a = some bs) {v : Value} (hv : VRel φ a v) :
    ∃ s : ByteArray, (Extern.Bytes.bytesOf v).run P w = .ok s w ∧ s.data.toList = bs := by
  unfold bytesA at hb
  obtain ⟨n, hn, hb⟩ := opt_bind hb
  obtain ⟨x, hx, hb⟩ := opt_bind hb
  obtain ⟨ns, rfl, rfl⟩ := bytesOf_spec hb
  cases a with
  | slice b o sz m c =>
    simp only [AV.lenOf, Option.some.injEq] at hn
    subst hn
    simp only [VRel] at hv
    obtain ⟨ad, k, rfl, h1, _, h3⟩ := hv
    unfold AW.first at hx
    simp only at hx
    obtain ⟨hsz, hx⟩ := then_some hx
    by_cases h0 : m = 0
    · subst h0
      simp only [(beq_iff 0 0).2 rfl, cond_true, Option.some.injEq] at hx
      have : ns = [] := by
        cases ns with
        | nil => rfl
        | cons _ _ => cases hx
      subst this
      exact ⟨.empty, rfl, rfl⟩
    · simp only [beq_false.2 h0, cond_false] at hx
      rcases h3 with ⟨p, hp, rfl, _⟩ | ⟨e1, _⟩
      · obtain ⟨vs, hr, hl, _, hc, _⟩ := h.cells hp hx
        have hvs := vrels_bytes ns vs hr
        subst hvs
        have hm : ns.length = m := by
          rw [Bool.and_eq_true, beq_iff] at hsz
          have h4 : ns.length = m * 1 := by simpa using hl
          omega
        have hl := Lib.run_loadBytesX (P := P) w ns ⟨p.c, p.s + o, none⟩ .empty (fun j x hj => hc j _ (by simp [hj]))
        refine ⟨⟨ByteArray.empty.data ++ (Lib.bytesOf ns).toArray⟩, ?_, ?_⟩
        · show (Extern.Bytes.loadBytes _ m .empty).run P w = _
          rw [← hm, hl]
        · show (ByteArray.empty.data ++ (Lib.bytesOf ns).toArray).toList = _
          have he : ByteArray.empty.data = #[] := rfl
          rw [he]
          simp only [Array.empty_append, Lib.bytesOf]
      · omega
  | lit u =>
    rw [vrel_lit] at hv
    subst hv
    cases v with
    | slice a m c =>
      cases a with
      | none =>
        simp only [AW.first] at hx
        obtain ⟨_, hx⟩ := then_some hx
        simp only [Option.some.injEq] at hx
        have : ns = [] := by
          cases ns with
          | nil => rfl
          | cons _ _ => cases hx
        subst this
        exact ⟨.empty, rfl, rfl⟩
      | some a => simp [AW.first] at hx
    | string s =>
      simp only [AV.lenOf, Option.some.injEq] at hn
      subst hn
      simp only [AW.first, Option.some.injEq] at hx
      refine ⟨s, rfl, ?_⟩
      have h2 : s.data.toList.take s.size = s.data.toList := List.take_of_length_le (Nat.le_refl _)
      rw [h2] at hx
      exact lits_bytes _ _ hx
    | _ => simp [AW.first] at hx
  | _ => simp [AW.first] at hx

theorem indexByte_ok {g : FuncId} (hg : IsExt P g Extern.BytealgIndexByte.indexByte) {args : List AV} {A A' : AW} {v : AV} (h : iIndexByte args A = some (v, A')) : CallsTo P g args A v A' := by
  intro F w0 φ w vs hw hv
  unfold iIndexByte at h
  split at h
  · rename_i a c
    obtain ⟨bs, hb, h⟩ := opt_bind h
    cases h
    obtain ⟨u, u2, rfl, h1, h2⟩ := vrels2 hv
    rw [vrel_lit] at h2
    subst h2
    obtain ⟨s, hs, rfl⟩ := run_bytesA (P := P) hw hb h1
    refine .inr ⟨_, w, φ, ?_, Ext.refl φ, hw, vrel_lit.2 rfl⟩
    rw [run_ext hg]
    have h3 := Lib.run_indexByteString (P := P) s c w
    have h4 : (Extern.BytealgIndexByte.indexByte #[u, .int .u8 c]).run P w = (Extern.BytealgIndexByte.indexByte #[.string s, .int .u8 c]).run P w := by
      change Sem.run P (do
        let b ← Extern.Bytes.bytesOf u
        let c ← Extern.Bytes.asByte (.int .u8 c)
        match (List.range b.size).find? fun i => b[i]! == c with
        | some i => pure (goInt i)
        | none => pure (goInt (-1))) w = Sem.run P (do
        let b ← Extern.Bytes.bytesOf (.string s)
        let c ← Extern.Bytes.asByte (.int .u8 c)
        match (List.range b.size).find? fun i => b[i]! == c with
        | some i => pure (goInt i)
        | none => pure (goInt (-1))) w
      simp only [Sem.run_bind, hs]
      rfl
    show ((Extern.BytealgIndexByte.indexByte #[u, .int .u8 c]).run P w).andThen _ = _
    rw [h4, h3]; rfl
  · cases h

theorem countString_ok {g : FuncId} (hg : IsExt P g Extern.BytealgCount.count) {args : List AV} {A A' : AW} {v : AV} (h : iCountString args A = some (v, A')) : CallsTo P g args A v A' := by
  intro F w0 φ w vs hw hv
  unfold iCountString at h
  split at h
  · rename_i s c
    cases h
    obtain ⟨u, u2, rfl, h1, h2⟩ := vrels2 hv
    rw [vrel_lit] at h1 h2
    subst h1 h2
    refine .inr ⟨_, w, φ, ?_, Ext.refl φ, hw, vrel_lit.2 rfl⟩
    rw [run_ext hg]
    show ((Extern.BytealgCount.count #[.string s, .int .u8 c]).run P w).andThen _ = _
    rw [Lib.run_countString]; rfl
  · cases h

theorem compare_ok {g : FuncId} (hg : IsExt P g Extern.BytealgCompare.compare) {args : List AV} {A A' : AW} {v : AV} (h : iCompare args A = some (v, A')) : CallsTo P g args A v A' := by
  intro F w0 φ w vs hw hv
  unfold iCompare at h
  split at h
  · rename_i a b
    obtain ⟨x, hx, h⟩ := opt_bind h
    obtain ⟨y, hy, h⟩ := opt_bind h
    cases h
    obtain ⟨u, u2, rfl, h1, h2⟩ := vrels2 hv
    obtain ⟨s, hs, rfl⟩ := run_bytesA (P := P) hw hx h1
    obtain ⟨t, ht, rfl⟩ := run_bytesA (P := P) hw hy h2
    refine .inr ⟨_, w, φ, ?_, Ext.refl φ, hw, vrel_lit.2 rfl⟩
    rw [run_ext hg]
    have h3 : (Extern.BytealgCompare.compare #[u, u2]).run P w = .ok (.int .i64 (Lib.compareBytes s.data.toList t.data.toList)) w := by
      change Sem.run P (do pure (goInt (Extern.BytealgCompare.cmp (← Extern.Bytes.bytesOf u) (← Extern.Bytes.bytesOf u2)))) w = _
      simp only [Sem.run_bind, hs, ht, Result.andThen_ok, Sem.run_pure]
      rw [Lib.cmp_eq]; rfl
    show ((Extern.BytealgCompare.compare #[u, u2]).run P w).andThen _ = _
    rw [h3]; rfl
  · cases h

theorem mapsClone_ok {g : FuncId} (hg : IsExt P g Extern.MapsClone.clone) {args : List AV} {A A' : AW} {v : AV} (h : iMapsClone args A = some (v, A')) : CallsTo P g args A v A' := by
  intro F w0 φ w vs hw hv
  unfold iMapsClone at h
  split at h
  · rename_i t m
    split at h
    · rename_i es clock hm
      cases h
      obtain ⟨u, rfl, h1⟩ := vrels1 hv
      simp only [VRel] at h1
      obtain ⟨_, rfl, p, hp, rfl⟩ := h1
      obtain ⟨es', h2, h3⟩ := hw.getMap hp hm
      obtain ⟨n1, n2⟩ := hw.new (.map es clock) (.map es' clock) 0 ⟨es', rfl, h3⟩
      refine .inr ⟨_, _, _, ?_, n1, n2, by simp only [VRel]; exact ⟨_, rfl, _, Phi.up_self _ _ _, rfl⟩⟩
      rw [run_ext hg]
      have h4 : (Extern.MapsClone.clone #[.iface t (.map (some p.c))]).run P w = .ok (.iface t (.map (some w.heap.size))) (w.alloc (.map es' clock)) := by
        show (getObj p.c >>= fun o => (match o with
          | .map entries clock => (newObj (.map entries clock) >>= fun r => pure (Value.iface t (.map (some r))) : Sem Value)
          | _ => stuck "maps.clone: a map expected")).run P w = _
        simp only [Sem.run_bind, run_getObj' h2 (by intro c e f; simp), Result.andThen_ok, run_newObj, Sem.run_pure]
        rfl
      show ((Extern.MapsClone.clone #[.iface t (.map (some p.c))]).run P w).andThen _ = _
      rw [h4]; rfl
    · cases h
  · cases h
end
end Go.Proofs.YtbhlagidmifijaaGreatDoor.AX
