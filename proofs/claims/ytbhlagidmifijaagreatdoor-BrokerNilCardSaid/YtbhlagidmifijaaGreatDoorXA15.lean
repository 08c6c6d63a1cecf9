/-
  The executor: calls that go through a map in whatever order: what they come to (the words; that a program's functions come to them is shown over the program).
-/
import Derived.Test.YtbhlagidmifijaaGreatDoorXA14
import Derived.ChangeAlike
namespace Go.Proofs.YtbhlagidmifijaaGreatDoor.AX
open Go.RowKit

/-- A slice's length. -/
def AV.sliceLen : AV → Option Nat
  | .slice _ _ _ n _ => some n
  | .lit (.slice none n _) => some n
  | _ => none

def nodupB : List Nat → Bool
  | [] => true
  | x :: l => l.all (fun y => !(Nat.beq x y)) && nodupB l

/-- The lengths of the files of a directory. -/
def lensA (A : AW) : List (Value × AV × Nat) → Option (List Nat)
  | [] => some []
  | e :: es =>
    match e.2.1 with
    | .ptr b o =>
      match A.cells b o 1 with
      | some [x] =>
        match x.sliceLen, lensA A es with
        | some n, some l => some (n :: l)
        | _, _ => none
      | _ => none
    | _ => none

def sumL : List Nat → Nat
  | [] => 0
  | n :: l => n + sumL l

/-- The bytes of a disk's files: the field 'dir' lies behind one cell. -/
def iUsed (args : List AV) (A : AW) : Option (AV × AW) :=
  match args with
  | [.ptr b o] =>
    match A.cells b (o + 1) 1 with
    | some [.map m] =>
      match A.get m with
      | some (.map es clock) =>
        match lensA A es with
        | some l =>
          bif es.all (fun e => Nat.blt e.2.2 clock) && nodupB (es.map (·.2.2)) && Nat.ble (sumL l) mostBytes then some (goI (sumL l), A) else none
        | none => none
      | _ => none
    | _ => none
  | _ => none

def leB : List UInt8 → List UInt8 → Bool
  | [], _ => true
  | _ :: _, [] => false
  | a :: x, b :: y => Nat.blt a.toNat b.toNat || (Nat.beq a.toNat b.toNat && leB x y)
def insB (x : List UInt8) : List (List UInt8) → List (List UInt8)
  | [] => [x]
  | y :: l => bif leB x y then x :: y :: l else y :: insB x l
def sortB (l : List (List UInt8)) : List (List UInt8) := l.foldr insB []

/-- A map's keys, strings. -/
def strKeysA : List (Value × AV × Nat) → Option (List (List UInt8))
  | [] => some []
  | e :: es =>
    match e.1 with
    | .string s => (strKeysA es).map (s.data.toList :: ·)
    | _ => none

section
variable {P : Program} {K : Nat → Prop} {w0 : Base} {φ : Phi} {A : AW} {w : World}

theorem nodupB_spec : ∀ {l : List Nat}, nodupB l = true → l.Nodup
  | [], _ => List.nodup_nil
  | x :: l, h => by
    simp only [nodupB, Bool.and_eq_true] at h
    refine List.nodup_cons.2 ⟨fun hx => ?_, nodupB_spec h.2⟩
    have := List.all_eq_true.1 h.1 x hx
    rw [(beq_iff x x).2 rfl] at this
    cases this

theorem erels_born : ∀ {es : List (Value × AV × Nat)} {es' : List MapEntry}, ERels φ es es' → es'.map (·.born) = es.map (·.2.2)
  | [], es', h => by rw [erels_nil] at h; subst h; rfl
  | x :: es, es', h => by
    rw [erels_cons] at h
    obtain ⟨e, es'', rfl, _, _, h3, h4⟩ := h
    simp only [List.map_cons, h3, erels_born h4]

/-- The length of an entry's file. -/
def fileLen (w : World) (x : MapEntry) : Nat :=
  match x.val with
  | .pointer (some a) =>
    match w.cell? a with
    | some (.slice _ n _) => n
    | _ => 0
  | _ => 0

theorem addr_add (b o j : Nat) : (⟨b, o, none⟩ : Addr).add j = ⟨b, o + j, none⟩ := by
  unfold Addr.add
  split
  · rename_i h; subst h; rfl
  · rfl

theorem WRel.cell1 (h : WRel K w0 φ A w) {b : Nat} {p : Place} (hp : φ b = some p) {o : Nat} {x : AV} (hc : A.cells b o 1 = some [x]) : ∃ v, w.cell? ⟨p.c, p.s + o, none⟩ = some v ∧ VRel φ x v := by
  obtain ⟨vs, h1, _, _, h4, _⟩ := h.cells hp hc
  obtain ⟨v, rfl, h5⟩ := vrels1 h1
  have := h4 0 v rfl
  rw [addr_add] at this
  exact ⟨v, this, h5⟩

theorem lens_spec (hw : WRel K w0 φ A w) : ∀ (es : List (Value × AV × Nat)) (l : List Nat) (es' : List MapEntry), lensA A es = some l → ERels φ es es' →
    (∀ x ∈ es', ∃ fb fo a c, x.val = .pointer (some ⟨fb, fo, none⟩) ∧ w.cell? ⟨fb, fo, none⟩ = some (.slice a (fileLen w x) c)) ∧ es'.map (fileLen w) = l
  | [], l, es', h, hr => by
    simp only [lensA, Option.some.injEq] at h
    subst h
    rw [erels_nil] at hr
    subst hr
    exact ⟨(fun _ h => by cases h), rfl⟩
  | e :: es, l, es', h, hr => by
    rw [erels_cons] at hr
    obtain ⟨x, es'', rfl, _, hv, _, hr⟩ := hr
    simp only [lensA] at h
    split at h
    · rename_i b o he
      split at h
      · rename_i y hy
        split at h
        · rename_i n l' hn hl
          simp only [Option.some.injEq] at h
          subst h
          obtain ⟨i1, i2⟩ := lens_spec hw es l' es'' hl hr
          rw [he] at hv
          simp only [VRel] at hv
          obtain ⟨p, hp, hxv⟩ := hv
          obtain ⟨v, hcell, hvr⟩ := hw.cell1 hp hy
          have hsl : ∃ a c, v = .slice a n c := by
            cases y with
            | slice b o z m c =>
              simp only [AV.sliceLen, Option.some.injEq] at hn
              subst hn
              simp only [VRel] at hvr
              obtain ⟨a, k, rfl, _⟩ := hvr
              exact ⟨_, _, rfl⟩
            | lit u =>
              rw [vrel_lit] at hvr
              subst hvr
              cases v <;> simp only [AV.sliceLen, reduceCtorEq] at hn
              rename_i a m c
              cases a <;> simp only [Option.some.injEq, reduceCtorEq] at hn
              subst hn
              exact ⟨_, _, rfl⟩
            | _ => simp [AV.sliceLen] at hn
          obtain ⟨a, c, rfl⟩ := hsl
          have hf : fileLen w x = n := by simp only [fileLen, hxv, hcell]
          refine ⟨?_, by rw [List.map_cons, hf, i2]⟩
          intro z hz
          rcases List.mem_cons.1 hz with rfl | hz
          · exact ⟨_, _, a, c, hxv, by rw [hf]; exact hcell⟩
          · exact i1 z hz
        · cases h
      · cases h
    · cases h

theorem sumL_sum (l : List Nat) : ((l.map (fun n : Nat => (n : Int))).sum) = (sumL l : Nat) := by
  induction l with
  | nil => rfl
  | cons n l ih => simp only [List.map_cons, List.sum_cons, ih, sumL]; omega

/-- What the summing call has to come to. -/
def UsedOK (P : Program) (g : FuncId) : Prop :=
  ∀ (dc ds m : Nat) (es : Array MapEntry) (clock : Nat) (w : World) (len : MapEntry → Nat), w.cell? ⟨dc, ds + 1, none⟩ = some (.map (some m)) → w.heap[m]? = some (.map es clock) → (∀ x ∈ es.toList, x.born < clock) → (es.toList.map (·.born)).Nodup →
    (∀ x ∈ es.toList, ∃ fb fo a c, x.val = .pointer (some ⟨fb, fo, none⟩) ∧ w.cell? ⟨fb, fo, none⟩ = some (.slice a (len x) c)) →
    Calls P g #[.pointer (some ⟨dc, ds, none⟩)] w fun e w' => e = .returned (.int .i64 (wrap64 ((es.toList.map fun x => (len x : Int)).sum))) ∧ ∃ (w1 : World) (seen : Array Nat), w1.Alike w ∧ w' = w1.alloc (.mapIter (some m) clock seen clock)

theorem iUsed_ok (hn : noCount P) {g : FuncId} {fn : Func} {c : Code} (hf : P.funcs[g]? = some fn) (hb : fn.body = some c) (hg : UsedOK P g) {args : List AV} {A A' : AW} {v : AV} (h : iUsed args A = some (v, A')) : CallsTo P g args A v A' := by
  intro F w0 φ w vs hw hv
  unfold iUsed at h
  split at h
  · rename_i b o
    split at h
    · rename_i m hcm
      split at h
      · rename_i es clock hm
        split at h
        · rename_i l hl
          obtain ⟨hchk, h⟩ := then_some h
          cases h
          simp only [Bool.and_eq_true] at hchk
          obtain ⟨⟨c1, c2⟩, c3⟩ := hchk
          obtain ⟨u, rfl, h1⟩ := vrels1 hv
          simp only [VRel] at h1
          obtain ⟨p, hp, rfl⟩ := h1
          obtain ⟨u, hcell, hvr⟩ := hw.cell1 hp hcm
          simp only [VRel] at hvr
          obtain ⟨q, hq, rfl⟩ := hvr
          obtain ⟨es', h2, h3⟩ := hw.getMap hq hm
          obtain ⟨k1, k2⟩ := lens_spec hw es l es'.toList hl h3
          have hborn := erels_born h3
          refine .inl ⟨run_callFunc hn hf hb _, ?_⟩
          refine (hg p.c (p.s + o) q.c es' clock w (fileLen w) hcell h2 ?_ (by rw [hborn]; exact nodupB_spec c2) k1).mono ?_
          · have := all_rel h3 (fun b => Nat.blt b clock)
            rw [c1] at this
            intro x hx
            exact blt_iff.1 (List.all_eq_true.1 this.symm x hx)
          · rintro e w' ⟨rfl, w1, seen, hal, rfl⟩
            refine ⟨_, φ, rfl, Ext.refl φ, ?_, ?_⟩
            · refine hw.grown (by show w1.os = _; exact hal.2.1) (by show w1.output = _; exact hal.2.2) (by simp [hal.1]) fun k hk => ?_
              rw [heap_alloc_old w1 _ (by rw [hal.1]; exact hk), hal.1]
            · have h5 : (es'.toList.map fun x => (fileLen w x : Int)).sum = (sumL l : Nat) := by
                rw [← sumL_sum, ← k2, List.map_map]; rfl
              have h6 : sumL l ≤ 2 ^ 40 := ble_iff.1 c3
              rw [h5]
              refine vrel_lit.2 ?_
              have : wrap64 (sumL l : Nat) = (sumL l : Nat) := by unfold wrap64; omega
              rw [this]
        · cases h
      · cases h
    · cases h
  · cases h
end
end Go.Proofs.YtbhlagidmifijaaGreatDoor.AX
