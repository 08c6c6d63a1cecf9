/-
  What the executor does at an operation is what the machine does there: memory, slices, fields.
-/
import Derived.Test.YtbhlagidmifijaaGreatDoorXA6
namespace Go.Proofs.YtbhlagidmifijaaGreatDoor.AX
open Go.RowKit

section
variable {P : Program} {K : Nat → Prop} {w0 : Base} {φ : Phi} {A : AW} {w : World} {ρ : Operand → AV} {ρ' : Operand → Value}

theorem run_loadVar_ok (h : WRel K w0 φ A w) {t : TypeId} {g : Bool} (hg : tagg P t = some g) {b off : Nat} {p : Place} (hp : φ b = some p) :
    (g = true → ∀ n cs, tsize P t = some n → A.cells b off n = some cs → ∃ v, (loadVar t ⟨p.c, p.s + off, none⟩).run P w = .ok v w ∧ VRel φ (.agg cs) v) ∧
    (g = false → ∀ c, A.cells b off 1 = some [c] → ∃ v, (loadVar t ⟨p.c, p.s + off, none⟩).run P w = .ok v w ∧ VRel φ c v) := by
  constructor
  · rintro rfl n cs hn hc
    obtain ⟨vs, h1, h2, _, h4, _⟩ := h.cells hp hc
    have hl := run_loadCells_list (P := P) w _ vs h4
    rw [← h1.length, h2] at hl
    refine ⟨.agg vs.toArray, ?_, by simp only [VRel]; exact ⟨_, rfl, by simpa using h1⟩⟩
    simp only [loadVar, Sem.run_bind, run_isAgg' hg, Result.andThen_ok, if_true, run_sizeOf' hn, hl, Sem.run_pure]
  · rintro rfl c hc
    obtain ⟨vs, h1, h2, _, h4, _⟩ := h.cells hp hc
    rw [vrels_cons] at h1
    obtain ⟨v, vs', rfl, hr, _⟩ := h1
    have := h4 0 v rfl
    refine ⟨v, ?_, hr⟩
    simp only [loadVar, Sem.run_bind, run_isAgg' hg, Result.andThen_ok, Bool.false_eq_true, if_false]
    rw [run_load]
    have e : (⟨p.c, p.s + off, none⟩ : Addr).add 0 = ⟨p.c, p.s + off, none⟩ := rfl
    rw [e] at this
    rw [this]

theorem ok_load (h : WRel K w0 φ A w) (hρ : ∀ x, VRel φ (ρ x) (ρ' x)) {dst : Option Tmp} {ty : TypeId} {pos : String} {after : Array Edge} {guard : Option (Nat × Bool)} {t : TypeId} {a : Operand} {r : AN}
    (hr : aopRef P A ρ ⟨dst, .load t a, ty, pos, after, guard⟩ = some r) : OpOK P K w0 φ w ρ' ⟨dst, .load t a, ty, pos, after, guard⟩ r := by
  simp only [aopRef] at hr
  have ha := hρ a
  split at hr
  · rename_i b off hx
    rw [hx] at ha
    simp only [VRel] at ha
    obtain ⟨p, hp, ha⟩ := ha
    obtain ⟨g, hg, hr⟩ := opt_bind hr
    obtain ⟨h1, h2⟩ := run_loadVar_ok h hg (off := off) hp
    cases g with
    | true =>
      simp only [cond_true] at hr
      obtain ⟨n, hn, hr⟩ := opt_bind hr
      obtain ⟨cs, hc, hr⟩ := opt_bind hr
      cases hr
      obtain ⟨v, q1, q2⟩ := h1 rfl n cs hn hc
      exact ⟨v, by simp only [execOp, ha, Instr.loadAt, Instr.sureAddr, Sem.run_bind, Sem.run_pure, Result.andThen_ok, q1], q2⟩
    | false =>
      simp only [cond_false] at hr
      obtain ⟨cs, hc, hr⟩ := opt_bind hr
      match cs, hr with
      | [c], hr =>
        cases hr
        obtain ⟨v, q1, q2⟩ := h2 rfl c hc
        exact ⟨v, by simp only [execOp, ha, Instr.loadAt, Instr.sureAddr, Sem.run_bind, Sem.run_pure, Result.andThen_ok, q1], q2⟩
  · rename_i g off hx
    rw [hx, vrel_lit] at ha
    obtain ⟨cs, hgl, hr⟩ := opt_bind hr
    obtain ⟨ag, hg, hr⟩ := opt_bind hr
    obtain ⟨_, arr, e, fr, h2, h3⟩ := h.glob g cs hgl
    subst h3
    cases ag with
    | true =>
      simp only [cond_true] at hr
      obtain ⟨n, hn, hr⟩ := opt_bind hr
      obtain ⟨hb, hr⟩ := then_some hr
      rw [ble_iff, Array.length_toList] at hb
      cases hr
      have hl := run_loadCells_list (P := P) w ⟨g, off, none⟩ ((arr.toList.drop off).take n) (by
        intro j v hj
        rw [Addr.add_lit, cell_of_row w g _ arr e fr h2]
        rw [List.getElem?_take] at hj
        split at hj
        · rw [List.getElem?_drop, Array.getElem?_toList] at hj; exact hj
        · cases hj)
      have hn' : ((arr.toList.drop off).take n).length = n := by simp; omega
      rw [hn'] at hl
      refine ⟨.agg ((arr.toList.drop off).take n).toArray, ?_, vrel_lit.2 rfl⟩
      simp only [execOp, ha, Instr.loadAt, Instr.sureAddr, loadVar, Sem.run_bind, run_isAgg' hg, Result.andThen_ok, if_true, run_sizeOf' hn, hl, Sem.run_pure]
    | false =>
      simp only [cond_false] at hr
      obtain ⟨v, hv, hr⟩ := opt_bind hr
      cases hr
      refine ⟨v, ?_, vrel_lit.2 rfl⟩
      have hcell : w.cell? ⟨g, off, none⟩ = some v := by rw [cell_of_row w g _ arr e fr h2, ← Array.getElem?_toList]; exact hv
      simp only [execOp, ha, Instr.loadAt, Instr.sureAddr, loadVar, Sem.run_bind, run_isAgg' hg, Result.andThen_ok, Bool.false_eq_true, if_false, Sem.run_pure, run_load, hcell]
  · cases hr

theorem ok_store (h : WRel K w0 φ A w) (hρ : ∀ x, VRel φ (ρ x) (ρ' x)) {dst : Option Tmp} {ty : TypeId} {pos : String} {after : Array Edge} {guard : Option (Nat × Bool)} {t : TypeId} {a x : Operand} {r : AN}
    (hr : aopRef P A ρ ⟨dst, .store t a x, ty, pos, after, guard⟩ = some r) : OpOK P K w0 φ w ρ' ⟨dst, .store t a x, ty, pos, after, guard⟩ r := by
  simp only [aopRef] at hr
  have ha := hρ a
  cases hx : ρ a <;> rw [hx] at hr <;> simp only [reduceCtorEq] at hr
  rename_i b off
  rw [hx] at ha
  simp only [VRel] at ha
  obtain ⟨p, hp, ha⟩ := ha
  obtain ⟨n, hn, hr⟩ := opt_bind hr
  obtain ⟨hb, hr⟩ := then_some hr
  rw [beq_iff] at hb
  obtain ⟨A', hA, hr⟩ := opt_bind hr
  cases hr
  have hv := AV.cells_rel (hρ x)
  obtain ⟨w', q1, q2⟩ := h.storeCells P hp hA hv
  refine ⟨w', φ, ?_, Ext.refl φ, q2⟩
  have hsz : (ρ' x).cells.size = n := by rw [← hb, hv.length]; simp
  simp only [execOp, ha, Instr.storeAt, Instr.sureAddr, storeVar, Sem.run_bind, Sem.run_pure, Result.andThen_ok, run_sizeOf' hn, hsz, ne_eq, not_true_eq_false, if_false, q1]

theorem ok_nilCheck (hρ : ∀ x, VRel φ (ρ x) (ρ' x)) {dst : Option Tmp} {ty : TypeId} {pos : String} {after : Array Edge} {guard : Option (Nat × Bool)} {x : Operand} {r : AN}
    (hr : aopRef P A ρ ⟨dst, .nilCheck x, ty, pos, after, guard⟩ = some r) : OpOK P K w0 φ w ρ' ⟨dst, .nilCheck x, ty, pos, after, guard⟩ r := by
  simp only [aopRef] at hr
  have hv := hρ x
  cases hx : ρ x with
  | ptr b off =>
    rw [hx] at hr hv
    simp only [Option.some.injEq] at hr
    subst hr
    refine ⟨ρ' x, ?_, hv⟩
    simp only [VRel] at hv
    obtain ⟨p, _, e⟩ := hv
    simp only [execOp, e]; rfl
  | func fn a c =>
    rw [hx] at hr hv
    cases fn <;> simp only [reduceCtorEq, Option.some.injEq] at hr
    subst hr
    refine ⟨ρ' x, ?_, hv⟩
    simp only [VRel] at hv
    obtain ⟨f', c', e, _⟩ := hv
    simp only [execOp, e]; rfl
  | _ => rw [hx] at hr; simp at hr

theorem ok_fieldAddr (hρ : ∀ x, VRel φ (ρ x) (ρ' x)) {dst : Option Tmp} {ty : TypeId} {pos : String} {after : Array Edge} {guard : Option (Nat × Bool)} {s : TypeId} {x : Operand} {f : Nat} {r : AN}
    (hr : aopRef P A ρ ⟨dst, .fieldAddr s x f, ty, pos, after, guard⟩ = some r) : OpOK P K w0 φ w ρ' ⟨dst, .fieldAddr s x f, ty, pos, after, guard⟩ r := by
  simp only [aopRef] at hr
  have hv := hρ x
  split at hr
  · rename_i fields b off hu hx
    rw [hx] at hv
    simp only [VRel] at hv
    obtain ⟨p, hp, e⟩ := hv
    obtain ⟨fd, hf, hr⟩ := opt_bind hr
    obtain ⟨n, hn, hr⟩ := opt_bind hr
    obtain ⟨hb, hr⟩ := guard_some hr
    rw [beq_false] at hb
    cases hr
    refine ⟨.pointer (some ⟨p.c, p.s + off + fd.offset, none⟩), ?_, by simp only [VRel]; exact ⟨p, hp, by rw [Nat.add_assoc]⟩⟩
    simp only [execOp, Instr.fieldAt, Sem.run_bind, run_underlying hu, Result.andThen_ok, hf, e, Instr.sureAddr, Sem.run_pure, fieldPlace, run_sizeOf' hn, hb, if_false, Addr.add_lit]
  · cases hr

theorem part_ok {t : TypeId} {cs : List AV} {cs' : Array Value} {off : Nat} {v : AV} (hp : partA P t cs off = some v) (hc : VRels φ cs cs'.toList) : ∃ v', (part t cs' off).run P w = .ok v' w ∧ VRel φ v v' := by
  unfold partA at hp
  obtain ⟨a, ha, hp⟩ := opt_bind hp
  obtain ⟨n, hn, hp⟩ := opt_bind hp
  cases a with
  | true =>
    simp only [cond_true] at hp
    obtain ⟨hb, hp⟩ := then_some hp
    rw [ble_iff] at hb
    cases hp
    refine ⟨.agg (cs'.extract off (off + n)), ?_, ?_⟩
    · simp only [part, Sem.run_bind, run_isAgg' ha, Result.andThen_ok, if_true, run_sizeOf' hn, Sem.run_pure]
    · simp only [VRel]
      refine ⟨_, rfl, ?_⟩
      have := (hc.drop off).take n
      have e : (cs'.extract off (off + n)).toList = (cs'.toList.drop off).take n := by
        rw [Array.toList_extract, List.extract_eq_take_drop]
        congr 1; omega
      rw [e]; exact this
  | false =>
    simp only [cond_false] at hp
    obtain ⟨v', hv', hr⟩ := hc.get off v hp
    rw [Array.getElem?_toList] at hv'
    refine ⟨v', ?_, hr⟩
    simp only [part, Sem.run_bind, run_isAgg' ha, Result.andThen_ok, Bool.false_eq_true, if_false, hv', Sem.run_pure]

theorem ok_field (hρ : ∀ x, VRel φ (ρ x) (ρ' x)) {dst : Option Tmp} {ty : TypeId} {pos : String} {after : Array Edge} {guard : Option (Nat × Bool)} {t : TypeId} {x : Operand} {f : Nat} {r : AN}
    (hr : aopRef P A ρ ⟨dst, .field t x f, ty, pos, after, guard⟩ = some r) : OpOK P K w0 φ w ρ' ⟨dst, .field t x f, ty, pos, after, guard⟩ r := by
  simp only [aopRef] at hr
  split at hr
  · rename_i fields cs hu hx
    · obtain ⟨fd, hf, hr⟩ := opt_bind hr
      obtain ⟨v, hv, hr⟩ := opt_bind hr
      cases hr
      obtain ⟨cs', e, hc⟩ := AV.parts_rel hx (hρ x)
      obtain ⟨v', q1, q2⟩ := part_ok (w := w) hv hc
      exact ⟨v', by simp only [execOp, Instr.field, Sem.run_bind, run_underlying hu, Result.andThen_ok, hf, e, asAgg, Sem.run_pure, q1], q2⟩
  · cases hr

theorem asLitInt_rel {a : AV} {i : Int} {v : Value} (h : asLitInt a = some i) (hv : VRel φ a v) : ∃ k, v = .int k i := by
  unfold asLitInt at h
  split at h
  · rename_i k n
    cases h
    rw [vrel_lit] at hv
    exact ⟨k, hv⟩
  · cases h

theorem ok_indexAddr (h : WRel K w0 φ A w) (hρ : ∀ x, VRel φ (ρ x) (ρ' x)) {dst : Option Tmp} {ty : TypeId} {pos : String} {after : Array Edge} {guard : Option (Nat × Bool)} {t : TypeId} {x ix : Operand} {r : AN}
    (hr : aopRef P A ρ ⟨dst, .indexAddr t x ix, ty, pos, after, guard⟩ = some r) : OpOK P K w0 φ w ρ' ⟨dst, .indexAddr t x ix, ty, pos, after, guard⟩ r := by
  simp only [aopRef] at hr
  have hv := hρ x
  have hi := hρ ix
  split at hr
  · rename_i elem b off sz len cap k i hu hx hix
    rw [hx] at hv
    rw [hix, vrel_lit] at hi
    obtain ⟨size, hs, hr⟩ := opt_bind hr
    obtain ⟨hb, hr⟩ := then_some hr
    simp only [Bool.and_eq_true, beq_iff, decide_eq_true_eq, blt_iff] at hb
    obtain ⟨⟨rfl, h0⟩, hlt⟩ := hb
    cases hr
    simp only [VRel] at hv
    obtain ⟨a, c, e, hnk, _, hal⟩ := hv
    rcases hal with ⟨p, hp, rfl, _⟩ | ⟨e1, _⟩
    · refine ⟨.pointer (some ⟨p.c, p.s + off + i.toNat * size, none⟩), ?_, by simp only [VRel]; exact ⟨p, hp, by rw [Nat.add_assoc]⟩⟩
      have hlen : 0 ≤ i ∧ i < (len : Int) := ⟨h0, by omega⟩
      simp only [execOp, Instr.indexAt, hi, e, asIntOf, Sem.run_bind, Sem.run_pure, Result.andThen_ok, run_underlying hu, hlen, and_self, if_true, run_sizeOf' hs, Addr.add_lit]
    · omega
  · rename_i n elem b off k i hu hx hix
    rw [hx] at hv
    rw [hix, vrel_lit] at hi
    obtain ⟨size, hs, hr⟩ := opt_bind hr
    obtain ⟨hb, hr⟩ := then_some hr
    simp only [Bool.and_eq_true, decide_eq_true_eq, blt_iff] at hb
    obtain ⟨h0, hlt⟩ := hb
    cases hr
    simp only [VRel] at hv
    obtain ⟨p, hp, e⟩ := hv
    refine ⟨.pointer (some ⟨p.c, p.s + off + i.toNat * size, none⟩), ?_, by simp only [VRel]; exact ⟨p, hp, by rw [Nat.add_assoc]⟩⟩
    have hlen : 0 ≤ i ∧ i < (n : Int) := ⟨h0, by omega⟩
    simp only [execOp, Instr.indexAt, hi, e, asIntOf, Instr.sureAddr, Sem.run_bind, Sem.run_pure, Result.andThen_ok, run_underlying hu, hlen, and_self, if_true, run_sizeOf' hs, Addr.add_lit]
  · cases hr

theorem ok_index (hρ : ∀ x, VRel φ (ρ x) (ρ' x)) {dst : Option Tmp} {ty : TypeId} {pos : String} {after : Array Edge} {guard : Option (Nat × Bool)} {t : TypeId} {x ix : Operand} {r : AN}
    (hr : aopRef P A ρ ⟨dst, .index t x ix, ty, pos, after, guard⟩ = some r) : OpOK P K w0 φ w ρ' ⟨dst, .index t x ix, ty, pos, after, guard⟩ r := by
  simp only [aopRef] at hr
  have hi := hρ ix
  split at hr
  · rename_i s k i hu hx hix
    have hv := hρ x
    rw [hx, vrel_lit] at hv
    rw [hix, vrel_lit] at hi
    obtain ⟨hb, hr⟩ := then_some hr
    rw [decide_eq_true_eq] at hb
    obtain ⟨c, hc, rfl⟩ := opt_map hr
    refine ⟨.int .u8 c.toNat, ?_, vrel_lit.2 rfl⟩
    have hg : s[i.toNat]? = some c := by
      have hlt : i.toNat < s.size := by have := (List.getElem?_eq_some_iff.1 hc).1; rw [Array.length_toList] at this; exact this
      rw [Array.getElem?_toList] at hc
      rw [getElem?_pos s i.toNat hlt]
      have h2 : s.data[i.toNat]? = some s.data[i.toNat] := Array.getElem?_eq_getElem hlt
      rw [h2] at hc
      rw [← Option.some.inj hc]
      rfl
    simp only [execOp, Instr.index, hi, hv, asIntOf, Sem.run_bind, Sem.run_pure, Result.andThen_ok, run_underlying hu, hb, if_true, hg]
  · rename_i n elem k i hu hix
    rw [hix, vrel_lit] at hi
    obtain ⟨cs, hx, hr⟩ := opt_bind hr
    obtain ⟨size, hs, hr⟩ := opt_bind hr
    obtain ⟨hb, hr⟩ := then_some hr
    simp only [Bool.and_eq_true, decide_eq_true_eq, blt_iff] at hb
    obtain ⟨v, hv, hr⟩ := opt_bind hr
    cases hr
    obtain ⟨cs', e, hc⟩ := AV.parts_rel hx (hρ x)
    obtain ⟨v', q1, q2⟩ := part_ok (w := w) hv hc
    have hlen : 0 ≤ i ∧ i < (n : Int) := ⟨hb.1, by omega⟩
    exact ⟨v', by simp only [execOp, Instr.index, hi, e, asIntOf, Sem.run_bind, Sem.run_pure, Result.andThen_ok, run_underlying hu, hlen, and_self, if_true, run_sizeOf' hs, q1], q2⟩
  · cases hr

theorem ok_extract (hρ : ∀ x, VRel φ (ρ x) (ρ' x)) {dst : Option Tmp} {ty : TypeId} {pos : String} {after : Array Edge} {guard : Option (Nat × Bool)} {x : Operand} {ix : Nat} {r : AN}
    (hr : aopRef P A ρ ⟨dst, .extract x ix, ty, pos, after, guard⟩ = some r) : OpOK P K w0 φ w ρ' ⟨dst, .extract x ix, ty, pos, after, guard⟩ r := by
  simp only [aopRef] at hr
  have hv := hρ x
  split at hr
  · rename_i vs hx
    rw [hx] at hv
    simp only [VRel] at hv
    obtain ⟨vs', e, hvs⟩ := hv
    obtain ⟨v, h1, h2⟩ := opt_map hr
    subst h2
    obtain ⟨v', q1, q2⟩ := hvs.get ix v h1
    rw [Array.getElem?_toList] at q1
    exact ⟨v', by simp only [execOp, Instr.extract, e, q1, Sem.run_bind, Sem.run_pure, Result.andThen_ok], q2⟩
  · rename_i vs hx
    rw [hx, vrel_lit] at hv
    obtain ⟨v, h1, h2⟩ := opt_map hr
    subst h2
    exact ⟨v, by simp only [execOp, Instr.extract, hv, h1, Sem.run_bind, Sem.run_pure, Result.andThen_ok], vrel_lit.2 rfl⟩
  · cases hr
end
end Go.Proofs.YtbhlagidmifijaaGreatDoor.AX
