/-
  What the executor does at an operation is what the machine does there: conversions, rows that are made, slices.
-/
import Derived.Test.YtbhlagidmifijaaGreatDoorXA8
namespace Go.Proofs.YtbhlagidmifijaaGreatDoor.AX
open Go.RowKit

section
variable {P : Program} {K : Nat → Prop} {w0 : Base} {φ : Phi} {A : AW} {w : World} {ρ : Operand → AV} {ρ' : Operand → Value}

theorem mk_convert (hρ : ∀ x, VRel φ (ρ x) (ρ' x)) {dst : Option Tmp} {ty : TypeId} {pos : String} {after : Array Edge} {guard : Option (Nat × Bool)} {src to : TypeId} {x : Operand} {r : AO × (Nat → AV)}
    (hr : mk P ρ (.convert src to x) = some r) : MkOK P φ ρ' ⟨dst, .convert src to x, ty, pos, after, guard⟩ r.1 r.2 := by
  simp only [mk] at hr
  have hv := hρ x
  split at hr
  · rename_i e s hs hd hx
    rw [hx, vrel_lit] at hv
    split at hr
    · rename_i he
      obtain ⟨hb, hr⟩ := then_some hr
      cases hr
      intro w
      have hrun := run_bytes_of_string (P := P) w src to e s hs hd he
      have hsz : (bytesRow s (grownCap w s.size 0 e)).size = s.size + (grownCap w s.size 0 e - s.size) := by simp [bytesRow]
      refine ⟨w.drew, .cells (bytesRow s (grownCap w s.size 0 e)) e ((bytesRow s (grownCap w s.size 0 e)).size, (bytesRow s (grownCap w s.size 0 e)).size + 1), (bytesRow s (grownCap w s.size 0 e)).size,
        .slice (some ⟨w.heap.size, 0, none⟩) s.size (grownCap w s.size 0 e), .inr rfl, by simp only [execOp, hv, Sem.run_bind, hrun, Result.andThen_ok, Sem.run_pure], ?_, ?_⟩
      · refine ⟨_, e, _, rfl, rfl, ?_, .inr ⟨rfl, Nat.le_refl _⟩, ?_⟩
        · rw [hsz]; simp
        · intro i y hy
          rw [List.getElem?_map] at hy
          obtain ⟨b, hb', e1⟩ := opt_map hy
          cases e1
          refine ⟨rfl, .int .u8 b.toNat, ?_, vrel_lit.2 rfl⟩
          have hi : i < s.data.size := by have := (List.getElem?_eq_some_iff.1 hb').1; simpa using this
          have hb2 : s.data[i]? = some b := by rw [← hb', Array.getElem?_toList]
          simp only [bytesRow, Nat.zero_add]
          rw [Array.getElem?_append_left (by simpa using hi), Array.getElem?_map, hb2]; rfl
      · intro φ' id hid
        simp only [VRel]
        have hge := grownCap_ge w s.size 0 e
        refine ⟨_, _, rfl, hge, .inl trivial, .inl ⟨_, hid, rfl, ?_⟩⟩
        rw [hsz]; simp; omega
    · cases hr
  · cases hr

theorem freeze_row {w : World} {c S : Nat} {arr : Array Value} {e : TypeId} {fr : Nat × Nat} (hc : w.heap[c]? = some (.cells arr e fr)) :
    w.freeze ⟨c, S, none⟩ 1 = { w with heap := w.heap.setIfInBounds c (.cells arr e (if fr.1 == fr.2 then (S, S + 1) else (min fr.1 S, max fr.2 (S + 1)))) } := by
  have hlt : c < w.heap.size := (Array.getElem?_eq_some_iff.1 hc).1
  have hv := (Array.getElem?_eq_some_iff.1 hc).2
  unfold World.freeze
  rw [if_neg (by decide)]
  congr 1
  apply Array.ext
  · simp
  · intro i h1 h2
    simp only [Array.getElem_modify, Array.getElem_setIfInBounds]
    by_cases hi : c = i
    · subst hi
      simp [hv]
    · rw [if_neg hi, Array.getElem_setIfInBounds (by simpa using h2), if_neg hi]

theorem ok_convert (h : WRel K w0 φ A w) (hρ : ∀ x, VRel φ (ρ x) (ρ' x)) {dst : Option Tmp} {ty : TypeId} {pos : String} {after : Array Edge} {guard : Option (Nat × Bool)} {src to : TypeId} {x : Operand} {r : AN}
    (hr : aopRef P A ρ ⟨dst, .convert src to x, ty, pos, after, guard⟩ = some r) : OpOK P K w0 φ w ρ' ⟨dst, .convert src to x, ty, pos, after, guard⟩ r := by
  simp only [aopRef] at hr
  have hv := hρ x
  split at hr
  · rename_i e e' b off sz len cap hs hd hx
    rw [hx] at hv
    split at hr
    · rename_i base pl cs he hget
      obtain ⟨hb, hr2⟩ := then_some hr
      cases hr2
      simp only [Bool.and_eq_true, beq_iff, ble_iff, blt_iff] at hb
      obtain ⟨⟨rfl, hle⟩, hpos⟩ := hb
      rw [hd] at hs
      simp only [VRel] at hv
      obtain ⟨a, k, e1, hnk, hcap, hal⟩ := hv
      rcases hal with ⟨p, hp, rfl, hfit⟩ | ⟨e2, _⟩
      · obtain ⟨hK, o', h3, h4⟩ := h.obj b p _ hp hget
        obtain ⟨arr, el, fr, rfl, k1, k2, k3, k4⟩ := h4
        cases hs
        have hput := h.putObj hp hget (fun g _ _ _ hh => by cases hh) (.cells none base false cs) (.cells arr el (if fr.1 == fr.2 then (p.S, p.S + 1) else (min fr.1 p.S, max fr.2 (p.S + 1))))
          ⟨arr, el, _, rfl, k1, k2, .inr ⟨rfl, by
            split
            · exact Nat.le_refl _
            · rename_i hne
              rcases k3 with rfl | ⟨_, k3⟩
              · exact absurd rfl hne
              · show p.S ≤ min fr.1 p.S
                omega⟩, k4⟩
        have hfz := freeze_row (S := p.S) h3
        refine ⟨.slice (some ⟨p.c, p.s + off, none⟩) len k, _, φ, ?_, Ext.refl φ, hput, ?_⟩
        rotate_left
        · simp only [VRel]
          exact ⟨⟨p.c, p.s + off, none⟩, k, rfl, hnk, hcap, .inl ⟨p, hp, rfl, hfit⟩⟩
        · rw [← hfz]
          have hsh : w.shape? p.c = some (el, p.S) := by simp [World.shape?, h3, k1]
          have hshr : (Sem.shape p.c Sem.pure).run P w = .ok (w.shape? p.c) w := rfl
          simp [execOp, e1, convert, run_underlying hd, run_underlying he, markStringish, shape, hshr, hsh]
      · subst e2; simp at hpos
    · cases hr
  · rename_i e b off sz len cap hs hd hx
    rw [hx] at hv
    split at hr
    · rename_i he
      obtain ⟨hz, hr⟩ := guard_some hr
      rw [Bool.not_eq_false', beq_iff] at hz
      subst hz
      obtain ⟨cs, hc, hr⟩ := opt_bind hr
      obtain ⟨l, hl, hr⟩ := opt_bind hr
      cases hr
      simp only [VRel] at hv
      obtain ⟨a, k, e1, hnk, _, hal⟩ := hv
      have hload : ∃ vs, VRels φ cs vs ∧ (loadCells a len).run P w = .ok vs.toArray w := by
        by_cases h0 : len = 0
        · subst h0
          simp only [(beq_iff 0 0).2 rfl, cond_true, Option.some.injEq] at hc
          subst hc
          exact ⟨[], vrels_nil.2 rfl, rfl⟩
        · simp only [beq_false.2 h0, cond_false] at hc
          rcases hal with ⟨p, hp, rfl, _⟩ | ⟨e2, _⟩
          · obtain ⟨vs, q1, q2, _, q4, _⟩ := h.cells hp hc
            have := run_loadCells_list (P := P) w _ vs q4
            rw [← q1.length, q2] at this
            exact ⟨vs, q1, this⟩
          · omega
      obtain ⟨vs, q1, q2⟩ := hload
      obtain ⟨q3, q4⟩ := bytesOf_rel hl q1
      have hints : ∃ ns : List Int, vs = ns.map (Value.int .u8) ∧ l = ns.map fun n => UInt8.ofNat n.toNat := by
        refine ⟨vs.map fun v => match v with | .int _ n => n | _ => 0, ?_, ?_⟩
        · apply List.ext_getElem?
          intro i
          rw [List.map_map, List.getElem?_map]
          cases hvi : vs[i]? with
          | none => rfl
          | some v =>
            obtain ⟨n, rfl, _⟩ := q4 i v hvi
            rfl
        · apply List.ext_getElem?
          intro i
          rw [List.map_map, List.getElem?_map]
          cases hvi : vs[i]? with
          | none =>
            have : l.length ≤ i := by rw [q3]; simpa using hvi
            rw [List.getElem?_eq_none this]; rfl
          | some v =>
            obtain ⟨n, rfl, q5⟩ := q4 i v hvi
            rw [q5]; rfl
      obtain ⟨ns, rfl, rfl⟩ := hints
      refine ⟨.string ⟨(ns.map fun n => UInt8.ofNat n.toNat).toArray⟩, ?_, vrel_lit.2 rfl⟩
      have hb2 := run_bytesToString (P := P) w a len k ns q2
      simp only [execOp, e1, Sem.run_bind, run_convert_bytes_string w src to e (some a) len k hs he hd, hb2, Result.andThen_ok, Sem.run_pure, foldl_push_bytes]
      simp [ByteArray.empty, ByteArray.emptyWithCapacity]
      try rfl
    · cases hr
  · cases hr

theorem madeRow_rel {z : Value} {n m : Nat} (hz : z.cells.size = m) (hm : 0 < m) : VRels φ ((List.range n).map fun k => (litsOf z).getD (k % m) (.lit undef)) (madeCells z.cells n).toList := by
  refine VRels.of_get (by simp [madeCells]) fun i x v hx hv => ?_
  rw [List.getElem?_map] at hx
  obtain ⟨j, hj, rfl⟩ := opt_map hx
  have hi : i < n := by have := (List.getElem?_eq_some_iff.1 hj).1; simpa using this
  rw [List.getElem?_range hi] at hj
  cases hj
  have hlt : i % m < z.cells.size := by rw [hz]; exact Nat.mod_lt _ hm
  have hl : (litsOf z).getD (i % m) (.lit undef) = .lit z.cells[i % m] := by
    simp [litsOf, List.getD, hlt]
  rw [hl, vrel_lit]
  simp only [madeCells, Array.getElem?_toList] at hv
  rw [Array.getElem?_map] at hv
  obtain ⟨j, hj, rfl⟩ := opt_map hv
  have : j = i := by
    simp [hi] at hj
    exact hj.symm
  subst this
  simp only [hz]
  exact getElem!_pos z.cells (j % m) hlt

theorem mk_makeSlice (hρ : ∀ x, VRel φ (ρ x) (ρ' x)) {dst : Option Tmp} {ty : TypeId} {pos : String} {after : Array Edge} {guard : Option (Nat × Bool)} {t : TypeId} {x y : Operand} {r : AO × (Nat → AV)}
    (hr : mk P ρ (.makeSlice t x y) = some r) : MkOK P φ ρ' ⟨dst, .makeSlice t x y, ty, pos, after, guard⟩ r.1 r.2 := by
  simp only [mk] at hr
  have hvx := hρ x
  have hvy := hρ y
  split at hr
  · rename_i elem kl l kc c hu hx hy
    rw [hx, vrel_lit] at hvx
    rw [hy, vrel_lit] at hvy
    obtain ⟨i, hi, hr⟩ := opt_bind hr
    obtain ⟨z, hz, hr⟩ := opt_bind hr
    obtain ⟨hb, hr⟩ := then_some hr
    simp only [Bool.and_eq_true, decide_eq_true_eq, ble_iff, blt_iff, beq_iff] at hb
    obtain ⟨⟨⟨⟨⟨⟨h0, hlc⟩, hby⟩, hce⟩, hs0⟩, hzs⟩, hall⟩ := hb
    cases hr
    intro w
    have hmost : mostBytes = 1099511627776 := rfl
    rw [Nat.mul_add, Nat.mul_one] at hby
    have hb1 : (i.bytes : Int) * c ≤ 281474976710656 := by
      have : c = (c.toNat : Int) := by omega
      rw [this, ← Int.natCast_mul, Nat.mul_comm]
      omega
    have hrun := run_makeSlice (P := P) w t elem i z hu hi hz kl kc l c h0 hlc (by omega) hb1 (by omega)
    have hall' : ((List.range (c.toNat * i.size)).map fun k => (litsOf z).getD (k % i.size) (.lit undef)).all AV.one = true := by
      rw [List.all_eq_true]
      intro y hy
      obtain ⟨j, _, rfl⟩ := List.mem_map.1 hy
      have hlt : j % i.size < (litsOf z).length := by simp [litsOf, hzs]; exact Nat.mod_lt _ hs0
      rw [List.getD_eq_getElem?_getD, List.getElem?_eq_getElem hlt, Option.getD_some]
      exact List.all_eq_true.1 hall _ (List.getElem_mem hlt)
    have hrel := madeRow_rel (φ := φ) (n := c.toNat * i.size) hzs hs0
    have hO := orel_row (extra := []) hall' hrel w.heap.size (madeCells z.cells (c.toNat * i.size)).size true elem (0, 0) (.inl rfl) (by simp)
    refine ⟨w, .cells (madeCells z.cells (c.toNat * i.size)) elem, _, .slice (some ⟨w.heap.size, 0, none⟩) l.toNat c.toNat, .inl rfl, by simp only [execOp, hvx, hvy, Sem.run_bind, hrun, Result.andThen_ok, Sem.run_pure], by simpa using hO, ?_⟩
    intro φ' id hid
    simp only [VRel]
    refine ⟨_, _, rfl, by omega, .inr rfl, .inl ⟨_, hid, rfl, ?_⟩⟩
    simp [madeCells]
  · cases hr

theorem mk_buildSlice (hρ : ∀ x, VRel φ (ρ x) (ρ' x)) {dst : Option Tmp} {ty : TypeId} {pos : String} {after : Array Edge} {guard : Option (Nat × Bool)} {t : TypeId} {len : Nat} {ps : Array (Nat × Operand)} {r : AO × (Nat → AV)}
    (hr : mk P ρ (.buildSlice t len ps) = some r) : MkOK P φ ρ' ⟨dst, .buildSlice t len ps, ty, pos, after, guard⟩ r.1 r.2 := by
  simp only [mk] at hr
  split at hr
  · rename_i elem hu
    obtain ⟨i, hi, hr⟩ := opt_bind hr
    obtain ⟨z, hz, hr⟩ := opt_bind hr
    obtain ⟨hb, hr⟩ := guard_some hr
    simp only [Bool.or_eq_false_iff, Bool.not_eq_false', ble_iff, blt_iff, beq_iff] at hb
    obtain ⟨⟨hs0, hzs⟩, hce⟩ := hb
    obtain ⟨cs, hcs, hr⟩ := opt_bind hr
    obtain ⟨hall, hr⟩ := then_some hr
    cases hr
    intro w
    have hsize : tsize P elem = some i.size := by simp [tsize, hi]
    obtain ⟨r', h1, h2⟩ := fill_rel (ρ := ρ) (ρ' := ρ') (φ := φ) (fun k => some (k * i.size, i.size)) ps.toList _ (madeCells z.cells (len * i.size)) cs (madeRow_rel (n := len * i.size) hzs hs0) hρ hcs
    have hO := orel_row (extra := []) hall h2 w.heap.size r'.size true elem (0, 0) (.inl rfl) (by simp)
    have h1' : Instr.fill (fun k => some (k * i.size, i.size)) (madeCells z.cells (len * i.size)) (ps.map fun p => (p.1, ρ' p.2)).toList = some r' := by rw [Array.toList_map, ← h1]
    have hlen : r'.toList.length = len * i.size := by
      rw [← h2.length]
      have : ∀ (ps : List (Nat × AV)) (cs r : List AV), fillA (fun k => some (k * i.size, i.size)) cs ps = some r → r.length = cs.length := by
        intro ps
        induction ps with
        | nil => intro cs r hf; simp only [fillA, Option.some.injEq] at hf; rw [hf]
        | cons p ps ih =>
          intro cs r hf
          obtain ⟨k, v⟩ := p
          simp only [fillA] at hf
          obtain ⟨hb, hf⟩ := then_some hf
          rw [Bool.and_eq_true, beq_iff, ble_iff] at hb
          rw [ih _ _ hf]
          simp; omega
      rw [this _ _ _ hcs]; simp
    refine ⟨w, .cells r' elem, _, .slice (some ⟨w.heap.size, 0, none⟩) len len, .inl rfl, ?_, by simpa using hO, ?_⟩
    · have hn : ¬ (len * i.size > 2 ^ 24) := by omega
      have hn0 : ¬ (0 > 2 ^ 24) := by decide
      by_cases hl0 : len * i.size = 0
      · have hm0 : madeCells z.cells (len * i.size) = (Array.range (len * i.size)).map (fun k => (#[] : Array Value)[k % (#[] : Array Value).size]!) := by
          rw [hl0]; simp [madeCells]
        rw [hm0] at h1'
        simp only [execOp, Instr.buildSlice, Sem.run_bind, run_underlying hu, Result.andThen_ok, run_sizeOf' hsize, hl0, hn0, if_false, if_true, Sem.run_pure]
        rw [hl0] at h1'
        simp only [h1', newRow, Sem.run_bind, run_newObj, Result.andThen_ok, Sem.run_pure]
        rfl
      · simp only [execOp, Instr.buildSlice, zeroValue, typeInfo, Sem.run_bind, run_underlying hu, Result.andThen_ok, run_sizeOf' hsize, hn, if_false, hl0, run_program, hi, hz, Sem.run_pure]
        have h1'' : Instr.fill (fun k => some (k * i.size, i.size)) ((Array.range (len * i.size)).map fun k => z.cells[k % z.cells.size]!) (ps.map fun p => (p.1, ρ' p.2)).toList = some r' := h1'
        simp only [h1'', newRow, Sem.run_bind, run_newObj, Result.andThen_ok, Sem.run_pure]
        rfl
    · intro φ' id hid
      simp only [VRel]
      refine ⟨_, _, rfl, Nat.le_refl _, .inr rfl, .inl ⟨_, hid, rfl, ?_⟩⟩
      rw [Array.length_toList] at hlen
      simp [hlen]
  · cases hr
end
end Go.Proofs.YtbhlagidmifijaaGreatDoor.AX
