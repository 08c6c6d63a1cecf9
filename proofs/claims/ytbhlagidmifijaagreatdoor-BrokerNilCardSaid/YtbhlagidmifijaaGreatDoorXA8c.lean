/-
  What the executor does at an operation is what the machine does there: slices, maps, iterators, interfaces, builtins, calls.
-/
import Derived.Test.YtbhlagidmifijaaGreatDoorXA8b
namespace Go.Proofs.YtbhlagidmifijaaGreatDoor.AX
open Go.RowKit

section
variable {P : Program} {K : Nat → Prop} {w0 : Base} {φ : Phi} {A : AW} {w : World} {ρ : Operand → AV} {ρ' : Operand → Value}

theorem sliceB_eq (len : Nat) (cap : Option Nat) (lo hi : Option AV) : sliceB len cap lo hi =
    (match hi with
      | none => some len
      | some v => asLitInt v >>= fun i => bif decide (0 ≤ i) && Nat.ble i.toNat (cap.getD len) then some i.toNat else none) >>= fun h =>
    (match lo with
      | none => some 0
      | some v => asLitInt v >>= fun i => bif decide (0 ≤ i) && Nat.ble i.toNat h then some i.toNat else none) >>= fun l => some (l, h) := by
  unfold sliceB
  cases hi with
  | none =>
    cases lo with
    | none => rfl
    | some v =>
      cases hv : asLitInt v with
      | none => simp [hv]
      | some i => cases hd : (decide (0 ≤ i) && Nat.ble i.toNat len) <;> simp [hv, hd]
  | some u =>
    cases hu : asLitInt u with
    | none => simp [hu]
    | some j =>
      cases he : (decide (0 ≤ j) && Nat.ble j.toNat (cap.getD len)) with
      | false => simp [hu, he]
      | true =>
        cases lo with
        | none => simp [hu, he]
        | some v =>
          cases hv : asLitInt v with
          | none => simp [hu, he, hv]
          | some i => cases hd : (decide (0 ≤ i) && Nat.ble i.toNat j.toNat) <;> simp [hu, he, hv, hd]

theorem sliceB_ok {isSlice : Bool} {len k l hh : Nat} {cap : Option Nat} {lo hi : Option AV} {lo' hi' : Option Value} (hs : sliceB len cap lo hi = some (l, hh)) (hnk : len ≤ k) (hcap : cap = none ∨ cap = some k)
    (hlo : ∀ a, lo = some a → ∃ v, lo' = some v ∧ VRel φ a v) (hlo0 : lo = none → lo' = none) (hhi : ∀ a, hi = some a → ∃ v, hi' = some v ∧ VRel φ a v) (hhi0 : hi = none → hi' = none) :
    (Instr.sliceBounds isSlice len k lo' hi' none).run P w = .ok (l, hh, k) w ∧ l ≤ hh ∧ hh ≤ k ∧ (cap = none → hh ≤ len) := by
  rw [sliceB_eq] at hs
  obtain ⟨h1, hh1, hs⟩ := opt_bind hs
  obtain ⟨l1, hl1, hs⟩ := opt_bind hs
  cases hs
  have hhk : hh ≤ k ∧ (cap = none → hh ≤ len) ∧ (match hi', (none : Option Value) with | some v, some _ => Instr.sliceBound v k .slice3B | some v, none => Instr.sliceBound v k (if isSlice then .sliceAcap else .sliceAlen) | none, none => (pure len : Sem Nat) | none, some _ => stuck "Slice: max without high").run P w = .ok hh w := by
    cases hi with
    | none =>
      simp only [Option.some.injEq] at hh1
      subst hh1
      rw [hhi0 rfl]
      exact ⟨hnk, fun _ => Nat.le_refl _, rfl⟩
    | some a =>
      simp only at hh1
      obtain ⟨i, hi1, hh1⟩ := opt_bind hh1
      obtain ⟨hb, hh1⟩ := then_some hh1
      simp only [Bool.and_eq_true, decide_eq_true_eq, ble_iff] at hb
      cases hh1
      obtain ⟨v, rfl, hv⟩ := hhi a rfl
      obtain ⟨kk, rfl⟩ := asLitInt_rel hi1 hv
      have hle : i.toNat ≤ k := by
        rcases hcap with rfl | rfl
        · simp at hb; omega
        · simpa using hb.2
      have hik : 0 ≤ i ∧ i ≤ (k : Int) := ⟨hb.1, by omega⟩
      refine ⟨hle, fun hc => by subst hc; simpa using hb.2, ?_⟩
      simp [Instr.sliceBound, asIntOf, hik]
  have hlo1 : l ≤ hh ∧ (match lo' with | some v => Instr.sliceBound v hh (if (none : Option Value).isSome then .slice3C else .sliceB) | none => (pure 0 : Sem Nat)).run P w = .ok l w := by
    cases lo with
    | none =>
      simp only [Option.some.injEq] at hl1
      subst hl1
      rw [hlo0 rfl]
      exact ⟨Nat.zero_le _, rfl⟩
    | some a =>
      simp only at hl1
      obtain ⟨i, hi1, hl1⟩ := opt_bind hl1
      obtain ⟨hb, hl1⟩ := then_some hl1
      simp only [Bool.and_eq_true, decide_eq_true_eq, ble_iff] at hb
      cases hl1
      obtain ⟨v, rfl, hv⟩ := hlo a rfl
      obtain ⟨kk, rfl⟩ := asLitInt_rel hi1 hv
      have hik : 0 ≤ i ∧ i ≤ (hh : Int) := ⟨hb.1, by omega⟩
      refine ⟨hb.2, ?_⟩
      simp [Instr.sliceBound, asIntOf, hik]
  refine ⟨?_, hlo1.1, hhk.1, hhk.2.1⟩
  have hA := hhk.2.2
  have hB := hlo1.2
  unfold Instr.sliceBounds
  cases hi' <;> cases lo' <;> simp only [Sem.run_bind, Sem.run_pure, Result.andThen_ok, Result.ok.injEq, and_true] at hA hB ⊢
  · simp [hA, hB]
  · subst hA; rw [hB]; rfl
  · rw [hA]; simp [hB]
  · rw [hA]; simp only [Result.andThen_ok, Sem.run_bind]; rw [hB]; rfl

theorem sliceB3_ok {len k l hh : Nat} {mi : Int} {km : IntKind} {lo : Option AV} {hi : AV} {lo' : Option Value} {hi' : Value} (h0 : 0 ≤ mi) (hmk : mi.toNat ≤ k) (hs : sliceB mi.toNat (some mi.toNat) lo (some hi) = some (l, hh))
    (hlo : ∀ a, lo = some a → ∃ v, lo' = some v ∧ VRel φ a v) (hlo0 : lo = none → lo' = none) (hhi : VRel φ hi hi') :
    (Instr.sliceBounds true len k lo' (some hi') (some (.int km mi))).run P w = .ok (l, hh, mi.toNat) w ∧ l ≤ hh ∧ hh ≤ mi.toNat := by
  rw [sliceB_eq] at hs
  obtain ⟨h1, hh1, hs⟩ := opt_bind hs
  obtain ⟨l1, hl1, hs⟩ := opt_bind hs
  cases hs
  have hb0 : (Instr.sliceBound (.int km mi) k .slice3Acap).run P w = .ok mi.toNat w := by
    have hik : 0 ≤ mi ∧ mi ≤ (k : Int) := ⟨h0, by omega⟩
    simp [Instr.sliceBound, asIntOf, hik]
  simp only at hh1
  obtain ⟨i, hi1, hh1⟩ := opt_bind hh1
  obtain ⟨hb, hh1⟩ := then_some hh1
  simp only [Bool.and_eq_true, decide_eq_true_eq, ble_iff, Option.getD_some] at hb
  cases hh1
  obtain ⟨kk, rfl⟩ := asLitInt_rel hi1 hhi
  have hb1 : (Instr.sliceBound (.int kk i) mi.toNat .slice3B).run P w = .ok i.toNat w := by
    have hik : 0 ≤ i ∧ i ≤ (mi.toNat : Int) := ⟨hb.1, by omega⟩
    simp only [Instr.sliceBound, asIntOf, Sem.run_bind, Sem.run_pure, Result.andThen_ok, hik, and_self, if_true]
  have hlo1 : l ≤ i.toNat ∧ (match lo' with | some v => Instr.sliceBound v i.toNat .slice3C | none => (pure 0 : Sem Nat)).run P w = .ok l w := by
    cases lo with
    | none =>
      simp only [Option.some.injEq] at hl1
      subst hl1
      rw [hlo0 rfl]
      exact ⟨Nat.zero_le _, rfl⟩
    | some a =>
      simp only at hl1
      obtain ⟨j, hj1, hl1⟩ := opt_bind hl1
      obtain ⟨hb', hl1⟩ := then_some hl1
      simp only [Bool.and_eq_true, decide_eq_true_eq, ble_iff] at hb'
      cases hl1
      obtain ⟨v, rfl, hv⟩ := hlo a rfl
      obtain ⟨kk, rfl⟩ := asLitInt_rel hj1 hv
      have hik : 0 ≤ j ∧ j ≤ (i.toNat : Int) := ⟨hb'.1, by omega⟩
      refine ⟨hb'.2, ?_⟩
      simp only [Instr.sliceBound, asIntOf, Sem.run_bind, Sem.run_pure, Result.andThen_ok, hik, and_self, if_true]
  refine ⟨?_, hlo1.1, hb.2⟩
  unfold Instr.sliceBounds
  have hB := hlo1.2
  cases lo' with
  | none =>
    simp only [Sem.run_pure, Result.ok.injEq, and_true] at hB
    simp only [Sem.run_bind, if_true, hb0, hb1, Result.andThen_ok, Option.isSome_some, Sem.run_pure, hB]
  | some v =>
    simp only at hB
    simp only [Sem.run_bind, if_true, hb0, hb1, Result.andThen_ok, Option.isSome_some, hB, Sem.run_pure]

theorem ok_slice (h : WRel K w0 φ A w) (hρ : ∀ x, VRel φ (ρ x) (ρ' x)) {dst : Option Tmp} {ty : TypeId} {pos : String} {after : Array Edge} {guard : Option (Nat × Bool)} {t : TypeId} {x : Operand} {lo hi mx : Option Operand} {r : AN}
    (hr : aopRef P A ρ ⟨dst, .slice t x lo hi mx, ty, pos, after, guard⟩ = some r) : OpOK P K w0 φ w ρ' ⟨dst, .slice t x lo hi mx, ty, pos, after, guard⟩ r := by
  cases mx with
  | some m =>
    cases hi with
    | none => simp [aopRef] at hr
    | some hi =>
    simp only [aopRef] at hr
    have hv := hρ x
    have hvm := hρ m
    split at hr
    · rename_i elem b off sz len cap mi hu hx hm
      rw [hx] at hv
      obtain ⟨km, hvm⟩ := asLitInt_rel hm hvm
      obtain ⟨size, hs, hr⟩ := opt_bind hr
      obtain ⟨hb, hr⟩ := guard_some hr
      simp only [Bool.or_eq_false_iff, Bool.not_eq_false', beq_iff, decide_eq_true_eq, ble_iff] at hb
      obtain ⟨⟨hsz, h0⟩, hmk⟩ := hb
      subst hsz
      obtain ⟨⟨l, hh⟩, hsb, hr⟩ := opt_bind hr
      simp only [Option.pure_def, Option.some.injEq] at hr
      subst hr
      simp only [VRel] at hv
      obtain ⟨a, k, ex, hnk, hcap, hal⟩ := hv
      have hmk' : mi.toNat ≤ k := by
        rcases hcap with rfl | rfl
        · simp at hmk; omega
        · simpa using hmk
      obtain ⟨hrun, hlh, hhk⟩ := sliceB3_ok (P := P) (w := w) (φ := φ) (len := len) (km := km) (lo' := lo.map ρ') (hi' := ρ' hi) h0 hmk' hsb (fun a ho => by obtain ⟨y, rfl, rfl⟩ := opt_map ho; exact ⟨_, rfl, hρ y⟩) (fun ho => by cases lo with | none => rfl | some y => cases ho) (hρ hi)
      refine ⟨.slice (if mi.toNat = l then some a else (some a).map (·.add (l * size))) (hh - l) (mi.toNat - l), ?_, ?_⟩
      · simp only [execOp, ex, hvm, Instr.sliceAt, Instr.slice, Sem.run_bind, run_underlying hu, Result.andThen_ok, Option.map_some, hrun, run_sizeOf' hs, Sem.run_pure]
      · simp only [VRel]
        by_cases hkl : mi.toNat = l
        · rw [if_pos hkl]
          refine ⟨a, mi.toNat - l, rfl, by omega, .inr rfl, .inr ⟨by omega, by omega⟩⟩
        · rw [if_neg hkl, Option.map_some]
          refine ⟨a.add (l * size), mi.toNat - l, rfl, by omega, .inr rfl, ?_⟩
          rcases hal with ⟨p, hp, rfl, hfit⟩ | ⟨q1, q2⟩
          · have hne : Nat.beq (mi.toNat - l) 0 = false := by rw [beq_false]; omega
            refine .inl ⟨p, hp, ?_, ?_⟩
            · rw [hne, Addr.add_lit]; simp [Nat.add_assoc]
            · rw [hne]
              simp only [cond_false]
              have h2 : l * size + (mi.toNat - l) * size = mi.toNat * size := by rw [← Nat.add_mul]; congr 1; omega
              have h3 : mi.toNat * size ≤ k * size := Nat.mul_le_mul_right _ hmk'
              omega
          · exfalso; omega
    · cases hr
  | none =>
    simp only [aopRef] at hr
    have hv := hρ x
    have e1 : ∀ (o : Option Operand) (a : AV), o.map ρ = some a → ∃ v, o.map ρ' = some v ∧ VRel φ a v := by
      intro o a ho
      obtain ⟨y, rfl, rfl⟩ := opt_map ho
      exact ⟨_, rfl, hρ y⟩
    have e0 : ∀ (o : Option Operand), o.map ρ = none → o.map ρ' = none := by
      intro o ho
      cases o with
      | none => rfl
      | some y => cases ho
    split at hr
    · rename_i s hu hx
      rw [hx, vrel_lit] at hv
      obtain ⟨⟨l, hh⟩, hsb, hr⟩ := opt_bind hr
      simp only [Option.pure_def, Option.some.injEq] at hr
      subst hr
      obtain ⟨hrun, hlh, hhk, _⟩ := sliceB_ok (P := P) (w := w) (φ := φ) (isSlice := false) hsb (Nat.le_refl _) (.inr rfl) (e1 lo) (e0 lo) (e1 hi) (e0 hi)
      refine ⟨.string (s.extract l hh), ?_, ?_⟩
      · simp only [execOp, hv, Instr.sliceAt, Instr.slice, Sem.run_bind, run_underlying hu, Result.andThen_ok, Option.map_none, Option.isSome_none, Bool.false_eq_true, if_false, hrun, Sem.run_pure]
      · rw [vrel_lit]
        congr 1
        apply WideShapes.bytes_inj
        rw [ByteArray.data_extract, Array.toList_extract, List.extract_eq_take_drop]
    · rename_i elem b off sz len cap hu hx
      rw [hx] at hv
      obtain ⟨size, hs, hr⟩ := opt_bind hr
      obtain ⟨hb, hr⟩ := guard_some hr
      rw [Bool.not_eq_false', beq_iff] at hb
      subst hb
      obtain ⟨⟨l, hh⟩, hsb, hr⟩ := opt_bind hr
      simp only [Option.pure_def, Option.some.injEq] at hr
      subst hr
      simp only [VRel] at hv
      obtain ⟨a, k, ex, hnk, hcap, hal⟩ := hv
      obtain ⟨hrun, hlh, hhk, hlen⟩ := sliceB_ok (P := P) (w := w) (φ := φ) (isSlice := true) hsb hnk hcap (e1 lo) (e0 lo) (e1 hi) (e0 hi)
      refine ⟨.slice (if k = l then some a else (some a).map (·.add (l * size))) (hh - l) (k - l), ?_, ?_⟩
      · simp only [execOp, ex, Instr.sliceAt, Instr.slice, Sem.run_bind, run_underlying hu, Result.andThen_ok, Option.map_none, hrun, run_sizeOf' hs, Sem.run_pure]
      · simp only [VRel]
        have hcap' : cap.map (· - l) = none ∨ cap.map (· - l) = some (k - l) := by
          rcases hcap with rfl | rfl
          · exact .inl rfl
          · exact .inr rfl
        by_cases hkl : k = l
        · rw [if_pos hkl]
          refine ⟨a, k - l, rfl, by omega, hcap', ?_⟩
          rcases hal with ⟨p, hp, rfl, hfit⟩ | ⟨q1, q2⟩
          · rcases hcap with rfl | rfl
            · exact .inr ⟨by omega, by omega⟩
            · refine .inl ⟨p, hp, ?_, ?_⟩
              · have : Nat.beq ((some k).getD (l + 1) - l) 0 = true := by rw [beq_iff]; simp [hkl]
                rw [this]; rfl
              · have : Nat.beq ((some k).getD (l + 1) - l) 0 = true := by rw [beq_iff]; simp [hkl]
                rw [this]
                simp only [cond_true, hkl, Nat.sub_self, Nat.zero_mul, Nat.add_zero]
                have := Nat.zero_le (k * size)
                omega
          · exact .inr ⟨by omega, by omega⟩
        · rw [if_neg hkl, Option.map_some]
          refine ⟨a.add (l * size), k - l, rfl, by omega, hcap', ?_⟩
          rcases hal with ⟨p, hp, rfl, hfit⟩ | ⟨q1, q2⟩
          · refine .inl ⟨p, hp, ?_, ?_⟩
            · have : Nat.beq (cap.getD (l + 1) - l) 0 = false := by
                rw [beq_false]
                rcases hcap with rfl | rfl
                · simp
                · simp; omega
              rw [this, Addr.add_lit]
              simp [Nat.add_assoc]
            · have : Nat.beq (cap.getD (l + 1) - l) 0 = false := by
                rw [beq_false]
                rcases hcap with rfl | rfl
                · simp
                · simp; omega
              rw [this]
              simp only [cond_false]
              have h2 : l * size + (k - l) * size = k * size := by rw [← Nat.add_mul]; congr 1; omega
              omega
          · exfalso; omega
    · rename_i n elem b off hu hx
      rw [hx] at hv
      obtain ⟨size, hs, hr⟩ := opt_bind hr
      obtain ⟨hb, hr⟩ := guard_some hr
      rw [beq_false] at hb
      obtain ⟨⟨l, hh⟩, hsb, hr⟩ := opt_bind hr
      simp only at hr
      split at hr
      · rename_i g base pl cs hg
        obtain ⟨hc, hr⟩ := then_some hr
        rw [ble_iff] at hc
        cases hr
        simp only [VRel] at hv
        obtain ⟨p, hp, ex⟩ := hv
        obtain ⟨_, oo', m3, m4⟩ := h.obj b p _ hp hg
        obtain ⟨arr, el, fr, rfl, k1, k2, k3, k4⟩ := m4
        obtain ⟨hrun, hlh, hhk, _⟩ := sliceB_ok (P := P) (w := w) (φ := φ) (isSlice := false) hsb (Nat.le_refl n) (.inr rfl) (e1 lo) (e0 lo) (e1 hi) (e0 hi)
        refine ⟨.slice (some (if n = l then ⟨p.c, p.s + off, none⟩ else (⟨p.c, p.s + off, none⟩ : Addr).add (l * size))) (hh - l) (n - l), ?_, ?_⟩
        · simp only [execOp, ex, Instr.sliceAt, Instr.sureAddr, Sem.run_bind, run_underlying hu, Result.andThen_ok, Option.map_none, hrun, run_sizeOf' hs, Sem.run_pure]
        · simp only [VRel]
          have h2 : l * size + (n - l) * size = n * size := by rw [← Nat.add_mul]; congr 1; omega
          refine ⟨_, _, rfl, by omega, .inr rfl, .inl ⟨p, hp, ?_, ?_⟩⟩
          · by_cases hnl : n = l
            · rw [if_pos hnl, (beq_iff _ _).2 (by omega)]; rfl
            · rw [if_neg hnl, beq_false.2 (by omega), Addr.add_lit]; simp [Nat.add_assoc]
          · by_cases hnl : n = l
            · rw [(beq_iff _ _).2 (by omega)]; simp only [cond_true]; omega
            · rw [beq_false.2 (by omega)]; simp only [cond_false]; omega
      · cases hr
    · cases hr

/-- The keys. -/
theorem plainKey_check {kt : TypeId} {kind : TypeDesc} (hk : P.underlying kt = some kind) (hp : plainKey kind = true) (e : Bool) (k : Value) : (Instr.checkKey e 10000 kt k).run P w = .ok () w := by
  unfold Instr.checkKey
  simp only [Sem.run_bind, run_underlying hk, Result.andThen_ok]
  cases kind <;> simp [plainKey] at hp <;> cases k <;> rfl

theorem list_beq_bytes (a b : ByteArray) : (a.data.toList == b.data.toList) = (a == b) := by
  rw [Bool.eq_iff_iff, beq_iff_eq]
  show _ ↔ (a.data == b.data) = true
  rw [beq_iff_eq]
  exact ⟨fun h => Array.ext' h, fun h => by rw [h]⟩
theorem keySame_eq (kind : TypeDesc) (k k' : Value) : keySame kind k k' = Instr.sameNow kind k k' := by
  unfold keySame
  split
  · rfl
  · rw [list_beq_bytes]; rfl
  · rfl
  · rename_i h1 h2 h3
    unfold Instr.sameNow
    split
    · exact absurd rfl (h1 _ _ _ _ _ rfl rfl)
    · exact absurd rfl (h2 _ _ rfl rfl)
    · exact absurd rfl (h3 _ _ rfl rfl)
    · rfl

theorem findA_rel (kind : TypeDesc) (k : Value) : ∀ (es : List (Value × AV × Nat)) (es' : List MapEntry) (i : Nat) (r : Option (Nat × AV)), ERels φ es es' → findA kind k es i = some r →
    (match r with
     | none => Instr.findNow kind k es' i = some none
     | some (j, v) => ∃ v' e, Instr.findNow kind k es' i = some (some (j, v')) ∧ VRel φ v v' ∧ i ≤ j ∧ es[j - i]? = some (e, v, ((es[j - i]?).map (·.2.2)).getD 0) ∧ Instr.sameNow kind k e = some true)
  | [], es', i, r, he, h => by
    rw [erels_nil] at he
    subst he
    simp only [findA, Option.some.injEq] at h
    subst h
    rfl
  | x :: es, es', i, r, he, h => by
    rw [erels_cons] at he
    obtain ⟨e, es'', rfl, h1, h2, h3, h4⟩ := he
    simp only [findA, keySame_eq] at h
    split at h
    · rename_i hs
      simp only [Option.some.injEq] at h
      subst h
      refine ⟨e.val, x.1, ?_, h2, Nat.le_refl _, ?_, hs⟩
      · simp only [Instr.findNow, h1, hs]
      · simp
    · rename_i hs
      have ih := findA_rel kind k es es'' (i + 1) r h4 h
      cases r with
      | none => simp only at ih ⊢; simp only [Instr.findNow, h1, hs]; exact ih
      | some jv =>
        obtain ⟨j, v⟩ := jv
        obtain ⟨v', e', q1, q2, q3, q4, q5⟩ := ih
        refine ⟨v', e', by simp only [Instr.findNow, h1, hs]; exact q1, q2, by omega, ?_, q5⟩
        have : j - i = (j - (i + 1)) + 1 := by omega
        rw [this]
        simpa using q4
    · cases h

theorem run_findKey {kt : TypeId} {kind : TypeDesc} (hk : P.underlying kt = some kind) {k : Value} {es' : List MapEntry} {r : Option (Nat × Value)} (h : Instr.findNow kind k es' 0 = some r) : (Instr.findKey kt k es').run P w = .ok r w := by
  unfold Instr.findKey
  simp only [Sem.run_bind, run_underlying hk, Result.andThen_ok, h, Sem.run_pure]

theorem WRel.getMap (h : WRel K w0 φ A w) {m : Nat} {p : Place} (hp : φ m = some p) {es : List (Value × AV × Nat)} {clock : Nat} (hg : A.get m = some (.map es clock)) : ∃ es', w.heap[p.c]? = some (.map es' clock) ∧ ERels φ es es'.toList := by
  obtain ⟨_, o', m3, m4⟩ := h.obj m p _ hp hg
  obtain ⟨es', rfl, he⟩ := m4
  exact ⟨es', m3, he⟩
theorem run_getObj' {r : Nat} {o : Obj} (h : w.heap[r]? = some o) (hc : ∀ c e f, o ≠ .cells c e f) : (getObj r).run P w = .ok o w := by
  simp only [getObj, Sem.run, h]
theorem run_setObj' {r : Nat} {o o2 : Obj} (h : w.heap[r]? = some o) (hc : ∀ c e f, o ≠ .cells c e f) : (setObj r o2).run P w = .ok () { w with heap := w.heap.setIfInBounds r o2 } := by
  simp only [setObj, Sem.run, h]

theorem ok_lookup (h : WRel K w0 φ A w) (hρ : ∀ x, VRel φ (ρ x) (ρ' x)) {dst : Option Tmp} {ty : TypeId} {pos : String} {after : Array Edge} {guard : Option (Nat × Bool)} {t : TypeId} {x k : Operand} {ok : Bool} {r : AN}
    (hr : aopRef P A ρ ⟨dst, .lookup t x k ok, ty, pos, after, guard⟩ = some r) : OpOK P K w0 φ w ρ' ⟨dst, .lookup t x k ok, ty, pos, after, guard⟩ r := by
  simp only [aopRef] at hr
  have hvx := hρ x
  have hvk := hρ k
  split at hr
  · rename_i kt elem key hu hx hk
    rw [hx, vrel_lit] at hvx
    rw [hk, vrel_lit] at hvk
    split at hr
    · rename_i kind hkt
      obtain ⟨hpl, hr⟩ := guard_some hr
      rw [Bool.not_eq_false'] at hpl
      have hchk := fun b => plainKey_check (P := P) (w := w) hkt hpl b key
      obtain ⟨i, hi, hr⟩ := opt_bind hr
      obtain ⟨z, hz, hr⟩ := opt_bind hr
      cases hr
      have hfind := run_findKey (P := P) (w := w) (es' := []) hkt (k := key) (r := none) rfl
      cases ok with
      | true =>
        refine ⟨.tuple #[z, .bool false], ?_, ?_⟩
        · simp only [execOp, hvx, hvk, Instr.lookup, zeroValue, typeInfo, Sem.run_bind, run_underlying hu, Result.andThen_ok, Sem.run_pure, hchk, hfind, run_program, hi, hz]; rfl
        · simp only [VRel, VRels, cond_true]; exact ⟨_, rfl, z, [.bool false], rfl, rfl, _, [], rfl, rfl, rfl⟩
      | false =>
        refine ⟨z, ?_, vrel_lit.2 rfl⟩
        simp only [execOp, hvx, hvk, Instr.lookup, zeroValue, typeInfo, Sem.run_bind, run_underlying hu, Result.andThen_ok, Sem.run_pure, hchk, hfind, run_program, hi, hz]; rfl
    · cases hr
  · rename_i kt elem m key hu hx hk
    rw [hx] at hvx
    rw [hk, vrel_lit] at hvk
    simp only [VRel] at hvx
    obtain ⟨p, hp, ex⟩ := hvx
    split at hr
    · rename_i es clock kind hg hkt
      obtain ⟨hpl, hr⟩ := guard_some hr
      rw [Bool.not_eq_false'] at hpl
      obtain ⟨es', hm, he⟩ := h.getMap hp hg
      have hobj := run_getObj' (P := P) hm (fun _ _ _ e => by cases e)
      have hchk := fun b => plainKey_check (P := P) (w := w) hkt hpl b key
      split at hr
      · rename_i i v hf
        cases hr
        obtain ⟨v', e, q1, q2, _⟩ := findA_rel kind key es es'.toList 0 _ he hf
        have hfind := run_findKey (P := P) (w := w) hkt q1
        cases ok with
        | true =>
          refine ⟨.tuple #[v', .bool true], ?_, ?_⟩
          · simp only [execOp, ex, hvk, Instr.lookup, Sem.run_bind, run_underlying hu, Result.andThen_ok, hobj, Sem.run_pure, hchk, hfind]; rfl
          · simp only [VRel, VRels, cond_true]; exact ⟨_, rfl, v', [.bool true], rfl, q2, _, [], rfl, rfl, rfl⟩
        | false =>
          refine ⟨v', ?_, q2⟩
          simp only [execOp, ex, hvk, Instr.lookup, Sem.run_bind, run_underlying hu, Result.andThen_ok, hobj, Sem.run_pure, hchk, hfind]; rfl
      · rename_i hf
        obtain ⟨i, hi, hr⟩ := opt_bind hr
        obtain ⟨z, hz, hr⟩ := opt_bind hr
        cases hr
        have q1 := findA_rel kind key es es'.toList 0 _ he hf
        have hfind := run_findKey (P := P) (w := w) hkt q1
        cases ok with
        | true =>
          refine ⟨.tuple #[z, .bool false], ?_, ?_⟩
          · simp only [execOp, ex, hvk, Instr.lookup, zeroValue, typeInfo, Sem.run_bind, run_underlying hu, Result.andThen_ok, hobj, Sem.run_pure, hchk, hfind, run_program, hi, hz]; rfl
          · simp only [VRel, VRels, cond_true]; exact ⟨_, rfl, z, [.bool false], rfl, rfl, _, [], rfl, rfl, rfl⟩
        | false =>
          refine ⟨z, ?_, vrel_lit.2 rfl⟩
          simp only [execOp, ex, hvk, Instr.lookup, zeroValue, typeInfo, Sem.run_bind, run_underlying hu, Result.andThen_ok, hobj, Sem.run_pure, hchk, hfind, run_program, hi, hz]; rfl
      · cases hr
    · cases hr
  · cases hr
end
end Go.Proofs.YtbhlagidmifijaaGreatDoor.AX
