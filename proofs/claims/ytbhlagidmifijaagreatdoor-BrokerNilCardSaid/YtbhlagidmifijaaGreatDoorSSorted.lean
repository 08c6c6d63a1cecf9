/-
  'maps.Keys' and 'slices.Sorted' at the map of a disk's files: the calls' contracts, off the kit's contracts over any program.
-/
import Derived.Test.YtbhlagidmifijaaGreatDoorXA16
import Derived.Test.YtbhlagidmifijaaGreatDoorIterP
namespace Go.Proofs.YtbhlagidmifijaaGreatDoor
open Go.Proofs.YtbhlagidmifijaaGreatDoor.AX Go.RowKit Go.Maps Go.Sort Go.Shelf Go.Proofs
open Go.WideElems (Fit)

theorem keys_ok : KeysOK Tryz.prog 124 205 :=
  ⟨67, fun mb w => (callsIn_wide (n := 5)).1 (AnyZ.keys_in Tryz.keys124 Fence.wide 5 trivial rfl mb w)⟩

theorem sorts_ok (m : Nat) : AnyZ.SortsIn Tryz.prog Tryz.sorted123_ren Fence.wide m :=
  ⟨fun blk off cap ss W hH hblk hsz => callsIn_wide.2 (AnyM.slices_Sort_string Tryz.sort204 blk off cap ss W hH hblk hsz),
   fun p cap W => callsIn_wide.2 (AnyM.slices_Sort_string_none Tryz.sort204 p cap W)⟩

theorem map_twice {α β γ : Type} (f : α → β) (g : β → γ) (l : List α) (ks : List γ) (h : l.map (fun x => g (f x)) = ks) : (l.map f).map g = ks := by rw [List.map_map]; exact h

def anyR : Value → Option (DataW Unit × List MemPlace) := fun _ => some (.lit (.bool true), [])

set_option maxHeartbeats 1000000 in
theorem sorted_ok : SortedOK Tryz.prog 123 205 := by
  intro c m es clock w ks hcell hm hkeys hst hlen hnum
  have hread : ∀ (l : List MapEntry) (ks : List (List UInt8)), l.map (·.key) = ks.map encStr → (∀ k ∈ ks, k.length ≤ 2 ^ 40) → (∀ x ∈ l, ∃ y, Go.WideElems.rd Tryz.prog 9 anyR x = some y) ∧ l.map (fun x => strOf (Go.WideElems.rg Tryz.prog 9 anyR x).1) = ks := by
    intro l
    induction l with
    | nil => intro ks h _; cases ks with | nil => exact ⟨(fun _ h => by cases h), rfl⟩ | cons _ _ => cases h
    | cons x l ih =>
      intro ks h hl
      cases ks with
      | nil => cases h
      | cons k ks =>
        simp only [List.map_cons, List.cons.injEq] at h
        obtain ⟨i1, i2⟩ := ih ks h.2 fun y hy => hl y (by simp [hy])
        have hk : keyOf Tryz.prog 9 x.key = some (.string k) := by
          rw [h.1]
          have hle : (⟨k.toArray⟩ : ByteArray).size ≤ maxLen := by
            have := hl k (by simp)
            unfold maxLen
            simp [ByteArray.size]
            omega
          simp only [keyOf, Tryz.underlying9, mapKey, encStr, hle, if_true]
        have hrd : Go.WideElems.rd Tryz.prog 9 anyR x = some (.string k, .lit (.bool true)) := by
          simp only [Go.WideElems.rd, hk, anyR, Option.bind_some, Option.map_some]
        refine ⟨?_, ?_⟩
        · intro y hy
          rcases List.mem_cons.1 hy with rfl | hy
          · exact ⟨_, hrd⟩
          · exact i1 y hy
        · rw [List.map_cons, i2]
          simp only [Go.WideElems.rg, hrd, Option.getD_some, strOf]
  obtain ⟨h1, h2⟩ := hread es.toList ks hkeys hlen
  have hsize : es.size = ks.length := by
    have := congrArg List.length hkeys
    simpa using this
  have hF : Fit Tryz.prog 9 anyR es clock := ⟨by unfold maxLen; omega, hst, h1⟩
  obtain ⟨L, hL⟩ : ∃ L, L = (es.toList.map (Go.WideElems.rg Tryz.prog 9 anyR)).foldr DataW.insert [] := ⟨_, rfl⟩
  have hown : w.ownsMap Tryz.prog 9 anyR m es.size (.map L) := ⟨es, clock, hm, hF, Nat.le_refl _, by rw [hL]⟩
  have hD : (strKeys (DataW.map L)).Perm ks := by
    show (L.map fun p => strOf p.1).Perm ks
    have h3 : ((es.toList.map (Go.WideElems.rg Tryz.prog 9 anyR)).map fun p => strOf p.1) = ks := map_twice (Go.WideElems.rg Tryz.prog 9 anyR) (fun p => strOf p.1) _ _ h2
    have h4 := (WideShapes.sorted_perm (es.toList.map (Go.WideElems.rg Tryz.prog 9 anyR))).map fun p => strOf p.1
    rw [h3, ← hL] at h4
    exact h4
  have hsz : Maps.size (DataW.map L) = ks.length := by
    show L.length = _
    rw [hL, length_sorted, List.length_map, ← hsize]
    simp
  have hcl : c < w.heap.size := by
    rcases Nat.lt_or_ge c w.heap.size with h | h
    · exact h
    · simp [World.cell?, Array.getElem?_eq_none h] at hcell
  have hseq : SeqGives Fence.wide 2 Tryz.prog 205 #[.pointer (some ⟨c, 0, none⟩)] encStr (fun ss => ss.Perm (strKeys (DataW.map L))) (Maps.size (DataW.map L)) w :=
    AnyZ.keys_gives (ρ := Tryz.keys124_ren) { Tryz.keys124 with } Fence.wide _ trivial rfl (by omega) c m es.size _ w hcl hcell hown
  have cS := AnyZ.sorted_in Tryz.sorted123 Fence.wide 5 trivial trivial trivial trivial rfl (by omega) (sorts_ok _) (enters_of Tryz.func204 (by kernel_rfl) rfl) 205 #[.pointer (some ⟨c, 0, none⟩)] trivial (enters_of Tryz.func205 (by kernel_rfl) rfl) _ _ (by rw [hsz]; unfold maxLen; omega) (by rw [hsz]; omega) _ hseq
  change CallsIn _ _ Tryz.prog 123 _ _ _ at cS
  refine ((callsIn_wide (n := 5)).1 cS).mono ?_
  rintro e w' ⟨v, ss, rfl, hS, hrow, hnil, hb⟩
  have hp := hS.trans hD
  rw [mergeSort_of_perm hp, hp.length_eq] at hrow
  refine ⟨v, 9, rfl, hrow, ?_, hb⟩
  rw [hnil]
  constructor
  · rintro rfl; exact (List.nil_perm.1 hp)
  · rintro rfl; exact (List.perm_nil.1 hp)
end Go.Proofs.YtbhlagidmifijaaGreatDoor
