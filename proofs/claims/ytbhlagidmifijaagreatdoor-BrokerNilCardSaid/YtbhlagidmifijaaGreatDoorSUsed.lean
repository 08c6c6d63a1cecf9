/-
  The disk's files' bytes, summed: the range over a map of files, in whatever order: the call's contract.
-/
import Derived.Test.YtbhlagidmifijaaGreatDoorXA15
import Derived.Test.YtbhlagidmifijaaGreatDoorProg
import Derived.Laws.IdiomRangeMap
import Derived.LoopTactic
import Derived.LoopN
import Derived.Tactics
import Derived.Tactics2
import Derived.StillTactics
namespace Go.Proofs.YtbhlagidmifijaaGreatDoor
open Go.Proofs.YtbhlagidmifijaaGreatDoor.AX Go.RowKit

/-- The sum over the entries that were met. -/
def seenF (f : MapEntry → Int) : List MapEntry → Array Nat → Int
  | [], _ => 0
  | e :: es, seen => (if seen.contains e.born then f e else 0) + seenF f es seen

theorem seenF_other (f : MapEntry → Int) (seen : Array Nat) (b : Nat) : ∀ (es : List MapEntry), b ∉ es.map (·.born) → seenF f es (seen.push b) = seenF f es seen
  | [], _ => rfl
  | e :: es, h => by
    simp only [List.map_cons, List.mem_cons, not_or] at h
    have hc : (seen.push b).contains e.born = seen.contains e.born := by
      rw [Bool.eq_iff_iff]
      simp only [Array.contains_iff_mem, Array.mem_push]
      constructor
      · rintro (h1 | h1)
        · exact h1
        · exact absurd h1.symm h.1
      · exact .inl
    simp only [seenF, hc, seenF_other f seen b es h.2]

theorem seenF_push (f : MapEntry → Int) (seen : Array Nat) (e : MapEntry) (hs : seen.contains e.born = false) : ∀ (es : List MapEntry), (es.map (·.born)).Nodup → e ∈ es → seenF f es (seen.push e.born) = seenF f es seen + f e
  | [], _, h => by cases h
  | x :: es, hn, h => by
    simp only [List.map_cons, List.nodup_cons] at hn
    rcases List.mem_cons.1 h with rfl | h
    · have hc : (seen.push e.born).contains e.born = true := by simp
      simp only [seenF, hc, hs, if_true, Bool.false_eq_true, if_false, seenF_other f seen e.born es hn.1]
      omega
    · have hne : e.born ≠ x.born := fun q => hn.1 (by rw [← q]; exact List.mem_map.2 ⟨e, h, rfl⟩)
      have hc : (seen.push e.born).contains x.born = seen.contains x.born := by
        rw [Bool.eq_iff_iff]
        simp only [Array.contains_iff_mem, Array.mem_push]
        constructor
        · rintro (h1 | h1)
          · exact h1
          · exact absurd h1.symm hne
        · exact .inl
      simp only [seenF, hc, seenF_push f seen e hs es hn.2 h]
      omega

theorem seenF_none (f : MapEntry → Int) : ∀ (es : List MapEntry), seenF f es #[] = 0
  | [] => rfl
  | e :: es => by simp [seenF, seenF_none f es]

theorem seenF_all (f : MapEntry → Int) (es : Array MapEntry) (seen : Array Nat) (h : (leftOf es seen).size = 0) : seenF f es.toList seen = (es.toList.map f).sum := by
  have hall : ∀ x ∈ es.toList, seen.contains x.born = true := by
    intro x hx
    cases hc : seen.contains x.born with
    | true => rfl
    | false =>
      have : x ∈ (leftOf es seen).toList := by
        unfold leftOf
        rw [Array.toList_filter]
        exact List.mem_filter.2 ⟨hx, by rw [hc]; rfl⟩
      have h2 : (leftOf es seen).toList = [] := List.eq_nil_of_length_eq_zero (by simpa using h)
      rw [h2] at this
      cases this
  have key : ∀ l : List MapEntry, (∀ x ∈ l, seen.contains x.born = true) → seenF f l seen = (l.map f).sum := by
    intro l
    induction l with
    | nil => intro _; rfl
    | cons x l ih =>
      intro h
      simp only [seenF, h x (by simp), if_true, List.map_cons, List.sum_cons, ih fun y hy => h y (by simp [hy])]
  exact key _ hall

set_option maxRecDepth 1000000 in
theorem used_walk (dc ds m : Nat) (es : Array MapEntry) (clock : Nat) (w : World) (len : MapEntry → Nat) (hd : w.cell? ⟨dc, ds + 1, none⟩ = some (.map (some m)))
    (hb : w.heap[m]? = some (.map es clock)) (h1 : ∀ x ∈ es.toList, x.born < clock) (h2 : (es.toList.map (·.born)).Nodup)
    (hv : ∀ x ∈ es.toList, ∃ fb fo a c, x.val = .pointer (some ⟨fb, fo, none⟩) ∧ w.cell? ⟨fb, fo, none⟩ = some (.slice a (len x) c)) :
    Calls Tryz.prog 442 #[.pointer (some ⟨dc, ds, none⟩)] w fun e w' => e = .returned (.int .i64 (wrap64 ((es.toList.map fun x => (len x : Int)).sum))) ∧
      ∃ (w1 : World) (seen : Array Nat), w1.Alike w ∧ w' = w1.alloc (.mapIter (some m) clock seen clock) := by
  have hrg := run_range_map (P := Tryz.prog) w 67 9 75 m es clock Tryz.underlying67 hb
  go_enter Tryz.func442, Tryz.ntmps442
  go_wp2
  go_loopw [3] (fun s w' => ∃ (w1 : World) (seen : Array Nat), w1.Alike w ∧ w' = w1.alloc (.mapIter (some m) clock seen clock) ∧ s = .int .i64 (wrap64 (seenF (fun x => (len x : Int)) es.toList seen))) (fun _ w' => (leftOf es (w'.iterSeen w.heap.size)).size)
  case atStart => exact ⟨w, #[], ⟨rfl, rfl, rfl⟩, rfl, by rw [seenF_none]; simp [wrap64]⟩
  case round =>
    obtain ⟨w1, seen, hal, rfl, rfl⟩ := hrel
    have hsz : w1.heap.size = w.heap.size := by rw [hal.1]
    have hb1 : w1.heap[m]? = some (.map es clock) := by rw [hal.1]; exact hb
    have law := run_next_map (P := Tryz.prog) w1 0 m clock clock seen es clock hb1 h1 (Nat.le_refl _)
    rw [hsz] at law
    rcases law with ⟨h0, hrun⟩ | ⟨e, he, w2, hal2, hrun⟩
    · have hnx : ∀ ty, (Instr.next (.pointer (some ⟨w.heap.size, 0, none⟩)) false ty).run Tryz.prog (w1.alloc (.mapIter (some m) clock seen clock)) = _ := fun _ => hrun
      go_wp2
      go_ret
      rw [seenF_all _ es seen h0]
      exact ⟨rfl, w1, seen, hal, rfl⟩
    · obtain ⟨fb, fo, a, c, hval, hcell⟩ := hv e (mem_left he).1
      rw [hval] at hrun
      have hnx : ∀ ty, (Instr.next (.pointer (some ⟨w.heap.size, 0, none⟩)) false ty).run Tryz.prog (w1.alloc (.mapIter (some m) clock seen clock)) = _ := fun _ => hrun
      have hsz2 : w2.heap.size = w.heap.size := by rw [hal2.1, hal.1]
      have hb2 : w2.heap[m]? = some (.map es clock) := by rw [hal2.1]; exact hb1
      have hen := run_entry_map (P := Tryz.prog) w2 m clock seen es clock e hb2 (mem_left he).1 h2
      rw [hsz2, hval] at hen
      have hlt : fb < w2.heap.size := by
        rw [hsz2]
        rcases Nat.lt_or_ge fb w.heap.size with h | h
        · exact h
        · simp [World.cell?, Array.getElem?_eq_none h] at hcell
      have hcl : (w2.alloc (.mapIter (some m) clock (seen.push e.born) clock)).cell? ⟨fb, fo, none⟩ = some (.slice a (len e) c) := by
        rw [World.cell?_of_block (w := w2) (heap_alloc_old w2 _ hlt), World.cell?_of_block (w := w) (by rw [hal2.1, hal.1])]
        exact hcell
      go_wp2
      go_roundw
      case rel =>
        refine ⟨w2, seen.push e.born, ⟨hal2.1.trans hal.1, hal2.2.1.trans hal.2.1, hal2.2.2.trans hal.2.2⟩, rfl, ?_⟩
        rw [seenF_push _ seen e (mem_left he).2 es.toList h2 (mem_left he).1]
        have e3 : ∀ x v : Int, wrap64 (wrap64 x + v) = wrap64 (x + v) := fun x v => by
          simp only [wrap64]
          omega
        rw [e3]
      case measure =>
        rw [← hsz2, World.iterSeen_alloc, hsz2, ← hsz, World.iterSeen_alloc]
        exact left_shrinks es seen e he
theorem used_ok : UsedOK Tryz.prog 442 := used_walk
end Go.Proofs.YtbhlagidmifijaaGreatDoor
