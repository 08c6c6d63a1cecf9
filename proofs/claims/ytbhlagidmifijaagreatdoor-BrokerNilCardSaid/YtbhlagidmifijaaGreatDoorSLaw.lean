/-
  The law's call: whatever it is handed, it hands back true, and of what was there nothing has turned.
-/
import Derived.Test.YtbhlagidmifijaaGreatDoorXA17
import Derived.Test.YtbhlagidmifijaaGreatDoorSRun
import Derived.Test.YtbhlagidmifijaaGreatDoorSUsed
import Derived.Test.YtbhlagidmifijaaGreatDoorSSorted
namespace Go.Proofs.YtbhlagidmifijaaGreatDoor
open Go.Proofs.YtbhlagidmifijaaGreatDoor.AX Go.RowKit

theorem no_count : noCount Tryz.prog := by
  have h : (Tryz.prog.funcs.toList.all fun f => f.name != "runtime.NumGoroutine") = true := by kernel_rfl
  intro g fn hf
  have := List.all_eq_true.1 h fn (by
    rw [← Array.getElem?_toList] at hf
    exact List.mem_of_getElem? hf)
  simpa using this

theorem ext_idxS : IsExt Tryz.prog 532 Extern.BytealgIndexByte.indexByte := ⟨Tryz.f532, Tryz.func532, by kernel_rfl, by kernel_rfl, by kernel_rfl, by kernel_rfl⟩
theorem ext_idxB : IsExt Tryz.prog 519 Extern.BytealgIndexByte.indexByte := ⟨Tryz.f519, Tryz.func519, by kernel_rfl, by kernel_rfl, by kernel_rfl, by kernel_rfl⟩
theorem ext_mclone : IsExt Tryz.prog 50 Extern.MapsClone.clone := ⟨Tryz.f50, Tryz.func50, by kernel_rfl, by kernel_rfl, by kernel_rfl, by kernel_rfl⟩

theorem at_num {g n : Nat} (h : Nat.beq g n = true) : g = n := Nat.eq_of_beq_eq_true h

theorem intr_ok : ∀ (g : FuncId) (f : List AV → AW → Option (AV × AW)) (args : List AV) (A : AW) (v : AV) (A' : AW), intr g = some f → f args A = some (v, A') → CallsTo Tryz.prog g args A v A' := by
  intro g f args A v A' hg h
  unfold intr at hg
  rcases cond_some hg with ⟨hb, hg⟩ | ⟨_, hg⟩
  · cases hg; rw [at_num hb]; exact iUsed_ok no_count Tryz.func442 rfl used_ok h
  rcases cond_some hg with ⟨hb, hg⟩ | ⟨_, hg⟩
  · cases hg; rw [at_num hb]; exact iKeys_ok no_count Tryz.func124 rfl keys_ok h
  rcases cond_some hg with ⟨hb, hg⟩ | ⟨_, hg⟩
  · cases hg; rw [at_num hb]; exact iSortedS_ok no_count Tryz.func123 rfl (fun k hk => by rw [at_num hk]; exact sorted_ok) h
  rcases cond_some hg with ⟨hb, hg⟩ | ⟨_, hg⟩
  · cases hg; rw [at_num hb]; exact indexByte_ok ext_idxS h
  rcases cond_some hg with ⟨hb, hg⟩ | ⟨_, hg⟩
  · cases hg; rw [at_num hb]; exact indexByte_ok ext_idxB h
  rcases cond_some hg with ⟨hb, hg⟩ | ⟨_, hg⟩
  · cases hg; rw [at_num hb]; exact mapsClone_ok ext_mclone h
  cases hg

theorem law_calls (a b c d k : Int) (p q : Option Addr) (m m' n n' : Nat) (W : World) :
    Calls Tryz.prog 3 #[.agg #[.int .i64 a, .int .i64 b, .slice p m m', .int .i64 c, .int .i64 d, .slice q n n'], .int .i64 k] W fun e w' => e = .returned (.bool true) ∧ Kept W w' :=
  calls_of_run (vs := [.agg #[.int .i64 a, .int .i64 b, .slice p m m', .int .i64 c, .int .i64 d, .slice q n n'], .int .i64 k]) no_count (by kernel_rfl) intr_ok Tryz.func3 rfl (run_law a b c d k p q m m' n n') W (fun b => T.get_nil b) (fun g cs h => by cases h) (by
    simp only [vrels_cons, vrels_nil]
    refine ⟨_, _, rfl, ?_, _, _, rfl, vrel_lit.2 rfl, rfl⟩
    simp only [VRel, vrels_cons, vrels_nil]
    exact ⟨_, rfl, _, _, rfl, rfl, _, _, rfl, rfl, _, _, rfl, rfl, _, _, rfl, rfl, _, _, rfl, rfl, _, _, rfl, rfl, rfl⟩)
end Go.Proofs.YtbhlagidmifijaaGreatDoor
