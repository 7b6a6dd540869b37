/- Contracts of utf8.ValidString, ref.name, ref.Right at the two sheets' names. No condition. -/
import Derived.Test.YthkjmplcmfabfaaGreatDoorSpSmall
import Derived.LoopN
import Derived.Laws.RangeString
namespace Go.Proofs.YthkjmplcmfabfaaGreatDoor
open Go.RowKit Go.Lib

abbrev nameS : ByteArray := ⟨#[83]⟩
abbrev nameT : ByteArray := ⟨#[84]⟩
def IsName (s : ByteArray) : Prop := s = nameS ∨ s = nameT

set_option maxRecDepth 20000 in
set_option maxHeartbeats 1000000 in
theorem valid_name (s : ByteArray) (hs : IsName s) (w : World) : Calls Tryz.prog 92 #[.string s] w fun e w' => e = .returned (.bool true) ∧ w = w' := by
  rcases hs with rfl | rfl
  all_goals
    go_enter Tryz.func92, Tryz.ntmps92
    go_wp2_with fail
    refine wp_loop_rounds 2 ?_
    rw [rounds_succ]
    go_wp2_with fail
    rw [rounds_succ]
    go_wp2_with fail
    go_ret
    exact ⟨rfl, rfl⟩

set_option maxRecDepth 20000 in
set_option maxHeartbeats 1000000 in
theorem name_any (s : ByteArray) (hs : IsName s) (w : World) : Calls Tryz.prog 72 #[.string s] w fun e w' => e = .returned (.bool true) ∧ Below w.heap.size w w' := by
  have HV := hid (fun w => valid_name s hs w)
  rcases hs with rfl | rfl
  · have h1 := fun ty => run_next_ascii (P := Tryz.prog) w nameS 0 ty (by decide) (by decide)
    have h2 := fun ty => run_next_end (P := Tryz.prog) w nameS 1 ty (by decide)
    go_enter Tryz.func72, Tryz.ntmps72
    go_wp2_with fail
    refine wp_loop_rounds 2 ?_
    rw [rounds_succ]
    go_wp2_with fail
    rw [rounds_succ]
    go_wp2_with fail
    refine (HV.out _).mono ?_
    rintro e w1 ⟨rfl, rfl⟩
    go_wp2_with fail
    go_ret
    exact ⟨rfl, (Below.refl _ w).alloc (Nat.le_refl _) _⟩
  · have h1 := fun ty => run_next_ascii (P := Tryz.prog) w nameT 0 ty (by decide) (by decide)
    have h2 := fun ty => run_next_end (P := Tryz.prog) w nameT 1 ty (by decide)
    go_enter Tryz.func72, Tryz.ntmps72
    go_wp2_with fail
    refine wp_loop_rounds 2 ?_
    rw [rounds_succ]
    go_wp2_with fail
    rw [rounds_succ]
    go_wp2_with fail
    refine (HV.out _).mono ?_
    rintro e w1 ⟨rfl, rfl⟩
    go_wp2_with fail
    go_ret
    exact ⟨rfl, (Below.refl _ w).alloc (Nat.le_refl _) _⟩

set_option maxHeartbeats 1000000 in
theorem Right_any (s : ByteArray) (hs : IsName s) (w : World) : Calls Tryz.prog 50 #[.agg #[.string s, .int .i64 0, .int .i64 0, .bool false, .bool false, .bool false]] w fun e w' => e = .returned (.bool true) ∧ Below w.heap.size w w' := by
  have HV := hid (fun w => name_any s hs w)
  rcases hs with rfl | rfl
  all_goals
    go_enter Tryz.func50, Tryz.ntmps50
    go_wp2_with fail
    refine (HV.out _).mono ?_
    rintro e w1 ⟨rfl, b1⟩
    have c1 := (b1.cell (p := ⟨w.heap.size, 1, none⟩) (by simp)).trans (cell_of (heap_alloc_new w _) rfl)
    have c2 := (b1.cell (p := ⟨w.heap.size, 2, none⟩) (by simp)).trans (cell_of (heap_alloc_new w _) rfl)
    go_wp2_with fail
    go_ret
    exact ⟨rfl, ((Below.refl _ w).alloc (Nat.le_refl _) _).trans (b1.mono (by simp))⟩
end Go.Proofs.YthkjmplcmfabfaaGreatDoor
