/- Contracts of val.number, val.Read, book.input at the text "1". No condition. -/
import Derived.Test.YthkjmplcmfabfaaGreatDoorSpInput
namespace Go.Proofs.YthkjmplcmfabfaaGreatDoor
open Go.RowKit Go.Lib

abbrev valL (m n : Int) : List Value := [.int .i64 1, .int .i64 m, .int .i64 n, .string ⟨#[]⟩, .bool false, .int .i64 0, .int .i64 0, .int .i64 0, .slice none 0 0, .int .i64 0, .slice none 0 0, .slice none 0 0]
theorem val_one : (valL 1 0).toArray.all (·.oneCell') = true := by kernel_rfl
set_option maxHeartbeats 400000 in
theorem valNumber_any (m n : Int) (w : World) : Calls Tryz.prog 60 #[.agg #[.int .i64 m, .int .i64 n]] w fun e w' => e = .returned (.agg (valL m n).toArray) ∧ Below w.heap.size w w' := by
  go_enter Tryz.func60, Tryz.ntmps60
  go_wp2_with fail
  refine bodyPost_ret (v := .agg (valL m n).toArray) (by simp [results, Tryz.results60, go_sem, *]) rfl ?_
  exact ⟨rfl, ((Below.refl _ w).alloc (Nat.le_refl _) _).alloc (by simp) _⟩

set_option maxRecDepth 100000 in
set_option maxHeartbeats 1000000 in
theorem valRead_one (w : World) : Calls Tryz.prog 38 #[.string text1] w fun e w' => e = .returned (.tuple #[.agg (valL 1 0).toArray, .int .i64 0]) ∧ Below w.heap.size w w' := by
  go_enter Tryz.func38, Tryz.ntmps38
  go_wp2_with fail
  refine (decRead_one _).mono ?_
  rintro e w1 ⟨rfl, b1⟩
  have h1 := (b1.block w.heap.size (by simp)).trans (heap_alloc_new w _)
  have B1 : Below w.heap.size w w1 := ((Below.refl _ w).alloc (Nat.le_refl _) _).trans (b1.mono (by simp))
  have hs := heap_lt h1
  have H1 := hid (show _ ∧ _ from ⟨h1, B1⟩)
  clear h1 B1 b1
  go_wp2_with fail
  refine (valNumber_any 1 0 _).mono ?_
  rintro e w2 ⟨rfl, b2⟩
  have h2 := (b2.block w.heap.size (by simp; omega)).trans (heap_alloc_keep H1.out.1 _)
  have B2 : Below w.heap.size w w2 := (H1.out.2.alloc (Nat.le_of_lt hs) _).trans (b2.mono (by simp; omega))
  have H2 := hid (show _ ∧ _ from ⟨h2, B2⟩)
  clear h2 B2 b2 H1
  go_wp2_with (refine wpList_store_row rfl 100 _ _ rfl w.heap.size (valL 1 0).toArray rfl rfl 100 _ H2.out.1 (by kernel_rfl) (by rfl) val_one ?_)
  refine bodyPost_ret (v := .tuple #[.agg (valL 1 0).toArray, .int .i64 0]) (results_row_tmp rfl _ _ w.heap.size _ _ rfl rfl (run_loadVar_row _ w.heap.size 100 100 (valL 1 0).toArray (0, 0) _ (heap_setRow_at H2.out.1) Tryz.underlying100 rfl (by kernel_rfl))) rfl ?_
  exact ⟨rfl, ((Chg.of_below H2.out.2).setRow (F := []) (.inr (Nat.le_refl _)) _).nil_below⟩

set_option maxHeartbeats 1000000 in
theorem input_one (w : World) : Calls Tryz.prog 22 #[.string text1] w fun e w' => e = .returned (.bool true) ∧ Below w.heap.size w w' := by
  go_enter Tryz.func22, Tryz.ntmps22
  go_wp2_with fail
  refine (valRead_one _).mono ?_
  rintro e w1 ⟨rfl, b1⟩
  have B1 := hid b1
  clear b1
  go_wp2_with fail
  go_ret
  exact ⟨rfl, B1.out.alloc B1.out.size _⟩
end Go.Proofs.YthkjmplcmfabfaaGreatDoor
