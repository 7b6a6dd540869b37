/- Contracts of dec.Read, val.Read, book.input at the text "1". No condition. -/
import Derived.Test.YthkjmplcmfabfaaGreatDoorSpLay
import Derived.OwnWalk
import Derived.Shelf.Strings.Search1
namespace Go.Proofs.YthkjmplcmfabfaaGreatDoor
open Go.RowKit Go.Lib

abbrev text1 : ByteArray := ⟨#[49]⟩

set_option maxRecDepth 100000 in
set_option maxHeartbeats 1000000 in
theorem indexByte_one (w : World) : Calls Tryz.prog 211 #[.string text1, .int .u8 46] w fun e w' => e = .returned (.int .i64 (-1)) ∧ w = w' := by
  go_enter Tryz.func211, Tryz.ntmps211
  go_wp2
  rw [run_callFunc_extern Tryz.func247 (by kernel_rfl) (by kernel_rfl) (by kernel_rfl) (e := Extern.BytealgIndexByte.indexByte) (by kernel_rfl), Lib.run_indexByteString]
  simp only [Result.andThen]
  rw [Oper.upon_value]
  go_wp2
  go_ret
  exact ⟨rfl, rfl⟩

set_option maxRecDepth 100000 in
set_option maxHeartbeats 1000000 in
theorem index_one (w : World) : Calls Tryz.prog 169 #[.string text1, .string ⟨#[46]⟩] w fun e w' => e = .returned (.int .i64 (-1)) ∧ w = w' := by
  go_enter Tryz.func169, Tryz.ntmps169
  go_wp2_with fail
  refine (indexByte_one _).mono ?_
  rintro e w1 ⟨rfl, rfl⟩
  go_wp2_with fail
  go_ret
  exact ⟨rfl, rfl⟩

set_option maxHeartbeats 400000 in
theorem slCut_one (w : World) : Calls Tryz.prog 119 #[.string text1, .string ⟨#[46]⟩] w fun e w' => e = .returned (.tuple #[.string text1, .string ⟨#[]⟩, .bool false]) ∧ w = w' := by
  go_enter Tryz.func119, Tryz.ntmps119
  go_wp2_with fail
  refine (index_one _).mono ?_
  rintro e w1 ⟨rfl, rfl⟩
  go_wp2_with fail
  go_ret3
  exact ⟨rfl, rfl⟩

set_option maxHeartbeats 400000 in
theorem cut_dot (w : World) : Calls Tryz.prog 86 #[.string text1, .string ⟨#[46]⟩] w fun e w' => e = .returned (.tuple #[.string text1, .string ⟨#[]⟩, .bool false]) ∧ w = w' := by
  go_enter Tryz.func86, Tryz.ntmps86
  go_wp2_with fail
  refine (slCut_one _).mono ?_
  rintro e w1 ⟨rfl, rfl⟩
  go_wp2_with fail
  go_ret3
  exact ⟨rfl, rfl⟩

set_option maxHeartbeats 400000 in
theorem cutPrefix_one (w : World) : Calls Tryz.prog 57 #[.string text1, .string ⟨#[45]⟩] w fun e w' => e = .returned (.tuple #[.string text1, .bool false]) ∧ w = w' := by
  have h : ((text1.extract 0 1).toList == [45]) = false := by kernel_rfl
  go_enter Tryz.func57, Tryz.ntmps57
  go_wp2
  go_ret2
  exact ⟨rfl, rfl⟩
end Go.Proofs.YthkjmplcmfabfaaGreatDoor
