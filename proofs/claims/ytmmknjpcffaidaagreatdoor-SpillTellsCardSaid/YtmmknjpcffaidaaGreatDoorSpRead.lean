/- Contracts of dec.Read, val.Read, book.input at the text "1". No condition. -/
import Derived.Test.YtmmknjpcffaidaaGreatDoorSpLay
import Derived.OwnWalk
import Derived.Shelf.Strings.Search1
namespace Go.Proofs.YtmmknjpcffaidaaGreatDoor
open Go.RowKit Go.Lib

abbrev text1 : ByteArray := ⟨#[49]⟩

set_option maxRecDepth 100000 in
set_option maxHeartbeats 1000000 in
theorem indexByte_one (w : World) : Calls Tryz.prog 288 #[.string text1, .int .u8 46] w fun e w' => e = .returned (.int .i64 (-1)) ∧ w = w' := by
  go_enter Tryz.func288, Tryz.ntmps288
  go_wp2
  rw [run_callFunc_extern Tryz.func339 (by kernel_rfl) (by kernel_rfl) (by kernel_rfl) (e := Extern.BytealgIndexByte.indexByte) (by kernel_rfl), Lib.run_indexByteString]
  simp only [Result.andThen]
  rw [Oper.upon_value]
  go_wp2
  go_ret
  exact ⟨rfl, rfl⟩

set_option maxRecDepth 100000 in
set_option maxHeartbeats 1000000 in
theorem index_one (w : World) : Calls Tryz.prog 235 #[.string text1, .string ⟨#[46]⟩] w fun e w' => e = .returned (.int .i64 (-1)) ∧ w = w' := by
  go_enter Tryz.func235, Tryz.ntmps235
  go_wp2_with fail
  refine (indexByte_one _).mono ?_
  rintro e w1 ⟨rfl, rfl⟩
  go_wp2_with fail
  go_ret
  exact ⟨rfl, rfl⟩

set_option maxHeartbeats 400000 in
theorem slCut_one (w : World) : Calls Tryz.prog 188 #[.string text1, .string ⟨#[46]⟩] w fun e w' => e = .returned (.tuple #[.string text1, .string ⟨#[]⟩, .bool false]) ∧ w = w' := by
  go_enter Tryz.func188, Tryz.ntmps188
  go_wp2_with fail
  refine (index_one _).mono ?_
  rintro e w1 ⟨rfl, rfl⟩
  go_wp2_with fail
  go_ret3
  exact ⟨rfl, rfl⟩

set_option maxHeartbeats 400000 in
theorem cut_dot (w : World) : Calls Tryz.prog 136 #[.string text1, .string ⟨#[46]⟩] w fun e w' => e = .returned (.tuple #[.string text1, .string ⟨#[]⟩, .bool false]) ∧ w = w' := by
  go_enter Tryz.func136, Tryz.ntmps136
  go_wp2_with fail
  refine (slCut_one _).mono ?_
  rintro e w1 ⟨rfl, rfl⟩
  go_wp2_with fail
  go_ret3
  exact ⟨rfl, rfl⟩

set_option maxHeartbeats 400000 in
theorem cutPrefix_one (w : World) : Calls Tryz.prog 92 #[.string text1, .string ⟨#[45]⟩] w fun e w' => e = .returned (.tuple #[.string text1, .bool false]) ∧ w = w' := by
  have h : ((text1.extract 0 1).toList == [45]) = false := by kernel_rfl
  go_enter Tryz.func92, Tryz.ntmps92
  go_wp2
  go_ret2
  exact ⟨rfl, rfl⟩
end Go.Proofs.YtmmknjpcffaidaaGreatDoor
