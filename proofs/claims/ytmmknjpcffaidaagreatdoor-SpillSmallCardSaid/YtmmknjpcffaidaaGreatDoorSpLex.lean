/- Contract of lex.Tokens at the text "1". No condition. -/
import Derived.Test.YtmmknjpcffaidaaGreatDoorSpFigures
import Derived.Test.YtmmknjpcffaidaaGreatDoorSpName
namespace Go.Proofs.YtmmknjpcffaidaaGreatDoor
open Go.RowKit Go.Lib

/-- a reader of the text "1" -/
def LexAt (w : World) (r : Nat) (a : Int) : Prop := w.heap[r]? = some (.cells #[.string text1, .int .i64 a] 229 (0, 0))
theorem text1_all : text1.extract 0 1 = text1 := rfl
set_option maxHeartbeats 400000 in
theorem lexDigit_one (w : World) : Calls Tryz.prog 224 #[.int .i32 49] w fun e w' => e = .returned (.bool true) ∧ w = w' := by
  go_enter Tryz.func224, Tryz.ntmps224
  go_wp2
  go_ret
  exact ⟨rfl, rfl⟩
set_option maxHeartbeats 400000 in
theorem lexRest_one {w : World} {r : Nat} (h : LexAt w r 0) : Calls Tryz.prog 267 #[.pointer (some ⟨r, 0, none⟩)] w fun e w' => e = .returned (.string text1) ∧ Below w.heap.size w w' := by
  have c0 := cell_of (i := 0) h rfl
  have c1 := cell_of (i := 1) h rfl
  clear h
  go_enter Tryz.func267, Tryz.ntmps267
  go_wp2_with fail
  go_quiet (fail)
  go_wp2_with fail
  go_ret
  exact ⟨rfl, below_drewN (Below.refl _ w) _⟩
set_option maxRecDepth 20000 in
set_option maxHeartbeats 1000000 in
theorem while_one (w : World) : Calls Tryz.prog 270 #[.string text1, .func (.func 224) #[] #[]] w fun e w' => e = .returned (.string text1) ∧ Below w.heap.size w w' := by
  have h1 := fun ty => run_next_ascii (P := Tryz.prog) w text1 0 ty (by decide) (by decide)
  have h2 := fun ty => run_next_end (P := Tryz.prog) w text1 1 ty (by decide)
  go_enter Tryz.func270, Tryz.ntmps270
  go_wp2_with fail
  refine wp_loop_rounds 2 ?_
  rw [rounds_succ]
  go_wp2_with fail
  refine (lexDigit_one _).mono ?_
  rintro e w1 ⟨rfl, rfl⟩
  go_wp2_with fail
  rw [rounds_succ]
  go_wp2_with fail
  go_ret
  exact ⟨rfl, (Below.refl _ w).alloc (Nat.le_refl _) _⟩
set_option maxHeartbeats 400000 in
theorem cutPrefix_none (w : World) : Calls Tryz.prog 92 #[.string ByteArray.empty, .string ⟨#[46]⟩] w fun e w' => e = .returned (.tuple #[.string ByteArray.empty, .bool false]) ∧ w = w' := by
  go_enter Tryz.func92, Tryz.ntmps92
  go_wp2
  go_ret2
  exact ⟨rfl, rfl⟩

/-- what a reader leaves that has read the number -/
abbrev tokL : List Value := [.int .i64 1, .string text1, .int .i64 0]
def LexPost (w : World) (r : Nat) (e : Ending) (w' : World) : Prop := e = .returned (.tuple #[.agg tokL.toArray, .bool true]) ∧ LexAt w' r 1 ∧ Chg [r] w w'
set_option maxHeartbeats 1000000 in
theorem tok_one {w : World} {r : Nat} (h : LexAt w r 0) : Calls Tryz.prog 268 #[.pointer (some ⟨r, 0, none⟩), .int .i64 1, .string text1, .int .i64 1] w (LexPost w r) := by
  have hr := heap_lt h
  have c1 := cell_of (i := 1) h rfl
  have f1 := free_of (i := 1) h
  have H := hid h
  clear h
  go_enter Tryz.func268, Tryz.ntmps268
  go_wp2_with fail
  refine bodyPost_ret (v := .tuple #[.agg tokL.toArray, .bool true]) (by simp [results, Tryz.results268, go_sem, *]) rfl ?_
  exact ⟨rfl, heap_alloc_keep (heap_alloc_keep (heap_setCell_at (i := 1) H.out (.int .i64 1)) _) _, (((Chg.refl [r] w).setCell (.inl (by simp)) _).alloc _).alloc _⟩
end Go.Proofs.YtmmknjpcffaidaaGreatDoor
