/- Chapter 14's examples: what the plain law says of them; places and spills laid by a literal; Place of a workbook without sheets. No condition. -/
import Derived.Test.YthkjmplcmfabfaaGreatDoorSpPlaceW
import Derived.Test.YthkjmplcmfabfaaGreatDoorSpOwnW
import Derived.Test.YthkjmplcmfabfaaGreatDoorSpSame
import Derived.Test.YthkjmplcmfabfaaGreatDoorSpCover
namespace Go.Proofs.YthkjmplcmfabfaaGreatDoor
open Go.RowKit Go.Lib

theorem atsIn_new1 (w : World) (p : PAt) : AtsIn (w.alloc (.cells #[.int .i64 p.1, .int .i64 p.2.1, .int .i64 p.2.2] 38)) (.slice (some ⟨w.heap.size, 0, none⟩) 1 1) [p] := by
  refine ⟨_, 1, w.heap.size, 0, rfl, by simp, fun j cs hj => ⟨rfl, fun i u hu => ?_⟩⟩
  have hj0 : j = 0 := by have := (List.getElem?_eq_some_iff.1 hj).1; simp at this; omega
  subst hj0
  simp at hj
  subst hj
  refine cell_of (heap_alloc_new w _) ?_
  simpa [atC] using hu
theorem atsIn_new2 (w : World) (p q : PAt) : AtsIn (w.alloc (.cells #[.int .i64 p.1, .int .i64 p.2.1, .int .i64 p.2.2, .int .i64 q.1, .int .i64 q.2.1, .int .i64 q.2.2] 38)) (.slice (some ⟨w.heap.size, 0, none⟩) 2 2) [p, q] := by
  refine ⟨_, 2, w.heap.size, 0, rfl, by simp, fun j cs hj => ⟨rfl, fun i u hu => ?_⟩⟩
  have hj0 : j = 0 ∨ j = 1 := by have := (List.getElem?_eq_some_iff.1 hj).1; simp at this; omega
  rcases hj0 with rfl | rfl
  · simp at hj
    subst hj
    refine cell_of (heap_alloc_new w _) ?_
    have hi : i < 3 := (List.getElem?_eq_some_iff.1 hu).1
    have : i = 0 ∨ i = 1 ∨ i = 2 := by omega
    rcases this with rfl | rfl | rfl <;> simpa [atC] using hu
  · simp at hj
    subst hj
    refine cell_of (heap_alloc_new w _) ?_
    have hi : i < 3 := (List.getElem?_eq_some_iff.1 hu).1
    have : i = 0 ∨ i = 1 ∨ i = 2 := by omega
    rcases this with rfl | rfl | rfl <;> simpa [atC] using hu
theorem spsIn_new1 (w : World) (x : PSp) : SpsIn (w.alloc (.cells #[.int .i64 x.1.1, .int .i64 x.1.2.1, .int .i64 x.1.2.2, .int .i64 x.2.1, .int .i64 x.2.2] 40)) (.slice (some ⟨w.heap.size, 0, none⟩) 1 1) [x] := by
  refine ⟨_, 1, w.heap.size, 0, rfl, by simp, fun j cs hj => ⟨rfl, fun i u hu => ?_⟩⟩
  have hj0 : j = 0 := by have := (List.getElem?_eq_some_iff.1 hj).1; simp at this; omega
  subst hj0
  simp at hj
  subst hj
  refine cell_of (heap_alloc_new w _) ?_
  simpa [spC] using hu
theorem spsIn_new2 (w : World) (x y : PSp) : SpsIn (w.alloc (.cells #[.int .i64 x.1.1, .int .i64 x.1.2.1, .int .i64 x.1.2.2, .int .i64 x.2.1, .int .i64 x.2.2, .int .i64 y.1.1, .int .i64 y.1.2.1, .int .i64 y.1.2.2, .int .i64 y.2.1, .int .i64 y.2.2] 40)) (.slice (some ⟨w.heap.size, 0, none⟩) 2 2) [x, y] := by
  refine ⟨_, 2, w.heap.size, 0, rfl, by simp, fun j cs hj => ⟨rfl, fun i u hu => ?_⟩⟩
  have hj0 : j = 0 ∨ j = 1 := by have := (List.getElem?_eq_some_iff.1 hj).1; simp at this; omega
  rcases hj0 with rfl | rfl
  · simp at hj
    subst hj
    refine cell_of (heap_alloc_new w _) ?_
    have hi : i < 5 := (List.getElem?_eq_some_iff.1 hu).1
    have : i = 0 ∨ i = 1 ∨ i = 2 ∨ i = 3 ∨ i = 4 := by omega
    rcases this with rfl | rfl | rfl | rfl | rfl <;> simpa [spC] using hu
  · simp at hj
    subst hj
    refine cell_of (heap_alloc_new w _) ?_
    have hi : i < 5 := (List.getElem?_eq_some_iff.1 hu).1
    have : i = 0 ∨ i = 1 ∨ i = 2 ∨ i = 3 ∨ i = 4 := by omega
    rcases this with rfl | rfl | rfl | rfl | rfl <;> simpa [spC] using hu

def exA : List PAt := [(0, 0, 0), (0, 2, 1)]
def exOne : PSp := ((0, 0, 0), 2, 2)
def exTwo : PSp := ((0, 2, 1), 9, 9)
def exWide : PSp := ((0, 0, 0), 3, 2)
theorem ex_ats : atsOf [(0, 0, 0), (0, 2, 1)] = exA := by decide
theorem mem_exA {p : PAt} : p ∈ exA ↔ p = (0, 0, 0) ∨ p = (0, 2, 1) := by simp [exA]
theorem may_pair {x y : PSp} : mayP exA [x, y] ↔ okP exA x ∧ okP exA y ∧ aheadP x.1 y.1 := by
  constructor
  · intro h
    exact ⟨(h 0 (by simp) x rfl).1, (h 1 (by simp) y rfl).1, (h 1 (by simp) y rfl).2 x (by omega) rfl⟩
  · rintro ⟨h1, h2, h3⟩ j hj z hz
    have : j = 0 ∨ j = 1 := by simp at hj; omega
    rcases this with rfl | rfl
    · simp at hz
      subst hz
      exact ⟨h1, fun y h => absurd h (by omega)⟩
    · simp at hz
      subst hz
      exact ⟨h2, fun y _ hy => by simp at hy; subst hy; exact h3⟩
theorem okExOne : okP exA exOne := by decide
theorem okExTwo : okP exA exTwo := by decide
theorem okExWide : okP exA exWide := by decide
theorem may_12 : mayP exA [exOne, exTwo] := may_pair.2 ⟨okExOne, okExTwo, by decide⟩
theorem may_w2 : mayP exA [exWide, exTwo] := may_pair.2 ⟨okExWide, okExTwo, by decide⟩
theorem may_21 : ¬ mayP exA [exTwo, exOne] := fun h => absurd (may_pair.1 h).2.2 (by decide)
theorem place_12 : placeP (fun p => p ∈ exA) [exOne, exTwo] = ([exOne, exTwo], []) := by
  have h1 : rightP exOne ∧ freeP exOne (fun p => p ∈ exA) := ⟨by decide, fun p h1 h2 h3 => by
    rcases mem_exA.1 h3 with rfl | rfl
    · exact h2 rfl
    · revert h1; decide⟩
  have h2 : rightP exTwo ∧ freeP exTwo (fun p => p ∈ exA ∨ tileP exOne p) := ⟨by decide, fun p h1 h2 h3 => by
    rcases h3 with h3 | h3
    · rcases mem_exA.1 h3 with rfl | rfl
      · revert h1; decide
      · exact h2 rfl
    · unfold tileP exOne at h3
      unfold tileP exTwo at h1
      dsimp only at h1 h3
      omega⟩
  rw [placeP_yes h1, placeP_yes h2]
  rfl
theorem place_w2 : placeP (fun p => p ∈ exA) [exWide, exTwo] = ([exTwo], [(0, 0, 0)]) := by
  have h1 : ¬ (rightP exWide ∧ freeP exWide (fun p => p ∈ exA)) := fun h => h.2 (0, 2, 1) (by decide) (by decide) (mem_exA.2 (.inr rfl))
  have h2 : rightP exTwo ∧ freeP exTwo (fun p => p ∈ exA) := ⟨by decide, fun p h1 h2 h3 => by
    rcases mem_exA.1 h3 with rfl | rfl
    · revert h1; decide
    · exact h2 rfl⟩
  rw [placeP_no h1, placeP_yes h2]
  rfl
theorem cover_11 : coverP [exOne, exTwo] (0, 1, 1) = some exOne := by decide
theorem cover_12 : coverP [exOne, exTwo] (0, 1, 2) = none := by decide

abbrev noBook : Value := .agg #[.slice none 0 0, .slice none 0 0, .slice none 0 0, .slice none 0 0]
set_option maxRecDepth 100000 in
set_option maxHeartbeats 1000000 in
theorem check_none (w : World) : Calls Tryz.prog 32 #[noBook] w fun e w' => e = .returned (.tuple #[.agg #[.int .i64 0, .int .i64 0, .int .i64 0], .int .i64 96]) ∧ Below w.heap.size w w' := by
  unfold noBook
  go_enter Tryz.func32, Tryz.ntmps32
  go_wp2_with fail
  refine bodyPost_ret (v := .tuple #[.agg #[.int .i64 0, .int .i64 0, .int .i64 0], .int .i64 96]) (by simp [results, Tryz.results32, go_sem, *]) rfl ?_
  exact ⟨rfl, ((Below.refl _ w).alloc (Nat.le_refl _) _).alloc (by simp) _⟩
set_option maxHeartbeats 1000000 in
theorem cells_none (w : World) : Calls Tryz.prog 16 #[noBook] w fun e w' => e = .returned (.tuple #[.slice none 0 0, .int .i64 96]) ∧ Below w.heap.size w w' := by
  have H := hid (fun w => check_none w)
  unfold noBook at *
  go_enter Tryz.func16, Tryz.ntmps16
  go_wp2_with fail
  refine (H.out _).mono ?_
  rintro e w1 ⟨rfl, b1⟩
  have HB := hid (((Below.refl _ w).alloc (Nat.le_refl _) (.cells #[.slice none 0 0, .slice none 0 0, .slice none 0 0, .slice none 0 0] 30)).trans (b1.mono (by simp)))
  clear b1
  go_wp2_with fail
  go_ret2
  exact ⟨rfl, HB.out.alloc HB.out.size _⟩
set_option maxHeartbeats 1000000 in
theorem place_none (w : World) : Calls Tryz.prog 7 #[noBook, .slice none 0 0] w fun e w' => e = .returned (.tuple #[.slice none 0 0, .slice none 0 0, .int .i64 96]) ∧ Below w.heap.size w w' := by
  have H := hid (fun w => cells_none w)
  unfold noBook at *
  go_enter Tryz.func7, Tryz.ntmps7
  go_wp2_with fail
  refine (H.out _).mono ?_
  rintro e w1 ⟨rfl, b1⟩
  have HB := hid (((Below.refl _ w).alloc (Nat.le_refl _) (.cells #[.slice none 0 0, .slice none 0 0, .slice none 0 0, .slice none 0 0] 30)).trans (b1.mono (by simp)))
  clear b1
  go_wp2_with fail
  go_ret3
  exact ⟨rfl, HB.out⟩
end Go.Proofs.YthkjmplcmfabfaaGreatDoor
