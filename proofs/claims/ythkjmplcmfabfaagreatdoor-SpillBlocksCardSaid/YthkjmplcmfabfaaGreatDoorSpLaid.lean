/- What the rows of the Spill laws list: a world in which it lies so; utf8's tables out of it. No condition. -/
import Derived.Test.YthkjmplcmfabfaaGreatDoorSpOpen
import Derived.Test.YthkjmplcmfabfaaGreatDoorCards
import Derived.Test.YthkjmplcmfabfaaGreatDoorTie
namespace Go.Proofs.YthkjmplcmfabfaaGreatDoor
open Go.ChangeShapes Go.WideShapes Go.ChangeAt Go.RowKit Go.Lib

theorem cells_slice {P : Program} {w : World} {r : Reach} {base : Nat} {t e : TypeId} {v : Value} (ht : P.underlying t = some (.slice e)) (h : Value.okWide P w r base t v) : v.cells.toList = [v] := by
  obtain ⟨a, len, cap, rfl⟩ := okWide_slice ht h
  rfl
theorem Tryz.own : ownKnob Tryz.prog.godebug = none := by kernel_rfl
noncomputable abbrev laidList : List (String × DataW Unit) := Rows.spillBlocksRow.laid
theorem laid_plain (w : World) : laidMetH Tryz.prog laidList w = laidMet Tryz.prog laidList w := MakeChecks.laidMetH_plain _ _ _ (by kernel_rfl)
theorem laid_met (os : Os) (args : Array Value) : laidMetH Tryz.prog laidList ((World.laidAll Tryz.prog os laidList).forCall (fun _ _ => 0) ⟨#[], args, []⟩).memory := by
  rw [laid_plain]
  exact laidMet_laidAll _ (by kernel_rfl) (by kernel_rfl)
theorem laid_shaped (os : Os) (args : Array Value) : ((World.laidAll Tryz.prog os laidList).forCall (fun _ _ => 0) ⟨#[], args, []⟩).Shaped Tryz.prog := World.shaped_of_ZipB (by kernel_rfl) (by kernel_rfl)
theorem tabs_of_laid {W : World} (h : laidMetH Tryz.prog laidList W) : Tabs W := by
  rw [laid_plain] at h
  refine utf8Tabs_of_reads (ρ := laysMap_ren) { laysMap with } ⟨by kernel_rfl, by kernel_rfl, by kernel_rfl, by kernel_rfl, by kernel_rfl, by kernel_rfl, by kernel_rfl⟩ ?_ ?_
  · rw [← Pinned.utf8First_eq]
    exact laidMet.reads h (n := "unicode/utf8.first") (by simp [laidList, Rows.spillBlocksRow, Rows.laid_unicode_utf8_first])
  · have e : acceptData = Rows.laid_unicode_utf8_acceptRanges := by kernel_rfl
    rw [e]
    exact laidMet.reads h (n := "unicode/utf8.acceptRanges") (by simp [laidList, Rows.spillBlocksRow])
end Go.Proofs.YthkjmplcmfabfaaGreatDoor
