/- The closed facts of the program that every row of this seat asks, each once: the kernel's memory is given back behind each. No condition. -/
import Derived.Test.YthkjmplcmfabfaaGreatDoorCards
import Derived.Test.YthkjmplcmfabfaaGreatDoorTie
import Derived.JoinedOf
import Derived.KernelRfl
namespace Go.Proofs.YthkjmplcmfabfaaGreatDoor
open Go

theorem and_both {a b : Bool} (ha : a = true) (hb : b = true) : (a && b) = true := by subst ha hb; rfl

theorem goesBy_none {c : OpenClaim} {P : Program} (hs : c.start = .entering) (h : P.funcs.any Func.goes = false) : false = c.goesBy P := by
  have hall : ∀ g : Nat, (P.funcs[g]?).any Func.goes = false := by
    intro g
    cases hg : P.funcs[g]? with
    | none => rfl
    | some fn =>
      rw [Option.any_some]
      have hm : fn ∈ P.funcs := Array.mem_of_getElem? hg
      rw [Array.any_eq_false] at h
      obtain ⟨i, hi, rfl⟩ := Array.mem_iff_getElem.1 hm
      simpa using h i hi
  have hgoes : ∀ f, P.goes f = false := by
    intro f
    unfold Program.goes
    rw [h, Bool.and_false, Bool.or_false, List.any_eq_false]
    intro g _
    simp [hall g]
  unfold OpenClaim.goesBy Program.goesAt Program.goesFrom
  rw [hs]
  cases P.funcNamed c.func with
  | none => rfl
  | some f => simp [hgoes f]

theorem no_goes : Tryz.prog.funcs.any Func.goes = false := by kernel_rfl
theorem laid_out : laidOutB Tryz.prog = true := by kernel_rfl
theorem maps_rowed : mapsRowed Tryz.prog = true := by kernel_rfl
theorem stops_heard : Tryz.prog.stopsHeard = true := by kernel_rfl
theorem may_enter : Tryz.prog.mayEnter = true := by kernel_rfl
theorem lifts_final : (Rows.spillBlocksRow.lifted == Tryz.prog.liftsFinal) = true := by kernel_rfl
theorem make_is : (Tryz.prog.make == some Rows.spillBlocksRow.make) = true := by kernel_rfl
theorem looks_on : true = Tryz.prog.looks [] := by kernel_rfl
theorem main_is : Tryz.prog.mainIs = some (true, "df0722f98d89e6375b0ca196a8f2f0460775aca860af1a3e269044948a3bf9ab".toList) := by kernel_rfl
end Go.Proofs.YthkjmplcmfabfaaGreatDoor
