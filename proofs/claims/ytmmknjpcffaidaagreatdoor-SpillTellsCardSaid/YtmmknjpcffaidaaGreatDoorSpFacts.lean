/- The closed facts of the program that every row of this seat asks, each once: the kernel's memory is given back behind each. No condition. -/
import Derived.Test.YtmmknjpcffaidaaGreatDoorCards
import Derived.Test.YtmmknjpcffaidaaGreatDoorTie
import Derived.JoinedOf
import Derived.KernelRfl
namespace Go.Proofs.YtmmknjpcffaidaaGreatDoor
open Go

theorem and_both {a b : Bool} (ha : a = true) (hb : b = true) : (a && b) = true := by subst ha hb; rfl

theorem goesBy_none {c : OpenClaim} {P : Program} (hs : c.start = .entering) (h : P.funcs.any Func.goes = false) : false = c.goesBy P := by
  have hall : ∀ g : Nat, (P.funcs[g]?).any Func.goes = false := by
    intro g
    cases hg : P.funcs[g]? with
    | none => rfl
    | some fn =>
      rw [Option.any_some]
      have hm : fn ∈ P.funcs := Array.mem_of_getElem? hg
      rw [Array.any_eq_false] at h
      obtain ⟨i, hi, rfl⟩ := Array.mem_iff_getElem.1 hm
      simpa using h i hi
  have hgoes : ∀ f, P.goes f = false := by
    intro f
    unfold Program.goes
    rw [h, Bool.and_false, Bool.or_false, List.any_eq_false]
    intro g _
    simp [hall g]
  unfold OpenClaim.goesBy Program.goesAt Program.goesFrom
  rw [hs]
  cases P.funcNamed c.func with
  | none => rfl
  | some f => simp [hgoes f]

theorem no_goes : Tryz.prog.funcs.any Func.goes = false := by kernel_rfl
theorem laid_out : laidOutB Tryz.prog = true := by kernel_rfl
theorem maps_rowed : mapsRowed Tryz.prog = true := by kernel_rfl
theorem stops_heard : Tryz.prog.stopsHeard = true := by kernel_rfl
theorem may_enter : Tryz.prog.mayEnter = true := by kernel_rfl
theorem lifts_final : (Rows.spillMoreRow.lifted == Tryz.prog.liftsFinal) = true := by kernel_rfl
theorem make_is : (Tryz.prog.make == some Rows.spillMoreRow.make) = true := by kernel_rfl
theorem looks_on : true = Tryz.prog.looks [] := by kernel_rfl
theorem main_is : Tryz.prog.mainIs = some (true, "c85f2c943e6e02ad8e55fb0b6724a11ed4d36683a9ef96ef3ceb05c9857922f3".toList) := by kernel_rfl
end Go.Proofs.YtmmknjpcffaidaaGreatDoor
