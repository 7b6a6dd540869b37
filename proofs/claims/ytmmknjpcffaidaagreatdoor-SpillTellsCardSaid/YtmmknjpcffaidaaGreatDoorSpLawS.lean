/- The contracts of Area, Meet, Has and Ahead with their arguments and answers written out, for the walk of SpillReasons. No condition. -/
import Derived.Test.YtmmknjpcffaidaaGreatDoorSpLawK
namespace Go.Proofs.YtmmknjpcffaidaaGreatDoor
open Go.RowKit Go.Lib

theorem area_sp (x : PSp) : ∀ w, Calls Tryz.prog 21 #[.agg #[.int .i64 x.1.1, .int .i64 x.1.2.1, .int .i64 x.1.2.2, .int .i64 x.2.1, .int .i64 x.2.2]] w fun e w' => e = .returned (.agg #[.int .i64 x.1.1, .int .i64 x.1.2.1, .int .i64 x.1.2.2, .int .i64 x.2.1, .int .i64 x.2.2]) ∧ Below w.heap.size w w' := fun w => refArea_any x w
theorem meet_sp (x v : PSp) {b : Bool} (h : b = decide (meetP x v)) : ∀ w, Calls Tryz.prog 22 #[.agg #[.int .i64 x.1.1, .int .i64 x.1.2.1, .int .i64 x.1.2.2, .int .i64 x.2.1, .int .i64 x.2.2], .agg #[.int .i64 v.1.1, .int .i64 v.1.2.1, .int .i64 v.1.2.2, .int .i64 v.2.1, .int .i64 v.2.2]] w fun e w' =>
    (∃ z : PSp, e = .returned (.tuple #[.agg #[.int .i64 z.1.1, .int .i64 z.1.2.1, .int .i64 z.1.2.2, .int .i64 z.2.1, .int .i64 z.2.2], .bool b])) ∧ Below w.heap.size w w' := fun w => by
  subst h
  exact meet_any x v w
theorem has_sp (x : PSp) (c : PAt) {b : Bool} (h : b = decide (hasP x c)) : ∀ w, Calls Tryz.prog 23 #[.agg #[.int .i64 x.1.1, .int .i64 x.1.2.1, .int .i64 x.1.2.2, .int .i64 x.2.1, .int .i64 x.2.2], .agg #[.int .i64 c.1, .int .i64 c.2.1, .int .i64 c.2.2]] w fun e w' =>
    e = .returned (.bool b) ∧ Below w.heap.size w w' := fun w => by
  subst h
  exact has_any x c w
theorem ahead_sp (c d : PAt) {b : Bool} (h : b = decide (aheadP c d)) : ∀ w, Calls Tryz.prog 24 #[.agg #[.int .i64 c.1, .int .i64 c.2.1, .int .i64 c.2.2], .agg #[.int .i64 d.1, .int .i64 d.2.1, .int .i64 d.2.2]] w fun e w' =>
    e = .returned (.bool b) ∧ Below w.heap.size w w' := fun w => by
  subst h
  exact ahead_any c d w
theorem eqat_sp (c d : PAt) (hc : SmallAt c) (hd : SmallAt d) {b : Bool} (h : b = decide (c = d)) : ∀ w, (Op.equalIn 10000 25 (.agg #[.int .i64 c.1, .int .i64 c.2.1, .int .i64 c.2.2]) (.agg #[.int .i64 d.1, .int .i64 d.2.1, .int .i64 d.2.2])).run Tryz.prog w = .ok b w := fun w => by
  subst h
  exact eq_at c d hc hd w
end Go.Proofs.YtmmknjpcffaidaaGreatDoor
