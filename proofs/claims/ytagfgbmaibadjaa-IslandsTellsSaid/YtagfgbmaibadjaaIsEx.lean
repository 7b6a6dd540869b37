/- Contract of the law's own examples: they are as the chapter says. -/
import Derived.Test.YtagfgbmaibadjaaIsAny
namespace Go.Proofs.Ytagfgbmaibadjaa
open Go.RowKit Go.Lib

theorem ex1 : IsParts (natG [[1], [2], [1]]) [[1, 2], [0]] := example1
theorem ex2 : IsParts (natG [[], [0], []]) [[0], [1], [2]] := example2
theorem ex3 : IsParts (natG [[2], [], []]) [[1], [2], [0]] := example3
theorem few_small {G : List (List Int)} (h : (decide (G.length ≤ 100) && G.all fun l => decide (l.length ≤ 100)) = true) : Few G := by
  simp only [Bool.and_eq_true, decide_eq_true_eq, List.all_eq_true] at h
  exact ⟨100, h.2, by omega⟩
theorem same_true {w : World} {av bv : Value} {G H : List (List Int)} (hG : RowsIn w av G) (hH : RowsIn w bv H) (e : decide (G = H) = true) : Calls Try.prog 17 #[av, bv] w (SameEnd w true) := by
  have := same_any w av bv G H hG hH
  rw [e] at this
  exact this
theorem loop_is {w : World} {gv pv : Value} {G : List (List Int)} {part : List Int} {b : Bool} (h : RowsIn w gv G) (hp : IntsIn w pv part) (e : loopB G part = b) : Calls Try.prog 15 #[gv, pv] w (LoopEnd w b) := by
  have := loop_any w gv pv G part h hp
  rw [e] at this
  exact this
theorem chg_call {F : List Nat} {a b c : World} (h : Chg F a b) (k : Below b.heap.size b c) : Chg F a c := h.trans (Chg.of_below (F := []) k) (by simp)

def HeadEnd (w : World) (e : Ending) (w' : World) : Prop := e = .returned (.bool true) ∧ Below w.heap.size w w'

set_option maxRecDepth 20000 in
set_option maxHeartbeats 4000000 in
theorem examples_any (w : World) : Calls Try.prog 10 #[] w (HeadEnd w) := by
  go_enter Try.func10, Try.ntmps10
  go_wp2_with fail
  refine (parts_known (G := [[1], [2], [1]]) (rows3 (by repeat (with_reducible (first | (refine heap_new_at _ _ ?_ _; simp; done) | refine heap_alloc_keep ?_ _))) (ints1 (by repeat (with_reducible (first | (refine heap_new_at _ _ ?_ _; simp; done) | refine heap_alloc_keep ?_ _))) (by decide)) (ints1 (by repeat (with_reducible (first | (refine heap_new_at _ _ ?_ _; simp; done) | refine heap_alloc_keep ?_ _))) (by decide)) (ints1 (by repeat (with_reducible (first | (refine heap_new_at _ _ ?_ _; simp; done) | refine heap_alloc_keep ?_ _))) (by decide))) rfl (few_small (by decide)) ex1).mono ?_
  rintro e w1 ⟨v1, rfl, r1, b1⟩
  go_wp2_with fail
  refine (parts_known (G := [[], [0], []]) (rows3 (by repeat (with_reducible (first | (refine heap_new_at _ _ ?_ _; simp; done) | refine heap_alloc_keep ?_ _))) (ints_nil _) (ints1 (by repeat (with_reducible (first | (refine heap_new_at _ _ ?_ _; simp; done) | refine heap_alloc_keep ?_ _))) (by decide)) (ints_nil _)) rfl (few_small (by decide)) ex2).mono ?_
  rintro e w2 ⟨v2, rfl, r2, b2⟩
  go_wp2_with fail
  refine (parts_known (G := [[2], [], []]) (rows3 (by repeat (with_reducible (first | (refine heap_new_at _ _ ?_ _; simp; done) | refine heap_alloc_keep ?_ _))) (ints1 (by repeat (with_reducible (first | (refine heap_new_at _ _ ?_ _; simp; done) | refine heap_alloc_keep ?_ _))) (by decide)) (ints_nil _) (ints_nil _)) rfl (few_small (by decide)) ex3).mono ?_
  rintro e w3 ⟨v3, rfl, r3, b3⟩
  go_wp2_with fail
  refine (parts_no (G := [[1]]) (rows1 (by repeat (with_reducible (first | (refine heap_new_at _ _ ?_ _; simp; done) | refine heap_alloc_keep ?_ _))) (ints1 (by repeat (with_reducible (first | (refine heap_new_at _ _ ?_ _; simp; done) | refine heap_alloc_keep ?_ _))) (by decide))) rfl).mono ?_
  rintro e w4 ⟨rfl, b4⟩
  go_wp2_with fail
  refine (same_true (r1.below (Chg.nil_below (by repeat (first | exact Chg.refl _ _ | refine Chg.alloc ?_ _ | refine chg_call ?_ b1 | refine chg_call ?_ b2 | refine chg_call ?_ b3 | refine chg_call ?_ b4)))) (rows2 (by repeat (with_reducible (first | (refine heap_new_at _ _ ?_ _; simp; done) | refine heap_alloc_keep ?_ _))) (ints2 (by repeat (with_reducible (first | (refine heap_new_at _ _ ?_ _; simp; done) | refine heap_alloc_keep ?_ _))) (by decide) (by decide)) (ints1 (by repeat (with_reducible (first | (refine heap_new_at _ _ ?_ _; simp; done) | refine heap_alloc_keep ?_ _))) (by decide))) (by decide)).mono ?_
  rintro e w5 ⟨rfl, b5⟩
  go_wp2_with fail
  refine (same_true (r2.below (Chg.nil_below (by repeat (first | exact Chg.refl _ _ | refine Chg.alloc ?_ _ | refine chg_call ?_ b1 | refine chg_call ?_ b2 | refine chg_call ?_ b3 | refine chg_call ?_ b4 | refine chg_call ?_ b5)))) (rows3 (by repeat (with_reducible (first | (refine heap_new_at _ _ ?_ _; simp; done) | refine heap_alloc_keep ?_ _))) (ints1 (by repeat (with_reducible (first | (refine heap_new_at _ _ ?_ _; simp; done) | refine heap_alloc_keep ?_ _))) (by decide)) (ints1 (by repeat (with_reducible (first | (refine heap_new_at _ _ ?_ _; simp; done) | refine heap_alloc_keep ?_ _))) (by decide)) (ints1 (by repeat (with_reducible (first | (refine heap_new_at _ _ ?_ _; simp; done) | refine heap_alloc_keep ?_ _))) (by decide))) (by decide)).mono ?_
  rintro e w6 ⟨rfl, b6⟩
  go_wp2_with fail
  refine (same_true (r3.below (Chg.nil_below (by repeat (first | exact Chg.refl _ _ | refine Chg.alloc ?_ _ | refine chg_call ?_ b1 | refine chg_call ?_ b2 | refine chg_call ?_ b3 | refine chg_call ?_ b4 | refine chg_call ?_ b5 | refine chg_call ?_ b6)))) (rows3 (by repeat (with_reducible (first | (refine heap_new_at _ _ ?_ _; simp; done) | refine heap_alloc_keep ?_ _))) (ints1 (by repeat (with_reducible (first | (refine heap_new_at _ _ ?_ _; simp; done) | refine heap_alloc_keep ?_ _))) (by decide)) (ints1 (by repeat (with_reducible (first | (refine heap_new_at _ _ ?_ _; simp; done) | refine heap_alloc_keep ?_ _))) (by decide)) (ints1 (by repeat (with_reducible (first | (refine heap_new_at _ _ ?_ _; simp; done) | refine heap_alloc_keep ?_ _))) (by decide))) (by decide)).mono ?_
  rintro e w7 ⟨rfl, b7⟩
  go_wp2_with fail
  refine (loop_is (G := [[0]]) (part := [0]) (b := true) (rows1 (by repeat (with_reducible (first | (refine heap_new_at _ _ ?_ _; simp; done) | refine heap_alloc_keep ?_ _))) (ints1 (by repeat (with_reducible (first | (refine heap_new_at _ _ ?_ _; simp; done) | refine heap_alloc_keep ?_ _))) (by decide))) (ints1 (by repeat (with_reducible (first | (refine heap_new_at _ _ ?_ _; simp; done) | refine heap_alloc_keep ?_ _))) (by decide)) (by decide)).mono ?_
  rintro e w8 ⟨rfl, b8⟩
  go_wp2_with fail
  refine (loop_is (G := [[]]) (part := [0]) (b := false) (rows1 (by repeat (with_reducible (first | (refine heap_new_at _ _ ?_ _; simp; done) | refine heap_alloc_keep ?_ _))) (ints_nil _)) (ints1 (by repeat (with_reducible (first | (refine heap_new_at _ _ ?_ _; simp; done) | refine heap_alloc_keep ?_ _))) (by decide)) (by decide)).mono ?_
  rintro e w9 ⟨rfl, b9⟩
  go_wp2_with fail
  refine (loop_is (G := [[1], [0]]) (part := [0, 1]) (b := true) (rows2 (by repeat (with_reducible (first | (refine heap_new_at _ _ ?_ _; simp; done) | refine heap_alloc_keep ?_ _))) (ints1 (by repeat (with_reducible (first | (refine heap_new_at _ _ ?_ _; simp; done) | refine heap_alloc_keep ?_ _))) (by decide)) (ints1 (by repeat (with_reducible (first | (refine heap_new_at _ _ ?_ _; simp; done) | refine heap_alloc_keep ?_ _))) (by decide))) (ints2 (by repeat (with_reducible (first | (refine heap_new_at _ _ ?_ _; simp; done) | refine heap_alloc_keep ?_ _))) (by decide) (by decide)) (by decide)).mono ?_
  rintro e w10 ⟨rfl, b10⟩
  go_wp2_with fail
  go_ret
  exact ⟨rfl, (Chg.nil_below (by repeat (first | exact Chg.refl _ _ | refine Chg.alloc ?_ _ | refine chg_call ?_ b1 | refine chg_call ?_ b2 | refine chg_call ?_ b3 | refine chg_call ?_ b4 | refine chg_call ?_ b5 | refine chg_call ?_ b6 | refine chg_call ?_ b7 | refine chg_call ?_ b8 | refine chg_call ?_ b9 | refine chg_call ?_ b10)))⟩

end Go.Proofs.Ytagfgbmaibadjaa
