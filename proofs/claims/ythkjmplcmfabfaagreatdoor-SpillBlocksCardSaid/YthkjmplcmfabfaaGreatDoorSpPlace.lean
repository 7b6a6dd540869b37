/- Spills on a sheet: where each of them stands among those placed and those blocked; why one is blocked; which one has a place; no program in sight. No condition. -/
import Derived.Test.YthkjmplcmfabfaaGreatDoorSpPlain
namespace Go.Proofs.YthkjmplcmfabfaaGreatDoor

section
variable {T : PAt → Prop} {l : List PSp} {n : Nat} {x : PSp}

theorem split_at (hx : l[n]? = some x) : l = l.take n ++ x :: l.drop (n + 1) := by
  obtain ⟨hn, e⟩ := List.getElem?_eq_some_iff.1 hx
  rw [← e, ← List.drop_eq_getElem_cons hn, List.take_append_drop]
theorem take_next (hx : l[n]? = some x) : l.take (n + 1) = l.take n ++ [x] := by
  obtain ⟨hn, e⟩ := List.getElem?_eq_some_iff.1 hx
  rw [List.take_succ_eq_append_getElem hn, e]

/-- what stands behind is none of its own -/
theorem behind_ne (ho : inOrder l) (hx : l[n]? = some x) : ∀ y, y ∈ l.drop (n + 1) → aheadP x.1 y.1 := by
  intro y hy
  unfold inOrder at ho
  rw [split_at hx, List.pairwise_append] at ho
  exact (List.pairwise_cons.1 ho.2.1).1 y hy
theorem ahead_ne (ho : inOrder l) (hx : l[n]? = some x) : ∀ y, y ∈ l.take n → aheadP y.1 x.1 := by
  intro y hy
  unfold inOrder at ho
  rw [split_at hx, List.pairwise_append] at ho
  exact ho.2.2 y hy x (by simp)

theorem place_split (hx : l[n]? = some x) : placeP T l = ((placeP T (l.take n)).1 ++ (placeP (takenP T (l.take n)) (x :: l.drop (n + 1))).1, (placeP T (l.take n)).2 ++ (placeP (takenP T (l.take n)) (x :: l.drop (n + 1))).2) := by
  conv => lhs; rw [split_at hx]
  exact placeP_append _ _ _
theorem place_next (hx : l[n]? = some x) : placeP T (l.take (n + 1)) = ((placeP T (l.take n)).1 ++ (placeP (takenP T (l.take n)) [x]).1, (placeP T (l.take n)).2 ++ (placeP (takenP T (l.take n)) [x]).2) := by
  rw [take_next hx]
  exact placeP_append _ _ _

theorem get_append {α : Type} (a b : List α) : (a ++ b)[a.length]? = b[0]? := by
  rw [List.getElem?_append_right (Nat.le_refl _), Nat.sub_self]

/-- one that is placed -/
theorem here_placed (ho : inOrder l) (hx : l[n]? = some x) (h : rightP x ∧ freeP x (takenP T (l.take n))) :
    (placeP T l).1[(placeP T (l.take n)).1.length]? = some x ∧ (placeP T l).2[(placeP T (l.take n)).2.length]? ≠ some x.1 ∧
    (placeP T (l.take (n + 1))).1 = (placeP T (l.take n)).1 ++ [x] ∧ (placeP T (l.take (n + 1))).2 = (placeP T (l.take n)).2 := by
  rw [place_split hx, place_next hx, placeP_yes h, placeP_yes h]
  refine ⟨?_, ?_, ?_, ?_⟩
  · dsimp only
    rw [get_append]; rfl
  · dsimp only
    rw [get_append]
    intro he
    obtain ⟨y, h1, h2⟩ := placeP_blocked _ _ _ (List.mem_of_getElem? he)
    exact (behind_ne ho hx y h1).ne h2.symm
  · simp [placeP]
  · simp [placeP]
/-- one that is blocked -/
theorem here_blocked (ho : inOrder l) (hx : l[n]? = some x) (h : ¬ (rightP x ∧ freeP x (takenP T (l.take n)))) :
    (placeP T l).2[(placeP T (l.take n)).2.length]? = some x.1 ∧ (placeP T l).1[(placeP T (l.take n)).1.length]? ≠ some x ∧
    (placeP T (l.take (n + 1))).1 = (placeP T (l.take n)).1 ∧ (placeP T (l.take (n + 1))).2 = (placeP T (l.take n)).2 ++ [x.1] := by
  rw [place_split hx, place_next hx, placeP_no h, placeP_no h]
  refine ⟨?_, ?_, ?_, ?_⟩
  · dsimp only
    rw [get_append]; rfl
  · dsimp only
    rw [get_append]
    intro he
    have h1 := (placeP_mem _ _ _ (List.mem_of_getElem? he)).1
    exact (behind_ne ho hx x h1).ne rfl
  · simp [placeP]
  · simp [placeP]

/-- the first ones of what is placed, and of what is blocked -/
theorem place_take_le (T : PAt → Prop) (l : List PSp) (n : Nat) : ∃ a b, (placeP T l).1 = (placeP T (l.take n)).1 ++ a ∧ (placeP T l).2 = (placeP T (l.take n)).2 ++ b := by
  have h := placeP_append (l.take n) (l.drop n) T
  rw [List.take_append_drop] at h
  rw [h]
  exact ⟨_, _, rfl, rfl⟩
theorem place_take_same (T : PAt → Prop) (l : List PSp) (n : Nat) : (placeP T l).1.take (placeP T (l.take n)).1.length = (placeP T (l.take n)).1 ∧ (placeP T l).2.take (placeP T (l.take n)).2.length = (placeP T (l.take n)).2 := by
  obtain ⟨a, b, h1, h2⟩ := place_take_le T l n
  rw [h1, h2]
  simp

/-- why one is blocked -/
theorem blocked_why (ho : inOrder l) (hx : l[n]? = some x) (h : ¬ (rightP x ∧ freeP x (takenP T (l.take n)))) :
    ¬ rightP x ∨ (∃ p, T p ∧ p ≠ x.1 ∧ hasP x p) ∨ ∃ y, y ∈ (placeP T l).1 ∧ meetP x y ∧ aheadP y.1 x.1 := by
  by_cases hr : rightP x
  · right
    have hf : ¬ freeP x (takenP T (l.take n)) := fun hf => h ⟨hr, hf⟩
    unfold freeP at hf
    have : ∃ p, tileP x p ∧ p ≠ x.1 ∧ takenP T (l.take n) p := by
      apply Classical.byContradiction
      intro hn
      exact hf fun p h1 h2 h3 => hn ⟨p, h1, h2, h3⟩
    obtain ⟨p, h1, h2, h3 | ⟨y, h3, h4⟩⟩ := this
    · exact .inl ⟨p, h3, h2, hasP_iff.2 ⟨hr, h1⟩⟩
    · have hy := placeP_mem _ _ _ h3
      obtain ⟨a, b, e1, _⟩ := place_take_le T l n
      exact .inr ⟨y, by rw [e1]; exact List.mem_append_left _ h3, meetP_iff.2 ⟨hr, hy.2, p, h1, h4⟩, ahead_ne ho hx y hy.1⟩
  · exact .inl hr
end

/-- the spill that has a place -/
def coverP (l : List PSp) (p : PAt) : Option PSp := l.find? fun x => decide (hasP x p)
theorem coverP_none {l : List PSp} {p : PAt} (h : ∀ x, x ∈ l → ¬ hasP x p) : coverP l p = none := by
  unfold coverP
  rw [List.find?_eq_none]
  intro x hx
  simpa using h x hx
theorem coverP_one {l : List PSp} {p : PAt} {x : PSp} (hx : x ∈ l) (h : hasP x p) (hp : l.Pairwise fun x y => ∀ p, tileP x p → ¬ tileP y p) : coverP l p = some x := by
  unfold coverP
  induction l with
  | nil => simp at hx
  | cons y l ih =>
    have hp' := List.pairwise_cons.1 hp
    rcases List.mem_cons.1 hx with rfl | hm
    · simp [h]
    · have : ¬ hasP y p := fun hy => hp'.1 x hm p (hasP_iff.1 hy).2 (hasP_iff.1 h).2
      rw [List.find?_cons]
      simp only [this, decide_false]
      exact ih hm hp'.2
/-- how many of some spills have a place -/
def manyP (l : List PSp) (p : PAt) : Nat := l.countP fun x => decide (hasP x p)
theorem manyP_next {l : List PSp} {p : PAt} {n : Nat} {x : PSp} (hx : l[n]? = some x) : manyP (l.take (n + 1)) p = manyP (l.take n) p + (if hasP x p then 1 else 0) := by
  unfold manyP
  rw [take_next hx, List.countP_append, List.countP_singleton]
  simp
theorem manyP_le {l : List PSp} {p : PAt} (hp : l.Pairwise fun x y => ∀ p, tileP x p → ¬ tileP y p) : manyP l p ≤ 1 := by
  unfold manyP
  induction l with
  | nil => simp
  | cons y l ih =>
    have hp' := List.pairwise_cons.1 hp
    rw [List.countP_cons]
    by_cases hy : hasP y p
    · have : l.countP (fun x => decide (hasP x p)) = 0 := by
        rw [List.countP_eq_zero]
        intro x hx hh
        exact hp'.1 x hx p (hasP_iff.1 hy).2 (hasP_iff.1 (of_decide_eq_true hh)).2
      rw [this]
      simp [hy]
    · have := ih hp'.2
      simp [hy]
      exact this
theorem coverP_many {l : List PSp} {p : PAt} : (coverP l p).isSome = decide (0 < manyP l p) := by
  unfold coverP manyP
  rw [Bool.eq_iff_iff, List.find?_isSome, decide_eq_true_iff, List.countP_pos_iff]
end Go.Proofs.YthkjmplcmfabfaaGreatDoor
