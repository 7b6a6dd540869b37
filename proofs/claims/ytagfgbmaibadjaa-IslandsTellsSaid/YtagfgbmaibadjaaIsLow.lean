/- Plain: graphs whose nodes read lesser ones alone; rings. No program in sight. -/
import Derived.Test.YtagfgbmaibadjaaIsSpec
namespace Go.Proofs.Ytagfgbmaibadjaa

theorem filter_one (k : Nat) : ∀ n, (List.range n).filter (fun j => decide (k = j)) = if k < n then [k] else []
  | 0 => by simp
  | n + 1 => by
    rw [List.range_succ, List.filter_append, filter_one k n]
    by_cases h : k < n
    · have h2 : ¬ k = n := by omega
      simp [h, h2, show k < n + 1 by omega]
    · by_cases h2 : k = n
      · subst h2; simp
      · simp [h, h2, show ¬ k < n + 1 by omega]

theorem singles_flat (k : Nat) : (((List.range k).map fun i => [i])).flatten = List.range k := by
  induction k with
  | zero => rfl
  | succ k ih => rw [List.range_succ, List.map_append, List.flatten_append, ih]; rfl

/-- each node reads lesser ones alone: each is an island, in order -/
theorem parts_low {g : Gr} (h : ∀ i j, edge g i j → j < i) : IsParts g ((List.range g.length).map fun i => [i]) := by
  have ld : ∀ i j, Leads g i j → j ≤ i := by
    intro i j hl
    induction hl with
    | refl => exact Nat.le_refl _
    | step e _ ih => have := h _ _ e; omega
  have sm : ∀ i j, Same g i j ↔ i = j := fun i j => by
    constructor
    · rintro ⟨h1, h2⟩
      have := ld i j h1
      have := ld j i h2
      omega
    · rintro rfl
      exact ⟨.refl _, .refl _⟩
  refine ⟨fun k l hk => ?_, fun j hj => ?_⟩
  · rw [List.getElem?_map, Option.map_eq_some_iff] at hk
    obtain ⟨i, hi, rfl⟩ := hk
    have hkl := (List.getElem?_eq_some_iff.1 hi).1
    rw [List.length_range] at hkl
    rw [List.getElem?_range hkl] at hi
    have := Option.some.inj hi
    subst this
    have e : (List.take k ((List.range g.length).map fun i => [i])).flatten = List.range k := by
      rw [← List.map_take, List.take_range, Nat.min_eq_left (by omega)]
      exact singles_flat k
    rw [e]
    refine ⟨k, ⟨hkl, by simp, fun j hj => ?_⟩, fun j hj => ?_, ?_⟩
    · have := ld k j hj
      by_cases e2 : k = j
      · exact .inl ((sm k j).2 e2)
      · exact .inr (by simp; omega)
    · have := hj.2.1
      simp at this
      exact this
    · unfold island
      have : (fun j => @decide (Same g k j) (Classical.propDecidable _)) = fun j => decide (k = j) := by
        funext j
        rw [decide_eq_decide]
        exact sm k j
      rw [this, filter_one, if_pos hkl]
  · rw [singles_flat]
    simpa using hj

/-- all lead to each other: one island -/
theorem parts_one {g : Gr} (R : RightG g) (hn : 0 < g.length) (h : ∀ i j, i < g.length → j < g.length → Leads g i j) : IsParts g [List.range g.length] := by
  refine ⟨fun k l hk => ?_, fun j hj => by simpa using hj⟩
  rcases k with _ | k
  · simp at hk
    subst hk
    refine ⟨0, ⟨hn, by simp, fun j hj => ?_⟩, fun j _ => Nat.zero_le _, ?_⟩
    · have hjl := leads_lt R hj hn
      exact .inl ⟨h 0 j hn hjl, h j 0 hjl hn⟩
    · unfold island
      symm
      rw [List.filter_eq_self]
      intro j hj
      simp only [List.mem_range] at hj
      simp only [decide_eq_true_eq]
      exact ⟨h 0 j hn hj, h j 0 hj hn⟩
  · simp at hk

theorem parts_none : IsParts [] [] := ⟨by simp, by simp⟩
end Go.Proofs.Ytagfgbmaibadjaa
