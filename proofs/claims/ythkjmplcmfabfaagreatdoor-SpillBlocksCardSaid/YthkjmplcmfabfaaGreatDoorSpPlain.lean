/- Spills on a sheet: which are placed and which are blocked; no program in sight. No condition. -/
namespace Go.Proofs.YthkjmplcmfabfaaGreatDoor

/-- a place: sheet, row, column -/
abbrev PAt := Int × Int × Int
/-- a spill: its cell's place, rows, columns -/
abbrev PSp := PAt × Int × Int

/-- a place stands ahead of another one -/
def aheadP (a b : PAt) : Prop := a.1 < b.1 ∨ (a.1 = b.1 ∧ (a.2.1 < b.2.1 ∨ (a.2.1 = b.2.1 ∧ a.2.2 < b.2.2)))
instance (a b : PAt) : Decidable (aheadP a b) := by unfold aheadP; infer_instance
theorem aheadP.ne {a b : PAt} (h : aheadP a b) : a ≠ b := by
  rintro rfl
  unfold aheadP at h
  omega
theorem aheadP.trans {a b c : PAt} (h : aheadP a b) (k : aheadP b c) : aheadP a c := by
  unfold aheadP at *
  omega
theorem aheadP.asymm {a b : PAt} (h : aheadP a b) : ¬ aheadP b a := by
  unfold aheadP at *
  omega
theorem aheadP.total {a b : PAt} (h : a ≠ b) : aheadP a b ∨ aheadP b a := by
  unfold aheadP
  by_cases h1 : a.1 = b.1
  · by_cases h2 : a.2.1 = b.2.1
    · by_cases h3 : a.2.2 = b.2.2
      · exact absurd (Prod.ext h1 (Prod.ext h2 h3)) h
      · omega
    · omega
  · omega

/-- a place is one of a spill's -/
def tileP (x : PSp) (p : PAt) : Prop := p.1 = x.1.1 ∧ x.1.2.1 ≤ p.2.1 ∧ p.2.1 < x.1.2.1 + x.2.1 ∧ x.1.2.2 ≤ p.2.2 ∧ p.2.2 < x.1.2.2 + x.2.2
instance (x : PSp) (p : PAt) : Decidable (tileP x p) := by unfold tileP; infer_instance
/-- an area that may be -/
def rightP (x : PSp) : Prop := 0 ≤ x.1.1 ∧ x.1.1 < 8 ∧ 0 ≤ x.1.2.1 ∧ x.1.2.1 < 200 ∧ 0 ≤ x.1.2.2 ∧ x.1.2.2 < 52 ∧ 1 ≤ x.2.1 ∧ x.2.1 ≤ 200 - x.1.2.1 ∧ 1 ≤ x.2.2 ∧ x.2.2 ≤ 52 - x.1.2.2
instance (x : PSp) : Decidable (rightP x) := by unfold rightP; infer_instance
/-- two areas meet -/
def meetP (x y : PSp) : Prop := rightP x ∧ rightP y ∧ x.1.1 = y.1.1 ∧ 1 ≤ min (x.1.2.1 + x.2.1) (y.1.2.1 + y.2.1) - max x.1.2.1 y.1.2.1 ∧ 1 ≤ min (x.1.2.2 + x.2.2) (y.1.2.2 + y.2.2) - max x.1.2.2 y.1.2.2
instance (x y : PSp) : Decidable (meetP x y) := by unfold meetP; infer_instance
/-- an area has a place -/
def hasP (x : PSp) (p : PAt) : Prop := meetP x (p, 1, 1)
instance (x : PSp) (p : PAt) : Decidable (hasP x p) := by unfold hasP; infer_instance

theorem hasP_iff {x : PSp} {p : PAt} : hasP x p ↔ rightP x ∧ tileP x p := by
  obtain ⟨⟨a1, a2, a3⟩, a4, a5⟩ := x
  obtain ⟨p1, p2, p3⟩ := p
  simp only [hasP, meetP, rightP, tileP]
  omega
theorem meetP_iff {x y : PSp} : meetP x y ↔ rightP x ∧ rightP y ∧ ∃ p, tileP x p ∧ tileP y p := by
  obtain ⟨⟨a1, a2, a3⟩, a4, a5⟩ := x
  obtain ⟨⟨b1, b2, b3⟩, b4, b5⟩ := y
  constructor
  · rintro ⟨h1, h2, h3, h4, h5⟩
    dsimp only at h3 h4 h5
    have m1 : max a2 b2 = a2 ∨ max a2 b2 = b2 := by omega
    have m2 : max a3 b3 = a3 ∨ max a3 b3 = b3 := by omega
    refine ⟨h1, h2, (a1, max a2 b2, max a3 b3), ⟨rfl, ?_, ?_, ?_, ?_⟩, ⟨h3, ?_, ?_, ?_, ?_⟩⟩ <;> dsimp only <;> omega
  · rintro ⟨h1, h2, ⟨p1, p2, p3⟩, h3, h4⟩
    simp only [meetP, rightP, tileP] at *
    omega
theorem tile_self {x : PSp} (h : rightP x) : tileP x x.1 := by
  unfold rightP tileP at *
  omega
theorem meetP_self {x : PSp} : meetP x x ↔ rightP x := by
  rw [meetP_iff]
  exact ⟨fun h => h.1, fun h => ⟨h, h, x.1, tile_self h, tile_self h⟩⟩

/-- all places of a spill but its own are free -/
def freeP (x : PSp) (T : PAt → Prop) : Prop := ∀ p, tileP x p → p ≠ x.1 → ¬ T p

open Classical in
/-- which spills are placed, and whose cells are blocked -/
noncomputable def placeP (T : PAt → Prop) : List PSp → List PSp × List PAt
  | [] => ([], [])
  | x :: l => if rightP x ∧ freeP x T then (x :: (placeP (fun p => T p ∨ tileP x p) l).1, (placeP (fun p => T p ∨ tileP x p) l).2) else ((placeP T l).1, x.1 :: (placeP T l).2)

theorem placeP_yes {T : PAt → Prop} {x : PSp} {l : List PSp} (h : rightP x ∧ freeP x T) : placeP T (x :: l) = (x :: (placeP (fun p => T p ∨ tileP x p) l).1, (placeP (fun p => T p ∨ tileP x p) l).2) := by
  simp only [placeP, if_pos h]
theorem placeP_no {T : PAt → Prop} {x : PSp} {l : List PSp} (h : ¬ (rightP x ∧ freeP x T)) : placeP T (x :: l) = ((placeP T l).1, x.1 :: (placeP T l).2) := by
  simp only [placeP, if_neg h]

/-- what is taken behind some spills -/
noncomputable def takenP (T : PAt → Prop) (l : List PSp) : PAt → Prop := fun p => T p ∨ ∃ x, x ∈ (placeP T l).1 ∧ tileP x p

theorem placeP_append (l r : List PSp) : ∀ T, placeP T (l ++ r) = ((placeP T l).1 ++ (placeP (takenP T l) r).1, (placeP T l).2 ++ (placeP (takenP T l) r).2) := by
  induction l with
  | nil =>
    intro T
    have : takenP T [] = T := by
      funext p
      simp [takenP, placeP]
    rw [this]
    simp [placeP]
  | cons x l ih =>
    intro T
    by_cases h : rightP x ∧ freeP x T
    · have e : takenP T (x :: l) = takenP (fun p => T p ∨ tileP x p) l := by
        funext p
        simp only [takenP, placeP_yes h, List.mem_cons]
        apply propext
        constructor
        · rintro (h1 | ⟨y, (rfl | hy), h2⟩)
          · exact Or.inl (Or.inl h1)
          · exact Or.inl (Or.inr h2)
          · exact Or.inr ⟨y, hy, h2⟩
        · rintro ((h1 | h1) | ⟨y, hy, h2⟩)
          · exact Or.inl h1
          · exact Or.inr ⟨x, Or.inl rfl, h1⟩
          · exact Or.inr ⟨y, Or.inr hy, h2⟩
      rw [List.cons_append, placeP_yes h, placeP_yes h, ih, e]
      rfl
    · have e : takenP T (x :: l) = takenP T l := by
        funext p
        simp only [takenP, placeP_no h]
      rw [List.cons_append, placeP_no h, placeP_no h, ih, e]
      rfl

theorem placeP_mem (l : List PSp) : ∀ T x, x ∈ (placeP T l).1 → x ∈ l ∧ rightP x := by
  induction l with
  | nil => intro T x h; simp [placeP] at h
  | cons y l ih =>
    intro T x h
    by_cases hy : rightP y ∧ freeP y T
    · rw [placeP_yes hy] at h
      rcases List.mem_cons.1 h with rfl | h
      · exact ⟨by simp, hy.1⟩
      · have := ih _ x h
        exact ⟨by simp [this.1], this.2⟩
    · rw [placeP_no hy] at h
      have := ih _ x h
      exact ⟨by simp [this.1], this.2⟩
theorem placeP_blocked (l : List PSp) : ∀ T p, p ∈ (placeP T l).2 → ∃ x, x ∈ l ∧ x.1 = p := by
  induction l with
  | nil => intro T x h; simp [placeP] at h
  | cons y l ih =>
    intro T p h
    by_cases hy : rightP y ∧ freeP y T
    · rw [placeP_yes hy] at h
      obtain ⟨x, h1, h2⟩ := ih _ p h
      exact ⟨x, by simp [h1], h2⟩
    · rw [placeP_no hy] at h
      rcases List.mem_cons.1 h with rfl | h
      · exact ⟨y, by simp, rfl⟩
      · obtain ⟨x, h1, h2⟩ := ih _ p h
        exact ⟨x, by simp [h1], h2⟩
theorem placeP_length (l : List PSp) : ∀ T, (placeP T l).1.length + (placeP T l).2.length = l.length := by
  induction l with
  | nil => intro T; simp [placeP]
  | cons y l ih =>
    intro T
    by_cases hy : rightP y ∧ freeP y T
    · rw [placeP_yes hy]
      have := ih (fun p => T p ∨ tileP y p)
      simp only [List.length_cons]
      omega
    · rw [placeP_no hy]
      have := ih T
      simp only [List.length_cons]
      omega

/-- spills in order of their cells -/
def inOrder (l : List PSp) : Prop := l.Pairwise fun x y => aheadP x.1 y.1

/-- what is placed is free of what was taken, but for its own cell -/
theorem placeP_free (l : List PSp) : ∀ T x, x ∈ (placeP T l).1 → freeP x T := by
  induction l with
  | nil => intro T x h; simp [placeP] at h
  | cons y l ih =>
    intro T x h
    by_cases hy : rightP y ∧ freeP y T
    · rw [placeP_yes hy] at h
      rcases List.mem_cons.1 h with rfl | h
      · exact hy.2
      · intro p h1 h2 h3
        exact ih _ x h p h1 h2 (Or.inl h3)
    · rw [placeP_no hy] at h
      exact ih _ x h

/-- no two that are placed have a place in common, if all their cells are taken -/
theorem placeP_apart (l : List PSp) : ∀ T, (∀ x, x ∈ l → T x.1) → inOrder l → (placeP T l).1.Pairwise fun x y => ∀ p, tileP x p → ¬ tileP y p := by
  induction l with
  | nil => intro T _ _; simp [placeP]
  | cons y l ih =>
    intro T hT ho
    have ho' := List.pairwise_cons.1 ho
    by_cases hy : rightP y ∧ freeP y T
    · rw [placeP_yes hy]
      refine List.pairwise_cons.2 ⟨fun x hx p h1 h2 => ?_, ih _ (fun x hx => Or.inl (hT x (by simp [hx]))) ho'.2⟩
      have hm := (placeP_mem l _ x hx).1
      by_cases hp : p = x.1
      · subst hp
        exact hy.2 x.1 h1 (ho'.1 x hm).ne.symm (hT x (by simp [hm]))
      · exact placeP_free l _ x hx p h2 hp (Or.inr h1)
    · rw [placeP_no hy]
      exact ih _ (fun x hx => hT x (by simp [hx])) ho'.2

/-- the ones that are placed stand in order -/
theorem placeP_sub (l : List PSp) : ∀ T, (placeP T l).1.Sublist l := by
  induction l with
  | nil => intro T; simp [placeP]
  | cons y l ih =>
    intro T
    by_cases hy : rightP y ∧ freeP y T
    · rw [placeP_yes hy]
      exact (ih _).cons_cons y
    · rw [placeP_no hy]
      exact (ih _).cons y
theorem placeP_subAt (l : List PSp) : ∀ T, (placeP T l).2.Sublist (l.map (·.1)) := by
  induction l with
  | nil => intro T; simp [placeP]
  | cons y l ih =>
    intro T
    by_cases hy : rightP y ∧ freeP y T
    · rw [placeP_yes hy]
      exact (ih _).cons y.1
    · rw [placeP_no hy]
      exact (ih _).cons_cons y.1
end Go.Proofs.YthkjmplcmfabfaaGreatDoor
