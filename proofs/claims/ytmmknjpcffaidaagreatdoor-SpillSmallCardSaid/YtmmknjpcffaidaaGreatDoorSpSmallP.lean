/- Plain facts for the law SpillSmall: one spill alone; no program in sight. No condition. -/
import Derived.Test.YtmmknjpcffaidaaGreatDoorSpLawP
import Derived.Test.YtmmknjpcffaidaaGreatDoorSpMay
namespace Go.Proofs.YtmmknjpcffaidaaGreatDoor

section
variable {A : List PAt} {x : PSp}
open Classical in
theorem place_single (T : PAt → Prop) (x : PSp) : placeP T [x] = if rightP x ∧ freeP x T then ([x], []) else ([], [x.1]) := by
  by_cases h : rightP x ∧ freeP x T
  · rw [placeP_yes h, if_pos h]
    simp [placeP]
  · rw [placeP_no h, if_neg h]
    simp [placeP]
theorem single_yes {T : PAt → Prop} (h : rightP x ∧ freeP x T) : (placeP T [x]).1 = [x] ∧ (placeP T [x]).2 = [] := by
  rw [placeP_yes h]
  exact ⟨by simp [placeP], by simp [placeP]⟩
theorem single_no {T : PAt → Prop} (h : ¬ (rightP x ∧ freeP x T)) : (placeP T [x]).1 = [] ∧ (placeP T [x]).2 = [x.1] := by
  rw [placeP_no h]
  exact ⟨by simp [placeP], by simp [placeP]⟩
/-- a single spill may be, where its cell is -/
theorem may_single (h : x.1 ∈ A) (h1 : 1 ≤ x.2.1) (h2 : x.2.1 ≤ 5) (h3 : 1 ≤ x.2.2) (h4 : x.2.2 ≤ 5) : mayP A [x] := by
  intro j hj y hy
  have hj0 : j = 0 := by simp at hj; omega
  subst hj0
  simp only [List.getElem?_cons_zero, Option.some.injEq] at hy
  subst hy
  have hp : x.2.1 * x.2.2 ≤ 25 := Int.le_trans (Int.mul_le_mul h2 h4 (by omega) (by omega)) (by decide)
  exact ⟨⟨h, h1, h3, by omega, by omega, by omega⟩, fun _ h0 => by omega⟩
/-- a spill of one cell is placed -/
theorem one_placed (h : InTwo x.1) (T : PAt → Prop) : rightP (x.1, 1, 1) ∧ freeP (x.1, 1, 1) T := by
  unfold InTwo at h
  refine ⟨by unfold rightP; simp only; omega, fun p ht hne _ => hne ?_⟩
  unfold tileP at ht
  simp only at ht
  obtain ⟨p1, p2, p3⟩ := p
  obtain ⟨⟨x1, x2, x3⟩, x4, x5⟩ := x
  simp only [Prod.mk.injEq] at ht ⊢
  omega
/-- a smaller one is placed, too -/
theorem less_placed {r c : Int} {T : PAt → Prop} (h : rightP x ∧ freeP x T) (h1 : 1 ≤ r) (h2 : r ≤ x.2.1) (h3 : 1 ≤ c) (h4 : c ≤ x.2.2) : rightP (x.1, r, c) ∧ freeP (x.1, r, c) T := by
  obtain ⟨hr, hf⟩ := h
  refine ⟨by unfold rightP at hr ⊢; simp only; omega, fun p ht hne => hf p ?_ hne⟩
  unfold tileP at ht ⊢
  simp only at ht
  omega
/-- where its own cell alone is, it is placed just if it stays on the sheet -/
theorem alone_placed (h : InTwo x.1) (h1 : 1 ≤ x.2.1) (h3 : 1 ≤ x.2.2) : (rightP x ∧ freeP x (fun p => p ∈ [x.1])) ↔ (x.1.2.1 + x.2.1 ≤ 200 ∧ x.1.2.2 + x.2.2 ≤ 52) := by
  unfold InTwo at h
  constructor
  · rintro ⟨hr, -⟩
    unfold rightP at hr
    omega
  · intro hh
    refine ⟨by unfold rightP; omega, fun p _ hne hp => hne ?_⟩
    simpa using hp
theorem alone_rising (p : PAt) : Rising [p] := by simp [Rising]
theorem alone_sheet (p : PAt) (s : Int) : onSheet [p] s = if p.1 = s then [p] else [] := by
  unfold onSheet
  by_cases h : p.1 = s
  · simp [h]
  · simp [h]
end
end Go.Proofs.YtmmknjpcffaidaaGreatDoor
