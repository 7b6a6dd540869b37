/- Plain facts for the laws SpillCover, SpillApart and SpillReasons: what stands of the spills that are placed and blocked; no program in sight. No condition. -/
import Derived.Test.YtmmknjpcffaidaaGreatDoorSpPlace
import Derived.Test.YtmmknjpcffaidaaGreatDoorSpAts
namespace Go.Proofs.YtmmknjpcffaidaaGreatDoor

/-- the spills of a law, which of them are placed, and which are blocked -/
structure Pd (A : List PAt) (own P : List PSp) (Q : List PAt) : Prop where
  rise : Rising A
  two : ∀ p, p ∈ A → InTwo p
  order : inOrder own
  here : ∀ x, x ∈ own → x.1 ∈ A
  size : ∀ x, x ∈ own → 1 ≤ x.2.1 ∧ x.2.1 ≤ 5 ∧ 1 ≤ x.2.2 ∧ x.2.2 ≤ 5
  eP : P = (placeP (fun p => p ∈ A) own).1
  eQ : Q = (placeP (fun p => p ∈ A) own).2

section
variable {A : List PAt} {own P : List PSp} {Q : List PAt}
theorem Pd.apart (h : Pd A own P Q) : P.Pairwise fun x y => ∀ p, tileP x p → ¬ tileP y p := by
  rw [h.eP]
  exact placeP_apart _ _ h.here h.order
theorem Pd.mem (h : Pd A own P Q) {x : PSp} (hx : x ∈ P) : x ∈ own ∧ rightP x := by
  rw [h.eP] at hx
  exact placeP_mem _ _ _ hx
theorem Pd.self (h : Pd A own P Q) {x : PSp} (hx : x ∈ P) : hasP x x.1 := hasP_iff.2 ⟨(h.mem hx).2, tile_self (h.mem hx).2⟩
theorem Pd.cover (h : Pd A own P Q) {x : PSp} (hx : x ∈ P) {p : PAt} (hp : hasP x p) : coverP P p = some x := coverP_one hx hp h.apart
theorem Pd.coverSelf (h : Pd A own P Q) {x : PSp} (hx : x ∈ P) : coverP P x.1 = some x := h.cover hx (h.self hx)
theorem Pd.many (h : Pd A own P Q) (p : PAt) : manyP P p ≤ 1 := manyP_le h.apart
theorem Pd.sum (h : Pd A own P Q) : P.length + Q.length = own.length := by
  rw [h.eP, h.eQ]
  exact placeP_length _ _
/-- no two that are placed meet -/
theorem Pd.noMeet (h : Pd A own P Q) {i k : Nat} {x y : PSp} (hx : P[i]? = some x) (hy : P[k]? = some y) (hk : k < i) : ¬ meetP x y := by
  intro hm
  obtain ⟨-, -, p, h1, h2⟩ := meetP_iff.1 hm
  obtain ⟨i1, ei⟩ := List.getElem?_eq_some_iff.1 hx
  obtain ⟨k1, ek⟩ := List.getElem?_eq_some_iff.1 hy
  have := List.pairwise_iff_getElem.1 h.apart k i k1 i1 hk p
  rw [ei, ek] at this
  exact this h2 h1
/-- of the cells its own alone is in an area that is placed -/
theorem Pd.cells (h : Pd A own P Q) {x : PSp} (hx : x ∈ P) {c : PAt} (hc : c ∈ A) : hasP x c ↔ c = x.1 := by
  constructor
  · intro hh
    apply Classical.byContradiction
    intro hne
    have hf := placeP_free own (fun p => p ∈ A) x (by rw [← h.eP]; exact hx)
    exact hf c (hasP_iff.1 hh).2 hne hc
  · rintro rfl
    exact h.self hx

/-- how many of the first ones are placed, and are blocked -/
noncomputable def pN (A : List PAt) (own : List PSp) (n : Nat) : Nat := (placeP (fun p => p ∈ A) (own.take n)).1.length
noncomputable def qN (A : List PAt) (own : List PSp) (n : Nat) : Nat := (placeP (fun p => p ∈ A) (own.take n)).2.length
theorem pN_zero : pN A own 0 = 0 := rfl
theorem qN_zero : qN A own 0 = 0 := rfl
theorem Pd.pEnd (h : Pd A own P Q) {n : Nat} (hn : own.length ≤ n) : pN A own n = P.length := by
  unfold pN
  rw [List.take_of_length_le hn, h.eP]
theorem Pd.qEnd (h : Pd A own P Q) {n : Nat} (hn : own.length ≤ n) : qN A own n = Q.length := by
  unfold qN
  rw [List.take_of_length_le hn, h.eQ]
theorem Pd.pLe (h : Pd A own P Q) (n : Nat) : pN A own n ≤ P.length := by
  obtain ⟨a, b, h1, h2⟩ := place_take_le (fun p => p ∈ A) own n
  rw [h.eP, h1, List.length_append]
  unfold pN
  omega
theorem Pd.qLe (h : Pd A own P Q) (n : Nat) : qN A own n ≤ Q.length := by
  obtain ⟨a, b, h1, h2⟩ := place_take_le (fun p => p ∈ A) own n
  rw [h.eQ, h2, List.length_append]
  unfold qN
  omega
theorem Pd.step (h : Pd A own P Q) {n : Nat} {x : PSp} (hx : own[n]? = some x) :
    (P[pN A own n]? = some x ∧ Q[qN A own n]? ≠ some x.1 ∧ pN A own (n + 1) = pN A own n + 1 ∧ qN A own (n + 1) = qN A own n) ∨
    (Q[qN A own n]? = some x.1 ∧ P[pN A own n]? ≠ some x ∧ pN A own (n + 1) = pN A own n ∧ qN A own (n + 1) = qN A own n + 1 ∧
      ((200 < x.1.2.1 + x.2.1 ∨ 52 < x.1.2.2 + x.2.2) ∨ (∃ c, c ∈ A ∧ c ≠ x.1 ∧ hasP x c) ∨ ∃ y, y ∈ P ∧ meetP x y ∧ aheadP y.1 x.1)) := by
  by_cases hh : rightP x ∧ freeP x (takenP (fun p => p ∈ A) (own.take n))
  · obtain ⟨h1, h2, h3, h4⟩ := here_placed h.order hx hh
    left
    unfold pN qN
    rw [h.eP, h.eQ]
    exact ⟨h1, h2, by rw [h3]; simp, by rw [h4]⟩
  · obtain ⟨h1, h2, h3, h4⟩ := here_blocked h.order hx hh
    right
    have hw := blocked_why h.order hx hh
    rw [← h.eP] at hw
    unfold pN qN
    rw [h.eP, h.eQ]
    rw [← h.eP]
    refine ⟨h1, by rw [h.eP]; exact h2, by rw [h3], by rw [h4]; simp, ?_⟩
    rcases hw with hw | hw
    · left
      have hm := List.mem_of_getElem? hx
      have h2 := h.two _ (h.here x hm)
      have h3 := h.size x hm
      unfold InTwo at h2
      unfold rightP at hw
      omega
    · exact .inr hw
end
theorem pd_of (L : List PAt) (z : List (Int × Int)) : Pd (atsOf L) (ownOf (atsOf L) z) (placeP (fun p => p ∈ atsOf L) (ownOf (atsOf L) z)).1 (placeP (fun p => p ∈ atsOf L) (ownOf (atsOf L) z)).2 := by
  have hok := atsOf_ok L
  have h := ownOf_ok hok.rising z
  exact ⟨hok.rising, hok.two, h.order, h.here, h.size, rfl, rfl⟩
end Go.Proofs.YtmmknjpcffaidaaGreatDoor
