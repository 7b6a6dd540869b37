/- Plain: islands found by a second walk, back, in the order in which the first one left the nodes, last ones first. No program in sight. -/
import Derived.Test.YtagfgbmaibadjaaIsLeaveP
namespace Go.Proofs.Ytagfgbmaibadjaa

/-- islands are numbered of all that stand from p on in the order, and of all that lead there -/
structure Ks (g : Gr) (order : List Nat) (p : Nat) (c : Nat → Option Nat) (n : Nat) : Prop where
  lt : ∀ x v, c x = some v → v < n ∧ x < g.length
  top : ∀ q x, p ≤ q → order[q]? = some x → c x ≠ none
  scc : ∀ a b v u, c a = some v → c b = some u → (v = u ↔ Same g a b)
  pred : ∀ u x v, edge g u x → c x = some v → ∃ v', c u = some v' ∧ v' ≤ v
  sur : ∀ v, v < n → ∃ x, c x = some v
/-- the island of r is being found; T u x: whether u reads x is still to be looked at -/
structure Kin (g : Gr) (order : List Nat) (p r d : Nat) (c0 : Nat → Option Nat) (n : Nat) (c : Nat → Option Nat) (T : Nat → Nat → Prop) : Prop where
  old : ∀ x v, c0 x = some v → c x = some v
  new : ∀ x, c0 x = none → c x = none ∨ (c x = some n ∧ Same g r x ∧ ∃ q, d ≤ q ∧ q ≤ p ∧ order[q]? = some x)
  rn : c r = some n
  todo : ∀ u x, edge g u x → c x = some n → c u ≠ none ∨ T u x

theorem ks_start (g : Gr) (order : List Nat) : Ks g order order.length (fun _ => none) 0 :=
  ⟨by simp, fun q x hq hx => by have := (List.getElem?_eq_some_iff.1 hx).1; omega, by simp, by simp, by omega⟩
section
variable {g : Gr} {order : List Nat} {p r d n : Nat} {c c0 : Nat → Option Nat} {T T' : Nat → Nat → Prop}
theorem Ks.leads (K : Ks g order p c n) {a b : Nat} (h : Leads g a b) (hb : c b ≠ none) : c a ≠ none := by
  induction h with
  | refl => exact hb
  | step e _ ih =>
    have h1 := ih hb
    obtain ⟨v, hv⟩ := Option.ne_none_iff_exists'.1 h1
    obtain ⟨v', hv', _⟩ := K.pred _ _ v e hv
    rw [hv']; simp
theorem Ks.skip (K : Ks g order (p + 1) c n) (hr : order[p]? = some r) (h : c r ≠ none) : Ks g order p c n :=
  ⟨K.lt, fun q x hq hx => by
    by_cases e : q = p
    · subst e
      rw [hr] at hx
      exact Option.some.inj hx ▸ h
    · exact K.top q x (by omega) hx, K.scc, K.pred, K.sur⟩
theorem pos_uniq (O : Order g order) {a b x : Nat} (h1 : order[a]? = some x) (h2 : order[b]? = some x) : a = b := by
  obtain ⟨l1, e1⟩ := List.getElem?_eq_some_iff.1 h1
  obtain ⟨l2, e2⟩ := List.getElem?_eq_some_iff.1 h2
  exact (List.getElem_inj O.nd).1 (e1.trans e2.symm)
/-- the island begins -/
theorem Ks.begin (K : Ks g order (p + 1) c0 n) (O : Order g order) (hr : order[p]? = some r) (h0 : c0 r = none) : ∃ d, d ≤ p ∧ (∀ q x, d ≤ q → q ≤ p → order[q]? = some x → Leads g r x) ∧ (∀ q x w, q < d → order[q]? = some x → edge g x w → w ∈ order.take d ∨ w ∉ order.take (p + 1)) ∧
    Kin g order p r d c0 n (upd c0 r (some n)) (fun _ x => x = r) := by
  obtain ⟨d, d1, d2, d3⟩ := O.left p r hr
  refine ⟨d, d1, d2, d3, fun x v hx => ?_, fun x hx => ?_, upd_same _ _ _, fun u x he hx => ?_⟩
  · rw [upd_far _ _ (fun e => by subst e; rw [h0] at hx; simp at hx)]
    exact hx
  · by_cases e : x = r
    · subst e
      exact .inr ⟨upd_same _ _ _, ⟨.refl _, .refl _⟩, p, d1, Nat.le_refl _, hr⟩
    · rw [upd_far _ _ e]
      exact .inl hx
  · by_cases e : x = r
    · exact .inr e
    · rw [upd_far _ _ e] at hx
      have := (K.lt x n hx).1
      omega
theorem Kin.turn (I : Kin g order p r d c0 n c T) (h : ∀ u x, edge g u x → c x = some n → T u x → c u ≠ none ∨ T' u x) : Kin g order p r d c0 n c T' :=
  ⟨I.old, I.new, I.rn, fun u x he hx => by
    rcases I.todo u x he hx with h1 | h1
    · exact .inl h1
    · exact h u x he hx h1⟩
/-- one more node of the island -/
theorem Kin.more (I : Kin g order p r d c0 n c T) (K : Ks g order (p + 1) c0 n) (O : Order g order) (_R : RightG g) (d2 : ∀ q x, d ≤ q → q ≤ p → order[q]? = some x → Leads g r x)
    (d3 : ∀ q x w, q < d → order[q]? = some x → edge g x w → w ∈ order.take d ∨ w ∉ order.take (p + 1)) {u x : Nat} (he : edge g u x) (hx : c x = some n) (hu : c u = none) :
    Kin g order p r d c0 n (upd c u (some n)) (fun a b => T a b ∨ b = u) := by
  have hu0 : c0 u = none := by
    cases h : c0 u with
    | none => rfl
    | some v => rw [I.old u v h] at hu; simp at hu
  have hx0 : c0 x = none := by
    cases h : c0 x with
    | none => rfl
    | some v =>
      have h1 := I.old x v h
      rw [hx] at h1
      have h2 := Option.some.inj h1
      have := (K.lt x v h).1
      omega
  obtain ⟨hxs, qx, x1, x2, x3⟩ : Same g r x ∧ ∃ q, d ≤ q ∧ q ≤ p ∧ order[q]? = some x := by
    rcases I.new x hx0 with h | ⟨_, h1, h2⟩
    · rw [hx] at h; simp at h
    · exact ⟨h1, h2⟩
  obtain ⟨qu, hqu⟩ := List.getElem?_of_mem ((O.mem u).2 (edge_lt he))
  have hqp : qu ≤ p := by
    refine Classical.byContradiction fun h => ?_
    exact K.top qu u (by omega) hqu hu0
  have hdq : d ≤ qu := by
    refine Classical.byContradiction fun h => ?_
    rcases d3 qu u x (by omega) hqu he with h1 | h1
    · obtain ⟨q, hq⟩ := List.getElem?_of_mem h1
      rw [List.getElem?_take] at hq
      split at hq
      · have := pos_uniq O hq x3
        omega
      · simp at hq
    · refine h1 (List.mem_of_getElem? (i := qx) ?_)
      rw [List.getElem?_take, if_pos (by omega)]
      exact x3
  refine ⟨fun y v hy => ?_, fun y hy => ?_, ?_, fun a b hab hb => ?_⟩
  · rw [upd_far _ _ (fun e => by subst e; rw [hu0] at hy; simp at hy)]
    exact I.old y v hy
  · by_cases e : y = u
    · subst e
      exact .inr ⟨upd_same _ _ _, ⟨d2 qu y hdq hqp hqu, (Leads.one he).trans hxs.2⟩, qu, hdq, hqp, hqu⟩
    · rw [upd_far _ _ e]
      exact I.new y hy
  · by_cases e : r = u
    · rw [e]; exact upd_same _ _ _
    · rw [upd_far _ _ e]; exact I.rn
  · by_cases e : b = u
    · exact .inr (.inr e)
    · rw [upd_far _ _ e] at hb
      rcases I.todo a b hab hb with h1 | h1
      · left
        by_cases e2 : a = u
        · rw [e2, upd_same]; simp
        · rw [upd_far _ _ e2]; exact h1
      · exact .inr (.inl h1)
/-- the island is whole -/
theorem Kin.done (I : Kin g order p r d c0 n c (fun _ _ => False)) (K : Ks g order (p + 1) c0 n) (hr : order[p]? = some r) (hrl : r < g.length) (R : RightG g) : Ks g order p c (n + 1) := by
  have cases' : ∀ x v, c x = some v → (c0 x = some v ∧ v < n) ∨ (c0 x = none ∧ v = n ∧ Same g r x) := fun x v hx => by
    cases h : c0 x with
    | some u =>
      have h1 := I.old x u h
      rw [hx] at h1
      have := Option.some.inj h1
      subst this
      exact .inl ⟨rfl, (K.lt x v h).1⟩
    | none =>
      rcases I.new x h with h1 | ⟨h1, h2, _⟩
      · rw [hx] at h1; simp at h1
      · rw [hx] at h1
        exact .inr ⟨rfl, Option.some.inj h1, h2⟩
  have pre : ∀ x, c0 x ≠ none → c x ≠ none := fun x hx => by
    obtain ⟨v, hv⟩ := Option.ne_none_iff_exists'.1 hx
    rw [I.old x v hv]; simp
  refine ⟨fun x v hx => ?_, fun q x hq hx => ?_, fun a b v u ha hb => ?_, fun u x v he hx => ?_, fun v hv => ?_⟩
  · rcases cases' x v hx with ⟨h1, h2⟩ | ⟨_, h2, h3⟩
    · exact ⟨by omega, (K.lt x v h1).2⟩
    · exact ⟨by omega, leads_lt R h3.1 hrl⟩
  · by_cases e : q = p
    · subst e
      rw [hr] at hx
      have := Option.some.inj hx
      subst this
      rw [I.rn]; simp
    · exact pre x (K.top q x (by omega) hx)
  · rcases cases' a v ha with ⟨a1, a2⟩ | ⟨a1, a2, a3⟩ <;> rcases cases' b u hb with ⟨b1, b2⟩ | ⟨b1, b2, b3⟩
    · exact K.scc a b v u a1 b1
    · constructor
      · intro e; omega
      · intro s
        exact (K.leads s.2 (by rw [a1]; simp) b1).elim
    · constructor
      · intro e; omega
      · intro s
        exact (K.leads s.1 (by rw [b1]; simp) a1).elim
    · constructor
      · intro _
        exact ⟨a3.2.trans b3.1, b3.2.trans a3.1⟩
      · intro _; omega
  · rcases cases' x v hx with ⟨h1, h2⟩ | ⟨h1, h2, h3⟩
    · obtain ⟨v', h4, h5⟩ := K.pred u x v he h1
      exact ⟨v', I.old u v' h4, h5⟩
    · subst h2
      rcases I.todo u x he hx with h4 | h4
      · obtain ⟨v', hv'⟩ := Option.ne_none_iff_exists'.1 h4
        refine ⟨v', hv', ?_⟩
        rcases cases' u v' hv' with ⟨_, h5⟩ | ⟨_, h5, _⟩ <;> omega
      · exact h4.elim
  · by_cases e : v = n
    · subst e; exact ⟨r, I.rn⟩
    · obtain ⟨x, hx⟩ := K.sur v (by omega)
      exact ⟨x, I.old x v hx⟩
end
end Go.Proofs.Ytagfgbmaibadjaa
