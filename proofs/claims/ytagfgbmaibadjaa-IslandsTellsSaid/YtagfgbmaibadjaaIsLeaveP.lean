/- Plain: the order in which a walk from all nodes leaves them. No program in sight. -/
import Derived.Test.YtagfgbmaibadjaaIsPos
namespace Go.Proofs.Ytagfgbmaibadjaa

/-- the stack, its top ahead: node, which edge is next, how many were left when it was met -/
abbrev Stk := List (Nat × Nat × Nat)
def stkN (stk : Stk) : List Nat := stk.map fun e => e.1

/-- what the order says of a node that was left: a number d, such that all that were left from there on it leads to, and what was left ahead of there reads only what was left ahead of there, or what is left later -/
def Left (g : Gr) (order : List Nat) (p r : Nat) : Prop :=
  ∃ d, d ≤ p ∧ (∀ q x, d ≤ q → q ≤ p → order[q]? = some x → Leads g r x) ∧ ∀ q x w, q < d → order[q]? = some x → edge g x w → w ∈ order.take d ∨ w ∉ order.take (p + 1)

def Good (g : Gr) (met : Nat → Bool) (order : List Nat) : Stk → Prop
  | [] => True
  | (s, t, d) :: rest => d ≤ order.length ∧ t ≤ (edges g s).length ∧ (∀ q x, d ≤ q → order[q]? = some x → Leads g s x) ∧ (∀ q x w, q < d → order[q]? = some x → edge g x w → w ∈ order.take d ∨ w ∈ stkN rest) ∧
      (∀ r ∈ stkN rest, Leads g r s) ∧ (∀ u w, u < t → (edges g s)[u]? = some w → met w = true) ∧ Good g met order rest

structure Lv (g : Gr) (mt : Nat → Bool) (order : List Nat) (stk : Stk) : Prop where
  nd : (order ++ stkN stk).Nodup
  met : ∀ x, mt x = true ↔ x ∈ order ∨ x ∈ stkN stk
  lt : ∀ x, mt x = true → x < g.length
  fin : ∀ x ∈ order, ∀ w, edge g x w → mt w = true
  left : ∀ p r, order[p]? = some r → Left g order p r
  good : Good g mt order stk

section
variable {g : Gr} {met : Nat → Bool} {order : List Nat} {stk : Stk} {s t d : Nat}
theorem lv_start (g : Gr) : Lv g (fun _ => false) [] [] := ⟨by simp [stkN], by simp [stkN], by simp, by simp, by simp, trivial⟩
theorem Good.mono {met2 : Nat → Bool} (hm : ∀ x, met x = true → met2 x = true) : ∀ {stk : Stk}, Good g met order stk → Good g met2 order stk
  | [], _ => trivial
  | (_s, _t, _d) :: _rest, ⟨h1, h2, h3, h4, h5, h6, h7⟩ => ⟨h1, h2, h3, h4, h5, fun u w hu hw => hm w (h6 u w hu hw), Good.mono hm h7⟩

/-- a node is met -/
theorem Lv.push (L : Lv g met order stk) {k : Nat} (hk : k < g.length) (hm : met k = false) (hl : ∀ r ∈ stkN stk, Leads g r k) : Lv g (upd met k true) order ((k, 0, order.length) :: stk) := by
  have hko : k ∉ order ∧ k ∉ stkN stk := by
    have := (L.met k)
    rw [hm] at this
    simp only [Bool.false_eq_true, false_iff, not_or] at this
    exact this
  have hmono : ∀ x, met x = true → upd met k true x = true := fun x hx => by
    by_cases e : x = k
    · subst e; exact upd_same _ _ _
    · rw [upd_far _ _ e]; exact hx
  refine ⟨?_, fun x => ?_, fun x hx => ?_, fun x hx w hw => hmono w (L.fin x hx w hw), L.left, Nat.le_refl _, Nat.zero_le _, fun q x hq hx => ?_, fun q x w hq hx hw => ?_, hl, fun u w hu => by omega, Good.mono hmono L.good⟩
  · have e : stkN ((k, 0, order.length) :: stk) = k :: stkN stk := rfl
    rw [e, List.nodup_append]
    obtain ⟨n1, n2, n3⟩ := List.nodup_append.1 L.nd
    refine ⟨n1, List.nodup_cons.2 ⟨hko.2, n2⟩, fun a ha b hb => ?_⟩
    rw [List.mem_cons] at hb
    rcases hb with rfl | hb
    · rintro rfl; exact hko.1 ha
    · exact n3 a ha b hb
  · by_cases e : x = k
    · subst e
      rw [upd_same]
      simp [stkN]
    · rw [upd_far _ _ e, L.met x]
      simp only [stkN, List.map_cons, List.mem_cons]
      constructor
      · rintro (h | h)
        · exact .inl h
        · exact .inr (.inr h)
      · rintro (h | h | h)
        · exact .inl h
        · exact (e h).elim
        · exact .inr h
  · by_cases e : x = k
    · subst e; exact hk
    · rw [upd_far _ _ e] at hx
      exact L.lt x hx
  · have := (List.getElem?_eq_some_iff.1 hx).1
    omega
  · rw [List.take_length]
    have := L.fin x (List.mem_of_getElem? hx) w hw
    exact (L.met w).1 this
/-- an edge that leads to what was met -/
theorem Lv.next (L : Lv g met order ((s, t, d) :: stk)) {w : Nat} (hw : (edges g s)[t]? = some w) (hm : met w = true) : Lv g met order ((s, t + 1, d) :: stk) := by
  obtain ⟨h1, h2, h3, h4, h5, h6, h7⟩ := L.good
  have ht := (List.getElem?_eq_some_iff.1 hw).1
  refine ⟨L.nd, L.met, L.lt, L.fin, L.left, h1, ht, h3, h4, h5, fun u v hu hv => ?_, h7⟩
  by_cases e : u = t
  · subst e
    rw [hw] at hv
    exact Option.some.inj hv ▸ hm
  · exact h6 u v (by omega) hv
/-- an edge that leads to what was not met: it is, now -/
theorem Lv.into (L : Lv g met order ((s, t, d) :: stk)) (R : RightG g) {w : Nat} (hw : (edges g s)[t]? = some w) (hm : met w = false) : Lv g (upd met w true) order ((w, 0, order.length) :: (s, t + 1, d) :: stk) := by
  have he : edge g s w := List.mem_of_getElem? hw
  have P := L.push (R s w he) hm (fun r hr => by
    have e : stkN ((s, t, d) :: stk) = s :: stkN stk := rfl
    rw [e, List.mem_cons] at hr
    rcases hr with rfl | hr
    · exact .one he
    · exact (L.good.2.2.2.2.1 r hr).trans (.one he))
  obtain ⟨g1, g2, g3, g4, g5, g6, h1, h2, h3, h4, h5, h6, h7⟩ := P.good
  have ht := (List.getElem?_eq_some_iff.1 hw).1
  refine ⟨P.nd, P.met, P.lt, P.fin, P.left, g1, g2, g3, g4, g5, g6, h1, ht, h3, h4, h5, fun u v hu hv => ?_, h7⟩
  by_cases e : u = t
  · subst e
    rw [hw] at hv
    have := Option.some.inj hv
    subst this
    exact upd_same _ _ _
  · exact h6 u v (by omega) hv
theorem Good.add {x : Nat} : ∀ {stk : Stk}, Good g met order stk → (∀ r ∈ stkN stk, Leads g r x) → Good g met (order ++ [x]) stk
  | [], _, _ => trivial
  | (s, t, d) :: rest, ⟨h1, h2, h3, h4, h5, h6, h7⟩, hx => by
    refine ⟨by simp; omega, h2, fun q y hq hy => ?_, fun q y w hq hy hw => ?_, h5, h6, Good.add h7 (fun r hr => hx r (by simp only [stkN, List.map_cons, List.mem_cons]; exact .inr hr))⟩
    · by_cases hql : q < order.length
      · rw [List.getElem?_append_left hql] at hy
        exact h3 q y hq hy
      · have hlt := (List.getElem?_eq_some_iff.1 hy).1
        have : q = order.length := by simp at hlt; omega
        subst this
        rw [List.getElem?_append_right (Nat.le_refl _)] at hy
        simp at hy
        subst hy
        exact hx s (by simp [stkN])
    · rw [List.take_append_of_le_length h1]
      rw [List.getElem?_append_left (by omega)] at hy
      exact h4 q y w hq hy hw
/-- the top is left -/
theorem Lv.pop (L : Lv g met order ((s, t, d) :: stk)) (ht : t = (edges g s).length) : Lv g met (order ++ [s]) stk := by
  obtain ⟨h1, h2, h3, h4, h5, h6, h7⟩ := L.good
  have e : stkN ((s, t, d) :: stk) = s :: stkN stk := rfl
  have hnd := L.nd
  rw [e] at hnd
  refine ⟨by rw [List.append_assoc]; exact hnd, fun x => ?_, L.lt, fun x hx w hw => ?_, fun p r hp => ?_, Good.add h7 h5⟩
  · rw [L.met x, e]
    simp only [List.mem_cons, List.mem_append, List.not_mem_nil, or_false]
    constructor
    · rintro (h | h | h)
      · exact .inl (.inl h)
      · exact .inl (.inr h)
      · exact .inr h
    · rintro ((h | h) | h)
      · exact .inl h
      · exact .inr (.inl h)
      · exact .inr (.inr h)
  · rw [List.mem_append, List.mem_singleton] at hx
    rcases hx with hx | rfl
    · exact L.fin x hx w hw
    · obtain ⟨u, hu⟩ := List.getElem?_of_mem hw
      exact h6 u w (by rw [ht]; exact (List.getElem?_eq_some_iff.1 hu).1) hu
  · by_cases hpl : p < order.length
    · rw [List.getElem?_append_left hpl] at hp
      obtain ⟨d', a1, a2, a3⟩ := L.left p r hp
      refine ⟨d', a1, fun q x hq hq2 hx => ?_, fun q x w hq hx hw => ?_⟩
      · rw [List.getElem?_append_left (by omega)] at hx
        exact a2 q x hq hq2 hx
      · rw [List.getElem?_append_left (by omega)] at hx
        rw [List.take_append_of_le_length (by omega), List.take_append_of_le_length (by omega)]
        exact a3 q x w hq hx hw
    · have hlt := (List.getElem?_eq_some_iff.1 hp).1
      have hpe : p = order.length := by simp at hlt; omega
      subst hpe
      rw [List.getElem?_append_right (Nat.le_refl _)] at hp
      simp at hp
      subst hp
      refine ⟨d, h1, fun q x hq hq2 hx => ?_, fun q x w hq hx hw => ?_⟩
      · by_cases hql : q < order.length
        · rw [List.getElem?_append_left hql] at hx
          exact h3 q x hq hx
        · have : q = order.length := by omega
          subst this
          rw [List.getElem?_append_right (Nat.le_refl _)] at hx
          simp at hx
          subst hx
          exact .refl _
      · rw [List.getElem?_append_left (by omega)] at hx
        rw [List.take_append_of_le_length h1]
        rcases h4 q x w hq hx hw with h | h
        · exact .inl h
        · right
          rw [List.take_of_length_le (by simp)]
          obtain ⟨_, n2, n3⟩ := List.nodup_append.1 hnd
          intro hm
          rw [List.mem_append, List.mem_singleton] at hm
          rcases hm with hm | rfl
          · exact n3 w hm w (by simp [h]) rfl
          · exact (List.nodup_cons.1 n2).1 h

/-- all were met, and left -/
structure Order (g : Gr) (order : List Nat) : Prop where
  nd : order.Nodup
  mem : ∀ x, x ∈ order ↔ x < g.length
  left : ∀ p r, order[p]? = some r → Left g order p r
theorem Lv.all (L : Lv g met order []) (h : ∀ x, x < g.length → met x = true) : Order g order := by
  refine ⟨by simpa [stkN] using L.nd, fun x => ⟨fun hx => L.lt x ((L.met x).2 (.inl hx)), fun hx => ?_⟩, L.left⟩
  have := (L.met x).1 (h x hx)
  simpa [stkN] using this
end

end Go.Proofs.Ytagfgbmaibadjaa
