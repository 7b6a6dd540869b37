/- The islands of a graph and their order, by what leads to what; they are told apart by nothing else. No program in sight. No condition. -/
import Derived.Test.YtagfgbmaibadjaaIsPlain2
namespace Go.Proofs.Ytagfgbmaibadjaa

/-- i may be next: all that it leads to is in its own island, or there already -/
def Ready (g : Gr) (done : List Nat) (i : Nat) : Prop := i < g.length ∧ i ∉ done ∧ ∀ j, Leads g i j → Same g i j ∨ j ∈ done
open Classical in
noncomputable def island (g : Gr) (i : Nat) : List Nat := (List.range g.length).filter (fun j => decide (Same g i j))
structure IsParts (g : Gr) (out : List (List Nat)) : Prop where
  each : ∀ k l, out[k]? = some l → ∃ i, Ready g (out.take k).flatten i ∧ (∀ j, Ready g (out.take k).flatten j → i ≤ j) ∧ l = island g i
  full : ∀ j, j < g.length → j ∈ out.flatten

theorem leads_lt {g : Gr} (R : RightG g) {i j : Nat} (h : Leads g i j) (hi : i < g.length) : j < g.length := by
  induction h with
  | refl => exact hi
  | step e _ ih => exact ih (R _ _ e)

/-- graphs in which the same leads to the same have the same islands in the same order -/
theorem isParts_unique {g g' : Gr} {out out' : List (List Nat)} (R : RightG g) (R' : RightG g') (hl : g.length = g'.length) (hs : ∀ i j, i < g.length → j < g.length → (Leads g i j ↔ Leads g' i j)) (h : IsParts g out) (h' : IsParts g' out') : out = out' := by
  have same : ∀ i j, i < g.length → j < g.length → (Same g i j ↔ Same g' i j) := fun i j hi hj => by
    unfold Same; rw [hs i j hi hj, hs j i hj hi]
  have isl : ∀ i, i < g.length → island g i = island g' i := fun i hi => by
    unfold island
    rw [← hl]
    refine List.filter_congr (fun j hj => ?_)
    simp only [List.mem_range] at hj
    have := same i j hi hj
    by_cases e : Same g i j
    · simp [e, this.1 e]
    · have e' : ¬ Same g' i j := fun h => e (this.2 h)
      simp [e, e']
  have rdy : ∀ d i, Ready g d i ↔ Ready g' d i := fun d i => by
    unfold Ready
    rw [← hl]
    refine and_congr_right fun hi => and_congr_right fun _ => ⟨fun h j hj => ?_, fun h j hj => ?_⟩
    · have hjl : j < g.length := hl ▸ leads_lt R' hj (hl ▸ hi)
      exact (h j ((hs i j hi hjl).2 hj)).imp (same i j hi hjl).1 id
    · have hjl := leads_lt R hj hi
      exact (h j ((hs i j hi hjl).1 hj)).imp (same i j hi hjl).2 id
  have key : ∀ k, k ≤ out.length → k ≤ out'.length → out.take k = out'.take k := by
    intro k
    induction k with
    | zero => intro _ _; simp
    | succ k ih =>
      intro h1 h2
      have e := ih (by omega) (by omega)
      obtain ⟨i, r1, l1, p1⟩ := h.each k (out[k]'(by omega)) (by simp)
      obtain ⟨i', r2, l2, p2⟩ := h'.each k (out'[k]'(by omega)) (by simp)
      rw [e] at r1 l1
      have hi := l1 i' ((rdy _ _).2 r2)
      have hi' := l2 i ((rdy _ _).1 r1)
      have : i = i' := by omega
      subst this
      rw [List.take_succ_eq_append_getElem (by omega), List.take_succ_eq_append_getElem (by omega), e, p1, p2, isl i r1.1]
  rcases Nat.lt_trichotomy out.length out'.length with hlt | heq | hgt
  · exfalso
    have e := key out.length (Nat.le_refl _) (by omega)
    rw [List.take_length] at e
    obtain ⟨i, r, _, _⟩ := h'.each out.length (out'[out.length]) (by simp)
    rw [← e] at r
    exact r.2.1 (h.full i (hl ▸ r.1))
  · have e := key out.length (Nat.le_refl _) (by omega)
    rw [List.take_length, heq, List.take_length] at e
    exact e
  · exfalso
    have e := key out'.length (by omega) (Nat.le_refl _)
    rw [List.take_length] at e
    obtain ⟨i, r, _, _⟩ := h.each out'.length (out[out'.length]) (by simp)
    rw [e] at r
    exact r.2.1 (h'.full i (hl ▸ r.1))

/-- what a set of nodes grows to in so many steps -/
def grow (g : Gr) : Nat → List Nat → List Nat
  | 0, l => l
  | k + 1, l => grow g k ((List.range g.length).filter fun j => l.contains j || l.any fun i => (edges g i).contains j)
def closedB (g : Gr) (l : List Nat) : Bool := l.all fun i => (edges g i).all fun j => l.contains j
theorem grow_leads {g : Gr} {i : Nat} : ∀ (k : Nat) (l : List Nat), (∀ j ∈ l, Leads g i j) → ∀ j ∈ grow g k l, Leads g i j
  | 0, _, h => h
  | k + 1, l, h => by
    refine grow_leads k _ (fun j hj => ?_)
    simp only [List.mem_filter, Bool.or_eq_true, List.contains_iff_mem, List.any_eq_true] at hj
    rcases hj.2 with h1 | ⟨m, h1, h2⟩
    · exact h j h1
    · exact (h m h1).trans (.one h2)
theorem closed_leads {g : Gr} {l : List Nat} (h : closedB g l = true) {i j : Nat} (hl : Leads g i j) (hi : i ∈ l) : j ∈ l := by
  induction hl with
  | refl => exact hi
  | step e _ ih =>
    unfold closedB at h
    simp only [List.all_eq_true, List.contains_iff_mem] at h
    exact ih (h _ hi _ e)
theorem leads_iff {g : Gr} {i k : Nat} (h : closedB g (grow g k [i]) = true) (hi : i ∈ grow g k [i]) (j : Nat) : Leads g i j ↔ j ∈ grow g k [i] :=
  ⟨fun hl => closed_leads h hl hi, fun hj => grow_leads k [i] (by intro m hm; simp at hm; subst hm; exact .refl _) j hj⟩

/-- a list of islands checked by reckoning -/
def checkB (g : Gr) (out : List (List Nat)) : Bool :=
  let n := g.length
  let to := fun i => grow g n [i]
  let same := fun i j => (to i).contains j && (to j).contains i
  let ready := fun (d : List Nat) i => !d.contains i && (to i).all fun j => same i j || d.contains j
  ((List.range n).all fun i => closedB g (to i) && (to i).contains i) &&
  ((List.range out.length).all fun k =>
    let d := (out.take k).flatten
    (List.range n).any fun i => ready d i && ((List.range n).all fun j => !ready d j || decide (i ≤ j)) && decide (out[k]? = some ((List.range n).filter fun j => same i j))) &&
  (List.range n).all fun j => out.flatten.contains j

theorem isParts_check {g : Gr} (R : RightG g) {out : List (List Nat)} (h : checkB g out = true) : IsParts g out := by
  unfold checkB at h
  simp only [Bool.and_eq_true] at h
  obtain ⟨⟨h1, h2⟩, h3⟩ := h
  simp only [List.all_eq_true, List.mem_range, Bool.and_eq_true, List.contains_iff_mem] at h1
  have ld : ∀ i, i < g.length → ∀ j, Leads g i j ↔ j ∈ grow g g.length [i] := fun i hi j => leads_iff (h1 i hi).1 (h1 i hi).2 j
  have sm : ∀ i j, i < g.length → j < g.length → (Same g i j ↔ ((grow g g.length [i]).contains j && (grow g g.length [j]).contains i) = true) := fun i j hi hj => by
    unfold Same
    rw [ld i hi, ld j hj]
    simp
  have rd : ∀ d i, i < g.length → (Ready g d i ↔ (!d.contains i && (grow g g.length [i]).all fun j => ((grow g g.length [i]).contains j && (grow g g.length [j]).contains i) || d.contains j) = true) := fun d i hi => by
    unfold Ready
    simp only [Bool.and_eq_true, List.all_eq_true, Bool.not_eq_true', Bool.or_eq_true]
    constructor
    · rintro ⟨_, k1, k2⟩
      refine ⟨by simpa using k1, fun j hj => ?_⟩
      have hl := (ld i hi j).2 hj
      rcases k2 j hl with k3 | k3
      · exact .inl (by have := (sm i j hi (leads_lt R hl hi)).1 k3; simpa using this)
      · exact .inr (by simpa using k3)
    · rintro ⟨k1, k2⟩
      refine ⟨hi, by simpa using k1, fun j hj => ?_⟩
      rcases k2 j ((ld i hi j).1 hj) with k3 | k3
      · exact .inl ((sm i j hi (leads_lt R hj hi)).2 (by simpa using k3))
      · exact .inr (by simpa using k3)
  refine ⟨fun k l hk => ?_, fun j hj => ?_⟩
  · simp only [List.all_eq_true, List.mem_range, List.any_eq_true, Bool.and_eq_true, decide_eq_true_eq, Bool.or_eq_true] at h2
    have hkl : k < out.length := (List.getElem?_eq_some_iff.1 hk).1
    obtain ⟨i, hi, ⟨k1, k2⟩, k3⟩ := h2 k hkl
    refine ⟨i, (rd _ i hi).2 (by simpa using k1), fun j hj => ?_, ?_⟩
    · rcases k2 j hj.1 with k4 | k4
      · have := (rd _ j hj.1).1 hj
        rw [this] at k4
        cases k4
      · exact k4
    · rw [hk] at k3
      rw [Option.some.inj k3]
      unfold island
      refine List.filter_congr (fun j hj => ?_)
      simp only [List.mem_range] at hj
      have := sm i j hi hj
      by_cases e : Same g i j
      · rw [this.1 e]; simp [e]
      · have e' : ((grow g g.length [i]).contains j && (grow g g.length [j]).contains i) = false := by
          rw [Bool.eq_false_iff]; exact fun h => e (this.2 h)
        rw [e']; simp [e]
  · simp only [List.all_eq_true, List.mem_range, List.contains_iff_mem] at h3
    exact h3 j hj

theorem example1 : IsParts [[1], [2], [1]] [[1, 2], [0]] := isParts_check (by intro i j h; rcases i with _ | _ | _ | i <;> simp [edge, edges] at h <;> simp [h]) (by decide +kernel)
theorem example2 : IsParts [[], [0], []] [[0], [1], [2]] := isParts_check (by intro i j h; rcases i with _ | _ | _ | i <;> simp [edge, edges] at h <;> simp [h]) (by decide +kernel)
theorem example3 : IsParts [[2], [], []] [[1], [2], [0]] := isParts_check (by intro i j h; rcases i with _ | _ | _ | i <;> simp [edge, edges] at h <;> simp [h]) (by decide +kernel)

end Go.Proofs.Ytagfgbmaibadjaa
