/- Plain: islands numbered the other way: what a node reads has no lesser number. What waits for what, and what is put out. No program in sight. -/
import Derived.Test.YtagfgbmaibadjaaIsIslesW
namespace Go.Proofs.Ytagfgbmaibadjaa

structure NumU (g : Gr) (c : Nat → Nat) (m : Nat) : Prop where
  lt : ∀ i, i < g.length → c i < m
  sur : ∀ p, p < m → ∃ i, i < g.length ∧ c i = p
  up : ∀ i j, edge g i j → c i ≤ c j
  same : ∀ i j, i < g.length → j < g.length → (c i = c j ↔ Same g i j)

theorem numU_of {g : Gr} {order : List Nat} {c : Nat → Option Nat} {m : Nat} (K : Ks g order 0 c m) (O : Order g order) (R : RightG g) :
    NumU g (fun i => (c i).getD 0) m ∧ ∀ i, i < g.length → islI c i = (((c i).getD 0 : Nat) : Int) := by
  have e : ∀ i, i < g.length → c i = some ((c i).getD 0) := fun i hi => by
    obtain ⟨q, hq⟩ := List.getElem?_of_mem ((O.mem i).2 hi)
    have h := K.top q i (Nat.zero_le _) hq
    obtain ⟨v, hv⟩ := Option.ne_none_iff_exists'.1 h
    rw [hv]; rfl
  refine ⟨⟨fun i hi => (K.lt i _ (e i hi)).1, fun p hp => ?_, fun i j hij => ?_, fun i j hi hj => K.scc i j _ _ (e i hi) (e j hj)⟩, fun i hi => ?_⟩
  · obtain ⟨x, hx⟩ := K.sur p hp
    exact ⟨x, (K.lt x p hx).2, by simp [hx]⟩
  · obtain ⟨v', h1, h2⟩ := K.pred i j _ hij (e j (R i j hij))
    simp only [h1, Option.getD_some]
    exact h2
  · have := e i hi
    unfold islI
    rw [this]
    rfl

section
variable {g : Gr} {c : Nat → Nat} {m : Nat} {P : List Nat}
theorem NumU.fst (N : NumU g c m) {p : Nat} (hp : p < m) : fstOf g c p < g.length ∧ c (fstOf g c p) = p ∧ (partOf g c p)[0]? = some (fstOf g c p) ∧ ∀ i, i < g.length → c i = p → fstOf g c p ≤ i := by
  obtain ⟨i, hi, hc⟩ := N.sur p hp
  have hm : i ∈ partOf g c p := mem_part.2 ⟨hi, hc⟩
  have hl : 0 < (partOf g c p).length := List.length_pos_of_mem hm
  have h0 : (partOf g c p)[0]? = some (partOf g c p)[0] := List.getElem?_eq_getElem hl
  have e : fstOf g c p = (partOf g c p)[0] := by unfold fstOf; rw [h0]; rfl
  have hmem := mem_part.1 (e ▸ List.getElem_mem hl : fstOf g c p ∈ partOf g c p)
  refine ⟨hmem.1, hmem.2, by rw [h0, e], fun j hj hcj => ?_⟩
  have hjm : j ∈ partOf g c p := mem_part.2 ⟨hj, hcj⟩
  obtain ⟨q, hq, ej⟩ := List.getElem_of_mem hjm
  by_cases hq0 : q = 0
  · subst hq0; rw [e, ej]; exact Nat.le_refl _
  · have hp : (partOf g c p).Pairwise (· < ·) := List.pairwise_lt_range.filter _
    have := List.pairwise_iff_getElem.1 hp 0 q hl hq (by omega)
    rw [e, ← ej]
    omega
theorem NumU.island (N : NumU g c m) {i : Nat} (hi : i < g.length) : Go.Proofs.Ytagfgbmaibadjaa.island g i = partOf g c (c i) := by
  unfold Go.Proofs.Ytagfgbmaibadjaa.island partOf
  refine List.filter_congr (fun j hj => ?_)
  simp only [List.mem_range] at hj
  have := N.same i j hi hj
  by_cases e : Same g i j
  · simp [e, (this.2 e).symm]
  · have e' : ¬ c j = c i := fun h => e (this.1 h.symm)
    simp [e, e']
theorem NumU.ready_iff (N : NumU g c m) (R : RightG g) {D : List Nat} (hcl : ∀ p ∈ D, ∀ r, (p, r) ∈ pairs g c → r ∈ D) {i : Nat} (hi : i < g.length) :
    Ready g (D.map (partOf g c)).flatten i ↔ c i ∉ D ∧ wants (pairs g c) D (c i) = 0 := by
  unfold Ready
  rw [mem_flat, wants_zero]
  constructor
  · rintro ⟨_, h1, h2⟩
    refine ⟨fun h => h1 ⟨hi, h⟩, fun r hr => ?_⟩
    obtain ⟨k, j, he, hk, hj, hne⟩ := mem_pairs.1 hr
    have hkl := edge_lt he
    have hs : Same g i k := (N.same i k hi hkl).1 hk.symm
    have hjl := R k j he
    rcases h2 j (hs.1.trans (.one he)) with h3 | h3
    · have := (N.same i j hi hjl).2 h3; omega
    · exact hj ▸ (mem_flat.1 h3).2
  · rintro ⟨h1, h2⟩
    refine ⟨hi, fun h => h1 h.2, fun j hl => ?_⟩
    have key : ∀ k j, Leads g k j → k < g.length → (c k = c i ∨ c k ∈ D) → (c j = c i ∨ c j ∈ D) := by
      intro k j hl
      induction hl with
      | refl => exact fun _ h => h
      | @step a b d e _ ih =>
        intro ha h
        have hb := R a b e
        refine ih hb ?_
        by_cases hab : c a = c b
        · rw [← hab]; exact h
        · have hp : (c a, c b) ∈ pairs g c := mem_pairs.2 ⟨a, b, e, rfl, rfl, hab⟩
          rcases h with h | h
          · exact .inr (h2 (c b) (h ▸ hp))
          · exact .inr (hcl (c a) h (c b) hp)
    have hjl := leads_lt R hl hi
    rcases key i j hl hi (.inl rfl) with h | h
    · exact .inl ((N.same i j hi hjl).1 h.symm)
    · exact .inr (mem_flat.2 ⟨hjl, h⟩)

theorem NumU.parts (N : NumU g c m) (R : RightG g) (O : Out g c m P) (hend : P.length = m) : IsParts g (P.map (partOf g c)) := by
  refine ⟨fun k l hk => ?_, fun j hj => ?_⟩
  · rw [List.getElem?_map, Option.map_eq_some_iff] at hk
    obtain ⟨p, hp, rfl⟩ := hk
    have hpm := O.lt p (List.mem_of_getElem? hp)
    obtain ⟨e1, e2, e3⟩ := O.each k p hp
    obtain ⟨f1, f2, _, _⟩ := N.fst hpm
    rw [← List.map_take]
    have hcl := out_take O k
    refine ⟨fstOf g c p, (N.ready_iff R hcl f1).2 ⟨by rw [f2]; exact e2, by rw [f2]; exact e1⟩, fun j hj => ?_, ?_⟩
    · have hjl := hj.1
      obtain ⟨g1, g2⟩ := (N.ready_iff R hcl hjl).1 hj
      have := e3 (c j) (N.lt j hjl) g1 g2
      have := (N.fst (N.lt j hjl)).2.2.2 j hjl rfl
      omega
    · rw [N.island f1, f2]
  · rw [mem_flat]
    refine ⟨hj, ?_⟩
    refine Classical.byContradiction fun h => ?_
    have := O.room (N.lt j hj) h
    omega

/-- one may be next -/
theorem NumU.next (N : NumU g c m) (R : RightG g) (_O : Out g c m P) (h : P.length < m) : ∃ i, i < g.length ∧ c i ∉ P ∧ wants (pairs g c) P (c i) = 0 := by
  have hex : ∃ q, q < m ∧ q ∉ P := by
    refine Classical.byContradiction fun hn => ?_
    have := sub_len (List.range m) P List.nodup_range (fun x hx => by
      simp only [List.mem_range] at hx
      refine Classical.byContradiction fun hx2 => hn ⟨x, hx, hx2⟩)
    rw [List.length_range] at this
    omega
  have key : ∀ t q, m - q ≤ t → q < m → q ∉ P → ∃ i, i < g.length ∧ c i ∉ P ∧ wants (pairs g c) P (c i) = 0 := by
    intro t
    induction t with
    | zero => intro q h1 h2 _; omega
    | succ t ih =>
      intro q h1 h2 h3
      obtain ⟨i, hi, rfl⟩ := N.sur q h2
      by_cases hw : wants (pairs g c) P (c i) = 0
      · exact ⟨i, hi, h3, hw⟩
      · rw [wants_zero] at hw
        have : ∃ r, (c i, r) ∈ pairs g c ∧ r ∉ P := by
          refine Classical.byContradiction fun hn => hw (fun r hr => ?_)
          exact Classical.byContradiction fun hr2 => hn ⟨r, hr, hr2⟩
        obtain ⟨r, hr, hrP⟩ := this
        obtain ⟨k, j, he, hk, hj, hne⟩ := mem_pairs.1 hr
        have h4 := N.up k j he
        by_cases hrm : r < m
        · exact ih r (by omega) hrm hrP
        · have := N.lt j (R k j he)
          omega
  obtain ⟨q, h1, h2⟩ := hex
  exact key m q (by omega) h1 h2
/-- the least one that may be next -/
theorem NumU.least (N : NumU g c m) {i : Nat} (hi : i < g.length) (h : ∀ j, j < i → ¬ (c j ∉ P ∧ wants (pairs g c) P (c j) = 0)) {q : Nat} (hq : q < m) (hqP : q ∉ P) (hw : wants (pairs g c) P q = 0) : fstOf g c (c i) ≤ fstOf g c q := by
  have h1 := (N.fst (N.lt i hi)).2.2.2 i hi rfl
  obtain ⟨_, f2, _, _⟩ := N.fst hq
  have : ¬ fstOf g c q < i := fun hl => h _ hl ⟨by rw [f2]; exact hqP, by rw [f2]; exact hw⟩
  omega
end

theorem countP_or {α : Type} {p q r : α → Bool} (el : List α) (h : ∀ e, r e = (p e || q e)) (hd : ∀ e, ¬ (p e = true ∧ q e = true)) : el.countP r = el.countP p + el.countP q := by
  induction el with
  | nil => rfl
  | cons e el ih =>
    simp only [List.countP_cons, ih, h e]
    have := hd e
    cases h1 : p e <;> cases h2 : q e <;> simp_all <;> omega
theorem sum_countP {el : Pairs} {pr : Nat × Nat → Bool} : ∀ (l : List Nat), l.Nodup → (l.map fun x => el.countP fun e => e.2 == x && pr e).sum = el.countP fun e => l.contains e.2 && pr e
  | [], _ => by simp
  | x :: l, hd => by
    rw [List.map_cons, List.sum_cons, sum_countP l (List.nodup_cons.1 hd).2]
    refine (countP_or el (fun e => ?_) (fun e he => ?_)).symm
    · rw [List.contains_cons]
      cases h1 : e.2 == x <;> simp
    · simp only [Bool.and_eq_true, beq_iff_eq, List.contains_iff_mem] at he
      exact (List.nodup_cons.1 hd).1 (he.1.1 ▸ he.2.1)
theorem pairs_edges (g : Gr) (c : Nat → Nat) : pairs g c = ((edgesAt g g.length 0).filter fun e => c e.2 != c e.1).map fun e => (c e.1, c e.2) := by
  rw [edgesAt_zero]
  unfold pairs
  rw [List.filter_flatMap, List.map_flatMap]
  congr 1
  funext k
  unfold pairsOf
  rw [List.filter_map, List.map_map]
  rfl
/-- who reads the nodes of p, node by node, as often as it is told by the pairs -/
theorem back_count {g : Gr} {c : Nat → Nat} (R : RightG g) (p q : Nat) : (readers (pairs g c) p).count q = ((partOf g c p).flatMap (backOf g)).countP fun y => c y == q && c y != p := by
  have hb : ∀ x, (backOf g x).countP (fun y => c y == q && c y != p) = (edgesAt g g.length 0).countP fun e => e.2 == x && (c e.1 == q && c e.1 != p) := fun x => by
    unfold backOf readers
    rw [List.countP_map, List.countP_filter]
    refine List.countP_congr (fun e _ => ?_)
    simp only [Function.comp_apply]
    rw [Bool.and_comm]
  have hnd : (partOf g c p).Nodup := List.nodup_range.filter _
  have hs := sum_countP (el := edgesAt g g.length 0) (pr := fun e => c e.1 == q && c e.1 != p) (partOf g c p) hnd
  rw [List.countP_flatMap]
  have e1 : (List.countP (fun y => c y == q && c y != p) ∘ backOf g) = fun x => (edgesAt g g.length 0).countP fun e => e.2 == x && (c e.1 == q && c e.1 != p) := by
    funext x
    exact hb x
  rw [e1, hs, pairs_edges, readers, List.filter_map, List.map_map, List.filter_filter, List.count_eq_countP, List.countP_map, List.countP_filter]
  refine List.countP_congr (fun e he => ?_)
  rw [edgesAt_zero] at he
  simp only [List.mem_flatMap, List.mem_range, List.mem_map] at he
  obtain ⟨a, ha, b, hb2, rfl⟩ := he
  have hbl := R a b hb2
  simp only [Function.comp_apply, Bool.and_eq_true, beq_iff_eq, bne_iff_ne, List.contains_iff_mem, mem_part]
  constructor
  · rintro ⟨h1, h2, h3⟩
    exact ⟨⟨hbl, h2⟩, h1, by omega⟩
  · rintro ⟨⟨_, h1⟩, h2, h3⟩
    exact ⟨h2, h1, by omega⟩

/-- what is waited for while one is put out: so much of the rest is still to be taken away -/
def ndU (g : Gr) (c : Nat → Nat) (P : List Nat) (p : Nat) (rest : List Nat) (q : Nat) : Nat := wants (pairs g c) (P ++ [p]) q + rest.countP fun y => c y == q && c y != p
theorem ndU_start {g : Gr} {c : Nat → Nat} {P : List Nat} {p : Nat} (R : RightG g) (hp : p ∉ P) : wants (pairs g c) P = ndU g c P p ((partOf g c p).flatMap (backOf g)) := by
  funext q
  unfold ndU
  rw [← back_count R]
  exact wants_split _ P p q hp
theorem ndU_end {g : Gr} {c : Nat → Nat} {P : List Nat} {p : Nat} : ndU g c P p [] = wants (pairs g c) (P ++ [p]) := by
  funext q
  simp [ndU]
theorem ndU_skip {g : Gr} {c : Nat → Nat} {P : List Nat} {p y : Nat} {rest : List Nat} (h : c y = p) : ndU g c P p (y :: rest) = ndU g c P p rest := by
  funext q
  simp [ndU, h]
theorem ndU_take {g : Gr} {c : Nat → Nat} {P : List Nat} {p y : Nat} {rest : List Nat} (h : c y ≠ p) : ∃ k, ndU g c P p (y :: rest) (c y) = k + 1 ∧ upd (ndU g c P p (y :: rest)) (c y) k = ndU g c P p rest := by
  refine ⟨ndU g c P p rest (c y), ?_, ?_⟩
  · simp only [ndU, List.countP_cons]
    simp [h]
    omega
  · funext q
    unfold upd
    by_cases e : q = c y
    · subst e; simp
    · have : ¬ c y = q := fun h => e h.symm
      simp [e, ndU, this]
theorem pairs_len {g : Gr} {c : Nat → Nat} {M : Nat} (hM : ∀ k, (edges g k).length ≤ M) : (pairs g c).length ≤ (g.length + 1) * M := by
  rw [← pairsAt_all]
  exact pairsAt_length hM _ _
theorem wants_app (L : Pairs) (a b q : Nat) : wants (L ++ [(a, b)]) [] q = wants L [] q + if q = a then 1 else 0 := by
  unfold wants
  rw [List.countP_append]
  by_cases h : q = a
  · subst h; simp
  · simp [h, Ne.symm h]
theorem wants_upd (L : Pairs) (a b : Nat) : upd (wants L []) a (wants L [] a + 1) = wants (L ++ [(a, b)]) [] := by
  funext q
  rw [wants_app]
  unfold upd
  by_cases h : q = a
  · subst h; simp
  · simp [h]
theorem pairsAt_yes {g : Gr} {c : Nat → Nat} {i k x : Nat} (h : (edges g i)[k]? = some x) (hc : c x ≠ c i) : pairsAt g c i (k + 1) = pairsAt g c i k ++ [(c i, c x)] := by
  rw [pairsAt_step h, if_neg hc]
theorem pairsAt_no {g : Gr} {c : Nat → Nat} {i k x : Nat} (h : (edges g i)[k]? = some x) (hc : c x = c i) : pairsAt g c i (k + 1) = pairsAt g c i k := by
  rw [pairsAt_step h, if_pos hc, List.append_nil]
/-- which nodes are which island's, of the nodes below i -/
def ownAt (c : Nat → Nat) (i : Nat) : Pairs := (List.range i).map fun a => (a, c a)
theorem ownAt_step {c : Nat → Nat} {i : Nat} : ownAt c i ++ [(i, c i)] = ownAt c (i + 1) := by simp [ownAt, List.range_succ]
theorem ownAt_full {g : Gr} {c : Nat → Nat} {p : Nat} : readers (ownAt c g.length) p = partOf g c p := by
  unfold readers ownAt partOf
  rw [List.filter_map, List.map_map]
  simp only [Function.comp_def]
  simp

end Go.Proofs.Ytagfgbmaibadjaa
