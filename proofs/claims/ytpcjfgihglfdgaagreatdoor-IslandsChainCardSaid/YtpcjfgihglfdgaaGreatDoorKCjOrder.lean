/- From the islands' numbers to their order: what is waited for, who may be next, what is so at the end. No program in sight. No condition. What the tables of islands.Parts hold, node by node and edge by edge. No program in sight. No condition. -/
import Derived.Test.YtpcjfgihglfdgaaGreatDoorKCjTab

namespace Go.Proofs.YtpcjfgihglfdgaaGreatDoor.Isl

/-- numbers of islands: c tells each node's, m how many there are -/
structure Num (g : Gr) (c : Nat → Nat) (m : Nat) : Prop where
  lt : ∀ i, i < g.length → c i < m
  sur : ∀ p, p < m → ∃ i, i < g.length ∧ c i = p
  down : ∀ i j, edge g i j → c j ≤ c i
  same : ∀ i j, i < g.length → j < g.length → (c i = c j ↔ Same g i j)

theorem num_of {g : Gr} {s : St} (_R : RightG g) (I : Inv g s []) (h : ∀ i, i < g.length → 0 < s.wn i) : Num g (fun i => (s.isl i).getD 0) s.many ∧ ∀ i, i < g.length → s.isl i = some ((s.isl i).getD 0) := by
  have e : ∀ i, i < g.length → s.isl i = some ((s.isl i).getD 0) := fun i hi => by
    obtain ⟨c, hc⟩ := I.closed (h i hi)
    rw [hc]; rfl
  refine ⟨⟨fun i hi => (I.islv i _ (e i hi)).2, fun p hp => ?_, fun i j hij => ?_, fun i j hi hj => I.scc i j _ _ (e i hi) (e j hj)⟩, e⟩
  · obtain ⟨k, hk⟩ := I.isls p hp
    exact ⟨k, I.lt k (I.islv k p hk).1, by simp [hk]⟩
  · obtain ⟨c', h1, h2⟩ := I.down i _ j (e i (edge_lt hij)) hij
    simp only [h1, Option.getD_some]
    exact h2

def partOf (g : Gr) (c : Nat → Nat) (p : Nat) : List Nat := (List.range g.length).filter fun i => c i == p
def fstOf (g : Gr) (c : Nat → Nat) (p : Nat) : Nat := ((partOf g c p)[0]?).getD 0

section
variable {g : Gr} {c : Nat → Nat} {m : Nat}
theorem mem_part {p i : Nat} : i ∈ partOf g c p ↔ i < g.length ∧ c i = p := by simp [partOf]
theorem Num.fst (N : Num g c m) {p : Nat} (hp : p < m) : fstOf g c p < g.length ∧ c (fstOf g c p) = p ∧ (partOf g c p)[0]? = some (fstOf g c p) ∧ ∀ i, i < g.length → c i = p → fstOf g c p ≤ i := by
  obtain ⟨i, hi, hc⟩ := N.sur p hp
  have hm : i ∈ partOf g c p := mem_part.2 ⟨hi, hc⟩
  have hl : 0 < (partOf g c p).length := List.length_pos_of_mem hm
  have h0 : (partOf g c p)[0]? = some (partOf g c p)[0] := List.getElem?_eq_getElem hl
  have e : fstOf g c p = (partOf g c p)[0] := by unfold fstOf; rw [h0]; rfl
  have hmem := mem_part.1 (e ▸ List.getElem_mem hl : fstOf g c p ∈ partOf g c p)
  refine ⟨hmem.1, hmem.2, by rw [h0, e], fun j hj hcj => ?_⟩
  have hjm : j ∈ partOf g c p := mem_part.2 ⟨hj, hcj⟩
  obtain ⟨q, hq, ej⟩ := List.getElem_of_mem hjm
  by_cases hq0 : q = 0
  · subst hq0; rw [e, ej]; exact Nat.le_refl _
  · have hp : (partOf g c p).Pairwise (· < ·) := List.pairwise_lt_range.filter _
    have := List.pairwise_iff_getElem.1 hp 0 q hl hq (by omega)
    rw [e, ← ej]
    omega
theorem Num.fst_inj (N : Num g c m) {p q : Nat} (hp : p < m) (hq : q < m) (h : fstOf g c p = fstOf g c q) : p = q := by
  have h1 := (N.fst hp).2.1
  have h2 := (N.fst hq).2.1
  rw [h] at h1
  omega
theorem Num.island (N : Num g c m) {i : Nat} (hi : i < g.length) : Go.Proofs.YtpcjfgihglfdgaaGreatDoor.Isl.island g i = partOf g c (c i) := by
  unfold Go.Proofs.YtpcjfgihglfdgaaGreatDoor.Isl.island partOf
  refine List.filter_congr (fun j hj => ?_)
  simp only [List.mem_range] at hj
  have := N.same i j hi hj
  by_cases e : Same g i j
  · simp [e, (this.2 e).symm]
  · have e' : ¬ c j = c i := fun h => e (this.1 h.symm)
    simp [e, e']
end

abbrev Pairs := List (Nat × Nat)
/-- who reads another island: reader's number, read one's -/
def pairsOf (g : Gr) (c : Nat → Nat) (k : Nat) : Pairs := ((edges g k).filter fun j => c j != c k).map fun j => (c k, c j)
def pairs (g : Gr) (c : Nat → Nat) : Pairs := (List.range g.length).flatMap (pairsOf g c)
theorem mem_pairs {g : Gr} {c : Nat → Nat} {a b : Nat} : (a, b) ∈ pairs g c ↔ ∃ k j, edge g k j ∧ c k = a ∧ c j = b ∧ a ≠ b := by
  unfold pairs pairsOf
  simp only [List.mem_flatMap, List.mem_range, List.mem_map, List.mem_filter, bne_iff_ne, Prod.mk.injEq]
  constructor
  · rintro ⟨k, hk, j, ⟨h1, h2⟩, h3, h4⟩
    exact ⟨k, j, h1, h3, h4, by omega⟩
  · rintro ⟨k, j, h1, h2, h3, h4⟩
    exact ⟨k, edge_lt h1, j, ⟨h1, by omega⟩, h2, h3⟩

/-- how many of q's wants are not there yet -/
def wants (L : Pairs) (P : List Nat) (q : Nat) : Nat := L.countP fun e => decide (e.1 = q) && !P.contains e.2
def readers (L : Pairs) (p : Nat) : List Nat := (L.filter fun e => e.2 == p).map Prod.fst
theorem wants_split (L : Pairs) (P : List Nat) (p q : Nat) (hp : p ∉ P) : wants L P q = wants L (P ++ [p]) q + (readers L p).count q := by
  unfold wants readers
  induction L with
  | nil => rfl
  | cons e L ih =>
    obtain ⟨a, b⟩ := e
    simp only [List.countP_cons, List.filter_cons]
    by_cases hb : b = p
    · subst hb
      have h1 : P.contains b = false := by simpa using hp
      have h2 : (P ++ [b]).contains b = true := by simp
      have e : (if decide (a = q) = true then 1 else 0 : Nat) = if (a == q) = true then 1 else 0 := by simp
      simp only [h1, h2, Bool.not_false, Bool.not_true, Bool.and_true, Bool.and_false, beq_self_eq_true, if_true, List.map_cons, List.count_cons, Bool.false_eq_true, if_false]
      rw [ih, e]
      omega
    · have h2 : (P ++ [p]).contains b = P.contains b := by
        rw [Bool.eq_iff_iff]; simp [hb]
      simp only [h2, beq_iff_eq, hb, if_false]
      rw [ih]
      omega
theorem wants_zero {L : Pairs} {P : List Nat} {q : Nat} : wants L P q = 0 ↔ ∀ r, (q, r) ∈ L → r ∈ P := by
  unfold wants
  rw [List.countP_eq_zero]
  constructor
  · intro h r hr
    have := h (q, r) hr
    simpa using this
  · rintro h ⟨a, b⟩ hab
    simp only [Bool.and_eq_true, decide_eq_true_eq, Bool.not_eq_true', not_and, Bool.not_eq_false]
    rintro rfl
    simpa using h b hab

/-- so many islands are there, in this order -/
structure Out (g : Gr) (c : Nat → Nat) (m : Nat) (P : List Nat) : Prop where
  lt : ∀ p ∈ P, p < m
  closed : ∀ p ∈ P, ∀ r, (p, r) ∈ pairs g c → r ∈ P
  each : ∀ k p, P[k]? = some p → wants (pairs g c) (P.take k) p = 0 ∧ p ∉ P.take k ∧ ∀ q, q < m → q ∉ P.take k → wants (pairs g c) (P.take k) q = 0 → fstOf g c p ≤ fstOf g c q

section
variable {g : Gr} {c : Nat → Nat} {m : Nat} {P : List Nat}
theorem out_nil (g : Gr) (c : Nat → Nat) (m : Nat) : Out g c m [] := ⟨by simp, by simp, by simp⟩
theorem Out.more (O : Out g c m P) {p : Nat} (hp : p < m) (hn : p ∉ P) (hw : wants (pairs g c) P p = 0) (hl : ∀ q, q < m → q ∉ P → wants (pairs g c) P q = 0 → fstOf g c p ≤ fstOf g c q) : Out g c m (P ++ [p]) := by
  refine ⟨fun q hq => ?_, fun q hq r hr => ?_, fun k q hk => ?_⟩
  · rw [List.mem_append, List.mem_singleton] at hq
    rcases hq with hq | rfl
    · exact O.lt q hq
    · exact hp
  · rw [List.mem_append, List.mem_singleton] at hq ⊢
    rcases hq with hq | rfl
    · exact .inl (O.closed q hq r hr)
    · exact .inl (wants_zero.1 hw r hr)
  · by_cases hkl : k < P.length
    · rw [List.getElem?_append_left hkl] at hk
      have e : (P ++ [p]).take k = P.take k := List.take_append_of_le_length (by omega)
      rw [e]
      exact O.each k q hk
    · have hkl2 : k < (P ++ [p]).length := (List.getElem?_eq_some_iff.1 hk).1
      have hkk : k = P.length := by simp at hkl2; omega
      subst hkk
      rw [List.getElem?_append_right (Nat.le_refl _)] at hk
      simp at hk
      subst hk
      rw [List.take_left]
      exact ⟨hw, hn, hl⟩

theorem out_take (O : Out g c m P) (k : Nat) : ∀ p ∈ P.take k, ∀ r, (p, r) ∈ pairs g c → r ∈ P.take k := by
  intro p hp r hr
  obtain ⟨j, hj, e⟩ := List.getElem_of_mem hp
  rw [List.getElem_take] at e
  have hjl : j < P.length := by simp at hj; omega
  have h := (O.each j p (by rw [List.getElem?_eq_getElem hjl, e])).1
  have hm := wants_zero.1 h r hr
  have : P.take j <+: P.take k := List.take_prefix_take_left (by simp at hj; omega)
  exact this.subset hm

theorem mem_flat {D : List Nat} {j : Nat} : j ∈ (D.map (partOf g c)).flatten ↔ j < g.length ∧ c j ∈ D := by
  simp only [List.mem_flatten, List.mem_map]
  constructor
  · rintro ⟨l, ⟨p, hp, rfl⟩, hj⟩
    have := mem_part.1 hj
    exact ⟨this.1, this.2 ▸ hp⟩
  · rintro ⟨h1, h2⟩
    exact ⟨_, ⟨c j, h2, rfl⟩, mem_part.2 ⟨h1, rfl⟩⟩

theorem ready_iff (N : Num g c m) (R : RightG g) {D : List Nat} (hcl : ∀ p ∈ D, ∀ r, (p, r) ∈ pairs g c → r ∈ D) {i : Nat} (hi : i < g.length) :
    Ready g (D.map (partOf g c)).flatten i ↔ c i ∉ D ∧ wants (pairs g c) D (c i) = 0 := by
  unfold Ready
  rw [mem_flat, wants_zero]
  constructor
  · rintro ⟨_, h1, h2⟩
    refine ⟨fun h => h1 ⟨hi, h⟩, fun r hr => ?_⟩
    obtain ⟨k, j, he, hk, hj, hne⟩ := mem_pairs.1 hr
    have hkl := edge_lt he
    have hs : Same g i k := (N.same i k hi hkl).1 hk.symm
    have hjl := R k j he
    rcases h2 j (hs.1.trans (.one he)) with h3 | h3
    · have := (N.same i j hi hjl).2 h3; omega
    · exact hj ▸ (mem_flat.1 h3).2
  · rintro ⟨h1, h2⟩
    refine ⟨hi, fun h => h1 h.2, fun j hl => ?_⟩
    have key : ∀ k j, Leads g k j → k < g.length → (c k = c i ∨ c k ∈ D) → (c j = c i ∨ c j ∈ D) := by
      intro k j hl
      induction hl with
      | refl => exact fun _ h => h
      | @step a b d e _ ih =>
        intro ha h
        have hb := R a b e
        refine ih hb ?_
        by_cases hab : c a = c b
        · rw [← hab]; exact h
        · have hp : (c a, c b) ∈ pairs g c := mem_pairs.2 ⟨a, b, e, rfl, rfl, hab⟩
          rcases h with h | h
          · exact .inr (h2 (c b) (h ▸ hp))
          · exact .inr (hcl (c a) h (c b) hp)
    have hjl := leads_lt R hl hi
    rcases key i j hl hi (.inl rfl) with h | h
    · exact .inl ((N.same i j hi hjl).1 h.symm)
    · exact .inr (mem_flat.2 ⟨hjl, h⟩)

theorem Out.parts (N : Num g c m) (R : RightG g) (O : Out g c m P) (hend : ∀ q, q < m → q ∉ P → wants (pairs g c) P q ≠ 0) : IsParts g (P.map (partOf g c)) := by
  refine ⟨fun k l hk => ?_, fun j hj => ?_⟩
  · rw [List.getElem?_map, Option.map_eq_some_iff] at hk
    obtain ⟨p, hp, rfl⟩ := hk
    have hpm := O.lt p (List.mem_of_getElem? hp)
    obtain ⟨e1, e2, e3⟩ := O.each k p hp
    obtain ⟨f1, f2, _, _⟩ := N.fst hpm
    rw [← List.map_take]
    have hcl := out_take O k
    refine ⟨fstOf g c p, (ready_iff N R hcl f1).2 ⟨by rw [f2]; exact e2, by rw [f2]; exact e1⟩, fun j hj => ?_, ?_⟩
    · have hjl := hj.1
      obtain ⟨g1, g2⟩ := (ready_iff N R hcl hjl).1 hj
      have := e3 (c j) (N.lt j hjl) g1 g2
      have := (N.fst (N.lt j hjl)).2.2.2 j hjl rfl
      omega
    · rw [N.island f1, f2]
  · rw [mem_flat]
    refine ⟨hj, ?_⟩
    have key : ∀ t p, p ≤ t → p < m → p ∈ P := by
      intro t
      induction t with
      | zero =>
        intro p hp hpm
        have hp0 : p = 0 := by omega
        subst hp0
        by_cases h : 0 ∈ P
        · exact h
        · exfalso
          refine hend 0 hpm h (wants_zero.2 (fun r hr => ?_))
          obtain ⟨k, j, he, hk, hj, hne⟩ := mem_pairs.1 hr
          have := N.down k j he
          omega
      | succ t ih =>
        intro p hp hpm
        by_cases h : p ∈ P
        · exact h
        · exfalso
          refine hend p hpm h (wants_zero.2 (fun r hr => ?_))
          obtain ⟨k, j, he, hk, hj, hne⟩ := mem_pairs.1 hr
          have := N.down k j he
          exact ih r (by omega) (by omega)
    exact key (c j) (c j) (Nat.le_refl _) (N.lt j hj)
end

end Go.Proofs.YtpcjfgihglfdgaaGreatDoor.Isl

namespace Go.Proofs.YtpcjfgihglfdgaaGreatDoor.Isl

/-- the nodes below k with number p -/
def partK (c : Nat → Nat) (k p : Nat) : List Nat := (List.range k).filter fun i => c i == p
theorem partK_all (g : Gr) (c : Nat → Nat) (p : Nat) : partK c g.length p = partOf g c p := rfl
theorem partK_succ (c : Nat → Nat) (k p : Nat) : partK c (k + 1) p = partK c k p ++ if c k = p then [k] else [] := by
  unfold partK
  rw [List.range_succ, List.filter_append]
  congr 1
  by_cases h : c k = p <;> simp [h]
theorem partK_length (c : Nat → Nat) (k p : Nat) : (partK c k p).length ≤ k := by
  unfold partK
  have := List.length_filter_le (fun i => c i == p) (List.range k)
  simpa using this

/-- rows p below m: the parts; rows m + q: the readers -/
def tabXs (m : Nat) (f : Nat → List Nat) (L : Pairs) (i : Nat) : List Nat := if i < m then f i else readers L (i - m)
theorem tabXs_part {m p : Nat} {f : Nat → List Nat} {L : Pairs} (h : p < m) : tabXs m f L p = f p := by simp [tabXs, h]
theorem tabXs_read {m q : Nat} {f : Nat → List Nat} {L : Pairs} : tabXs m f L (m + q) = readers L q := by
  unfold tabXs
  rw [if_neg (by omega), Nat.add_sub_cancel_left]
theorem tab_node {m k : Nat} {c : Nat → Nat} {L : Pairs} (h : c k < m) : upd (tabXs m (partK c k) L) (c k) (tabXs m (partK c k) L (c k) ++ [k]) = tabXs m (partK c (k + 1)) L := by
  funext i
  unfold upd
  by_cases hi : i = c k
  · subst hi
    rw [if_pos rfl, tabXs_part h, tabXs_part h, partK_succ, if_pos rfl]
  · rw [if_neg hi]
    unfold tabXs
    by_cases h2 : i < m
    · rw [if_pos h2, if_pos h2, partK_succ, if_neg (Ne.symm hi), List.append_nil]
    · rw [if_neg h2, if_neg h2]

theorem readers_more (L : Pairs) (a b q : Nat) : readers (L ++ [(a, b)]) q = readers L q ++ if b = q then [a] else [] := by
  unfold readers
  rw [List.filter_append, List.map_append]
  congr 1
  by_cases h : b = q <;> simp [h]
theorem tab_edge {m a b : Nat} {f : Nat → List Nat} {L : Pairs} : upd (tabXs m f L) (m + b) (tabXs m f L (m + b) ++ [a]) = tabXs m f (L ++ [(a, b)]) := by
  funext i
  unfold upd
  by_cases hi : i = m + b
  · subst hi
    rw [if_pos rfl, tabXs_read, tabXs_read, readers_more, if_pos rfl]
  · rw [if_neg hi]
    unfold tabXs
    by_cases h2 : i < m
    · rw [if_pos h2, if_pos h2]
    · rw [if_neg h2, if_neg h2, readers_more, if_neg (by omega), List.append_nil]
theorem wants_more (L : Pairs) (a b q : Nat) : wants (L ++ [(a, b)]) [] q = wants L [] q + if a = q then 1 else 0 := by
  unfold wants
  rw [List.countP_append]
  congr 1
  by_cases h : a = q <;> simp [h]
theorem need_edge (L : Pairs) (a b : Nat) : upd (wants L []) a (wants L [] a + 1) = wants (L ++ [(a, b)]) [] := by
  funext q
  unfold upd
  rw [wants_more]
  by_cases h : q = a
  · subst h; simp
  · rw [if_neg h, if_neg (Ne.symm h)]; omega
theorem wants_le (L : Pairs) (P : List Nat) (q : Nat) : wants L P q ≤ L.length := List.countP_le_length
theorem readers_le (L : Pairs) (q : Nat) : (readers L q).length ≤ L.length := by
  unfold readers
  rw [List.length_map]
  exact List.length_filter_le _ _

/-- the pairs of the nodes below k, and of the first e edges of k -/
def pairsAt (g : Gr) (c : Nat → Nat) (k e : Nat) : Pairs := (List.range k).flatMap (pairsOf g c) ++ (((edges g k).take e).filter fun j => c j != c k).map fun j => (c k, c j)
theorem pairsAt_zero (g : Gr) (c : Nat → Nat) (k : Nat) : pairsAt g c k 0 = (List.range k).flatMap (pairsOf g c) := by simp [pairsAt]
theorem pairsAt_full (g : Gr) (c : Nat → Nat) (k : Nat) : pairsAt g c k (edges g k).length = pairsAt g c (k + 1) 0 := by
  rw [pairsAt_zero, List.range_succ, List.flatMap_append]
  unfold pairsAt pairsOf
  rw [List.take_length]
  simp
theorem pairsAt_all (g : Gr) (c : Nat → Nat) : pairsAt g c g.length 0 = pairs g c := pairsAt_zero g c g.length
theorem pairsAt_step {g : Gr} {c : Nat → Nat} {k e j : Nat} (h : (edges g k)[e]? = some j) : pairsAt g c k (e + 1) = pairsAt g c k e ++ if c j = c k then [] else [(c k, c j)] := by
  obtain ⟨he, hj⟩ := List.getElem?_eq_some_iff.1 h
  unfold pairsAt
  rw [List.take_succ_eq_append_getElem he, List.filter_append, List.map_append, hj, ← List.append_assoc]
  congr 1
  by_cases hc : c j = c k <;> simp [hc]

theorem pairsOf_length (g : Gr) (c : Nat → Nat) (k : Nat) : (pairsOf g c k).length ≤ (edges g k).length := by
  unfold pairsOf
  rw [List.length_map]
  exact List.length_filter_le _ _
theorem flat_length {g : Gr} {c : Nat → Nat} {M : Nat} (hM : ∀ k, (edges g k).length ≤ M) : ∀ k, ((List.range k).flatMap (pairsOf g c)).length ≤ k * M
  | 0 => by simp
  | k + 1 => by
    rw [List.range_succ, List.flatMap_append, List.length_append, Nat.succ_mul]
    have h1 := flat_length (c := c) hM k
    have h2 := pairsOf_length g c k
    have h3 := hM k
    simp only [List.flatMap_cons, List.flatMap_nil, List.append_nil]
    omega
theorem pairsAt_length {g : Gr} {c : Nat → Nat} {M : Nat} (hM : ∀ k, (edges g k).length ≤ M) (k e : Nat) : (pairsAt g c k e).length ≤ (k + 1) * M := by
  unfold pairsAt
  rw [List.length_append, List.length_map, Nat.succ_mul]
  have h1 := flat_length (c := c) hM k
  have h2 := List.length_filter_le (fun j => c j != c k) ((edges g k).take e)
  have h3 := hM k
  rw [List.length_take] at h2
  omega

end Go.Proofs.YtpcjfgihglfdgaaGreatDoor.Isl
