/- What the tables of islands.Parts hold, node by node and edge by edge. No program in sight. No condition. -/
import Derived.Test.YtagfgbmaibadjaaIsOrder
namespace Go.Proofs.Ytagfgbmaibadjaa

/-- the nodes below k with number p -/
def partK (c : Nat → Nat) (k p : Nat) : List Nat := (List.range k).filter fun i => c i == p
theorem partK_all (g : Gr) (c : Nat → Nat) (p : Nat) : partK c g.length p = partOf g c p := rfl
theorem partK_succ (c : Nat → Nat) (k p : Nat) : partK c (k + 1) p = partK c k p ++ if c k = p then [k] else [] := by
  unfold partK
  rw [List.range_succ, List.filter_append]
  congr 1
  by_cases h : c k = p <;> simp [h]
theorem partK_length (c : Nat → Nat) (k p : Nat) : (partK c k p).length ≤ k := by
  unfold partK
  have := List.length_filter_le (fun i => c i == p) (List.range k)
  simpa using this

/-- rows p below m: the parts; rows m + q: the readers -/
def tabXs (m : Nat) (f : Nat → List Nat) (L : Pairs) (i : Nat) : List Nat := if i < m then f i else readers L (i - m)
theorem tabXs_part {m p : Nat} {f : Nat → List Nat} {L : Pairs} (h : p < m) : tabXs m f L p = f p := by simp [tabXs, h]
theorem tabXs_read {m q : Nat} {f : Nat → List Nat} {L : Pairs} : tabXs m f L (m + q) = readers L q := by
  unfold tabXs
  rw [if_neg (by omega), Nat.add_sub_cancel_left]
theorem tab_node {m k : Nat} {c : Nat → Nat} {L : Pairs} (h : c k < m) : upd (tabXs m (partK c k) L) (c k) (tabXs m (partK c k) L (c k) ++ [k]) = tabXs m (partK c (k + 1)) L := by
  funext i
  unfold upd
  by_cases hi : i = c k
  · subst hi
    rw [if_pos rfl, tabXs_part h, tabXs_part h, partK_succ, if_pos rfl]
  · rw [if_neg hi]
    unfold tabXs
    by_cases h2 : i < m
    · rw [if_pos h2, if_pos h2, partK_succ, if_neg (Ne.symm hi), List.append_nil]
    · rw [if_neg h2, if_neg h2]

theorem readers_more (L : Pairs) (a b q : Nat) : readers (L ++ [(a, b)]) q = readers L q ++ if b = q then [a] else [] := by
  unfold readers
  rw [List.filter_append, List.map_append]
  congr 1
  by_cases h : b = q <;> simp [h]
theorem tab_edge {m a b : Nat} {f : Nat → List Nat} {L : Pairs} : upd (tabXs m f L) (m + b) (tabXs m f L (m + b) ++ [a]) = tabXs m f (L ++ [(a, b)]) := by
  funext i
  unfold upd
  by_cases hi : i = m + b
  · subst hi
    rw [if_pos rfl, tabXs_read, tabXs_read, readers_more, if_pos rfl]
  · rw [if_neg hi]
    unfold tabXs
    by_cases h2 : i < m
    · rw [if_pos h2, if_pos h2]
    · rw [if_neg h2, if_neg h2, readers_more, if_neg (by omega), List.append_nil]
theorem wants_more (L : Pairs) (a b q : Nat) : wants (L ++ [(a, b)]) [] q = wants L [] q + if a = q then 1 else 0 := by
  unfold wants
  rw [List.countP_append]
  congr 1
  by_cases h : a = q <;> simp [h]
theorem need_edge (L : Pairs) (a b : Nat) : upd (wants L []) a (wants L [] a + 1) = wants (L ++ [(a, b)]) [] := by
  funext q
  unfold upd
  rw [wants_more]
  by_cases h : q = a
  · subst h; simp
  · rw [if_neg h, if_neg (Ne.symm h)]; omega
theorem wants_le (L : Pairs) (P : List Nat) (q : Nat) : wants L P q ≤ L.length := List.countP_le_length
theorem readers_le (L : Pairs) (q : Nat) : (readers L q).length ≤ L.length := by
  unfold readers
  rw [List.length_map]
  exact List.length_filter_le _ _

/-- the pairs of the nodes below k, and of the first e edges of k -/
def pairsAt (g : Gr) (c : Nat → Nat) (k e : Nat) : Pairs := (List.range k).flatMap (pairsOf g c) ++ (((edges g k).take e).filter fun j => c j != c k).map fun j => (c k, c j)
theorem pairsAt_zero (g : Gr) (c : Nat → Nat) (k : Nat) : pairsAt g c k 0 = (List.range k).flatMap (pairsOf g c) := by simp [pairsAt]
theorem pairsAt_full (g : Gr) (c : Nat → Nat) (k : Nat) : pairsAt g c k (edges g k).length = pairsAt g c (k + 1) 0 := by
  rw [pairsAt_zero, List.range_succ, List.flatMap_append]
  unfold pairsAt pairsOf
  rw [List.take_length]
  simp
theorem pairsAt_all (g : Gr) (c : Nat → Nat) : pairsAt g c g.length 0 = pairs g c := pairsAt_zero g c g.length
theorem pairsAt_step {g : Gr} {c : Nat → Nat} {k e j : Nat} (h : (edges g k)[e]? = some j) : pairsAt g c k (e + 1) = pairsAt g c k e ++ if c j = c k then [] else [(c k, c j)] := by
  obtain ⟨he, hj⟩ := List.getElem?_eq_some_iff.1 h
  unfold pairsAt
  rw [List.take_succ_eq_append_getElem he, List.filter_append, List.map_append, hj, ← List.append_assoc]
  congr 1
  by_cases hc : c j = c k <;> simp [hc]

theorem pairsOf_length (g : Gr) (c : Nat → Nat) (k : Nat) : (pairsOf g c k).length ≤ (edges g k).length := by
  unfold pairsOf
  rw [List.length_map]
  exact List.length_filter_le _ _
theorem flat_length {g : Gr} {c : Nat → Nat} {M : Nat} (hM : ∀ k, (edges g k).length ≤ M) : ∀ k, ((List.range k).flatMap (pairsOf g c)).length ≤ k * M
  | 0 => by simp
  | k + 1 => by
    rw [List.range_succ, List.flatMap_append, List.length_append, Nat.succ_mul]
    have h1 := flat_length (c := c) hM k
    have h2 := pairsOf_length g c k
    have h3 := hM k
    simp only [List.flatMap_cons, List.flatMap_nil, List.append_nil]
    omega
theorem pairsAt_length {g : Gr} {c : Nat → Nat} {M : Nat} (hM : ∀ k, (edges g k).length ≤ M) (k e : Nat) : (pairsAt g c k e).length ≤ (k + 1) * M := by
  unfold pairsAt
  rw [List.length_append, List.length_map, Nat.succ_mul]
  have h1 := flat_length (c := c) hM k
  have h2 := List.length_filter_le (fun j => c j != c k) ((edges g k).take e)
  have h3 := hM k
  rw [List.length_take] at h2
  omega

end Go.Proofs.Ytagfgbmaibadjaa
