/- The plain law of DiskTorn: behind a crash each piece of a write is there to the part that was kept, and the rest as it was. No program in sight; no condition. -/
import Derived.Test.YtknmebknkncmoaaDkSectorsP
namespace Go.Proofs.Ytknmebknkncmoaa
open Go.RowKit Go.Lib

theorem parts_apart (m : Nat) : ∀ (a : Nat) (s : Bs), s.length ≤ m → (parts a s).Pairwise (fun p q => p.1 + p.2.length ≤ q.1) := by
  induction m with
  | zero =>
    intro a s h
    have : s = [] := List.eq_nil_of_length_eq_zero (by omega)
    subst this
    rw [parts_nil]; exact List.Pairwise.nil
  | succ m ih =>
    intro a s h
    by_cases hs : s = []
    · subst hs; rw [parts_nil]; exact List.Pairwise.nil
    · have h0 : 0 < s.length := List.length_pos_iff.2 hs
      have hmod : a % 64 < 64 := Nat.mod_lt _ (by omega)
      rw [parts_cons hs rfl]
      generalize hn : min (64 - a % 64) s.length = n
      refine List.Pairwise.cons (fun q hq => ?_) (ih _ _ (by simp; omega))
      have h1 := parts_mem _ _ _ (Nat.le_refl _) q hq
      show a + (s.take n).length ≤ q.1
      simp
      omega

theorem keep_inj {n : Nat} {ks : List Int} (hk : KeepOk n ks) {x y : Int} (hx : x ∈ ks) (hy : y ∈ ks) (h : ixOf x = ixOf y) : x = y := by
  obtain ⟨n1, hn1⟩ := List.getElem?_of_mem hx
  obtain ⟨n2, hn2⟩ := List.getElem?_of_mem hy
  have g1 : (ks.map ixOf)[n1]? = some (ixOf x) := by simp [hn1]
  have g2 : (ks.map ixOf)[n2]? = some (ixOf x) := by rw [h]; simp [hn2]
  have hn : n1 = n2 := (List.getElem?_inj (by simpa using (List.getElem?_eq_some_iff.1 hn1).1) hk.nodup).1 (g1.trans g2.symm)
  subst hn
  rw [hn1] at hn2
  exact Option.some.inj hn2

/-- how much of piece k a kept number keeps -/
def hitOf (k len : Nat) (x : Int) : Option Nat := if x = -1 - (k : Int) then some (len / 2) else if x = (k : Int) then some len else none
def nOf (ks : List Int) (k len : Nat) : Nat := ks.foldl (fun n x => (hitOf k len x).getD n) 0

theorem fold_none {ks : List Int} {k len n0 : Nat} (h : ∀ x ∈ ks, hitOf k len x = none) : ks.foldl (fun n x => (hitOf k len x).getD n) n0 = n0 := by
  induction ks generalizing n0 with
  | nil => rfl
  | cons x ks ih =>
    rw [List.foldl_cons, h x (by simp)]
    exact ih (fun y hy => h y (by simp [hy]))
theorem fold_some {ks : List Int} {k len n0 v : Nat} (h : ∀ x ∈ ks, hitOf k len x = none ∨ hitOf k len x = some v) (he : n0 = v ∨ ∃ x ∈ ks, hitOf k len x = some v) : ks.foldl (fun n x => (hitOf k len x).getD n) n0 = v := by
  induction ks generalizing n0 with
  | nil =>
    rcases he with he | ⟨x, hx, _⟩
    · exact he
    · simp at hx
  | cons x ks ih =>
    rw [List.foldl_cons]
    refine ih (fun y hy => h y (by simp [hy])) ?_
    rcases h x (by simp) with hx | hx
    · rw [hx]
      rcases he with he | ⟨y, hy, hv⟩
      · exact .inl he
      · rcases List.mem_cons.1 hy with rfl | hy
        · rw [hx] at hv; cases hv
        · exact .inr ⟨y, hy, hv⟩
    · rw [hx]; exact .inl rfl

theorem hitOf_ix {k len v : Nat} {x : Int} (h : hitOf k len x = some v) : ixOf x = k ∧ ((x = -1 - (k : Int) ∧ v = len / 2) ∨ (x = (k : Int) ∧ v = len)) := by
  unfold hitOf at h
  unfold ixOf
  split at h
  · rename_i hx
    simp only [Option.some.injEq] at h
    exact ⟨by subst hx; split <;> omega, .inl ⟨hx, h.symm⟩⟩
  · split at h
    · rename_i hx
      simp only [Option.some.injEq] at h
      exact ⟨by subst hx; split <;> omega, .inr ⟨hx, h.symm⟩⟩
    · cases h
theorem ix_hitOf {k len : Nat} {x : Int} (h : ixOf x = k) : ∃ v, hitOf k len x = some v := by
  unfold ixOf at h
  unfold hitOf
  split at h
  · exact ⟨_, if_pos (by omega)⟩
  · exact ⟨_, by rw [if_neg (by omega), if_pos (by omega)]⟩

theorem torn_plain {P : List (Nat × Bs)} {K : Bs} {ks : List Int} (hk : KeepOk P.length ks) (ho : ∀ p ∈ P, p.1 + p.2.length ≤ K.length ∧ p.1 < K.length) (hp : P.Pairwise (fun p q => p.1 + p.2.length ≤ q.1)) {k n : Nat} {p : Nat × Bs} (hpk : P[k]? = some p) (hn : n = nOf ks k p.2.length) :
    n ≤ p.2.length ∧ (∀ i, p.1 ≤ i → i < p.1 + n → ((ks.map (pieceOf P)).foldl lay K)[i]? = p.2[i - p.1]?) ∧ (∀ i, p.1 + n ≤ i → i < p.1 + p.2.length → ((ks.map (pieceOf P)).foldl lay K)[i]? = K[i]?) := by
  have hkl : k < P.length := (List.getElem?_eq_some_iff.1 hpk).1
  have hfit : ∀ q ∈ ks.map (pieceOf P), q.1 + q.2.length ≤ K.length := fun q hq => (pieces_ok hk ho q hq).1
  -- a kept piece that meets a byte of piece k is of piece k
  have own : ∀ i, p.1 ≤ i → i < p.1 + p.2.length → ∀ x ∈ ks, covers i (pieceOf P x) → ixOf x = k := by
    intro i h1 h2 x hx hc
    have hl := hk.lt x hx
    obtain ⟨e1, e2⟩ := pieceOf_at hl
    unfold covers at hc
    rcases Nat.lt_trichotomy (ixOf x) k with hlt | heq | hgt
    · have := List.pairwise_iff_getElem.1 hp (ixOf x) k hl hkl hlt
      have e : P[k] = p := (List.getElem?_eq_some_iff.1 hpk).2
      rw [e] at this
      omega
    · exact heq
    · have := List.pairwise_iff_getElem.1 hp k (ixOf x) hkl hl hgt
      have e : P[k] = p := (List.getElem?_eq_some_iff.1 hpk).2
      rw [e] at this
      omega
  by_cases hh : ∃ x ∈ ks, ixOf x = k
  · obtain ⟨x, hx, hix⟩ := hh
    obtain ⟨v, hv⟩ := ix_hitOf (len := p.2.length) hix
    have hall : ∀ y ∈ ks, hitOf k p.2.length y = none ∨ hitOf k p.2.length y = some v := by
      intro y hy
      cases hq : hitOf k p.2.length y with
      | none => exact .inl rfl
      | some u =>
        have := keep_inj hk hy hx ((hitOf_ix hq).1.trans hix.symm)
        subst this
        rw [hq] at hv
        exact .inr hv
    have hnv : n = v := by rw [hn]; exact fold_some hall (.inr ⟨x, hx, hv⟩)
    have hpc : (pieceOf P x).1 = p.1 ∧ (pieceOf P x).2 = p.2.take v ∧ v ≤ p.2.length := by
      unfold pieceOf
      rw [hix, hpk]
      simp only [Option.getD_some]
      rcases (hitOf_ix hv).2 with ⟨h1, h2⟩ | ⟨h1, h2⟩
      · rw [if_pos (by omega)]; exact ⟨rfl, by rw [h2], by omega⟩
      · rw [if_neg (by omega)]; exact ⟨rfl, by rw [h2, List.take_length], by omega⟩
    obtain ⟨c1, c2, c3⟩ := hpc
    have uniq : ∀ i, p.1 ≤ i → i < p.1 + p.2.length → ∀ q ∈ ks.map (pieceOf P), covers i q → q = pieceOf P x := by
      intro i h1 h2 q hq hc
      obtain ⟨y, hy, rfl⟩ := List.mem_map.1 hq
      rw [keep_inj hk hy hx ((own i h1 h2 y hy hc).trans hix.symm)]
    subst hnv
    refine ⟨c3, fun i h1 h2 => ?_, fun i h1 h2 => ?_⟩
    · refine lays_hit hfit ⟨pieceOf P x, List.mem_map_of_mem hx, ?_⟩ (fun q hq hc => ?_)
      · unfold covers; rw [c1, c2]; simp; omega
      · rw [uniq i h1 (by omega) q hq hc, c1, c2, List.getElem?_take, if_pos (by omega)]
    · refine lays_same rfl hfit (fun q hq hc => ?_)
      have e := uniq i (by omega) h2 q hq hc
      subst e
      unfold covers at hc
      rw [c1, c2] at hc
      simp at hc
      omega
  · have hn0 : n = 0 := by
      rw [hn]
      refine fold_none (fun x hx => ?_)
      cases hq : hitOf k p.2.length x with
      | none => rfl
      | some u => exact absurd ⟨x, hx, (hitOf_ix hq).1⟩ hh
    subst hn0
    refine ⟨Nat.zero_le _, fun i h1 h2 => by omega, fun i h1 h2 => lays_same rfl hfit (fun q hq hc => ?_)⟩
    obtain ⟨y, hy, rfl⟩ := List.mem_map.1 hq
    exact absurd ⟨y, hy, own i (by omega) h2 y hy hc⟩ hh

theorem slice_eq {A B : Bs} {a b c : Nat} (h : ∀ i, i < b → A[a + i]? = B[c + i]?) : (A.drop a).take b = (B.drop c).take b := by
  apply List.ext_getElem?
  intro i
  rw [List.getElem?_take, List.getElem?_take]
  split
  · rw [List.getElem?_drop, List.getElem?_drop]
    exact h i (by assumption)
  · rfl

end Go.Proofs.Ytknmebknkncmoaa
