/- The plain law of DiskSectors: pieces of unlike sectors may be laid in any turn. No program in sight; no condition. -/
import Derived.Test.YtknmebknkncmoaaDkSyncedP
import Derived.Test.YtknmebknkncmoaaDkReads
namespace Go.Proofs.Ytknmebknkncmoaa
open Go.RowKit Go.Lib

def covers (i : Nat) (p : Nat × Bs) : Prop := p.1 ≤ i ∧ i < p.1 + p.2.length

theorem lay_get {p : Nat × Bs} {L : Bs} (h : p.1 + p.2.length ≤ L.length) (i : Nat) : (covers i p → (lay L p)[i]? = p.2[i - p.1]?) ∧ (¬ covers i p → (lay L p)[i]? = L[i]?) := by
  unfold covers lay
  rw [splice_get h]
  exact ⟨fun hc => if_pos hc, fun hc => if_neg hc⟩

theorem lays_same {l : List (Nat × Bs)} {L : Bs} {i : Nat} {v : Option UInt8} (h0 : L[i]? = v) (hf : ∀ p ∈ l, p.1 + p.2.length ≤ L.length) (hv : ∀ p ∈ l, covers i p → p.2[i - p.1]? = v) : (l.foldl lay L)[i]? = v := by
  induction l generalizing L with
  | nil => exact h0
  | cons p l ih =>
    have h1 := hf p (by simp)
    rw [List.foldl_cons]
    refine ih ?_ (fun q hq => by rw [lay_length h1]; exact hf q (by simp [hq])) (fun q hq => hv q (by simp [hq]))
    by_cases hc : covers i p
    · rw [(lay_get h1 i).1 hc]; exact hv p (by simp) hc
    · rw [(lay_get h1 i).2 hc]; exact h0

theorem lays_hit {l : List (Nat × Bs)} {L : Bs} {i : Nat} {v : Option UInt8} (hf : ∀ p ∈ l, p.1 + p.2.length ≤ L.length) (he : ∃ p ∈ l, covers i p) (hv : ∀ p ∈ l, covers i p → p.2[i - p.1]? = v) : (l.foldl lay L)[i]? = v := by
  induction l generalizing L with
  | nil => obtain ⟨p, hp, _⟩ := he; simp at hp
  | cons p l ih =>
    have h1 := hf p (by simp)
    have hf' : ∀ q ∈ l, q.1 + q.2.length ≤ (lay L p).length := fun q hq => by rw [lay_length h1]; exact hf q (by simp [hq])
    rw [List.foldl_cons]
    by_cases hc : covers i p
    · exact lays_same (by rw [(lay_get h1 i).1 hc]; exact hv p (by simp) hc) hf' (fun q hq => hv q (by simp [hq]))
    · refine ih hf' ?_ (fun q hq => hv q (by simp [hq]))
      obtain ⟨q, hq, hqc⟩ := he
      rcases List.mem_cons.1 hq with rfl | hq
      · exact absurd hqc hc
      · exact ⟨q, hq, hqc⟩

/-- two lists of pieces with the same members, of which those that meet a byte agree on it, come to the same -/
theorem lays_perm {l l' : List (Nat × Bs)} {L : Bs} (hm : ∀ p, p ∈ l ↔ p ∈ l') (hf : ∀ p ∈ l, p.1 + p.2.length ≤ L.length) (ha : ∀ i, ∀ p ∈ l, ∀ q ∈ l, covers i p → covers i q → p = q) : l.foldl lay L = l'.foldl lay L := by
  have hf' : ∀ p ∈ l', p.1 + p.2.length ≤ L.length := fun p hp => hf p ((hm p).2 hp)
  apply List.ext_getElem?
  intro i
  by_cases hc : ∃ p ∈ l, covers i p
  · obtain ⟨p, hp, hpc⟩ := hc
    have hv : ∀ q ∈ l, covers i q → q.2[i - q.1]? = p.2[i - p.1]? := fun q hq hqc => by rw [ha i q hq p hp hqc hpc]
    rw [lays_hit hf ⟨p, hp, hpc⟩ hv, lays_hit hf' ⟨p, (hm p).1 hp, hpc⟩ (fun q hq => hv q ((hm q).2 hq))]
  · have hn : ∀ p ∈ l, ¬ covers i p := fun p hp h => hc ⟨p, hp, h⟩
    rw [lays_same (v := L[i]?) rfl hf (fun q hq h => absurd h (hn q hq)), lays_same (v := L[i]?) rfl hf' (fun q hq h => absurd h (hn q ((hm q).2 hq)))]

/-- pieces of the first j sectors, one a sector at most -/
structure SecOk (P : List (Nat × Bs)) (j : Nat) : Prop where
  ok : ∀ p ∈ P, p.1 % 64 = 0 ∧ p.2.length ≤ 64 ∧ p.1 < 64 * j
  nodup : (P.map (·.1)).Nodup
  len : P.length ≤ j

theorem secOk_nil : SecOk [] 0 := ⟨by simp, by simp, by simp⟩
theorem parts_one {a : Nat} {t : Bs} (ha : a % 64 = 0) (ht : t.length ≤ 64) : parts a t = if t = [] then [] else [(a, t)] := by
  by_cases h : t = []
  · rw [if_pos h, h, parts_nil]
  · rw [if_neg h, parts_cons h (n := t.length) (by omega), List.take_length, List.drop_length, parts_nil]
theorem secOk_snoc {P : List (Nat × Bs)} {j : Nat} {t : Bs} (h : SecOk P j) (ht : t.length ≤ 64) : SecOk (P ++ parts (64 * j) t) (j + 1) := by
  rw [parts_one (by omega) ht]
  split
  · rw [List.append_nil]
    exact ⟨fun p hp => by have := h.ok p hp; omega, h.nodup, by have := h.len; omega⟩
  · refine ⟨?_, ?_, by have := h.len; simp; omega⟩
    · intro p hp
      rcases List.mem_append.1 hp with hp | hp
      · have := h.ok p hp; omega
      · simp only [List.mem_singleton] at hp
        subst hp
        exact ⟨by show 64 * j % 64 = 0; omega, ht, by show 64 * j < 64 * (j + 1); omega⟩
    · rw [List.map_append, List.nodup_append]
      refine ⟨h.nodup, by simp, ?_⟩
      intro a ha b hb
      simp only [List.map_cons, List.map_nil, List.mem_singleton] at hb
      simp only [List.mem_map] at ha
      obtain ⟨p, hp, rfl⟩ := ha
      have := h.ok p hp
      omega

theorem pieceOf_at {P : List (Nat × Bs)} {k : Int} (h : ixOf k < P.length) : (pieceOf P k).1 = (P[ixOf k]).1 ∧ (pieceOf P k).2.length ≤ (P[ixOf k]).2.length := by
  unfold pieceOf
  rw [List.getElem?_eq_getElem h]
  simp only [Option.getD_some]
  split
  · exact ⟨rfl, by simp; omega⟩
  · exact ⟨rfl, Nat.le_refl _⟩

theorem sectors_plain {P : List (Nat × Bs)} {K : Bs} {ks : List Int} {j : Nat} (hs : SecOk P j) (hk : KeepOk P.length ks) (ho : ∀ p ∈ P, p.1 + p.2.length ≤ K.length ∧ p.1 < K.length) :
    (ks.map (pieceOf P)).foldl lay K = (ks.reverse.map (pieceOf P)).foldl lay K := by
  apply lays_perm
  · intro p
    simp
  · intro p hp
    exact (pieces_ok hk ho p hp).1
  · intro i p hp q hq hpc hqc
    simp only [List.mem_map] at hp hq
    obtain ⟨k1, h1, rfl⟩ := hp
    obtain ⟨k2, h2, rfl⟩ := hq
    have l1 := hk.lt k1 h1
    have l2 := hk.lt k2 h2
    obtain ⟨a1, b1⟩ := pieceOf_at l1
    obtain ⟨a2, b2⟩ := pieceOf_at l2
    have c1 := hs.ok _ (List.getElem_mem l1)
    have c2 := hs.ok _ (List.getElem_mem l2)
    unfold covers at hpc hqc
    have e : (P[ixOf k1]).1 = (P[ixOf k2]).1 := by omega
    have ei : ixOf k1 = ixOf k2 := by
      have hnd := hs.nodup
      have g1 : (P.map (·.1))[ixOf k1]? = some (P[ixOf k1]).1 := by simp [List.getElem?_eq_getElem l1]
      have g2 : (P.map (·.1))[ixOf k2]? = some (P[ixOf k1]).1 := by rw [e]; simp [List.getElem?_eq_getElem l2]
      exact (List.getElem?_inj (by simpa using l1) hnd).1 (g1.trans g2.symm)
    have ek : k1 = k2 := by
      obtain ⟨n1, hn1⟩ := List.getElem?_of_mem h1
      obtain ⟨n2, hn2⟩ := List.getElem?_of_mem h2
      have hnd := hk.nodup
      have g1 : (ks.map ixOf)[n1]? = some (ixOf k1) := by simp [hn1]
      have g2 : (ks.map ixOf)[n2]? = some (ixOf k1) := by rw [ei]; simp [hn2]
      have hn : n1 = n2 := (List.getElem?_inj (by simpa using (List.getElem?_eq_some_iff.1 hn1).1) hnd).1 (g1.trans g2.symm)
      subst hn
      rw [hn1] at hn2
      exact Option.some.inj hn2
    rw [ek]

theorem keepOk_reverse {n : Nat} {ks : List Int} (h : KeepOk n ks) : KeepOk n ks.reverse :=
  ⟨fun k hk => h.lt k (by simpa using hk), by rw [List.map_reverse]; exact (List.reverse_perm _).nodup_iff.2 h.nodup⟩

end Go.Proofs.Ytknmebknkncmoaa
