/- The plain law of DiskSynced: a crash changes no byte that no pending write touches. No program in sight; no condition. -/
import Derived.Test.YtknmebknkncmoaaDkOpen
namespace Go.Proofs.Ytknmebknkncmoaa
open Go.RowKit Go.Lib

theorem splice_get {L cs : Bs} {a : Nat} (h : a + cs.length ≤ L.length) (i : Nat) : (splice L a cs)[i]? = if a ≤ i ∧ i < a + cs.length then cs[i - a]? else L[i]? := by
  have h3 : (L.take a).length = a := by simp; omega
  unfold splice
  by_cases h1 : i < a
  · rw [List.getElem?_append_left (by omega), List.getElem?_take, if_pos h1, if_neg (by omega)]
  · rw [List.getElem?_append_right (by omega), h3]
    by_cases h2 : i < a + cs.length
    · rw [List.getElem?_append_left (by omega), if_pos (by omega)]
    · rw [List.getElem?_append_right (by omega), if_neg (by omega), List.getElem?_drop]
      congr 1
      omega

/-- does this Act's text reach this byte? -/
def hits (i : Nat) (x : ActD) : Bool := decide (placeOf x ≤ i) && decide (i < placeOf x + x.text.length)

theorem lay_outside {p : Nat × Bs} {L : Bs} (h : p.1 + p.2.length ≤ L.length) {i : Nat} (ho : i < p.1 ∨ p.1 + p.2.length ≤ i) : (lay L p)[i]? = L[i]? := by
  unfold lay
  rw [splice_get h, if_neg (by omega)]

theorem lays_outside {l : List (Nat × Bs)} {L : Bs} {i : Nat} (h : ∀ p ∈ l, p.1 + p.2.length ≤ L.length ∧ (i < p.1 ∨ p.1 + p.2.length ≤ i)) : (l.foldl lay L)[i]? = L[i]? := by
  induction l generalizing L with
  | nil => rfl
  | cons p l ih =>
    obtain ⟨h1, h2⟩ := h p (by simp)
    rw [List.foldl_cons, ih (fun q hq => by rw [lay_length h1]; exact h q (by simp [hq])), lay_outside h1 h2]

theorem pend_outside {l : List ActD} {i : Nat} (h : l.any (hits i) = false) : ∀ p ∈ pendOf l, p.1 + p.2.length ≤ 320 ∧ (i < p.1 ∨ p.1 + p.2.length ≤ i) := by
  intro p hp
  simp only [pendOf, List.mem_flatMap] at hp
  obtain ⟨x, hx, hp⟩ := hp
  have h1 := parts_mem _ _ _ (Nat.le_refl _) p hp
  have h2 := actPart_fits x
  have h3 : hits i x = false := by
    cases hh : hits i x with
    | false => rfl
    | true => exact absurd (List.any_eq_true.2 ⟨x, hx, hh⟩) (by simp [h])
  simp only [hits, Bool.and_eq_false_iff, decide_eq_false_iff_not] at h3
  have e1 : (actPart x).1 = placeOf x := rfl
  have e2 : (actPart x).2.length ≤ x.text.length := by simp [actPart]; omega
  refine ⟨by omega, ?_⟩
  rcases h3 with h3 | h3 <;> omega

theorem pieceOf_mem {P : List (Nat × Bs)} {k : Int} (h : ixOf k < P.length) : ∃ p ∈ P, (pieceOf P k).1 = p.1 ∧ (pieceOf P k).2.length ≤ p.2.length := by
  refine ⟨P[ixOf k], List.getElem_mem h, ?_⟩
  unfold pieceOf
  rw [List.getElem?_eq_getElem h]
  simp only [Option.getD_some]
  split
  · exact ⟨rfl, by simp; omega⟩
  · exact ⟨rfl, Nat.le_refl _⟩

theorem synced_plain {l : List ActD} {K : Bs} {ks : List Int} (hK : K.length = 320) (hk : KeepOk (pendOf l).length ks) {i : Nat} (h : l.any (hits i) = false) : ((ks.map (pieceOf (pendOf l))).foldl lay K)[i]? = K[i]? := by
  apply lays_outside
  intro q hq
  simp only [List.mem_map] at hq
  obtain ⟨k, hkm, rfl⟩ := hq
  obtain ⟨p, hp, e1, e2⟩ := pieceOf_mem (hk.lt k hkm)
  have := pend_outside h p hp
  omega

theorem keep_small {n : Nat} {ks : List Int} (h : KeepOk n ks) (hn : n ≤ 1000000) : ∀ x ∈ ks, -9223372036854775808 ≤ x ∧ x ≤ 9223372036854775807 := by
  intro x hx
  have := h.lt x hx
  unfold ixOf at this
  split at this <;> omega

end Go.Proofs.Ytknmebknkncmoaa
