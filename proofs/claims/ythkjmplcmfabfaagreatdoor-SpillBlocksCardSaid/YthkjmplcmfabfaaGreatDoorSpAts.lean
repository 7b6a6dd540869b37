/- Places of raw numbers, in order, each once; spills of them: what the laws on spills are made of; no program in sight. No condition. -/
import Derived.Test.YthkjmplcmfabfaaGreatDoorSpPlace
namespace Go.Proofs.YthkjmplcmfabfaaGreatDoor

/-- which of n things a raw number speaks of -/
def pk (c n : Int) : Int := (if c < 0 then -1 - c else c) % n
theorem pk_range (c n : Int) (hn : 0 < n) : 0 ≤ pk c n ∧ pk c n < n := by
  unfold pk
  exact ⟨Int.emod_nonneg _ (by omega), Int.emod_lt_of_pos _ hn⟩

/-- the place that three raw numbers speak of -/
def rawP (x : PAt) : PAt := if pk x.2.1 17 = 16 then (pk x.1 2, 199 - pk x.2.1 8 % 3, 51 - pk x.2.2 6 % 3) else (pk x.1 2, pk x.2.1 8, pk x.2.2 6)
/-- a place of a sheet of the two -/
def InTwo (p : PAt) : Prop := 0 ≤ p.1 ∧ p.1 < 2 ∧ 0 ≤ p.2.1 ∧ p.2.1 < 200 ∧ 0 ≤ p.2.2 ∧ p.2.2 < 52
theorem rawP_in (x : PAt) : InTwo (rawP x) := by
  have h1 := pk_range x.1 2 (by omega)
  have h2 := pk_range x.2.1 8 (by omega)
  have h3 := pk_range x.2.2 6 (by omega)
  unfold rawP InTwo
  split <;> dsimp only <;> omega

/-- places in order, each once -/
def Rising (l : List PAt) : Prop := l.Pairwise aheadP
/-- how many of some places stand ahead of one -/
def cutP (p : PAt) (l : List PAt) : Nat := l.countP fun y => decide (aheadP y p)
theorem cutP_le (p : PAt) (l : List PAt) : cutP p l ≤ l.length := List.countP_le_length
theorem cutP_nil (p : PAt) : cutP p [] = 0 := rfl
theorem cutP_all {p : PAt} {l : List PAt} (h : ∀ y, y ∈ l → aheadP y p) : cutP p l = l.length := by
  unfold cutP
  rw [List.countP_eq_length]
  intro y hy
  simpa using h y hy
theorem cutP_no {p : PAt} {l : List PAt} (h : ∀ y, y ∈ l → ¬ aheadP y p) : cutP p l = 0 := by
  unfold cutP
  rw [List.countP_eq_zero]
  intro y hy
  simpa using h y hy
theorem cutP_parts {p : PAt} {l : List PAt} (h : Rising l) : (∀ y, y ∈ l.take (cutP p l) → aheadP y p) ∧ ∀ y, y ∈ l.drop (cutP p l) → ¬ aheadP y p := by
  induction l with
  | nil => simp
  | cons x l ih =>
    have h' := List.pairwise_cons.1 h
    by_cases hx : aheadP x p
    · have e : cutP p (x :: l) = cutP p l + 1 := by simp [cutP, hx]
      rw [e, List.take_succ_cons, List.drop_succ_cons]
      refine ⟨fun y hy => ?_, (ih h'.2).2⟩
      rcases List.mem_cons.1 hy with rfl | hy
      · exact hx
      · exact (ih h'.2).1 y hy
    · have hn : ∀ y, y ∈ x :: l → ¬ aheadP y p := by
        intro y hy hp
        rcases List.mem_cons.1 hy with rfl | hy
        · exact hx hp
        · exact hx ((h'.1 y hy).trans hp)
      rw [cutP_no hn]
      simpa using hn
/-- a round of the search for where a place stands -/
theorem cutP_round {p y : PAt} {l : List PAt} {k : Nat} (h : Rising l) (hy : l[k]? = some y) : cutP p (l.take (k + 1)) = if aheadP y p then k + 1 else cutP p (l.take k) := by
  obtain ⟨hk, e⟩ := List.getElem?_eq_some_iff.1 hy
  have et : l.take (k + 1) = l.take k ++ [y] := by rw [List.take_succ_eq_append_getElem hk, e]
  split
  · rename_i hp
    rw [cutP_all, List.length_take]
    · omega
    · intro z hz
      rw [et] at hz
      rcases List.mem_append.1 hz with hz | hz
      · have hs : l = l.take k ++ y :: l.drop (k + 1) := by rw [← e, ← List.drop_eq_getElem_cons hk, List.take_append_drop]
        have h' := h
        unfold Rising at h'
        rw [hs, List.pairwise_append] at h'
        exact (h'.2.2 z hz y (by simp)).trans hp
      · simp only [List.mem_singleton] at hz
        exact hz ▸ hp
  · rename_i hp
    rw [et]
    simp [cutP, List.countP_append, hp]

/-- a place put where it stands -/
def putP (p : PAt) (l : List PAt) : List PAt := l.take (cutP p l) ++ p :: l.drop (cutP p l)
theorem putP_rising {p : PAt} {l : List PAt} (h : Rising l) (hp : p ∉ l) : Rising (putP p l) := by
  obtain ⟨h1, h2⟩ := cutP_parts (p := p) h
  have h3 : ∀ y, y ∈ l.drop (cutP p l) → aheadP p y := fun y hy => by
    have hne : p ≠ y := fun e => hp (e ▸ List.mem_of_mem_drop hy)
    rcases aheadP.total hne with h4 | h4
    · exact h4
    · exact absurd h4 (h2 y hy)
  have h' := h
  unfold Rising at h'
  rw [← List.take_append_drop (cutP p l) l, List.pairwise_append] at h'
  unfold Rising putP
  rw [List.pairwise_append]
  refine ⟨h'.1, List.pairwise_cons.2 ⟨h3, h'.2.1⟩, fun a ha b hb => ?_⟩
  rcases List.mem_cons.1 hb with rfl | hb
  · exact h1 a ha
  · exact h'.2.2 a ha b hb
theorem putP_mem {p y : PAt} {l : List PAt} : y ∈ putP p l ↔ y = p ∨ y ∈ l := by
  have h : y ∈ l ↔ y ∈ l.take (cutP p l) ∨ y ∈ l.drop (cutP p l) := by
    conv => lhs; rw [← List.take_append_drop (cutP p l) l]
    exact List.mem_append
  unfold putP
  rw [List.mem_append, List.mem_cons, h]
  constructor <;> (rintro (h | h | h) <;> simp [h])
theorem putP_length (p : PAt) (l : List PAt) : (putP p l).length = l.length + 1 := by
  have := cutP_le p l
  simp [putP]
  omega

/-- one raw place more -/
def insP (l : List PAt) (x : PAt) : List PAt := if rawP x ∈ l then l else putP (rawP x) l
/-- the places of raw ones -/
def atsOf (l : List PAt) : List PAt := (l.take 12).foldl insP []
theorem insP_rising {l : List PAt} (h : Rising l) (x : PAt) : Rising (insP l x) := by
  unfold insP
  split
  · exact h
  · exact putP_rising h (by assumption)
theorem insP_in {l : List PAt} (h : ∀ p, p ∈ l → InTwo p) (x : PAt) : ∀ p, p ∈ insP l x → InTwo p := by
  intro p hp
  unfold insP at hp
  split at hp
  · exact h p hp
  · rcases putP_mem.1 hp with rfl | hp
    · exact rawP_in x
    · exact h p hp
theorem insP_length (l : List PAt) (x : PAt) : (insP l x).length ≤ l.length + 1 := by
  unfold insP
  split
  · omega
  · rw [putP_length]; omega
/-- what is true behind each round -/
structure AtsOk (l : List PAt) (n : Nat) : Prop where
  rising : Rising l
  two : ∀ p, p ∈ l → InTwo p
  few : l.length ≤ n
theorem ins_fold (r : List PAt) : ∀ (l : List PAt) (n : Nat), AtsOk l n → AtsOk (r.foldl insP l) (n + r.length) := by
  induction r with
  | nil => intro l n h; exact h
  | cons x r ih =>
    intro l n h
    rw [List.foldl_cons, List.length_cons, show n + (r.length + 1) = (n + 1) + r.length by omega]
    exact ih _ _ ⟨insP_rising h.rising x, insP_in h.two x, Nat.le_trans (insP_length l x) (by have := h.few; omega)⟩
def atsUpto (l : List PAt) (n : Nat) : List PAt := (l.take n).foldl insP []
theorem atsUpto_next {l : List PAt} {n : Nat} {x : PAt} (hx : l[n]? = some x) : atsUpto l (n + 1) = insP (atsUpto l n) x := by
  obtain ⟨hn, e⟩ := List.getElem?_eq_some_iff.1 hx
  unfold atsUpto
  rw [List.take_succ_eq_append_getElem hn, e, List.foldl_append]
  rfl
theorem atsUpto_ok (l : List PAt) (n : Nat) : AtsOk (atsUpto l n) n := by
  have h := ins_fold (l.take n) [] 0 ⟨List.Pairwise.nil, by simp, by simp⟩
  refine ⟨h.rising, h.two, Nat.le_trans h.few ?_⟩
  rw [List.length_take]
  omega
theorem atsOf_ok (l : List PAt) : AtsOk (atsOf l) 12 := atsUpto_ok l 12
theorem atsOf_upto {l : List PAt} {n : Nat} (h : n = l.length ∨ n = 12) (h1 : n ≤ l.length) (h2 : n ≤ 12) : atsUpto l n = atsOf l := by
  rcases h with h | h
  · unfold atsUpto atsOf
    rw [List.take_of_length_le (by omega), List.take_of_length_le (by omega)]
  · subst h; rfl

/-- the cells of a sheet -/
def onSheet (l : List PAt) (s : Int) : List PAt := l.filter fun p => decide (p.1 = s)
theorem onSheet_rising {l : List PAt} (h : Rising l) (s : Int) : Rising (onSheet l s) := h.sublist List.filter_sublist
/-- one sheet's, and then the other one's, are all -/
theorem two_sheets {l : List PAt} (h : Rising l) (h2 : ∀ p, p ∈ l → InTwo p) : onSheet l 0 ++ onSheet l 1 = l := by
  induction l with
  | nil => rfl
  | cons x l ih =>
    have h' := List.pairwise_cons.1 h
    have hx := h2 x (by simp)
    have ih' := ih h'.2 (fun p hp => h2 p (by simp [hp]))
    by_cases e : x.1 = 0
    · have e1 : onSheet (x :: l) 0 = x :: onSheet l 0 := by simp [onSheet, e]
      have e2 : onSheet (x :: l) 1 = onSheet l 1 := by simp [onSheet, e]
      rw [e1, e2, List.cons_append, ih']
    · have e' : x.1 = 1 := by unfold InTwo at hx; omega
      have hn : onSheet l 0 = [] := by
        unfold onSheet
        rw [List.filter_eq_nil_iff]
        intro y hy
        have := h'.1 y hy
        have hy2 := h2 y (by simp [hy])
        unfold aheadP at this
        unfold InTwo at hy2
        simp only [decide_eq_true_eq]
        omega
      have e1 : onSheet (x :: l) 0 = [] := by
        have : onSheet (x :: l) 0 = onSheet l 0 := by simp [onSheet, e']
        rw [this, hn]
      have e2 : onSheet (x :: l) 1 = x :: onSheet l 1 := by simp [onSheet, e']
      rw [hn] at ih'
      rw [List.nil_append] at ih'
      rw [e1, e2, List.nil_append, ih']

/-- the spill of a cell, by a size: none, if that is 0 -/
def spillOf (p : PAt) (n : Int × Int) : List PSp := if 0 < pk n.1 6 then [(p, pk n.1 6, 1 + pk n.2 5)] else []
/-- the spills of the first ones of some cells -/
def ownUpto (a : List PAt) (z : List (Int × Int)) : Nat → List PSp
  | 0 => []
  | i + 1 => ownUpto a z i ++ (match a[i]?, z[i % z.length]? with | some p, some n => spillOf p n | _, _ => [])
def ownOf (a : List PAt) (z : List (Int × Int)) : List PSp := ownUpto a z a.length
theorem spillOf_mem {p : PAt} {n : Int × Int} {x : PSp} (h : x ∈ spillOf p n) : x.1 = p ∧ 1 ≤ x.2.1 ∧ x.2.1 ≤ 5 ∧ 1 ≤ x.2.2 ∧ x.2.2 ≤ 5 := by
  have h1 := pk_range n.1 6 (by omega)
  have h2 := pk_range n.2 5 (by omega)
  unfold spillOf at h
  split at h
  · simp only [List.mem_singleton] at h
    subst h
    refine ⟨rfl, ?_, ?_, ?_, ?_⟩ <;> dsimp only <;> omega
  · simp at h
theorem spillOf_length (p : PAt) (n : Int × Int) : (spillOf p n).length ≤ 1 := by
  unfold spillOf
  split <;> simp
theorem ownUpto_next {a : List PAt} {z : List (Int × Int)} {i : Nat} {p : PAt} {n : Int × Int} (hp : a[i]? = some p) (hn : z[i % z.length]? = some n) : ownUpto a z (i + 1) = ownUpto a z i ++ spillOf p n := by
  simp [ownUpto, hp, hn]
theorem ownUpto_none {a : List PAt} (i : Nat) : ownUpto a [] i = [] := by
  induction i with
  | zero => rfl
  | succ i ih => simp [ownUpto, ih]
theorem ownUpto_mem {a : List PAt} {z : List (Int × Int)} {i : Nat} : ∀ x, x ∈ ownUpto a z i → x.1 ∈ a.take i ∧ 1 ≤ x.2.1 ∧ x.2.1 ≤ 5 ∧ 1 ≤ x.2.2 ∧ x.2.2 ≤ 5 := by
  induction i with
  | zero => intro x h; simp [ownUpto] at h
  | succ i ih =>
    intro x h
    rw [ownUpto, List.mem_append] at h
    rcases h with h | h
    · have := ih x h
      refine ⟨?_, this.2⟩
      have h1 := List.mem_take_iff_getElem.1 this.1
      obtain ⟨j, hj, e⟩ := h1
      exact List.mem_take_iff_getElem.2 ⟨j, by omega, e⟩
    · split at h
      · rename_i p n hp hn
        have := spillOf_mem h
        refine ⟨?_, this.2⟩
        obtain ⟨hi, e⟩ := List.getElem?_eq_some_iff.1 hp
        rw [this.1]
        exact List.mem_take_iff_getElem.2 ⟨i, by omega, e⟩
      · simp at h
theorem ownUpto_length (a : List PAt) (z : List (Int × Int)) (i : Nat) : (ownUpto a z i).length ≤ i := by
  induction i with
  | zero => simp [ownUpto]
  | succ i ih =>
    rw [ownUpto, List.length_append]
    split
    · have := spillOf_length ‹PAt› ‹Int × Int›
      omega
    · simp
      omega
theorem ownUpto_order {a : List PAt} (h : Rising a) (z : List (Int × Int)) (i : Nat) : inOrder (ownUpto a z i) := by
  induction i with
  | zero => exact List.Pairwise.nil
  | succ i ih =>
    unfold inOrder at ih ⊢
    rw [ownUpto, List.pairwise_append]
    refine ⟨ih, ?_, ?_⟩
    · split
      · unfold spillOf
        split <;> simp
      · exact List.Pairwise.nil
    · intro x hx y hy
      split at hy
      · rename_i p n hp hn
        obtain ⟨hi, e⟩ := List.getElem?_eq_some_iff.1 hp
        have hs : a = a.take i ++ p :: a.drop (i + 1) := by rw [← e, ← List.drop_eq_getElem_cons hi, List.take_append_drop]
        have h' := h
        unfold Rising at h'
        rw [hs, List.pairwise_append] at h'
        rw [(spillOf_mem hy).1]
        exact h'.2.2 x.1 (ownUpto_mem x hx).1 p (by simp)
      · simp at hy

/-- spills that may be, where there are such cells -/
structure OwnOk (a : List PAt) (l : List PSp) : Prop where
  order : inOrder l
  here : ∀ x, x ∈ l → x.1 ∈ a
  size : ∀ x, x ∈ l → 1 ≤ x.2.1 ∧ x.2.1 ≤ 5 ∧ 1 ≤ x.2.2 ∧ x.2.2 ≤ 5
  few : l.length ≤ a.length
theorem ownOf_ok {a : List PAt} (h : Rising a) (z : List (Int × Int)) : OwnOk a (ownOf a z) :=
  ⟨ownUpto_order h z _, fun x hx => List.mem_of_mem_take (ownUpto_mem x hx).1, fun x hx => (ownUpto_mem x hx).2, ownUpto_length a z _⟩
end Go.Proofs.YthkjmplcmfabfaaGreatDoor
