/- Plain: where each node's island stands among the islands, and what that says. No program in sight. -/
import Derived.Test.YtagfgbmaibadjaaIsLow
namespace Go.Proofs.Ytagfgbmaibadjaa

theorem pigeon0 : ∀ (n : Nat) (l : List Nat), l.Nodup → (∀ x ∈ l, x < n) → l.length ≤ n
  | 0, l, _, h => by
    cases l with
    | nil => simp
    | cons a t => have := h a (by simp); omega
  | n + 1, l, hd, h => by
    by_cases hm : n ∈ l
    · have h1 := pigeon0 n (l.erase n) (hd.erase n) (fun x hx => by
        have := (hd.mem_erase_iff).1 hx
        have := h x this.2
        omega)
      rw [List.length_erase_of_mem hm] at h1
      omega
    · have := pigeon0 n l hd (fun x hx => by
        have := h x hx
        have : x ≠ n := fun e => hm (e ▸ hx)
        omega)
      omega
theorem mem_island {g : Gr} {q j : Nat} : j ∈ island g q ↔ j < g.length ∧ Same g q j := by
  unfold island
  simp
theorem Same.symm {g : Gr} {a b : Nat} (h : Same g a b) : Same g b a := ⟨h.2, h.1⟩
theorem Same.trans {g : Gr} {a b c : Nat} (h : Same g a b) (k : Same g b c) : Same g a c := ⟨h.1.trans k.1, k.2.trans h.2⟩
theorem mem_done {out : List (List Nat)} {k x : Nat} : x ∈ (out.take k).flatten ↔ ∃ (i : Nat) (l : List Nat), i < k ∧ out[i]? = some l ∧ x ∈ l := by
  rw [List.mem_flatten]
  constructor
  · rintro ⟨l, hl, hx⟩
    obtain ⟨i, hi⟩ := List.getElem?_of_mem hl
    rw [List.getElem?_take] at hi
    split at hi
    · exact ⟨i, l, by assumption, hi, hx⟩
    · simp at hi
  · rintro ⟨i, l, hi, hl, hx⟩
    exact ⟨l, List.mem_of_getElem? (i := i) (by rw [List.getElem?_take, if_pos hi]; exact hl), hx⟩

section
variable {g : Gr} {out : List (List Nat)}
theorem IsParts.of (P : IsParts g out) {k : Nat} {l : List Nat} (hk : out[k]? = some l) : ∃ q, q < g.length ∧ q ∉ (out.take k).flatten ∧ (∀ j, Leads g q j → Same g q j ∨ j ∈ (out.take k).flatten) ∧ (∀ j, Ready g (out.take k).flatten j → q ≤ j) ∧ ∀ x, x ∈ l ↔ x < g.length ∧ Same g q x := by
  obtain ⟨q, h1, h2, h3⟩ := P.each k l hk
  exact ⟨q, h1.1, h1.2.1, h1.2.2, h2, fun x => by rw [h3]; exact mem_island⟩
theorem IsParts.lt (P : IsParts g out) {k : Nat} {l : List Nat} (hk : out[k]? = some l) {x : Nat} (hx : x ∈ l) : x < g.length := by
  obtain ⟨q, _, _, _, _, h⟩ := P.of hk
  exact ((h x).1 hx).1
theorem IsParts.disj (P : IsParts g out) {i k : Nat} {l m : List Nat} (hi : out[i]? = some l) (hk : out[k]? = some m) {x : Nat} (hx : x ∈ l) (hx2 : x ∈ m) : i = k := by
  have key : ∀ {i k : Nat} {l m : List Nat}, i < k → out[i]? = some l → out[k]? = some m → x ∈ l → x ∈ m → False := by
    intro i k l m hik hi hk hx hx2
    obtain ⟨q, q1, _, _, _, q5⟩ := P.of hi
    obtain ⟨p, p1, p2, _, _, p5⟩ := P.of hk
    have s : Same g q p := ((q5 x).1 hx).2.trans ((p5 x).1 hx2).2.symm
    exact p2 (mem_done.2 ⟨i, l, hik, hi, (q5 p).2 ⟨p1, s⟩⟩)
  rcases Nat.lt_trichotomy i k with h | h | h
  · exact (key h hi hk hx hx2).elim
  · exact h
  · exact (key h hk hi hx2 hx).elim
theorem IsParts.has (P : IsParts g out) {x : Nat} (hx : x < g.length) : ∃ (k : Nat) (l : List Nat), out[k]? = some l ∧ x ∈ l := by
  have := P.full x hx
  obtain ⟨l, hl, h⟩ := List.mem_flatten.1 this
  obtain ⟨k, hk⟩ := List.getElem?_of_mem hl
  exact ⟨k, l, hk, h⟩
theorem IsParts.closed (P : IsParts g out) (R : RightG g) {k x j : Nat} (hx : x ∈ (out.take k).flatten) (hl : Leads g x j) : j ∈ (out.take k).flatten := by
  obtain ⟨i, l, hi, hil, hxl⟩ := mem_done.1 hx
  obtain ⟨q, q1, _, q3, _, q5⟩ := P.of hil
  have hxs := (q5 x).1 hxl
  have hq := hxs.2.1.trans hl
  rcases q3 j hq with h | h
  · exact mem_done.2 ⟨i, l, hi, hil, (q5 j).2 ⟨leads_lt R hq q1, h⟩⟩
  · obtain ⟨i', l', h1, h2, h3⟩ := mem_done.1 h
    exact mem_done.2 ⟨i', l', by omega, h2, h3⟩
/-- what leads on stands there already, or in the same island -/
theorem IsParts.behind (P : IsParts g out) (R : RightG g) {i k x y : Nat} {l m : List Nat} (hi : out[i]? = some l) (hk : out[k]? = some m) (hx : x ∈ l) (hy : y ∈ m) (hl : Leads g x y) : k ≤ i := by
  have hd : x ∈ (out.take (i + 1)).flatten := mem_done.2 ⟨i, l, by omega, hi, hx⟩
  obtain ⟨k', m', h1, h2, h3⟩ := mem_done.1 (P.closed R hd hl)
  have := P.disj hk h2 hy h3
  omega
theorem IsParts.same (P : IsParts g out) {i k x y : Nat} {l m : List Nat} (hi : out[i]? = some l) (hk : out[k]? = some m) (hx : x ∈ l) (hy : y ∈ m) : i = k ↔ Same g x y := by
  obtain ⟨q, q1, _, q3, _, q5⟩ := P.of hi
  constructor
  · rintro rfl
    rw [hi] at hk
    have := Option.some.inj hk
    subst this
    exact ((q5 x).1 hx).2.symm.trans ((q5 y).1 hy).2
  · intro s
    exact P.disj hi hk ((q5 y).2 ⟨P.lt hk hy, ((q5 x).1 hx).2.trans s⟩) hy
theorem IsParts.first (P : IsParts g out) {k : Nat} {l : List Nat} (hk : out[k]? = some l) : ∃ q t, l = q :: t ∧ q < g.length ∧ q ∉ (out.take k).flatten ∧ (∀ j, Leads g q j → Same g q j ∨ j ∈ (out.take k).flatten) ∧ (∀ j, Ready g (out.take k).flatten j → q ≤ j) ∧ (∀ x, x ∈ l ↔ x < g.length ∧ Same g q x) ∧ l.Pairwise (· < ·) := by
  obtain ⟨q, h1, h2, h3⟩ := P.each k l hk
  have hm : q ∈ l := by rw [h3]; exact mem_island.2 ⟨h1.1, .refl _, .refl _⟩
  have hp : l.Pairwise (· < ·) := by
    rw [h3]
    unfold island
    exact List.pairwise_lt_range.filter _
  have hmem : ∀ x, x ∈ l ↔ x < g.length ∧ Same g q x := fun x => by rw [h3]; exact mem_island
  rcases l with _ | ⟨a, t⟩
  · simp at hm
  · have ha := (hmem a).1 (by simp)
    have hra : Ready g (out.take k).flatten a := ⟨ha.1, fun hd => by
      obtain ⟨i', l', e1, e2, e3⟩ := mem_done.1 hd
      have := P.disj e2 hk e3 (by simp)
      omega, fun j hj => (h1.2.2 j (ha.2.1.trans hj)).imp (fun s => ha.2.symm.trans s) id⟩
    have hqa := h2 a hra
    have : q = a := by
      rw [List.mem_cons] at hm
      rcases hm with h | h
      · exact h
      · have := (List.pairwise_cons.1 hp).1 q h
        omega
    subst this
    exact ⟨q, t, rfl, h1.1, h1.2.1, h1.2.2, h2, hmem, hp⟩
/-- one that is put off reads the one ahead of it -/
theorem IsParts.reads (P : IsParts g out) (R : RightG g) {i a b : Nat} {l m : List Nat} (hi : out[i]? = some (a :: l)) (hk : out[i + 1]? = some (b :: m)) (hab : ¬ a < b) : ∃ x y, x ∈ b :: m ∧ edge g x y ∧ y ∈ a :: l := by
  obtain ⟨q, t, e1, q1, q2, q3, q4, q5, _⟩ := P.first hi
  obtain ⟨p, t', e2, p1, p2, p3, p4, p5, _⟩ := P.first hk
  injection e1 with e1 e1'
  injection e2 with e2 e2'
  subst e1 e1' e2 e2'
  have hsplit : ∀ x, x ∈ (out.take (i + 1)).flatten → x ∈ a :: l ∨ x ∈ (out.take i).flatten := by
    intro x hx
    obtain ⟨i', l', h1, h2, h3⟩ := mem_done.1 hx
    by_cases e : i' = i
    · subst e
      rw [hi] at h2
      have := Option.some.inj h2
      exact .inl (this ▸ h3)
    · exact .inr (mem_done.2 ⟨i', l', by omega, h2, h3⟩)
  have hna : a ∈ a :: l := by simp
  have hnot : ¬ Ready g (out.take i).flatten b := fun hr => by
    have := q4 b hr
    have : a = b := by omega
    subst this
    have := P.disj hi hk hna (by simp)
    omega
  have hbn : b ∉ (out.take i).flatten := fun h => by
    obtain ⟨i', l', h1, h2, h3⟩ := mem_done.1 h
    exact p2 (mem_done.2 ⟨i', l', by omega, h2, h3⟩)
  obtain ⟨j, hj, hjs, hjd⟩ : ∃ j, Leads g b j ∧ ¬ Same g b j ∧ j ∉ (out.take i).flatten := by
    refine Classical.byContradiction fun h => hnot ⟨p1, hbn, fun j hj => ?_⟩
    by_cases h1 : Same g b j
    · exact .inl h1
    · by_cases h2 : j ∈ (out.take i).flatten
      · exact .inr h2
      · exact (h ⟨j, hj, h1, h2⟩).elim
  have key : ∀ x j, Leads g x j → Same g b x → ¬ Same g b j → j ∉ (out.take i).flatten → ∃ x y, x ∈ b :: m ∧ edge g x y ∧ y ∈ a :: l := by
    intro x j hl
    induction hl with
    | refl => exact fun h1 h2 _ => (h2 h1).elim
    | @step x y z e hl ih =>
      intro h1 h2 h3
      by_cases hs : Same g b y
      · exact ih hs h2 h3
      · rcases p3 y (h1.1.trans (.one e)) with h | h
        · exact (hs h).elim
        · rcases hsplit y h with h | h
          · exact ⟨x, y, (p5 x).2 ⟨edge_lt e, h1⟩, e, h⟩
          · exact (h3 (P.closed R h hl)).elim
  exact key b j hj ⟨.refl _, .refl _⟩ hjs hjd

/-- the island's place of each node, as the law reckons it: place of the last list that holds it -/
def ofRow (i : Nat) (l : List Nat) (f : Nat → Int) : Nat → Int := l.foldl (fun f x => upd f x (i : Int)) f
def ofPre (out : List (List Nat)) : Nat → Nat → Int
  | 0 => fun _ => -1
  | i + 1 => ofRow i ((out[i]?).getD []) (ofPre out i)
theorem ofRow_step {i : Nat} {l : List Nat} {f : Nat → Int} {k x : Nat} (h : l[k]? = some x) : ofRow i (l.take (k + 1)) f = upd (ofRow i (l.take k) f) x (i : Int) := by
  unfold ofRow
  rw [List.take_add_one, h, List.foldl_append]
  rfl
theorem ofRow_at {i : Nat} {l : List Nat} {f : Nat → Int} {x : Nat} : (x ∈ l → ofRow i l f x = (i : Int)) ∧ (x ∉ l → ofRow i l f x = f x) := by
  induction l generalizing f with
  | nil => simp [ofRow]
  | cons a t ih =>
    have e : ofRow i (a :: t) f = ofRow i t (upd f a (i : Int)) := rfl
    rw [e]
    constructor
    · intro hx
      by_cases ht : x ∈ t
      · exact ih.1 ht
      · rw [ih.2 ht]
        simp only [List.mem_cons, ht, or_false] at hx
        subst hx
        exact upd_same _ _ _
    · intro hx
      simp only [List.mem_cons, not_or] at hx
      rw [ih.2 hx.2]
      exact upd_far _ _ hx.1
theorem ofPre_at {x : Nat} : ∀ i, (∃ (k : Nat) (l : List Nat), k < i ∧ out[k]? = some l ∧ x ∈ l ∧ ofPre out i x = (k : Int)) ∨ (ofPre out i x = -1 ∧ ∀ (k : Nat) (l : List Nat), k < i → out[k]? = some l → x ∉ l)
  | 0 => .inr ⟨rfl, fun k l h => by omega⟩
  | i + 1 => by
    show (∃ (k : Nat) (l : List Nat), k < i + 1 ∧ out[k]? = some l ∧ x ∈ l ∧ ofRow i ((out[i]?).getD []) (ofPre out i) x = (k : Int)) ∨ (ofRow i ((out[i]?).getD []) (ofPre out i) x = -1 ∧ _)
    cases hl : out[i]? with
    | none =>
      simp only [Option.getD_none]
      rcases ofPre_at (x := x) i with ⟨k, l, h1, h2, h3, h4⟩ | ⟨h1, h2⟩
      · exact .inl ⟨k, l, by omega, h2, h3, h4⟩
      · refine .inr ⟨h1, fun k l hk hkl => ?_⟩
        by_cases e : k = i
        · subst e; rw [hl] at hkl; simp at hkl
        · exact h2 k l (by omega) hkl
    | some l =>
      simp only [Option.getD_some]
      by_cases hx : x ∈ l
      · exact .inl ⟨i, l, by omega, hl, hx, ofRow_at.1 hx⟩
      · rw [ofRow_at.2 hx]
        rcases ofPre_at (x := x) i with ⟨k, l, h1, h2, h3, h4⟩ | ⟨h1, h2⟩
        · exact .inl ⟨k, l, by omega, h2, h3, h4⟩
        · refine .inr ⟨h1, fun k l' hk hkl => ?_⟩
          by_cases e : k = i
          · subst e
            rw [hl] at hkl
            exact Option.some.inj hkl ▸ hx
          · exact h2 k l' (by omega) hkl
def posOf (out : List (List Nat)) : Nat → Int := ofPre out out.length
theorem IsParts.pos (P : IsParts g out) {k x : Nat} {l : List Nat} (hk : out[k]? = some l) (hx : x ∈ l) : posOf out x = (k : Int) := by
  rcases ofPre_at (out := out) (x := x) out.length with ⟨k', l', h1, h2, h3, h4⟩ | ⟨h1, h2⟩
  · have := P.disj h2 hk h3 hx
    subst this
    exact h4
  · exact (h2 k l (List.getElem?_eq_some_iff.1 hk).1 hk hx).elim
theorem IsParts.pos_has (P : IsParts g out) {x : Nat} (hx : x < g.length) : ∃ (k : Nat) (l : List Nat), out[k]? = some l ∧ x ∈ l ∧ posOf out x = (k : Int) := by
  obtain ⟨k, l, h1, h2⟩ := P.has hx
  exact ⟨k, l, h1, h2, P.pos h1 h2⟩
theorem IsParts.pos_le (P : IsParts g out) (R : RightG g) {i j : Nat} (h : edge g i j) : posOf out j ≤ posOf out i := by
  obtain ⟨k, l, h1, h2, h3⟩ := P.pos_has (edge_lt h)
  obtain ⟨k', l', h1', h2', h3'⟩ := P.pos_has (R i j h)
  have := P.behind R h1 h1' h2 h2' (.one h)
  omega
theorem IsParts.length (P : IsParts g out) : out.length ≤ g.length := by
  have h1 : ∀ (k : Nat) (l : List Nat), out[k]? = some l → 0 < l.length := fun k l hk => by
    obtain ⟨q, t, rfl, _⟩ := P.first hk
    simp
  have h2 : ∀ k, k ≤ out.length → k ≤ ((out.take k).map List.length).sum := by
    intro k
    induction k with
    | zero => simp
    | succ k ih =>
      intro hk
      have := ih (by omega)
      have hp := h1 k _ (List.getElem?_eq_getElem (show k < out.length by omega))
      rw [List.take_succ_eq_append_getElem (by omega), List.map_append, List.sum_append]
      simp only [List.map_cons, List.map_nil, List.sum_cons, List.sum_nil]
      omega
  have h3 := h2 out.length (Nat.le_refl _)
  rw [List.take_length] at h3
  have h4 : out.flatten.length = (out.map List.length).sum := List.length_flatten
  have h5 : out.flatten.Nodup := by
    rw [List.Nodup, List.pairwise_flatten]
    refine ⟨fun l hl => ?_, ?_⟩
    · obtain ⟨k, hk⟩ := List.getElem?_of_mem hl
      obtain ⟨q, t, _, _, _, _, _, _, hp⟩ := P.first hk
      exact hp.imp (fun h => by omega)
    · rw [List.pairwise_iff_getElem]
      intro i j hi hj hij x hx y hy e
      subst e
      have := P.disj (List.getElem?_eq_getElem hi) (List.getElem?_eq_getElem hj) hx hy
      omega
  have h6 := pigeon0 g.length out.flatten h5 (fun x hx => by
    obtain ⟨l, hl, h⟩ := List.mem_flatten.1 hx
    obtain ⟨k, hk⟩ := List.getElem?_of_mem hl
    exact P.lt hk h)
  omega
end

end Go.Proofs.Ytagfgbmaibadjaa
