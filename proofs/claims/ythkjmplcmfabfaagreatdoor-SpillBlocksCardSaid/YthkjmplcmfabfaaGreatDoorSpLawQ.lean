/- Plain facts for the laws SpillCover, SpillApart and SpillReasons: what stands of the spills that are placed and blocked; no program in sight. No condition. Plain facts for the law SpillBlocks: what an input within a spill's area that is placed changes; no program in sight. No condition. Plain facts: a place put among places, sheet by sheet, and taken out again. No condition. Plain facts for the law SpillBlocks: a place within a spill's area; places with one more among them. No condition. -/
import Derived.Test.YthkjmplcmfabfaaGreatDoorSpPlace
import Derived.Test.YthkjmplcmfabfaaGreatDoorSpAts
import Derived.Test.YthkjmplcmfabfaaGreatDoorSpMay

/- Plain facts for the laws SpillCover, SpillApart and SpillReasons: what stands of the spills that are placed and blocked; no program in sight. No condition. -/
namespace Go.Proofs.YthkjmplcmfabfaaGreatDoor

/-- the spills of a law, which of them are placed, and which are blocked -/
structure Pd (A : List PAt) (own P : List PSp) (Q : List PAt) : Prop where
  rise : Rising A
  two : ∀ p, p ∈ A → InTwo p
  order : inOrder own
  here : ∀ x, x ∈ own → x.1 ∈ A
  size : ∀ x, x ∈ own → 1 ≤ x.2.1 ∧ x.2.1 ≤ 5 ∧ 1 ≤ x.2.2 ∧ x.2.2 ≤ 5
  eP : P = (placeP (fun p => p ∈ A) own).1
  eQ : Q = (placeP (fun p => p ∈ A) own).2

section
variable {A : List PAt} {own P : List PSp} {Q : List PAt}
theorem Pd.apart (h : Pd A own P Q) : P.Pairwise fun x y => ∀ p, tileP x p → ¬ tileP y p := by
  rw [h.eP]
  exact placeP_apart _ _ h.here h.order
theorem Pd.mem (h : Pd A own P Q) {x : PSp} (hx : x ∈ P) : x ∈ own ∧ rightP x := by
  rw [h.eP] at hx
  exact placeP_mem _ _ _ hx
theorem Pd.self (h : Pd A own P Q) {x : PSp} (hx : x ∈ P) : hasP x x.1 := hasP_iff.2 ⟨(h.mem hx).2, tile_self (h.mem hx).2⟩
theorem Pd.cover (h : Pd A own P Q) {x : PSp} (hx : x ∈ P) {p : PAt} (hp : hasP x p) : coverP P p = some x := coverP_one hx hp h.apart
theorem Pd.coverSelf (h : Pd A own P Q) {x : PSp} (hx : x ∈ P) : coverP P x.1 = some x := h.cover hx (h.self hx)
theorem Pd.many (h : Pd A own P Q) (p : PAt) : manyP P p ≤ 1 := manyP_le h.apart
theorem Pd.sum (h : Pd A own P Q) : P.length + Q.length = own.length := by
  rw [h.eP, h.eQ]
  exact placeP_length _ _
/-- no two that are placed meet -/
theorem Pd.noMeet (h : Pd A own P Q) {i k : Nat} {x y : PSp} (hx : P[i]? = some x) (hy : P[k]? = some y) (hk : k < i) : ¬ meetP x y := by
  intro hm
  obtain ⟨-, -, p, h1, h2⟩ := meetP_iff.1 hm
  obtain ⟨i1, ei⟩ := List.getElem?_eq_some_iff.1 hx
  obtain ⟨k1, ek⟩ := List.getElem?_eq_some_iff.1 hy
  have := List.pairwise_iff_getElem.1 h.apart k i k1 i1 hk p
  rw [ei, ek] at this
  exact this h2 h1
/-- of the cells its own alone is in an area that is placed -/
theorem Pd.cells (h : Pd A own P Q) {x : PSp} (hx : x ∈ P) {c : PAt} (hc : c ∈ A) : hasP x c ↔ c = x.1 := by
  constructor
  · intro hh
    apply Classical.byContradiction
    intro hne
    have hf := placeP_free own (fun p => p ∈ A) x (by rw [← h.eP]; exact hx)
    exact hf c (hasP_iff.1 hh).2 hne hc
  · rintro rfl
    exact h.self hx

/-- how many of the first ones are placed, and are blocked -/
noncomputable def pN (A : List PAt) (own : List PSp) (n : Nat) : Nat := (placeP (fun p => p ∈ A) (own.take n)).1.length
noncomputable def qN (A : List PAt) (own : List PSp) (n : Nat) : Nat := (placeP (fun p => p ∈ A) (own.take n)).2.length
theorem pN_zero : pN A own 0 = 0 := rfl
theorem qN_zero : qN A own 0 = 0 := rfl
theorem Pd.pEnd (h : Pd A own P Q) {n : Nat} (hn : own.length ≤ n) : pN A own n = P.length := by
  unfold pN
  rw [List.take_of_length_le hn, h.eP]
theorem Pd.qEnd (h : Pd A own P Q) {n : Nat} (hn : own.length ≤ n) : qN A own n = Q.length := by
  unfold qN
  rw [List.take_of_length_le hn, h.eQ]
theorem Pd.pLe (h : Pd A own P Q) (n : Nat) : pN A own n ≤ P.length := by
  obtain ⟨a, b, h1, h2⟩ := place_take_le (fun p => p ∈ A) own n
  rw [h.eP, h1, List.length_append]
  unfold pN
  omega
theorem Pd.qLe (h : Pd A own P Q) (n : Nat) : qN A own n ≤ Q.length := by
  obtain ⟨a, b, h1, h2⟩ := place_take_le (fun p => p ∈ A) own n
  rw [h.eQ, h2, List.length_append]
  unfold qN
  omega
theorem Pd.step (h : Pd A own P Q) {n : Nat} {x : PSp} (hx : own[n]? = some x) :
    (P[pN A own n]? = some x ∧ Q[qN A own n]? ≠ some x.1 ∧ pN A own (n + 1) = pN A own n + 1 ∧ qN A own (n + 1) = qN A own n) ∨
    (Q[qN A own n]? = some x.1 ∧ P[pN A own n]? ≠ some x ∧ pN A own (n + 1) = pN A own n ∧ qN A own (n + 1) = qN A own n + 1 ∧
      ((200 < x.1.2.1 + x.2.1 ∨ 52 < x.1.2.2 + x.2.2) ∨ (∃ c, c ∈ A ∧ c ≠ x.1 ∧ hasP x c) ∨ ∃ y, y ∈ P ∧ meetP x y ∧ aheadP y.1 x.1)) := by
  by_cases hh : rightP x ∧ freeP x (takenP (fun p => p ∈ A) (own.take n))
  · obtain ⟨h1, h2, h3, h4⟩ := here_placed h.order hx hh
    left
    unfold pN qN
    rw [h.eP, h.eQ]
    exact ⟨h1, h2, by rw [h3]; simp, by rw [h4]⟩
  · obtain ⟨h1, h2, h3, h4⟩ := here_blocked h.order hx hh
    right
    have hw := blocked_why h.order hx hh
    rw [← h.eP] at hw
    unfold pN qN
    rw [h.eP, h.eQ]
    rw [← h.eP]
    refine ⟨h1, by rw [h.eP]; exact h2, by rw [h3], by rw [h4]; simp, ?_⟩
    rcases hw with hw | hw
    · left
      have hm := List.mem_of_getElem? hx
      have h2 := h.two _ (h.here x hm)
      have h3 := h.size x hm
      unfold InTwo at h2
      unfold rightP at hw
      omega
    · exact .inr hw
end
theorem pd_of (L : List PAt) (z : List (Int × Int)) : Pd (atsOf L) (ownOf (atsOf L) z) (placeP (fun p => p ∈ atsOf L) (ownOf (atsOf L) z)).1 (placeP (fun p => p ∈ atsOf L) (ownOf (atsOf L) z)).2 := by
  have hok := atsOf_ok L
  have h := ownOf_ok hok.rising z
  exact ⟨hok.rising, hok.two, h.order, h.here, h.size, rfl, rfl⟩
end Go.Proofs.YthkjmplcmfabfaaGreatDoor

/- Plain facts for the law SpillBlocks: what an input within a spill's area that is placed changes; no program in sight. No condition. -/
namespace Go.Proofs.YthkjmplcmfabfaaGreatDoor

section
variable {T : PAt → Prop} {l : List PSp} {n : Nat} {s : PSp} {a : PAt}

theorem taken_more {m : Nat} (he : placeP (fun p => T p ∨ p = a) (l.take m) = placeP T (l.take m)) (p : PAt) : takenP (fun p => T p ∨ p = a) (l.take m) p ↔ takenP T (l.take m) p ∨ p = a := by
  unfold takenP
  rw [he]
  constructor
  · rintro ((h | h) | h)
    · exact .inl (.inl h)
    · exact .inr h
    · exact .inl (.inr h)
  · rintro ((h | h) | h)
    · exact .inl (.inl h)
    · exact .inr h
    · exact .inl (.inr h)

theorem not_placed {x : PSp} (ho : inOrder l) (hx : l[n]? = some x) (h : ¬ (rightP x ∧ freeP x (takenP T (l.take n)))) : x ∉ (placeP T l).1 := by
  rw [place_split hx, placeP_no h]
  intro hm
  rcases List.mem_append.1 hm with h1 | h1
  · exact (ahead_ne ho hx x (placeP_mem _ _ _ h1).1).ne rfl
  · exact (behind_ne ho hx x (placeP_mem _ _ _ h1).1).ne rfl

/-- the ones ahead of it are placed, and blocked, as they were -/
theorem block_ahead (ho : inOrder l) (hT : ∀ x, x ∈ l → T x.1) (hs : l[n]? = some s) (hp : s ∈ (placeP T l).1) (ht : tileP s a) :
    ∀ m, m ≤ n → placeP (fun p => T p ∨ p = a) (l.take m) = placeP T (l.take m) := by
  intro m
  induction m with
  | zero => intro _; rfl
  | succ m ih =>
    intro hm
    have he := ih (by omega)
    obtain ⟨hn, -⟩ := List.getElem?_eq_some_iff.1 hs
    obtain ⟨x, hx⟩ : ∃ x, l[m]? = some x := ⟨_, List.getElem?_eq_getElem (by omega)⟩
    have hxs : aheadP x.1 s.1 := behind_ne ho hx s (by
      obtain ⟨h1, e1⟩ := List.getElem?_eq_some_iff.1 hs
      rw [List.mem_drop_iff_getElem]
      exact ⟨n - (m + 1), by omega, by rw [← e1]; congr 1; omega⟩)
    have hb : (rightP x ∧ freeP x (takenP (fun p => T p ∨ p = a) (l.take m))) ↔ (rightP x ∧ freeP x (takenP T (l.take m))) := by
      constructor
      · rintro ⟨hr, hf⟩
        exact ⟨hr, fun p h1 h2 h3 => hf p h1 h2 ((taken_more he p).2 (.inl h3))⟩
      · rintro ⟨hr, hf⟩
        refine ⟨hr, fun p h1 h2 h3 => ?_⟩
        rcases (taken_more he p).1 h3 with h4 | rfl
        · exact hf p h1 h2 h4
        · have hxP : x ∈ (placeP T l).1 := List.mem_of_getElem? (here_placed ho hx ⟨hr, hf⟩).1
          have hap := placeP_apart l T hT ho
          obtain ⟨i, hi, ei⟩ := List.mem_iff_getElem.1 hxP
          obtain ⟨j, hj, ej⟩ := List.mem_iff_getElem.1 hp
          rcases Nat.lt_trichotomy i j with h | h | h
          · have := List.pairwise_iff_getElem.1 hap i j hi hj h p
            rw [ei, ej] at this
            exact this h1 ht
          · subst h
            rw [ei] at ej
            subst ej
            exact hxs.ne rfl
          · have := List.pairwise_iff_getElem.1 hap j i hj hi h p
            rw [ei, ej] at this
            exact this ht h1
    rw [place_next hx, place_next hx, he]
    by_cases hh : rightP x ∧ freeP x (takenP T (l.take m))
    · rw [placeP_yes hh, placeP_yes (hb.2 hh)]
      simp [placeP]
    · rw [placeP_no hh, placeP_no (fun h => hh (hb.1 h))]
      simp [placeP]
end

section
variable {A : List PAt} {own P : List PSp} {Q : List PAt} {s : PSp} {a : PAt}
/-- what is placed, and blocked, with one input more -/
structure Bk (A : List PAt) (own P R : List PSp) (Z : List PAt) (s : PSp) (a : PAt) : Prop where
  sum : R.length + Z.length = own.length
  now : s.1 ∈ Z
  not : ∀ r, r ∈ R → r ≠ s ∧ ¬ hasP r a
  ahead : ∀ (j : Nat) (x : PSp), (∀ y, y ∈ P.take (j + 1) → y ≠ s) → P[j]? = some x → R[j]? = some x
theorem Pd.block (h : Pd A own P Q) (hs : s ∈ P) (ht : tileP s a) (hne : a ≠ s.1) :
    Bk A own P (placeP (fun p => p ∈ A ∨ p = a) own).1 (placeP (fun p => p ∈ A ∨ p = a) own).2 s a := by
  have hsT : s ∈ (placeP (fun p => p ∈ A) own).1 := by rw [← h.eP]; exact hs
  obtain ⟨n, hn⟩ : ∃ n, own[n]? = some s := by
    obtain ⟨i, hi, ei⟩ := List.mem_iff_getElem.1 (h.mem hs).1
    exact ⟨i, by rw [List.getElem?_eq_getElem hi, ei]⟩
  have haA : a ∉ A := fun hc => placeP_free own (fun p => p ∈ A) s hsT a ht hne hc
  have hno : ¬ (rightP s ∧ freeP s (takenP (fun p => p ∈ A ∨ p = a) (own.take n))) := by
    rintro ⟨-, hf⟩
    exact hf a ht hne (Or.inl (Or.inr rfl))
  have hb := here_blocked h.order hn hno
  have hpre := block_ahead (T := fun p => p ∈ A) h.order h.here hn hsT ht n (Nat.le_refl _)
  refine ⟨placeP_length _ _, List.mem_of_getElem? hb.1, fun r hr => ⟨?_, ?_⟩, fun j x hj hx => ?_⟩
  · rintro rfl
    exact placeP_free own _ r hr a ht hne (Or.inr rfl)
  · intro hh
    have hf := placeP_free own _ r hr a (hasP_iff.1 hh).2
    by_cases e : a = r.1
    · exact haA (by rw [e]; exact h.here r (placeP_mem _ _ _ hr).1)
    · exact hf e (Or.inr rfl)
  · -- the first ones of both
    have hsn : rightP s ∧ freeP s (takenP (fun p => p ∈ A) (own.take n)) := by
      apply Classical.byContradiction
      intro hc
      exact not_placed h.order hn hc hsT
    have hpl := here_placed h.order hn hsn
    have hlt : j < (placeP (fun p => p ∈ A) (own.take n)).1.length := by
      apply Classical.byContradiction
      intro hge
      have hm : s ∈ P.take (j + 1) := by
        rw [h.eP]
        rw [List.mem_take_iff_getElem]
        obtain ⟨i1, e1⟩ := List.getElem?_eq_some_iff.1 hpl.1
        exact ⟨_, by omega, e1⟩
      exact hj s hm rfl
    obtain ⟨u, v, e1, -⟩ := place_take_le (fun p => p ∈ A) own n
    obtain ⟨u', v', e2, -⟩ := place_take_le (fun p => p ∈ A ∨ p = a) own n
    rw [h.eP, e1, List.getElem?_append_left hlt] at hx
    rw [e2, hpre, List.getElem?_append_left hlt]
    exact hx
end
end Go.Proofs.YthkjmplcmfabfaaGreatDoor

/- Plain facts: a place put among places, sheet by sheet, and taken out again. No condition. -/
namespace Go.Proofs.YthkjmplcmfabfaaGreatDoor

theorem rising_ext : ∀ {l m : List PAt}, Rising l → Rising m → (∀ y, y ∈ l ↔ y ∈ m) → l = m
  | [], [], _, _, _ => rfl
  | [], y :: m, _, _, h => absurd ((h y).2 (by simp)) (by simp)
  | x :: l, [], _, _, h => absurd ((h x).1 (by simp)) (by simp)
  | x :: l, y :: m, hl, hm, h => by
    have hl' := List.pairwise_cons.1 hl
    have hm' := List.pairwise_cons.1 hm
    have e : x = y := by
      rcases List.mem_cons.1 ((h x).1 (by simp)) with e | e
      · exact e
      · rcases List.mem_cons.1 ((h y).2 (by simp)) with e2 | e2
        · exact e2.symm
        · exact absurd rfl ((hl'.1 y e2).trans (hm'.1 x e)).ne
    subst e
    have ht : l = m := rising_ext hl'.2 hm'.2 (fun z => by
      constructor
      · intro hz
        rcases List.mem_cons.1 ((h z).1 (by simp [hz])) with e | e
        · exact absurd e.symm (hl'.1 z hz).ne
        · exact e
      · intro hz
        rcases List.mem_cons.1 ((h z).2 (by simp [hz])) with e | e
        · exact absurd e.symm (hm'.1 z hz).ne
        · exact e)
    rw [ht]
theorem onSheet_mem {l : List PAt} {s : Int} {y : PAt} : y ∈ onSheet l s ↔ y.1 = s ∧ y ∈ l := by
  unfold onSheet
  rw [List.mem_filter]
  constructor
  · exact fun h => ⟨of_decide_eq_true h.2, h.1⟩
  · exact fun h => ⟨h.2, decide_eq_true h.1⟩
theorem onSheet_put {A : List PAt} {p : PAt} (h : Rising A) (hp : p ∉ A) : onSheet (putP p A) p.1 = putP p (onSheet A p.1) := by
  have h1 : p ∉ onSheet A p.1 := fun hc => hp (onSheet_mem.1 hc).2
  refine rising_ext (onSheet_rising (putP_rising h hp) _) (putP_rising (onSheet_rising h _) h1) (fun y => ?_)
  rw [onSheet_mem, putP_mem, putP_mem, onSheet_mem]
  constructor
  · rintro ⟨a, rfl | b⟩
    · exact .inl rfl
    · exact .inr ⟨a, b⟩
  · rintro (rfl | ⟨a, b⟩)
    · exact ⟨rfl, .inl rfl⟩
    · exact ⟨a, .inr b⟩
theorem onSheet_put_far {A : List PAt} {p : PAt} {s : Int} (h : Rising A) (hp : p ∉ A) (hs : p.1 ≠ s) : onSheet (putP p A) s = onSheet A s := by
  refine rising_ext (onSheet_rising (putP_rising h hp) _) (onSheet_rising h _) (fun y => ?_)
  rw [onSheet_mem, putP_mem, onSheet_mem]
  constructor
  · rintro ⟨a, rfl | b⟩
    · exact absurd a hs
    · exact ⟨a, b⟩
  · rintro ⟨a, b⟩
    exact ⟨a, .inr b⟩
theorem cutP_put (p : PAt) (l : List PAt) : cutP p (putP p l) = cutP p l := by
  have h0 : ¬ aheadP p p := fun h => h.ne rfl
  have e : cutP p l = (l.take (cutP p l)).countP (fun y => decide (aheadP y p)) + (l.drop (cutP p l)).countP (fun y => decide (aheadP y p)) := by
    rw [← List.countP_append, List.take_append_drop]; rfl
  conv => lhs; unfold cutP putP
  rw [List.countP_append, List.countP_cons_of_neg (by simpa using h0)]
  exact e.symm
theorem put_out (p : PAt) (l : List PAt) : (putP p l).take (cutP p l) ++ (putP p l).drop (cutP p l + 1) = l := by
  have hl : (l.take (cutP p l)).length = cutP p l := by rw [List.length_take]; have := cutP_le p l; omega
  unfold putP
  rw [List.take_append_of_le_length (by omega), List.take_of_length_le (by omega), List.drop_append, List.drop_eq_nil_of_le (by omega), hl]
  simp
theorem put_in (p : PAt) (A : List PAt) : p ∈ putP p A := putP_mem.2 (.inl rfl)
end Go.Proofs.YthkjmplcmfabfaaGreatDoor

/- Plain facts for the law SpillBlocks: a place within a spill's area; places with one more among them. No condition. -/
namespace Go.Proofs.YthkjmplcmfabfaaGreatDoor

theorem tile_at {s : PSp} {k : Int} (h1 : 1 ≤ k) (h2 : k < s.2.1 * s.2.2) (hc : 1 ≤ s.2.2) : tileP s (s.1.1, s.1.2.1 + k / s.2.2, s.1.2.2 + k % s.2.2) ∧ (s.1.1, s.1.2.1 + k / s.2.2, s.1.2.2 + k % s.2.2) ≠ s.1 := by
  have e := Int.mul_ediv_add_emod k s.2.2
  have m0 := Int.emod_nonneg k (show s.2.2 ≠ 0 by omega)
  have m1 := Int.emod_lt_of_pos k (show 0 < s.2.2 by omega)
  have d0 : 0 ≤ k / s.2.2 := Int.ediv_nonneg (by omega) (by omega)
  have d1 : k / s.2.2 < s.2.1 := Int.ediv_lt_of_lt_mul (by omega) h2
  obtain ⟨⟨s1, s2, s3⟩, s4, s5⟩ := s
  dsimp only at *
  refine ⟨⟨rfl, ?_, ?_, ?_, ?_⟩, fun hc => ?_⟩
  · dsimp only; omega
  · dsimp only; omega
  · dsimp only; omega
  · dsimp only; omega
  · simp only [Prod.mk.injEq, true_and] at hc
    have h3 : k / s5 = 0 := by omega
    have h4 : k % s5 = 0 := by omega
    rw [h3, h4] at e
    simp at e
    omega
section
variable {A : List PAt} {own P : List PSp} {Q : List PAt} {s : PSp} {a : PAt}
theorem Pd.cell (h : Pd A own P Q) (hs : s ∈ P) (ht : tileP s a) (hne : a ≠ s.1) : InTwo a ∧ a ∉ A := by
  have hm := h.mem hs
  have h2 := h.two _ (h.here s hm.1)
  have hr := hm.2
  constructor
  · unfold InTwo at *
    unfold rightP at hr
    unfold tileP at ht
    omega
  · have hsT : s ∈ (placeP (fun p => p ∈ A) own).1 := by rw [← h.eP]; exact hs
    exact fun hc => placeP_free own (fun p => p ∈ A) s hsT a ht hne hc
theorem mem_put : (fun p => p ∈ putP a A) = fun p => p ∈ A ∨ p = a := by
  funext p
  rw [eq_iff_iff, putP_mem]
  exact or_comm
theorem mayP_put (h : mayP A own) : mayP (putP a A) own := by
  intro j hj x hx
  have h1 := h j hj x hx
  exact ⟨⟨putP_mem.2 (.inr h1.1.1), h1.1.2⟩, h1.2⟩
end
theorem tdiv_at {k c : Int} (h1 : 0 ≤ k) : k.tdiv c = k / c := Int.tdiv_eq_ediv_of_nonneg h1
theorem tmod_at {k c : Int} (h1 : 0 ≤ k) : k.tmod c = k % c := Int.tmod_eq_emod_of_nonneg h1
end Go.Proofs.YthkjmplcmfabfaaGreatDoor
