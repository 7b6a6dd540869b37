/- A heap of distinct numbers in an array: order, content, a hole that moves up or down; no program in sight. No condition. -/
import Derived.Test.YtagfgbmaibadjaaIsPlain
namespace Go.Proofs.Ytagfgbmaibadjaa

def parent (j : Nat) : Nat := (j - 1) / 2
/-- two places exchanged -/
def swp (f : Nat → Nat) (a b : Nat) : Nat → Nat := fun i => if i = a then f b else if i = b then f a else f i

/-- the first m numbers are distinct, and are those of S -/
structure Holds (f : Nat → Nat) (m : Nat) (S : Nat → Prop) : Prop where
  inj : ∀ i j, i < m → j < m → f i = f j → i = j
  mem : ∀ v, S v ↔ ∃ i, i < m ∧ f i = v
/-- each number is at least the one above it -/
def Ordered (f : Nat → Nat) (m : Nat) : Prop := ∀ j, 0 < j → j < m → f (parent j) ≤ f j

theorem Holds.swp {f : Nat → Nat} {m a b : Nat} {S : Nat → Prop} (h : Holds f m S) (ha : a < m) (hb : b < m) : Holds (swp f a b) m S := by
  have key : ∀ i, i < m → ∃ j, j < m ∧ Go.Proofs.Ytagfgbmaibadjaa.swp f a b i = f j ∧ (i = a → j = b) ∧ (i = b → j = a) ∧ (i ≠ a → i ≠ b → j = i) := fun i hi => by
    unfold Go.Proofs.Ytagfgbmaibadjaa.swp
    by_cases h1 : i = a
    · exact ⟨b, hb, by simp [h1], fun _ => rfl, fun h2 => by omega, fun h2 => absurd h1 h2⟩
    · by_cases h2 : i = b
      · exact ⟨a, ha, by rw [if_neg h1, if_pos h2], fun h => absurd h h1, fun _ => rfl, fun _ h => absurd h2 h⟩
      · exact ⟨i, hi, by simp [h1, h2], fun h => absurd h h1, fun h => absurd h h2, fun _ _ => rfl⟩
  refine ⟨fun i j hi hj e => ?_, fun v => ?_⟩
  · obtain ⟨p, hp, e1, a1, a2, a3⟩ := key i hi
    obtain ⟨q, hq, e2, b1, b2, b3⟩ := key j hj
    rw [e1, e2] at e
    have := h.inj p q hp hq e
    by_cases h1 : i = a
    · by_cases h2 : j = a
      · omega
      · by_cases h3 : j = b
        · have := a1 h1; have := b2 h3; omega
        · have := a1 h1; have := b3 h2 h3; omega
    · by_cases h1' : i = b
      · by_cases h2 : j = a
        · have := a2 h1'; have := b1 h2; omega
        · by_cases h3 : j = b
          · omega
          · have := a2 h1'; have := b3 h2 h3; omega
      · have := a3 h1 h1'
        by_cases h2 : j = a
        · have := b1 h2; omega
        · by_cases h3 : j = b
          · have := b2 h3; omega
          · have := b3 h2 h3; omega
  · rw [h.mem v]
    constructor
    · rintro ⟨i, hi, e⟩
      by_cases h1 : i = a
      · refine ⟨b, hb, ?_⟩
        unfold Go.Proofs.Ytagfgbmaibadjaa.swp
        rw [h1] at e
        by_cases hab : b = a
        · rw [if_pos hab, hab]; exact e
        · rw [if_neg hab, if_pos rfl]; exact e
      · by_cases h2 : i = b
        · exact ⟨a, ha, by unfold Go.Proofs.Ytagfgbmaibadjaa.swp; simp; rw [← h2]; exact e⟩
        · exact ⟨i, hi, by unfold Go.Proofs.Ytagfgbmaibadjaa.swp; simp [h1, h2]; exact e⟩
    · rintro ⟨i, hi, e⟩
      obtain ⟨j, hj, e1, _⟩ := key i hi
      exact ⟨j, hj, by rw [← e1]; exact e⟩

/-- behind put's first step: x stands last, and may have to rise -/
structure Rising (g : Nat → Nat) (m k : Nat) (S : Nat → Prop) : Prop where
  holds : Holds g m S
  lt : k < m
  ord : ∀ j, 0 < j → j < m → j ≠ k → g (parent j) ≤ g j
  kid : ∀ j, 0 < j → j < m → parent j = k → g k ≤ g j
  grand : ∀ j, 0 < j → j < m → parent j = k → 0 < k → g (parent k) ≤ g j

theorem rising_start {f : Nat → Nat} {m x : Nat} {S : Nat → Prop} (h : Holds f m S) (ho : Ordered f m) (hx : ¬ S x) : Rising (upd f m x) (m + 1) m (fun v => v = x ∨ S v) := by
  have e1 : ∀ i, i ≠ m → upd f m x i = f i := fun i hi => upd_far _ _ hi
  have e2 : upd f m x m = x := upd_same _ _ _
  have pl : ∀ j, 0 < j → parent j < j := fun j hj => by unfold parent; omega
  refine ⟨⟨fun i j hi hj e => ?_, fun v => ?_⟩, by omega, fun j h0 hj hne => ?_, fun j h0 hj hp => ?_, fun j h0 hj hp => ?_⟩
  · by_cases hi' : i = m
    · by_cases hj' : j = m
      · omega
      · rw [hi', e2, e1 j hj'] at e
        exact absurd ((h.mem x).2 ⟨j, by omega, e.symm⟩) hx
    · by_cases hj' : j = m
      · rw [hj', e2, e1 i hi'] at e
        exact absurd ((h.mem x).2 ⟨i, by omega, e⟩) hx
      · rw [e1 i hi', e1 j hj'] at e
        exact h.inj i j (by omega) (by omega) e
  · constructor
    · rintro (rfl | hv)
      · exact ⟨m, by omega, e2⟩
      · obtain ⟨i, hi, e⟩ := (h.mem v).1 hv
        exact ⟨i, by omega, by rw [e1 i (by omega)]; exact e⟩
    · rintro ⟨i, hi, e⟩
      by_cases hi' : i = m
      · rw [hi', e2] at e; exact .inl e.symm
      · rw [e1 i hi'] at e; exact .inr ((h.mem v).2 ⟨i, by omega, e⟩)
  · rw [e1 j hne, e1 (parent j) (by have := pl j h0; omega)]
    exact ho j h0 (by omega)
  · have := pl j h0; omega
  · have := pl j h0; omega

theorem Rising.up {g : Nat → Nat} {m k : Nat} {S : Nat → Prop} (h : Rising g m k S) (hk : 0 < k) (hlt : g k < g (parent k)) : Rising (swp g k (parent k)) m (parent k) S := by
  have pl : ∀ j, 0 < j → parent j < j := fun j hj => by unfold parent; omega
  have hp := pl k hk
  have hkm := h.lt
  have e1 : swp g k (parent k) k = g (parent k) := by simp [swp]
  have e2 : swp g k (parent k) (parent k) = g k := by
    unfold swp
    rw [if_neg (by omega), if_pos rfl]
  have e3 : ∀ i, i ≠ k → i ≠ parent k → swp g k (parent k) i = g i := fun i h1 h2 => by simp [swp, h1, h2]
  refine ⟨h.holds.swp h.lt (by omega), by omega, fun j h0 hj hne => ?_, fun j h0 hj hpj => ?_, fun j h0 hj hpj hp0 => ?_⟩
  · have := pl j h0
    by_cases hjk : j = k
    · subst hjk
      rw [e1, e2]; omega
    · rw [e3 j hjk hne]
      by_cases h1 : parent j = k
      · rw [h1, e1]; exact h.grand j h0 hj h1 hk
      · by_cases h2 : parent j = parent k
        · rw [h2, e2]
          have := h.ord j h0 hj hjk
          rw [h2] at this
          omega
        · rw [e3 (parent j) h1 h2]; exact h.ord j h0 hj hjk
  · rw [e2]
    by_cases hjk : j = k
    · subst hjk; rw [e1]; omega
    · rw [e3 j hjk (by have := pl j h0; omega)]
      have := h.ord j h0 hj hjk
      rw [hpj] at this
      omega
  · have hpp := pl (parent k) hp0
    rw [e3 (parent (parent k)) (by omega) (by omega)]
    have ho := h.ord (parent k) hp0 (by omega) (by omega)
    by_cases hjk : j = k
    · subst hjk; rw [e1]; exact ho
    · rw [e3 j hjk (by have := pl j h0; omega)]
      have := h.ord j h0 hj hjk
      rw [hpj] at this
      omega

theorem Rising.rest {g : Nat → Nat} {m k : Nat} {S : Nat → Prop} (h : Rising g m k S) (hk : k = 0 ∨ g (parent k) ≤ g k) : Ordered g m := by
  intro j h0 hj
  by_cases hjk : j = k
  · subst hjk
    rcases hk with hk | hk
    · omega
    · exact hk
  · exact h.ord j h0 hj hjk

theorem ordered_least {f : Nat → Nat} {m : Nat} (h : Ordered f m) : ∀ i, i < m → f 0 ≤ f i := by
  intro i
  induction i using Nat.strongRecOn with
  | _ i ih =>
    intro hi
    by_cases h0 : i = 0
    · subst h0; exact Nat.le_refl _
    · have hp : parent i < i := by unfold parent; omega
      exact Nat.le_trans (ih _ hp (by omega)) (h i (by omega) hi)

/-- behind take's first step: the last one stands at the top, and may have to sink -/
structure Sinking (g : Nat → Nat) (m k : Nat) (S : Nat → Prop) : Prop where
  holds : Holds g m S
  ord : ∀ j, 0 < j → j < m → parent j ≠ k → g (parent j) ≤ g j
  grand : ∀ j, 0 < j → j < m → parent j = k → 0 < k → g (parent k) ≤ g j

theorem sinking_start {f : Nat → Nat} {m : Nat} {S : Nat → Prop} (h : Holds f (m + 1) S) (ho : Ordered f (m + 1)) : Sinking (upd f 0 (f m)) m 0 (fun v => S v ∧ v ≠ f 0) := by
  have e1 : ∀ i, i ≠ 0 → upd f 0 (f m) i = f i := fun i hi => upd_far _ _ hi
  have e2 : upd f 0 (f m) 0 = f m := upd_same _ _ _
  refine ⟨⟨fun i j hi hj e => ?_, fun v => ?_⟩, fun j h0 hj hp => ?_, fun j h0 hj hp h => by omega⟩
  · by_cases hi0 : i = 0
    · by_cases hj0 : j = 0
      · omega
      · rw [hi0, e2, e1 j hj0] at e
        have := h.inj m j (by omega) (by omega) e
        omega
    · by_cases hj0 : j = 0
      · rw [hj0, e2, e1 i hi0] at e
        have := h.inj i m (by omega) (by omega) e
        omega
      · rw [e1 i hi0, e1 j hj0] at e
        exact h.inj i j (by omega) (by omega) e
  · constructor
    · rintro ⟨hv, hne⟩
      obtain ⟨i, hi, e⟩ := (h.mem v).1 hv
      have hi0 : i ≠ 0 := fun h0 => hne (by rw [← e, h0])
      by_cases him : i = m
      · exact ⟨0, by omega, by rw [e2, ← him]; exact e⟩
      · exact ⟨i, by omega, by rw [e1 i hi0]; exact e⟩
    · rintro ⟨i, hi, e⟩
      by_cases hi0 : i = 0
      · rw [hi0, e2] at e
        exact ⟨(h.mem v).2 ⟨m, by omega, e⟩, fun h0 => by
          have := h.inj m 0 (by omega) (by omega) (e.trans h0)
          omega⟩
      · rw [e1 i hi0] at e
        exact ⟨(h.mem v).2 ⟨i, by omega, e⟩, fun h0 => by
          have := h.inj i 0 (by omega) (by omega) (e.trans h0)
          omega⟩
  · rw [e1 j (by omega), e1 (parent j) hp]
    exact ho j h0 (by omega)

theorem Sinking.down {g : Nat → Nat} {m k c : Nat} {S : Nat → Prop} (h : Sinking g m k S) (hc : c < m) (hp : parent c = k) (h0 : 0 < c) (hlt : g c < g k) (hleast : ∀ j, 0 < j → j < m → parent j = k → g c ≤ g j) : Sinking (swp g k c) m c S := by
  have pl : ∀ j, 0 < j → parent j < j := fun j hj => by unfold parent; omega
  have hkc : k < c := hp ▸ pl c h0
  have e1 : swp g k c k = g c := by simp [swp]
  have e2 : swp g k c c = g k := by unfold swp; rw [if_neg (by omega), if_pos rfl]
  have e3 : ∀ i, i ≠ k → i ≠ c → swp g k c i = g i := fun i h1 h2 => by simp [swp, h1, h2]
  refine ⟨h.holds.swp (by omega) hc, fun j hj0 hj hpj => ?_, fun j hj0 hj hpj _ => ?_⟩
  · have := pl j hj0
    by_cases hjc : j = c
    · subst hjc
      rw [hp, e1, e2]; omega
    · by_cases h1 : parent j = k
      · rw [h1, e1, e3 j (by omega) hjc]; exact hleast j hj0 hj h1
      · by_cases hjk : j = k
        · subst hjk
          rw [e1, e3 (parent j) (by omega) (by omega)]
          exact h.grand c h0 hc hp hj0
        · rw [e3 j hjk hjc, e3 (parent j) h1 hpj]; exact h.ord j hj0 hj h1
  · rw [hp, e1, e3 j (by have := pl j hj0; omega) (by have := pl j hj0; omega)]
    have := h.ord j hj0 hj (by omega)
    rw [hpj] at this
    exact this

theorem Sinking.rest {g : Nat → Nat} {m k : Nat} {S : Nat → Prop} (h : Sinking g m k S) (hk : ∀ j, 0 < j → j < m → parent j = k → g k ≤ g j) : Ordered g m := by
  intro j h0 hj
  by_cases hp : parent j = k
  · rw [hp]; exact hk j h0 hj hp
  · exact h.ord j h0 hj hp

end Go.Proofs.Ytagfgbmaibadjaa
