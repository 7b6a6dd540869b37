/- Graphs, and the walk that finds islands, as plain states; no program in sight. No condition. -/
import Derived.Laws.CopyOwn

namespace Go.Proofs.YtpcjfgihglfdgaaGreatDoor.Isl

abbrev Gr := List (List Nat)
def edges (g : Gr) (i : Nat) : List Nat := g[i]?.getD []
def edge (g : Gr) (i j : Nat) : Prop := j ∈ edges g i
/-- each leads to itself, and on by edges -/
inductive Leads (g : Gr) : Nat → Nat → Prop
  | refl (i : Nat) : Leads g i i
  | step {i j k : Nat} : edge g i j → Leads g j k → Leads g i k
theorem Leads.trans {g : Gr} {i j k : Nat} (h : Leads g i j) (h2 : Leads g j k) : Leads g i k := by
  induction h with
  | refl => exact h2
  | step e _ ih => exact .step e (ih h2)
theorem Leads.one {g : Gr} {i j : Nat} (h : edge g i j) : Leads g i j := .step h (.refl j)
def Same (g : Gr) (i j : Nat) : Prop := Leads g i j ∧ Leads g j i
def RightG (g : Gr) : Prop := ∀ i j, edge g i j → j < g.length
theorem edge_lt {g : Gr} {i j : Nat} (h : edge g i j) : i < g.length := by
  unfold edge edges at h
  by_cases hi : i < g.length
  · exact hi
  · rw [List.getElem?_eq_none (by omega)] at h
    cases h

def upd {α : Type} (f : Nat → α) (k : Nat) (v : α) : Nat → α := fun i => if i = k then v else f i
theorem upd_same {α : Type} (f : Nat → α) (k : Nat) (v : α) : upd f k v k = v := by simp [upd]
theorem upd_far {α : Type} (f : Nat → α) {k i : Nat} (v : α) (h : i ≠ k) : upd f k v i = f i := by simp [upd, h]

structure St where
  wn : Nat → Nat
  low : Nat → Nat
  isl : Nat → Option Nat
  opn : List Nat
  time : Nat
  many : Nat

def meet (s : St) (k : Nat) : St := { s with time := s.time + 1, wn := upd s.wn k (s.time + 1), low := upd s.low k (s.time + 1), opn := s.opn ++ [k] }
def lower (s : St) (d x : Nat) : St := { s with low := upd s.low d (min (s.low d) x) }
def shut (s : St) (d : Nat) : St :=
  { s with isl := fun i => if i ∈ s.opn.drop (s.opn.idxOf d) then some s.many else s.isl i, opn := s.opn.take (s.opn.idxOf d), many := s.many + 1 }

abbrev Way := List (Nat × Nat)
def nodes (way : Way) : List Nat := way.map Prod.fst

structure Inv (g : Gr) (s : St) (way : Way) : Prop where
  time : ∀ k, s.wn k ≤ s.time
  opn : ∀ k, k ∈ s.opn ↔ 0 < s.wn k ∧ s.isl k = none
  sorted : s.opn.Pairwise (fun a b => s.wn a < s.wn b)
  lt : ∀ k, 0 < s.wn k → k < g.length
  islv : ∀ k c, s.isl k = some c → 0 < s.wn k ∧ c < s.many
  isls : ∀ c, c < s.many → ∃ k, s.isl k = some c
  down : ∀ k c j, s.isl k = some c → edge g k j → ∃ c', s.isl j = some c' ∧ c' ≤ c
  scc : ∀ i j c c', s.isl i = some c → s.isl j = some c' → (c = c' ↔ Same g i j)
  wsorted : (nodes way).Pairwise (fun a b => s.wn a < s.wn b)
  wopn : ∀ v ∈ nodes way, v ∈ s.opn
  wlen : ∀ p ∈ way, p.2 ≤ (edges g p.1).length
  wnext : ∀ p ∈ way, ∀ x j, x < p.2 → (edges g p.1)[x]? = some j → 0 < s.wn j
  fin : ∀ v ∈ s.opn, v ∉ nodes way → ∀ j, edge g v j → 0 < s.wn j
  reach : ∀ u ∈ nodes way, ∀ v ∈ s.opn, s.wn u ≤ s.wn v → Leads g u v
  lowv : ∀ v ∈ s.opn, ∃ u ∈ s.opn, s.wn u = s.low v ∧ Leads g v u
  lowle : ∀ v ∈ s.opn, s.low v ≤ s.wn v
  lowfin : ∀ v ∈ s.opn, v ∉ nodes way → s.low v < s.wn v
  lowup : ∀ u ∈ nodes way, ∀ v ∈ s.opn, v ∉ nodes way → s.wn u ≤ s.wn v → (∃ q ∈ nodes way, s.wn u < s.wn q ∧ s.wn q ≤ s.wn v) ∨ s.low u ≤ s.low v
  lowfe : ∀ v ∈ s.opn, v ∉ nodes way → ∀ j ∈ s.opn, edge g v j → s.low v ≤ s.wn j ∨ s.wn v < s.wn j
  lowwe : ∀ p ∈ way, ∀ j ∈ s.opn, ∀ x, x < p.2 → (edges g p.1)[x]? = some j → s.low p.1 ≤ s.wn j ∨ s.wn p.1 < s.wn j
  root : ∀ v ∈ s.opn, ∃ u ∈ nodes way, s.wn u ≤ s.wn v

def start : St := ⟨fun _ => 0, fun _ => 0, fun _ => none, [], 0, 0⟩
theorem inv_start (g : Gr) : Inv g start [] := by
  constructor <;> simp [start, nodes]

section
variable {g : Gr} {s : St} {way ws wb : Way} {d t k u : Nat}

theorem Inv.inj (I : Inv g s way) {a b : Nat} (ha : a ∈ s.opn) (hb : b ∈ s.opn) (h : s.wn a = s.wn b) : a = b := by
  by_cases hab : a = b
  · exact hab
  · obtain ⟨i, hi, ea⟩ := List.getElem_of_mem ha
    obtain ⟨j, hj, eb⟩ := List.getElem_of_mem hb
    have := List.pairwise_iff_getElem.1 I.sorted
    rcases Nat.lt_trichotomy i j with hlt | heq | hgt
    · have := this i j hi hj hlt
      rw [ea, eb] at this
      omega
    · subst heq
      exact ea.symm.trans eb
    · have := this j i hj hi hgt
      rw [ea, eb] at this
      omega

/-- a node that was not met is met -/
theorem Inv.push (I : Inv g s way) (hk : s.wn k = 0) (hkl : k < g.length) (hnb : nodes wb = nodes way) (hlen : ∀ p ∈ wb, p.2 ≤ (edges g p.1).length) (_hroot : s.opn = [] ∨ way ≠ [])
    (hlead : ∀ u ∈ nodes way, Leads g u k) (hnx : ∀ p ∈ wb, ∀ x j, x < p.2 → (edges g p.1)[x]? = some j → 0 < s.wn j ∨ j = k)
    (hlo : ∀ p ∈ wb, ∀ j ∈ s.opn, ∀ x, x < p.2 → (edges g p.1)[x]? = some j → s.low p.1 ≤ s.wn j ∨ s.wn p.1 < s.wn j) : Inv g (meet s k) (wb ++ [(k, 0)]) := by
  have hko : k ∉ s.opn := fun h => by have := ((I.opn k).1 h).1; omega
  have hne : ∀ v ∈ s.opn, v ≠ k := fun v hv e => hko (e ▸ hv)
  have hwt : ∀ v ∈ s.opn, s.wn v < s.time + 1 := fun v _ => Nat.lt_succ_of_le (I.time v)
  have w1 : ∀ v, v ≠ k → (meet s k).wn v = s.wn v := fun v hv => upd_far _ _ hv
  have w2 : (meet s k).wn k = s.time + 1 := upd_same _ _ _
  have l1 : ∀ v, v ≠ k → (meet s k).low v = s.low v := fun v hv => upd_far _ _ hv
  have l2 : (meet s k).low k = s.time + 1 := upd_same _ _ _
  have ho : (meet s k).opn = s.opn ++ [k] := rfl
  have hi : (meet s k).isl = s.isl := rfl
  have hm : (meet s k).many = s.many := rfl
  have ht : (meet s k).time = s.time + 1 := rfl
  have hn : nodes (wb ++ [(k, 0)]) = nodes way ++ [k] := by unfold nodes at *; simp [hnb]
  have hisk : s.isl k = none := by
    cases h : s.isl k with
    | none => rfl
    | some c => have := (I.islv k c h).1; omega
  have pos : ∀ v, 0 < s.wn v → 0 < (meet s k).wn v := fun v hv => by
    by_cases e : v = k
    · subst e; rw [w2]; omega
    · rw [w1 v e]; exact hv
  have hwn : ∀ v ∈ nodes way, v ≠ k := fun v hv => hne v (I.wopn v hv)
  generalize hs : meet s k = s' at *
  refine ⟨?_, ?_, ?_, ?_, ?_, ?_, ?_, ?_, ?_, ?_, ?_, ?_, ?_, ?_, ?_, ?_, ?_, ?_, ?_, ?_, ?_⟩
  · intro v
    rw [ht]
    by_cases e : v = k
    · subst e; omega
    · rw [w1 v e]; have := I.time v; omega
  · intro v
    rw [ho, hi, List.mem_append, List.mem_singleton]
    by_cases e : v = k
    · subst e; simp [w2, hisk]
    · rw [w1 v e, ← I.opn v]; simp [e]
  · rw [ho, List.pairwise_append]
    refine ⟨I.sorted.imp_of_mem (fun ha hb h => by rw [w1 _ (hne _ ha), w1 _ (hne _ hb)]; exact h), by simp, fun a ha b hb => ?_⟩
    simp only [List.mem_singleton] at hb
    subst hb
    rw [w1 a (hne a ha), w2]
    exact hwt a ha
  · intro v hv
    by_cases e : v = k
    · subst e; exact hkl
    · rw [w1 v e] at hv; exact I.lt v hv
  · intro v c hv
    rw [hi] at hv
    rw [hm]
    exact ⟨pos v (I.islv v c hv).1, (I.islv v c hv).2⟩
  · rw [hm, hi]; exact I.isls
  · rw [hi]; exact I.down
  · rw [hi]; exact I.scc
  · rw [hn, List.pairwise_append]
    refine ⟨I.wsorted.imp_of_mem (fun ha hb h => by rw [w1 _ (hwn _ ha), w1 _ (hwn _ hb)]; exact h), by simp, fun a ha b hb => ?_⟩
    simp only [List.mem_singleton] at hb
    subst hb
    rw [w1 a (hwn a ha), w2]
    exact hwt a (I.wopn a ha)
  · intro v hv
    rw [hn, List.mem_append, List.mem_singleton] at hv
    rw [ho, List.mem_append, List.mem_singleton]
    exact hv.imp (I.wopn v) id
  · intro p hp
    rw [List.mem_append, List.mem_singleton] at hp
    rcases hp with hp | rfl
    · exact hlen p hp
    · exact Nat.zero_le _
  · intro p hp x j hx he
    rw [List.mem_append, List.mem_singleton] at hp
    rcases hp with hp | rfl
    · rcases hnx p hp x j hx he with h | rfl
      · exact pos j h
      · rw [w2]; omega
    · simp at hx
  · intro v hv hnv j hj
    rw [ho, List.mem_append, List.mem_singleton] at hv
    rw [hn, List.mem_append, List.mem_singleton, not_or] at hnv
    rcases hv with hv | hv
    · exact pos j (I.fin v hv hnv.1 j hj)
    · exact absurd hv hnv.2
  · intro u hu v hv hle
    rw [hn, List.mem_append, List.mem_singleton] at hu
    rw [ho, List.mem_append, List.mem_singleton] at hv
    rcases hv with hv | rfl
    · rcases hu with hu | rfl
      · rw [w1 u (hwn u hu), w1 v (hne v hv)] at hle
        exact I.reach u hu v hv hle
      · rw [w2, w1 v (hne v hv)] at hle
        have := hwt v hv
        omega
    · rcases hu with hu | rfl
      · exact hlead u hu
      · exact .refl _
  · intro v hv
    rw [ho, List.mem_append, List.mem_singleton] at hv
    rcases hv with hv | rfl
    · obtain ⟨x, hx, e, r⟩ := I.lowv v hv
      exact ⟨x, by rw [ho]; simp [hx], by rw [w1 x (hne x hx), l1 v (hne v hv)]; exact e, r⟩
    · exact ⟨v, by rw [ho]; simp, by rw [w2, l2], .refl _⟩
  · intro v hv
    rw [ho, List.mem_append, List.mem_singleton] at hv
    rcases hv with hv | rfl
    · rw [w1 v (hne v hv), l1 v (hne v hv)]; exact I.lowle v hv
    · rw [w2, l2]; exact Nat.le_refl _
  · intro v hv hnv
    rw [ho, List.mem_append, List.mem_singleton] at hv
    rw [hn, List.mem_append, List.mem_singleton, not_or] at hnv
    rcases hv with hv | hv
    · rw [w1 v (hne v hv), l1 v (hne v hv)]; exact I.lowfin v hv hnv.1
    · exact absurd hv hnv.2
  · intro u hu v hv hnv hle
    rw [ho, List.mem_append, List.mem_singleton] at hv
    rw [hn, List.mem_append, List.mem_singleton, not_or] at hnv
    rw [hn, List.mem_append, List.mem_singleton] at hu
    rcases hv with hv | hv
    · rcases hu with hu | rfl
      · rw [w1 u (hwn u hu), w1 v (hne v hv)] at hle
        rcases I.lowup u hu v hv hnv.1 hle with ⟨q, hq, h1, h2⟩ | h
        · exact .inl ⟨q, by rw [hn]; simp [hq], by rw [w1 u (hwn u hu), w1 q (hwn q hq)]; exact h1, by rw [w1 q (hwn q hq), w1 v (hne v hv)]; exact h2⟩
        · exact .inr (by rw [l1 u (hwn u hu), l1 v (hne v hv)]; exact h)
      · rw [w2, w1 v (hne v hv)] at hle
        have := hwt v hv
        omega
    · exact absurd hv hnv.2
  · intro v hv hnv j hj he
    rw [ho, List.mem_append, List.mem_singleton] at hv hj
    rw [hn, List.mem_append, List.mem_singleton, not_or] at hnv
    rcases hv with hv | hv
    · rcases hj with hj | rfl
      · rw [w1 v (hne v hv), l1 v (hne v hv), w1 j (hne j hj)]; exact I.lowfe v hv hnv.1 j hj he
      · exact .inr (by rw [w2, w1 v (hne v hv)]; exact hwt v hv)
    · exact absurd hv hnv.2
  · intro p hp j hj x hx he
    rw [List.mem_append, List.mem_singleton] at hp
    rw [ho, List.mem_append, List.mem_singleton] at hj
    rcases hp with hp | rfl
    · have hpn : p.1 ∈ nodes way := by rw [← hnb]; exact List.mem_map_of_mem hp
      rcases hj with hj | rfl
      · rw [w1 p.1 (hwn _ hpn), l1 p.1 (hwn _ hpn), w1 j (hne j hj)]
        exact hlo p hp j hj x hx he
      · exact .inr (by rw [w2, w1 p.1 (hwn _ hpn)]; exact hwt _ (I.wopn _ hpn))
    · simp at hx
  · intro v hv
    rw [ho, List.mem_append, List.mem_singleton] at hv
    rcases hv with hv | rfl
    · obtain ⟨u, hu, h⟩ := I.root v hv
      exact ⟨u, by rw [hn]; simp [hu], by rw [w1 u (hwn u hu), w1 v (hne v hv)]; exact h⟩
    · exact ⟨v, by rw [hn]; simp, Nat.le_refl _⟩

theorem Inv.first (I : Inv g s []) (hk : s.wn k = 0) (hkl : k < g.length) : Inv g (meet s k) [(k, 0)] := by
  have ho : s.opn = [] := by
    cases h : s.opn with
    | nil => rfl
    | cons v l => obtain ⟨u, hu, _⟩ := I.root v (by rw [h]; simp); simp [nodes] at hu
  exact I.push (wb := []) hk hkl rfl (by simp) (.inl ho) (by simp [nodes]) (by simp) (by simp)

theorem nodes_last (ws : Way) (d t : Nat) : nodes (ws ++ [(d, t)]) = nodes ws ++ [d] := by simp [nodes]

theorem Inv.last_max (I : Inv g s (ws ++ [(d, t)])) {u : Nat} (hu : u ∈ nodes (ws ++ [(d, t)])) : s.wn u ≤ s.wn d := by
  rw [nodes_last, List.mem_append, List.mem_singleton] at hu
  rcases hu with hu | rfl
  · have := I.wsorted
    rw [nodes_last, List.pairwise_append] at this
    exact Nat.le_of_lt (this.2.2 u hu d (by simp))
  · exact Nat.le_refl _

theorem Inv.next (I : Inv g s (ws ++ [(d, t)])) (he : (edges g d)[t]? = some k) (hk : s.wn k = 0) (R : RightG g) : Inv g (meet s k) (ws ++ [(d, t + 1)] ++ [(k, 0)]) := by
  have hd : d ∈ s.opn := I.wopn d (by simp [nodes])
  have htl : t < (edges g d).length := (List.getElem?_eq_some_iff.1 he).1
  have hmem : edge g d k := List.mem_of_getElem? he
  refine I.push (wb := ws ++ [(d, t + 1)]) hk (R d k hmem) (by simp [nodes]) ?_ (.inr (by simp)) ?_ ?_ ?_
  · intro p hp
    rw [List.mem_append, List.mem_singleton] at hp
    rcases hp with hp | rfl
    · exact I.wlen p (by simp [hp])
    · exact htl
  · intro u hu
    exact (I.reach u hu d hd (I.last_max hu)).trans (.one hmem)
  · intro p hp x j hx hj
    rw [List.mem_append, List.mem_singleton] at hp
    rcases hp with hp | rfl
    · exact .inl (I.wnext p (by simp [hp]) x j hx hj)
    · by_cases hxt : x = t
      · subst hxt
        rw [he] at hj
        exact .inr (Option.some.inj hj).symm
      · exact .inl (I.wnext (d, t) (by simp) x j (by simp only at hx ⊢; omega) hj)
  · intro p hp j hj x hx he'
    rw [List.mem_append, List.mem_singleton] at hp
    rcases hp with hp | rfl
    · exact I.lowwe p (by simp [hp]) j hj x hx he'
    · by_cases hxt : x = t
      · subst hxt
        rw [he] at he'
        obtain rfl := Option.some.inj he'
        have := ((I.opn k).1 hj).1
        omega
      · exact I.lowwe (d, t) (by simp) j hj x (by simp only at hx ⊢; omega) he'

theorem Inv.pass (I : Inv g s (ws ++ [(d, t)])) (he : (edges g d)[t]? = some k) {c : Nat} (hk : s.isl k = some c) : Inv g s (ws ++ [(d, t + 1)]) := by
  have hn : nodes (ws ++ [(d, t + 1)]) = nodes (ws ++ [(d, t)]) := by simp [nodes]
  have htl : t < (edges g d).length := (List.getElem?_eq_some_iff.1 he).1
  refine ⟨I.time, I.opn, I.sorted, I.lt, I.islv, I.isls, I.down, I.scc, by rw [hn]; exact I.wsorted, by rw [hn]; exact I.wopn, ?_, ?_, by rw [hn]; exact I.fin, by rw [hn]; exact I.reach, I.lowv, I.lowle, by rw [hn]; exact I.lowfin, by rw [hn]; exact I.lowup, by rw [hn]; exact I.lowfe, ?_, by rw [hn]; exact I.root⟩
  · intro p hp
    rw [List.mem_append, List.mem_singleton] at hp
    rcases hp with hp | rfl
    · exact I.wlen p (by simp [hp])
    · exact htl
  · intro p hp x j hx hj
    rw [List.mem_append, List.mem_singleton] at hp
    rcases hp with hp | rfl
    · exact I.wnext p (by simp [hp]) x j hx hj
    · by_cases hxt : x = t
      · subst hxt
        rw [he] at hj
        obtain rfl := Option.some.inj hj
        exact (I.islv k c hk).1
      · exact I.wnext (d, t) (by simp) x j (by simp only at hx ⊢; omega) hj
  · intro p hp j hj x hx he'
    rw [List.mem_append, List.mem_singleton] at hp
    rcases hp with hp | rfl
    · exact I.lowwe p (by simp [hp]) j hj x hx he'
    · by_cases hxt : x = t
      · subst hxt
        rw [he] at he'
        obtain rfl := Option.some.inj he'
        have := ((I.opn k).1 hj).2
        rw [hk] at this
        cases this
      · exact I.lowwe (d, t) (by simp) j hj x (by simp only at hx ⊢; omega) he'

theorem Inv.seen (I : Inv g s (ws ++ [(d, t)])) (he : (edges g d)[t]? = some k) (hk : 0 < s.wn k) (hi : s.isl k = none) : Inv g (lower s d (s.wn k)) (ws ++ [(d, t + 1)]) := by
  have hn : nodes (ws ++ [(d, t + 1)]) = nodes (ws ++ [(d, t)]) := by simp [nodes]
  have htl : t < (edges g d).length := (List.getElem?_eq_some_iff.1 he).1
  have hd : d ∈ s.opn := I.wopn d (by simp [nodes])
  have hdn : d ∈ nodes (ws ++ [(d, t)]) := by simp [nodes]
  have hko : k ∈ s.opn := (I.opn k).2 ⟨hk, hi⟩
  have l1 : ∀ v, v ≠ d → (lower s d (s.wn k)).low v = s.low v := fun v hv => upd_far _ _ hv
  have l2 : (lower s d (s.wn k)).low d = min (s.low d) (s.wn k) := upd_same _ _ _
  have hle : ∀ v, (lower s d (s.wn k)).low v ≤ s.low v := fun v => by
    by_cases e : v = d
    · subst e; rw [l2]; omega
    · rw [l1 v e]; exact Nat.le_refl _
  refine ⟨I.time, I.opn, I.sorted, I.lt, I.islv, I.isls, I.down, I.scc, by rw [hn]; exact I.wsorted, by rw [hn]; exact I.wopn, ?_, ?_, by rw [hn]; exact I.fin, by rw [hn]; exact I.reach, ?_, ?_, ?_, ?_, ?_, ?_, by rw [hn]; exact I.root⟩
  · intro p hp
    rw [List.mem_append, List.mem_singleton] at hp
    rcases hp with hp | rfl
    · exact I.wlen p (by simp [hp])
    · exact htl
  · intro p hp x j hx hj
    rw [List.mem_append, List.mem_singleton] at hp
    rcases hp with hp | rfl
    · exact I.wnext p (by simp [hp]) x j hx hj
    · by_cases hxt : x = t
      · subst hxt
        rw [he] at hj
        obtain rfl := Option.some.inj hj
        exact hk
      · exact I.wnext (d, t) (by simp) x j (by simp only at hx ⊢; omega) hj
  · intro v hv
    by_cases e : v = d
    · subst e
      by_cases hm : s.low v ≤ s.wn k
      · obtain ⟨x, hx, e, r⟩ := I.lowv v hd
        exact ⟨x, hx, by rw [l2]; show s.wn x = _; omega, r⟩
      · exact ⟨k, hko, by rw [l2]; show s.wn k = _; omega, .one (List.mem_of_getElem? he)⟩
    · rw [l1 v e]; exact I.lowv v hv
  · intro v hv
    exact Nat.le_trans (hle v) (I.lowle v hv)
  · intro v hv hnv
    rw [hn] at hnv
    exact Nat.lt_of_le_of_lt (hle v) (I.lowfin v hv hnv)
  · intro u hu v hv hnv hwv
    rw [hn] at hu hnv ⊢
    have e : v ≠ d := fun e => hnv (e ▸ hdn)
    rw [l1 v e]
    exact (I.lowup u hu v hv hnv hwv).imp id (fun h => Nat.le_trans (hle u) h)
  · intro v hv hnv j hj hej
    rw [hn] at hnv
    exact (I.lowfe v hv hnv j hj hej).imp (fun h => Nat.le_trans (hle v) h) id
  · intro p hp j hj x hx he'
    rw [List.mem_append, List.mem_singleton] at hp
    rcases hp with hp | rfl
    · exact (I.lowwe p (by simp [hp]) j hj x hx he').imp (fun h => Nat.le_trans (hle _) h) id
    · by_cases hxt : x = t
      · subst hxt
        rw [he] at he'
        obtain rfl := Option.some.inj he'
        exact .inl (by show (lower s d (s.wn k)).low d ≤ s.wn k; rw [l2]; omega)
      · exact (I.lowwe (d, t) (by simp) j hj x (by simp only at hx ⊢; omega) he').imp (fun h => Nat.le_trans (hle _) h) id
end

end Go.Proofs.YtpcjfgihglfdgaaGreatDoor.Isl
