/- The walk that finds islands: the last node is left; its island is shut; what is true at the end. No program in sight. No condition. Graphs and rows of ints in memory; contracts of the tests whether a graph is right. No condition. -/
import Derived.Test.YtpcjfgihglfdgaaGreatDoorKCjPlain
import Derived.Test.YtpcjfgihglfdgaaGreatDoorRows
import Derived.Test.YtpcjfgihglfdgaaGreatDoorKDkBase
import Derived.BigQuiet
import Derived.BigRegion
import Derived.Deep.QuietTactic
import Derived.RegionTactic
import Derived.ChangeAlike
import Derived.Laws.EntriesVeiled

namespace Go.Proofs.YtpcjfgihglfdgaaGreatDoor.Isl

section
variable {g : Gr} {s : St} {way ws wu : Way} {d t t' k u : Nat}

theorem Inv.mid (I : Inv g s (wu ++ [(d, t)])) {v : Nat} (hv : v ∈ nodes wu) : s.wn v < s.wn d := by
  have := I.wsorted
  rw [nodes_last, List.pairwise_append] at this
  exact this.2.2 v hv d (by simp)

theorem Inv.alone (I : Inv g s [(d, t)]) : s.low d = s.wn d := by
  have hd : d ∈ s.opn := I.wopn d (by simp [nodes])
  obtain ⟨x, hx, e, _⟩ := I.lowv d hd
  obtain ⟨u, hu, h⟩ := I.root x hx
  simp only [nodes, List.map_cons, List.map_nil, List.mem_singleton] at hu
  subst hu
  have := I.lowle u hd
  omega

theorem Inv.back (I : Inv g s (ws ++ [(u, t')] ++ [(d, t)])) (ht : t = (edges g d).length) (hlow : s.low d ≠ s.wn d) : Inv g (lower s u (s.low d)) (ws ++ [(u, t')]) := by
  have hn : nodes (ws ++ [(u, t')] ++ [(d, t)]) = nodes (ws ++ [(u, t')]) ++ [d] := nodes_last _ _ _
  have hn2 : nodes (ws ++ [(u, t')]) = nodes ws ++ [u] := nodes_last _ _ _
  have hdn : d ∈ nodes (ws ++ [(u, t')] ++ [(d, t)]) := by rw [hn]; simp
  have hun : u ∈ nodes (ws ++ [(u, t')]) := by rw [hn2]; simp
  have hsub : ∀ v ∈ nodes (ws ++ [(u, t')]), v ∈ nodes (ws ++ [(u, t')] ++ [(d, t)]) := fun v hv => by rw [hn]; simp [hv]
  have hd : d ∈ s.opn := I.wopn d hdn
  have hu : u ∈ s.opn := I.wopn u (hsub u hun)
  have hlt : ∀ v ∈ nodes (ws ++ [(u, t')]), s.wn v < s.wn d := fun v hv => I.mid hv
  have hud : u ≠ d := fun e => by have := hlt u hun; rw [e] at this; omega
  have l1 : ∀ v, v ≠ u → (lower s u (s.low d)).low v = s.low v := fun v hv => upd_far _ _ hv
  have l2 : (lower s u (s.low d)).low u = min (s.low u) (s.low d) := upd_same _ _ _
  have hle : ∀ v, (lower s u (s.low d)).low v ≤ s.low v := fun v => by
    by_cases e : v = u
    · subst e; rw [l2]; omega
    · rw [l1 v e]; exact Nat.le_refl _
  have off : ∀ v, v ∉ nodes (ws ++ [(u, t')]) → v ≠ d → v ∉ nodes (ws ++ [(u, t')] ++ [(d, t)]) := fun v h1 h2 => by rw [hn]; simp [h1, h2]
  have hpw : ∀ p ∈ ws ++ [(u, t')], p ∈ ws ++ [(u, t')] ++ [(d, t)] := fun p hp => List.mem_append_left _ hp
  have hus : ∀ v ∈ nodes (ws ++ [(u, t')]), v ≠ u → s.wn v < s.wn u := fun v hv hne => by
    have := I.wsorted
    rw [hn, List.pairwise_append, hn2, List.pairwise_append] at this
    rw [hn2, List.mem_append, List.mem_singleton] at hv
    exact this.1.2.2 v (hv.resolve_right hne) u (by simp)
  have dlast : ∀ j, edge g d j → ∃ x, x < t ∧ (edges g d)[x]? = some j := fun j hj => by
    obtain ⟨x, hx, e⟩ := List.getElem_of_mem hj
    exact ⟨x, by omega, by rw [List.getElem?_eq_getElem hx, e]⟩
  refine ⟨I.time, I.opn, I.sorted, I.lt, I.islv, I.isls, I.down, I.scc, ?_, fun v hv => I.wopn v (hsub v hv), fun p hp => I.wlen p (hpw p hp), fun p hp => I.wnext p (hpw p hp), ?_, fun v hv => I.reach v (hsub v hv), ?_, ?_, ?_, ?_, ?_, ?_, ?_⟩
  · have := I.wsorted
    rw [hn, List.pairwise_append] at this
    exact this.1
  · intro v hv hnv j hj
    by_cases e : v = d
    · subst e
      obtain ⟨x, hx, hj⟩ := dlast j hj
      exact I.wnext (v, t) (by simp) x j hx hj
    · exact I.fin v hv (off v hnv e) j hj
  · intro v hv
    by_cases e : v = u
    · subst e
      by_cases hm : s.low v ≤ s.low d
      · obtain ⟨x, hx, e, r⟩ := I.lowv v hv
        exact ⟨x, hx, by rw [l2]; show s.wn x = _; omega, r⟩
      · obtain ⟨x, hx, e, r⟩ := I.lowv d hd
        exact ⟨x, hx, by rw [l2]; show s.wn x = _; omega, (I.reach v (hsub v hun) d hd (Nat.le_of_lt (hlt v hun))).trans r⟩
    · rw [l1 v e]; exact I.lowv v hv
  · intro v hv
    exact Nat.le_trans (hle v) (I.lowle v hv)
  · intro v hv hnv
    by_cases e : v = d
    · subst e
      have := I.lowle v hv
      have := hle v
      show (lower s u (s.low v)).low v < s.wn v
      omega
    · exact Nat.lt_of_le_of_lt (hle v) (I.lowfin v hv (off v hnv e))
  · intro x hx v hv hnv hwv
    have hvu : v ≠ u := fun e => hnv (e ▸ hun)
    rw [l1 v hvu]
    by_cases e : v = d
    · subst e
      by_cases hxu : x = u
      · subst hxu
        exact .inr (by rw [l2]; omega)
      · exact .inl ⟨u, hun, hus x hx hxu, Nat.le_of_lt (hlt u hun)⟩
    · rcases I.lowup x (hsub x hx) v hv (off v hnv e) hwv with ⟨q, hq, h1, h2⟩ | h
      · rw [hn, List.mem_append, List.mem_singleton] at hq
        rcases hq with hq | rfl
        · exact .inl ⟨q, hq, h1, h2⟩
        · by_cases hxu : x = u
          · subst hxu
            refine .inr ?_
            rcases I.lowup q hdn v hv (off v hnv e) h2 with ⟨q', hq', h3, _⟩ | h
            · have := I.last_max hq'
              omega
            · rw [l2]; omega
          · exact .inl ⟨u, hun, hus x hx hxu, Nat.le_trans (Nat.le_of_lt (hlt u hun)) h2⟩
      · exact .inr (Nat.le_trans (hle x) h)
  · intro v hv hnv j hj hej
    by_cases e : v = d
    · subst e
      obtain ⟨x, hx, hxe⟩ := dlast j hej
      exact (I.lowwe (v, t) (by simp) j hj x hx hxe).imp (fun h => Nat.le_trans (hle v) h) id
    · exact (I.lowfe v hv (off v hnv e) j hj hej).imp (fun h => Nat.le_trans (hle v) h) id
  · intro p hp j hj x hx he'
    exact (I.lowwe p (hpw p hp) j hj x hx he').imp (fun h => Nat.le_trans (hle _) h) id
  · intro v hv
    obtain ⟨x, hx, h⟩ := I.root v hv
    rw [hn, List.mem_append, List.mem_singleton] at hx
    rcases hx with hx | rfl
    · exact ⟨x, hx, h⟩
    · exact ⟨u, hun, Nat.le_trans (Nat.le_of_lt (hlt u hun)) h⟩

/-- what stands from d on in the open ones -/
theorem Inv.drop_iff (I : Inv g s way) (hd : d ∈ s.opn) (v : Nat) : (v ∈ s.opn.drop (s.opn.idxOf d) ↔ v ∈ s.opn ∧ s.wn d ≤ s.wn v) ∧ (v ∈ s.opn.take (s.opn.idxOf d) ↔ v ∈ s.opn ∧ s.wn v < s.wn d) := by
  have hi : s.opn.idxOf d < s.opn.length := List.idxOf_lt_length_of_mem hd
  have e : s.opn[s.opn.idxOf d] = d := List.getElem_idxOf hi
  have hs := List.pairwise_iff_getElem.1 I.sorted
  have k1 : v ∈ s.opn.drop (s.opn.idxOf d) → v ∈ s.opn ∧ s.wn d ≤ s.wn v := fun h => by
    obtain ⟨j, hj, hv⟩ := List.getElem_of_mem h
    rw [List.getElem_drop] at hv
    refine ⟨List.mem_of_mem_drop h, ?_⟩
    rw [← hv]
    by_cases h0 : j = 0
    · subst h0; simp [e]
    · have := hs (s.opn.idxOf d) (s.opn.idxOf d + j) hi (by simp at hj; omega) (by omega)
      rw [e] at this
      omega
  have k2 : v ∈ s.opn.take (s.opn.idxOf d) → v ∈ s.opn ∧ s.wn v < s.wn d := fun h => by
    obtain ⟨j, hj, hv⟩ := List.getElem_of_mem h
    rw [List.getElem_take] at hv
    refine ⟨List.mem_of_mem_take h, ?_⟩
    have := hs j (s.opn.idxOf d) (by simp at hj; omega) hi (by simp at hj; omega)
    rw [e, hv] at this
    exact this
  have k3 : v ∈ s.opn → v ∈ s.opn.take (s.opn.idxOf d) ∨ v ∈ s.opn.drop (s.opn.idxOf d) := fun h => by
    rw [← List.take_append_drop (s.opn.idxOf d) s.opn] at h
    exact List.mem_append.1 h
  refine ⟨⟨k1, fun h => ?_⟩, ⟨k2, fun h => ?_⟩⟩
  · rcases k3 h.1 with h1 | h1
    · have := (k2 h1).2; omega
    · exact h1
  · rcases k3 h.1 with h1 | h1
    · exact h1
    · have := (k1 h1).2; omega

theorem Inv.leads_down (I : Inv g s way) {i j c : Nat} (hl : Leads g i j) (hi : s.isl i = some c) : ∃ c', s.isl j = some c' ∧ c' ≤ c := by
  induction hl generalizing c with
  | refl => exact ⟨c, hi, Nat.le_refl _⟩
  | step e _ ih =>
    obtain ⟨c1, h1, h2⟩ := I.down _ c _ hi e
    obtain ⟨c2, h3, h4⟩ := ih h1
    exact ⟨c2, h3, Nat.le_trans h4 h2⟩

theorem Inv.closing (I : Inv g s (wu ++ [(d, t)])) (ht : t = (edges g d).length) (hlow : s.low d = s.wn d) : Inv g (shut s d) wu := by
  have hn : nodes (wu ++ [(d, t)]) = nodes wu ++ [d] := nodes_last _ _ _
  have hdn : d ∈ nodes (wu ++ [(d, t)]) := by rw [hn]; simp
  have hsub : ∀ v ∈ nodes wu, v ∈ nodes (wu ++ [(d, t)]) := fun v hv => by rw [hn]; simp [hv]
  have hd : d ∈ s.opn := I.wopn d hdn
  have hC := fun v => (I.drop_iff hd v).1
  have hT := fun v => (I.drop_iff hd v).2
  have off : ∀ v, v ∉ nodes wu → v ≠ d → v ∉ nodes (wu ++ [(d, t)]) := fun v h1 h2 => by rw [hn]; simp [h1, h2]
  have high : ∀ v, s.wn d < s.wn v → v ∉ nodes (wu ++ [(d, t)]) := fun v hv hm => by have := I.last_max hm; omega
  have hpw : ∀ p ∈ wu, p ∈ wu ++ [(d, t)] := fun p hp => List.mem_append_left _ hp
  have dlast : ∀ j, edge g d j → ∃ x, x < t ∧ (edges g d)[x]? = some j := fun j hj => by
    obtain ⟨x, hx, e⟩ := List.getElem_of_mem hj
    exact ⟨x, by omega, by rw [List.getElem?_eq_getElem hx, e]⟩
  have lowC : ∀ v, v ∈ s.opn → s.wn d < s.wn v → s.wn d ≤ s.low v := fun v hv hlt => by
    rcases I.lowup d hdn v hv (high v hlt) (Nat.le_of_lt hlt) with ⟨q, hq, h3, _⟩ | h
    · have := I.last_max hq; omega
    · omega
  have K1 : ∀ m v, s.wn v ≤ m → v ∈ s.opn → s.wn d ≤ s.wn v → Leads g v d := by
    intro m
    induction m with
    | zero =>
      intro v h1 hv _
      have := ((I.opn v).1 hv).1
      omega
    | succ m ih =>
      intro v h1 hv h2
      by_cases e : s.wn v = s.wn d
      · rw [I.inj hv hd e]; exact .refl _
      · have hlt : s.wn d < s.wn v := by omega
        obtain ⟨x, hx, ex, r⟩ := I.lowv v hv
        have := I.lowfin v hv (high v hlt)
        have := lowC v hv hlt
        exact r.trans (ih x (by omega) hx (by omega))
  have K2 : ∀ v, v ∈ s.opn → s.wn d ≤ s.wn v → Leads g d v := fun v hv h => I.reach d hdn v hv h
  have K3 : ∀ v j, v ∈ s.opn → s.wn d ≤ s.wn v → edge g v j → j ∈ s.opn.drop (s.opn.idxOf d) ∨ ∃ c, s.isl j = some c := fun v j hv h he => by
    cases hj : s.isl j with
    | some c => exact .inr ⟨c, rfl⟩
    | none =>
      refine .inl ((hC j).2 ?_)
      by_cases e : v = d
      · subst e
        obtain ⟨x, hx, hxe⟩ := dlast j he
        have hjo : j ∈ s.opn := (I.opn j).2 ⟨I.wnext (v, t) (by simp) x j hx hxe, hj⟩
        refine ⟨hjo, ?_⟩
        rcases I.lowwe (v, t) (by simp) j hjo x hx hxe with h | h <;> simp only at h <;> omega
      · have hlt : s.wn d < s.wn v := by
          have : s.wn v ≠ s.wn d := fun e' => e (I.inj hv hd e')
          omega
        have hjo : j ∈ s.opn := (I.opn j).2 ⟨I.fin v hv (high v hlt) j he, hj⟩
        refine ⟨hjo, ?_⟩
        have := lowC v hv hlt
        rcases I.lowfe v hv (high v hlt) j hjo he with h | h <;> omega
  have i1 : ∀ v, v ∈ s.opn.drop (s.opn.idxOf d) → (shut s d).isl v = some s.many := fun v hv => by
    show (if v ∈ s.opn.drop (s.opn.idxOf d) then some s.many else s.isl v) = _
    rw [if_pos hv]
  have i2 : ∀ v, v ∉ s.opn.drop (s.opn.idxOf d) → (shut s d).isl v = s.isl v := fun v hv => by
    show (if v ∈ s.opn.drop (s.opn.idxOf d) then some s.many else s.isl v) = _
    rw [if_neg hv]
  have old : ∀ v c, s.isl v = some c → v ∉ s.opn.drop (s.opn.idxOf d) := fun v c h hm => by
    have := ((I.opn v).1 ((hC v).1 hm).1).2
    rw [h] at this
    cases this
  have hm : (shut s d).many = s.many + 1 := rfl
  have ho : (shut s d).opn = s.opn.take (s.opn.idxOf d) := rfl
  have hw : (shut s d).wn = s.wn := rfl
  have hl : (shut s d).low = s.low := rfl
  have hti : (shut s d).time = s.time := rfl
  generalize hs : shut s d = s' at *
  refine ⟨by rw [hw, hti]; exact I.time, ?_, ?_, by rw [hw]; exact I.lt, ?_, ?_, ?_, ?_, ?_, ?_, fun p hp => I.wlen p (hpw p hp), ?_, ?_, ?_, ?_, ?_, ?_, ?_, ?_, ?_, ?_⟩
  · intro v
    rw [ho, hw, hT v, I.opn v]
    by_cases hv : v ∈ s.opn.drop (s.opn.idxOf d)
    · rw [i1 v hv]
      have := ((hC v).1 hv).2
      constructor
      · intro h; omega
      · intro h; cases h.2
    · rw [i2 v hv]
      refine ⟨fun h => h.1, fun h => ⟨h, ?_⟩⟩
      by_cases hlt : s.wn v < s.wn d
      · exact hlt
      · exact absurd ((hC v).2 ⟨(I.opn v).2 h, by omega⟩) hv
  · rw [ho, hw]
    exact I.sorted.sublist (List.take_sublist _ _)
  · intro v c hv
    rw [hw, hm]
    by_cases hm' : v ∈ s.opn.drop (s.opn.idxOf d)
    · rw [i1 v hm'] at hv
      have := Option.some.inj hv
      exact ⟨((I.opn v).1 ((hC v).1 hm').1).1, by omega⟩
    · rw [i2 v hm'] at hv
      have := I.islv v c hv
      exact ⟨this.1, by omega⟩
  · intro c hc
    rw [hm] at hc
    by_cases e : c = s.many
    · subst e
      exact ⟨d, i1 d ((hC d).2 ⟨hd, Nat.le_refl _⟩)⟩
    · obtain ⟨v, hv⟩ := I.isls c (by omega)
      exact ⟨v, by rw [i2 v (old v c hv)]; exact hv⟩
  · intro v c j hv he
    by_cases hm' : v ∈ s.opn.drop (s.opn.idxOf d)
    · rw [i1 v hm'] at hv
      obtain rfl := Option.some.inj hv
      obtain ⟨h1, h2⟩ := (hC v).1 hm'
      rcases K3 v j h1 h2 he with h | ⟨c', h⟩
      · exact ⟨_, i1 j h, Nat.le_refl _⟩
      · exact ⟨c', by rw [i2 j (old j c' h)]; exact h, Nat.le_of_lt (I.islv j c' h).2⟩
    · rw [i2 v hm'] at hv
      obtain ⟨c', h, hle⟩ := I.down v c j hv he
      exact ⟨c', by rw [i2 j (old j c' h)]; exact h, hle⟩
  · intro i j c c' hi hj
    by_cases hmi : i ∈ s.opn.drop (s.opn.idxOf d)
    · rw [i1 i hmi] at hi
      obtain rfl := Option.some.inj hi
      obtain ⟨a1, a2⟩ := (hC i).1 hmi
      by_cases hmj : j ∈ s.opn.drop (s.opn.idxOf d)
      · rw [i1 j hmj] at hj
        obtain rfl := Option.some.inj hj
        obtain ⟨b1, b2⟩ := (hC j).1 hmj
        exact ⟨fun _ => ⟨(K1 _ i (Nat.le_refl _) a1 a2).trans (K2 j b1 b2), (K1 _ j (Nat.le_refl _) b1 b2).trans (K2 i a1 a2)⟩, fun _ => rfl⟩
      · rw [i2 j hmj] at hj
        refine ⟨fun e => ?_, fun h => ?_⟩
        · have := (I.islv j c' hj).2; omega
        · obtain ⟨c2, h2, _⟩ := I.leads_down h.2 hj
          exact absurd hmi (old i c2 h2)
    · rw [i2 i hmi] at hi
      by_cases hmj : j ∈ s.opn.drop (s.opn.idxOf d)
      · rw [i1 j hmj] at hj
        obtain rfl := Option.some.inj hj
        refine ⟨fun e => ?_, fun h => ?_⟩
        · have := (I.islv i c hi).2; omega
        · obtain ⟨c2, h2, _⟩ := I.leads_down h.1 hi
          exact absurd hmj (old j c2 h2)
      · rw [i2 j hmj] at hj
        exact I.scc i j c c' hi hj
  · have := I.wsorted
    rw [hn, List.pairwise_append] at this
    rw [hw]
    exact this.1
  · intro v hv
    rw [ho]
    exact (hT v).2 ⟨I.wopn v (hsub v hv), I.mid hv⟩
  · intro p hp
    rw [hw]
    exact I.wnext p (hpw p hp)
  · intro v hv hnv j hj
    rw [ho] at hv
    obtain ⟨h1, h2⟩ := (hT v).1 hv
    rw [hw]
    exact I.fin v h1 (off v hnv (fun e => by rw [e] at h2; omega)) j hj
  · intro x hx v hv hle
    rw [ho] at hv
    rw [hw] at hle
    exact I.reach x (hsub x hx) v ((hT v).1 hv).1 hle
  · intro v hv
    rw [ho] at hv
    obtain ⟨h1, h2⟩ := (hT v).1 hv
    obtain ⟨x, hx, e, r⟩ := I.lowv v h1
    have := I.lowle v h1
    exact ⟨x, by rw [ho]; exact (hT x).2 ⟨hx, by omega⟩, by rw [hw, hl]; exact e, r⟩
  · intro v hv
    rw [ho] at hv
    rw [hw, hl]
    exact I.lowle v ((hT v).1 hv).1
  · intro v hv hnv
    rw [ho] at hv
    obtain ⟨h1, h2⟩ := (hT v).1 hv
    rw [hw, hl]
    exact I.lowfin v h1 (off v hnv (fun e => by rw [e] at h2; omega))
  · intro x hx v hv hnv hle
    rw [ho] at hv
    obtain ⟨h1, h2⟩ := (hT v).1 hv
    rw [hw] at hle ⊢
    rw [hl]
    rcases I.lowup x (hsub x hx) v h1 (off v hnv (fun e => by rw [e] at h2; omega)) hle with ⟨q, hq, h3, h4⟩ | h
    · rw [hn, List.mem_append, List.mem_singleton] at hq
      rcases hq with hq | rfl
      · exact .inl ⟨q, hq, h3, h4⟩
      · omega
    · exact .inr h
  · intro v hv hnv j hj hej
    rw [ho] at hv hj
    obtain ⟨h1, h2⟩ := (hT v).1 hv
    rw [hw, hl]
    exact I.lowfe v h1 (off v hnv (fun e => by rw [e] at h2; omega)) j ((hT j).1 hj).1 hej
  · intro p hp j hj x hx he'
    rw [ho] at hj
    rw [hw, hl]
    exact I.lowwe p (hpw p hp) j ((hT j).1 hj).1 x hx he'
  · intro v hv
    rw [ho] at hv
    obtain ⟨h1, h2⟩ := (hT v).1 hv
    obtain ⟨x, hx, h⟩ := I.root v h1
    rw [hn, List.mem_append, List.mem_singleton] at hx
    rw [hw]
    rcases hx with hx | rfl
    · exact ⟨x, hx, h⟩
    · omega

theorem lower_same {x : Nat} (h : s.low u ≤ x) : lower s u x = s := by
  have : upd s.low u (min (s.low u) x) = s.low := by
    funext i
    unfold upd
    split
    · next e => subst e; omega
    · rfl
  unfold lower
  rw [this]

/-- behind a shutting, lowering the node beneath turns nothing -/
theorem Inv.shut_back (I : Inv g s (ws ++ [(u, t')] ++ [(d, t)])) (hlow : s.low d = s.wn d) : s.low u ≤ s.low d := by
  have hu : u ∈ nodes (ws ++ [(u, t')]) := by simp [nodes]
  have := I.mid hu
  have := I.lowle u (I.wopn u (by rw [nodes_last, List.mem_append]; exact .inl hu))
  omega

theorem Inv.none_open (I : Inv g s []) : s.opn = [] := by
  cases h : s.opn with
  | nil => rfl
  | cons v l =>
    obtain ⟨u, hu, _⟩ := I.root v (by rw [h]; simp)
    simp [nodes] at hu
theorem Inv.closed (I : Inv g s []) {v : Nat} (hv : 0 < s.wn v) : ∃ c, s.isl v = some c := by
  cases h : s.isl v with
  | some c => exact ⟨c, rfl⟩
  | none =>
    have := (I.opn v).2 ⟨hv, h⟩
    rw [I.none_open] at this
    cases this

/-- how many there are -/
structure Cnt (g : Gr) (s : St) (way : Way) : Prop where
  time : s.time = (List.range g.length).countP (fun k => decide (0 < s.wn k))
  many : s.many + s.opn.length ≤ s.time
  way : way.length ≤ s.time

theorem Cnt.le (C : Cnt g s way) : s.time ≤ g.length := by
  rw [C.time]
  have := List.countP_le_length (p := fun k => decide (0 < s.wn k)) (l := List.range g.length)
  simpa using this
theorem countP_upd (f : Nat → Nat) (k v : Nat) (h0 : f k = 0) (hv : 0 < v) : ∀ n, (List.range n).countP (fun i => decide (0 < upd f k v i)) = (List.range n).countP (fun i => decide (0 < f i)) + if k < n then 1 else 0 := by
  intro n
  induction n with
  | zero => simp
  | succ n ih =>
    rw [List.range_succ, List.countP_append, List.countP_append, ih]
    by_cases e : n = k
    · subst e
      simp [upd, h0, hv]
    · have e1 : upd f k v n = f n := upd_far _ _ e
      simp only [List.countP_cons, List.countP_nil, e1]
      by_cases h : k < n
      · simp [h, show k < n + 1 by omega]; omega
      · simp [h, show ¬ k < n + 1 by omega]
theorem Cnt.unmet (C : Cnt g s way) (hk : s.wn k = 0) (hkl : k < g.length) : s.time < g.length := by
  have h := countP_upd s.wn k 1 hk (by omega) g.length
  rw [if_pos hkl] at h
  have h2 := List.countP_le_length (p := fun i => decide (0 < upd s.wn k 1 i)) (l := List.range g.length)
  rw [List.length_range] at h2
  rw [C.time]
  omega
theorem Cnt.meeting (C : Cnt g s way) (hk : s.wn k = 0) (hkl : k < g.length) {wb : Way} (hw : wb.length ≤ way.length + 1) : Cnt g (meet s k) wb := by
  refine ⟨?_, ?_, ?_⟩
  · have := countP_upd s.wn k (s.time + 1) hk (by omega) g.length
    rw [if_pos hkl, ← C.time] at this
    exact this.symm
  · show s.many + (s.opn ++ [k]).length ≤ s.time + 1
    have := C.many
    simp; omega
  · show wb.length ≤ s.time + 1
    have := C.way
    omega
theorem Cnt.same (C : Cnt g s way) (x : Nat) {wb : Way} (hw : wb.length ≤ way.length) : Cnt g (lower s u x) wb := ⟨C.time, C.many, Nat.le_trans hw C.way⟩
theorem Cnt.stay (C : Cnt g s way) {wb : Way} (hw : wb.length ≤ way.length) : Cnt g s wb := ⟨C.time, C.many, Nat.le_trans hw C.way⟩
theorem Cnt.shutting (C : Cnt g s way) (hd : d ∈ s.opn) {wb : Way} (hw : wb.length ≤ way.length) : Cnt g (shut s d) wb := by
  refine ⟨C.time, ?_, Nat.le_trans hw C.way⟩
  show s.many + 1 + (s.opn.take (s.opn.idxOf d)).length ≤ s.time
  have := C.many
  have := List.idxOf_lt_length_of_mem hd
  rw [List.length_take]
  omega
theorem cnt_start (g : Gr) : Cnt g start [] := by
  refine ⟨?_, by simp [start], by simp⟩
  simp [start]
end

end Go.Proofs.YtpcjfgihglfdgaaGreatDoor.Isl

namespace Go.Proofs.YtpcjfgihglfdgaaGreatDoor.Isl
open Go.RowKit Go.Lib

/-- a slice of ints in memory -/
def IntsIn (w : World) (v : Value) (xs : List Int) : Prop :=
  ∃ ao c b off, v = .slice ao xs.length c ∧ xs.length ≤ 9223372036854775807 ∧ ∀ j x, xs[j]? = some x → ao = some ⟨b, off, none⟩ ∧ w.cell? ⟨b, off + j, none⟩ = some (.int .i64 x) ∧ -9223372036854775808 ≤ x ∧ x ≤ 9223372036854775807
/-- a slice of slices of ints in memory -/
def RowsIn (w : World) (v : Value) (G : List (List Int)) : Prop :=
  ∃ ao c b off, v = .slice ao G.length c ∧ G.length ≤ 9223372036854775807 ∧ ∀ i l, G[i]? = some l → ao = some ⟨b, off, none⟩ ∧ ∃ lv, w.cell? ⟨b, off + i, none⟩ = some lv ∧ IntsIn w lv l
theorem IntsIn.below {w w' : World} {v : Value} {xs : List Int} (h : IntsIn w v xs) (hb : Below w.heap.size w w') : IntsIn w' v xs := by
  obtain ⟨ao, c, b, off, h1, h2, h3⟩ := h
  exact ⟨ao, c, b, off, h1, h2, fun j x hx => ⟨(h3 j x hx).1, (hb.cell (World.block_lt_of_cell? _ _ (h3 j x hx).2.1)).trans (h3 j x hx).2.1, (h3 j x hx).2.2⟩⟩
theorem RowsIn.below {w w' : World} {v : Value} {G : List (List Int)} (h : RowsIn w v G) (hb : Below w.heap.size w w') : RowsIn w' v G := by
  obtain ⟨ao, c, b, off, h1, h2, h3⟩ := h
  refine ⟨ao, c, b, off, h1, h2, fun i l hl => ⟨(h3 i l hl).1, ?_⟩⟩
  obtain ⟨lv, h4, h5⟩ := (h3 i l hl).2
  exact ⟨lv, (hb.cell (World.block_lt_of_cell? _ _ h4)).trans h4, h5.below hb⟩

def badX (n : Nat) (x : Int) : Bool := decide (x < 0) || decide ((n : Int) ≤ x)
def badRow (n : Nat) (l : List Int) : Bool := l.any (badX n)
def badGraph (n : Nat) (G : List (List Int)) : Bool := G.any (badRow n)

set_option maxHeartbeats 400000 in
theorem bad_any (w : World) (eb : Nat) (ao : Option Addr) (n c : Nat) (x : Int) (he : w.cell? ⟨eb, 0, none⟩ = some (.slice ao n c)) (_hn : n ≤ 9223372036854775807) (h1 : -9223372036854775808 ≤ x) (h2 : x ≤ 9223372036854775807) :
    Calls Tryz.prog 59 #[.int .i64 x, .pointer (some ⟨eb, 0, none⟩)] w fun e w' => e = .returned (.bool (badX n x)) ∧ w = w' := by
  go_enter Tryz.func59, Tryz.ntmps59
  go_wp2
  all_goals go_ret
  all_goals exact ⟨ret_bool (by simp [badX]; try omega), rfl⟩

theorem any_take {α : Type} {p : α → Bool} {l : List α} {j : Nat} {x : α} (hx : l[j]? = some x) (h : (l.take j).any p = false) (hp : p x = false) : (l.take (j + 1)).any p = false := by
  obtain ⟨hj, e⟩ := List.getElem?_eq_some_iff.1 hx
  rw [List.take_succ_eq_append_getElem hj, List.any_append, h, e]
  simp [hp]
theorem any_here {α : Type} {p : α → Bool} {l : List α} {j : Nat} {x : α} (hx : l[j]? = some x) (hp : p x = true) : l.any p = true := by
  rw [List.any_eq_true]
  exact ⟨x, List.mem_of_getElem? hx, hp⟩

def FindRel (w : World) (bad : Nat → Bool) (n : Nat) (i : Value) (wr : World) : Prop :=
  ∃ j : Nat, i = .int .i64 (j : Int) ∧ j ≤ n ∧ bad j = false ∧ wr = w
def FindEnd (w : World) (b : Bool) (e : Ending) (w' : World) : Prop :=
  ∃ r : Int, e = .returned (.int .i64 r) ∧ (b = decide (0 ≤ r)) ∧ -1 ≤ r ∧ r ≤ 9223372036854775807 ∧ w = w'

set_option maxHeartbeats 1000000 in
theorem index_bad (w : World) (eb : Nat) (ao : Option Addr) (n c : Nat) (he : w.cell? ⟨eb, 0, none⟩ = some (.slice ao n c)) (hn : n ≤ 9223372036854775807) (lv : Value) (l : List Int) (h : IntsIn w lv l) :
    Calls Tryz.prog 115 #[lv, .func (.func 59) #[] #[.pointer (some ⟨eb, 0, none⟩)]] w (FindEnd w (badRow n l)) := by
  obtain ⟨lo, lc, b, off, rfl, hl, hc⟩ := h
  have HC := hid hc
  clear hc
  go_enter Tryz.func115, Tryz.ntmps115
  go_wp2_with fail
  go_loopw [8] (fun i wr => FindRel w (fun j => (l.take j).any (badX n)) l.length i wr) (fun i _ => l.length - (intOf i).toNat)
  case atStart => exact ⟨0, rfl, by omega, by simp, rfl⟩
  case round =>
    obtain ⟨j, rfl, hj, hbad, rfl⟩ := hrel
    have HB := hid hbad
    clear hbad
    by_cases hgo : j < l.length
    · obtain ⟨x, hx⟩ : ∃ x, l[j]? = some x := ⟨l[j], by simp [hgo]⟩
      obtain ⟨rfl, hcx, x1, x2⟩ := HC.out j x hx
      have HX := hid hx
      have HBA := hid (bad_any wr eb ao n c x he hn x1 x2)
      obtain ⟨bb, hbb⟩ : ∃ bb, bb = badX n x := ⟨_, rfl⟩
      rw [← hbb] at HBA
      clear hx
      cases bb with
      | true =>
        have HE := hid (any_here HX.out hbb.symm)
        clear hbb
        go_wp2_with fail
        refine HBA.out.mono ?_
        rintro e w' ⟨rfl, rfl⟩
        go_wp2_with fail
        go_ret
        exact ⟨_, rfl, by rw [badRow, HE.out]; simp, by omega, by omega, rfl⟩
      | false =>
        have HE := hid (any_take HX.out HB.out hbb.symm)
        clear hbb
        go_wp2_with fail
        refine HBA.out.mono ?_
        rintro e w' ⟨rfl, rfl⟩
        go_wp2_with fail
        go_roundw
        case rel => exact ⟨j + 1, by simp, by omega, HE.out, rfl⟩
        case measure => simp [intOf]; omega
    · obtain rfl : j = l.length := by omega
      go_wp2_with fail
      go_ret
      refine ⟨_, rfl, ?_, by omega, by omega, rfl⟩
      have := HB.out
      rw [List.take_length] at this
      rw [badRow, this]
      rfl

set_option maxHeartbeats 400000 in
theorem contains_bad (w : World) (eb : Nat) (ao : Option Addr) (n c : Nat) (he : w.cell? ⟨eb, 0, none⟩ = some (.slice ao n c)) (hn : n ≤ 9223372036854775807) (lv : Value) (l : List Int) (h : IntsIn w lv l) :
    Calls Tryz.prog 62 #[lv, .func (.func 59) #[] #[.pointer (some ⟨eb, 0, none⟩)]] w fun e w' => e = .returned (.bool (badRow n l)) ∧ w = w' := by
  have H := hid (index_bad w eb ao n c he hn lv l h)
  clear he h
  go_enter Tryz.func62, Tryz.ntmps62
  go_wp2_with fail
  refine H.out.mono ?_
  rintro e w' ⟨r, rfl, hr, r1, r2, rfl⟩
  have HR := hid hr
  clear hr
  go_wp2_with fail
  go_ret
  exact ⟨ret_bool (by rw [HR.out]), rfl⟩

set_option maxHeartbeats 400000 in
theorem lit2_any (w : World) (eb bb : Nat) (ao : Option Addr) (n c : Nat) (he : w.cell? ⟨eb, 0, none⟩ = some (.slice ao n c)) (hn : n ≤ 9223372036854775807) (hb : w.cell? ⟨bb, 0, none⟩ = some (.func (.func 59) #[] #[.pointer (some ⟨eb, 0, none⟩)])) (lv : Value) (l : List Int) (h : IntsIn w lv l) :
    Calls Tryz.prog 61 #[lv, .pointer (some ⟨bb, 0, none⟩)] w fun e w' => e = .returned (.bool (badRow n l)) ∧ w = w' := by
  have H := hid (contains_bad w eb ao n c he hn lv l h)
  clear he h
  go_enter Tryz.func61, Tryz.ntmps61
  go_wp2_with fail
  refine H.out.mono ?_
  rintro e w' ⟨rfl, rfl⟩
  go_wp2_with fail
  go_ret
  exact ⟨rfl, rfl⟩

set_option maxHeartbeats 1000000 in
theorem index_rows (w : World) (eb bb : Nat) (ao : Option Addr) (n c : Nat) (he : w.cell? ⟨eb, 0, none⟩ = some (.slice ao n c)) (hn : n ≤ 9223372036854775807) (hb : w.cell? ⟨bb, 0, none⟩ = some (.func (.func 59) #[] #[.pointer (some ⟨eb, 0, none⟩)]))
    (v : Value) (G : List (List Int)) (h : RowsIn w v G) :
    Calls Tryz.prog 114 #[v, .func (.func 61) #[] #[.pointer (some ⟨bb, 0, none⟩)]] w (FindEnd w (badGraph n G)) := by
  obtain ⟨lo, lc, b, off, rfl, hl, hc⟩ := h
  have HC := hid hc
  clear hc
  go_enter Tryz.func114, Tryz.ntmps114
  go_wp2_with fail
  go_loopw [8] (fun i wr => FindRel w (fun j => (G.take j).any (badRow n)) G.length i wr) (fun i _ => G.length - (intOf i).toNat)
  case atStart => exact ⟨0, rfl, by omega, by simp, rfl⟩
  case round =>
    obtain ⟨j, rfl, hj, hbad, rfl⟩ := hrel
    have HB := hid hbad
    clear hbad
    by_cases hgo : j < G.length
    · obtain ⟨x, hx⟩ : ∃ x, G[j]? = some x := ⟨G[j], by simp [hgo]⟩
      obtain ⟨rfl, lv, hcx, hin⟩ := HC.out j x hx
      have HX := hid hx
      have HBA := hid (lit2_any wr eb bb ao n c he hn hb lv x hin)
      obtain ⟨q, hq⟩ : ∃ q, q = badRow n x := ⟨_, rfl⟩
      rw [← hq] at HBA
      clear hx hin
      cases q with
      | true =>
        have HE := hid (any_here HX.out hq.symm)
        clear hq
        go_wp2_with fail
        refine HBA.out.mono ?_
        rintro e w' ⟨rfl, rfl⟩
        go_wp2_with fail
        go_ret
        exact ⟨_, rfl, by rw [badGraph, HE.out]; simp, by omega, by omega, rfl⟩
      | false =>
        have HE := hid (any_take HX.out HB.out hq.symm)
        clear hq
        go_wp2_with fail
        refine HBA.out.mono ?_
        rintro e w' ⟨rfl, rfl⟩
        go_wp2_with fail
        go_roundw
        case rel => exact ⟨j + 1, by simp, by omega, HE.out, rfl⟩
        case measure => simp [intOf]; omega
    · obtain rfl : j = G.length := by omega
      go_wp2_with fail
      go_ret
      refine ⟨_, rfl, ?_, by omega, by omega, rfl⟩
      have := HB.out
      rw [List.take_length] at this
      rw [badGraph, this]
      rfl

set_option maxHeartbeats 400000 in
theorem contains_rows (w : World) (eb bb : Nat) (ao : Option Addr) (n c : Nat) (he : w.cell? ⟨eb, 0, none⟩ = some (.slice ao n c)) (hn : n ≤ 9223372036854775807) (hb : w.cell? ⟨bb, 0, none⟩ = some (.func (.func 59) #[] #[.pointer (some ⟨eb, 0, none⟩)]))
    (v : Value) (G : List (List Int)) (h : RowsIn w v G) :
    Calls Tryz.prog 60 #[v, .func (.func 61) #[] #[.pointer (some ⟨bb, 0, none⟩)]] w fun e w' => e = .returned (.bool (badGraph n G)) ∧ w = w' := by
  have H := hid (index_rows w eb bb ao n c he hn hb v G h)
  clear he hb h
  go_enter Tryz.func60, Tryz.ntmps60
  go_wp2_with fail
  refine H.out.mono ?_
  rintro e w' ⟨r, rfl, hr, r1, r2, rfl⟩
  have HR := hid hr
  clear hr
  go_wp2_with fail
  go_ret
  exact ⟨ret_bool (by rw [HR.out]), rfl⟩

def rightB (G : List (List Int)) : Bool := decide (G.length ≤ 2000) && !badGraph G.length G

set_option maxHeartbeats 1000000 in
theorem right_any (w : World) (v : Value) (G : List (List Int)) (h : RowsIn w v G) :
    Calls Tryz.prog 21 #[v] w fun e w' => e = .returned (.bool (rightB G)) ∧ Below w.heap.size w w' := by
  have hmf : ∀ (fn : Fn) (first cap : Array Value) (x : World), (Instr.makeFunc fn first cap).run Tryz.prog x = .ok (.func fn first cap) x := fun _ _ _ _ => rfl
  have h0 := h
  obtain ⟨lo, lc, b, off, rfl, hl, _⟩ := h0
  have H := hid (fun x hx e1 e2 => contains_rows x w.heap.size (w.heap.size + 1) lo G.length lc e1 hl e2 (.slice lo G.length lc) G (h.below hx))
  clear h
  by_cases hg : G.length ≤ 2000
  · go_enter Tryz.func21, Tryz.ntmps21
    go_wp2_with fail
    refine (H.out _ ?yx ?ye1 ?ye2).mono ?yk
    case yx => exact ((Below.refl _ w).alloc (Nat.le_refl _) _).alloc (by simp) _
    case ye1 => exact cell_of (heap_alloc_keep (heap_alloc_new w _) _) rfl
    case ye2 =>
      have := heap_alloc_new (w.alloc (.cells #[.slice lo G.length lc] 30)) (.cells #[.func (.func 59) #[] #[.pointer (some ⟨w.heap.size, 0, none⟩)]] 136)
      rw [World.size_alloc] at this
      exact cell_of this rfl
    case yk =>
      rintro e w' ⟨rfl, rfl⟩
      go_wp2_with fail
      go_ret
      exact ⟨ret_bool (by simp [rightB, hg]), ((Below.refl _ w).alloc (Nat.le_refl _) _).alloc (by simp) _⟩
  · go_enter Tryz.func21, Tryz.ntmps21
    go_wp2_with fail
    go_ret
    exact ⟨ret_bool (by simp [rightB, hg]), ((Below.refl _ w).alloc (Nat.le_refl _) _).alloc (by simp) _⟩

end Go.Proofs.YtpcjfgihglfdgaaGreatDoor.Isl
