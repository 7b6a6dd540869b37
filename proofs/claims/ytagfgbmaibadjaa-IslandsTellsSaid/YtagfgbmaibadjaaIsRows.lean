/- Rows of rows of ints of the law's own: copies, one more row, one row turned. -/
import Derived.Test.YtagfgbmaibadjaaIsAny
namespace Go.Proofs.Ytagfgbmaibadjaa
open Go.RowKit Go.Lib

/-- a slice of ints whose cells lie in a block of ints -/
def IntsT (w : World) (v : Value) (xs : List Int) : Prop :=
  ∃ ao c b off, v = .slice ao xs.length c ∧ xs.length ≤ 9223372036854775807 ∧ ∀ (j : Nat) (x : Int), xs[j]? = some x → ao = some ⟨b, off, none⟩ ∧ w.cell? ⟨b, off + j, none⟩ = some (.int .i64 x) ∧ (-9223372036854775808 ≤ x ∧ x ≤ 9223372036854775807) ∧ ∃ cs, w.heap[b]? = some (.cells cs 3 (0, 0))
def RowsT (w : World) (v : Value) (G : List (List Int)) : Prop :=
  ∃ ao c b off, v = .slice ao G.length c ∧ G.length ≤ 9223372036854775807 ∧ ∀ (i : Nat) (l : List Int), G[i]? = some l → ao = some ⟨b, off, none⟩ ∧ ∃ lv, w.cell? ⟨b, off + i, none⟩ = some lv ∧ IntsT w lv l

theorem IntsT.ints {w : World} {v : Value} {xs : List Int} (h : IntsT w v xs) : IntsIn w v xs := by
  obtain ⟨ao, c, b, off, h1, h2, h3⟩ := h
  exact ⟨ao, c, b, off, h1, h2, fun j x hx => ⟨(h3 j x hx).1, (h3 j x hx).2.1, (h3 j x hx).2.2.1⟩⟩
theorem RowsT.rows {w : World} {v : Value} {G : List (List Int)} (h : RowsT w v G) : RowsIn w v G := by
  obtain ⟨ao, c, b, off, h1, h2, h3⟩ := h
  refine ⟨ao, c, b, off, h1, h2, fun i l hl => ⟨(h3 i l hl).1, ?_⟩⟩
  obtain ⟨lv, h4, h5⟩ := (h3 i l hl).2
  exact ⟨lv, h4, h5.ints⟩
theorem IntsT.view {w : World} {v : Value} {xs : List Int} (h : IntsT w v xs) : ∃ ao c, v = .slice ao xs.length c := by
  obtain ⟨ao, c, _, _, h1, _⟩ := h
  exact ⟨ao, c, h1⟩
theorem intsT_nil (w : World) : IntsT w (.slice none 0 0) [] := ⟨none, 0, 0, 0, rfl, by simp, by simp⟩

/-- of the blocks that were there, F's are rows of slices -/
def Rowy (F : List Nat) (w : World) : Prop := ∀ b ∈ F, ∀ cs, w.heap[b]? ≠ some (.cells cs 3 (0, 0))
theorem IntsT.chg {F : List Nat} {w w' : World} {v : Value} {xs : List Int} (h : IntsT w v xs) (c : Chg F w w') (hF : Rowy F w) : IntsT w' v xs := by
  obtain ⟨ao, cc, b, off, h1, h2, h3⟩ := h
  refine ⟨ao, cc, b, off, h1, h2, fun j x hx => ?_⟩
  obtain ⟨k1, k2, k3, cs, k4⟩ := h3 j x hx
  have hb : b ∉ F := fun hm => hF b hm cs k4
  exact ⟨k1, c.cell k2 hb, k3, cs, c.heap k4 hb⟩
theorem IntsT.below {w w' : World} {v : Value} {xs : List Int} (h : IntsT w v xs) (hb : Below w.heap.size w w') : IntsT w' v xs := h.chg (F := []) (Chg.of_below hb) (fun b hm => by simp at hm)
theorem RowsT.below {w w' : World} {v : Value} {G : List (List Int)} (h : RowsT w v G) (hb : Below w.heap.size w w') : RowsT w' v G := by
  obtain ⟨ao, c, b, off, h1, h2, h3⟩ := h
  refine ⟨ao, c, b, off, h1, h2, fun i l hl => ⟨(h3 i l hl).1, ?_⟩⟩
  obtain ⟨lv, h4, h5⟩ := (h3 i l hl).2
  exact ⟨lv, (hb.cell (World.block_lt_of_cell? _ _ h4)).trans h4, h5.below hb⟩

theorem owns_intsT {w : World} {B : Nat} {v : Value} {l : List Int} (h : w.ownsRow B 3 1 v l.length (l.map fun x => Value.int .i64 x)) (hs : ∀ x ∈ l, -9223372036854775808 ≤ x ∧ x ≤ 9223372036854775807) : IntsT w v l := by
  obtain ⟨_, _, _, e3⟩ := ownsRow_view h
  unfold maxLen at e3
  rcases h.2 with ⟨rfl, h0⟩ | ⟨ub, ucap, ucur, rfl, _, hg, _⟩
  · have : l = [] := List.length_eq_zero_iff.1 h0
    subst this
    exact intsT_nil w
  · have hc2 := h.cells (g := ub) rfl
    refine ⟨_, ucap, ub, 0, rfl, by omega, fun j x hx => ⟨rfl, ?_, hs x (List.mem_of_getElem? hx), ucur, hg⟩⟩
    have := hc2 j (.int .i64 x) (by simp [hx])
    rw [add_zero_off] at this
    exact this

/-- a row of rows of the law's own -/
structure RowsOwn (w : World) (L : Nat) (v : Value) (us : List Value) (G : List (List Int)) : Prop where
  row : w.ownsRow L 24 1 v G.length us
  each : ∀ (i : Nat) (l : List Int), G[i]? = some l → ∃ u, us[i]? = some u ∧ IntsT w u l

section
variable {w w' : World} {L : Nat} {v : Value} {us : List Value} {G : List (List Int)}
theorem RowsOwn.rows (R : RowsOwn w L v us G) : RowsT w v G := by
  obtain ⟨_, _, _, e3⟩ := ownsRow_view R.row
  unfold maxLen at e3
  rcases R.row.2 with ⟨rfl, h0⟩ | ⟨gb, cap, cur, rfl, _⟩
  · have : G = [] := List.length_eq_zero_iff.1 h0
    subst this
    exact ⟨none, 0, 0, 0, rfl, by simp, by simp⟩
  · have hcl := R.row.cells (g := gb) rfl
    refine ⟨_, cap, gb, 0, rfl, by omega, fun i l hl => ⟨rfl, ?_⟩⟩
    obtain ⟨u, h1, h2⟩ := R.each i l hl
    have := hcl i u h1
    rw [add_zero_off] at this
    exact ⟨u, this, h2⟩
theorem RowsOwn.chg {F : List Nat} (R : RowsOwn w L v us G) (c : Chg F w w') (hF : Rowy F w) (hv : ∀ b ∈ own v, b ∉ F) : RowsOwn w' L v us G :=
  ⟨c.owns R.row (fun b hb => hv b (by simp [own, hb])), fun i l hl => by
    obtain ⟨u, h1, h2⟩ := R.each i l hl
    exact ⟨u, h1, h2.chg c hF⟩⟩
theorem RowsOwn.below (R : RowsOwn w L v us G) (hb : Below w.heap.size w w') : RowsOwn w' L v us G := R.chg (F := []) (Chg.of_below hb) (fun b hm => by simp at hm) (by simp)
theorem RowsOwn.view (R : RowsOwn w L v us G) : ∃ a c, v = .slice a G.length c := by
  obtain ⟨a, c, h, _⟩ := ownsRow_view R.row
  exact ⟨a, c, h⟩
theorem RowsOwn.rowy (R : RowsOwn w L v us G) : Rowy (own v) w := fun b hb cs h => by
  simp only [own, Option.mem_toList] at hb
  obtain ⟨y, hy⟩ := owns_cells R.row hb
  exact heap_ne hy h (by decide) rfl

theorem rows_own_nil (w : World) (L : Nat) : RowsOwn w L (.slice none 0 0) [] [] := ⟨World.ownsRow_nil _ _ _ _, by simp⟩

/-- rows put behind rows of the law's own -/
theorem RowsOwn.app {a : Addr} {m c : Nat} {news : List Value} {H : List (List Int)} (R : RowsOwn w L v us G) (hL : L ≤ w.heap.size) (hm : m = H.length) (hl : news.length = m) (hn : ∀ (j : Nat) (u : Value), news[j]? = some u → w.cell? (a.add j) = some u)
    (hi : ∀ (i : Nat) (l : List Int), H[i]? = some l → ∃ u, news[i]? = some u ∧ IntsT w u l) (hs : G.length + m ≤ 100000) :
    ∃ v' w', (Builtin.append_ #[22, 22] 22 #[v, .slice (some a) m c]).run Try.prog w = .ok v' w' ∧ RowsOwn w' L v' (us ++ news) (G ++ H) ∧ Chg (own v) w w' := by
  obtain ⟨i0, hi0, hz0, hz1, hz2⟩ := info_parts Try.info24
  obtain ⟨v', w', h1, h2, h3, _, h5⟩ := run_append_own_at (P := Try.prog) w L 22 22 24 i0 (.slice none 0 0) 1 24 Try.underlying22 hi0 hz0 hz1 hz2 rfl (by decide) v G.length us R.row
    a m c news (by omega) hn (fun u hu => by
      obtain ⟨i, hil, e⟩ := List.getElem_of_mem hu
      obtain ⟨u', e1, e2⟩ := hi i (H[i]'(by omega)) (List.getElem?_eq_getElem (by omega))
      rw [List.getElem?_eq_getElem hil, e] at e1
      have := Option.some.inj e1
      subst this
      obtain ⟨_, _, e3⟩ := e2.view
      rw [e3]; rfl) (by unfold maxLen; omega) (by omega) hL
  have ch : Chg (own v) w w' := (Chg.refl _ w).grown h3 (fun k hk => .inl (by simp [own, hk]))
  refine ⟨v', w', h1, ⟨by rw [List.length_append, ← hm]; exact h2, fun i l hil => ?_⟩, ch⟩
  have hlen : us.length = G.length := by have := R.row.1; omega
  by_cases hk : i < G.length
  · rw [List.getElem?_append_left hk] at hil
    obtain ⟨u, e1, e2⟩ := R.each i l hil
    exact ⟨u, by rw [List.getElem?_append_left (by omega)]; exact e1, e2.chg ch R.rowy⟩
  · rw [List.getElem?_append_right (by omega)] at hil
    obtain ⟨u, e1, e2⟩ := hi _ l hil
    exact ⟨u, by rw [List.getElem?_append_right (by omega), hlen]; exact e1, e2.chg ch R.rowy⟩

/-- one row more: laid into a block of its own first -/
theorem RowsOwn.push {u : Value} {l : List Int} (R : RowsOwn w L v us G) (hL : L ≤ w.heap.size) (hu : IntsT w u l) (hs : G.length ≤ 10000) :
    ∃ v' w', (Builtin.append_ #[22, 22] 22 #[v, .slice (some ⟨w.heap.size, 0, none⟩) 1 1]).run Try.prog (w.alloc (.cells #[u] 24)) = .ok v' w' ∧ RowsOwn w' L v' (us ++ [u]) (G ++ [l]) ∧ Chg (own v) w w' := by
  have ca : Chg [] w (w.alloc (.cells #[u] 24)) := (Chg.refl _ w).alloc _
  obtain ⟨v', w', h1, h2, h3⟩ := (R.chg ca (fun b hm => by simp at hm) (by simp)).app (a := ⟨w.heap.size, 0, none⟩) (m := 1) (c := 1) (news := [u]) (H := [l]) (by simp; omega) rfl rfl (cell_one_new2 rfl _ _) (fun i l' hl => by
    rcases i with _ | i
    · simp at hl; subst hl; exact ⟨_, rfl, hu.chg ca (fun b hm => by simp at hm)⟩
    · simp at hl) (by omega)
  exact ⟨v', w', h1, h2, (ca.mono (by simp)).trans h3 (fun b hb => .inl hb)⟩

/-- one row turned -/
theorem RowsOwn.set {b i n c : Nat} {u : Value} {l : List Int} (R : RowsOwn w L (.slice (some ⟨b, 0, none⟩) n c) us G) (hi : i < G.length) (hu : IntsT w u l) : RowsOwn (w.setCell ⟨b, i, none⟩ u) L (.slice (some ⟨b, 0, none⟩) n c) (us.set i u) (G.set i l) := by
  have hlen : us.length = G.length := by have := R.row.1; omega
  have ch : Chg [b] w (w.setCell ⟨b, i, none⟩ u) := (Chg.refl _ w).setCell (by simp) _
  have hF : Rowy [b] w := fun y hy cs h => by
    simp only [List.mem_singleton] at hy
    subst hy
    exact R.rowy y (by simp [own, Value.ownBlock]) cs h
  refine ⟨?_, fun k l' hk => ?_⟩
  · obtain ⟨h1, h2⟩ := R.row
    refine ⟨by simp [h1], ?_⟩
    rcases h2 with ⟨h0, _⟩ | ⟨g, cap, cur, e, k1, k2, k3, k4, k5, k6⟩
    · simp at h0
    · injection e with e1 e2 e3
      injection e1 with e1
      injection e1 with e1 _
      subst e1
      refine .inr ⟨b, cap, cur.setIfInBounds i u, by rw [e2, e3, List.length_set], k1, heap_setCell_at k2 u, by rw [List.length_set]; exact k3, k4, by simp [k5], ?_⟩
      rw [Array.toList_setIfInBounds, List.length_set, List.take_set, k6]
  · rw [List.getElem?_set] at hk
    by_cases e : i = k
    · subst e
      rw [if_pos rfl, if_pos hi] at hk
      have := Option.some.inj hk
      subst this
      exact ⟨u, by rw [List.getElem?_set_self (by omega)], hu.chg ch hF⟩
    · rw [if_neg e] at hk
      obtain ⟨u', e1, e2⟩ := R.each k l' hk
      exact ⟨u', by rw [List.getElem?_set_ne e]; exact e1, e2.chg ch hF⟩
end

/-- rows copied behind nothing -/
theorem copy_rows {w : World} {b off n c : Nat} {G : List (List Int)} (h : RowsT w (.slice (some ⟨b, off, none⟩) n c) G) (hs : G.length ≤ 10000) :
    ∃ v' us w', (Builtin.append_ #[22, 22] 22 #[.slice none 0 0, .slice (some ⟨b, off, none⟩) n c]).run Try.prog w = .ok v' w' ∧ RowsOwn w' w.heap.size v' us G ∧ Below w.heap.size w w' := by
  obtain ⟨ao, c', b', off', h1, h2, h3⟩ := h
  injection h1 with e1 e2 e3
  subst e2
  have key : ∀ i, i < G.length → ∃ lv, w.cell? ⟨b, off + i, none⟩ = some lv ∧ ∀ l, G[i]? = some l → IntsT w lv l := fun i hi => by
    obtain ⟨k1, lv, k2, k3⟩ := h3 i _ (List.getElem?_eq_getElem hi)
    rw [← e1] at k1
    injection k1 with k1
    injection k1 with k1 k1'
    subst k1 k1'
    exact ⟨lv, k2, fun l hl => by rw [List.getElem?_eq_getElem hi] at hl; exact Option.some.inj hl ▸ k3⟩
  obtain ⟨us, hus⟩ : ∃ us : List Value, us = (List.range G.length).map fun i => (w.cell? ⟨b, off + i, none⟩).getD (.bool true) := ⟨_, rfl⟩
  have hget : ∀ i, i < G.length → ∃ lv, us[i]? = some lv ∧ w.cell? ⟨b, off + i, none⟩ = some lv ∧ ∀ l, G[i]? = some l → IntsT w lv l := fun i hi => by
    obtain ⟨lv, k1, k2⟩ := key i hi
    exact ⟨lv, by rw [hus]; simp [hi, k1], k1, k2⟩
  have hul : us.length = G.length := by rw [hus]; simp
  obtain ⟨v', w', a1, a2, a3⟩ := (rows_own_nil w w.heap.size).app (a := ⟨b, off, none⟩) (m := G.length) (c := c) (news := us) (H := G) (Nat.le_refl _) rfl hul (fun j u hu => by
    have hj := (List.getElem?_eq_some_iff.1 hu).1
    obtain ⟨lv, k1, k2, _⟩ := hget j (by omega)
    rw [hu] at k1
    have := Option.some.inj k1
    subst this
    rw [← k2]
    congr 1
    unfold Addr.add
    split
    · next h => subst h; rfl
    · rfl) (fun i l hl => by
    obtain ⟨lv, k1, _, k3⟩ := hget i (List.getElem?_eq_some_iff.1 hl).1
    exact ⟨lv, k1, k3 l hl⟩) (by simp; omega)
  exact ⟨v', us, w', a1, by simpa using a2, a3.below (by simp [own, Value.ownBlock]) (Nat.le_refl _)⟩

theorem app_none (c : Nat) (w : World) : (Builtin.append_ #[24, 24] 24 #[.slice none 0 0, .slice none 0 c]).run Try.prog w = .ok (.slice none 0 0) w := by kernel_rfl
/-- ints copied behind nothing -/
theorem copy_ints {w : World} {v : Value} {l : List Int} (h : IntsT w v l) (hs : l.length ≤ 100000) :
    ∃ v' w', (Builtin.append_ #[24, 24] 24 #[.slice none 0 0, v]).run Try.prog w = .ok v' w' ∧ w'.ownsRow w.heap.size 3 1 v' l.length (l.map fun x => Value.int .i64 x) ∧ Below w.heap.size w w' := by
  obtain ⟨i0, hi, hz0, hz1, hz2⟩ := info_parts Try.info3
  obtain ⟨ao, c, b, off, rfl, h2, h3⟩ := h
  by_cases h0 : l.length = 0
  · have : l = [] := List.length_eq_zero_iff.1 h0
    subst this
    rcases ao with _ | a
    · refine ⟨.slice none 0 0, w, ?_, World.ownsRow_nil _ _ _ _, Below.refl _ _⟩
      exact app_none c w
    · obtain ⟨v', w', a1, a2, a3, _, _⟩ := run_append_own_at (P := Try.prog) w w.heap.size 24 24 3 i0 (.int .i64 0) 1 8 Try.underlying24 hi hz0 hz1 hz2 rfl (by decide) (.slice none 0 0) 0 [] (World.ownsRow_nil _ _ _ _)
        a 0 c [] rfl (by simp) (by simp) (by decide) (by omega) (Nat.le_refl _)
      exact ⟨v', w', a1, a2, ((Below.refl _ w)).grown a3 (Nat.le_refl _) (fun k e => by simp [Value.ownBlock] at e)⟩
  · obtain ⟨x, hx⟩ : ∃ x, l[0]? = some x := ⟨_, List.getElem?_eq_getElem (by omega)⟩
    obtain ⟨rfl, _⟩ := h3 0 x hx
    obtain ⟨v', w', a1, a2, a3, _, _⟩ := run_append_own_at (P := Try.prog) w w.heap.size 24 24 3 i0 (.int .i64 0) 1 8 Try.underlying24 hi hz0 hz1 hz2 rfl (by decide) (.slice none 0 0) 0 [] (World.ownsRow_nil _ _ _ _)
      ⟨b, off, none⟩ l.length c (l.map fun x => Value.int .i64 x) (by simp) (fun j u hu => by
        rw [List.getElem?_map, Option.map_eq_some_iff] at hu
        obtain ⟨y, hy, rfl⟩ := hu
        obtain ⟨_, k2, _⟩ := h3 j y hy
        rw [← k2]
        congr 1
        unfold Addr.add
        split
        · next h => subst h; rfl
        · rfl) (fun u hu => by obtain ⟨y, _, rfl⟩ := List.mem_map.1 hu; rfl) (by unfold maxLen; omega) (by omega) (Nat.le_refl _)
    exact ⟨v', w', a1, by simpa using a2, ((Below.refl _ w)).grown a3 (Nat.le_refl _) (fun k e => by simp [Value.ownBlock] at e)⟩

end Go.Proofs.Ytagfgbmaibadjaa
