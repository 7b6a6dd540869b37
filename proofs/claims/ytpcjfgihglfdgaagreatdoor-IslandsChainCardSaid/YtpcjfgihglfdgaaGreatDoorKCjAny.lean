/- islands.Parts on a graph of ints: what it answers; graphs laid into memory. Rows of rows of ints of the law's own: copies, one more row, one row turned. What Graph keeps while it goes; leaving a function behind several loops over functions. No condition. -/
import Derived.Test.YtpcjfgihglfdgaaGreatDoorKCjTail
import Derived.Test.YtpcjfgihglfdgaaGreatDoorKChForm
import Derived.Test.YtpcjfgihglfdgaaGreatDoorKChWalkB
import Derived.Test.YtpcjfgihglfdgaaGreatDoorKChThoseW

namespace Go.Proofs.YtpcjfgihglfdgaaGreatDoor.Isl
open Go.RowKit Go.Lib

def natG (G : List (List Int)) : Gr := G.map fun l => l.map Int.toNat
theorem natG_length (G : List (List Int)) : (natG G).length = G.length := by simp [natG]
theorem natG_edges (G : List (List Int)) (i : Nat) : edges (natG G) i = ((G[i]?).getD []).map Int.toNat := by
  unfold edges natG
  rw [List.getElem?_map]
  cases G[i]? <;> rfl
theorem natG_cast (g : Gr) : natG (castG g) = g := by
  unfold natG castG
  rw [List.map_map]
  have : ((fun l => List.map Int.toNat l) ∘ fun l => List.map (fun (x : Nat) => (x : Int)) l) = (id : List Nat → List Nat) := by
    funext l
    simp only [Function.comp_apply, List.map_map, id]
    have : (Int.toNat ∘ fun (x : Nat) => (x : Int)) = id := by funext x; simp
    rw [this, List.map_id]
  rw [this, List.map_id]

theorem right_iff (G : List (List Int)) : rightB G = true ↔ G.length ≤ 2000 ∧ ∀ l ∈ G, ∀ x ∈ l, 0 ≤ x ∧ x < (G.length : Int) := by
  unfold rightB badGraph
  simp only [Bool.and_eq_true, decide_eq_true_eq, Bool.not_eq_true', List.any_eq_false]
  refine and_congr_right fun _ => forall_congr' fun l => forall_congr' fun _ => ?_
  unfold badRow
  rw [List.any_eq_true]
  constructor
  · intro h x hx
    have h1 : ¬ badX G.length x = true := fun hb => h ⟨x, hx, hb⟩
    unfold badX at h1
    simp only [Bool.or_eq_true, decide_eq_true_eq, not_or] at h1
    omega
  · rintro h ⟨x, hx, hb⟩
    have := h x hx
    unfold badX at hb
    simp only [Bool.or_eq_true, decide_eq_true_eq] at hb
    omega
theorem right_nat {G : List (List Int)} (h : rightB G = true) : RightG (natG G) ∧ castG (natG G) = G ∧ G.length ≤ 2000 := by
  obtain ⟨h1, h2⟩ := (right_iff G).1 h
  refine ⟨fun i j hj => ?_, ?_, h1⟩
  · rw [natG_length]
    unfold edge at hj
    rw [natG_edges] at hj
    obtain ⟨x, hx, rfl⟩ := List.mem_map.1 hj
    cases hl : G[i]? with
    | none => rw [hl] at hx; simp at hx
    | some l =>
      rw [hl] at hx
      have := h2 l (List.mem_of_getElem? hl) x hx
      omega
  · unfold castG natG
    rw [List.map_map]
    conv => rhs; rw [← List.map_id G]
    refine List.map_congr_left (fun l hl => ?_)
    simp only [Function.comp_apply, List.map_map, id]
    conv => rhs; rw [← List.map_id l]
    refine List.map_congr_left (fun x hx => ?_)
    have := h2 l hl x hx
    simp only [Function.comp_apply, id]
    omega

/-- few edges: so many that no row outgrows its room -/
def Few (G : List (List Int)) : Prop := ∃ M, (∀ l ∈ G, l.length ≤ M) ∧ (G.length + 1) * M ≤ 1000000

def PartsOk (w : World) (G : List (List Int)) (e : Ending) (w' : World) : Prop := ∃ v out, e = .returned (.tuple #[v, .int .i64 0]) ∧ IsParts (natG G) out ∧ RowsIn w' v (castG out) ∧ Below w.heap.size w w'
theorem parts_ok {w : World} {v : Value} {G : List (List Int)} (h : RowsIn w v G) (hr : rightB G = true) (hM : Few G) : Calls Tryz.prog 7 #[v] w (PartsOk w G) := by
  obtain ⟨h1, h2, h3⟩ := right_nat hr
  obtain ⟨M, m1, m2⟩ := hM
  have h' := h
  rw [← h2] at h'
  refine (parts_right w v (natG G) h' (M := M) h1 (by rw [natG_length]; exact h3) (fun k => ?_) (by rw [natG_length]; exact m2)).mono ?_
  · rw [natG_edges, List.length_map]
    cases hl : G[k]? with
    | none => simp
    | some l => exact m1 l (List.mem_of_getElem? hl)
  · rintro e w' ⟨v', out, rfl, a1, a2, a3⟩
    exact ⟨v', out, rfl, a1, a2, a3⟩
theorem parts_known {w : World} {v : Value} {G : List (List Int)} {out0 : List (List Nat)} (h : RowsIn w v G) (hr : rightB G = true) (hM : Few G) (h0 : IsParts (natG G) out0) :
    Calls Tryz.prog 7 #[v] w fun e w' => ∃ v', e = .returned (.tuple #[v', .int .i64 0]) ∧ RowsIn w' v' (castG out0) ∧ Below w.heap.size w w' := by
  refine (parts_ok h hr hM).mono ?_
  rintro e w' ⟨v', out, rfl, a1, a2, a3⟩
  have h1 := (right_nat hr).1
  have := isParts_unique h1 h1 rfl (fun i j _ _ => Iff.rfl) a1 h0
  subst this
  exact ⟨v', rfl, a2, a3⟩
theorem parts_no {w : World} {v : Value} {G : List (List Int)} (h : RowsIn w v G) (hr : rightB G = false) :
    Calls Tryz.prog 7 #[v] w fun e w' => e = .returned (.tuple #[.slice none 0 0, .int .i64 130]) ∧ Below w.heap.size w w' := parts_bad w v G h hr

theorem ints_lit {y : World} {b : Nat} {l : List Int} {xs : List Value} {n : Nat} (h : y.heap[b]? = some (.cells xs.toArray 3 (0, 0))) (hx : xs = l.map fun x => Value.int .i64 x) (hn : n = l.length) (hs : l.all (fun x => decide (-1000000 ≤ x) && decide (x ≤ 1000000)) = true) (hl : l.length ≤ 1000) : IntsIn y (.slice (some ⟨b, 0, none⟩) n n) l := by
  subst hx hn
  refine ⟨_, l.length, b, 0, rfl, by omega, fun j x hj => ⟨rfl, ?_, ?_⟩⟩
  · rw [Nat.zero_add]
    exact cell_of h (by simp [hj])
  · have := List.all_eq_true.1 hs x (List.mem_of_getElem? hj)
    simp only [Bool.and_eq_true, decide_eq_true_eq] at this
    omega
theorem ints_nil (y : World) : IntsIn y (.slice none 0 0) [] := ⟨none, 0, 0, 0, rfl, by simp, by simp⟩
theorem rows_lit {y : World} {b n : Nat} {vs : List Value} {G : List (List Int)} (h : y.heap[b]? = some (.cells vs.toArray 42 (0, 0))) (hn : n = G.length) (hl : G.length ≤ 1000) (hv : ∀ (i : Nat) (l : List Int), G[i]? = some l → ∃ lv, vs[i]? = some lv ∧ IntsIn y lv l) : RowsIn y (.slice (some ⟨b, 0, none⟩) n n) G := by
  subst hn
  refine ⟨_, G.length, b, 0, rfl, by omega, fun i l hi => ⟨rfl, ?_⟩⟩
  obtain ⟨lv, h1, h2⟩ := hv i l hi
  exact ⟨lv, by rw [Nat.zero_add]; exact cell_of h (by simp [h1]), h2⟩
theorem rows1 {y : World} {b : Nat} {v0 : Value} {l0 : List Int} (h : y.heap[b]? = some (.cells #[v0] 42 (0, 0))) (h0 : IntsIn y v0 l0) : RowsIn y (.slice (some ⟨b, 0, none⟩) 1 1) [l0] :=
  rows_lit (vs := [v0]) h rfl (by simp) (fun i l hi => by
    rcases i with _ | i
    · simp at hi; subst hi; exact ⟨_, rfl, h0⟩
    · simp at hi)
theorem rows2 {y : World} {b : Nat} {v0 v1 : Value} {l0 l1 : List Int} (h : y.heap[b]? = some (.cells #[v0, v1] 42 (0, 0))) (h0 : IntsIn y v0 l0) (h1 : IntsIn y v1 l1) : RowsIn y (.slice (some ⟨b, 0, none⟩) 2 2) [l0, l1] :=
  rows_lit (vs := [v0, v1]) h rfl (by simp) (fun i l hi => by
    rcases i with _ | _ | i
    · simp at hi; subst hi; exact ⟨_, rfl, h0⟩
    · simp at hi; subst hi; exact ⟨_, rfl, h1⟩
    · simp at hi)
theorem rows3 {y : World} {b : Nat} {v0 v1 v2 : Value} {l0 l1 l2 : List Int} (h : y.heap[b]? = some (.cells #[v0, v1, v2] 42 (0, 0))) (h0 : IntsIn y v0 l0) (h1 : IntsIn y v1 l1) (h2 : IntsIn y v2 l2) : RowsIn y (.slice (some ⟨b, 0, none⟩) 3 3) [l0, l1, l2] :=
  rows_lit (vs := [v0, v1, v2]) h rfl (by simp) (fun i l hi => by
    rcases i with _ | _ | _ | i
    · simp at hi; subst hi; exact ⟨_, rfl, h0⟩
    · simp at hi; subst hi; exact ⟨_, rfl, h1⟩
    · simp at hi; subst hi; exact ⟨_, rfl, h2⟩
    · simp at hi)
theorem ints1 {y : World} {b : Nat} {x : Int} (h : y.heap[b]? = some (.cells #[.int .i64 x] 3 (0, 0))) (h1 : -1000000 ≤ x ∧ x ≤ 1000000) : IntsIn y (.slice (some ⟨b, 0, none⟩) 1 1) [x] :=
  ints_lit (xs := [.int .i64 x]) h rfl rfl (by simp [h1.1, h1.2]) (by simp)
theorem ints2 {y : World} {b : Nat} {x x2 : Int} (h : y.heap[b]? = some (.cells #[.int .i64 x, .int .i64 x2] 3 (0, 0))) (h1 : -1000000 ≤ x ∧ x ≤ 1000000) (h2 : -1000000 ≤ x2 ∧ x2 ≤ 1000000) : IntsIn y (.slice (some ⟨b, 0, none⟩) 2 2) [x, x2] :=
  ints_lit (xs := [.int .i64 x, .int .i64 x2]) h rfl rfl (by simp [h1.1, h1.2, h2.1, h2.2]) (by simp)

end Go.Proofs.YtpcjfgihglfdgaaGreatDoor.Isl

namespace Go.Proofs.YtpcjfgihglfdgaaGreatDoor.Isl
open Go.RowKit Go.Lib

/-- a slice of ints whose cells lie in a block of ints -/
def IntsT (w : World) (v : Value) (xs : List Int) : Prop :=
  ∃ ao c b off, v = .slice ao xs.length c ∧ xs.length ≤ 9223372036854775807 ∧ ∀ (j : Nat) (x : Int), xs[j]? = some x → ao = some ⟨b, off, none⟩ ∧ w.cell? ⟨b, off + j, none⟩ = some (.int .i64 x) ∧ (-9223372036854775808 ≤ x ∧ x ≤ 9223372036854775807) ∧ ∃ cs, w.heap[b]? = some (.cells cs 3 (0, 0))
def RowsT (w : World) (v : Value) (G : List (List Int)) : Prop :=
  ∃ ao c b off, v = .slice ao G.length c ∧ G.length ≤ 9223372036854775807 ∧ ∀ (i : Nat) (l : List Int), G[i]? = some l → ao = some ⟨b, off, none⟩ ∧ ∃ lv, w.cell? ⟨b, off + i, none⟩ = some lv ∧ IntsT w lv l

theorem IntsT.ints {w : World} {v : Value} {xs : List Int} (h : IntsT w v xs) : IntsIn w v xs := by
  obtain ⟨ao, c, b, off, h1, h2, h3⟩ := h
  exact ⟨ao, c, b, off, h1, h2, fun j x hx => ⟨(h3 j x hx).1, (h3 j x hx).2.1, (h3 j x hx).2.2.1⟩⟩
theorem RowsT.rows {w : World} {v : Value} {G : List (List Int)} (h : RowsT w v G) : RowsIn w v G := by
  obtain ⟨ao, c, b, off, h1, h2, h3⟩ := h
  refine ⟨ao, c, b, off, h1, h2, fun i l hl => ⟨(h3 i l hl).1, ?_⟩⟩
  obtain ⟨lv, h4, h5⟩ := (h3 i l hl).2
  exact ⟨lv, h4, h5.ints⟩
theorem IntsT.view {w : World} {v : Value} {xs : List Int} (h : IntsT w v xs) : ∃ ao c, v = .slice ao xs.length c := by
  obtain ⟨ao, c, _, _, h1, _⟩ := h
  exact ⟨ao, c, h1⟩
theorem intsT_nil (w : World) : IntsT w (.slice none 0 0) [] := ⟨none, 0, 0, 0, rfl, by simp, by simp⟩

/-- of the blocks that were there, F's are rows of slices -/
def Rowy (F : List Nat) (w : World) : Prop := ∀ b ∈ F, ∀ cs, w.heap[b]? ≠ some (.cells cs 3 (0, 0))
theorem IntsT.chg {F : List Nat} {w w' : World} {v : Value} {xs : List Int} (h : IntsT w v xs) (c : Chg F w w') (hF : Rowy F w) : IntsT w' v xs := by
  obtain ⟨ao, cc, b, off, h1, h2, h3⟩ := h
  refine ⟨ao, cc, b, off, h1, h2, fun j x hx => ?_⟩
  obtain ⟨k1, k2, k3, cs, k4⟩ := h3 j x hx
  have hb : b ∉ F := fun hm => hF b hm cs k4
  exact ⟨k1, c.cell k2 hb, k3, cs, c.heap k4 hb⟩
theorem IntsT.below {w w' : World} {v : Value} {xs : List Int} (h : IntsT w v xs) (hb : Below w.heap.size w w') : IntsT w' v xs := h.chg (F := []) (Chg.of_below hb) (fun b hm => by simp at hm)
theorem RowsT.below {w w' : World} {v : Value} {G : List (List Int)} (h : RowsT w v G) (hb : Below w.heap.size w w') : RowsT w' v G := by
  obtain ⟨ao, c, b, off, h1, h2, h3⟩ := h
  refine ⟨ao, c, b, off, h1, h2, fun i l hl => ⟨(h3 i l hl).1, ?_⟩⟩
  obtain ⟨lv, h4, h5⟩ := (h3 i l hl).2
  exact ⟨lv, (hb.cell (World.block_lt_of_cell? _ _ h4)).trans h4, h5.below hb⟩

theorem owns_intsT {w : World} {B : Nat} {v : Value} {l : List Int} (h : w.ownsRow B 3 1 v l.length (l.map fun x => Value.int .i64 x)) (hs : ∀ x ∈ l, -9223372036854775808 ≤ x ∧ x ≤ 9223372036854775807) : IntsT w v l := by
  obtain ⟨_, _, _, e3⟩ := ownsRow_view h
  unfold maxLen at e3
  rcases h.2 with ⟨rfl, h0⟩ | ⟨ub, ucap, ucur, rfl, _, hg, _⟩
  · have : l = [] := List.length_eq_zero_iff.1 h0
    subst this
    exact intsT_nil w
  · have hc2 := h.cells (g := ub) rfl
    refine ⟨_, ucap, ub, 0, rfl, by omega, fun j x hx => ⟨rfl, ?_, hs x (List.mem_of_getElem? hx), ucur, hg⟩⟩
    have := hc2 j (.int .i64 x) (by simp [hx])
    rw [add_zero_off] at this
    exact this

/-- a row of rows of the law's own -/
structure RowsOwn (w : World) (L : Nat) (v : Value) (us : List Value) (G : List (List Int)) : Prop where
  row : w.ownsRow L 42 1 v G.length us
  each : ∀ (i : Nat) (l : List Int), G[i]? = some l → ∃ u, us[i]? = some u ∧ IntsT w u l

section
variable {w w' : World} {L : Nat} {v : Value} {us : List Value} {G : List (List Int)}
theorem RowsOwn.rows (R : RowsOwn w L v us G) : RowsT w v G := by
  obtain ⟨_, _, _, e3⟩ := ownsRow_view R.row
  unfold maxLen at e3
  rcases R.row.2 with ⟨rfl, h0⟩ | ⟨gb, cap, cur, rfl, _⟩
  · have : G = [] := List.length_eq_zero_iff.1 h0
    subst this
    exact ⟨none, 0, 0, 0, rfl, by simp, by simp⟩
  · have hcl := R.row.cells (g := gb) rfl
    refine ⟨_, cap, gb, 0, rfl, by omega, fun i l hl => ⟨rfl, ?_⟩⟩
    obtain ⟨u, h1, h2⟩ := R.each i l hl
    have := hcl i u h1
    rw [add_zero_off] at this
    exact ⟨u, this, h2⟩
theorem RowsOwn.chg {F : List Nat} (R : RowsOwn w L v us G) (c : Chg F w w') (hF : Rowy F w) (hv : ∀ b ∈ own v, b ∉ F) : RowsOwn w' L v us G :=
  ⟨c.owns R.row (fun b hb => hv b (by simp [own, hb])), fun i l hl => by
    obtain ⟨u, h1, h2⟩ := R.each i l hl
    exact ⟨u, h1, h2.chg c hF⟩⟩
theorem RowsOwn.below (R : RowsOwn w L v us G) (hb : Below w.heap.size w w') : RowsOwn w' L v us G := R.chg (F := []) (Chg.of_below hb) (fun b hm => by simp at hm) (by simp)
theorem RowsOwn.rowy (R : RowsOwn w L v us G) : Rowy (own v) w := fun b hb cs h => by
  simp only [own, Option.mem_toList] at hb
  obtain ⟨y, hy⟩ := owns_cells R.row hb
  exact heap_ne hy h (by decide) rfl

theorem rows_own_nil (w : World) (L : Nat) : RowsOwn w L (.slice none 0 0) [] [] := ⟨World.ownsRow_nil _ _ _ _, by simp⟩

/-- rows put behind rows of the law's own -/
theorem RowsOwn.app {a : Addr} {m c : Nat} {news : List Value} {H : List (List Int)} (R : RowsOwn w L v us G) (hL : L ≤ w.heap.size) (hm : m = H.length) (hl : news.length = m) (hn : ∀ (j : Nat) (u : Value), news[j]? = some u → w.cell? (a.add j) = some u)
    (hi : ∀ (i : Nat) (l : List Int), H[i]? = some l → ∃ u, news[i]? = some u ∧ IntsT w u l) (hs : G.length + m ≤ 100000) :
    ∃ v' w', (Builtin.append_ #[30, 30] 30 #[v, .slice (some a) m c]).run Tryz.prog w = .ok v' w' ∧ RowsOwn w' L v' (us ++ news) (G ++ H) ∧ Chg (own v) w w' := by
  obtain ⟨i0, hi0, hz0, hz1, hz2⟩ := info_parts infoT24
  obtain ⟨v', w', h1, h2, h3, _, h5⟩ := run_append_own_at (P := Tryz.prog) w L 30 30 42 i0 (.slice none 0 0) 1 24 Tryz.underlying30 hi0 hz0 hz1 hz2 rfl (by decide) v G.length us R.row
    a m c news (by omega) hn (fun u hu => by
      obtain ⟨i, hil, e⟩ := List.getElem_of_mem hu
      obtain ⟨u', e1, e2⟩ := hi i (H[i]'(by omega)) (List.getElem?_eq_getElem (by omega))
      rw [List.getElem?_eq_getElem hil, e] at e1
      have := Option.some.inj e1
      subst this
      obtain ⟨_, _, e3⟩ := e2.view
      rw [e3]; rfl) (by unfold maxLen; omega) (by omega) hL
  have ch : Chg (own v) w w' := (Chg.refl _ w).grown h3 (fun k hk => .inl (by simp [own, hk]))
  refine ⟨v', w', h1, ⟨by rw [List.length_append, ← hm]; exact h2, fun i l hil => ?_⟩, ch⟩
  have hlen : us.length = G.length := by have := R.row.1; omega
  by_cases hk : i < G.length
  · rw [List.getElem?_append_left hk] at hil
    obtain ⟨u, e1, e2⟩ := R.each i l hil
    exact ⟨u, by rw [List.getElem?_append_left (by omega)]; exact e1, e2.chg ch R.rowy⟩
  · rw [List.getElem?_append_right (by omega)] at hil
    obtain ⟨u, e1, e2⟩ := hi _ l hil
    exact ⟨u, by rw [List.getElem?_append_right (by omega), hlen]; exact e1, e2.chg ch R.rowy⟩

/-- one row more: laid into a block of its own first -/
theorem RowsOwn.push {u : Value} {l : List Int} (R : RowsOwn w L v us G) (hL : L ≤ w.heap.size) (hu : IntsT w u l) (hs : G.length ≤ 10000) :
    ∃ v' w', (Builtin.append_ #[30, 30] 30 #[v, .slice (some ⟨w.heap.size, 0, none⟩) 1 1]).run Tryz.prog (w.alloc (.cells #[u] 42)) = .ok v' w' ∧ RowsOwn w' L v' (us ++ [u]) (G ++ [l]) ∧ Chg (own v) w w' := by
  have ca : Chg [] w (w.alloc (.cells #[u] 42)) := (Chg.refl _ w).alloc _
  obtain ⟨v', w', h1, h2, h3⟩ := (R.chg ca (fun b hm => by simp at hm) (by simp)).app (a := ⟨w.heap.size, 0, none⟩) (m := 1) (c := 1) (news := [u]) (H := [l]) (by simp; omega) rfl rfl (cell_one_new2 rfl _ _) (fun i l' hl => by
    rcases i with _ | i
    · simp at hl; subst hl; exact ⟨_, rfl, hu.chg ca (fun b hm => by simp at hm)⟩
    · simp at hl) (by omega)
  exact ⟨v', w', h1, h2, (ca.mono (by simp)).trans h3 (fun b hb => .inl hb)⟩

end

end Go.Proofs.YtpcjfgihglfdgaaGreatDoor.Isl

namespace Go.Proofs.YtpcjfgihglfdgaaGreatDoor
open Go.RowKit Go.Lib Go.Maps

/-- a mark among the deferred calls -/
abbrev markOf (D : Nat) : Deferred := { target := .collected D, args := #[] }
/-- the blocks of the marks hold no call -/
def MarksIn (w : World) (B : Nat) (Ds : List Nat) : Prop := Ds.Nodup ∧ ∀ D ∈ Ds, B ≤ D ∧ w.heap[D]? = some (.deferred (some []))
theorem MarksIn.nil (w : World) (B : Nat) : MarksIn w B [] := ⟨List.nodup_nil, by simp⟩
theorem MarksIn.chg {w w' : World} {B : Nat} {Ds F : List Nat} (h : MarksIn w B Ds) (hc : Chg F w w') (hF : ∀ x ∈ F, x ∉ Ds) : MarksIn w' B Ds :=
  ⟨h.1, fun D hD => ⟨(h.2 D hD).1, hc.heap (h.2 D hD).2 (fun hm => hF D hm hD)⟩⟩
theorem MarksIn.below {w w' : World} {B : Nat} {Ds : List Nat} (h : MarksIn w B Ds) (hb : Below w.heap.size w w') : MarksIn w' B Ds := h.chg (F := []) (Chg.of_below hb) (by simp)
theorem MarksIn.push {w : World} {B D : Nat} {Ds : List Nat} (h : MarksIn w B Ds) (hD : B ≤ D) (hd : w.heap[D]? = some (.deferred (some []))) (hn : D ∉ Ds) : MarksIn w B (D :: Ds) :=
  ⟨List.nodup_cons.2 ⟨hn, h.1⟩, fun x hx => by
    rcases List.mem_cons.1 hx with rfl | hx
    · exact ⟨hD, hd⟩
    · exact h.2 x hx⟩
theorem leaves_marks {n : Nat} {fn : Func} {tmps : Array Value} {R : Ending → World → Prop} {B : Nat} {v : Value} : ∀ {Ds : List Nat} {w : World}, MarksIn w B Ds → B ≤ w.heap.size →
    (∀ w', Below B w w' → (∀ x, x ∉ Ds → x < w.heap.size → w'.heap[x]? = w.heap[x]?) → (results fn tmps).run Tryz.prog w' = .ok v w' ∧ R (.returned v) w') → LeavesInM Fence.wide n Tryz.prog fn tmps R (Ds.map markOf) .returning w
  | [], w, _, _, h => by
    obtain ⟨h1, h2⟩ := h w (Below.refl _ _) (fun _ _ _ => rfl)
    exact ⟨v, h1, h2⟩
  | D :: Ds, w, hm, hB, h => by
    have hd := (hm.2 D (by simp)).2
    have hBD := (hm.2 D (by simp)).1
    have hc := put_chg w D (.deferred none)
    refine ⟨by simp, .inl ⟨D, _, rfl, run_takeDeferred hd, ?_⟩⟩
    have hnd := List.nodup_cons.1 hm.1
    refine leaves_marks (B := B) (v := v) (Ds := Ds) ⟨hnd.2, fun x hx => ⟨(hm.2 x (by simp [hx])).1, hc.heap (hm.2 x (by simp [hx])).2 (by simp; rintro rfl; exact hnd.1 hx)⟩⟩ (Nat.le_trans hB hc.size) (fun w' hb hk => ?_)
    refine h w' ((hc.below (B := B) (by simpa using hBD) hB).trans hb) (fun x hx hl => ?_)
    have h1 : x ≠ D := fun e => hx (by simp [e])
    have h2 : x ∉ Ds := fun e => hx (by simp [e])
    rw [hk x h2 (Nat.lt_of_lt_of_le hl hc.size)]
    exact hc.block x hl (by simpa using h1)

theorem intC_map (l : List Int) : l.flatMap intC = l.map fun x => Value.int .i64 x := by
  induction l with
  | nil => rfl
  | cons x r ih => rw [List.flatMap_cons, ih]; rfl
theorem IntOwn.intsT {w : World} {B : Nat} {v : Value} {l : List Int} (h : IntOwn w B v l) (hs : ∀ x ∈ l, -9223372036854775808 ≤ x ∧ x ≤ 9223372036854775807) : Isl.IntsT w v l :=
  Isl.owns_intsT (B := B) (by rw [← intC_map]; exact h) hs
theorem idsOf_small {r R j : Nat} (hj : j ≤ 1000) : ∀ x ∈ idsOf r R j, -9223372036854775808 ≤ x ∧ x ≤ 9223372036854775807 := by
  intro x hx
  simp [idsOf] at hx
  omega
/-- the numbers that the areas so far hand over -/
def preIds (k : Nat) : List (Int × Int) → List Int
  | [] => []
  | x :: _ => idsOf x.1.toNat x.2.toNat k
/-- a formula's one area, if it has one -/
def arL : Option (Nat × Nat) → List (Int × Int)
  | none => []
  | some (r, R) => [((r : Int), (R : Int))]
def edL (k : Nat) : Option (Nat × Nat) → List Int
  | none => []
  | some (r, R) => idsOf r R k
theorem preIds_ar (k : Nat) (a : Option (Nat × Nat)) : preIds k (arL a) = edL k a := by
  rcases a with _ | ⟨r, R⟩
  · rfl
  · simp [arL, preIds, edL]
/-- what holds between two rounds of the loop over a formula's areas: n: the heap's end as the round began; ob: the variable of what is read -/
structure Gs (w0 : World) (n ob D lp k : Nat) (rec : Loop) (pre : List (Int × Int)) (W : World) (v : Value) : Prop where
  low : Below n w0 W
  out : W.heap[ob]? = some (.cells #[v] 42 (0, 0))
  df : W.heap[D]? = some (.deferred (some []))
  loop : W.heap[lp]? = some (.loop rec)
  own : IntOwn W (lp + 1) v (preIds k pre)
  none : pre = [] → v = .slice none 0 0
theorem Gs.below {w0 W W' : World} {n ob D lp k : Nat} {rec : Loop} {pre : List (Int × Int)} {v : Value} (h : Gs w0 n ob D lp k rec pre W v) (hn : n ≤ W.heap.size) (hb : Below W.heap.size W W') : Gs w0 n ob D lp k rec pre W' v :=
  ⟨h.low.trans (hb.mono hn), (hb.block _ (heap_lt h.out)).trans h.out, (hb.block _ (heap_lt h.df)).trans h.df, (hb.block _ (heap_lt h.loop)).trans h.loop, h.own.below hb, h.none⟩

/-- what stands while Graph lays the formulas' cells into its index: n: the heap's end as it began; s: as it had found the formulas -/
structure Gp (w : World) (n s b9 b10 mn ib m1 m2 j k : Nat) (rs : Nat → Value) (cs : Array Value) (av nv : Value) (fo : Fo) (y : World) : Prop where
  bk : y.heap[n]? = some (.cells cs 39 (0, 0))
  c9 : y.heap[b9]? = some (.cells #[.map (some mn)] 54 (0, 0))
  c10 : y.heap[b10]? = some (.cells #[.pointer (some ⟨ib, 0, none⟩)] 55 (0, 0))
  num : ∃ M, MapV y 46 (.int .i64 0) placeV mn j M
  ix : Ix y ib m1 m2 y.heap.size j rs
  ats : AtsOwn y s av (placesN k)
  nds : KidsV y (s ≤ ·) nv fo
  low : Below n w y
  o1 : n < s ∧ b9 < s ∧ b10 < s ∧ mn < s ∧ ib < s ∧ m1 < s ∧ m2 < s
  o2 : mn ≠ m1 ∧ mn ≠ m2 ∧ n ≤ mn ∧ n ≤ m1 ∧ n ≤ m2
  o3 : s ≤ y.heap.size
section
variable {w y z : World} {n s b9 b10 mn ib m1 m2 j k : Nat} {rs : Nat → Value} {cs : Array Value} {av nv : Value} {fo : Fo}
theorem Gp.below (h : Gp w n s b9 b10 mn ib m1 m2 j k rs cs av nv fo y) (hb : Below y.heap.size y z) : Gp w n s b9 b10 mn ib m1 m2 j k rs cs av nv fo z := by
  obtain ⟨M, hM⟩ := h.num
  have := h.o1
  have := h.o3
  exact ⟨(hb.block _ (heap_lt h.bk)).trans h.bk, (hb.block _ (heap_lt h.c9)).trans h.c9, (hb.block _ (heap_lt h.c10)).trans h.c10, ⟨M, hM.below hb⟩, (h.ix.keep hb).mono hb.size (Nat.le_refl _), h.ats.below hb, h.nds.keep hb,
    h.low.trans (hb.mono (by omega)), h.o1, h.o2, Nat.le_trans h.o3 hb.size⟩
/-- behind the store into the map of numbers -/
theorem Gp.number (h : Gp w n s b9 b10 mn ib m1 m2 j k rs cs av nv fo y) (hg : y.grownBy z (some mn)) {M' : Int × Int × Int → Option Value} {j' : Nat} (_hM : MapV z 46 (.int .i64 0) placeV mn j' M') :
    z.heap[n]? = some (.cells cs 39 (0, 0)) ∧ z.heap[b9]? = some (.cells #[.map (some mn)] 54 (0, 0)) ∧ z.heap[b10]? = some (.cells #[.pointer (some ⟨ib, 0, none⟩)] 55 (0, 0)) ∧ Ix z ib m1 m2 z.heap.size j rs ∧ AtsOwn z s av (placesN k) ∧ KidsV z (s ≤ ·) nv fo ∧ Below n w z ∧ s ≤ z.heap.size := by
  have hc : Chg [mn] y z := (Chg.refl _ y).grown hg (fun x hx => .inl (by simpa using hx.symm))
  obtain ⟨M, hM0⟩ := h.num
  have ne : ∀ {x : Nat} {c : Array Value} {t : TypeId}, y.heap[x]? = some (.cells c t (0, 0)) → x ∉ [mn] := fun {x c t} hx => by simpa using cells_ne_map hM0 hx
  have o1 := h.o1
  have o2 := h.o2
  have o3 := h.o3
  refine ⟨hc.heap h.bk (ne h.bk), hc.heap h.c9 (ne h.c9), hc.heap h.c10 (ne h.c10), ?_, h.ats.chg hc (fun q hq hm => by simp only [List.mem_singleton] at hm; have := (h.ats.low _ hq).1; omega),
    h.nds.chg hc (fun x hx hB => by simp only [List.mem_singleton] at hx; omega), h.low.trans (hc.below (B := n) (by simp; omega) (by omega)), Nat.le_trans o3 hc.size⟩
  have X := h.ix
  refine ⟨hc.heap X.head (ne X.head), X.rows.chg hc (by simp; omega), X.areas.chg hc (by simp; omega), fun r hr => ?_, Nat.lt_of_lt_of_le X.ib' hc.size, Nat.lt_of_lt_of_le X.m1' hc.size, Nat.lt_of_lt_of_le X.m2' hc.size, X.ne, Nat.le_refl _⟩
  obtain ⟨b, c, cs', a1, a2, a3, a4⟩ := X.one r hr
  exact ⟨b, c, cs', a1, hc.heap a2 (ne a2), a3, Nat.lt_of_lt_of_le a4 hc.size⟩
/-- behind Put -/
theorem Gp.put {M' : Int × Int × Int → Option Value} (h1 : y.heap[n]? = some (.cells cs 39 (0, 0))) (h2 : y.heap[b9]? = some (.cells #[.map (some mn)] 54 (0, 0))) (h3 : y.heap[b10]? = some (.cells #[.pointer (some ⟨ib, 0, none⟩)] 55 (0, 0)))
    (hM : MapV y 46 (.int .i64 0) placeV mn (j + 1) M') (X : Ix y ib m1 m2 y.heap.size j rs) (ha : AtsOwn y s av (placesN k)) (hk : KidsV y (s ≤ ·) nv fo) (hl : Below n w y)
    (o1 : n < s ∧ b9 < s ∧ b10 < s ∧ mn < s ∧ ib < s ∧ m1 < s ∧ m2 < s) (o2 : mn ≠ m1 ∧ mn ≠ m2 ∧ n ≤ mn ∧ n ≤ m1 ∧ n ≤ m2) (o3 : s ≤ y.heap.size) (hp : PutEnd y ib m1 m2 j z) : ∃ rs', Gp w n s b9 b10 mn ib m1 m2 (j + 1) k rs' cs av nv fo z := by
  obtain ⟨rs', X', hc⟩ := hp
  have ne : ∀ {x : Nat} {c : Array Value} {t : TypeId}, y.heap[x]? = some (.cells c t (0, 0)) → x ∉ [m1, m2] := fun {x c t} hx => by
    have a := cells_ne_map X.rows hx
    have b := cells_ne_map X.areas hx
    simp [a, b]
  refine ⟨rs', hc.heap h1 (ne h1), hc.heap h2 (ne h2), hc.heap h3 (ne h3), ⟨M', hM.chg hc (by simp; omega)⟩, X', ha.chg hc (fun g hg hm => ?_), hk.chg hc (fun x hx hB => ?_), hl.trans (hc.below (B := n) (by simp; omega) (by omega)), o1, o2, Nat.le_trans o3 hc.size⟩
  · have := (ha.low _ hg).1
    simp at hm
    omega
  · simp at hx
    omega
end
end Go.Proofs.YtpcjfgihglfdgaaGreatDoor
