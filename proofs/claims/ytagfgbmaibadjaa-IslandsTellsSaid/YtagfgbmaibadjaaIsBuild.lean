/- Graphs that the laws build row by row. -/
import Derived.Test.YtagfgbmaibadjaaIsOf
import Derived.Test.YtagfgbmaibadjaaIsEx
import Derived.Test.YtagfgbmaibadjaaIsLow
namespace Go.Proofs.Ytagfgbmaibadjaa
open Go.RowKit Go.Lib

/-- some ints more on a row of the call's own -/
theorem app_ints {w : World} {B : Nat} {ov : Value} {m : Nat} {xs : List Value} (h : w.ownsRow B 3 1 ov m xs) (hB : B ≤ w.heap.size) (hm : m ≤ 1000000) (news : List Nat) (hn : news.length ≤ 1000) (h0 : 0 < news.length) :
    ∃ a c w2, (Builtin.append_ #[24, 24] 24 #[ov, .slice (some ⟨w.heap.size, 0, none⟩) news.length news.length]).run Try.prog (w.alloc (.cells (natCells news).toArray 3)) = .ok (.slice a (m + news.length) c) w2 ∧
      w2.ownsRow B 3 1 (.slice a (m + news.length) c) (m + news.length) (xs ++ natCells news) ∧ Chg (own ov) w w2 ∧ ∀ g, (Value.slice a (m + news.length) c).ownBlock = some g → ov.ownBlock = some g ∨ w.heap.size ≤ g := by
  obtain ⟨i0, hi, hz0, hz1, hz2⟩ := info_parts Try.info3
  obtain ⟨v', w2, h1, h2, h3, _, h5⟩ := run_append_own_at (P := Try.prog) (w.alloc (.cells (natCells news).toArray 3)) B 24 24 3 i0 (.int .i64 0) 1 8 Try.underlying24 hi hz0 hz1 hz2 rfl (by decide) ov m xs (h.alloc _)
    ⟨w.heap.size, 0, none⟩ news.length news.length (natCells news) (by simp [natCells]) (fun j u hu => by
      rw [add_zero_off, Nat.zero_add]
      exact cell_of (heap_alloc_new w _) (by rw [List.getElem?_toArray]; exact hu)) (by intro u hu; simp only [natCells, List.mem_map] at hu; obtain ⟨x, _, rfl⟩ := hu; rfl) (by unfold maxLen; omega) (by omega) (by simp; omega)
  obtain ⟨a, c, rfl, _⟩ := ownsRow_view h2
  refine ⟨a, c, w2, h1, h2, ((Chg.refl _ w).alloc _).grown h3 (fun k hk => .inl (by simp [own, hk])), fun g hg => ?_⟩
  rcases h5 with h5 | h5
  · exact .inl (h5 ▸ hg)
  · rw [hg] at h5
    simp only [Option.some.injEq, World.size_alloc] at h5
    exact .inr (by omega)

theorem Rows3.apps {w : World} {B N i : Nat} {vs : Nat → Value} {xs : Nat → List Nat} {F : List Nat} (R : Rows3 w B N vs xs F) (hi : i < N) (hB : B ≤ w.heap.size) (hl : (xs i).length ≤ 1000000) (hF : ∀ b ∈ F, b < w.heap.size) (news : List Nat) (hn : news.length ≤ 1000) (h0 : 0 < news.length) :
    ∃ a c w2, (Builtin.append_ #[24, 24] 24 #[vs i, .slice (some ⟨w.heap.size, 0, none⟩) news.length news.length]).run Try.prog (w.alloc (.cells (natCells news).toArray 3)) = .ok (.slice a ((xs i).length + news.length) c) w2 ∧
      Rows3 w2 B N (upd vs i (.slice a ((xs i).length + news.length) c)) (upd xs i (xs i ++ news)) F ∧ Chg (own (vs i)) w w2 := by
  obtain ⟨a, c, w2, h1, h2, h3, h4⟩ := app_ints (R.row i hi) hB hl news hn h0
  have lt : ∀ p, p < N → ∀ b, (vs p).ownBlock = some b → b < w.heap.size := fun p hp b hb => ((R.row p hp).lt b hb).2
  refine ⟨a, c, w2, h1, ⟨fun p hp => ?_, fun p hp b hb => ?_, fun p q hp hq hpq b hb hb' => ?_⟩, h3⟩
  · by_cases e : p = i
    · subst e
      rw [upd_same, upd_same, List.length_append, natCells, List.map_append]
      exact h2
    · rw [upd_far _ _ e, upd_far _ _ e]
      exact h3.owns (R.row p hp) (fun b hb hm => by
        simp only [Go.Proofs.Ytagfgbmaibadjaa.own, Option.mem_toList] at hm
        exact R.sep p i hp hi e b hb hm)
  · by_cases e : p = i
    · subst e
      rw [upd_same] at hb
      rcases h4 b hb with h | h
      · exact R.far p hp b h
      · intro hm; have := hF b hm; omega
    · rw [upd_far _ _ e] at hb
      exact R.far p hp b hb
  · by_cases e : p = i
    · subst e
      rw [upd_same] at hb
      rw [upd_far _ _ (Ne.symm hpq)] at hb'
      rcases h4 b hb with h | h
      · exact R.sep p q hp hq hpq b h hb'
      · have := lt q hq b hb'; omega
    · rw [upd_far _ _ e] at hb
      by_cases e2 : q = i
      · subst e2
        rw [upd_same] at hb'
        rcases h4 b hb' with h | h
        · exact R.sep p q hp hq hpq b hb h
        · have := lt p hp b hb; omega
      · rw [upd_far _ _ e2] at hb'
        exact R.sep p q hp hq hpq b hb hb'

/-- a row of slices stands behind a step that writes a row of ints of the law's own -/
theorem rowv_keep {w w2 : World} {b n B m : Nat} {f : Nat → Value} {v : Value} {xs : List Value} (hr : RowV w b n f) (ho : w.ownsRow B 3 1 v m xs) (c : Chg (own v) w w2) : RowV w2 b n f :=
  hr.chg c (fun hm => by
    simp only [own, Option.mem_toList] at hm
    obtain ⟨y, hy⟩ := owns_cells ho hm
    exact heap_ne hy hr (by decide) rfl)
theorem Rows3.stores {w : World} {B N b k n : Nat} {vs f : Nat → Value} {xs : Nat → List Nat} (R : Rows3 w B N vs xs []) (hr : RowV w b n f) (v : Value) : Rows3 (w.setCell ⟨b, k, none⟩ v) B N vs xs [] :=
  R.chg (G := [b]) ((Chg.refl _ w).setCell (by simp) _) (fun y hy => .inr (fun p hp e => by
    simp only [List.mem_singleton] at hy
    subst hy
    obtain ⟨cur, hc⟩ := owns_cells (R.row p hp) e
    exact heap_ne hc hr (by decide) rfl))

/-- rows below i as f says, row i as far as cur, none behind -/
def bld (f : Nat → List Nat) (i : Nat) (cur : List Nat) (p : Nat) : List Nat := if p < i then f p else if p = i then cur else []
theorem bld_self {f : Nat → List Nat} {i : Nat} {cur : List Nat} : bld f i cur i = cur := by simp [bld]
theorem bld_upd {f : Nat → List Nat} {i : Nat} {cur new : List Nat} : upd (bld f i cur) i new = bld f i new := by
  funext p
  unfold upd bld
  by_cases hp : p = i
  · subst hp; simp
  · simp [hp]
theorem bld_done {f : Nat → List Nat} {i : Nat} : bld f i (f i) = bld f (i + 1) [] := by
  funext p
  unfold bld
  by_cases h1 : p < i
  · rw [if_pos h1, if_pos (by omega)]
  · by_cases h2 : p = i
    · subst h2
      rw [if_neg h1, if_pos rfl, if_pos (by omega)]
    · rw [if_neg h1, if_neg h2, if_neg (by omega)]
      split <;> rfl
theorem bld_none {f : Nat → List Nat} : bld f 0 [] = fun _ => [] := by
  funext p
  unfold bld
  rw [if_neg (by omega)]
  split <;> rfl

def grOf (n : Nat) (f : Nat → List Nat) : Gr := (List.range n).map f
theorem grOf_length (n : Nat) (f : Nat → List Nat) : (grOf n f).length = n := by simp [grOf]
theorem grOf_edges {n : Nat} {f : Nat → List Nat} {i : Nat} (h : i < n) : edges (grOf n f) i = f i := by unfold edges grOf; simp [h]
theorem grOf_edge {n : Nat} {f : Nat → List Nat} {i j : Nat} : edge (grOf n f) i j ↔ i < n ∧ j ∈ f i := by
  unfold edge edges grOf
  by_cases h : i < n <;> simp [h]
theorem ofG_grOf (L : List (List Nat)) : ofG L = grOf (nodesOf L) (rowOf L) := rfl
theorem ofG_right (L : List (List Nat)) : rightB (castG (ofG L)) = true := by
  rw [right_iff, castG_length, ofG_length]
  refine ⟨by unfold nodesOf; omega, fun l hl x hx => ?_⟩
  unfold castG ofG at hl
  rw [List.map_map] at hl
  obtain ⟨i, hi, rfl⟩ := List.mem_map.1 hl
  simp only [List.mem_range] at hi
  simp only [Function.comp_apply] at hx
  obtain ⟨y, hy, rfl⟩ := List.mem_map.1 hx
  have := rowOf_lt hy (by omega)
  omega
theorem few_cast {g : Gr} {M : Nat} (h : ∀ l ∈ g, l.length ≤ M) (h2 : (g.length + 1) * M ≤ 1000000) : Few (castG g) := by
  refine ⟨M, fun l hl => ?_, by rw [castG_length]; exact h2⟩
  unfold castG at hl
  obtain ⟨l', hl', rfl⟩ := List.mem_map.1 hl
  rw [List.length_map]
  exact h l' hl'
theorem ofG_few (L : List (List Nat)) : Few (castG (ofG L)) := by
  refine few_cast (M := 8) (fun l hl => ?_) ?_
  · unfold ofG at hl
    obtain ⟨i, _, rfl⟩ := List.mem_map.1 hl
    exact rowOf_length L i
  · rw [ofG_length]
    have : nodesOf L ≤ 60 := by unfold nodesOf; omega
    omega
theorem right_cast {g : Gr} (R : RightG g) (hl : g.length ≤ 2000) : rightB (castG g) = true := by
  rw [right_iff, castG_length]
  refine ⟨hl, fun l hl x hx => ?_⟩
  unfold castG at hl
  obtain ⟨l', hl', rfl⟩ := List.mem_map.1 hl
  obtain ⟨y, hy, rfl⟩ := List.mem_map.1 hx
  obtain ⟨i, hi, e⟩ := List.getElem_of_mem hl'
  have := R i y (by unfold edge edges; rw [List.getElem?_eq_getElem hi, e]; exact hy)
  omega

/-- Parts on a graph of numbers -/
theorem parts_gr {w : World} {v : Value} {g : Gr} (h : RowsIn w v (castG g)) (R : RightG g) (hl : g.length ≤ 2000) (hF : Few (castG g)) :
    Calls Try.prog 13 #[v] w fun e w' => ∃ v' out, e = .returned (.tuple #[v', .int .i64 0]) ∧ IsParts g out ∧ RowsIn w' v' (castG out) ∧ Below w.heap.size w w' := by
  refine (parts_ok h (right_cast R hl) hF).mono ?_
  rintro e w' ⟨v', out, rfl, a1, a2, a3⟩
  rw [natG_cast] at a1
  exact ⟨v', out, rfl, a1, a2, a3⟩
theorem parts_gr_known {w : World} {v : Value} {g : Gr} {out0 : List (List Nat)} (h : RowsIn w v (castG g)) (R : RightG g) (hl : g.length ≤ 2000) (hF : Few (castG g)) (h0 : IsParts g out0) :
    Calls Try.prog 13 #[v] w fun e w' => ∃ v', e = .returned (.tuple #[v', .int .i64 0]) ∧ RowsIn w' v' (castG out0) ∧ Below w.heap.size w w' := by
  refine (parts_gr h R hl hF).mono ?_
  rintro e w' ⟨v', out, rfl, a1, a2, a3⟩
  have := isParts_unique R R rfl (fun i j _ _ => Iff.rfl) a1 h0
  subst this
  exact ⟨v', rfl, a2, a3⟩
theorem ofG_rightG (L : List (List Nat)) : RightG (ofG L) := by
  have := (right_nat (ofG_right L)).1
  rw [natG_cast] at this
  exact this
theorem below_low0 {A B : Nat} {w w' : World} (h : Below A w w') (hB : B ≤ A) : Below B w w' := ⟨h.os, h.tape, h.output, h.size, fun k hk => h.block k (by omega)⟩
theorem leads_same {g h : Gr} (he : ∀ i j, edge g i j ↔ edge h i j) (i j : Nat) : Leads g i j ↔ Leads h i j := by
  constructor
  · intro hl
    induction hl with
    | refl => exact .refl _
    | step e _ ih => exact .step ((he _ _).1 e) ih
  · intro hl
    induction hl with
    | refl => exact .refl _
    | step e _ ih => exact .step ((he _ _).2 e) ih

end Go.Proofs.Ytagfgbmaibadjaa
