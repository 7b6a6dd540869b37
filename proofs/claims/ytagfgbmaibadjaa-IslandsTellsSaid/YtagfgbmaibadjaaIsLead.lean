/- Contract of the law's own leads: which nodes each node leads to, by one edge at least. -/
import Derived.Test.YtagfgbmaibadjaaIsPosW
import Derived.Test.YtagfgbmaibadjaaIsTimes
import Derived.Test.YtagfgbmaibadjaaIsPlainL
import Derived.Outline
namespace Go.Proofs.Ytagfgbmaibadjaa
open Go.RowKit Go.Lib

def LeadsP (g : Gr) (i x : Nat) : Prop := ∃ j, edge g i j ∧ Leads g j x
structure Dfs (g : Gr) (i : Nat) (f : Nat → Bool) (ws : List Nat) : Prop where
  f1 : ∀ x, f x = true → LeadsP g i x
  w1 : ∀ x ∈ ws, LeadsP g i x
  cl : ∀ x y, f x = true → edge g x y → f y = true ∨ y ∈ ws
  st : ∀ y, edge g i y → f y = true ∨ y ∈ ws
theorem dfs_start (g : Gr) (i : Nat) : Dfs g i (fun _ => false) (edges g i) := ⟨by simp, fun x hx => ⟨x, hx, .refl _⟩, by simp, fun y hy => .inr hy⟩
section
variable {g : Gr} {i x : Nat} {f : Nat → Bool} {ws : List Nat}
theorem Dfs.seen (D : Dfs g i f (ws ++ [x])) (h : f x = true) : Dfs g i f ws := by
  have key : ∀ y, (f y = true ∨ y ∈ ws ++ [x]) → (f y = true ∨ y ∈ ws) := fun y hy => by
    rcases hy with hy | hy
    · exact .inl hy
    · rw [List.mem_append, List.mem_singleton] at hy
      rcases hy with hy | rfl
      · exact .inr hy
      · exact .inl h
  exact ⟨D.f1, fun y hy => D.w1 y (by simp [hy]), fun a y h1 h2 => key y (D.cl a y h1 h2), fun y hy => key y (D.st y hy)⟩
theorem Dfs.mark (D : Dfs g i f (ws ++ [x])) : Dfs g i (upd f x true) (ws ++ edges g x) := by
  have hx := D.w1 x (by simp)
  have key : ∀ y, (f y = true ∨ y ∈ ws ++ [x]) → (upd f x true y = true ∨ y ∈ ws ++ edges g x) := fun y hy => by
    by_cases e : y = x
    · subst e; exact .inl (upd_same _ _ _)
    · rw [upd_far _ _ e]
      rcases hy with hy | hy
      · exact .inl hy
      · rw [List.mem_append, List.mem_singleton] at hy
        exact .inr (by simp [hy.resolve_right e])
  refine ⟨fun y hy => ?_, fun y hy => ?_, fun a y h1 h2 => ?_, fun y hy => key y (D.st y hy)⟩
  · by_cases e : y = x
    · subst e; exact hx
    · rw [upd_far _ _ e] at hy
      exact D.f1 y hy
  · rw [List.mem_append] at hy
    rcases hy with hy | hy
    · exact D.w1 y (by simp [hy])
    · obtain ⟨j, h1, h2⟩ := hx
      exact ⟨j, h1, h2.trans (.one hy)⟩
  · by_cases e : a = x
    · subst e
      exact .inr (by rw [List.mem_append]; exact .inr h2)
    · rw [upd_far _ _ e] at h1
      exact key y (D.cl a y h1 h2)
theorem Dfs.done (D : Dfs g i f []) : f x = true ↔ LeadsP g i x := by
  refine ⟨D.f1 x, ?_⟩
  rintro ⟨j, h1, h2⟩
  have hj : f j = true := by simpa using D.st j h1
  clear h1
  induction h2 with
  | refl => exact hj
  | step e _ ih => exact ih (by simpa using D.cl _ _ hj e)
end
open Classical in
noncomputable def reachB (g : Gr) (i x : Nat) : Bool := decide (LeadsP g i x)
theorem reachB_iff {g : Gr} {i x : Nat} : reachB g i x = true ↔ LeadsP g i x := by
  unfold reachB
  exact @decide_eq_true_iff _ (Classical.propDecidable _)
theorem Dfs.fin {g : Gr} {i : Nat} {f : Nat → Bool} (D : Dfs g i f []) : f = reachB g i := by
  funext x
  rw [Bool.eq_iff_iff, D.done, reachB_iff]

def cntF (f : Nat → Bool) (n : Nat) : Nat := (List.range n).countP fun x => !f x
theorem cntF_upd {f : Nat → Bool} {x : Nat} (h : f x = false) : ∀ n, cntF (upd f x true) n + (if x < n then 1 else 0) = cntF f n
  | 0 => by simp [cntF]
  | n + 1 => by
    have ih := cntF_upd h n
    unfold cntF at ih ⊢
    rw [List.range_succ, List.countP_append, List.countP_append, List.countP_singleton, List.countP_singleton]
    by_cases h1 : x < n
    · rw [if_pos h1] at ih
      rw [if_pos (by omega : x < n + 1), upd_far _ _ (by omega : n ≠ x)]
      omega
    · rw [if_neg h1] at ih
      by_cases h2 : n = x
      · subst h2
        rw [upd_same, h]
        simp
        omega
      · rw [if_neg (by omega : ¬ x < n + 1), upd_far _ _ h2]
        omega

/-- a row of bools -/
def RowB (w : World) (b n : Nat) (f : Nat → Bool) : Prop := w.heap[b]? = some (.cells ((List.range n).map fun i => Value.bool (f i)).toArray 4 (0, 0))
theorem RowB.get {w : World} {b n i : Nat} {f : Nat → Bool} (h : RowB w b n f) (hi : i < n) : w.cell? ⟨b, i, none⟩ = some (.bool (f i)) := cell_of h (by simp [hi])
theorem RowB.free {w : World} {b n i : Nat} {f : Nat → Bool} (h : RowB w b n f) : w.frozen? ⟨b, i, none⟩ = false := free_of h
theorem row_set {α : Type} {w : World} {b n k : Nat} {t : TypeId} {f : Nat → α} {c : α → Value} (h : w.heap[b]? = some (.cells ((List.range n).map fun i => c (f i)).toArray t (0, 0))) (v : α) :
    (w.setCell ⟨b, k, none⟩ (c v)).heap[b]? = some (.cells ((List.range n).map fun i => c (upd f k v i)).toArray t (0, 0)) := by
  have := heap_setCell_at (i := k) h (c v)
  rw [this]
  congr 2
  apply Array.ext'
  rw [Array.toList_setIfInBounds]
  apply List.ext_getElem?
  intro i
  simp only [List.getElem?_set, List.getElem?_map, List.length_map, List.length_range]
  by_cases e : k = i
  · subst e
    by_cases hk : k < n <;> simp [hk, upd]
  · simp only [if_neg e]
    by_cases hi : i < n
    · simp [hi, upd, Ne.symm e]
    · simp [hi]
theorem RowB.set {w : World} {b n k : Nat} {f : Nat → Bool} (h : RowB w b n f) (v : Bool) : RowB (w.setCell ⟨b, k, none⟩ (.bool v)) b n (upd f k v) := row_set (c := Value.bool) h v
theorem RowB.chg {w w' : World} {b n : Nat} {f : Nat → Bool} {F : List Nat} (h : RowB w b n f) (c : Chg F w w') (hb : b ∉ F) : RowB w' b n f := c.heap h hb
theorem RowB.below {w w' : World} {b n : Nat} {f : Nat → Bool} (h : RowB w b n f) (hb : Below w.heap.size w w') : RowB w' b n f := h.chg (F := []) (Chg.of_below hb) (by simp)
/-- a row of rows of bools -/
def RowX (w : World) (b n : Nat) (vs : Nat → Value) : Prop := w.heap[b]? = some (.cells ((List.range n).map vs).toArray 37 (0, 0))
theorem RowX.get {w : World} {b n i : Nat} {vs : Nat → Value} (h : RowX w b n vs) (hi : i < n) : w.cell? ⟨b, i, none⟩ = some (vs i) := cell_of h (by simp [hi])
theorem RowX.free {w : World} {b n i : Nat} {vs : Nat → Value} (h : RowX w b n vs) : w.frozen? ⟨b, i, none⟩ = false := free_of h
theorem RowX.set {w : World} {b n k : Nat} {vs : Nat → Value} (h : RowX w b n vs) (v : Value) : RowX (w.setCell ⟨b, k, none⟩ v) b n (upd vs k v) := row_set (c := fun v : Value => v) h v
theorem RowX.chg {w w' : World} {b n : Nat} {vs : Nat → Value} {F : List Nat} (h : RowX w b n vs) (c : Chg F w w') (hb : b ∉ F) : RowX w' b n vs := c.heap h hb
theorem RowX.below {w w' : World} {b n : Nat} {vs : Nat → Value} (h : RowX w b n vs) (hb : Below w.heap.size w w') : RowX w' b n vs := h.chg (F := []) (Chg.of_below hb) (by simp)

def isF : Option Value → Bool
  | some (.bool false) => true
  | _ => false
def unm (w : World) (b n : Nat) : Nat := (List.range n).countP fun x => isF (w.cell? ⟨b, x, none⟩)
theorem unm_of {w : World} {b n : Nat} {f : Nat → Bool} (h : RowB w b n f) : unm w b n = cntF f n := by
  unfold unm cntF
  refine List.countP_congr (fun x hx => ?_)
  simp only [List.mem_range] at hx
  rw [h.get hx]
  cases f x <;> simp [isF]

theorem Try.info4 : (Try.prog.info? 4).map (fun i => (i.zero, i.size, i.bytes)) = some (some (.bool false), 1, 1) := by kernel_rfl
theorem Try.info37 : (Try.prog.info? 37).map (fun i => (i.zero, i.size, i.bytes)) = some (some (.slice none 0 0), 1, 24) := by kernel_rfl
theorem make_bools (n : Nat) (h : n ≤ 100000) (u : World) : (Instr.makeSlice 37 (.int .i64 (n : Int)) (.int .i64 (n : Int))).run Try.prog u =
    .ok (.slice (some ⟨u.heap.size, 0, none⟩) n n) (u.alloc (.cells (List.replicate n (Value.bool false)).toArray 4)) := by
  obtain ⟨i0, hi, hz0, hz1, hz2⟩ := info_parts Try.info4
  have h := run_make (P := Try.prog) u 37 4 i0 (.bool false) Try.underlying37 hi hz0 .i64 .i64 (n : Int) (n : Int) (by omega) (Int.le_refl _) (by rw [hz2]; omega) (by omega)
  have e : madeCells #[Value.bool false] n = (List.replicate n (Value.bool false)).toArray := by
    apply Array.ext'
    rw [toList_madeCells_one]
  simpa [hz1, Value.cells, e] using h
theorem make_boolrows (n : Nat) (h : n ≤ 100000) (u : World) : (Instr.makeSlice 34 (.int .i64 (n : Int)) (.int .i64 (n : Int))).run Try.prog u =
    .ok (.slice (some ⟨u.heap.size, 0, none⟩) n n) (u.alloc (.cells (List.replicate n (Value.slice none 0 0)).toArray 37)) := by
  obtain ⟨i0, hi, hz0, hz1, hz2⟩ := info_parts Try.info37
  have h := run_make (P := Try.prog) u 34 37 i0 (.slice none 0 0) Try.underlying34 hi hz0 .i64 .i64 (n : Int) (n : Int) (by omega) (Int.le_refl _) (by rw [hz2]; omega) (by omega)
  have e : madeCells #[Value.slice none 0 0] n = (List.replicate n (Value.slice none 0 0)).toArray := by
    apply Array.ext'
    rw [toList_madeCells_one]
  simpa [hz1, Value.cells, e] using h

theorem app_none2 (w : World) (oa : Option Addr) (m oc c : Nat) (hc : m ≤ oc) : (Builtin.append_ #[24, 24] 24 #[.slice oa m oc, .slice none 0 c]).run Try.prog w = .ok (.slice oa m oc) w := by
  obtain ⟨i0, hi, _, _, _⟩ := info_parts Try.info3
  cases oa <;> simp [Builtin.append_, run_underlying Try.underlying24, sizeOf, typeInfo, hi, Builtin.lenOf, Builtin.firstCells, hc, storeCells]
/-- ints of a row put behind a row of the law's own -/
theorem app_row {w : World} {B : Nat} {ov : Value} {m : Nat} {xs : List Value} {v : Value} {l : List Nat} (h : w.ownsRow B 3 1 ov m xs) (hB : B ≤ w.heap.size) (hm : m ≤ 1000000) (hv : IntsT w v (l.map fun (x : Nat) => (x : Int))) (hl : l.length ≤ 100000) :
    ∃ v' w2, (Builtin.append_ #[24, 24] 24 #[ov, v]).run Try.prog w = .ok v' w2 ∧ w2.ownsRow B 3 1 v' (m + l.length) (xs ++ natCells l) ∧ Chg (own ov) w w2 := by
  obtain ⟨i0, hi, hz0, hz1, hz2⟩ := info_parts Try.info3
  obtain ⟨ao, c, b, off, rfl, h2, h3⟩ := hv
  rw [List.length_map] at *
  by_cases h0 : l.length = 0
  · have : l = [] := List.length_eq_zero_iff.1 h0
    subst this
    rcases ao with _ | a
    · refine ⟨ov, w, ?_, by simpa [natCells] using h, Chg.refl _ _⟩
      obtain ⟨oa, oc, rfl, _⟩ := ownsRow_view h
      exact app_none2 w oa m oc c (by
        rcases h.2 with ⟨e, _⟩ | ⟨g, cap, cur, e, _, _, k1, _⟩
        · injection e with e1 e2 e3; omega
        · injection e with e1 e2 e3; omega)
    · obtain ⟨v', w', a1, a2, a3, _, _⟩ := run_append_own_at (P := Try.prog) w B 24 24 3 i0 (.int .i64 0) 1 8 Try.underlying24 hi hz0 hz1 hz2 rfl (by decide) ov m xs h
        a 0 c [] rfl (by simp) (by simp) (by unfold maxLen; omega) (by omega) hB
      exact ⟨v', w', a1, by simpa [natCells] using a2, (Chg.refl _ w).grown a3 (fun k hk => .inl (by simp [own, hk]))⟩
  · obtain ⟨x, hx⟩ : ∃ x, l[0]? = some x := ⟨_, List.getElem?_eq_getElem (by omega)⟩
    obtain ⟨rfl, _⟩ := h3 0 (x : Int) (by rw [List.getElem?_map, hx]; rfl)
    obtain ⟨v', w', a1, a2, a3, _, _⟩ := run_append_own_at (P := Try.prog) w B 24 24 3 i0 (.int .i64 0) 1 8 Try.underlying24 hi hz0 hz1 hz2 rfl (by decide) ov m xs h
      ⟨b, off, none⟩ l.length c (natCells l) (by simp [natCells]) (fun j u hu => by
        unfold natCells at hu
        rw [List.getElem?_map, Option.map_eq_some_iff] at hu
        obtain ⟨y, hy, rfl⟩ := hu
        obtain ⟨_, k2, _⟩ := h3 j (y : Int) (by rw [List.getElem?_map, hy]; rfl)
        rw [← k2]
        congr 1
        unfold Addr.add
        split
        · next h => subst h; rfl
        · rfl) (fun u hu => by simp only [natCells, List.mem_map] at hu; obtain ⟨y, _, rfl⟩ := hu; rfl) (by unfold maxLen; omega) (by omega) hB
    exact ⟨v', w', a1, a2, (Chg.refl _ w).grown a3 (fun k hk => .inl (by simp [own, hk]))⟩

theorem own_pop {w : World} {B m : Nat} {a : Option Addr} {c : Nat} {xs : List Value} {y : Value} (h : w.ownsRow B 3 1 (.slice a (m + 1) c) (m + 1) (xs ++ [y])) (hl : xs.length = m) : w.ownsRow B 3 1 (.slice a m c) m xs := by
  refine ⟨by omega, ?_⟩
  rcases h.2 with ⟨_, h0⟩ | ⟨gb', c', cur, he, h3, hg, h1, h2, h4, h5⟩
  · omega
  · injection he with he1 _ he3
    subst he1 he3
    refine .inr ⟨gb', c, cur, rfl, h3, hg, by omega, h2, h4, ?_⟩
    have : cur.toList.take (m * 1) = (cur.toList.take ((m + 1) * 1)).take (m * 1) := by rw [List.take_take]; congr 1; omega
    rw [this, h5, Nat.mul_one, ← hl, List.take_left]
end Go.Proofs.Ytagfgbmaibadjaa
