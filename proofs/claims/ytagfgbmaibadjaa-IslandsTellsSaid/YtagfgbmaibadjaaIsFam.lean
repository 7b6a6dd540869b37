/- slices.Clone of ints; many rows of ints, each its own; the test whether an island may be next. -/
import Derived.Test.YtagfgbmaibadjaaIsTake
import Derived.Test.YtagfgbmaibadjaaIsClose
namespace Go.Proofs.Ytagfgbmaibadjaa
open Go.RowKit Go.Lib

def CloneEnd (w : World) (l : List Nat) (e : Ending) (w' : World) : Prop :=
  ∃ v, e = .returned v ∧ w'.ownsRow w.heap.size 3 1 v l.length (natCells l) ∧ Below w.heap.size w w'

set_option maxHeartbeats 1000000 in
theorem clone_any {w : World} {B : Nat} {v : Value} {l : List Nat} (h : w.ownsRow B 3 1 v l.length (natCells l)) (hl0 : 0 < l.length) (hl : l.length ≤ 1000000) : Calls Try.prog 27 #[v] w (CloneEnd w l) := by
  obtain ⟨i0, hi, hz0, hz1, hz2⟩ := info_parts Try.info3
  obtain ⟨g, c, rfl⟩ : ∃ g c, v = .slice (some ⟨g, 0, none⟩) l.length c := by
    rcases h.2 with ⟨_, h0⟩ | ⟨g, cap, cur, rfl, _⟩
    · omega
    · exact ⟨g, cap, rfl⟩
  have HO : Hid ((w.alloc (.cells #[] 3)).ownsRow w.heap.size 3 1 (.slice (some ⟨w.heap.size, 0, none⟩) 0 0) 0 []) := hid (World.ownsRow_made (e := 3) (base := w.heap.size) (size := 1) w #[] 0 (Nat.le_refl _) (by simp [maxLen]) rfl)
  have HS := hid ((h.alloc (.cells #[] 3)).cells (g := g) rfl)
  have heq : ∀ x : World, (binOp BinOp.eql 24 (.slice (some ⟨g, 0, none⟩) l.length c) (.slice none 0 0)).run Try.prog x = .ok (.bool false) x := fun x => by kernel_rfl
  clear h
  go_enter Try.func27, Try.ntmps27
  go_wp2_with (at_builtin;  refine wpList_append_own _ rfl _ _ 24 rfl w.heap.size 3 i0 (.int .i64 0) 1 8 Try.underlying24 hi hz0 hz1 hz2 rfl (by decide) _ _ _ rfl HO.out ⟨g, 0, none⟩ l.length c (natCells l) rfl (by simp [natCells]) HS.out ?n1 ?n2 ?n3 ?n4 ?_)
  case n1 => intro u hu; simp only [natCells, List.mem_map] at hu; obtain ⟨x, _, rfl⟩ := hu; rfl
  case n2 => unfold maxLen; omega
  case n3 => omega
  case n4 => simp
  intro v' w1 hown hgrow _
  have hb : Below w.heap.size w w1 := ((Below.refl _ w).alloc (Nat.le_refl _) _).grown hgrow (by simp) (fun k e => by simp [Value.ownBlock] at e; omega)
  have HF := hid (show w1.ownsRow w.heap.size 3 1 v' l.length (natCells l) from by simpa using hown)
  clear hown hgrow
  go_wp2_with fail
  go_ret
  exact ⟨_, rfl, HF.out, hb⟩

/-- so many rows of ints, each its own, and none of F -/
structure Rows3 (w : World) (B N : Nat) (vs : Nat → Value) (xs : Nat → List Nat) (F : List Nat) : Prop where
  row : ∀ p, p < N → w.ownsRow B 3 1 (vs p) (xs p).length (natCells (xs p))
  far : ∀ p, p < N → ∀ b, (vs p).ownBlock = some b → b ∉ F
  sep : ∀ p q, p < N → q < N → p ≠ q → ∀ b, (vs p).ownBlock = some b → (vs q).ownBlock ≠ some b

theorem Rows3.chg {w w' : World} {B N : Nat} {vs : Nat → Value} {xs : Nat → List Nat} {F G : List Nat} (R : Rows3 w B N vs xs F) (h : Chg G w w') (hG : ∀ b ∈ G, b ∈ F ∨ ∀ p, p < N → (vs p).ownBlock ≠ some b) : Rows3 w' B N vs xs F :=
  ⟨fun p hp => h.owns (R.row p hp) (fun b hb hm => by
    rcases hG b hm with h1 | h1
    · exact R.far p hp b hb h1
    · exact h1 p hp hb), R.far, R.sep⟩

/-- one more int on one of the rows -/
theorem Rows3.app {w : World} {B N i : Nat} {vs : Nat → Value} {xs : Nat → List Nat} {F : List Nat} (R : Rows3 w B N vs xs F) (hi : i < N) (hB : B ≤ w.heap.size) (hl : (xs i).length ≤ 1000000) (hF : ∀ b ∈ F, b < w.heap.size) (x : Nat) :
    ∃ a c w2, (Builtin.append_ #[24, 24] 24 #[vs i, .slice (some ⟨w.heap.size, 0, none⟩) 1 1]).run Try.prog (w.alloc (.cells #[.int .i64 (x : Int)] 3)) = .ok (.slice a ((xs i).length + 1) c) w2 ∧
      Rows3 w2 B N (upd vs i (.slice a ((xs i).length + 1) c)) (upd xs i (xs i ++ [x])) F ∧ Chg (own (vs i)) w w2 := by
  obtain ⟨a, c, w2, h1, h2, h3, h4⟩ := app_int (R.row i hi) hB hl (x : Int)
  have lt : ∀ p, p < N → ∀ b, (vs p).ownBlock = some b → b < w.heap.size := fun p hp b hb => ((R.row p hp).lt b hb).2
  refine ⟨a, c, w2, h1, ⟨fun p hp => ?_, fun p hp b hb => ?_, fun p q hp hq hpq b hb hb' => ?_⟩, h3⟩
  · by_cases e : p = i
    · subst e
      rw [upd_same, upd_same, List.length_append, natCells, List.map_append]
      exact h2
    · rw [upd_far _ _ e, upd_far _ _ e]
      exact h3.owns (R.row p hp) (fun b hb hm => by
        simp only [Go.Proofs.Ytagfgbmaibadjaa.own, Option.mem_toList] at hm
        exact R.sep p i hp hi e b hb hm)
  · by_cases e : p = i
    · subst e
      rw [upd_same] at hb
      rcases h4 b hb with h | h
      · exact R.far p hp b h
      · intro hm; have := hF b hm; omega
    · rw [upd_far _ _ e] at hb
      exact R.far p hp b hb
  · by_cases e : p = i
    · subst e
      rw [upd_same] at hb
      rw [upd_far _ _ (Ne.symm hpq)] at hb'
      rcases h4 b hb with h | h
      · exact R.sep p q hp hq hpq b h hb'
      · have := lt q hq b hb'; omega
    · rw [upd_far _ _ e] at hb
      by_cases e2 : q = i
      · subst e2
        rw [upd_same] at hb'
        rcases h4 b hb' with h | h
        · exact R.sep p q hp hq hpq b hb h
        · have := lt p hp b hb; omega
      · rw [upd_far _ _ e2] at hb'
        exact R.sep p q hp hq hpq b hb hb'

/-- a row of slices -/
def RowV (w : World) (b n : Nat) (vs : Nat → Value) : Prop := w.heap[b]? = some (.cells ((List.range n).map vs).toArray 24 (0, 0))
theorem RowV.get {w : World} {b n i : Nat} {vs : Nat → Value} (h : RowV w b n vs) (hi : i < n) : w.cell? ⟨b, i, none⟩ = some (vs i) := cell_of h (by simp [hi])
theorem RowV.free {w : World} {b n i : Nat} {vs : Nat → Value} (h : RowV w b n vs) : w.frozen? ⟨b, i, none⟩ = false := free_of h
theorem RowV.set {w : World} {b n k : Nat} {vs : Nat → Value} (h : RowV w b n vs) (v : Value) : RowV (w.setCell ⟨b, k, none⟩ v) b n (upd vs k v) := by
  have := heap_setCell_at (i := k) h v
  unfold RowV
  rw [this]
  congr 2
  apply Array.ext'
  rw [Array.toList_setIfInBounds]
  apply List.ext_getElem?
  intro i
  simp only [List.getElem?_set, List.getElem?_map, List.length_map, List.length_range]
  by_cases e : k = i
  · subst e
    by_cases hk : k < n <;> simp [hk, upd]
  · simp only [if_neg e]
    by_cases hi : i < n
    · simp [hi, upd, Ne.symm e]
    · simp [hi]
theorem RowV.chg {w w' : World} {b n : Nat} {vs : Nat → Value} {F : List Nat} (h : RowV w b n vs) (c : Chg F w w') (hb : b ∉ F) : RowV w' b n vs := c.heap h hb

/-- the closure may: an island that wants nothing goes onto the heap by its first node -/
def MayEnd (w : World) (hb m : Nat) (S : Nat → Prop) (nd x : Nat) (e : Ending) (w' : World) : Prop :=
  e = .returned (.tuple #[]) ∧ Chg [hb] w w' ∧ (nd = 0 → HeapAt w' hb (m + 1) (fun v => v = x ∨ S v)) ∧ (nd ≠ 0 → w' = w)

set_option maxHeartbeats 1000000 in
theorem may_any {w : World} {nbx nr pbx pr mm hb m p b c : Nat} {S : Nat → Prop} {nd : Nat → Nat} {vs : Nat → Value} {x ln : Nat} (hp : p < mm) (_hmm : mm ≤ 1000000)
    (c1 : w.cell? ⟨nbx, 0, none⟩ = some (.slice (some ⟨nr, 0, none⟩) mm mm)) (c2 : w.cell? ⟨pbx, 0, none⟩ = some (.slice (some ⟨pr, 0, none⟩) mm mm)) (rn : RowF w nr mm (natI nd)) (rp : RowV w pr mm vs)
    (hv : vs p = .slice (some ⟨b, 0, none⟩) (ln + 1) c) (hx : w.cell? ⟨b, 0, none⟩ = some (.int .i64 (x : Int))) (hnd : nd p ≤ 100000000)
    (H : HeapAt w hb m S) (hxS : nd p = 0 → ¬ S x) (hm : nd p = 0 → m < 2000) (hx2 : x ≤ 1000000) (hS : ∀ v, S v → v ≤ 1000000) :
    Calls Try.prog 24 #[.int .i64 (p : Int), .pointer (some ⟨nbx, 0, none⟩), .pointer (some ⟨hb, 0, none⟩), .pointer (some ⟨pbx, 0, none⟩)] w (MayEnd w hb m S (nd p) x) := by
  have g1 := rn.get hp
  have g2 := rp.get hp
  rw [hv] at g2
  by_cases h0 : nd p = 0
  · have HP := hid (put_any H (hxS h0) (hm h0) hx2 hS)
    have g1' : w.cell? ⟨nr, p, none⟩ = some (.int .i64 0) := by rw [g1]; simp [natI, h0]
    clear g1 rn rp hxS hm
    go_enter Try.func24, Try.ntmps24
    go_wp2_with fail
    refine HP.out.mono ?_
    rintro e w' ⟨rfl, h1, h2⟩
    go_wp2_with fail
    go_end0
    exact ⟨rfl, h2, fun _ => h1, fun h => absurd h0 h⟩
  · obtain ⟨y, hy⟩ : ∃ y, y = nd p := ⟨_, rfl⟩
    have g1' : w.cell? ⟨nr, p, none⟩ = some (.int .i64 (y : Int)) := by rw [g1, hy]; rfl
    have hy0 : ¬ (y : Int) = 0 := by omega
    have hy1 : 0 < y := by omega
    clear g1 rn rp hxS hm
    go_enter Try.func24, Try.ntmps24
    go_wp2_with fail
    go_end0
    exact ⟨rfl, Chg.refl _ _, fun h => absurd h h0, fun _ => rfl⟩

end Go.Proofs.Ytagfgbmaibadjaa
