/- What stands while spill.Place goes: the map, what is placed, what is blocked. No condition. -/
import Derived.Test.YthkjmplcmfabfaaGreatDoorSpFree
import Derived.Test.YthkjmplcmfabfaaGreatDoorSpCells
namespace Go.Proofs.YthkjmplcmfabfaaGreatDoor
open Go.RowKit Go.Lib Go.Maps

theorem heap_map_ne {w : World} {b g : Nat} {es : Array MapEntry} {clock : Nat} {cur : Array Value} {t : TypeId} {f : Nat × Nat} (h : w.heap[b]? = some (.map es clock)) (k : w.heap[g]? = some (.cells cur t f)) : b ≠ g := by
  rintro rfl
  rw [h] at k
  cases k
theorem ownsRow_heap {w : World} {base size : Nat} {e : TypeId} {v : Value} {n : Nat} {xs : List Value} (h : w.ownsRow base e size v n xs) : ∀ g, v.ownBlock = some g → ∃ cur, w.heap[g]? = some (.cells cur e (0, 0)) := by
  rcases h.2 with ⟨rfl, rfl⟩ | ⟨g, cap, cur, rfl, hb, hg, _⟩
  · intro g hg; cases hg
  · intro g' hg'; cases hg'; exact ⟨cur, hg⟩

structure Pl (w : World) (B N : Nat) (T : PAt → Prop) (ps : List PSp) (qs : List PAt) (pv qv : Value) (y : World) : Prop where
  map : TakenAt y B N T
  sp : SpsOwn y (w.heap.size + 1) pv ps
  at' : AtsOwn y (w.heap.size + 1) qv qs
  low : Below w.heap.size w y
  lo : w.heap.size + 1 ≤ B
section
variable {w y z : World} {B N : Nat} {T : PAt → Prop} {ps : List PSp} {qs : List PAt} {pv qv : Value}
theorem Pl.keep (h : Pl w B N T ps qs pv qv y) (hb : Below y.heap.size y z) : Pl w B N T ps qs pv qv z :=
  ⟨h.map.below hb, h.sp.below hb, h.at'.below hb, h.low.trans (hb.mono h.low.size), h.lo⟩
theorem Pl.size (h : Pl w B N T ps qs pv qv y) : w.heap.size + 1 < y.heap.size := Nat.lt_of_le_of_lt h.lo h.map.lt
theorem Pl.sp_at (h : Pl w B N T ps qs pv qv y) : ∀ g, pv.ownBlock = some g → qv.ownBlock ≠ some g := fun g hg hq => by
  obtain ⟨c1, h1⟩ := ownsRow_heap h.sp g hg
  obtain ⟨c2, h2⟩ := ownsRow_heap h.at' g hq
  rw [h1] at h2
  simp at h2
theorem Pl.map_sp (h : Pl w B N T ps qs pv qv y) : pv.ownBlock ≠ some B := fun hg => by
  obtain ⟨c1, h1⟩ := ownsRow_heap h.sp B hg
  obtain ⟨D, ⟨es, clock, hb, -⟩, -⟩ := h.map
  exact heap_map_ne hb h1 rfl
theorem Pl.map_at (h : Pl w B N T ps qs pv qv y) : qv.ownBlock ≠ some B := fun hg => by
  obtain ⟨c1, h1⟩ := ownsRow_heap h.at' B hg
  obtain ⟨D, ⟨es, clock, hb, -⟩, -⟩ := h.map
  exact heap_map_ne hb h1 rfl
theorem mem_own {v : Value} {g : Nat} (h : g ∈ own v) : v.ownBlock = some g := by simpa [own] using h
/-- one more that is placed -/
theorem Pl.app_sp (h : Pl w B N T ps qs pv qv y) {m g : Nat} (hm : m = ps.length) (hg : y.heap.size = g) (hl : m ≤ 1000000) (x : PSp) :
    ∃ a c w2, (Builtin.append_ #[32, 32] 32 #[pv, .slice (some ⟨g, 0, none⟩) 1 1]).run Tryz.prog (y.alloc (.cells (spC x).toArray 40)) = .ok (.slice a (m + 1) c) w2 ∧
      Pl w B N T (ps ++ [x]) qs (.slice a (m + 1) c) qv w2 ∧ Chg (own pv) y w2 := by
  obtain ⟨a, c, w2, h1, h2, h3, h4⟩ := h.sp.app (Nat.le_of_lt h.size) hm hg hl x
  refine ⟨a, c, w2, h1, ⟨h.map.chg h3 (fun hb => h.map_sp (mem_own hb)), h2, h.at'.chg h3 (fun g hg hb => h.sp_at g (mem_own hb) hg), h.low.trans (h3.below (fun g hg => ?_) h.low.size), h.lo⟩, h3⟩
  have := (h.sp.low g (mem_own hg)).1
  omega
/-- one more that is blocked -/
theorem Pl.app_at (h : Pl w B N T ps qs pv qv y) {m g : Nat} (hm : m = qs.length) (hg : y.heap.size = g) (hl : m ≤ 1000000) (x : PAt) :
    ∃ a c w2, (Builtin.append_ #[22, 22] 22 #[qv, .slice (some ⟨g, 0, none⟩) 1 1]).run Tryz.prog (y.alloc (.cells (atC x).toArray 38)) = .ok (.slice a (m + 1) c) w2 ∧
      Pl w B N T ps (qs ++ [x]) pv (.slice a (m + 1) c) w2 ∧ Chg (own qv) y w2 := by
  obtain ⟨a, c, w2, h1, h2, h3, h4⟩ := h.at'.app (Nat.le_of_lt h.size) hm hg hl x
  refine ⟨a, c, w2, h1, ⟨h.map.chg h3 (fun hb => h.map_at (mem_own hb)), h.sp.chg h3 (fun g hg hb => h.sp_at g hg (mem_own hb)), h2, h.low.trans (h3.below (fun g hg => ?_) h.low.size), h.lo⟩, h3⟩
  have := (h.at'.low g (mem_own hg)).1
  omega
/-- one more that is taken -/
theorem Pl.put (h : Pl w B N T ps qs pv qv y) (hn : N < 1000000000) (p : PAt) (hp : SmallAt p) :
    ∃ w', (Instr.mapUpdate 63 (.map (some B)) (atV p) (.bool true)).run Tryz.prog y = .ok () w' ∧ Pl w B (N + 1) (fun q => T q ∨ q = p) ps qs pv qv w' ∧ Chg [B] y w' := by
  obtain ⟨w', h1, h2, h3⟩ := h.map.put hn p hp
  have hc : Chg [B] y w' := (Chg.refl _ y).grown h3 (fun k hk => by cases hk; simp)
  refine ⟨w', h1, ⟨h2, h.sp.chg hc (fun g hg hb => ?_), h.at'.chg hc (fun g hg hb => ?_), h.low.trans (hc.below (fun g hg => ?_) h.low.size), h.lo⟩, hc⟩
  · simp at hb
    exact h.map_sp (hb ▸ hg)
  · simp at hb
    exact h.map_at (hb ▸ hg)
  · simp at hg
    have := h.lo
    omega
theorem Pl.of_iff {M : Nat} {T' : PAt → Prop} (h : Pl w B N T ps qs pv qv y) (hn : N ≤ M) (ht : ∀ p, T p ↔ T' p) : Pl w B M T' ps qs pv qv y := ⟨h.map.of_iff hn ht, h.sp, h.at', h.low, h.lo⟩
end

/-- what is taken behind one more -/
theorem takenP_placed {T : PAt → Prop} {l : List PSp} {j : Nat} {x : PSp} (hx : l[j]? = some x) (ho : inOrder l) (h : rightP x ∧ freeP x (takenP T (l.take j))) (p : PAt) : takenP T (l.take (j + 1)) p ↔ takenP T (l.take j) p ∨ tileP x p := by
  unfold takenP
  rw [(here_placed ho hx h).2.2.1]
  constructor
  · rintro (h1 | ⟨y, hy, h2⟩)
    · exact .inl (.inl h1)
    · rcases List.mem_append.1 hy with hy | hy
      · exact .inl (.inr ⟨y, hy, h2⟩)
      · simp only [List.mem_singleton] at hy
        exact .inr (hy ▸ h2)
  · rintro ((h1 | ⟨y, hy, h2⟩) | h2)
    · exact .inl h1
    · exact .inr ⟨y, List.mem_append_left _ hy, h2⟩
    · exact .inr ⟨x, by simp, h2⟩
theorem takenP_blocked {T : PAt → Prop} {l : List PSp} {j : Nat} {x : PSp} (hx : l[j]? = some x) (ho : inOrder l) (h : ¬ (rightP x ∧ freeP x (takenP T (l.take j)))) (p : PAt) : takenP T (l.take (j + 1)) p ↔ takenP T (l.take j) p := by
  unfold takenP
  rw [(here_blocked ho hx h).2.2.1]
theorem takenP_nil {T : PAt → Prop} (p : PAt) : takenP T [] p ↔ T p := by simp [takenP, placeP]

/-- the loops of Place -/
def P1Rel (w w1 : World) (A : List PAt) (B : Nat) (i : Value) (wr : World) : Prop := ∃ j : Nat, i = .int .i64 (j : Int) ∧ j ≤ A.length ∧ Pl w B j (fun p => p ∈ A.take j) [] [] (.slice none 0 0) (.slice none 0 0) wr ∧ Below w1.heap.size w1 wr
def P2Rel (w : World) (A : List PAt) (l : List PSp) (B : Nat) (pv qv i : Value) (wr : World) : Prop := ∃ j : Nat, i = .int .i64 (j : Int) ∧ j ≤ l.length ∧ Pl w B (A.length + 400 * j) (takenP (fun p => p ∈ A) (l.take j)) (placeP (fun p => p ∈ A) (l.take j)).1 (placeP (fun p => p ∈ A) (l.take j)).2 pv qv wr
def PrRel (w : World) (x : PSp) (B N g : Nat) (T : PAt → Prop) (ps : List PSp) (qs : List PAt) (pv qv i : Value) (wr : World) : Prop :=
  ∃ r : Nat, i = .int .i64 (r : Int) ∧ (r : Int) ≤ x.2.1 ∧ Pl w B (N + r * x.2.2.toNat) (fun p => T p ∨ tileUp x r 0 p) ps qs pv qv wr ∧ wr.heap[g]? = some (.cells (spC x).toArray 40 (0, 0))
def PcRel (w : World) (x : PSp) (B N g r : Nat) (T : PAt → Prop) (ps : List PSp) (qs : List PAt) (pv qv i : Value) (wr : World) : Prop :=
  ∃ c : Nat, i = .int .i64 (c : Int) ∧ (c : Int) ≤ x.2.2 ∧ Pl w B (N + r * x.2.2.toNat + c) (fun p => T p ∨ tileUp x r c p) ps qs pv qv wr ∧ wr.heap[g]? = some (.cells (spC x).toArray 40 (0, 0))
end Go.Proofs.YthkjmplcmfabfaaGreatDoor
