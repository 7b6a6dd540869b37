/- Contracts of the document's IsArea and Has at any ints. No condition. Contract of the document's Meet at any ints. No condition. -/
import Derived.Test.YtmmknjpcffaidaaGreatDoorSpPlace
import Derived.Test.YtmmknjpcffaidaaGreatDoorSpSmall

/- Contracts of the document's IsArea and Has at any ints. No condition. -/
namespace Go.Proofs.YtmmknjpcffaidaaGreatDoor
open Go.RowKit Go.Lib

set_option maxRecDepth 20000 in
set_option maxHeartbeats 4000000 in
theorem isArea_any (x : PSp) (w : World) : Calls Tryz.prog 50 #[spV x] w fun e w' => e = .returned (.bool (decide (rightP x))) ∧ Below w.heap.size w w' := by
  have B0 := hid (fun o => (Below.refl w.heap.size w).alloc (Nat.le_refl _) o)
  obtain ⟨⟨x1, x2, x3⟩, x4, x5⟩ := x
  unfold spV
  go_enter Tryz.func50, Tryz.ntmps50
  by_cases t0 : x1 < 0
  · have d0 : (x1 < 0) = True := by rw [eq_iff_iff, iff_true]; omega
    have e : decide (rightP ((x1, x2, x3), x4, x5)) = false := decide_eq_false (by unfold rightP; dsimp only; omega)
    rw [e]
    clear e
    go_wp2_with fail
    go_ret
    exact ⟨rfl, B0.out _⟩
  · have d0 : (x1 < 0) = False := by rw [eq_iff_iff, iff_false]; omega
    by_cases t1 : x1 > 7
    · have d1 : (x1 > 7) = True := by rw [eq_iff_iff, iff_true]; omega
      have e : decide (rightP ((x1, x2, x3), x4, x5)) = false := decide_eq_false (by unfold rightP; dsimp only; omega)
      rw [e]
      clear e
      go_wp2_with fail
      go_ret
      exact ⟨rfl, B0.out _⟩
    · have d1 : (x1 > 7) = False := by rw [eq_iff_iff, iff_false]; omega
      by_cases t2 : x2 < 0
      · have d2 : (x2 < 0) = True := by rw [eq_iff_iff, iff_true]; omega
        have e : decide (rightP ((x1, x2, x3), x4, x5)) = false := decide_eq_false (by unfold rightP; dsimp only; omega)
        rw [e]
        clear e
        go_wp2_with fail
        go_ret
        exact ⟨rfl, B0.out _⟩
      · have d2 : (x2 < 0) = False := by rw [eq_iff_iff, iff_false]; omega
        by_cases t3 : x2 > 199
        · have d3 : (x2 > 199) = True := by rw [eq_iff_iff, iff_true]; omega
          have e : decide (rightP ((x1, x2, x3), x4, x5)) = false := decide_eq_false (by unfold rightP; dsimp only; omega)
          rw [e]
          clear e
          go_wp2_with fail
          go_ret
          exact ⟨rfl, B0.out _⟩
        · have d3 : (x2 > 199) = False := by rw [eq_iff_iff, iff_false]; omega
          by_cases t4 : x3 < 0
          · have d4 : (x3 < 0) = True := by rw [eq_iff_iff, iff_true]; omega
            have e : decide (rightP ((x1, x2, x3), x4, x5)) = false := decide_eq_false (by unfold rightP; dsimp only; omega)
            rw [e]
            clear e
            go_wp2_with fail
            go_ret
            exact ⟨rfl, B0.out _⟩
          · have d4 : (x3 < 0) = False := by rw [eq_iff_iff, iff_false]; omega
            by_cases t5 : x3 > 51
            · have d5 : (x3 > 51) = True := by rw [eq_iff_iff, iff_true]; omega
              have e : decide (rightP ((x1, x2, x3), x4, x5)) = false := decide_eq_false (by unfold rightP; dsimp only; omega)
              rw [e]
              clear e
              go_wp2_with fail
              go_ret
              exact ⟨rfl, B0.out _⟩
            · have d5 : (x3 > 51) = False := by rw [eq_iff_iff, iff_false]; omega
              by_cases t6 : x4 ≥ 1
              · have d6 : (x4 ≥ 1) = True := by rw [eq_iff_iff, iff_true]; omega
                by_cases t7 : x4 ≤ 200 - x2
                · have d7 : (x4 ≤ 200 - x2) = True := by rw [eq_iff_iff, iff_true]; omega
                  by_cases t8 : x5 ≥ 1
                  · have d8 : (x5 ≥ 1) = True := by rw [eq_iff_iff, iff_true]; omega
                    by_cases t9 : x5 ≤ 52 - x3
                    · have d9 : (x5 ≤ 52 - x3) = True := by rw [eq_iff_iff, iff_true]; omega
                      have e : decide (rightP ((x1, x2, x3), x4, x5)) = true := decide_eq_true (by unfold rightP; dsimp only; omega)
                      rw [e]
                      clear e
                      go_wp2_with fail
                      go_ret
                      exact ⟨rfl, B0.out _⟩
                    · have d9 : (x5 ≤ 52 - x3) = False := by rw [eq_iff_iff, iff_false]; omega
                      have e : decide (rightP ((x1, x2, x3), x4, x5)) = false := decide_eq_false (by unfold rightP; dsimp only; omega)
                      rw [e]
                      clear e
                      go_wp2_with fail
                      go_ret
                      exact ⟨rfl, B0.out _⟩
                  · have d8 : (x5 ≥ 1) = False := by rw [eq_iff_iff, iff_false]; omega
                    have e : decide (rightP ((x1, x2, x3), x4, x5)) = false := decide_eq_false (by unfold rightP; dsimp only; omega)
                    rw [e]
                    clear e
                    go_wp2_with fail
                    go_ret
                    exact ⟨rfl, B0.out _⟩
                · have d7 : (x4 ≤ 200 - x2) = False := by rw [eq_iff_iff, iff_false]; omega
                  have e : decide (rightP ((x1, x2, x3), x4, x5)) = false := decide_eq_false (by unfold rightP; dsimp only; omega)
                  rw [e]
                  clear e
                  go_wp2_with fail
                  go_ret
                  exact ⟨rfl, B0.out _⟩
              · have d6 : (x4 ≥ 1) = False := by rw [eq_iff_iff, iff_false]; omega
                have e : decide (rightP ((x1, x2, x3), x4, x5)) = false := decide_eq_false (by unfold rightP; dsimp only; omega)
                rw [e]
                clear e
                go_wp2_with fail
                go_ret
                exact ⟨rfl, B0.out _⟩

set_option maxRecDepth 20000 in
set_option maxHeartbeats 4000000 in
theorem r2has_any (x : PSp) (p : PAt) (w : World) : Calls Tryz.prog 36 #[spV x, atV p] w fun e w' => e = .returned (.bool (decide (hasP x p))) ∧ Below w.heap.size w w' := by
  have B0 := hid (fun o o' => ((Below.refl w.heap.size w).alloc (Nat.le_refl _) o).alloc (by simp) o')
  have HI := hid (fun w => isArea_any x w)
  by_cases hx : rightP x
  · rw [decide_eq_true hx] at HI
    obtain ⟨⟨x1, x2, x3⟩, x4, x5⟩ := x
    obtain ⟨p1, p2, p3⟩ := p
    have HX := hid hx
    unfold rightP at hx
    dsimp only at hx
    obtain ⟨a1, a2, a3, a4, a5, a6, a7, a8, a9, a10⟩ := hx
    obtain ⟨bv, hbv⟩ : ∃ bv, bv = decide (hasP ((x1, x2, x3), x4, x5) (p1, p2, p3)) := ⟨_, rfl⟩
    rw [← hbv]
    have HBV := hid hbv
    clear hbv
    unfold spV atV at *
    go_enter Tryz.func36, Tryz.ntmps36
    go_wp2_with fail
    refine (HI.out _).mono ?_
    rintro e w1 ⟨rfl, b1⟩
    have HB1 := hid ((B0.out _ _).trans (b1.mono (B0.out _ _).size))
    have k : ∀ {o o' : Obj} {a : Addr} {u : Value}, ((w.alloc o).alloc o').cell? a = some u → Below ((w.alloc o).alloc o').heap.size ((w.alloc o).alloc o') w1 → w1.cell? a = some u := fun hc hb => (hb.cell (World.block_lt_of_cell? _ _ hc)).trans hc
    have m0 := heap_alloc_keep (heap_alloc_new w (.cells #[.int .i64 x1, .int .i64 x2, .int .i64 x3, .int .i64 x4, .int .i64 x5] 51)) (.cells #[.int .i64 p1, .int .i64 p2, .int .i64 p3] 25)
    have n0 := heap_alloc2_new w (.cells #[.int .i64 x1, .int .i64 x2, .int .i64 x3, .int .i64 x4, .int .i64 x5] 51) (.cells #[.int .i64 p1, .int .i64 p2, .int .i64 p3] 25)
    have c0 : w1.cell? ⟨w.heap.size, 0, none⟩ = some (.int .i64 x1) := k (cell_of m0 rfl) b1
    have c1 : w1.cell? ⟨w.heap.size, 1, none⟩ = some (.int .i64 x2) := k (cell_of m0 rfl) b1
    have c2 : w1.cell? ⟨w.heap.size, 2, none⟩ = some (.int .i64 x3) := k (cell_of m0 rfl) b1
    have c3 : w1.cell? ⟨w.heap.size, 3, none⟩ = some (.int .i64 x4) := k (cell_of m0 rfl) b1
    have c4 : w1.cell? ⟨w.heap.size, 4, none⟩ = some (.int .i64 x5) := k (cell_of m0 rfl) b1
    have e0 : w1.cell? ⟨w.heap.size + 1, 0, none⟩ = some (.int .i64 p1) := k (cell_of n0 rfl) b1
    have e1 : w1.cell? ⟨w.heap.size + 1, 1, none⟩ = some (.int .i64 p2) := k (cell_of n0 rfl) b1
    have e2 : w1.cell? ⟨w.heap.size + 1, 2, none⟩ = some (.int .i64 p3) := k (cell_of n0 rfl) b1
    clear k m0 n0 b1
    by_cases t0 : p1 = x1
    · subst t0
      by_cases t1 : p2 ≥ x2
      · have d1 : (p2 ≥ x2) = True := by rw [eq_iff_iff, iff_true]; omega
        by_cases t2 : p2 < x2 + x4
        · have d2 : (p2 < x2 + x4) = True := by rw [eq_iff_iff, iff_true]; omega
          by_cases t3 : p3 ≥ x3
          · have d3 : (p3 ≥ x3) = True := by rw [eq_iff_iff, iff_true]; omega
            by_cases t4 : p3 < x3 + x5
            · have d4 : (p3 < x3 + x5) = True := by rw [eq_iff_iff, iff_true]; omega
              have HE := hid (show bv = true by rw [HBV.out]; exact decide_eq_true (by rw [hasP_iff]; unfold tileP; dsimp only; exact ⟨HX.out, by omega⟩))
              go_wp2_with fail
              go_ret
              exact ⟨by rw [HE.out]; rfl, HB1.out⟩
            · have d4 : (p3 < x3 + x5) = False := by rw [eq_iff_iff, iff_false]; omega
              have HE := hid (show bv = false by rw [HBV.out]; exact decide_eq_false (by rw [hasP_iff]; unfold tileP; dsimp only; omega))
              go_wp2_with fail
              go_ret
              exact ⟨by rw [HE.out]; rfl, HB1.out⟩
          · have d3 : (p3 ≥ x3) = False := by rw [eq_iff_iff, iff_false]; omega
            have HE := hid (show bv = false by rw [HBV.out]; exact decide_eq_false (by rw [hasP_iff]; unfold tileP; dsimp only; omega))
            go_wp2_with fail
            go_ret
            exact ⟨by rw [HE.out]; rfl, HB1.out⟩
        · have d2 : (p2 < x2 + x4) = False := by rw [eq_iff_iff, iff_false]; omega
          have HE := hid (show bv = false by rw [HBV.out]; exact decide_eq_false (by rw [hasP_iff]; unfold tileP; dsimp only; omega))
          go_wp2_with fail
          go_ret
          exact ⟨by rw [HE.out]; rfl, HB1.out⟩
      · have d1 : (p2 ≥ x2) = False := by rw [eq_iff_iff, iff_false]; omega
        have HE := hid (show bv = false by rw [HBV.out]; exact decide_eq_false (by rw [hasP_iff]; unfold tileP; dsimp only; omega))
        go_wp2_with fail
        go_ret
        exact ⟨by rw [HE.out]; rfl, HB1.out⟩
    · have d0 : (p1 = x1) = False := by rw [eq_iff_iff, iff_false]; omega
      have HE := hid (show bv = false by rw [HBV.out]; exact decide_eq_false (by rw [hasP_iff]; unfold tileP; dsimp only; omega))
      go_wp2_with fail
      go_ret
      exact ⟨by rw [HE.out]; rfl, HB1.out⟩
  · rw [decide_eq_false hx] at HI
    rw [decide_eq_false (show ¬ hasP x p from fun h => hx (hasP_iff.1 h).1)]
    unfold spV atV at *
    go_enter Tryz.func36, Tryz.ntmps36
    go_wp2_with fail
    refine (HI.out _).mono ?_
    rintro e w1 ⟨rfl, b1⟩
    have HB1 := hid ((B0.out _ _).trans (b1.mono (B0.out _ _).size))
    clear b1
    go_wp2_with fail
    go_ret
    exact ⟨rfl, HB1.out⟩
end Go.Proofs.YtmmknjpcffaidaaGreatDoor

/- Contract of the document's Meet at any ints. No condition. -/
namespace Go.Proofs.YtmmknjpcffaidaaGreatDoor
open Go.RowKit Go.Lib

def cellM (w : World) (a : Addr) : Nat := match w.cell? a with | some (.int _ x) => x.toNat | _ => 0
theorem cellM_of {w : World} {a : Addr} {k : IntKind} {n : Nat} (h : w.cell? a = some (.int k (n : Int))) : cellM w a = n := by
  unfold cellM
  rw [h]
  simp
theorem cellM_lt {a b t L : Nat} (h1 : a = t + 1) (h2 : b = t) (h : t < L) : L - a < L - b := by omega
/-- what stands while two areas' meeting is reckoned -/
structure Mt (w : World) (x y z : PSp) (g : Nat) (u : World) : Prop where
  bx : u.heap[w.heap.size]? = some (.cells (spC x).toArray 51 (0, 0))
  by' : u.heap[w.heap.size + 1]? = some (.cells (spC y).toArray 51 (0, 0))
  rs : u.heap[w.heap.size + 1 + 1]? = some (.cells #[.int .i64 0, .int .i64 0, .int .i64 0, .int .i64 0, .int .i64 0] 51 (0, 0))
  out : u.heap[g]? = some (.cells (spC z).toArray 51 (0, 0))
  low : Below w.heap.size w u
  far : w.heap.size + 1 + 1 < g
theorem Mt.row {w u : World} {x y : PSp} {z : PAt} {m n : Int} {g : Nat} (h : Mt w x y (z, m, n) g u) (k : Int) : Mt w x y (z, k, n) g (u.setCell ⟨g, 3, none⟩ (.int .i64 k)) := by
  have := h.far
  exact ⟨heap_setCell_far h.bx (by omega) _, heap_setCell_far h.by' (by omega) _, heap_setCell_far h.rs (by omega) _, heap_setCell_at h.out _, h.low.setCell (by simp only; omega) _, h.far⟩
theorem Mt.col {w u : World} {x y : PSp} {z : PAt} {m n : Int} {g : Nat} (h : Mt w x y (z, m, n) g u) (k : Int) : Mt w x y (z, m, k) g (u.setCell ⟨g, 4, none⟩ (.int .i64 k)) := by
  have := h.far
  exact ⟨heap_setCell_far h.bx (by omega) _, heap_setCell_far h.by' (by omega) _, heap_setCell_far h.rs (by omega) _, heap_setCell_at h.out _, h.low.setCell (by simp only; omega) _, h.far⟩
theorem Mt.cells {w u : World} {x y z : PSp} {g : Nat} (h : Mt w x y z g u) :
    (u.cell? ⟨w.heap.size, 0, none⟩ = some (.int .i64 x.1.1) ∧ u.cell? ⟨w.heap.size, 1, none⟩ = some (.int .i64 x.1.2.1) ∧ u.cell? ⟨w.heap.size, 2, none⟩ = some (.int .i64 x.1.2.2) ∧ u.cell? ⟨w.heap.size, 3, none⟩ = some (.int .i64 x.2.1) ∧ u.cell? ⟨w.heap.size, 4, none⟩ = some (.int .i64 x.2.2)) ∧
    (u.cell? ⟨w.heap.size + 1, 0, none⟩ = some (.int .i64 y.1.1) ∧ u.cell? ⟨w.heap.size + 1, 1, none⟩ = some (.int .i64 y.1.2.1) ∧ u.cell? ⟨w.heap.size + 1, 2, none⟩ = some (.int .i64 y.1.2.2) ∧ u.cell? ⟨w.heap.size + 1, 3, none⟩ = some (.int .i64 y.2.1) ∧ u.cell? ⟨w.heap.size + 1, 4, none⟩ = some (.int .i64 y.2.2)) ∧
    (u.cell? ⟨g, 0, none⟩ = some (.int .i64 z.1.1) ∧ u.cell? ⟨g, 1, none⟩ = some (.int .i64 z.1.2.1) ∧ u.cell? ⟨g, 2, none⟩ = some (.int .i64 z.1.2.2) ∧ u.cell? ⟨g, 3, none⟩ = some (.int .i64 z.2.1) ∧ u.cell? ⟨g, 4, none⟩ = some (.int .i64 z.2.2)) ∧
    (u.frozen? ⟨g, 3, none⟩ = false ∧ u.frozen? ⟨g, 4, none⟩ = false) :=
  ⟨⟨cell_of h.bx rfl, cell_of h.bx rfl, cell_of h.bx rfl, cell_of h.bx rfl, cell_of h.bx rfl⟩, ⟨cell_of h.by' rfl, cell_of h.by' rfl, cell_of h.by' rfl, cell_of h.by' rfl, cell_of h.by' rfl⟩, ⟨cell_of h.out rfl, cell_of h.out rfl, cell_of h.out rfl, cell_of h.out rfl, cell_of h.out rfl⟩, free_of h.out, free_of h.out⟩
theorem Mt.rcells {w u : World} {x y z : PSp} {g : Nat} (h : Mt w x y z g u) :
    (u.cell? ⟨w.heap.size + 1 + 1, 0, none⟩ = some (.int .i64 0) ∧ u.cell? ⟨w.heap.size + 1 + 1, 1, none⟩ = some (.int .i64 0) ∧ u.cell? ⟨w.heap.size + 1 + 1, 2, none⟩ = some (.int .i64 0) ∧ u.cell? ⟨w.heap.size + 1 + 1, 3, none⟩ = some (.int .i64 0) ∧ u.cell? ⟨w.heap.size + 1 + 1, 4, none⟩ = some (.int .i64 0)) ∧
    (u.frozen? ⟨w.heap.size + 1 + 1, 0, none⟩ = false ∧ u.frozen? ⟨w.heap.size + 1 + 1, 1, none⟩ = false ∧ u.frozen? ⟨w.heap.size + 1 + 1, 2, none⟩ = false ∧ u.frozen? ⟨w.heap.size + 1 + 1, 3, none⟩ = false ∧ u.frozen? ⟨w.heap.size + 1 + 1, 4, none⟩ = false) :=
  ⟨⟨cell_of h.rs rfl, cell_of h.rs rfl, cell_of h.rs rfl, cell_of h.rs rfl, cell_of h.rs rfl⟩, free_of h.rs, free_of h.rs, free_of h.rs, free_of h.rs, free_of h.rs⟩

/-- the boxes of the two areas, and the answer's -/
structure Mb (w : World) (x y : PSp) (u : World) : Prop where
  bx : u.heap[w.heap.size]? = some (.cells (spC x).toArray 51 (0, 0))
  by' : u.heap[w.heap.size + 1]? = some (.cells (spC y).toArray 51 (0, 0))
  rs : u.heap[w.heap.size + 1 + 1]? = some (.cells #[.int .i64 0, .int .i64 0, .int .i64 0, .int .i64 0, .int .i64 0] 51 (0, 0))
  low : Below w.heap.size w u
theorem Mb.keep {w u z : World} {x y : PSp} (h : Mb w x y u) (hb : Below u.heap.size u z) : Mb w x y z :=
  ⟨(hb.block _ (heap_lt h.bx)).trans h.bx, (hb.block _ (heap_lt h.by')).trans h.by', (hb.block _ (heap_lt h.rs)).trans h.rs, h.low.trans (hb.mono h.low.size)⟩
theorem Mb.start (w : World) (x y : PSp) : Mb w x y (((w.alloc (.cells (spC x).toArray 51)).alloc (.cells (spC y).toArray 51)).alloc (.cells #[.int .i64 0, .int .i64 0, .int .i64 0, .int .i64 0, .int .i64 0] 51)) := by
  refine ⟨heap_alloc_keep (heap_alloc_keep (heap_alloc_new w _) _) _, heap_alloc_keep (heap_alloc2_new w _ _) _, ?_, (((Below.refl _ w).alloc (Nat.le_refl _) _).alloc (by simp) _).alloc (by simp; omega) _⟩
  have := heap_alloc_new ((w.alloc (.cells (spC x).toArray 51)).alloc (.cells (spC y).toArray 51)) (.cells #[.int .i64 0, .int .i64 0, .int .i64 0, .int .i64 0, .int .i64 0] 51)
  simpa using this

set_option maxRecDepth 20000 in
set_option maxHeartbeats 4000000 in
theorem r2meet_no (x y : PSp) (w : World) (hn : ¬ (rightP x ∧ rightP y ∧ x.1.1 = y.1.1)) : Calls Tryz.prog 51 #[spV x, spV y] w (MeetPost w (decide (meetP x y))) := by
  have M0 := hid (Mb.start w x y)
  have HX := hid (fun w => isArea_any x w)
  have HY := hid (fun w => isArea_any y w)
  rw [decide_eq_false (show ¬ meetP x y from fun h => hn ⟨h.1, h.2.1, h.2.2.1⟩)]
  obtain ⟨b1, hb1⟩ : ∃ b, b = decide (rightP x) := ⟨_, rfl⟩
  obtain ⟨b2, hb2⟩ : ∃ b, b = decide (rightP y) := ⟨_, rfl⟩
  rw [← hb1] at HX
  rw [← hb2] at HY
  have hne : b1 = true → b2 = true → ¬ (x.1.1 = y.1.1) := fun h1 h2 h3 => hn ⟨of_decide_eq_true (hb1 ▸ h1), of_decide_eq_true (hb2 ▸ h2), h3⟩
  clear hn hb1 hb2
  obtain ⟨⟨x1, x2, x3⟩, x4, x5⟩ := x
  obtain ⟨⟨y1, y2, y3⟩, y4, y5⟩ := y
  unfold spV spC at *
  go_enter Tryz.func51, Tryz.ntmps51
  go_wp2_with fail
  refine (HX.out _).mono ?_
  rintro e w1 ⟨rfl, k1⟩
  have M1 := hid (M0.out.keep k1)
  clear k1 M0
  have c0 : w1.cell? ⟨w.heap.size + 1, 0, none⟩ = some (.int .i64 y1) := cell_of M1.out.by' rfl
  have c1 : w1.cell? ⟨w.heap.size + 1, 1, none⟩ = some (.int .i64 y2) := cell_of M1.out.by' rfl
  have c2 : w1.cell? ⟨w.heap.size + 1, 2, none⟩ = some (.int .i64 y3) := cell_of M1.out.by' rfl
  have c3 : w1.cell? ⟨w.heap.size + 1, 3, none⟩ = some (.int .i64 y4) := cell_of M1.out.by' rfl
  have c4 : w1.cell? ⟨w.heap.size + 1, 4, none⟩ = some (.int .i64 y5) := cell_of M1.out.by' rfl
  go_wp2_with fail
  refine (HY.out _).mono ?_
  rintro e w2 ⟨rfl, k2⟩
  have M2 := hid (M1.out.keep k2)
  clear k2 M1 c0 c1 c2 c3 c4
  have r0 : w2.cell? ⟨w.heap.size + 1 + 1, 0, none⟩ = some (.int .i64 0) := cell_of M2.out.rs rfl
  have r1 : w2.cell? ⟨w.heap.size + 1 + 1, 1, none⟩ = some (.int .i64 0) := cell_of M2.out.rs rfl
  have r2 : w2.cell? ⟨w.heap.size + 1 + 1, 2, none⟩ = some (.int .i64 0) := cell_of M2.out.rs rfl
  have r3 : w2.cell? ⟨w.heap.size + 1 + 1, 3, none⟩ = some (.int .i64 0) := cell_of M2.out.rs rfl
  have r4 : w2.cell? ⟨w.heap.size + 1 + 1, 4, none⟩ = some (.int .i64 0) := cell_of M2.out.rs rfl
  have f0 := free_of (i := 0) M2.out.rs
  have f1 := free_of (i := 1) M2.out.rs
  have f2 := free_of (i := 2) M2.out.rs
  have f3 := free_of (i := 3) M2.out.rs
  have f4 := free_of (i := 4) M2.out.rs
  have d0 : w2.cell? ⟨w.heap.size, 0, none⟩ = some (.int .i64 x1) := cell_of M2.out.bx rfl
  have e0 : w2.cell? ⟨w.heap.size + 1, 0, none⟩ = some (.int .i64 y1) := cell_of M2.out.by' rfl
  have B := hid (fun u0 u1 u2 u3 u4 => ((((M2.out.low.setCell (p := ⟨w.heap.size + 1 + 1, 0, none⟩) (by simp only; omega) u0).setCell (p := ⟨w.heap.size + 1 + 1, 1, none⟩) (by simp only; omega) u1).setCell (p := ⟨w.heap.size + 1 + 1, 2, none⟩) (by simp only; omega) u2).setCell (p := ⟨w.heap.size + 1 + 1, 3, none⟩) (by simp only; omega) u3).setCell (p := ⟨w.heap.size + 1 + 1, 4, none⟩) (by simp only; omega) u4)
  clear M2 HX HY
  cases b1
  · clear hne
    go_wp2_with fail
    refine bodyPost_ret (v := .tuple #[.agg #[.int .i64 0, .int .i64 0, .int .i64 0, .int .i64 0, .int .i64 0], .bool false]) (by simp [results, Tryz.results51, go_sem, *]) rfl ?_
    exact ⟨⟨((0, 0, 0), 0, 0), rfl⟩, B.out _ _ _ _ _⟩
  · cases b2
    · clear hne
      go_wp2_with fail
      refine bodyPost_ret (v := .tuple #[.agg #[.int .i64 0, .int .i64 0, .int .i64 0, .int .i64 0, .int .i64 0], .bool false]) (by simp [results, Tryz.results51, go_sem, *]) rfl ?_
      exact ⟨⟨((0, 0, 0), 0, 0), rfl⟩, B.out _ _ _ _ _⟩
    · have hne2 := hne rfl rfl
      clear hne
      go_wp2_with fail
      refine bodyPost_ret (v := .tuple #[.agg #[.int .i64 0, .int .i64 0, .int .i64 0, .int .i64 0, .int .i64 0], .bool false]) (by simp [results, Tryz.results51, go_sem, *]) rfl ?_
      exact ⟨⟨((0, 0, 0), 0, 0), rfl⟩, B.out _ _ _ _ _⟩

def MrRel (w : World) (x y : PSp) (z : PAt) (g K : Nat) (u : World) : Prop := ∃ i : Nat, i ≤ K ∧ Mt w x y (z, (i : Int), 0) g u
def McRel (w : World) (x y : PSp) (z : PAt) (m : Int) (g K : Nat) (u : World) : Prop := ∃ i : Nat, i ≤ K ∧ Mt w x y (z, m, (i : Int)) g u
set_option maxRecDepth 20000 in
set_option maxHeartbeats 4000000 in
theorem r2meet_yes (x y : PSp) (w : World) (hx : rightP x) (hy : rightP y) (he : x.1.1 = y.1.1) : Calls Tryz.prog 51 #[spV x, spV y] w (MeetPost w (decide (meetP x y))) := by
  have M0 := hid (Mb.start w x y)
  have HX := hid (fun w => isArea_any x w)
  have HY := hid (fun w => isArea_any y w)
  rw [decide_eq_true hx] at HX
  rw [decide_eq_true hy] at HY
  obtain ⟨⟨x1, x2, x3⟩, x4, x5⟩ := x
  obtain ⟨⟨y1, y2, y3⟩, y4, y5⟩ := y
  dsimp only at he
  subst he
  have eb : decide (meetP ((x1, x2, x3), x4, x5) ((x1, y2, y3), y4, y5)) = decide (1 ≤ min (x2 + x4) (y2 + y4) - max x2 y2 ∧ 1 ≤ min (x3 + x5) (y3 + y5) - max x3 y3) := by
    rw [decide_eq_decide]
    exact ⟨fun h => h.2.2.2, fun h => ⟨hx, hy, rfl, h⟩⟩
  rw [eb]
  clear eb
  obtain ⟨bv, hbv⟩ : ∃ bv, bv = decide (1 ≤ min (x2 + x4) (y2 + y4) - max x2 y2 ∧ 1 ≤ min (x3 + x5) (y3 + y5) - max x3 y3) := ⟨_, rfl⟩
  rw [← hbv]
  have HBV := hid hbv
  clear hbv
  unfold rightP at hx hy
  dsimp only at hx hy
  obtain ⟨-, -, a3, a4, a5, a6, a7, a8, a9, a10⟩ := hx
  obtain ⟨-, -, c3, c4, c5, c6, c7, c8, c9, c10⟩ := hy
  obtain ⟨ra, hra⟩ : ∃ ra, ra = max x2 y2 := ⟨_, rfl⟩
  obtain ⟨rb, hrb⟩ : ∃ rb, rb = min (x2 + x4) (y2 + y4) := ⟨_, rfl⟩
  obtain ⟨ca, hca⟩ : ∃ ca, ca = max x3 y3 := ⟨_, rfl⟩
  obtain ⟨cb, hcb⟩ : ∃ cb, cb = min (x3 + x5) (y3 + y5) := ⟨_, rfl⟩
  obtain ⟨K, hK⟩ : ∃ K : Nat, K = (rb - ra).toNat := ⟨_, rfl⟩
  obtain ⟨L, hL⟩ : ∃ L : Nat, L = (cb - ca).toNat := ⟨_, rfl⟩
  have b1 : 0 ≤ ra ∧ ra < 200 := by omega
  have b2 : 0 ≤ ca ∧ ca < 52 := by omega
  have b3 : rb ≤ 200 := by omega
  have b4 : cb ≤ 52 := by omega
  have HV := hid (show bv = decide (1 ≤ rb - ra ∧ 1 ≤ cb - ca) by rw [HBV.out, hra, hrb, hca, hcb])
  unfold spV at *
  go_enter Tryz.func51, Tryz.ntmps51
  have HRA := hid hra
  have HRB := hid hrb
  have HCA := hid hca
  have HCB := hid hcb
  have HK := hid hK
  have HL := hid hL
  clear hra hrb hca hcb hK hL HBV
  unfold spC at M0
  go_wp2_with fail
  refine (HX.out _).mono ?_
  rintro e w1 ⟨rfl, k1⟩
  have M1 := hid (M0.out.keep k1)
  clear k1 M0
  have t0 : w1.cell? ⟨w.heap.size + 1, 0, none⟩ = some (.int .i64 x1) := cell_of M1.out.by' rfl
  have t1 : w1.cell? ⟨w.heap.size + 1, 1, none⟩ = some (.int .i64 y2) := cell_of M1.out.by' rfl
  have t2 : w1.cell? ⟨w.heap.size + 1, 2, none⟩ = some (.int .i64 y3) := cell_of M1.out.by' rfl
  have t3 : w1.cell? ⟨w.heap.size + 1, 3, none⟩ = some (.int .i64 y4) := cell_of M1.out.by' rfl
  have t4 : w1.cell? ⟨w.heap.size + 1, 4, none⟩ = some (.int .i64 y5) := cell_of M1.out.by' rfl
  go_wp2_with fail
  refine (HY.out _).mono ?_
  rintro e w2 ⟨rfl, k2⟩
  have M2 := hid (M1.out.keep k2)
  clear k2 M1 t0 t1 t2 t3 t4 HX HY
  have d0 : w2.cell? ⟨w.heap.size, 0, none⟩ = some (.int .i64 x1) := cell_of M2.out.bx rfl
  have d1 : w2.cell? ⟨w.heap.size, 1, none⟩ = some (.int .i64 x2) := cell_of M2.out.bx rfl
  have d2 : w2.cell? ⟨w.heap.size, 2, none⟩ = some (.int .i64 x3) := cell_of M2.out.bx rfl
  have t0 : w2.cell? ⟨w.heap.size + 1, 0, none⟩ = some (.int .i64 x1) := cell_of M2.out.by' rfl
  have t1 : w2.cell? ⟨w.heap.size + 1, 1, none⟩ = some (.int .i64 y2) := cell_of M2.out.by' rfl
  have t2 : w2.cell? ⟨w.heap.size + 1, 2, none⟩ = some (.int .i64 y3) := cell_of M2.out.by' rfl
  have er : (if x2 < y2 then y2 else x2) = ra := by rw [HRA.out]; split <;> omega
  have ec : (if x3 < y3 then y3 else x3) = ca := by rw [HCA.out]; split <;> omega
  have em : (if y2 + y4 < x2 + x4 then y2 + y4 else x2 + x4) = rb := by rw [HRB.out]; split <;> omega
  have en : (if y3 + y5 < x3 + x5 then y3 + y5 else x3 + x5) = cb := by rw [HCB.out]; split <;> omega
  go_wp2_with fail
  obtain ⟨g, hg⟩ : ∃ g, g = w2.heap.size := ⟨_, rfl⟩
  have T3 := hid (show Mt w ((x1, x2, x3), x4, x5) ((x1, y2, y3), y4, y5) ((x1, ra, ca), ((0 : Nat) : Int), 0) g (w2.alloc (.cells #[.int .i64 x1, .int .i64 ra, .int .i64 ca, .int .i64 0, .int .i64 0] 51)) from
    ⟨heap_alloc_keep M2.out.bx _, heap_alloc_keep M2.out.by' _, heap_alloc_keep M2.out.rs _, by rw [hg]; exact heap_alloc_new w2 _, M2.out.low.alloc M2.out.low.size _, by rw [hg]; exact heap_lt M2.out.rs⟩)
  rw [← hg]
  clear d0 d1 d2 t0 t1 t2 M2 hg er ec
  generalize World.alloc _ _ = w3 at T3 ⊢
  rename_i K1 hK1
  have HC := hid hK1
  clear hK1
  go_loopw [56] (fun _ wr => MrRel w ((x1, x2, x3), x4, x5) ((x1, y2, y3), y4, y5) (x1, ra, ca) g K wr) (fun _ wr => K - cellM wr ⟨g, 3, none⟩)
  case atStart => exact ⟨0, by omega, T3.out⟩
  case round =>
    obtain ⟨i, hi, T⟩ := hrel
    have HT := hid T
    obtain ⟨⟨d0, d1, d2, d3, d4⟩, ⟨t0, t1, t2, t3, t4⟩, ⟨g0, g1, g2, g3, g4⟩, f3, f4⟩ := T.cells
    dsimp only at d0 d1 d2 d3 d4 t0 t1 t2 t3 t4 g0 g1 g2 g3 g4
    clear T T3
    by_cases hlt : ra + (i : Int) < rb
    · have hd : (ra + (i : Int) < rb) = True := by rw [eq_iff_iff, iff_true]; exact hlt
      have hiK : i < K := by rw [HK.out]; omega
      have T2 := hid (show Mt w ((x1, x2, x3), x4, x5) ((x1, y2, y3), y4, y5) ((x1, ra, ca), ((i + 1 : Nat) : Int), 0) g (wr.setCell ⟨g, 3, none⟩ (.int .i64 ((i : Int) + 1))) from by simpa using HT.out.row ((i : Int) + 1))
      have z1 := hid (cellM_of T2.out.cells.2.2.1.2.2.2.1)
      have z0 := hid (cellM_of HT.out.cells.2.2.1.2.2.2.1)
      have hi200 : (i : Int) < 200 := by omega
      go_wp2_with fail
      go_roundw
      case rel => exact ⟨i + 1, hiK, T2.out⟩
      case measure => exact cellM_lt z1.out z0.out hiK
    · have hd : (ra + (i : Int) < rb) = False := by rw [eq_iff_iff, iff_false]; exact hlt
      have hi200 : (i : Int) ≤ 200 := by have := HK.out; omega
      have hik : i = K := by rw [HK.out] at hi ⊢; omega
      have HIK := hid hik
      clear hik hlt
      go_wp2_with fail
      refine HC.out _ _ ?_
      clear d0 d1 d2 d3 d4 t0 t1 t2 t3 t4 g0 g1 g2 g3 g4 f3 f4 HC em hd
      go_wp2_with fail
      rename_i K2 hK2
      have HC := hid hK2
      clear hK2
      have HM0 := hid (show McRel w ((x1, x2, x3), x4, x5) ((x1, y2, y3), y4, y5) (x1, ra, ca) (i : Int) g L wr from ⟨0, by omega, HT.out⟩)
      go_loopw [77] (fun _ wr => McRel w ((x1, x2, x3), x4, x5) ((x1, y2, y3), y4, y5) (x1, ra, ca) (i : Int) g L wr) (fun _ wr => L - cellM wr ⟨g, 4, none⟩)
      case atStart => exact HM0.out
      case round =>
        obtain ⟨j, hj, T⟩ := hrel
        have HT := hid T
        obtain ⟨⟨d0, d1, d2, d3, d4⟩, ⟨t0, t1, t2, t3, t4⟩, ⟨g0, g1, g2, g3, g4⟩, f3, f4⟩ := T.cells
        dsimp only at d0 d1 d2 d3 d4 t0 t1 t2 t3 t4 g0 g1 g2 g3 g4
        clear T HM0
        by_cases hlt : ca + (j : Int) < cb
        · have hd : (ca + (j : Int) < cb) = True := by rw [eq_iff_iff, iff_true]; exact hlt
          have hjL : j < L := by rw [HL.out]; omega
          have T2 := hid (show Mt w ((x1, x2, x3), x4, x5) ((x1, y2, y3), y4, y5) ((x1, ra, ca), (i : Int), ((j + 1 : Nat) : Int)) g (wr.setCell ⟨g, 4, none⟩ (.int .i64 ((j : Int) + 1))) from by simpa using HT.out.col ((j : Int) + 1))
          have z1 := hid (cellM_of T2.out.cells.2.2.1.2.2.2.2)
          have z0 := hid (cellM_of HT.out.cells.2.2.1.2.2.2.2)
          have hj52 : (j : Int) < 52 := by omega
          go_wp2_with fail
          go_roundw
          case rel => exact ⟨j + 1, hjL, T2.out⟩
          case measure => exact cellM_lt z1.out z0.out hjL
        · have hd : (ca + (j : Int) < cb) = False := by rw [eq_iff_iff, iff_false]; exact hlt
          have hj52 : (j : Int) ≤ 52 := by have := HL.out; omega
          have hjl : j = L := by rw [HL.out] at hj ⊢; omega
          have HJL := hid hjl
          clear hjl hlt
          go_wp2_with fail
          refine HC.out _ _ ?_
          clear HC en hd
          obtain ⟨⟨r0, r1, r2, r3, r4⟩, q0, q1, q2, q3, q4⟩ := HT.out.rcells
          have far := HT.out.far
          have B := hid (fun u0 u1 u2 u3 u4 => ((((HT.out.low.setCell (p := ⟨w.heap.size + 1 + 1, 0, none⟩) (by simp only; omega) u0).setCell (p := ⟨w.heap.size + 1 + 1, 1, none⟩) (by simp only; omega) u1).setCell (p := ⟨w.heap.size + 1 + 1, 2, none⟩) (by simp only; omega) u2).setCell (p := ⟨w.heap.size + 1 + 1, 3, none⟩) (by simp only; omega) u3).setCell (p := ⟨w.heap.size + 1 + 1, 4, none⟩) (by simp only; omega) u4)
          have hne : g ≠ w.heap.size + 1 + 1 := by omega
          have hne2 : ¬ (g = w.heap.size + 1 + 1) := by omega
          clear far d0 d1 d2 d3 d4 t0 t1 t2 t3 t4 f3 f4
          by_cases hi0 : i = 0
          · have HE := hid (show bv = false by rw [HV.out]; exact decide_eq_false (by have h1 := HIK.out; have h2 := HK.out; omega))
            have hb0 : ((i : Int) == 0) = true := by rw [beq_iff_eq]; omega
            have HI0 := hid hi0
            clear hi0
            go_wp2_with fail
            refine bodyPost_ret (v := .tuple #[.agg #[.int .i64 0, .int .i64 0, .int .i64 0, .int .i64 0, .int .i64 0], .bool false]) (by simp [results, Tryz.results51, go_sem, *]) rfl ?_
            exact ⟨⟨((0, 0, 0), 0, 0), by rw [HE.out]; rfl⟩, B.out _ _ _ _ _⟩
          · have hb0 : ((i : Int) == 0) = false := by rw [beq_eq_false_iff_ne]; omega
            by_cases hj0 : j = 0
            · have HE := hid (show bv = false by rw [HV.out]; exact decide_eq_false (by have h1 := HJL.out; have h2 := HL.out; omega))
              have hb1 : ((j : Int) == 0) = true := by rw [beq_iff_eq]; omega
              clear hj0 hi0
              go_wp2_with fail
              refine bodyPost_ret (v := .tuple #[.agg #[.int .i64 0, .int .i64 0, .int .i64 0, .int .i64 0, .int .i64 0], .bool false]) (by simp [results, Tryz.results51, go_sem, *]) rfl ?_
              exact ⟨⟨((0, 0, 0), 0, 0), by rw [HE.out]; rfl⟩, B.out _ _ _ _ _⟩
            · have HE := hid (show bv = true by rw [HV.out]; exact decide_eq_true (by have h1 := HJL.out; have h2 := HL.out; have h3 := HIK.out; have h4 := HK.out; omega))
              have hb1 : ((j : Int) == 0) = false := by rw [beq_eq_false_iff_ne]; omega
              clear hj0 hi0
              go_wp2_with fail
              refine bodyPost_ret (v := .tuple #[.agg #[.int .i64 x1, .int .i64 ra, .int .i64 ca, .int .i64 (i : Int), .int .i64 (j : Int)], .bool true]) (by simp [results, Tryz.results51, go_sem, *]) rfl ?_
              exact ⟨⟨((x1, ra, ca), (i : Int), (j : Int)), by rw [HE.out]; rfl⟩, B.out _ _ _ _ _⟩

theorem r2meet_any (x y : PSp) (w : World) : Calls Tryz.prog 51 #[spV x, spV y] w (MeetPost w (decide (meetP x y))) := by
  by_cases h : rightP x ∧ rightP y ∧ x.1.1 = y.1.1
  · exact r2meet_yes x y w h.1 h.2.1 h.2.2
  · exact r2meet_no x y w h
end Go.Proofs.YtmmknjpcffaidaaGreatDoor
