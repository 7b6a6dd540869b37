/- Contracts of the small functions on places, areas and spills. No condition. -/
import Derived.Test.YtpcjfgihglfdgaaGreatDoorRows
import Derived.Test.YtpcjfgihglfdgaaGreatDoorKDkBase
import Derived.BigQuiet
import Derived.BigRegion
import Derived.Deep.QuietTactic
import Derived.RegionTactic
import Derived.ChangeAlike

namespace Go.Proofs.YtpcjfgihglfdgaaGreatDoor
open Go.RowKit Go.Lib

theorem below_drewN {B : Nat} {a b : World} (h : Below B a b) (n : Nat) : Below B a (b.drewN n) := ⟨h.os, h.tape, h.output, h.size, h.block⟩
/-- a place, an area and a spill as values -/
def atC (p : PAt) : List Value := [.int .i64 p.1, .int .i64 p.2.1, .int .i64 p.2.2]
def spC (x : PSp) : List Value := [.int .i64 x.1.1, .int .i64 x.1.2.1, .int .i64 x.1.2.2, .int .i64 x.2.1, .int .i64 x.2.2]
def atV (p : PAt) : Value := .agg #[.int .i64 p.1, .int .i64 p.2.1, .int .i64 p.2.2]
def spV (x : PSp) : Value := .agg #[.int .i64 x.1.1, .int .i64 x.1.2.1, .int .i64 x.1.2.2, .int .i64 x.2.1, .int .i64 x.2.2]

set_option maxHeartbeats 400000 in
theorem rright_any (x : PSp) (w : World) : Calls Tryz.prog 50 #[spV x] w fun e w' => e = .returned (.bool (decide (rightP x))) ∧ Below w.heap.size w w' := by
  obtain ⟨⟨x1, x2, x3⟩, x4, x5⟩ := x
  unfold spV
  go_enter Tryz.func50, Tryz.ntmps50
  go_wp2
  all_goals go_ret
  all_goals exact ⟨ret_bool (by rw [Bool.eq_iff_iff]; simp only [decide_eq_true_eq]; simp [rightP]; try omega), (Below.refl _ w).alloc (Nat.le_refl _) _⟩

set_option maxHeartbeats 400000 in
theorem rright_at (x : PSp) (w : World) : Calls Tryz.prog 50 #[spV x] w fun e w' => e = .returned (.bool (decide (rightP x))) ∧ w' = w.alloc (.cells (spC x).toArray 62) := by
  obtain ⟨⟨x1, x2, x3⟩, x4, x5⟩ := x
  unfold spV
  go_enter Tryz.func50, Tryz.ntmps50
  go_wp2
  all_goals go_ret
  all_goals exact ⟨ret_bool (by rw [Bool.eq_iff_iff]; simp only [decide_eq_true_eq]; simp [rightP]; try omega), rfl⟩

theorem below_meet (w : World) (A B C D E F : Obj) (q : Nat) (u0 u1 u2 u3 u4 : Value) : Below w.heap.size w ((((((((((((w.alloc A).alloc B).alloc C).alloc D).alloc E).drewN q).setCell ⟨w.heap.size + 1 + 1, 0, none⟩ u0).setCell ⟨w.heap.size + 1 + 1, 1, none⟩ u1).setCell ⟨w.heap.size + 1 + 1, 2, none⟩ u2).setCell ⟨w.heap.size + 1 + 1, 3, none⟩ u3).setCell ⟨w.heap.size + 1 + 1, 4, none⟩ u4).alloc F) := by
  have h1 : Below w.heap.size w (((((w.alloc A).alloc B).alloc C).alloc D).alloc E) := (((((Below.refl _ w).alloc (Nat.le_refl _) _).alloc (by simp) _).alloc (by simp; omega) _).alloc (by simp; omega) _).alloc (by simp; omega) _
  have h2 := (((((below_drewN h1 q).setCell (p := ⟨w.heap.size + 1 + 1, 0, none⟩) (by simp; omega) u0).setCell (p := ⟨w.heap.size + 1 + 1, 1, none⟩) (by simp; omega) u1).setCell (p := ⟨w.heap.size + 1 + 1, 2, none⟩) (by simp; omega) u2).setCell (p := ⟨w.heap.size + 1 + 1, 3, none⟩) (by simp; omega) u3).setCell (p := ⟨w.heap.size + 1 + 1, 4, none⟩) (by simp; omega) u4
  exact h2.alloc h2.size F
def MeetPost (w : World) (b : Bool) (e : Ending) (w' : World) : Prop := (∃ z, e = .returned (.tuple #[spV z, .bool b])) ∧ Below w.heap.size w w'
set_option maxHeartbeats 1000000 in
theorem meet_any (x y : PSp) (w : World) : Calls Tryz.prog 15 #[spV x, spV y] w (MeetPost w (decide (meetP x y))) := by
  have h1 := rright_at x
  have h2 := rright_at y
  have b0 : ∀ A B C D, Below w.heap.size w ((((w.alloc A).alloc B).alloc C).alloc D) := fun A B C D => ((((Below.refl _ w).alloc (Nat.le_refl _) _).alloc (by simp) _).alloc (by simp; omega) _).alloc (by simp; omega) _
  have B0 := hid b0
  clear b0
  by_cases hx : rightP x
  · rw [decide_eq_true hx] at h1
    by_cases hy : rightP y
    · rw [decide_eq_true hy] at h2
      have H1 := hid h1
      have H2 := hid h2
      clear h1 h2
      obtain ⟨⟨x1, x2, x3⟩, x4, x5⟩ := x
      obtain ⟨⟨y1, y2, y3⟩, y4, y5⟩ := y
      have e : decide (meetP ((x1, x2, x3), x4, x5) ((y1, y2, y3), y4, y5)) = decide (x1 = y1 ∧ 1 ≤ min (x2 + x4) (y2 + y4) - max x2 y2 ∧ 1 ≤ min (x3 + x5) (y3 + y5) - max x3 y3) := by
        rw [decide_eq_decide]
        exact ⟨fun h => h.2.2, fun h => ⟨hx, hy, h⟩⟩
      rw [e]
      clear e
      obtain ⟨bv, hbv⟩ : ∃ bv, bv = decide (x1 = y1 ∧ 1 ≤ min (x2 + x4) (y2 + y4) - max x2 y2 ∧ 1 ≤ min (x3 + x5) (y3 + y5) - max x3 y3) := ⟨_, rfl⟩
      rw [← hbv]
      have HBV := hid hbv
      clear hbv
      unfold rightP at hx hy
      dsimp only at hx hy
      obtain ⟨a1, a2, a3, a4, a5, a6, a7, a8, a9, a10⟩ := hx
      obtain ⟨c1, c2, c3, c4, c5, c6, c7, c8, c9, c10⟩ := hy
      unfold spV spC at *
      go_enter Tryz.func15, Tryz.ntmps15
      go_wp2_with fail
      refine (H1.out _).mono ?_
      rintro e w1 ⟨rfl, rfl⟩
      go_wp2_with fail
      refine (H2.out _).mono ?_
      rintro e w1 ⟨rfl, rfl⟩
      by_cases he : x1 = y1
      · go_wp2_with fail
        go_quiet (fail)
        have er : (if x2 < y2 then y2 else x2) = max x2 y2 := by split <;> omega
        have ec : (if x3 < y3 then y3 else x3) = max x3 y3 := by split <;> omega
        rw [er, ec]
        clear er ec
        obtain ⟨r, hr⟩ : ∃ r, r = max x2 y2 := ⟨_, rfl⟩
        obtain ⟨c, hc⟩ : ∃ c, c = max x3 y3 := ⟨_, rfl⟩
        rw [← hr, ← hc]
        have hr1 : 0 ≤ r := by omega
        have hr2 : r < 200 := by omega
        have hc1 : 0 ≤ c := by omega
        have hc2 : c < 52 := by omega
        obtain ⟨m, hm⟩ : ∃ m, m = min (x2 + x4) (y2 + y4) := ⟨_, rfl⟩
        obtain ⟨n, hn⟩ : ∃ n, n = min (x3 + x5) (y3 + y5) := ⟨_, rfl⟩
        have em : (if y2 + y4 < x2 + x4 then y2 + y4 else x2 + x4) = m := by rw [hm]; split <;> omega
        have en : (if y3 + y5 < x3 + x5 then y3 + y5 else x3 + x5) = n := by rw [hn]; split <;> omega
        have hm1 : 0 ≤ m := by omega
        have hm2 : m ≤ 400 := by omega
        have hn1 : 0 ≤ n := by omega
        have hn2 : n ≤ 400 := by omega
        have HBW := HBV.out
        rw [← hm, ← hn, ← hr, ← hc] at HBW
        have HBX := hid HBW
        clear hm hn hr hc HBW
        by_cases hC : 1 ≤ m - r
        · by_cases hD : 1 ≤ n - c
          · go_wp2_with fail
            refine bodyPost_ret (v := .tuple #[.agg #[.int .i64 y1, .int .i64 r, .int .i64 c, .int .i64 (m - r), .int .i64 (n - c)], .bool true]) (by simp [results, Tryz.results15, go_sem]) rfl ?_
            exact ⟨⟨((y1, r, c), m - r, n - c), by rw [HBX.out, decide_eq_true ⟨he, hC, hD⟩]; rfl⟩, below_meet _ _ _ _ _ _ _ _ _ _ _ _ _⟩
          · go_wp2_with fail
            refine bodyPost_ret (v := .tuple #[.agg #[.int .i64 0, .int .i64 0, .int .i64 0, .int .i64 0, .int .i64 0], .bool false]) (by simp [results, Tryz.results15, go_sem]) rfl ?_
            exact ⟨⟨((0, 0, 0), 0, 0), by rw [HBX.out, decide_eq_false (fun h => by omega)]; rfl⟩, below_meet _ _ _ _ _ _ _ _ _ _ _ _ _⟩
        · go_wp2_with fail
          refine bodyPost_ret (v := .tuple #[.agg #[.int .i64 0, .int .i64 0, .int .i64 0, .int .i64 0, .int .i64 0], .bool false]) (by simp [results, Tryz.results15, go_sem]) rfl ?_
          exact ⟨⟨((0, 0, 0), 0, 0), by rw [HBX.out, decide_eq_false (fun h => by omega)]; rfl⟩, below_meet _ _ _ _ _ _ _ _ _ _ _ _ _⟩
      · go_wp2_with fail
        refine bodyPost_ret (v := .tuple #[.agg #[.int .i64 0, .int .i64 0, .int .i64 0, .int .i64 0, .int .i64 0], .bool false]) (by simp [results, Tryz.results15, go_sem]) rfl ?_
        exact ⟨⟨((0, 0, 0), 0, 0), by rw [HBV.out, decide_eq_false (fun h => he h.1)]; rfl⟩, (B0.out _ _ _ _).alloc (by simp; omega) _⟩
    · rw [decide_eq_false hy] at h2
      have hm : decide (meetP x y) = false := decide_eq_false fun h => hy h.2.1
      rw [hm]
      have H1 := hid h1
      have H2 := hid h2
      clear h1 h2 hx hy hm
      unfold spV spC at *
      go_enter Tryz.func15, Tryz.ntmps15
      go_wp2_with fail
      refine (H1.out _).mono ?_
      rintro e w1 ⟨rfl, rfl⟩
      go_wp2_with fail
      refine (H2.out _).mono ?_
      rintro e w1 ⟨rfl, rfl⟩
      go_wp2_with fail
      refine bodyPost_ret (v := .tuple #[.agg #[.int .i64 0, .int .i64 0, .int .i64 0, .int .i64 0, .int .i64 0], .bool false]) (by simp [results, Tryz.results15, go_sem]) rfl ?_
      exact ⟨⟨((0, 0, 0), 0, 0), rfl⟩, (B0.out _ _ _ _).alloc (by simp; omega) _⟩
  · rw [decide_eq_false hx] at h1
    have hm : decide (meetP x y) = false := decide_eq_false fun h => hx h.1
    rw [hm]
    have H1 := hid h1
    clear h1 h2 hx hm
    unfold spV spC at *
    go_enter Tryz.func15, Tryz.ntmps15
    go_wp2_with fail
    refine (H1.out _).mono ?_
    rintro e w1 ⟨rfl, rfl⟩
    go_wp2_with fail
    refine bodyPost_ret (v := .tuple #[.agg #[.int .i64 0, .int .i64 0, .int .i64 0, .int .i64 0, .int .i64 0], .bool false]) (by simp [results, Tryz.results15, go_sem]) rfl ?_
    exact ⟨⟨((0, 0, 0), 0, 0), rfl⟩, B0.out _ _ _ _⟩
end Go.Proofs.YtpcjfgihglfdgaaGreatDoor
