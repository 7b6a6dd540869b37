/- Contract of tree.bare at a number's node. No condition. -/
import Derived.Test.YtmmknjpcffaidaaGreatDoorSpTreeD
namespace Go.Proofs.YtmmknjpcffaidaaGreatDoor
open Go.RowKit Go.Lib

theorem end_one {A G : World → Prop} {Q : Prop} (main : (∀ w, A w → G w) → Q) (tail : ∀ w, A w → G w) : Q := main tail
theorem node_ten : (nodeL 1 0).toArray.all (·.oneCell') = true := by kernel_rfl
set_option maxRecDepth 20000 in
set_option maxHeartbeats 4000000 in
theorem bare_one : BareOk := by
  intro w
  have A1 : Nx w.heap.size 1 1 (((w.alloc (.cells (nodeL 1 1).toArray 106)).alloc (.cells (nodeL 0 0).toArray 106)).setRow (w.heap.size + 1) (nodeL 1 0).toArray) := heap_setRow_far (heap_alloc_keep (heap_alloc_new w _) _) (by omega) _
  have W1 : Nx (w.heap.size + 1) 1 0 (((w.alloc (.cells (nodeL 1 1).toArray 106)).alloc (.cells (nodeL 0 0).toArray 106)).setRow (w.heap.size + 1) (nodeL 1 0).toArray) := heap_setRow_at (heap_alloc2_new w _ _)
  have B1 := hid (((((Chg.refl [] w).alloc (.cells (nodeL 1 1).toArray 106)).alloc (.cells (nodeL 0 0).toArray 106)).setRow (g := w.heap.size + 1) (.inr (by omega)) (nodeL 1 0).toArray).nil_below)
  have a0 := cell_of (i := 0) A1 rfl
  have HA := hid A1
  have HW := hid W1
  clear A1 W1
  go_enter Tryz.func286, Tryz.ntmps286
  generalize h37 : Code.seq (Code.region 37 _ _) _ = c37
  generalize Code.seq (Code.region 7 _ _) _ = cB
  go_wp2_with (refine wpList_store_row rfl 106 _ _ rfl (w.heap.size + 1) (nodeL 1 0).toArray rfl rfl 106 _ (heap_alloc2_new w _ _) (node_info 1 0) (by rfl) node_ten ?_)
  clear a0
  generalize World.setRow _ _ _ = w1 at HA HW B1 ⊢
  obtain ⟨g, hg⟩ : ∃ g, g = w.heap.size := ⟨_, rfl⟩
  obtain ⟨g3, hg3⟩ : ∃ g3, g3 = w.heap.size + 1 := ⟨_, rfl⟩
  rw [← hg] at HA
  rw [← hg3] at HW
  rw [← hg3, ← hg]
  have hgg : g ≠ g3 := by omega
  have hgg' : g3 ≠ g := by omega
  have HG3 := hid (show w.heap.size ≤ g3 by omega)
  clear hg hg3
  have b0 : w1.cell? ⟨g, 2, none⟩ = some (.int .i64 1) := cell_of HA.out rfl
  have b1 : w1.cell? ⟨g, 3, none⟩ = some (.int .i64 0) := cell_of HA.out rfl
  have e2 : w1.cell? ⟨g3, 2, none⟩ = some (.int .i64 0) := cell_of HW.out rfl
  have e3 : w1.cell? ⟨g3, 3, none⟩ = some (.int .i64 0) := cell_of HW.out rfl
  have f2 : w1.frozen? ⟨g3, 2, none⟩ = false := free_of HW.out
  have f3 : w1.frozen? ⟨g3, 3, none⟩ = false := free_of HW.out
  have HDR := hid (fun w => decRight_one w)
  apply end_one (A := fun y => Nx g 1 1 y ∧ Nx g3 1 1 y ∧ Below w.heap.size w y)
  · intro key
    go_region_with (first | (go_at_call 331; refine (HDR.out _).mono ?_; rintro e w2 ⟨rfl, b2⟩; have HA2 := hid (HA.out.keep ((Below.refl w1.heap.size w1).drew.trans b2)); have HW2 := hid (HW.out.keep ((Below.refl w1.heap.size w1).drew.trans b2)); have HB2 := hid (B1.out.trans (((Below.refl w1.heap.size w1).drew.trans b2).mono B1.out.size)); have b0' : w2.cell? ⟨g, 2, none⟩ = some (.int .i64 1) := cell_of HA2.out rfl; have b1' : w2.cell? ⟨g, 3, none⟩ = some (.int .i64 0) := cell_of HA2.out rfl; have e2' : w2.cell? ⟨g3, 2, none⟩ = some (.int .i64 0) := cell_of HW2.out rfl; have e3' : w2.cell? ⟨g3, 3, none⟩ = some (.int .i64 0) := cell_of HW2.out rfl; have f2' : w2.frozen? ⟨g3, 2, none⟩ = false := free_of HW2.out; have f3' : w2.frozen? ⟨g3, 3, none⟩ = false := free_of HW2.out))
    all_goals (try go_simp)
    all_goals exact key _ ⟨heap_setCell_far (heap_setCell_far HA2.out hgg _) hgg _, heap_setCell_at (i := 3) (heap_setCell_at (i := 2) HW2.out (.int .i64 1)) (.int .i64 0), (HB2.out.setCell HG3.out _).setCell HG3.out _⟩
  · rintro y ⟨y1, y2, y3⟩
    have HY1 := hid y1
    have HY2 := hid y2
    have HY3 := hid y3
    clear y1 y2 y3 b0 b1 e2 e3 f2 f3 HA HW B1
    have x1 : y.cell? ⟨g, 1, none⟩ = some (.string ⟨#[]⟩) := cell_of HY1.out rfl
    have z1 : y.cell? ⟨g3, 1, none⟩ = some (.string ⟨#[]⟩) := cell_of HY2.out rfl
    have x2 : y.cell? ⟨g, 2, none⟩ = some (.int .i64 1) := cell_of HY1.out rfl
    have z2 : y.cell? ⟨g3, 2, none⟩ = some (.int .i64 1) := cell_of HY2.out rfl
    have x3 : y.cell? ⟨g, 3, none⟩ = some (.int .i64 0) := cell_of HY1.out rfl
    have z3 : y.cell? ⟨g3, 3, none⟩ = some (.int .i64 0) := cell_of HY2.out rfl
    have x4 : y.cell? ⟨g, 4, none⟩ = some (.bool false) := cell_of HY1.out rfl
    have z4 : y.cell? ⟨g3, 4, none⟩ = some (.bool false) := cell_of HY2.out rfl
    have x5 : y.cell? ⟨g, 5, none⟩ = some (.int .i64 0) := cell_of HY1.out rfl
    have z5 : y.cell? ⟨g3, 5, none⟩ = some (.int .i64 0) := cell_of HY2.out rfl
    have x6 : y.cell? ⟨g, 6, none⟩ = some (.string ⟨#[]⟩) := cell_of HY1.out rfl
    have z6 : y.cell? ⟨g3, 6, none⟩ = some (.string ⟨#[]⟩) := cell_of HY2.out rfl
    have x7 : y.cell? ⟨g, 7, none⟩ = some (.int .i64 0) := cell_of HY1.out rfl
    have z7 : y.cell? ⟨g3, 7, none⟩ = some (.int .i64 0) := cell_of HY2.out rfl
    have x8 : y.cell? ⟨g, 8, none⟩ = some (.int .i64 0) := cell_of HY1.out rfl
    have z8 : y.cell? ⟨g3, 8, none⟩ = some (.int .i64 0) := cell_of HY2.out rfl
    have x9 : y.cell? ⟨g, 9, none⟩ = some (.bool false) := cell_of HY1.out rfl
    have z9 : y.cell? ⟨g3, 9, none⟩ = some (.bool false) := cell_of HY2.out rfl
    have x10 : y.cell? ⟨g, 10, none⟩ = some (.bool false) := cell_of HY1.out rfl
    have z10 : y.cell? ⟨g3, 10, none⟩ = some (.bool false) := cell_of HY2.out rfl
    have x11 : y.cell? ⟨g, 11, none⟩ = some (.bool false) := cell_of HY1.out rfl
    have z11 : y.cell? ⟨g3, 11, none⟩ = some (.bool false) := cell_of HY2.out rfl
    have x12 : y.cell? ⟨g, 12, none⟩ = some (.string ⟨#[]⟩) := cell_of HY1.out rfl
    have z12 : y.cell? ⟨g3, 12, none⟩ = some (.string ⟨#[]⟩) := cell_of HY2.out rfl
    have x13 : y.cell? ⟨g, 13, none⟩ = some (.int .i64 0) := cell_of HY1.out rfl
    have z13 : y.cell? ⟨g3, 13, none⟩ = some (.int .i64 0) := cell_of HY2.out rfl
    have x14 : y.cell? ⟨g, 14, none⟩ = some (.int .i64 0) := cell_of HY1.out rfl
    have z14 : y.cell? ⟨g3, 14, none⟩ = some (.int .i64 0) := cell_of HY2.out rfl
    have x15 : y.cell? ⟨g, 15, none⟩ = some (.bool false) := cell_of HY1.out rfl
    have z15 : y.cell? ⟨g3, 15, none⟩ = some (.bool false) := cell_of HY2.out rfl
    have x16 : y.cell? ⟨g, 16, none⟩ = some (.bool false) := cell_of HY1.out rfl
    have z16 : y.cell? ⟨g3, 16, none⟩ = some (.bool false) := cell_of HY2.out rfl
    have x17 : y.cell? ⟨g, 17, none⟩ = some (.bool false) := cell_of HY1.out rfl
    have z17 : y.cell? ⟨g3, 17, none⟩ = some (.bool false) := cell_of HY2.out rfl
    have x18 : y.cell? ⟨g, 18, none⟩ = some (.int .i64 0) := cell_of HY1.out rfl
    have z18 : y.cell? ⟨g3, 18, none⟩ = some (.int .i64 0) := cell_of HY2.out rfl
    have q1 := fun w => eq_dec_same w
    have q2 := fun w => eq_ref_same w
    subst h37
    clear HY1 HY2 hgg hgg' HG3 HDR
    go_wp2_with fail
    go_ret
    exact ⟨rfl, HY3.out⟩
end Go.Proofs.YtmmknjpcffaidaaGreatDoor
