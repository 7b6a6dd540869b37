/- Contracts of tree.bare at the nodes of the law's formulas. Condition: utf8's tables lie as they were laid (at a call). -/
import Derived.Test.YtpcjfgihglfdgaaGreatDoorKChOne

namespace Go.Proofs.YtpcjfgihglfdgaaGreatDoor
open Go.RowKit Go.Lib

theorem Nd.drew {g : Nat} {R : List Value} {w : World} (h : Nd g R w) : Nd g R w.drew := h
theorem Nd.off {g : Nat} {R : List Value} {w : World} (h : Nd g R w) {b : Nat} (hn : g ≠ b) (i : Nat) (v : Value) : Nd g R (w.setCell ⟨b, i, none⟩ v) := heap_setCell_far h hn v
theorem Nd.set {g : Nat} {R R2 : List Value} {w : World} (h : Nd g R w) (i : Nat) (v : Value) (hr : R.toArray.setIfInBounds i v = R2.toArray) : Nd g R2 (w.setCell ⟨g, i, none⟩ v) := by
  have := heap_setCell_at (i := i) h v
  rw [hr] at this
  exact this
set_option maxRecDepth 20000 in
set_option maxHeartbeats 4000000 in
theorem bare_range (r t : Int) (w : World)(hr : 0 ≤ r ∧ r < 200) (ht : 0 ≤ t ∧ t < 200) : Calls Tryz.prog 214 #[.agg (ndL 6 ⟨#[]⟩ 0 r t nilV).toArray] w fun e w' => e = .returned (.bool true) ∧ Below w.heap.size w w' := by
  have HDR := hid (fun (r : Int) (hr : 0 ≤ r ∧ r < 200) w => show Calls Tryz.prog 36 #[.agg (refZL r).toArray] w fun e w' => e = .returned (.bool true) ∧ Below w.heap.size w w' from by
    obtain ⟨m, hm⟩ := Int.eq_ofNat_of_zero_le hr.1
    subst hm
    exact refRight_any m (by omega) w)
  have HEQ := hid (fun w => eq_ref_n r hr w)
  have HEZ := hid (fun w => eq_ref_n t ht w)
  have HED := hid (fun w => eq_dec_n 0 (.inl rfl) w)
  have HRT := hid (show _ ∧ _ from ⟨hr, ht⟩)
  clear hr ht
  have A1 : Nd w.heap.size (ndL 6 ⟨#[]⟩ 0 r t nilV) (((w.alloc (.cells (ndL 6 ⟨#[]⟩ 0 r t nilV).toArray 79)).alloc (.cells (ndL 0 ⟨#[]⟩ 0 0 0 nilV).toArray 79)).setRow (w.heap.size + 1) (ndL 6 ⟨#[]⟩ 0 0 0 nilV).toArray) := heap_setRow_far (heap_alloc_keep (heap_alloc_new w _) _) (by omega) _
  have W1 : Nd (w.heap.size + 1) (ndL 6 ⟨#[]⟩ 0 0 0 nilV) (((w.alloc (.cells (ndL 6 ⟨#[]⟩ 0 r t nilV).toArray 79)).alloc (.cells (ndL 0 ⟨#[]⟩ 0 0 0 nilV).toArray 79)).setRow (w.heap.size + 1) (ndL 6 ⟨#[]⟩ 0 0 0 nilV).toArray) := heap_setRow_at (heap_alloc2_new w _ _)
  have B1 := hid (((((Chg.refl [] w).alloc (.cells (ndL 6 ⟨#[]⟩ 0 r t nilV).toArray 79)).alloc (.cells (ndL 0 ⟨#[]⟩ 0 0 0 nilV).toArray 79)).setRow (g := w.heap.size + 1) (.inr (by omega)) (ndL 6 ⟨#[]⟩ 0 0 0 nilV).toArray).nil_below)
  have a0 := cell_of (i := 0) A1 rfl
  have HA := hid A1
  have HW := hid W1
  clear A1 W1
  go_enter Tryz.func214, Tryz.ntmps214
  generalize h37 : Code.seq (Code.region 37 _ _) _ = c37
  generalize Code.seq (Code.region 18 _ _) _ = cB
  go_wp2_with (refine wpList_store_row rfl 79 _ _ rfl (w.heap.size + 1) (ndL 6 ⟨#[]⟩ 0 0 0 nilV).toArray rfl rfl 79 _ (heap_alloc2_new w _ _) (nd_info 6 ⟨#[]⟩ 0 0 0 nilV) (by rfl) (nd_one 6 ⟨#[]⟩ 0 0 0 none 0 0) ?_)
  clear a0
  generalize World.setRow _ _ _ = w1 at HA HW B1 ⊢
  obtain ⟨g, hg⟩ : ∃ g, g = w.heap.size := ⟨_, rfl⟩
  obtain ⟨g3, hg3⟩ : ∃ g3, g3 = w.heap.size + 1 := ⟨_, rfl⟩
  rw [← hg] at HA
  rw [← hg3] at HW
  rw [← hg3, ← hg]
  have hgg : g ≠ g3 := by omega
  have hgg' : g3 ≠ g := by omega
  have HG3 := hid (show w.heap.size ≤ g3 by omega)
  clear hg hg3
  have b6 : w1.cell? ⟨g, 6, none⟩ = some (.string ⟨#[]⟩) := cell_of HA.out rfl
  have b7 : w1.cell? ⟨g, 7, none⟩ = some (.int .i64 r) := cell_of HA.out rfl
  have b8 : w1.cell? ⟨g, 8, none⟩ = some (.int .i64 0) := cell_of HA.out rfl
  have b9 : w1.cell? ⟨g, 9, none⟩ = some (.bool false) := cell_of HA.out rfl
  have b10 : w1.cell? ⟨g, 10, none⟩ = some (.bool false) := cell_of HA.out rfl
  have b11 : w1.cell? ⟨g, 11, none⟩ = some (.bool false) := cell_of HA.out rfl
  have b12 : w1.cell? ⟨g, 12, none⟩ = some (.string ⟨#[]⟩) := cell_of HA.out rfl
  have b13 : w1.cell? ⟨g, 13, none⟩ = some (.int .i64 t) := cell_of HA.out rfl
  have b14 : w1.cell? ⟨g, 14, none⟩ = some (.int .i64 0) := cell_of HA.out rfl
  have b15 : w1.cell? ⟨g, 15, none⟩ = some (.bool false) := cell_of HA.out rfl
  have b16 : w1.cell? ⟨g, 16, none⟩ = some (.bool false) := cell_of HA.out rfl
  have b17 : w1.cell? ⟨g, 17, none⟩ = some (.bool false) := cell_of HA.out rfl
  have e6 : w1.cell? ⟨g3, 6, none⟩ = some (.string ⟨#[]⟩) := cell_of HW.out rfl
  have e7 : w1.cell? ⟨g3, 7, none⟩ = some (.int .i64 0) := cell_of HW.out rfl
  have e8 : w1.cell? ⟨g3, 8, none⟩ = some (.int .i64 0) := cell_of HW.out rfl
  have e9 : w1.cell? ⟨g3, 9, none⟩ = some (.bool false) := cell_of HW.out rfl
  have e10 : w1.cell? ⟨g3, 10, none⟩ = some (.bool false) := cell_of HW.out rfl
  have e11 : w1.cell? ⟨g3, 11, none⟩ = some (.bool false) := cell_of HW.out rfl
  have e12 : w1.cell? ⟨g3, 12, none⟩ = some (.string ⟨#[]⟩) := cell_of HW.out rfl
  have e13 : w1.cell? ⟨g3, 13, none⟩ = some (.int .i64 0) := cell_of HW.out rfl
  have e14 : w1.cell? ⟨g3, 14, none⟩ = some (.int .i64 0) := cell_of HW.out rfl
  have e15 : w1.cell? ⟨g3, 15, none⟩ = some (.bool false) := cell_of HW.out rfl
  have e16 : w1.cell? ⟨g3, 16, none⟩ = some (.bool false) := cell_of HW.out rfl
  have e17 : w1.cell? ⟨g3, 17, none⟩ = some (.bool false) := cell_of HW.out rfl
  have f6 : w1.frozen? ⟨g3, 6, none⟩ = false := free_of HW.out
  have f7 : w1.frozen? ⟨g3, 7, none⟩ = false := free_of HW.out
  have f8 : w1.frozen? ⟨g3, 8, none⟩ = false := free_of HW.out
  have f9 : w1.frozen? ⟨g3, 9, none⟩ = false := free_of HW.out
  have f10 : w1.frozen? ⟨g3, 10, none⟩ = false := free_of HW.out
  have f11 : w1.frozen? ⟨g3, 11, none⟩ = false := free_of HW.out
  have f12 : w1.frozen? ⟨g3, 12, none⟩ = false := free_of HW.out
  have f13 : w1.frozen? ⟨g3, 13, none⟩ = false := free_of HW.out
  have f14 : w1.frozen? ⟨g3, 14, none⟩ = false := free_of HW.out
  have f15 : w1.frozen? ⟨g3, 15, none⟩ = false := free_of HW.out
  have f16 : w1.frozen? ⟨g3, 16, none⟩ = false := free_of HW.out
  have f17 : w1.frozen? ⟨g3, 17, none⟩ = false := free_of HW.out
  apply end_one (A := fun y => Nd g (ndL 6 ⟨#[]⟩ 0 r t nilV) y ∧ Nd g3 (ndL 6 ⟨#[]⟩ 0 r t nilV) y ∧ Below w.heap.size w y)
  · intro key
    have s6 : Nd g3 [.int .i64 6, .string ⟨#[]⟩, .int .i64 0, .int .i64 0, .bool false, .int .i64 0, .string ⟨#[]⟩, .int .i64 0, .int .i64 0, .bool false, .bool false, .bool false, .string ⟨#[]⟩, .int .i64 0, .int .i64 0, .bool false, .bool false, .bool false, .int .i64 0, nilV] (w1.setCell ⟨g3, 6, none⟩ (.string ⟨#[]⟩)) := Nd.set HW.out 6 (.string ⟨#[]⟩) rfl
    have s7 : Nd g3 [.int .i64 6, .string ⟨#[]⟩, .int .i64 0, .int .i64 0, .bool false, .int .i64 0, .string ⟨#[]⟩, .int .i64 r, .int .i64 0, .bool false, .bool false, .bool false, .string ⟨#[]⟩, .int .i64 0, .int .i64 0, .bool false, .bool false, .bool false, .int .i64 0, nilV] ((w1.setCell ⟨g3, 6, none⟩ (.string ⟨#[]⟩)).setCell ⟨g3, 7, none⟩ (.int .i64 r)) := Nd.set s6 7 (.int .i64 r) rfl
    have s8 : Nd g3 [.int .i64 6, .string ⟨#[]⟩, .int .i64 0, .int .i64 0, .bool false, .int .i64 0, .string ⟨#[]⟩, .int .i64 r, .int .i64 0, .bool false, .bool false, .bool false, .string ⟨#[]⟩, .int .i64 0, .int .i64 0, .bool false, .bool false, .bool false, .int .i64 0, nilV] (((w1.setCell ⟨g3, 6, none⟩ (.string ⟨#[]⟩)).setCell ⟨g3, 7, none⟩ (.int .i64 r)).setCell ⟨g3, 8, none⟩ (.int .i64 0)) := Nd.set s7 8 (.int .i64 0) rfl
    have s9 : Nd g3 [.int .i64 6, .string ⟨#[]⟩, .int .i64 0, .int .i64 0, .bool false, .int .i64 0, .string ⟨#[]⟩, .int .i64 r, .int .i64 0, .bool false, .bool false, .bool false, .string ⟨#[]⟩, .int .i64 0, .int .i64 0, .bool false, .bool false, .bool false, .int .i64 0, nilV] ((((w1.setCell ⟨g3, 6, none⟩ (.string ⟨#[]⟩)).setCell ⟨g3, 7, none⟩ (.int .i64 r)).setCell ⟨g3, 8, none⟩ (.int .i64 0)).setCell ⟨g3, 9, none⟩ (.bool false)) := Nd.set s8 9 (.bool false) rfl
    have s10 : Nd g3 [.int .i64 6, .string ⟨#[]⟩, .int .i64 0, .int .i64 0, .bool false, .int .i64 0, .string ⟨#[]⟩, .int .i64 r, .int .i64 0, .bool false, .bool false, .bool false, .string ⟨#[]⟩, .int .i64 0, .int .i64 0, .bool false, .bool false, .bool false, .int .i64 0, nilV] (((((w1.setCell ⟨g3, 6, none⟩ (.string ⟨#[]⟩)).setCell ⟨g3, 7, none⟩ (.int .i64 r)).setCell ⟨g3, 8, none⟩ (.int .i64 0)).setCell ⟨g3, 9, none⟩ (.bool false)).setCell ⟨g3, 10, none⟩ (.bool false)) := Nd.set s9 10 (.bool false) rfl
    have s11 : Nd g3 [.int .i64 6, .string ⟨#[]⟩, .int .i64 0, .int .i64 0, .bool false, .int .i64 0, .string ⟨#[]⟩, .int .i64 r, .int .i64 0, .bool false, .bool false, .bool false, .string ⟨#[]⟩, .int .i64 0, .int .i64 0, .bool false, .bool false, .bool false, .int .i64 0, nilV] ((((((w1.setCell ⟨g3, 6, none⟩ (.string ⟨#[]⟩)).setCell ⟨g3, 7, none⟩ (.int .i64 r)).setCell ⟨g3, 8, none⟩ (.int .i64 0)).setCell ⟨g3, 9, none⟩ (.bool false)).setCell ⟨g3, 10, none⟩ (.bool false)).setCell ⟨g3, 11, none⟩ (.bool false)) := Nd.set s10 11 (.bool false) rfl
    have s12 : Nd g3 [.int .i64 6, .string ⟨#[]⟩, .int .i64 0, .int .i64 0, .bool false, .int .i64 0, .string ⟨#[]⟩, .int .i64 r, .int .i64 0, .bool false, .bool false, .bool false, .string ⟨#[]⟩, .int .i64 0, .int .i64 0, .bool false, .bool false, .bool false, .int .i64 0, nilV] (((((((w1.setCell ⟨g3, 6, none⟩ (.string ⟨#[]⟩)).setCell ⟨g3, 7, none⟩ (.int .i64 r)).setCell ⟨g3, 8, none⟩ (.int .i64 0)).setCell ⟨g3, 9, none⟩ (.bool false)).setCell ⟨g3, 10, none⟩ (.bool false)).setCell ⟨g3, 11, none⟩ (.bool false)).setCell ⟨g3, 12, none⟩ (.string ⟨#[]⟩)) := Nd.set s11 12 (.string ⟨#[]⟩) rfl
    have s13 : Nd g3 [.int .i64 6, .string ⟨#[]⟩, .int .i64 0, .int .i64 0, .bool false, .int .i64 0, .string ⟨#[]⟩, .int .i64 r, .int .i64 0, .bool false, .bool false, .bool false, .string ⟨#[]⟩, .int .i64 t, .int .i64 0, .bool false, .bool false, .bool false, .int .i64 0, nilV] ((((((((w1.setCell ⟨g3, 6, none⟩ (.string ⟨#[]⟩)).setCell ⟨g3, 7, none⟩ (.int .i64 r)).setCell ⟨g3, 8, none⟩ (.int .i64 0)).setCell ⟨g3, 9, none⟩ (.bool false)).setCell ⟨g3, 10, none⟩ (.bool false)).setCell ⟨g3, 11, none⟩ (.bool false)).setCell ⟨g3, 12, none⟩ (.string ⟨#[]⟩)).setCell ⟨g3, 13, none⟩ (.int .i64 t)) := Nd.set s12 13 (.int .i64 t) rfl
    have s14 : Nd g3 [.int .i64 6, .string ⟨#[]⟩, .int .i64 0, .int .i64 0, .bool false, .int .i64 0, .string ⟨#[]⟩, .int .i64 r, .int .i64 0, .bool false, .bool false, .bool false, .string ⟨#[]⟩, .int .i64 t, .int .i64 0, .bool false, .bool false, .bool false, .int .i64 0, nilV] (((((((((w1.setCell ⟨g3, 6, none⟩ (.string ⟨#[]⟩)).setCell ⟨g3, 7, none⟩ (.int .i64 r)).setCell ⟨g3, 8, none⟩ (.int .i64 0)).setCell ⟨g3, 9, none⟩ (.bool false)).setCell ⟨g3, 10, none⟩ (.bool false)).setCell ⟨g3, 11, none⟩ (.bool false)).setCell ⟨g3, 12, none⟩ (.string ⟨#[]⟩)).setCell ⟨g3, 13, none⟩ (.int .i64 t)).setCell ⟨g3, 14, none⟩ (.int .i64 0)) := Nd.set s13 14 (.int .i64 0) rfl
    have s15 : Nd g3 [.int .i64 6, .string ⟨#[]⟩, .int .i64 0, .int .i64 0, .bool false, .int .i64 0, .string ⟨#[]⟩, .int .i64 r, .int .i64 0, .bool false, .bool false, .bool false, .string ⟨#[]⟩, .int .i64 t, .int .i64 0, .bool false, .bool false, .bool false, .int .i64 0, nilV] ((((((((((w1.setCell ⟨g3, 6, none⟩ (.string ⟨#[]⟩)).setCell ⟨g3, 7, none⟩ (.int .i64 r)).setCell ⟨g3, 8, none⟩ (.int .i64 0)).setCell ⟨g3, 9, none⟩ (.bool false)).setCell ⟨g3, 10, none⟩ (.bool false)).setCell ⟨g3, 11, none⟩ (.bool false)).setCell ⟨g3, 12, none⟩ (.string ⟨#[]⟩)).setCell ⟨g3, 13, none⟩ (.int .i64 t)).setCell ⟨g3, 14, none⟩ (.int .i64 0)).setCell ⟨g3, 15, none⟩ (.bool false)) := Nd.set s14 15 (.bool false) rfl
    have s16 : Nd g3 [.int .i64 6, .string ⟨#[]⟩, .int .i64 0, .int .i64 0, .bool false, .int .i64 0, .string ⟨#[]⟩, .int .i64 r, .int .i64 0, .bool false, .bool false, .bool false, .string ⟨#[]⟩, .int .i64 t, .int .i64 0, .bool false, .bool false, .bool false, .int .i64 0, nilV] (((((((((((w1.setCell ⟨g3, 6, none⟩ (.string ⟨#[]⟩)).setCell ⟨g3, 7, none⟩ (.int .i64 r)).setCell ⟨g3, 8, none⟩ (.int .i64 0)).setCell ⟨g3, 9, none⟩ (.bool false)).setCell ⟨g3, 10, none⟩ (.bool false)).setCell ⟨g3, 11, none⟩ (.bool false)).setCell ⟨g3, 12, none⟩ (.string ⟨#[]⟩)).setCell ⟨g3, 13, none⟩ (.int .i64 t)).setCell ⟨g3, 14, none⟩ (.int .i64 0)).setCell ⟨g3, 15, none⟩ (.bool false)).setCell ⟨g3, 16, none⟩ (.bool false)) := Nd.set s15 16 (.bool false) rfl
    have s17 : Nd g3 [.int .i64 6, .string ⟨#[]⟩, .int .i64 0, .int .i64 0, .bool false, .int .i64 0, .string ⟨#[]⟩, .int .i64 r, .int .i64 0, .bool false, .bool false, .bool false, .string ⟨#[]⟩, .int .i64 t, .int .i64 0, .bool false, .bool false, .bool false, .int .i64 0, nilV] ((((((((((((w1.setCell ⟨g3, 6, none⟩ (.string ⟨#[]⟩)).setCell ⟨g3, 7, none⟩ (.int .i64 r)).setCell ⟨g3, 8, none⟩ (.int .i64 0)).setCell ⟨g3, 9, none⟩ (.bool false)).setCell ⟨g3, 10, none⟩ (.bool false)).setCell ⟨g3, 11, none⟩ (.bool false)).setCell ⟨g3, 12, none⟩ (.string ⟨#[]⟩)).setCell ⟨g3, 13, none⟩ (.int .i64 t)).setCell ⟨g3, 14, none⟩ (.int .i64 0)).setCell ⟨g3, 15, none⟩ (.bool false)).setCell ⟨g3, 16, none⟩ (.bool false)).setCell ⟨g3, 17, none⟩ (.bool false)) := Nd.set s16 17 (.bool false) rfl
    have HF := hid (show Nd g (ndL 6 ⟨#[]⟩ 0 r t nilV) ((((((((((((w1.setCell ⟨g3, 6, none⟩ (.string ⟨#[]⟩)).setCell ⟨g3, 7, none⟩ (.int .i64 r)).setCell ⟨g3, 8, none⟩ (.int .i64 0)).setCell ⟨g3, 9, none⟩ (.bool false)).setCell ⟨g3, 10, none⟩ (.bool false)).setCell ⟨g3, 11, none⟩ (.bool false)).setCell ⟨g3, 12, none⟩ (.string ⟨#[]⟩)).setCell ⟨g3, 13, none⟩ (.int .i64 t)).setCell ⟨g3, 14, none⟩ (.int .i64 0)).setCell ⟨g3, 15, none⟩ (.bool false)).setCell ⟨g3, 16, none⟩ (.bool false)).setCell ⟨g3, 17, none⟩ (.bool false)).drew ∧ Nd g3 (ndL 6 ⟨#[]⟩ 0 r t nilV) ((((((((((((w1.setCell ⟨g3, 6, none⟩ (.string ⟨#[]⟩)).setCell ⟨g3, 7, none⟩ (.int .i64 r)).setCell ⟨g3, 8, none⟩ (.int .i64 0)).setCell ⟨g3, 9, none⟩ (.bool false)).setCell ⟨g3, 10, none⟩ (.bool false)).setCell ⟨g3, 11, none⟩ (.bool false)).setCell ⟨g3, 12, none⟩ (.string ⟨#[]⟩)).setCell ⟨g3, 13, none⟩ (.int .i64 t)).setCell ⟨g3, 14, none⟩ (.int .i64 0)).setCell ⟨g3, 15, none⟩ (.bool false)).setCell ⟨g3, 16, none⟩ (.bool false)).setCell ⟨g3, 17, none⟩ (.bool false)).drew ∧ Below w.heap.size w ((((((((((((w1.setCell ⟨g3, 6, none⟩ (.string ⟨#[]⟩)).setCell ⟨g3, 7, none⟩ (.int .i64 r)).setCell ⟨g3, 8, none⟩ (.int .i64 0)).setCell ⟨g3, 9, none⟩ (.bool false)).setCell ⟨g3, 10, none⟩ (.bool false)).setCell ⟨g3, 11, none⟩ (.bool false)).setCell ⟨g3, 12, none⟩ (.string ⟨#[]⟩)).setCell ⟨g3, 13, none⟩ (.int .i64 t)).setCell ⟨g3, 14, none⟩ (.int .i64 0)).setCell ⟨g3, 15, none⟩ (.bool false)).setCell ⟨g3, 16, none⟩ (.bool false)).setCell ⟨g3, 17, none⟩ (.bool false)).drew from ⟨((((((((((((((show Nd g (ndL 6 ⟨#[]⟩ 0 r t nilV) w1 from HA.out)).off hgg 6 (.string ⟨#[]⟩)).off hgg 7 (.int .i64 r)).off hgg 8 (.int .i64 0)).off hgg 9 (.bool false)).off hgg 10 (.bool false)).off hgg 11 (.bool false)).off hgg 12 (.string ⟨#[]⟩)).off hgg 13 (.int .i64 t)).off hgg 14 (.int .i64 0)).off hgg 15 (.bool false)).off hgg 16 (.bool false)).off hgg 17 (.bool false)).drew, s17.drew, (((((((((((((B1.out).setCell HG3.out _).setCell HG3.out _).setCell HG3.out _).setCell HG3.out _).setCell HG3.out _).setCell HG3.out _).setCell HG3.out _).setCell HG3.out _).setCell HG3.out _).setCell HG3.out _).setCell HG3.out _).setCell HG3.out _).drew⟩)
    clear s6 s7 s8 s9 s10 s11 s12 s13 s14 s15 s16 s17
    go_region_with (fail)
    all_goals (try go_simp)
    all_goals exact key _ HF.out
  · rintro y ⟨y1, y2, y3⟩
    have HY1 := hid y1
    have HY2 := hid y2
    have HY3 := hid y3
    clear y1 y2 y3 HA HW B1 b6 e6 f6 b7 e7 f7 b8 e8 f8 b9 e9 f9 b10 e10 f10 b11 e11 f11 b12 e12 f12 b13 e13 f13 b14 e14 f14 b15 e15 f15 b16 e16 f16 b17 e17 f17
    have x6 : y.cell? ⟨g, 6, none⟩ = some (.string ⟨#[]⟩) := cell_of HY1.out rfl
    have x7 : y.cell? ⟨g, 7, none⟩ = some (.int .i64 r) := cell_of HY1.out rfl
    have x8 : y.cell? ⟨g, 8, none⟩ = some (.int .i64 0) := cell_of HY1.out rfl
    have x9 : y.cell? ⟨g, 9, none⟩ = some (.bool false) := cell_of HY1.out rfl
    have x10 : y.cell? ⟨g, 10, none⟩ = some (.bool false) := cell_of HY1.out rfl
    have x11 : y.cell? ⟨g, 11, none⟩ = some (.bool false) := cell_of HY1.out rfl
    go_wp2_with fail
    refine (HDR.out r HRT.out.1 _).mono ?_
    rintro e y2 ⟨rfl, b2⟩
    have HY12 := hid (HY1.out.keep b2)
    have HY22 := hid (HY2.out.keep b2)
    have HY32 := hid (HY3.out.trans (b2.mono HY3.out.size))
    clear b2 HY1 HY2 HY3 x6 x7 x8 x9 x10 x11
    have x12 : y2.cell? ⟨g, 12, none⟩ = some (.string ⟨#[]⟩) := cell_of HY12.out rfl
    have x13 : y2.cell? ⟨g, 13, none⟩ = some (.int .i64 t) := cell_of HY12.out rfl
    have x14 : y2.cell? ⟨g, 14, none⟩ = some (.int .i64 0) := cell_of HY12.out rfl
    have x15 : y2.cell? ⟨g, 15, none⟩ = some (.bool false) := cell_of HY12.out rfl
    have x16 : y2.cell? ⟨g, 16, none⟩ = some (.bool false) := cell_of HY12.out rfl
    have x17 : y2.cell? ⟨g, 17, none⟩ = some (.bool false) := cell_of HY12.out rfl
    go_wp2_with fail
    refine (HDR.out t HRT.out.2 _).mono ?_
    rintro e y3 ⟨rfl, b3⟩
    have HY1 := hid (HY12.out.keep b3)
    have HY2 := hid (HY22.out.keep b3)
    have HY3 := hid (HY32.out.trans (b3.mono HY32.out.size))
    clear b3 HY12 HY22 HY32 x12 x13 x14 x15 x16 x17
    have x1 : y3.cell? ⟨g, 1, none⟩ = some (.string ⟨#[]⟩) := cell_of HY1.out rfl
    have z1 : y3.cell? ⟨g3, 1, none⟩ = some (.string ⟨#[]⟩) := cell_of HY2.out rfl
    have x2 : y3.cell? ⟨g, 2, none⟩ = some (.int .i64 0) := cell_of HY1.out rfl
    have z2 : y3.cell? ⟨g3, 2, none⟩ = some (.int .i64 0) := cell_of HY2.out rfl
    have x3 : y3.cell? ⟨g, 3, none⟩ = some (.int .i64 0) := cell_of HY1.out rfl
    have z3 : y3.cell? ⟨g3, 3, none⟩ = some (.int .i64 0) := cell_of HY2.out rfl
    have x4 : y3.cell? ⟨g, 4, none⟩ = some (.bool false) := cell_of HY1.out rfl
    have z4 : y3.cell? ⟨g3, 4, none⟩ = some (.bool false) := cell_of HY2.out rfl
    have x5 : y3.cell? ⟨g, 5, none⟩ = some (.int .i64 0) := cell_of HY1.out rfl
    have z5 : y3.cell? ⟨g3, 5, none⟩ = some (.int .i64 0) := cell_of HY2.out rfl
    have x6 : y3.cell? ⟨g, 6, none⟩ = some (.string ⟨#[]⟩) := cell_of HY1.out rfl
    have z6 : y3.cell? ⟨g3, 6, none⟩ = some (.string ⟨#[]⟩) := cell_of HY2.out rfl
    have x7 : y3.cell? ⟨g, 7, none⟩ = some (.int .i64 r) := cell_of HY1.out rfl
    have z7 : y3.cell? ⟨g3, 7, none⟩ = some (.int .i64 r) := cell_of HY2.out rfl
    have x8 : y3.cell? ⟨g, 8, none⟩ = some (.int .i64 0) := cell_of HY1.out rfl
    have z8 : y3.cell? ⟨g3, 8, none⟩ = some (.int .i64 0) := cell_of HY2.out rfl
    have x9 : y3.cell? ⟨g, 9, none⟩ = some (.bool false) := cell_of HY1.out rfl
    have z9 : y3.cell? ⟨g3, 9, none⟩ = some (.bool false) := cell_of HY2.out rfl
    have x10 : y3.cell? ⟨g, 10, none⟩ = some (.bool false) := cell_of HY1.out rfl
    have z10 : y3.cell? ⟨g3, 10, none⟩ = some (.bool false) := cell_of HY2.out rfl
    have x11 : y3.cell? ⟨g, 11, none⟩ = some (.bool false) := cell_of HY1.out rfl
    have z11 : y3.cell? ⟨g3, 11, none⟩ = some (.bool false) := cell_of HY2.out rfl
    have x12 : y3.cell? ⟨g, 12, none⟩ = some (.string ⟨#[]⟩) := cell_of HY1.out rfl
    have z12 : y3.cell? ⟨g3, 12, none⟩ = some (.string ⟨#[]⟩) := cell_of HY2.out rfl
    have x13 : y3.cell? ⟨g, 13, none⟩ = some (.int .i64 t) := cell_of HY1.out rfl
    have z13 : y3.cell? ⟨g3, 13, none⟩ = some (.int .i64 t) := cell_of HY2.out rfl
    have x14 : y3.cell? ⟨g, 14, none⟩ = some (.int .i64 0) := cell_of HY1.out rfl
    have z14 : y3.cell? ⟨g3, 14, none⟩ = some (.int .i64 0) := cell_of HY2.out rfl
    have x15 : y3.cell? ⟨g, 15, none⟩ = some (.bool false) := cell_of HY1.out rfl
    have z15 : y3.cell? ⟨g3, 15, none⟩ = some (.bool false) := cell_of HY2.out rfl
    have x16 : y3.cell? ⟨g, 16, none⟩ = some (.bool false) := cell_of HY1.out rfl
    have z16 : y3.cell? ⟨g3, 16, none⟩ = some (.bool false) := cell_of HY2.out rfl
    have x17 : y3.cell? ⟨g, 17, none⟩ = some (.bool false) := cell_of HY1.out rfl
    have z17 : y3.cell? ⟨g3, 17, none⟩ = some (.bool false) := cell_of HY2.out rfl
    have x18 : y3.cell? ⟨g, 18, none⟩ = some (.int .i64 0) := cell_of HY1.out rfl
    have z18 : y3.cell? ⟨g3, 18, none⟩ = some (.int .i64 0) := cell_of HY2.out rfl
    have q1 := HED.out
    have q2 := HEQ.out
    have q3 := HEZ.out
    subst h37
    clear HY1 HY2 hgg hgg' HG3
    go_wp2_with fail
    go_ret
    exact ⟨rfl, HY3.out⟩
end Go.Proofs.YtpcjfgihglfdgaaGreatDoor
