/- Contracts of dec.of, dec.lay, (number).nearest at 1. No condition. -/
import Derived.Test.YthkjmplcmfabfaaGreatDoorSpDec
import Derived.Laws.Tables
namespace Go.Proofs.YthkjmplcmfabfaaGreatDoor
open Go.RowKit Go.Lib

def zeroD : Nat → Int := fun _ => 0
theorem zero_num : Tryz.zeroCells160 = (numL zeroD).toArray := by kernel_rfl
theorem zero_num0 : Tryz.zeroCells160.setIfInBounds 0 (.bool false) = (numL zeroD).toArray := by kernel_rfl
theorem num_info : (Tryz.prog.info? 160).map (·.size) = some 98 := by kernel_rfl
theorem num_info2 (f : Nat → Int) : (Tryz.prog.info? 160).map (·.size) = some (numL f).toArray.size := by rw [num_info]; simp [numL_length]
theorem num_one (f : Nat → Int) : (numL f).toArray.all (·.oneCell') = true := by
  rw [Array.all_eq_true_iff_forall_mem]
  intro v hv
  simp only [numL, List.mem_toArray, List.mem_append, List.mem_cons, List.mem_map, List.not_mem_nil, or_false] at hv
  rcases hv with (rfl | ⟨i, _, rfl⟩) | rfl <;> rfl
theorem num_size (f g : Nat → Int) : (numL f).toArray.size = (numL g).toArray.size := by simp [numL_length]
/-- a digit more -/
theorem NumAt.put {w : World} {b i : Nat} {f : Nat → Int} (h : NumAt w b f) (hi : i < 96) (x : Int) : NumAt (w.setCell ⟨b, 1 + i, none⟩ (.int .i8 x)) b (fun k => if k = i then x else f k) := by
  have e := heap_setCell_at (i := 1 + i) h (.int .i8 x)
  unfold NumAt
  rw [e]
  congr 2
  apply Array.ext'
  rw [Array.toList_setIfInBounds]
  apply List.ext_getElem?
  intro k
  simp only [numL, List.cons_append, Nat.add_comm 1 i]
  cases k with
  | zero => simp
  | succ k =>
    simp only [List.set_cons_succ, List.getElem?_cons_succ]
    rw [List.getElem?_set]
    by_cases hk : i = k
    · subst hk
      rw [if_pos rfl, if_pos (by simp; omega), List.getElem?_append_left (by simpa using hi)]
      simp [hi]
    · rw [if_neg hk]
      by_cases h96 : k < 96
      · rw [List.getElem?_append_left (by simpa using h96), List.getElem?_append_left (by simpa using h96)]
        simp [h96, Ne.symm hk]
      · rw [List.getElem?_append_right (by simp; omega), List.getElem?_append_right (by simp; omega)]
        simp

set_option maxRecDepth 20000 in
set_option maxHeartbeats 400000 in
theorem div64_one (w : World) : Calls Tryz.prog 170 #[.int .u64 0, .int .u64 1, .int .u64 10] w fun e w' => e = .returned (.tuple #[.int .u64 0, .int .u64 1]) ∧ ∃ n, w' = w.drewN n := by
  go_enter Tryz.func170, Tryz.ntmps170
  go_wp2_with fail
  go_quiet (fail)
  go_wp2_with fail
  go_ret2
  exact ⟨rfl, _, rfl⟩

set_option maxRecDepth 100000 in
set_option maxHeartbeats 1000000 in
theorem of_one (w : World) : Calls Tryz.prog 124 #[.bool false, .int .u64 0, .int .u64 1, .int .i64 0] w fun e w' => e = .returned (.agg (numL oneD).toArray) ∧ Below w.heap.size w w' := by
  go_enter Tryz.func124, Tryz.ntmps124
  go_wp2_with (refine wpList_store_row rfl 160 _ _ rfl (w.heap.size + 1) (numL zeroD).toArray rfl (congrArg Value.agg zero_num0) 160 _ (heap_alloc2_new w _ _) (num_info2 _) (by rw [zero_num]) (num_one _) ?_)
  have N1 : NumAt (((w.alloc (.cells Tryz.zeroCells160 160)).alloc (.cells Tryz.zeroCells160 160)).setRow (w.heap.size + 1) (numL zeroD).toArray) (w.heap.size + 1) zeroD := heap_setRow_at (heap_alloc2_new w _ _)
  have N0 : NumAt (((w.alloc (.cells Tryz.zeroCells160 160)).alloc (.cells Tryz.zeroCells160 160)).setRow (w.heap.size + 1) (numL zeroD).toArray) w.heap.size zeroD := by
    have := heap_setRow_far (heap_alloc_keep (heap_alloc_new w (.cells Tryz.zeroCells160 160)) (.cells Tryz.zeroCells160 160)) (show w.heap.size ≠ w.heap.size + 1 by omega) (numL zeroD).toArray
    rw [zero_num] at this ⊢
    exact this
  have B2 : Chg [] w (((w.alloc (.cells Tryz.zeroCells160 160)).alloc (.cells Tryz.zeroCells160 160)).setRow (w.heap.size + 1) (numL zeroD).toArray) := (((Chg.refl _ w).alloc _).alloc _).setRow (.inr (by omega)) _
  generalize World.setRow _ _ _ = w2 at N1 N0 B2 ⊢
  have f49 := free_of (i := 49) N1
  have NN := hid (show _ ∧ _ ∧ _ from ⟨N0, N1, B2⟩)
  have c49 := N1.digit (i := 48) (by omega)
  clear N0 N1 B2
  refine wp_loop_rounds 2 ?_
  rw [rounds_succ]
  go_wp2_with fail
  refine (div64_one _).mono ?_
  rintro e w3 ⟨rfl, nn, rfl⟩
  go_wp2_with fail
  obtain ⟨w4, hw4⟩ : ∃ w4, w4 = (w2.drewN nn).setCell ⟨w.heap.size + 1, 49, none⟩ (.int .i8 1) := ⟨_, rfl⟩
  have M1 : NumAt w4 (w.heap.size + 1) oneD := by
    rw [hw4]
    exact NumAt.put (w := w2.drewN nn) (i := 48) NN.out.2.1 (by omega) 1
  have M0 : NumAt w4 w.heap.size zeroD := by
    rw [hw4]
    exact heap_setCell_far (w := w2.drewN nn) NN.out.1 (by omega) _
  have M2 : Chg [] w w4 := by
    rw [hw4]
    exact (NN.out.2.2.drewN nn).setCell (.inr (by simp)) _
  rw [← hw4]
  clear hw4 NN c49 f49
  have MM := hid (show _ ∧ _ ∧ _ from ⟨M0, M1, M2⟩)
  clear M0 M1 M2
  rw [rounds_succ]
  go_wp2_with (first | (refine wpList_load_row rfl 160 _ rfl (w.heap.size + 1) rfl 160 _ (0, 0) _ MM.out.2.1 Tryz.underlying160 rfl (num_info2 _) ?_) | (refine wpList_store_row rfl 160 _ _ rfl w.heap.size _ rfl rfl 160 _ MM.out.1 (num_info2 _) (num_size _ _) (num_one _) ?_))
  refine bodyPost_ret (v := .agg (numL oneD).toArray) (results_cell_row rfl _ _ w.heap.size 160 _ (0, 0) _ rfl (heap_setRow_at MM.out.1) Tryz.underlying160 rfl (num_info2 _)) rfl ?_
  exact ⟨rfl, (MM.out.2.2.setRow (.inr (Nat.le_refl _)) _).nil_below⟩

set_option maxHeartbeats 400000 in
theorem abs_one (w : World) : Calls Tryz.prog 125 #[.int .i64 1] w fun e w' => e = .returned (.int .u64 1) ∧ w' = w := by
  go_enter Tryz.func125, Tryz.ntmps125
  go_wp2_with fail
  go_ret
  exact ⟨rfl, rfl⟩

set_option maxRecDepth 100000 in
set_option maxHeartbeats 1000000 in
theorem lay_one (w : World) : Calls Tryz.prog 89 #[.agg #[.int .i64 1, .int .i64 0]] w fun e w' => e = .returned (.agg (numL oneD).toArray) ∧ Below w.heap.size w w' := by
  go_enter Tryz.func89, Tryz.ntmps89
  go_wp2_with fail
  have N0 : NumAt ((w.alloc (.cells #[.int .i64 1, .int .i64 0] 86)).alloc (.cells Tryz.zeroCells160 160)) (w.heap.size + 1) zeroD := by
    have := heap_alloc2_new w (.cells #[.int .i64 1, .int .i64 0] 86) (.cells Tryz.zeroCells160 160)
    unfold NumAt
    rw [← zero_num]
    exact this
  have B0 : Below w.heap.size w ((w.alloc (.cells #[.int .i64 1, .int .i64 0] 86)).alloc (.cells Tryz.zeroCells160 160)) := ((Below.refl _ w).alloc (Nat.le_refl _) _).alloc (by simp) _
  have e0 : ((w.alloc (.cells #[.int .i64 1, .int .i64 0] 86)).alloc (.cells Tryz.zeroCells160 160)).cell? ⟨w.heap.size, 0, none⟩ = some (.int .i64 1) := cell_of (heap_alloc_keep (heap_alloc_new w _) _) rfl
  have e1 : ((w.alloc (.cells #[.int .i64 1, .int .i64 0] 86)).alloc (.cells Tryz.zeroCells160 160)).cell? ⟨w.heap.size, 1, none⟩ = some (.int .i64 0) := cell_of (heap_alloc_keep (heap_alloc_new w _) _) rfl
  generalize World.alloc _ _ = w2 at N0 B0 e0 e1 ⊢
  have NN := hid (show _ ∧ _ from ⟨N0, B0⟩)
  clear N0 B0
  refine wp_region_still_tail 8 (by kernel_rfl) (by kernel_rfl) ?_
  simp only [List.take_succ_cons, List.take_zero, List.drop_succ_cons, List.drop_zero]
  repeat still_step
  still_call (abs_one _)
  repeat still_step
  refine wpStill_nil ?_
  change wpList _ _ _ _ _ w2.drew
  go_wp2_with fail
  refine (of_one _).mono ?_
  rintro e w3 ⟨rfl, b3⟩
  have N3 : NumAt w3 (w.heap.size + 1) zeroD := (b3.block _ (heap_lt NN.out.1)).trans NN.out.1
  have B3 : Below w.heap.size w w3 := NN.out.2.trans ((show Below w2.heap.size w2 w3 from ⟨b3.os, b3.tape, b3.output, b3.size, b3.block⟩).mono NN.out.2.size)
  go_wp2_with (refine wpList_store_row rfl 160 _ _ rfl (w.heap.size + 1) _ rfl rfl 160 _ N3 (num_info2 _) (num_size _ _) (num_one _) ?_)
  refine bodyPost_ret (v := .agg (numL oneD).toArray) (results_cell_row rfl _ _ (w.heap.size + 1) 160 _ (0, 0) _ rfl (heap_setRow_at N3) Tryz.underlying160 rfl (num_info2 _)) rfl ?_
  exact ⟨rfl, ((Chg.of_below (B3.mono (Nat.le_refl _))).setRow (F := []) (.inr (by omega)) _).nil_below⟩

set_option maxRecDepth 100000 in
set_option maxHeartbeats 1000000 in
theorem nearest_one (w : World) : Calls Tryz.prog 88 #[.agg (numL oneD).toArray] w fun e w' => e = .returned (.tuple #[.agg #[.int .i64 1, .int .i64 0], .int .i64 0]) ∧ Below w.heap.size w w' := by
  obtain ⟨V, hV⟩ : ∃ V, V = (numL oneD).toArray := ⟨_, rfl⟩
  rw [← hV]
  have HV := hid hV
  clear hV
  go_enter Tryz.func88, Tryz.ntmps88
  go_wp2_with fail
  have N0 : NumAt ((w.alloc (.cells V 160)).alloc (.cells #[.int .i64 0, .int .i64 0] 86)) w.heap.size oneD := by
    have := heap_alloc_keep (heap_alloc_new w (.cells V 160)) (.cells #[.int .i64 0, .int .i64 0] 86)
    rw [HV.out] at this ⊢
    exact this
  have D0 : DecAt ((w.alloc (.cells V 160)).alloc (.cells #[.int .i64 0, .int .i64 0] 86)) (w.heap.size + 1) 0 0 := heap_alloc2_new w _ _
  have C0 : Chg [] w ((w.alloc (.cells V 160)).alloc (.cells #[.int .i64 0, .int .i64 0] 86)) := ((Chg.refl _ w).alloc _).alloc _
  have S0 : w.heap.size + 1 < ((w.alloc (.cells V 160)).alloc (.cells #[.int .i64 0, .int .i64 0] 86)).heap.size := by simp
  generalize World.alloc _ _ = w2 at N0 D0 C0 S0 ⊢
  have NN := hid (show _ ∧ _ ∧ _ ∧ _ from ⟨N0, D0, C0, S0⟩)
  clear N0 D0 C0 S0
  refine wp_loop_rounds 1 ?_
  rw [rounds_succ]
  go_wp2_with (first | (refine wpList_load_row rfl 160 _ rfl w.heap.size rfl 160 _ (0, 0) _ NN.out.1 Tryz.underlying160 rfl (num_info2 _) ?_) | (refine wpList_store_row rfl 160 _ _ rfl w2.heap.size _ rfl rfl 160 _ (heap_alloc_new w2 _) (num_info2 _) (by rw [zero_num]; exact num_size _ _) (num_one _) ?_))
  have N3 : NumAt ((w2.alloc (.cells Tryz.zeroCells160 160)).setRow w2.heap.size (numL oneD).toArray) w2.heap.size oneD := heap_setRow_at (heap_alloc_new w2 _)
  have D3 : DecAt ((w2.alloc (.cells Tryz.zeroCells160 160)).setRow w2.heap.size (numL oneD).toArray) (w.heap.size + 1) 0 0 := heap_setRow_far (heap_alloc_keep NN.out.2.1 _) (by have := NN.out.2.2.2; omega) _
  have C3 : Chg [] w ((w2.alloc (.cells Tryz.zeroCells160 160)).setRow w2.heap.size (numL oneD).toArray) := (NN.out.2.2.1.alloc _).setRow (.inr NN.out.2.2.1.size) _
  have hg0 := NN.out.2.2.2
  obtain ⟨g, hg⟩ : ∃ g, g = w2.heap.size := ⟨_, rfl⟩
  rw [← hg] at N3 D3 C3 hg0 ⊢
  generalize World.setRow _ _ _ = w3 at N3 D3 C3 ⊢
  have MM := hid (show _ ∧ _ ∧ _ from ⟨N3, D3, C3⟩)
  clear N3 D3 C3 NN hg
  refine (rest_one MM.out.1).mono ?_
  rintro e w' ⟨rfl, rfl⟩
  have c48 := MM.out.1.digit (i := 39) (by omega)
  go_wp2_with fail
  refine (cut_one MM.out.1).mono ?_
  rintro e w4 ⟨rfl, N4, C4⟩
  have D4 : DecAt w4 (w.heap.size + 1) 0 0 := C4.heap MM.out.2.1 (by simp; omega)
  have C04 : Chg [] w w4 := MM.out.2.2.trans C4 (by simp; have := MM.out.2.2.size; omega)
  have LL := hid (show _ ∧ _ ∧ _ from ⟨N4, D4, C04⟩)
  clear N4 C4 D4 C04 MM c48
  go_wp2_with fail
  refine (top_one LL.out.1).mono ?_
  rintro e w' ⟨rfl, rfl⟩
  go_wp2_with fail
  refine (exact_one LL.out.1).mono ?_
  rintro e w5 ⟨rfl, b5⟩
  have D5 : DecAt w5 (w.heap.size + 1) 0 0 := (b5.block _ (heap_lt LL.out.2.1)).trans LL.out.2.1
  have f0 := free_of (i := 0) D5
  have f1 := free_of (i := 1) D5
  have d0 := D5.c0
  have d1 := D5.c1
  have B5 := hid (show Below w.heap.size w w5 from LL.out.2.2.nil_below.trans (b5.mono LL.out.2.2.size))
  clear D5
  go_wp2_with fail
  refine bodyPost_ret (v := .tuple #[.agg #[.int .i64 1, .int .i64 0], .int .i64 0]) (by simp [results, Tryz.results88, go_sem, *]) rfl ?_
  exact ⟨rfl, (B5.out.setCell (by simp) _).setCell (by simp) _⟩
end Go.Proofs.YthkjmplcmfabfaaGreatDoor
