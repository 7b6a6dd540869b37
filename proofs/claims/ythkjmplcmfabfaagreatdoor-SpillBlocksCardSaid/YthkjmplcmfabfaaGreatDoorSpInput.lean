/- Contracts of dec.Read, val.Read, book.input at the text "1". No condition. -/
import Derived.Test.YthkjmplcmfabfaaGreatDoorSpFigures
import Derived.DeepKeys4
namespace Go.Proofs.YthkjmplcmfabfaaGreatDoor
open Go.RowKit Go.Lib

def digL (f : Nat → Int) : List Value := (List.range 96).map fun i => .int .i8 (f i)
theorem dig_info {f : Nat → Int} : (Tryz.prog.info? 158).map (·.size) = some (digL f).length := by
  have : (Tryz.prog.info? 158).map (·.size) = some 96 := by kernel_rfl
  rw [this]
  simp [digL]
theorem NumAt.range {w : World} {b : Nat} {f : Nat → Int} (h : NumAt w b f) : w.rangeAt b 1 (digL f) := fun j v hv => by
  unfold digL at hv
  rw [List.getElem?_map, Option.map_eq_some_iff] at hv
  obtain ⟨i, hi, rfl⟩ := hv
  obtain ⟨h1, h2⟩ := List.getElem?_eq_some_iff.1 hi
  simp at h1 h2
  subst h2
  exact h.digit h1
theorem eq_digits (w : World) : (Op.equalIn 10000 158 (.agg (digL oneD).toArray) (.agg (digL oneD).toArray)).run Tryz.prog w = .ok true w := by
  have h1 : (Tryz.prog.keyLits 2 158 (digL oneD)).isSome = true := by kernel_rfl
  obtain ⟨la, hla⟩ := Option.isSome_iff_exists.1 h1
  have h2 : (Value.agg (digL oneD).toArray).formed Tryz.prog 158 = true := by kernel_rfl
  obtain ⟨r, h3, h4⟩ := run_equalIn_deep (P := Tryz.prog) 9998 2 158 (by kernel_rfl) w 2 2 _ _ la la h2 h2 hla hla
  rw [h4.2 rfl] at h3
  exact h3

set_option maxRecDepth 100000 in
set_option maxHeartbeats 1000000 in
theorem decRead_one (w : World) : Calls Tryz.prog 59 #[.string text1] w fun e w' => e = .returned (.tuple #[.agg #[.int .i64 1, .int .i64 0], .int .i64 0]) ∧ Below w.heap.size w w' := by
  go_enter Tryz.func59, Tryz.ntmps59
  go_wp2_with fail
  refine (cutPrefix_one _).mono ?_
  rintro e w1 ⟨rfl, rfl⟩
  go_wp2_with fail
  refine (cut_dot _).mono ?_
  rintro e w1 ⟨rfl, rfl⟩
  go_wp2_with fail
  refine (figures_one _).mono ?_
  rintro e w1 ⟨rfl, b1⟩
  have D1 : DecAt w1 w.heap.size 0 0 := (b1.block _ (by simp)).trans (heap_alloc_new w _)
  have B1 : Below w.heap.size w w1 := ((Below.refl _ w).alloc (Nat.le_refl _) _).trans (b1.mono (by simp))
  have hs : w.heap.size < w1.heap.size := heap_lt D1
  clear b1
  go_wp2_with (refine wpList_store_row rfl 160 _ _ rfl w1.heap.size (numL zeroD).toArray rfl (congrArg Value.agg zero_num0) 160 _ (heap_alloc_new w1 _) (num_info2 _) (by rw [zero_num]) (num_one _) ?_)
  have N2 : NumAt ((w1.alloc (.cells Tryz.zeroCells160 160)).setRow w1.heap.size (numL zeroD).toArray) w1.heap.size zeroD := heap_setRow_at (heap_alloc_new w1 _)
  have D2 : DecAt ((w1.alloc (.cells Tryz.zeroCells160 160)).setRow w1.heap.size (numL zeroD).toArray) w.heap.size 0 0 := heap_setRow_far (heap_alloc_keep D1 _) (by omega) _
  have B2 : Chg [] w ((w1.alloc (.cells Tryz.zeroCells160 160)).setRow w1.heap.size (numL zeroD).toArray) := ((Chg.of_below B1).alloc _).setRow (F := []) (.inr (by omega)) _
  obtain ⟨g, hg⟩ : ∃ g, g = w1.heap.size := ⟨_, rfl⟩
  rw [← hg] at N2 D2 B2 hs ⊢
  generalize World.setRow _ _ _ = w2 at N2 D2 B2 ⊢
  have c49 := N2.digit (i := 48) (by omega)
  have f49 := free_of (i := 49) N2
  have H2 := hid (show _ ∧ _ ∧ _ from ⟨N2, D2, B2⟩)
  clear N2 D2 B2 D1 B1 hg
  refine wp_loop_rounds 2 ?_
  rw [rounds_succ]
  go_wp2_with fail
  rw [rounds_succ]
  go_wp2_with fail
  obtain ⟨w3, hw3⟩ : ∃ w3, w3 = w2.setCell ⟨g, 49, none⟩ (.int .i8 1) := ⟨_, rfl⟩
  have ew : w2.setCell ⟨g, 49, none⟩ (.int .i8 (IntKind.i8.wrap (((text1[0].toNat : Int) - 48) % 256))) = w3 := by
    rw [hw3]
    rfl
  rw [ew]
  have N3 : NumAt w3 g oneD := by
    rw [hw3]
    exact H2.out.1.put (i := 48) (by omega) 1
  have D3 : DecAt w3 w.heap.size 0 0 := by
    rw [hw3]
    exact H2.out.2.1.far (by simp; omega) _
  have B3 : Chg [] w w3 := by
    rw [hw3]
    exact H2.out.2.2.setCell (.inr (by simp; omega)) _
  have H3 := hid (show _ ∧ _ ∧ _ from ⟨N3, D3, B3⟩)
  clear N3 D3 B3 ew hw3 c49 f49 H2
  refine wp_loop_rounds 1 ?_
  rw [rounds_succ]
  go_wp2_with (refine wpList_load_row rfl 160 _ rfl g rfl 160 _ (0, 0) _ H3.out.1 Tryz.underlying160 rfl (num_info2 _) ?_)
  refine (nearest_one _).mono ?_
  rintro e w4 ⟨rfl, b4⟩
  have N4 : NumAt w4 g oneD := (b4.block _ (heap_lt H3.out.1)).trans H3.out.1
  have D4 : DecAt w4 w.heap.size 0 0 := (b4.block _ (heap_lt H3.out.2.1)).trans H3.out.2.1
  have B4 : Chg [] w w4 := H3.out.2.2.trans (Chg.of_below (F := []) b4) (by simp)
  have H4 := hid (show _ ∧ _ ∧ _ from ⟨N4, D4, B4⟩)
  clear N4 D4 B4 H3 b4
  go_wp2_with fail
  refine (lay_one _).mono ?_
  rintro e w5 ⟨rfl, b5⟩
  have b45 := b5.mono (show w4.heap.size ≤ _ by simp)
  have N5 : NumAt w5 g oneD := (b45.block _ (heap_lt H4.out.1)).trans ((heap_alloc_keep H4.out.1 _))
  have D5 : DecAt w5 w.heap.size 0 0 := (b45.block _ (heap_lt H4.out.2.1)).trans (heap_alloc_keep H4.out.2.1 _)
  have E5 : DecAt w5 w4.heap.size 1 0 := (b5.block _ (by simp)).trans (heap_alloc_new w4 _)
  have B5 : Chg [] w w5 := (H4.out.2.2.alloc _).trans (Chg.of_below (F := []) b5) (by simp)
  have g4 := heap_lt H4.out.1
  have g5 := heap_lt E5
  have H5 := hid (show _ ∧ _ ∧ _ ∧ _ from ⟨N5, D5, E5, B5⟩)
  clear N5 D5 E5 B5 H4 b5 b45
  go_wp2_with (refine wpList_store_row rfl 160 _ _ rfl w5.heap.size _ rfl rfl 160 _ (heap_alloc_new w5 _) (num_info2 _) (by rw [zero_num]; exact num_size _ _) (num_one _) ?_)
  have N6 : NumAt ((w5.alloc (.cells Tryz.zeroCells160 160)).setRow w5.heap.size (numL oneD).toArray) w5.heap.size oneD := heap_setRow_at (heap_alloc_new w5 _)
  have M6 : NumAt ((w5.alloc (.cells Tryz.zeroCells160 160)).setRow w5.heap.size (numL oneD).toArray) g oneD := heap_setRow_far (heap_alloc_keep H5.out.1 _) (by omega) _
  have D6 : DecAt ((w5.alloc (.cells Tryz.zeroCells160 160)).setRow w5.heap.size (numL oneD).toArray) w.heap.size 0 0 := heap_setRow_far (heap_alloc_keep H5.out.2.1 _) (by omega) _
  have E6 : DecAt ((w5.alloc (.cells Tryz.zeroCells160 160)).setRow w5.heap.size (numL oneD).toArray) w4.heap.size 1 0 := heap_setRow_far (heap_alloc_keep H5.out.2.2.1 _) (by omega) _
  have B6 : Chg [] w ((w5.alloc (.cells Tryz.zeroCells160 160)).setRow w5.heap.size (numL oneD).toArray) := (H5.out.2.2.2.alloc _).setRow (F := []) (.inr (by omega)) _
  generalize World.setRow _ _ _ = w6 at N6 M6 D6 E6 B6 ⊢
  have f0 := free_of (i := 0) D6
  have f1 := free_of (i := 1) D6
  have d0 := D6.c0
  have d1 := D6.c1
  have e0 := E6.c0
  have e1 := E6.c1
  have heq := fun w => eq_digits w
  have H6 := hid (show _ ∧ _ ∧ _ from ⟨N6, M6, B6⟩)
  clear N6 M6 D6 E6 B6 H5
  go_wp2_with fail
  refine wp_load_mid 158 _ rfl w5.heap.size 1 rfl (digL oneD) _ H6.out.1.range Tryz.underlying158 rfl dig_info ?_
  go_wp2_with fail
  refine wp_load_mid 158 _ rfl g 1 rfl (digL oneD) _ H6.out.2.1.range Tryz.underlying158 rfl dig_info ?_
  go_wp2_with fail
  refine bodyPost_ret (v := .tuple #[.agg #[.int .i64 1, .int .i64 0], .int .i64 0]) (by simp [results, Tryz.results59, go_sem, *]) rfl ?_
  exact ⟨rfl, ((H6.out.2.2.setCell (F := []) (.inr (by simp)) _).setCell (.inr (by simp)) _).nil_below⟩
end Go.Proofs.YthkjmplcmfabfaaGreatDoor
