/- Contract of strings.Trim and dec.figures at the text "1". No condition. -/
import Derived.Test.YthkjmplcmfabfaaGreatDoorSpRead
namespace Go.Proofs.YthkjmplcmfabfaaGreatDoor
open Go.RowKit Go.Lib

abbrev digits10 : ByteArray := ⟨#[48, 49, 50, 51, 52, 53, 54, 55, 56, 57]⟩
theorem index_digit {j : Nat} (h : j < 10) (x : World) : (Instr.index 9 (.string digits10) (.int .i64 (j : Int))).run Tryz.prog x = .ok (.int .u8 ((48 + j : Nat) : Int)) x := by
  rw [run_index_string x 9 _ _ _ Tryz.underlying9, dif_pos ⟨by omega, by show (j : Int) < 10; omega⟩]
  have : j = 0 ∨ j = 1 ∨ j = 2 ∨ j = 3 ∨ j = 4 ∨ j = 5 ∨ j = 6 ∨ j = 7 ∨ j = 8 ∨ j = 9 := by omega
  rcases this with rfl | rfl | rfl | rfl | rfl | rfl | rfl | rfl | rfl | rfl <;> rfl

/-- a set of bytes' cells -/
def setL (S : Nat → Bool) : List Value := (List.range 256).map fun i => .bool (S i)
def SetAt (w : World) (b : Nat) (S : Nat → Bool) : Prop := w.heap[b]? = some (.cells (setL S).toArray 231 (0, 0))
theorem setL_length (S : Nat → Bool) : (setL S).length = 256 := by simp [setL]
theorem set_info : (Tryz.prog.info? 231).map (·.size) = some 256 := by kernel_rfl
theorem set_info2 (S : Nat → Bool) : (Tryz.prog.info? 231).map (·.size) = some (setL S).toArray.size := by rw [set_info]; simp [setL_length]
theorem set_one (S : Nat → Bool) : (setL S).toArray.all (·.oneCell') = true := by
  rw [Array.all_eq_true_iff_forall_mem]
  intro v hv
  simp only [setL, List.mem_toArray, List.mem_map] at hv
  obtain ⟨i, _, rfl⟩ := hv
  rfl
theorem zero_set : Tryz.zeroCells231 = (setL fun _ => false).toArray := by kernel_rfl
section
variable {w : World} {b : Nat} {S : Nat → Bool}
theorem SetAt.cell (h : SetAt w b S) {i : Nat} (hi : i < 256) : w.cell? ⟨b, i, none⟩ = some (.bool (S i)) := cell_of h (by simp [setL, hi])
theorem SetAt.put (h : SetAt w b S) {i : Nat} (_hi : i < 256) : SetAt (w.setCell ⟨b, i, none⟩ (.bool true)) b (fun k => if k = i then true else S k) := by
  have e := heap_setCell_at (i := i) h (.bool true)
  unfold SetAt
  rw [e]
  congr 2
  apply Array.ext'
  rw [Array.toList_setIfInBounds]
  apply List.ext_getElem?
  intro k
  simp only [setL]
  rw [List.getElem?_set]
  by_cases hk : i = k
  · subst hk
    by_cases h2 : i < 256 <;> simp [h2]
  · rw [if_neg hk]
    by_cases h2 : k < 256
    · simp [h2, Ne.symm hk]
    · simp [h2]
end
def below (j : Nat) : Nat → Bool := fun i => decide (48 ≤ i ∧ i < 48 + j)
theorem below_next (j : Nat) : (fun k => if k = 48 + j then true else below j k) = below (j + 1) := by
  funext k
  unfold below
  split
  · simp; omega
  · rw [decide_eq_decide]; omega
theorem below_none : (fun _ => false) = below 0 := by
  funext k
  simp [below]

theorem results_row_tmp {fn : Func} {p u : Tmp} {ty : TypeId} (h : fn.results = #[.cell p ty, .tmp u]) (tmps : Array Value) (w : World) (g : Nat) (cs : Array Value) (x : Value)
    (hp : tmps.getD p undef = .pointer (some ⟨g, 0, none⟩)) (hx : tmps.getD u undef = x) (hl : (loadVar ty ⟨g, 0, none⟩).run Tryz.prog w = .ok (.agg cs) w) :
    (results fn tmps).run Tryz.prog w = .ok (.tuple #[.agg cs, x]) w := by
  rw [results_cell_tmp h, hp, hx]
  simp [asAddr, hl, Result.andThen]

def SetRel (w : World) (i : Value) (wr : World) : Prop := ∃ j : Nat, i = .int .i64 (j : Int) ∧ j ≤ 10 ∧ SetAt wr w.heap.size (below j) ∧ Below w.heap.size w wr
set_option maxRecDepth 100000 in
set_option maxHeartbeats 1000000 in
theorem makeSet_ten (w : World) : Calls Tryz.prog 150 #[.string digits10] w fun e w' => e = .returned (.tuple #[.agg (setL (below 10)).toArray, .bool true]) ∧ Below w.heap.size w w' := by
  have hix := fun j h x => @index_digit j h x
  have HIX := hid hix
  clear hix
  go_enter Tryz.func150, Tryz.ntmps150
  go_wp2_with fail
  go_loopw [4] (fun i wr => SetRel w i wr) (fun i _ => 10 - (RowKit.intOf i).toNat)
  case atStart => exact ⟨0, rfl, by omega, by rw [← below_none]; unfold SetAt; rw [← zero_set]; exact heap_alloc_new w _, (Below.refl _ w).alloc (Nat.le_refl _) _⟩
  case round =>
    obtain ⟨j, rfl, hj, hS, hb⟩ := hrel
    by_cases hg : j < 10
    · have h1 := HIX.out j hg
      have hf := free_of (i := 48 + j) hS
      have hc := hS.cell (i := 48 + j) (by omega)
      have R := hid (show SetRel w (.int .i64 ((j : Int) + 1)) (wr.setCell ⟨w.heap.size, 48 + j, none⟩ (.bool true)) from ⟨j + 1, by simp, by omega, by rw [← below_next]; exact hS.put (by omega), hb.setCell (Nat.le_refl _) _⟩)
      clear hS hb
      go_wp2_with fail
      go_roundw
      case rel => exact R.out
      case measure => simp [RowKit.intOf]; omega
    · obtain rfl : j = 10 := by omega
      have H := hid (show _ ∧ _ from ⟨hS, hb⟩)
      clear hS hb
      go_wp2_with (first | (refine wpList_load_row rfl 231 _ rfl w.heap.size rfl 231 _ (0, 0) _ H.out.1 Tryz.underlying231 rfl (set_info2 _) ?_) | (refine wpList_store_row rfl 231 _ _ rfl w.heap.size _ rfl rfl 231 _ H.out.1 (set_info2 _) rfl (set_one _) ?_))
      refine bodyPost_ret (v := .tuple #[.agg (setL (below 10)).toArray, .bool true]) (results_row_tmp rfl _ _ w.heap.size _ _ rfl rfl (run_loadVar_row _ w.heap.size 231 231 (setL (below 10)).toArray (0, 0) _ (heap_setRow_at H.out.1) Tryz.underlying231 rfl (set_info2 _))) rfl ?_
      exact ⟨rfl, ((Chg.of_below H.out.2).setRow (F := []) (.inr (Nat.le_refl _)) _).nil_below⟩

set_option maxHeartbeats 400000 in
theorem setHas_one {w : World} {b : Nat} (h : SetAt w b (below 10)) : Calls Tryz.prog 186 #[.pointer (some ⟨b, 0, none⟩), .int .u8 49] w fun e w' => e = .returned (.bool true) ∧ w = w' := by
  have h1 := h.cell (i := 49) (by omega)
  have e : below 10 49 = true := by decide
  rw [e] at h1
  clear h e
  go_enter Tryz.func186, Tryz.ntmps186
  go_wp2_with fail
  go_ret
  exact ⟨rfl, rfl⟩

set_option maxHeartbeats 400000 in
theorem trimR_one {w : World} {b : Nat} (h : SetAt w b (below 10)) : Calls Tryz.prog 152 #[.string text1, .pointer (some ⟨b, 0, none⟩)] w fun e w' => e = .returned (.string ⟨#[]⟩) ∧ w = w' := by
  have H := hid h
  have e : text1.extract 0 0 = ⟨#[]⟩ := rfl
  clear h
  go_enter Tryz.func152, Tryz.ntmps152
  go_wp2_with fail
  refine wp_loop_rounds 2 ?_
  rw [rounds_succ]
  go_wp2_with fail
  refine (setHas_one H.out).mono ?_
  rintro e w1 ⟨rfl, rfl⟩
  go_wp2_with fail
  rw [rounds_succ]
  go_wp2_with fail
  go_ret
  exact ⟨rfl, rfl⟩

set_option maxHeartbeats 400000 in
theorem trimL_none {w : World} {b : Nat} : Calls Tryz.prog 151 #[.string ⟨#[]⟩, .pointer (some ⟨b, 0, none⟩)] w fun e w' => e = .returned (.string ⟨#[]⟩) ∧ w = w' := by
  go_enter Tryz.func151, Tryz.ntmps151
  go_wp2_with fail
  refine wp_loop_rounds 1 ?_
  rw [rounds_succ]
  go_wp2_with fail
  go_ret
  exact ⟨rfl, rfl⟩

set_option maxRecDepth 100000 in
set_option maxHeartbeats 1000000 in
theorem trim_one (w : World) : Calls Tryz.prog 107 #[.string text1, .string digits10] w fun e w' => e = .returned (.string ⟨#[]⟩) ∧ Below w.heap.size w w' := by
  go_enter Tryz.func107, Tryz.ntmps107
  go_wp2_with fail
  refine (makeSet_ten _).mono ?_
  rintro e w1 ⟨rfl, b1⟩
  have hs := b1.size
  go_wp2_with (refine wpList_store_row rfl 231 _ _ rfl w1.heap.size _ rfl rfl 231 _ (heap_alloc_new w1 _) (set_info2 _) (by rw [zero_set]; simp [setL_length]) (set_one _) ?_)
  have S2 : SetAt ((w1.alloc (.cells Tryz.zeroCells231 231)).setRow w1.heap.size (setL (below 10)).toArray) w1.heap.size (below 10) := heap_setRow_at (heap_alloc_new w1 _)
  have B2 : Below w.heap.size w ((w1.alloc (.cells Tryz.zeroCells231 231)).setRow w1.heap.size (setL (below 10)).toArray) := (((Chg.of_below b1).alloc _).setRow (F := []) (.inr hs) _).nil_below
  generalize World.setRow _ _ _ = w2 at S2 B2 ⊢
  have H := hid (show _ ∧ _ from ⟨S2, B2⟩)
  clear S2 B2 b1
  refine (trimR_one H.out.1).mono ?_
  rintro e w' ⟨rfl, rfl⟩
  go_wp2_with fail
  refine trimL_none.mono ?_
  rintro e w' ⟨rfl, rfl⟩
  go_wp2_with fail
  go_ret
  exact ⟨rfl, H.out.2⟩

set_option maxHeartbeats 400000 in
theorem figures_one (w : World) : Calls Tryz.prog 87 #[.string text1] w fun e w' => e = .returned (.bool true) ∧ Below w.heap.size w w' := by
  go_enter Tryz.func87, Tryz.ntmps87
  go_wp2_with fail
  refine (trim_one _).mono ?_
  rintro e w1 ⟨rfl, b1⟩
  go_wp2_with fail
  go_ret
  exact ⟨rfl, b1⟩
end Go.Proofs.YthkjmplcmfabfaaGreatDoor
