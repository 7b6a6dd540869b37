/- Contracts of dec.Read, val.Read, book.input at the text "1". No condition. Contract of strings.Trim and dec.figures at the text "1". No condition. Contracts of dec.Read, val.Read, book.input at the text "1". No condition. Contract of lex.Tokens at the text "1". No condition. Contracts of val.number, val.Read, book.input at the text "1". No condition. Contracts of cmp.Compare, slices.Compare at ints, spill.order, book.order. No condition. Contract of book.order. No condition. Rows of places, spills and cells in memory; a workbook of two sheets in memory. No condition. -/
import Derived.Test.YtpcjfgihglfdgaaGreatDoorKChRefC
import Derived.OwnWalk
import Derived.Shelf.Strings.Search1
import Derived.DeepKeys4
import Derived.Test.YtpcjfgihglfdgaaGreatDoorKSpName
import Derived.Test.YtpcjfgihglfdgaaGreatDoorKSpSmallA
import Derived.Deep.RegionHeldLaw

namespace Go.Proofs.YtpcjfgihglfdgaaGreatDoor
open Go.RowKit Go.Lib

abbrev text1 : ByteArray := ⟨#[49]⟩

set_option maxRecDepth 100000 in
set_option maxHeartbeats 1000000 in
theorem indexByte_one (w : World) : Calls Tryz.prog 323 #[.string text1, .int .u8 46] w fun e w' => e = .returned (.int .i64 (-1)) ∧ w = w' := by
  go_enter Tryz.func323, Tryz.ntmps323
  go_wp2
  rw [run_callFunc_extern Tryz.func351 (by kernel_rfl) (by kernel_rfl) (by kernel_rfl) (e := Extern.BytealgIndexByte.indexByte) (by kernel_rfl), Lib.run_indexByteString]
  simp only [Result.andThen]
  rw [Oper.upon_value]
  go_wp2
  go_ret
  exact ⟨rfl, rfl⟩

set_option maxRecDepth 100000 in
set_option maxHeartbeats 1000000 in
theorem index_one (w : World) : Calls Tryz.prog 286 #[.string text1, .string ⟨#[46]⟩] w fun e w' => e = .returned (.int .i64 (-1)) ∧ w = w' := by
  go_enter Tryz.func286, Tryz.ntmps286
  go_wp2_with fail
  refine (indexByte_one _).mono ?_
  rintro e w1 ⟨rfl, rfl⟩
  go_wp2_with fail
  go_ret
  exact ⟨rfl, rfl⟩

set_option maxHeartbeats 400000 in
theorem slCut_one (w : World) : Calls Tryz.prog 224 #[.string text1, .string ⟨#[46]⟩] w fun e w' => e = .returned (.tuple #[.string text1, .string ⟨#[]⟩, .bool false]) ∧ w = w' := by
  go_enter Tryz.func224, Tryz.ntmps224
  go_wp2_with fail
  refine (index_one _).mono ?_
  rintro e w1 ⟨rfl, rfl⟩
  go_wp2_with fail
  go_ret3
  exact ⟨rfl, rfl⟩

set_option maxHeartbeats 400000 in
theorem cut_dot (w : World) : Calls Tryz.prog 165 #[.string text1, .string ⟨#[46]⟩] w fun e w' => e = .returned (.tuple #[.string text1, .string ⟨#[]⟩, .bool false]) ∧ w = w' := by
  go_enter Tryz.func165, Tryz.ntmps165
  go_wp2_with fail
  refine (slCut_one _).mono ?_
  rintro e w1 ⟨rfl, rfl⟩
  go_wp2_with fail
  go_ret3
  exact ⟨rfl, rfl⟩

set_option maxHeartbeats 400000 in
theorem cutPrefix_one (w : World) : Calls Tryz.prog 43 #[.string text1, .string ⟨#[45]⟩] w fun e w' => e = .returned (.tuple #[.string text1, .bool false]) ∧ w = w' := by
  have h : ((text1.extract 0 1).toList == [45]) = false := by kernel_rfl
  go_enter Tryz.func43, Tryz.ntmps43
  go_wp2
  go_ret2
  exact ⟨rfl, rfl⟩
end Go.Proofs.YtpcjfgihglfdgaaGreatDoor

namespace Go.Proofs.YtpcjfgihglfdgaaGreatDoor
open Go.RowKit Go.Lib

abbrev digits10 : ByteArray := ⟨#[48, 49, 50, 51, 52, 53, 54, 55, 56, 57]⟩
theorem index_digit {j : Nat} (h : j < 10) (x : World) : (Instr.index 9 (.string digits10) (.int .i64 (j : Int))).run Tryz.prog x = .ok (.int .u8 ((48 + j : Nat) : Int)) x := by
  rw [run_index_string x 9 _ _ _ Tryz.underlying9, dif_pos ⟨by omega, by show (j : Int) < 10; omega⟩]
  have : j = 0 ∨ j = 1 ∨ j = 2 ∨ j = 3 ∨ j = 4 ∨ j = 5 ∨ j = 6 ∨ j = 7 ∨ j = 8 ∨ j = 9 := by omega
  rcases this with rfl | rfl | rfl | rfl | rfl | rfl | rfl | rfl | rfl | rfl <;> rfl

/-- a set of bytes' cells -/
def setL (S : Nat → Bool) : List Value := (List.range 256).map fun i => .bool (S i)
def SetAt (w : World) (b : Nat) (S : Nat → Bool) : Prop := w.heap[b]? = some (.cells (setL S).toArray 309 (0, 0))
theorem setL_length (S : Nat → Bool) : (setL S).length = 256 := by simp [setL]
theorem set_info : (Tryz.prog.info? 309).map (·.size) = some 256 := by kernel_rfl
theorem set_info2 (S : Nat → Bool) : (Tryz.prog.info? 309).map (·.size) = some (setL S).toArray.size := by rw [set_info]; simp [setL_length]
theorem set_one (S : Nat → Bool) : (setL S).toArray.all (·.oneCell') = true := by
  rw [Array.all_eq_true_iff_forall_mem]
  intro v hv
  simp only [setL, List.mem_toArray, List.mem_map] at hv
  obtain ⟨i, _, rfl⟩ := hv
  rfl
theorem zero_set : Tryz.zeroCells309 = (setL fun _ => false).toArray := by kernel_rfl
section
variable {w : World} {b : Nat} {S : Nat → Bool}
theorem SetAt.cell (h : SetAt w b S) {i : Nat} (hi : i < 256) : w.cell? ⟨b, i, none⟩ = some (.bool (S i)) := cell_of h (by simp [setL, hi])
theorem SetAt.put (h : SetAt w b S) {i : Nat} (_hi : i < 256) : SetAt (w.setCell ⟨b, i, none⟩ (.bool true)) b (fun k => if k = i then true else S k) := by
  have e := heap_setCell_at (i := i) h (.bool true)
  unfold SetAt
  rw [e]
  congr 2
  apply Array.ext'
  rw [Array.toList_setIfInBounds]
  apply List.ext_getElem?
  intro k
  simp only [setL]
  rw [List.getElem?_set]
  by_cases hk : i = k
  · subst hk
    by_cases h2 : i < 256 <;> simp [h2]
  · rw [if_neg hk]
    by_cases h2 : k < 256
    · simp [h2, Ne.symm hk]
    · simp [h2]
end
def below (j : Nat) : Nat → Bool := fun i => decide (48 ≤ i ∧ i < 48 + j)
theorem below_next (j : Nat) : (fun k => if k = 48 + j then true else below j k) = below (j + 1) := by
  funext k
  unfold below
  split
  · simp; omega
  · rw [decide_eq_decide]; omega
theorem below_none : (fun _ => false) = below 0 := by
  funext k
  simp [below]

theorem results_row_tmp {fn : Func} {p u : Tmp} {ty : TypeId} (h : fn.results = #[.cell p ty, .tmp u]) (tmps : Array Value) (w : World) (g : Nat) (cs : Array Value) (x : Value)
    (hp : tmps.getD p undef = .pointer (some ⟨g, 0, none⟩)) (hx : tmps.getD u undef = x) (hl : (loadVar ty ⟨g, 0, none⟩).run Tryz.prog w = .ok (.agg cs) w) :
    (results fn tmps).run Tryz.prog w = .ok (.tuple #[.agg cs, x]) w := by
  rw [results_cell_tmp h, hp, hx]
  simp [asAddr, hl, Result.andThen]

def SetRel (w : World) (i : Value) (wr : World) : Prop := ∃ j : Nat, i = .int .i64 (j : Int) ∧ j ≤ 10 ∧ SetAt wr w.heap.size (below j) ∧ Below w.heap.size w wr
set_option maxRecDepth 100000 in
set_option maxHeartbeats 1000000 in
theorem makeSet_ten (w : World) : Calls Tryz.prog 196 #[.string digits10] w fun e w' => e = .returned (.tuple #[.agg (setL (below 10)).toArray, .bool true]) ∧ Below w.heap.size w w' := by
  have hix := fun j h x => @index_digit j h x
  have HIX := hid hix
  clear hix
  go_enter Tryz.func196, Tryz.ntmps196
  go_wp2_with fail
  go_loopw [4] (fun i wr => SetRel w i wr) (fun i _ => 10 - (RowKit.intOf i).toNat)
  case atStart => exact ⟨0, rfl, by omega, by rw [← below_none]; unfold SetAt; rw [← zero_set]; exact heap_alloc_new w _, (Below.refl _ w).alloc (Nat.le_refl _) _⟩
  case round =>
    obtain ⟨j, rfl, hj, hS, hb⟩ := hrel
    by_cases hg : j < 10
    · have h1 := HIX.out j hg
      have hf := free_of (i := 48 + j) hS
      have hc := hS.cell (i := 48 + j) (by omega)
      have R := hid (show SetRel w (.int .i64 ((j : Int) + 1)) (wr.setCell ⟨w.heap.size, 48 + j, none⟩ (.bool true)) from ⟨j + 1, by simp, by omega, by rw [← below_next]; exact hS.put (by omega), hb.setCell (Nat.le_refl _) _⟩)
      clear hS hb
      go_wp2_with fail
      go_roundw
      case rel => exact R.out
      case measure => simp [RowKit.intOf]; omega
    · obtain rfl : j = 10 := by omega
      have H := hid (show _ ∧ _ from ⟨hS, hb⟩)
      clear hS hb
      go_wp2_with (first | (refine wpList_load_row rfl 309 _ rfl w.heap.size rfl 309 _ (0, 0) _ H.out.1 Tryz.underlying309 rfl (set_info2 _) ?_) | (refine wpList_store_row rfl 309 _ _ rfl w.heap.size _ rfl rfl 309 _ H.out.1 (set_info2 _) rfl (set_one _) ?_))
      refine bodyPost_ret (v := .tuple #[.agg (setL (below 10)).toArray, .bool true]) (results_row_tmp rfl _ _ w.heap.size _ _ rfl rfl (run_loadVar_row _ w.heap.size 309 309 (setL (below 10)).toArray (0, 0) _ (heap_setRow_at H.out.1) Tryz.underlying309 rfl (set_info2 _))) rfl ?_
      exact ⟨rfl, ((Chg.of_below H.out.2).setRow (F := []) (.inr (Nat.le_refl _)) _).nil_below⟩

set_option maxHeartbeats 400000 in
theorem setHas_one {w : World} {b : Nat} (h : SetAt w b (below 10)) : Calls Tryz.prog 246 #[.pointer (some ⟨b, 0, none⟩), .int .u8 49] w fun e w' => e = .returned (.bool true) ∧ w = w' := by
  have h1 := h.cell (i := 49) (by omega)
  have e : below 10 49 = true := by decide
  rw [e] at h1
  clear h e
  go_enter Tryz.func246, Tryz.ntmps246
  go_wp2_with fail
  go_ret
  exact ⟨rfl, rfl⟩

set_option maxHeartbeats 400000 in
theorem trimR_one {w : World} {b : Nat} (h : SetAt w b (below 10)) : Calls Tryz.prog 198 #[.string text1, .pointer (some ⟨b, 0, none⟩)] w fun e w' => e = .returned (.string ⟨#[]⟩) ∧ w = w' := by
  have H := hid h
  have e : text1.extract 0 0 = ⟨#[]⟩ := rfl
  clear h
  go_enter Tryz.func198, Tryz.ntmps198
  go_wp2_with fail
  refine wp_loop_rounds 2 ?_
  rw [rounds_succ]
  go_wp2_with fail
  refine (setHas_one H.out).mono ?_
  rintro e w1 ⟨rfl, rfl⟩
  go_wp2_with fail
  rw [rounds_succ]
  go_wp2_with fail
  go_ret
  exact ⟨rfl, rfl⟩

set_option maxHeartbeats 400000 in
theorem trimL_none {w : World} {b : Nat} : Calls Tryz.prog 197 #[.string ⟨#[]⟩, .pointer (some ⟨b, 0, none⟩)] w fun e w' => e = .returned (.string ⟨#[]⟩) ∧ w = w' := by
  go_enter Tryz.func197, Tryz.ntmps197
  go_wp2_with fail
  refine wp_loop_rounds 1 ?_
  rw [rounds_succ]
  go_wp2_with fail
  go_ret
  exact ⟨rfl, rfl⟩

set_option maxRecDepth 100000 in
set_option maxHeartbeats 1000000 in
theorem trim_one (w : World) : Calls Tryz.prog 142 #[.string text1, .string digits10] w fun e w' => e = .returned (.string ⟨#[]⟩) ∧ Below w.heap.size w w' := by
  go_enter Tryz.func142, Tryz.ntmps142
  go_wp2_with fail
  refine (makeSet_ten _).mono ?_
  rintro e w1 ⟨rfl, b1⟩
  have hs := b1.size
  go_wp2_with (refine wpList_store_row rfl 309 _ _ rfl w1.heap.size _ rfl rfl 309 _ (heap_alloc_new w1 _) (set_info2 _) (by rw [zero_set]; simp [setL_length]) (set_one _) ?_)
  have S2 : SetAt ((w1.alloc (.cells Tryz.zeroCells309 309)).setRow w1.heap.size (setL (below 10)).toArray) w1.heap.size (below 10) := heap_setRow_at (heap_alloc_new w1 _)
  have B2 : Below w.heap.size w ((w1.alloc (.cells Tryz.zeroCells309 309)).setRow w1.heap.size (setL (below 10)).toArray) := (((Chg.of_below b1).alloc _).setRow (F := []) (.inr hs) _).nil_below
  generalize World.setRow _ _ _ = w2 at S2 B2 ⊢
  have H := hid (show _ ∧ _ from ⟨S2, B2⟩)
  clear S2 B2 b1
  refine (trimR_one H.out.1).mono ?_
  rintro e w' ⟨rfl, rfl⟩
  go_wp2_with fail
  refine trimL_none.mono ?_
  rintro e w' ⟨rfl, rfl⟩
  go_wp2_with fail
  go_ret
  exact ⟨rfl, H.out.2⟩

set_option maxHeartbeats 400000 in
theorem figures_one (w : World) : Calls Tryz.prog 166 #[.string text1] w fun e w' => e = .returned (.bool true) ∧ Below w.heap.size w w' := by
  go_enter Tryz.func166, Tryz.ntmps166
  go_wp2_with fail
  refine (trim_one _).mono ?_
  rintro e w1 ⟨rfl, b1⟩
  go_wp2_with fail
  go_ret
  exact ⟨rfl, b1⟩
end Go.Proofs.YtpcjfgihglfdgaaGreatDoor

namespace Go.Proofs.YtpcjfgihglfdgaaGreatDoor
open Go.RowKit Go.Lib

def digL (f : Nat → Int) : List Value := (List.range 96).map fun i => .int .i8 (f i)
theorem dig_info {f : Nat → Int} : (Tryz.prog.info? 277).map (·.size) = some (digL f).length := by
  have : (Tryz.prog.info? 277).map (·.size) = some 96 := by kernel_rfl
  rw [this]
  simp [digL]
theorem NumAt.range {w : World} {b : Nat} {f : Nat → Int} (h : NumAt w b f) : w.rangeAt b 1 (digL f) := fun j v hv => by
  unfold digL at hv
  rw [List.getElem?_map, Option.map_eq_some_iff] at hv
  obtain ⟨i, hi, rfl⟩ := hv
  obtain ⟨h1, h2⟩ := List.getElem?_eq_some_iff.1 hi
  simp at h1 h2
  subst h2
  exact h.digit h1
theorem eq_digits (w : World) : (Op.equalIn 10000 277 (.agg (digL oneD).toArray) (.agg (digL oneD).toArray)).run Tryz.prog w = .ok true w := by
  have h1 : (Tryz.prog.keyLits 2 277 (digL oneD)).isSome = true := by kernel_rfl
  obtain ⟨la, hla⟩ := Option.isSome_iff_exists.1 h1
  have h2 : (Value.agg (digL oneD).toArray).formed Tryz.prog 277 = true := by kernel_rfl
  obtain ⟨r, h3, h4⟩ := run_equalIn_deep (P := Tryz.prog) 9998 2 277 (by kernel_rfl) w 2 2 _ _ la la h2 h2 hla hla
  rw [h4.2 rfl] at h3
  exact h3

set_option maxRecDepth 100000 in
set_option maxHeartbeats 1000000 in
theorem decRead_one (w : World) : Calls Tryz.prog 118 #[.string text1] w fun e w' => e = .returned (.tuple #[.agg #[.int .i64 1, .int .i64 0], .int .i64 0]) ∧ Below w.heap.size w w' := by
  go_enter Tryz.func118, Tryz.ntmps118
  go_wp2_with fail
  refine (cutPrefix_one _).mono ?_
  rintro e w1 ⟨rfl, rfl⟩
  go_wp2_with fail
  refine (cut_dot _).mono ?_
  rintro e w1 ⟨rfl, rfl⟩
  go_wp2_with fail
  refine (figures_one _).mono ?_
  rintro e w1 ⟨rfl, b1⟩
  have D1 : DecAt w1 w.heap.size 0 0 := (b1.block _ (by simp)).trans (heap_alloc_new w _)
  have B1 : Below w.heap.size w w1 := ((Below.refl _ w).alloc (Nat.le_refl _) _).trans (b1.mono (by simp))
  have hs : w.heap.size < w1.heap.size := heap_lt D1
  clear b1
  go_wp2_with (refine wpList_store_row rfl 279 _ _ rfl w1.heap.size (numL zeroD).toArray rfl (congrArg Value.agg zero_num0) 279 _ (heap_alloc_new w1 _) (num_info2 _) (by rw [zero_num]) (num_one _) ?_)
  have N2 : NumAt ((w1.alloc (.cells Tryz.zeroCells279 279)).setRow w1.heap.size (numL zeroD).toArray) w1.heap.size zeroD := heap_setRow_at (heap_alloc_new w1 _)
  have D2 : DecAt ((w1.alloc (.cells Tryz.zeroCells279 279)).setRow w1.heap.size (numL zeroD).toArray) w.heap.size 0 0 := heap_setRow_far (heap_alloc_keep D1 _) (by omega) _
  have B2 : Chg [] w ((w1.alloc (.cells Tryz.zeroCells279 279)).setRow w1.heap.size (numL zeroD).toArray) := ((Chg.of_below B1).alloc _).setRow (F := []) (.inr (by omega)) _
  obtain ⟨g, hg⟩ : ∃ g, g = w1.heap.size := ⟨_, rfl⟩
  rw [← hg] at N2 D2 B2 hs ⊢
  generalize World.setRow _ _ _ = w2 at N2 D2 B2 ⊢
  have c49 := N2.digit (i := 48) (by omega)
  have f49 := free_of (i := 49) N2
  have H2 := hid (show _ ∧ _ ∧ _ from ⟨N2, D2, B2⟩)
  clear N2 D2 B2 D1 B1 hg
  refine wp_loop_rounds 2 ?_
  rw [rounds_succ]
  go_wp2_with fail
  rw [rounds_succ]
  go_wp2_with fail
  obtain ⟨w3, hw3⟩ : ∃ w3, w3 = w2.setCell ⟨g, 49, none⟩ (.int .i8 1) := ⟨_, rfl⟩
  have ew : w2.setCell ⟨g, 49, none⟩ (.int .i8 (IntKind.i8.wrap (((text1[0].toNat : Int) - 48) % 256))) = w3 := by
    rw [hw3]
    rfl
  rw [ew]
  have N3 : NumAt w3 g oneD := by
    rw [hw3]
    exact H2.out.1.put (i := 48) (by omega) 1
  have D3 : DecAt w3 w.heap.size 0 0 := by
    rw [hw3]
    exact H2.out.2.1.far (by simp; omega) _
  have B3 : Chg [] w w3 := by
    rw [hw3]
    exact H2.out.2.2.setCell (.inr (by simp; omega)) _
  have H3 := hid (show _ ∧ _ ∧ _ from ⟨N3, D3, B3⟩)
  clear N3 D3 B3 ew hw3 c49 f49 H2
  refine wp_loop_rounds 1 ?_
  rw [rounds_succ]
  go_wp2_with (refine wpList_load_row rfl 279 _ rfl g rfl 279 _ (0, 0) _ H3.out.1 Tryz.underlying279 rfl (num_info2 _) ?_)
  refine (nearest_one _).mono ?_
  rintro e w4 ⟨rfl, b4⟩
  have N4 : NumAt w4 g oneD := (b4.block _ (heap_lt H3.out.1)).trans H3.out.1
  have D4 : DecAt w4 w.heap.size 0 0 := (b4.block _ (heap_lt H3.out.2.1)).trans H3.out.2.1
  have B4 : Chg [] w w4 := H3.out.2.2.trans (Chg.of_below (F := []) b4) (by simp)
  have H4 := hid (show _ ∧ _ ∧ _ from ⟨N4, D4, B4⟩)
  clear N4 D4 B4 H3 b4
  go_wp2_with fail
  refine (lay_one _).mono ?_
  rintro e w5 ⟨rfl, b5⟩
  have b45 := b5.mono (show w4.heap.size ≤ _ by simp)
  have N5 : NumAt w5 g oneD := (b45.block _ (heap_lt H4.out.1)).trans ((heap_alloc_keep H4.out.1 _))
  have D5 : DecAt w5 w.heap.size 0 0 := (b45.block _ (heap_lt H4.out.2.1)).trans (heap_alloc_keep H4.out.2.1 _)
  have E5 : DecAt w5 w4.heap.size 1 0 := (b5.block _ (by simp)).trans (heap_alloc_new w4 _)
  have B5 : Chg [] w w5 := (H4.out.2.2.alloc _).trans (Chg.of_below (F := []) b5) (by simp)
  have g4 := heap_lt H4.out.1
  have g5 := heap_lt E5
  have H5 := hid (show _ ∧ _ ∧ _ ∧ _ from ⟨N5, D5, E5, B5⟩)
  clear N5 D5 E5 B5 H4 b5 b45
  go_wp2_with (refine wpList_store_row rfl 279 _ _ rfl w5.heap.size _ rfl rfl 279 _ (heap_alloc_new w5 _) (num_info2 _) (by rw [zero_num]; exact num_size _ _) (num_one _) ?_)
  have N6 : NumAt ((w5.alloc (.cells Tryz.zeroCells279 279)).setRow w5.heap.size (numL oneD).toArray) w5.heap.size oneD := heap_setRow_at (heap_alloc_new w5 _)
  have M6 : NumAt ((w5.alloc (.cells Tryz.zeroCells279 279)).setRow w5.heap.size (numL oneD).toArray) g oneD := heap_setRow_far (heap_alloc_keep H5.out.1 _) (by omega) _
  have D6 : DecAt ((w5.alloc (.cells Tryz.zeroCells279 279)).setRow w5.heap.size (numL oneD).toArray) w.heap.size 0 0 := heap_setRow_far (heap_alloc_keep H5.out.2.1 _) (by omega) _
  have E6 : DecAt ((w5.alloc (.cells Tryz.zeroCells279 279)).setRow w5.heap.size (numL oneD).toArray) w4.heap.size 1 0 := heap_setRow_far (heap_alloc_keep H5.out.2.2.1 _) (by omega) _
  have B6 : Chg [] w ((w5.alloc (.cells Tryz.zeroCells279 279)).setRow w5.heap.size (numL oneD).toArray) := (H5.out.2.2.2.alloc _).setRow (F := []) (.inr (by omega)) _
  generalize World.setRow _ _ _ = w6 at N6 M6 D6 E6 B6 ⊢
  have f0 := free_of (i := 0) D6
  have f1 := free_of (i := 1) D6
  have d0 := D6.c0
  have d1 := D6.c1
  have e0 := E6.c0
  have e1 := E6.c1
  have heq := fun w => eq_digits w
  have H6 := hid (show _ ∧ _ ∧ _ from ⟨N6, M6, B6⟩)
  clear N6 M6 D6 E6 B6 H5
  go_wp2_with fail
  refine wp_load_mid 277 _ rfl w5.heap.size 1 rfl (digL oneD) _ H6.out.1.range Tryz.underlying277 rfl dig_info ?_
  go_wp2_with fail
  refine wp_load_mid 277 _ rfl g 1 rfl (digL oneD) _ H6.out.2.1.range Tryz.underlying277 rfl dig_info ?_
  go_wp2_with fail
  refine bodyPost_ret (v := .tuple #[.agg #[.int .i64 1, .int .i64 0], .int .i64 0]) (by simp [results, Tryz.results118, go_sem, *]) rfl ?_
  exact ⟨rfl, ((H6.out.2.2.setCell (F := []) (.inr (by simp)) _).setCell (.inr (by simp)) _).nil_below⟩
end Go.Proofs.YtpcjfgihglfdgaaGreatDoor

namespace Go.Proofs.YtpcjfgihglfdgaaGreatDoor
open Go.RowKit Go.Lib

end Go.Proofs.YtpcjfgihglfdgaaGreatDoor

namespace Go.Proofs.YtpcjfgihglfdgaaGreatDoor
open Go.RowKit Go.Lib

end Go.Proofs.YtpcjfgihglfdgaaGreatDoor

namespace Go.Proofs.YtpcjfgihglfdgaaGreatDoor
open Go.RowKit Go.Lib

def cmpZ (a b : Int) : Int := if a < b then -1 else if b < a then 1 else 0
set_option maxHeartbeats 400000 in
theorem nan_any (a : Int) (w : World) : Calls Tryz.prog 133 #[.int .i64 a] w fun e w' => e = .returned (.bool false) ∧ w = w' := by
  go_enter Tryz.func133, Tryz.ntmps133
  go_wp2
  go_ret
  exact ⟨ret_bool (by simp), rfl⟩

set_option maxHeartbeats 400000 in
theorem cmp_any (a b : Int) (w : World) : Calls Tryz.prog 85 #[.int .i64 a, .int .i64 b] w fun e w' => e = .returned (.int .i64 (cmpZ a b)) ∧ w = w' := by
  have H := fun x w => hid (nan_any x w)
  go_enter Tryz.func85, Tryz.ntmps85
  go_wp2_with fail
  refine (H _ _).out.mono ?_
  rintro e w1 ⟨rfl, rfl⟩
  go_wp2_with fail
  refine (H _ _).out.mono ?_
  rintro e w1 ⟨rfl, rfl⟩
  go_wp2_with fail
  all_goals go_ret
  all_goals exact ⟨ret_int (by unfold cmpZ; split <;> (try split) <;> omega), rfl⟩

/-- how two places stand -/
def ordP (a b : PAt) : Int := if aheadP a b then -1 else if a = b then 0 else 1
end Go.Proofs.YtpcjfgihglfdgaaGreatDoor

namespace Go.Proofs.YtpcjfgihglfdgaaGreatDoor
open Go.RowKit Go.Lib

def OrRel (w : World) (a b : Int) (i : Value) (wr : World) : Prop := ∃ j : Nat, i = .int .i64 (j : Int) ∧ j ≤ 2 ∧ (j = 0 ∨ a = 0) ∧ (j < 2 ∨ b = 0) ∧ wr = w
set_option maxHeartbeats 1000000 in
theorem or_any (w : World) (b1 : Nat) (a b : Int) (h0 : w.cell? ⟨b1, 0, none⟩ = some (.int .i64 a)) (h1 : w.cell? ⟨b1, 1, none⟩ = some (.int .i64 b)) :
    Calls Tryz.prog 84 #[.slice (some ⟨b1, 0, none⟩) 2 2] w fun e w' => e = .returned (.int .i64 (if a = 0 then b else a)) ∧ w = w' := by
  obtain ⟨r, hr⟩ : ∃ r, r = (if a = 0 then b else a) := ⟨_, rfl⟩
  rw [← hr]
  have HR := hid hr
  clear hr
  go_enter Tryz.func84, Tryz.ntmps84
  go_wp2_with fail
  go_loopw [8] (fun i wr => OrRel w a b i wr) (fun i _ => 2 - (intOf i).toNat)
  case atStart => exact ⟨0, rfl, by omega, .inl rfl, .inl (by omega), rfl⟩
  case round =>
    obtain ⟨j, rfl, hj, ha, hb, rfl⟩ := hrel
    by_cases hj0 : j = 0
    · subst hj0
      by_cases h : a = 0
      · clear ha hb
        go_wp2_with fail
        go_roundw
        case rel => exact ⟨1, by simp, by omega, .inr h, .inl (by omega), rfl⟩
        case measure => simp [intOf]
      · clear ha hb
        have HE := hid (show a = r from by rw [HR.out, if_neg h])
        go_wp2_with fail
        go_ret
        exact ⟨ret_int HE.out, rfl⟩
    · have ha' : a = 0 := ha.resolve_left hj0
      by_cases hj1 : j = 1
      · subst hj1
        by_cases h : b = 0
        · clear ha hb
          go_wp2_with fail
          go_roundw
          case rel => exact ⟨2, by simp, by omega, .inr ha', .inr h, rfl⟩
          case measure => simp [intOf]
        · clear ha hb
          have HE := hid (show b = r from by rw [HR.out, if_pos ha'])
          go_wp2_with fail
          go_ret
          exact ⟨ret_int HE.out, rfl⟩
      · obtain rfl : j = 2 := by omega
        have HE := hid (show 0 = r from by rw [HR.out, if_pos ha']; omega)
        clear ha hb
        go_wp2_with fail
        go_ret
        exact ⟨ret_int HE.out, rfl⟩

theorem two_new0 {w : World} {n : Nat} (hn : w.heap.size = n) (x y : Value) (t : TypeId) : ((w.alloc (.cells #[x, y] t)).drew).cell? ⟨n, 0, none⟩ = some x := by
  subst hn
  exact cell_of (heap_alloc_new w _) rfl
theorem two_new1 {w : World} {n : Nat} (hn : w.heap.size = n) (x y : Value) (t : TypeId) : ((w.alloc (.cells #[x, y] t)).drew).cell? ⟨n, 1, none⟩ = some y := by
  subst hn
  exact cell_of (heap_alloc_new w _) rfl
def cellV (r c : Int) (s : ByteArray) : Value := .agg #[.int .i64 r, .int .i64 c, .string s]
def ordC (r1 c1 r2 c2 : Int) : Int := if cmpZ r1 r2 = 0 then cmpZ c1 c2 else cmpZ r1 r2
set_option maxHeartbeats 2000000 in
set_option maxRecDepth 100000 in
theorem border_any (r1 c1 r2 c2 : Int) (s1 s2 : ByteArray) (w : World) : Calls Tryz.prog 39 #[cellV r1 c1 s1, cellV r2 c2 s2] w fun e w' => e = .returned (.int .i64 (ordC r1 c1 r2 c2)) ∧ Below w.heap.size w w' := by
  have H1 := hid (fun (a b : Int) (w : World) => cmp_any a b w)
  have h3 := fun (w : World) (b : Nat) h0 h1 => or_any w b (cmpZ r1 r2) (cmpZ c1 c2) h0 h1
  obtain ⟨z, hz⟩ : ∃ z, z = (if cmpZ r1 r2 = 0 then cmpZ c1 c2 else cmpZ r1 r2) := ⟨_, rfl⟩
  unfold ordC
  rw [← hz]
  rw [← hz] at h3
  have H3 := hid h3
  clear h3 hz
  unfold cellV
  go_enter Tryz.func39, Tryz.ntmps39
  go_wp2_with fail
  go_region_held (fun y => y.cell? ⟨w.heap.size, 0, none⟩ = some (.int .i64 r1) ∧ y.cell? ⟨w.heap.size, 1, none⟩ = some (.int .i64 c1) ∧ y.cell? ⟨w.heap.size + 1, 0, none⟩ = some (.int .i64 r2) ∧ y.cell? ⟨w.heap.size + 1, 1, none⟩ = some (.int .i64 c2)) (go_keep) (first | (go_at_call 85; refine (H1.out _ _ _).mono ?_; rintro e w1 ⟨rfl, rfl⟩) | (go_at_call 84; refine (H3.out _ _ (two_new0 (by simp) _ _ _) (two_new1 (by simp) _ _ _)).mono ?_; rintro e w1 ⟨rfl, rfl⟩))
  go_wp2
  go_ret
  exact ⟨rfl, ((((Below.refl _ w).alloc (Nat.le_refl _) _).alloc (by simp) _).alloc (by simp; omega) _).drew⟩
end Go.Proofs.YtpcjfgihglfdgaaGreatDoor

namespace Go.Proofs.YtpcjfgihglfdgaaGreatDoor
open Go.RowKit Go.Lib

/-- a slice whose elements have these cells, k each -/
def RowIn (w : World) (k : Nat) (v : Value) (L : List (List Value)) : Prop :=
  ∃ ao c b off, v = .slice ao L.length c ∧ L.length ≤ 9223372036854775807 ∧ ∀ (j : Nat) (cs : List Value), L[j]? = some cs → ao = some ⟨b, off, none⟩ ∧ ∀ (i : Nat) (u : Value), cs[i]? = some u → w.cell? ⟨b, off + j * k + i, none⟩ = some u
theorem RowIn.below {w w' : World} {k : Nat} {v : Value} {L : List (List Value)} (h : RowIn w k v L) (hb : Below w.heap.size w w') : RowIn w' k v L := by
  obtain ⟨ao, c, b, off, h1, h2, h3⟩ := h
  exact ⟨ao, c, b, off, h1, h2, fun j cs hj => ⟨(h3 j cs hj).1, fun i u hu => by
    have := (h3 j cs hj).2 i u hu
    exact (hb.cell (World.block_lt_of_cell? _ _ this)).trans this⟩⟩
theorem rowIn_nil (w : World) (k : Nat) (ao : Option Addr) (c : Nat) : RowIn w k (.slice ao 0 c) [] := ⟨ao, c, 0, 0, rfl, by simp, by simp⟩

def cellC (tx : PAt → ByteArray) (p : PAt) : List Value := [.int .i64 p.2.1, .int .i64 p.2.2, .string (tx p)]
def AtsIn (w : World) (v : Value) (l : List PAt) : Prop := RowIn w 3 v (l.map atC)
def CellsIn (w : World) (v : Value) (tx : PAt → ByteArray) (l : List PAt) : Prop := RowIn w 3 v (l.map (cellC tx))
theorem AtsIn.below {w w' : World} {v : Value} {l : List PAt} (h : AtsIn w v l) (hb : Below w.heap.size w w') : AtsIn w' v l := RowIn.below h hb
theorem CellsIn.below {w w' : World} {v : Value} {tx : PAt → ByteArray} {l : List PAt} (h : CellsIn w v tx l) (hb : Below w.heap.size w w') : CellsIn w' v tx l := RowIn.below h hb

theorem AtsIn.view {w : World} {v : Value} {l : List PAt} (h : AtsIn w v l) : ∃ ao c b off, v = .slice ao l.length c ∧ l.length ≤ 9223372036854775807 ∧ ∀ (j : Nat) (p : PAt), l[j]? = some p → ao = some ⟨b, off, none⟩ ∧
    w.cell? ⟨b, off + j * 3, none⟩ = some (.int .i64 p.1) ∧ w.cell? ⟨b, off + j * 3 + 1, none⟩ = some (.int .i64 p.2.1) ∧ w.cell? ⟨b, off + j * 3 + 2, none⟩ = some (.int .i64 p.2.2) := by
  obtain ⟨ao, c, b, off, h1, h2, h3⟩ := h
  refine ⟨ao, c, b, off, by simpa using h1, by simpa using h2, fun j p hp => ?_⟩
  have := h3 j (atC p) (by simp [hp])
  exact ⟨this.1, this.2 0 _ rfl, this.2 1 _ rfl, this.2 2 _ rfl⟩
theorem CellsIn.view {w : World} {v : Value} {tx : PAt → ByteArray} {l : List PAt} (h : CellsIn w v tx l) : ∃ ao c b off, v = .slice ao l.length c ∧ l.length ≤ 9223372036854775807 ∧ ∀ (j : Nat) (p : PAt), l[j]? = some p → ao = some ⟨b, off, none⟩ ∧
    w.cell? ⟨b, off + j * 3, none⟩ = some (.int .i64 p.2.1) ∧ w.cell? ⟨b, off + j * 3 + 1, none⟩ = some (.int .i64 p.2.2) ∧ w.cell? ⟨b, off + j * 3 + 2, none⟩ = some (.string (tx p)) := by
  obtain ⟨ao, c, b, off, h1, h2, h3⟩ := h
  refine ⟨ao, c, b, off, by simpa using h1, by simpa using h2, fun j p hp => ?_⟩
  have := h3 j (cellC tx p) (by simp [hp])
  exact ⟨this.1, this.2 0 _ rfl, this.2 1 _ rfl, this.2 2 _ rfl⟩

theorem onSheet_le (A : List PAt) (s : Int) : (onSheet A s).length ≤ A.length := List.length_filter_le _ _
end Go.Proofs.YtpcjfgihglfdgaaGreatDoor
