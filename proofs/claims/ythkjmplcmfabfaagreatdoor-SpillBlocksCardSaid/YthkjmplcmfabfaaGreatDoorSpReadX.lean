/- Contracts of dec.Read, val.Read, book.input at the text "x". No condition. -/
import Derived.Test.YthkjmplcmfabfaaGreatDoorSpVFold
import Derived.Test.YthkjmplcmfabfaaGreatDoorSpValue
namespace Go.Proofs.YthkjmplcmfabfaaGreatDoor
open Go.RowKit Go.Lib

abbrev textX : ByteArray := ⟨#[120]⟩

set_option maxRecDepth 100000 in
set_option maxHeartbeats 1000000 in
theorem indexByte_x (w : World) : Calls Tryz.prog 211 #[.string textX, .int .u8 46] w fun e w' => e = .returned (.int .i64 (-1)) ∧ w = w' := by
  go_enter Tryz.func211, Tryz.ntmps211
  go_wp2
  rw [run_callFunc_extern Tryz.func247 (by kernel_rfl) (by kernel_rfl) (by kernel_rfl) (e := Extern.BytealgIndexByte.indexByte) (by kernel_rfl), Lib.run_indexByteString]
  simp only [Result.andThen]
  rw [Oper.upon_value]
  go_wp2
  go_ret
  exact ⟨rfl, rfl⟩
set_option maxRecDepth 100000 in
set_option maxHeartbeats 1000000 in
theorem index_x (w : World) : Calls Tryz.prog 169 #[.string textX, .string ⟨#[46]⟩] w fun e w' => e = .returned (.int .i64 (-1)) ∧ w = w' := by
  go_enter Tryz.func169, Tryz.ntmps169
  go_wp2_with fail
  refine (indexByte_x _).mono ?_
  rintro e w1 ⟨rfl, rfl⟩
  go_wp2_with fail
  go_ret
  exact ⟨rfl, rfl⟩
set_option maxHeartbeats 400000 in
theorem slCut_x (w : World) : Calls Tryz.prog 119 #[.string textX, .string ⟨#[46]⟩] w fun e w' => e = .returned (.tuple #[.string textX, .string ⟨#[]⟩, .bool false]) ∧ w = w' := by
  go_enter Tryz.func119, Tryz.ntmps119
  go_wp2_with fail
  refine (index_x _).mono ?_
  rintro e w1 ⟨rfl, rfl⟩
  go_wp2_with fail
  go_ret3
  exact ⟨rfl, rfl⟩
set_option maxHeartbeats 400000 in
theorem cut_x (w : World) : Calls Tryz.prog 86 #[.string textX, .string ⟨#[46]⟩] w fun e w' => e = .returned (.tuple #[.string textX, .string ⟨#[]⟩, .bool false]) ∧ w = w' := by
  go_enter Tryz.func86, Tryz.ntmps86
  go_wp2_with fail
  refine (slCut_x _).mono ?_
  rintro e w1 ⟨rfl, rfl⟩
  go_wp2_with fail
  go_ret3
  exact ⟨rfl, rfl⟩
set_option maxHeartbeats 400000 in
theorem cutPrefix_x (w : World) : Calls Tryz.prog 57 #[.string textX, .string ⟨#[45]⟩] w fun e w' => e = .returned (.tuple #[.string textX, .bool false]) ∧ w = w' := by
  have h : ((textX.extract 0 1).toList == [45]) = false := by kernel_rfl
  go_enter Tryz.func57, Tryz.ntmps57
  go_wp2
  go_ret2
  exact ⟨rfl, rfl⟩

set_option maxHeartbeats 400000 in
theorem setHas_x {w : World} {b : Nat} (h : SetAt w b (below 10)) : Calls Tryz.prog 186 #[.pointer (some ⟨b, 0, none⟩), .int .u8 120] w fun e w' => e = .returned (.bool false) ∧ w = w' := by
  have h1 := h.cell (i := 120) (by omega)
  have e : below 10 120 = false := by decide
  rw [e] at h1
  clear h e
  go_enter Tryz.func186, Tryz.ntmps186
  go_wp2_with fail
  go_ret
  exact ⟨rfl, rfl⟩
set_option maxHeartbeats 400000 in
theorem trimR_x {w : World} {b : Nat} (h : SetAt w b (below 10)) : Calls Tryz.prog 152 #[.string textX, .pointer (some ⟨b, 0, none⟩)] w fun e w' => e = .returned (.string textX) ∧ w = w' := by
  have H := hid h
  clear h
  go_enter Tryz.func152, Tryz.ntmps152
  go_wp2_with fail
  refine wp_loop_rounds 1 ?_
  rw [rounds_succ]
  go_wp2_with fail
  refine (setHas_x H.out).mono ?_
  rintro e w1 ⟨rfl, rfl⟩
  go_wp2_with fail
  go_ret
  exact ⟨rfl, rfl⟩
set_option maxHeartbeats 400000 in
theorem trimL_x {w : World} {b : Nat} (h : SetAt w b (below 10)) : Calls Tryz.prog 151 #[.string textX, .pointer (some ⟨b, 0, none⟩)] w fun e w' => e = .returned (.string textX) ∧ w = w' := by
  have H := hid h
  clear h
  go_enter Tryz.func151, Tryz.ntmps151
  go_wp2_with fail
  refine wp_loop_rounds 1 ?_
  rw [rounds_succ]
  go_wp2_with fail
  refine (setHas_x H.out).mono ?_
  rintro e w1 ⟨rfl, rfl⟩
  go_wp2_with fail
  go_ret
  exact ⟨rfl, rfl⟩
set_option maxRecDepth 100000 in
set_option maxHeartbeats 1000000 in
theorem trim_x (w : World) : Calls Tryz.prog 107 #[.string textX, .string digits10] w fun e w' => e = .returned (.string textX) ∧ Below w.heap.size w w' := by
  go_enter Tryz.func107, Tryz.ntmps107
  go_wp2_with fail
  refine (makeSet_ten _).mono ?_
  rintro e w1 ⟨rfl, b1⟩
  have hs := b1.size
  go_wp2_with (refine wpList_store_row rfl 231 _ _ rfl w1.heap.size _ rfl rfl 231 _ (heap_alloc_new w1 _) (set_info2 _) (by rw [zero_set]; simp [setL_length]) (set_one _) ?_)
  have S2 : SetAt ((w1.alloc (.cells Tryz.zeroCells231 231)).setRow w1.heap.size (setL (below 10)).toArray) w1.heap.size (below 10) := heap_setRow_at (heap_alloc_new w1 _)
  have B2 : Below w.heap.size w ((w1.alloc (.cells Tryz.zeroCells231 231)).setRow w1.heap.size (setL (below 10)).toArray) := (((Chg.of_below b1).alloc _).setRow (F := []) (.inr hs) _).nil_below
  generalize World.setRow _ _ _ = w2 at S2 B2 ⊢
  have H := hid (show _ ∧ _ from ⟨S2, B2⟩)
  clear S2 B2 b1
  refine (trimR_x H.out.1).mono ?_
  rintro e w' ⟨rfl, rfl⟩
  go_wp2_with fail
  refine (trimL_x H.out.1).mono ?_
  rintro e w' ⟨rfl, rfl⟩
  go_wp2_with fail
  go_ret
  exact ⟨rfl, H.out.2⟩
set_option maxHeartbeats 400000 in
theorem figures_x (w : World) : Calls Tryz.prog 87 #[.string textX] w fun e w' => e = .returned (.bool false) ∧ Below w.heap.size w w' := by
  go_enter Tryz.func87, Tryz.ntmps87
  go_wp2_with fail
  refine (trim_x _).mono ?_
  rintro e w1 ⟨rfl, b1⟩
  go_wp2_with fail
  go_ret
  exact ⟨rfl, b1⟩
set_option maxRecDepth 100000 in
set_option maxHeartbeats 1000000 in
theorem decRead_x (w : World) : Calls Tryz.prog 59 #[.string textX] w fun e w' => e = .returned (.tuple #[.agg #[.int .i64 0, .int .i64 0], .int .i64 12]) ∧ Below w.heap.size w w' := by
  go_enter Tryz.func59, Tryz.ntmps59
  go_wp2_with fail
  refine (cutPrefix_x _).mono ?_
  rintro e w1 ⟨rfl, rfl⟩
  go_wp2_with fail
  refine (cut_x _).mono ?_
  rintro e w1 ⟨rfl, rfl⟩
  go_wp2_with fail
  refine (figures_x _).mono ?_
  rintro e w1 ⟨rfl, b1⟩
  have D1 : DecAt w1 w.heap.size 0 0 := (b1.block _ (by simp)).trans (heap_alloc_new w _)
  have B1 : Below w.heap.size w w1 := ((Below.refl _ w).alloc (Nat.le_refl _) _).trans (b1.mono (by simp))
  have f0 := free_of (i := 0) D1
  have f1 := free_of (i := 1) D1
  have d0 := D1.c0
  have d1 := D1.c1
  have HB := hid B1
  clear b1 D1 B1
  go_wp2_with fail
  refine bodyPost_ret (v := .tuple #[.agg #[.int .i64 0, .int .i64 0], .int .i64 12]) (by simp [results, Tryz.results59, go_sem, *]) rfl ?_
  exact ⟨rfl, (HB.out.setCell (by simp) _).setCell (by simp) _⟩

theorem low_x : lowS textX = textX := by kernel_rfl
set_option maxHeartbeats 1000000 in
theorem truths_x (w : World) : Calls Tryz.prog 61 #[.string textX] w fun e w' => e = .returned (.tuple #[.bool false, .bool false]) ∧ Below w.heap.size w w' := by
  have HF := hid (vfold_any textX (by decide) w)
  rw [low_x] at HF
  have h1 : (textX.toList == [116, 114, 117, 101]) = false := by kernel_rfl
  have h2 : (textX.toList == [102, 97, 108, 115, 101]) = false := by kernel_rfl
  go_enter Tryz.func61, Tryz.ntmps61
  go_wp2_with fail
  refine HF.out.mono ?_
  rintro e w1 ⟨rfl, b1⟩
  go_wp2_with fail
  go_ret2
  exact ⟨rfl, b1⟩
abbrev nm9 : List ByteArray := [⟨#[35, 78, 85, 76, 76, 33]⟩, ⟨#[35, 68, 73, 86, 47, 48, 33]⟩, ⟨#[35, 86, 65, 76, 85, 69, 33]⟩, ⟨#[35, 82, 69, 70, 33]⟩, ⟨#[35, 78, 65, 77, 69, 63]⟩, ⟨#[35, 78, 85, 77, 33]⟩, ⟨#[35, 78, 47, 65]⟩, ⟨#[35, 83, 80, 73, 76, 76, 33]⟩, ⟨#[35, 67, 73, 82, 67, 33]⟩]
set_option maxRecDepth 20000 in
set_option maxHeartbeats 1000000 in
theorem names_any9 (w : World) : Calls Tryz.prog 63 #[] w fun e w' => e = .returned (.agg (nm9.map Value.string).toArray) ∧ Below w.heap.size w w' := by
  go_enter Tryz.func63, Tryz.ntmps63
  go_wp2_with fail
  refine bodyPost_ret (v := .agg (nm9.map Value.string).toArray) (by simp [results, Tryz.results63, go_sem, *]) rfl ?_
  exact ⟨rfl, (Below.refl _ w).alloc (Nat.le_refl _) _⟩
set_option maxHeartbeats 400000 in
theorem slTrimPrefix_x (w : World) : Calls Tryz.prog 90 #[.string textX, .string ⟨#[39]⟩] w fun e w' => e = .returned (.string textX) ∧ w = w' := by
  have h : ((textX.extract 0 1).toList == [39]) = false := by kernel_rfl
  go_enter Tryz.func90, Tryz.ntmps90
  go_wp2
  go_ret
  exact ⟨rfl, rfl⟩
set_option maxHeartbeats 400000 in
theorem trimPrefix_x (w : World) : Calls Tryz.prog 66 #[.string textX, .string ⟨#[39]⟩] w fun e w' => e = .returned (.string textX) ∧ w = w' := by
  go_enter Tryz.func66, Tryz.ntmps66
  go_wp2_with fail
  refine (slTrimPrefix_x _).mono ?_
  rintro e w1 ⟨rfl, rfl⟩
  go_wp2_with fail
  go_ret
  exact ⟨rfl, rfl⟩
set_option maxRecDepth 20000 in
set_option maxHeartbeats 1000000 in
theorem valid_x (w : World) : Calls Tryz.prog 92 #[.string textX] w fun e w' => e = .returned (.bool true) ∧ w = w' := by
  go_enter Tryz.func92, Tryz.ntmps92
  go_wp2_with fail
  refine wp_loop_rounds 2 ?_
  rw [rounds_succ]
  go_wp2_with fail
  rw [rounds_succ]
  go_wp2_with fail
  go_ret
  exact ⟨rfl, rfl⟩
set_option maxHeartbeats 400000 in
theorem odd_x (w : World) : Calls Tryz.prog 91 #[.int .i32 120] w fun e w' => e = .returned (.bool false) ∧ w = w' := by
  go_enter Tryz.func91, Tryz.ntmps91
  go_wp2
  go_ret
  exact ⟨rfl, rfl⟩
set_option maxRecDepth 20000 in
set_option maxHeartbeats 1000000 in
theorem indexFunc_x (w : World) : Calls Tryz.prog 171 #[.string textX, .func (.func 91) #[] #[], .bool true] w fun e w' => e = .returned (.int .i64 (-1)) ∧ Below w.heap.size w w' := by
  have h1 := fun ty => run_next_ascii (P := Tryz.prog) w textX 0 ty (by decide) (by decide)
  have h2 := fun ty => run_next_end (P := Tryz.prog) w textX 1 ty (by decide)
  go_enter Tryz.func171, Tryz.ntmps171
  go_wp2_with fail
  refine wp_loop_rounds 2 ?_
  rw [rounds_succ]
  go_wp2_with fail
  refine (odd_x _).mono ?_
  rintro e w1 ⟨rfl, rfl⟩
  go_wp2_with fail
  rw [rounds_succ]
  go_wp2_with fail
  go_ret
  exact ⟨rfl, (Below.refl _ w).alloc (Nat.le_refl _) _⟩
set_option maxHeartbeats 400000 in
theorem indexFuncS_x (w : World) : Calls Tryz.prog 127 #[.string textX, .func (.func 91) #[] #[]] w fun e w' => e = .returned (.int .i64 (-1)) ∧ Below w.heap.size w w' := by
  go_enter Tryz.func127, Tryz.ntmps127
  go_wp2_with fail
  refine (indexFunc_x _).mono ?_
  rintro e w1 ⟨rfl, b1⟩
  go_wp2_with fail
  go_ret
  exact ⟨rfl, b1⟩
set_option maxHeartbeats 400000 in
theorem contains_x (w : World) : Calls Tryz.prog 93 #[.string textX, .func (.func 91) #[] #[]] w fun e w' => e = .returned (.bool false) ∧ Below w.heap.size w w' := by
  go_enter Tryz.func93, Tryz.ntmps93
  go_wp2_with fail
  refine (indexFuncS_x _).mono ?_
  rintro e w1 ⟨rfl, b1⟩
  go_wp2_with fail
  go_ret
  exact ⟨rfl, b1⟩
set_option maxHeartbeats 400000 in
theorem text_x (w : World) : Calls Tryz.prog 67 #[.string textX] w fun e w' => e = .returned (.bool true) ∧ Below w.heap.size w w' := by
  go_enter Tryz.func67, Tryz.ntmps67
  go_wp2_with fail
  refine (valid_x _).mono ?_
  rintro e w1 ⟨rfl, rfl⟩
  go_wp2_with fail
  refine (contains_x _).mono ?_
  rintro e w1 ⟨rfl, b1⟩
  go_wp2_with fail
  go_ret
  exact ⟨rfl, b1⟩

theorem nm9_low : ∀ n, n ∈ nm9 → n.size ≤ 1000 ∧ ((lowS n).toList == [120]) = false := by
  intro n hn
  simp only [List.mem_cons, List.not_mem_nil, or_false] at hn
  rcases hn with rfl | rfl | rfl | rfl | rfl | rfl | rfl | rfl | rfl <;> exact ⟨by decide, by kernel_rfl⟩
theorem index_name {j : Nat} (h : j < 9) : ∃ n, n ∈ nm9 ∧ ∀ x, (Instr.index 136 (.agg (nm9.map Value.string).toArray) (.int .i64 (j : Int))).run Tryz.prog x = .ok (.string n) x := by
  have : j = 0 ∨ j = 1 ∨ j = 2 ∨ j = 3 ∨ j = 4 ∨ j = 5 ∨ j = 6 ∨ j = 7 ∨ j = 8 := by omega
  rcases this with rfl | rfl | rfl | rfl | rfl | rfl | rfl | rfl | rfl
  · exact ⟨nm9[0], by simp, fun x => by kernel_rfl⟩
  · exact ⟨nm9[1], by simp, fun x => by kernel_rfl⟩
  · exact ⟨nm9[2], by simp, fun x => by kernel_rfl⟩
  · exact ⟨nm9[3], by simp, fun x => by kernel_rfl⟩
  · exact ⟨nm9[4], by simp, fun x => by kernel_rfl⟩
  · exact ⟨nm9[5], by simp, fun x => by kernel_rfl⟩
  · exact ⟨nm9[6], by simp, fun x => by kernel_rfl⟩
  · exact ⟨nm9[7], by simp, fun x => by kernel_rfl⟩
  · exact ⟨nm9[8], by simp, fun x => by kernel_rfl⟩
abbrev saidL (s : ByteArray) : List Value := [.int .i64 2, .int .i64 0, .int .i64 0, .string s, .bool false, .int .i64 0, .int .i64 0, .int .i64 0, .slice none 0 0, .int .i64 0, .slice none 0 0, .slice none 0 0]
theorem said_one : (saidL textX).toArray.all (·.oneCell') = true := by kernel_rfl
set_option maxHeartbeats 400000 in
theorem said_x (w : World) : Calls Tryz.prog 68 #[.string textX] w fun e w' => e = .returned (.agg (saidL textX).toArray) ∧ Below w.heap.size w w' := by
  go_enter Tryz.func68, Tryz.ntmps68
  go_wp2_with fail
  refine bodyPost_ret (v := .agg (saidL textX).toArray) (by simp [results, Tryz.results68, go_sem, *]) rfl ?_
  exact ⟨rfl, (Below.refl _ w).alloc (Nat.le_refl _) _⟩

/-- the answer's block while val.Read goes -/
def Vx (w : World) (wr : World) : Prop := (∃ cs, wr.heap[w.heap.size]? = some (.cells cs 100 (0, 0)) ∧ cs.size = 12) ∧ Below w.heap.size w wr
theorem Vx.keep {w y z : World} (h : Vx w y) (hb : Below y.heap.size y z) : Vx w z := by
  obtain ⟨⟨cs, h1, h3⟩, h2⟩ := h
  exact ⟨⟨cs, (hb.block _ (heap_lt h1)).trans h1, h3⟩, h2.trans (hb.mono h2.size)⟩
def VxRel (w : World) (iv : Value) (wr : World) : Prop := ∃ i : Nat, iv = .int .i64 (i : Int) ∧ i ≤ 9 ∧ Vx w wr
set_option maxRecDepth 100000 in
set_option maxHeartbeats 2000000 in
theorem valRead_x (w : World) : Calls Tryz.prog 38 #[.string textX] w fun e w' => e = .returned (.tuple #[.agg (saidL textX).toArray, .int .i64 0]) ∧ Below w.heap.size w w' := by
  go_enter Tryz.func38, Tryz.ntmps38
  go_wp2_with fail
  refine (decRead_x _).mono ?_
  rintro e w1 ⟨rfl, b1⟩
  have H1 := hid (show Vx w w1 from ⟨⟨_, (b1.block w.heap.size (by simp)).trans (heap_alloc_new w _), rfl⟩, ((Below.refl _ w).alloc (Nat.le_refl _) _).trans (b1.mono (by simp))⟩)
  clear b1
  go_wp2_with fail
  have H1' := hid (H1.out.keep ((Below.refl w1.heap.size w1).alloc (Nat.le_refl _) (.cells #[.int .i64 0, .int .i64 0] 86)))
  generalize World.alloc _ _ = w2 at H1' ⊢
  clear H1
  refine (truths_x _).mono ?_
  rintro e w3 ⟨rfl, b3⟩
  have H3 := hid (H1'.out.keep b3)
  clear b3 H1'
  go_wp2_with fail
  refine (names_any9 _).mono ?_
  rintro e w4 ⟨rfl, b4⟩
  have H4 := hid (H3.out.keep b4)
  have HIX := hid (fun (j : Nat) h => @index_name j h)
  have HLX := hid (vfold_any textX (by decide))
  rw [low_x] at HLX
  obtain ⟨ns, hns⟩ : ∃ ns, ns = (nm9.map Value.string).toArray := ⟨_, rfl⟩
  rw [← hns] at HIX ⊢
  clear b4 H3 hns
  go_wp2_with fail
  go_loopw [38] (fun iv wr => VxRel w iv wr) (fun iv _ => 9 - (RowKit.intOf iv).toNat)
  case atStart => exact ⟨0, rfl, by omega, H4.out⟩
  case round =>
    obtain ⟨i, rfl, hi, hv⟩ := hrel
    have HV := hid hv
    clear hv H4
    by_cases hin : i < 9
    · have hd1 : ((i : Int) < 9) = True := by rw [eq_iff_iff, iff_true]; omega
      obtain ⟨n, hn, hix⟩ : ∃ n, n ∈ nm9 ∧ ∀ x, (Instr.index 136 (.agg ns) (.int .i64 (i : Int))).run Tryz.prog x = .ok (.string n) x := HIX.out i hin
      have hl := nm9_low n hn
      have HF := hid (vfold_any n hl.1)
      have hne : ((lowS n).toList == [120]) = false := hl.2
      obtain ⟨ln, hln⟩ : ∃ ln, ln = lowS n := ⟨_, rfl⟩
      rw [← hln] at HF hne
      clear hl hn hln
      go_wp2_with fail
      refine (HF.out _).mono ?_
      rintro e w5 ⟨rfl, b5⟩
      have H5 := hid (HV.out.keep b5)
      clear b5
      go_wp2_with fail
      refine (HLX.out _).mono ?_
      rintro e w6 ⟨rfl, b6⟩
      have H6 := hid (H5.out.keep b6)
      clear b6 H5
      go_wp2_with fail
      go_roundw
      case rel => exact ⟨i + 1, by simp, by omega, H6.out⟩
      case measure => simp [RowKit.intOf]; omega
    · obtain rfl : i = 9 := by omega
      have hd1 : (((9 : Nat) : Int) < 9) = False := by rw [eq_iff_iff, iff_false]; omega
      clear HIX HLX
      go_wp2_with fail
      refine (trimPrefix_x _).mono ?_
      rintro e w5 ⟨rfl, rfl⟩
      go_wp2_with fail
      refine (text_x _).mono ?_
      rintro e w6 ⟨rfl, b6⟩
      have H6 := hid (HV.out.keep b6)
      clear b6
      go_wp2_with fail
      refine (said_x _).mono ?_
      rintro e w7 ⟨rfl, b7⟩
      have h7 := H6.out.keep b7
      obtain ⟨⟨cs, h8, h9⟩, h10⟩ := h7
      have H8 := hid (show _ ∧ _ from ⟨h8, h10⟩)
      have hcz : (saidL textX).toArray.size = cs.size := by rw [h9]; rfl
      clear h8 h10 b7 H6
      go_wp2_with (refine wpList_store_row rfl 100 _ _ rfl w.heap.size (saidL textX).toArray rfl rfl 100 _ H8.out.1 (by kernel_rfl) (by first | exact hcz | exact hcz.symm) said_one ?_)
      refine bodyPost_ret (v := .tuple #[.agg (saidL textX).toArray, .int .i64 0]) (results_row_tmp rfl _ _ w.heap.size _ _ rfl rfl (run_loadVar_row _ w.heap.size 100 100 (saidL textX).toArray (0, 0) _ (heap_setRow_at H8.out.1) Tryz.underlying100 rfl (by kernel_rfl))) rfl ?_
      exact ⟨rfl, ((Chg.of_below H8.out.2).setRow (F := []) (.inr (Nat.le_refl _)) _).nil_below⟩

set_option maxHeartbeats 1000000 in
theorem input_x (w : World) : Calls Tryz.prog 22 #[.string textX] w fun e w' => e = .returned (.bool true) ∧ Below w.heap.size w w' := by
  go_enter Tryz.func22, Tryz.ntmps22
  go_wp2_with fail
  refine (valRead_x _).mono ?_
  rintro e w1 ⟨rfl, b1⟩
  have B1 := hid b1
  clear b1
  go_wp2_with fail
  go_ret
  exact ⟨rfl, B1.out.alloc B1.out.size _⟩
end Go.Proofs.YthkjmplcmfabfaaGreatDoor
