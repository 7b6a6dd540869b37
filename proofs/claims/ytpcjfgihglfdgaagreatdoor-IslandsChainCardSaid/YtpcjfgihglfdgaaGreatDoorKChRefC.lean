/- Contract of ref.Read at a cell of the first column. Condition: utf8's tables lie as they were laid. Contracts of the decimals at the text "1". No condition. Contracts of dec.of, dec.lay, (number).nearest at 1. No condition. -/
import Derived.Test.YtpcjfgihglfdgaaGreatDoorKSpName
import Derived.Test.YtpcjfgihglfdgaaGreatDoorKSpSmallA
import Derived.LoopN
import Derived.Deep.MidRow
import Derived.Laws.Rows
import Derived.StillTailTactics
import Derived.Laws.Tables

namespace Go.Proofs.YtpcjfgihglfdgaaGreatDoor
open Go.RowKit Go.Lib

abbrev refZ : List Value := [.string ⟨#[]⟩, .int .i64 0, .int .i64 0, .bool false, .bool false, .bool false]
/-- what stands while Read goes -/
structure Rd (w : World) (rest : List UInt8) (row : List Value) (y : World) : Prop where
  out : y.heap[w.heap.size]? = some (.cells refZ.toArray 77 (0, 0))
  r : y.heap[w.heap.size + 1]? = some (.cells row.toArray 77 (0, 0))
  rest : RestAt (w.heap.size + 1 + 1) rest y
  low : Below w.heap.size w y
theorem Rd.keep {w y z : World} {rest : List UInt8} {row : List Value} (h : Rd w rest row y) (hb : Below y.heap.size y z) : Rd w rest row z :=
  ⟨(hb.block _ (heap_lt h.out)).trans h.out, (hb.block _ (heap_lt h.r)).trans h.r, (hb.block _ (heap_lt h.rest)).trans h.rest, h.low.trans (hb.mono h.low.size)⟩
theorem Rd.take {w y z : World} {rest rest' : List UInt8} {row : List Value} (h : Rd w rest row y) (hr : RestAt (w.heap.size + 1 + 1) rest' z) (hc : Chg [w.heap.size + 1 + 1] y z) : Rd w rest' row z :=
  ⟨hc.heap h.out (by simp only [List.mem_singleton]; omega), hc.heap h.r (by simp only [List.mem_singleton]; omega), hr, ((Chg.of_below (F := [w.heap.size + 1 + 1]) h.low).trans hc (by simp)).below (fun x hx => by simp only [List.mem_singleton] at hx; omega) (Nat.le_refl _)⟩
theorem Rd.set {w y : World} {rest : List UInt8} {row : List Value} (h : Rd w rest row y) (i : Nat) (v : Value) (row' : List Value) (hrow : (row.toArray.setIfInBounds i v) = row'.toArray) : Rd w rest row' (y.setCell ⟨w.heap.size + 1, i, none⟩ v) :=
  ⟨heap_setCell_far h.out (by show w.heap.size ≠ w.heap.size + 1; omega) _, by have := heap_setCell_at (i := i) h.r v; rw [hrow] at this; exact this, heap_setCell_far h.rest (by show w.heap.size + 1 + 1 ≠ w.heap.size + 1; omega) _, h.low.setCell (Nat.le_succ _) _⟩

theorem refB_tl (n : Nat) : (bs (refB n)).toList = refB n := bs_toList _
theorem refB_ne (n : Nat) : (refB n == [35, 82, 69, 70, 33]) = false := by
  rw [Bool.eq_false_iff]
  intro h
  have := eq_of_beq h
  unfold refB at this
  simp at this
theorem rletter_digit {b : UInt8} (h : digitB b = true) : rletterB b = false := by
  have := digit_range h
  unfold rletterB
  rw [decide_eq_false]
  omega
theorem take_letter {n : Nat} (h : n < 100) : (refB n).takeWhile rletterB = [65] ∧ (refB n).drop (span rletterB (refB n)) = digs n := by
  have hd := digs_fact h
  have hs : span rletterB (refB n) = 1 := span_is (p := [65]) (r := digs n) (by simp [rletterB]) (fun b hb => rletter_digit (hd.1 b (List.mem_of_head? hb)))
  refine ⟨?_, by rw [hs]; rfl⟩
  rw [List.prefix_iff_eq_take.1 (List.takeWhile_prefix rletterB), ← span, hs]
  rfl
theorem take_digit {n : Nat} (h : n < 100) : (digs n).takeWhile digitB = digs n ∧ (digs n).drop (span digitB (digs n)) = [] := by
  have hd := digs_fact h
  have hs : span digitB (digs n) = (digs n).length := by
    have := span_is (f := digitB) (p := digs n) (r := []) hd.1 (by simp)
    rwa [List.append_nil] at this
  refine ⟨?_, by rw [hs]; exact List.drop_length⟩
  rw [List.prefix_iff_eq_take.1 (List.takeWhile_prefix digitB), ← span, hs, List.take_length]

theorem ref_info (r : Nat) : (Tryz.prog.info? 77).map (·.size) = some (refV r).toArray.size := by
  have : (Tryz.prog.info? 77).map (·.size) = some 6 := by kernel_rfl
  rw [this]
  rfl
theorem ref_one (r : Nat) : (refV r).toArray.all (·.oneCell') = true := by first | kernel_rfl | simp [Value.oneCell'] | simp
theorem results_rowt {fn : Func} {p q : Tmp} {t1 : TypeId} (h : fn.results = #[.cell p t1, .tmp q]) (tmps : Array Value) (w : World) (g : Nat) (v1 v2 : Value)
    (hp : tmps.getD p undef = .pointer (some ⟨g, 0, none⟩)) (hq : tmps.getD q undef = v2) (h1 : (loadVar t1 ⟨g, 0, none⟩).run Tryz.prog w = .ok v1 w) : (results fn tmps).run Tryz.prog w = .ok (.tuple #[v1, v2]) w := by
  have hp' : tmps[p]?.getD undef = .pointer (some ⟨g, 0, none⟩) := by simpa using hp
  have hq' : tmps[q]?.getD undef = v2 := by simpa using hq
  simp [results, h, hp', hq', asAddr, h1, Result.andThen]
set_option maxRecDepth 20000 in
set_option maxHeartbeats 2000000 in
theorem refRead_any (n : Nat) (h1 : 1 ≤ n) (h2 : n ≤ 33) (w : World) (hT : Tabs w) : Calls Tryz.prog 138 #[.string (bs (refB n))] w fun e w' => e = .returned (.tuple #[.agg (refV (n - 1)).toArray, .int .i64 0]) ∧ Below w.heap.size w w' := by
  have hd := digs_fact (n := n) (by omega)
  have htl := refB_tl n
  have hne := refB_ne n
  have hall : ∀ b ∈ refB n, b ≠ 33 := by
    intro b hb
    rcases List.mem_cons.1 hb with rfl | hb
    · decide
    · exact hd.2.2.2.1 b hb
  have hlen : (refB n).length < 2 ^ 62 := by
    have := hd.2.2.1
    unfold refB
    rw [List.length_cons]
    omega
  have S := hid (fun w => sheet_any (refB n) hall hlen w)
  have HD := hid hd
  have HLEN := hid hlen
  have HT0 := hid hT
  have tl := take_letter (n := n) (by omega)
  have td := take_digit (n := n) (by omega)
  have TL := hid tl
  have TD := hid td
  clear hd hall hlen hT tl td
  go_enter Tryz.func138, Tryz.ntmps138
  go_wp2_with fail
  refine (S.out _).mono ?_
  rintro e w1 ⟨rfl, rfl⟩
  go_wp2_with fail
  have R0 := hid (show Rd w (refB n) refZ (((w.alloc (.cells refZ.toArray 77)).alloc (.cells refZ.toArray 77)).alloc (.cells #[.string (bs (refB n))] 9)) from
    ⟨heap_alloc_keep (heap_alloc_keep (heap_alloc_new w _) _) _, heap_alloc_keep (heap_alloc2_new w _ _) _, by have := heap_alloc2_new (w.alloc (.cells refZ.toArray 77)) (.cells refZ.toArray 77) (.cells #[.string (bs (refB n))] 9); rwa [World.size_alloc] at this, (((Below.refl _ w).alloc (Nat.le_refl _) _).alloc (by simp) _).alloc (by simp; omega) _⟩)
  generalize World.alloc (World.alloc (World.alloc _ _) _) _ = w0 at R0 ⊢
  refine (dollar_no _ (refB n) _ R0.out.rest (by unfold refB; simp)).mono ?_
  rintro e w1 ⟨rfl, hr, hc⟩
  have R1 := hid (R0.out.take hr hc)
  clear hr hc R0
  have f4 := free_of (i := 4) R1.out.r
  have c4 := cell_of (i := 4) R1.out.r rfl
  go_wp2_with fail
  have R2 := hid (R1.out.set 4 (.bool false) refZ rfl)
  clear R1 f4 c4
  generalize World.setCell _ _ _ = w2 at R2 ⊢
  refine (take_any 188 (.inl rfl) rletterB (hid refLetter_b) _ (refB n) HLEN.out _ R2.out.rest).mono ?_
  rintro e w3 ⟨rfl, hr, hc⟩
  rw [TL.out.2] at hr
  rw [TL.out.1]
  have R3 := hid (R2.out.take hr hc)
  clear hr hc R2
  go_wp2_with fail
  refine (readColumn_A _ (HT0.out.below R3.out.low)).mono ?_
  rintro e w4 ⟨rfl, b4⟩
  have R4 := hid (R3.out.keep b4)
  clear b4 R3
  go_wp2_with fail
  refine (dollar_no _ (digs n) _ R4.out.rest HD.out.2.2.2.2.2.2.2).mono ?_
  rintro e w5 ⟨rfl, hr, hc⟩
  have R5 := hid (R4.out.take hr hc)
  clear hr hc R4
  have f3 := free_of (i := 3) R5.out.r
  have c3 := cell_of (i := 3) R5.out.r rfl
  go_wp2_with fail
  have R6 := hid (R5.out.set 3 (.bool false) refZ rfl)
  clear R5 f3 c3
  generalize World.setCell _ _ _ = w6 at R6 ⊢
  refine (take_any 190 (.inr rfl) digitB (hid refDigit_b) _ (digs n) (Nat.lt_of_le_of_lt HD.out.2.2.1 (by decide)) _ R6.out.rest).mono ?_
  rintro e w7 ⟨rfl, hr, hc⟩
  rw [TD.out.2] at hr
  rw [TD.out.1]
  have R7 := hid (R6.out.take hr hc)
  clear hr hc R6
  go_wp2_with fail
  refine (atoi_any (digs n) HD.out.1 HD.out.2.1 (by have := HD.out.2.2.1; omega) _).mono ?_
  rintro e w8 ⟨rfl, b8⟩
  have hn : numOf 0 (digs n) = n := HD.out.2.2.2.2.1
  rw [hn]
  have R8 := hid (R7.out.keep b8)
  clear b8 R7 hn
  have q0 : w8.cell? ⟨w.heap.size + 1 + 1, 0, none⟩ = some (.string (bs [])) := cell_of R8.out.rest rfl
  have e0 : (bs []).toList = [] := bs_toList []
  go_wp2_with fail
  refine (itoa_any h1 h2 _).mono ?_
  rintro e w9 ⟨rfl, rfl⟩
  have f1 := free_of (i := 1) R8.out.r
  have c1 := cell_of (i := 1) R8.out.r rfl
  have f2 := free_of (i := 2) R8.out.r
  have c2 := cell_of (i := 2) R8.out.r rfl
  have c0 := cell_of (i := 0) R8.out.r rfl
  have c3 := cell_of (i := 3) R8.out.r rfl
  have c4 := cell_of (i := 4) R8.out.r rfl
  have c5 := cell_of (i := 5) R8.out.r rfl
  go_wp2_with fail
  have hn1 : ((n : Int) - 1) = ((n - 1 : Nat) : Int) := by omega
  rw [hn1]
  have hr200 : n - 1 < 200 := by omega
  obtain ⟨r, hr⟩ : ∃ r, r = n - 1 := ⟨_, rfl⟩
  rw [← hr] at hr200 ⊢
  have HNR := hid hr
  have R9 := hid ((R8.out.set 1 (.int .i64 r) [.string ⟨#[]⟩, .int .i64 r, .int .i64 0, .bool false, .bool false, .bool false] rfl).set 2 (.int .i64 0) (refV r) rfl)
  clear hn1 hr R8 q0 e0 f1 c1 f2 c2 c0 c3 c4 c5 htl hne
  generalize World.setCell (World.setCell _ _ _) _ _ = w9 at R9 ⊢
  refine (refRight_any r hr200 _).mono ?_
  rintro e w10 ⟨rfl, b10⟩
  have R10 := hid (R9.out.keep b10)
  clear b10 R9
  go_wp2_with (first | (refine wpList_load_row rfl 77 _ rfl (w.heap.size + 1) rfl 77 _ (0, 0) _ R10.out.r Tryz.underlying77 rfl (ref_info r) ?_) | (refine wpList_store_row rfl 77 _ _ rfl w.heap.size (refV r).toArray rfl rfl 77 _ R10.out.out (ref_info r) (by rfl) (ref_one r) ?_))
  refine bodyPost_ret (v := .tuple #[.agg (refV r).toArray, .int .i64 0]) (results_rowt rfl _ _ w.heap.size _ _ rfl rfl (run_loadVar_row (P := Tryz.prog) _ w.heap.size 77 77 (refV r).toArray (0, 0) _ (heap_setRow_at R10.out.out) Tryz.underlying77 rfl (ref_info r))) rfl ?_
  exact ⟨by rw [HNR.out], ((Chg.of_below (F := []) R10.out.low).setRow (F := []) (.inr (Nat.le_refl _)) _).nil_below⟩
end Go.Proofs.YtpcjfgihglfdgaaGreatDoor

namespace Go.Proofs.YtpcjfgihglfdgaaGreatDoor
open Go.RowKit Go.Lib

/-- a number's cells: whether it is below nought, 96 digits, whether there is more -/
def numL (f : Nat → Int) : List Value := .bool false :: ((List.range 96).map fun i => Value.int .i8 (f i)) ++ [.bool false]
def NumAt (w : World) (b : Nat) (f : Nat → Int) : Prop := w.heap[b]? = some (.cells (numL f).toArray 279 (0, 0))
theorem numL_length (f : Nat → Int) : (numL f).length = 98 := by simp [numL]
theorem numL_digit (f : Nat → Int) {i : Nat} (h : i < 96) : (numL f)[1 + i]? = some (.int .i8 (f i)) := by
  unfold numL
  rw [List.cons_append, Nat.add_comm, List.getElem?_cons_succ, List.getElem?_append_left (by simpa using h)]
  simp [h]
theorem numL_below (f : Nat → Int) : (numL f)[0]? = some (.bool false) := rfl
theorem numL_more (f : Nat → Int) : (numL f)[97]? = some (.bool false) := by
  unfold numL
  rw [List.cons_append, List.getElem?_cons_succ, List.getElem?_append_right (by simp)]
  simp
section
variable {w : World} {b : Nat} {f : Nat → Int}
theorem NumAt.digit (h : NumAt w b f) {i : Nat} (hi : i < 96) : w.cell? ⟨b, 1 + i, none⟩ = some (.int .i8 (f i)) := cell_of h (by simpa using numL_digit f hi)
theorem NumAt.below (h : NumAt w b f) : w.cell? ⟨b, 0, none⟩ = some (.bool false) := cell_of h (by simpa using numL_below f)
theorem NumAt.more (h : NumAt w b f) : w.cell? ⟨b, 97, none⟩ = some (.bool false) := cell_of h (by simpa using numL_more f)
end
/-- the digits of 1 -/
def oneD (i : Nat) : Int := if i = 48 then 1 else 0
theorem oneD_low {i : Nat} (h : i ≠ 48) : oneD i = 0 := if_neg h

def RestRel (w : World) (m i : Value) (wr : World) : Prop := ∃ j : Nat, i = .int .i64 (j : Int) ∧ j ≤ 38 ∧ m = .bool false ∧ wr = w
set_option maxHeartbeats 1000000 in
theorem rest_one {w : World} {b : Nat} (h : NumAt w b oneD) : Calls Tryz.prog 225 #[.pointer (some ⟨b, 0, none⟩), .int .i64 39] w fun e w' => e = .returned (.int .i64 (-2)) ∧ w = w' := by
  have h1 := h.more
  have h2 := h.digit (i := 38) (by omega)
  rw [oneD_low (by omega)] at h2
  have H := hid h
  clear h
  go_enter Tryz.func225, Tryz.ntmps225
  go_wp2_with fail
  go_loopw [5, 15] (fun m i wr => RestRel w m i wr) (fun _ i _ => 38 - (intOf i).toNat)
  case atStart => exact ⟨0, rfl, by omega, rfl, rfl⟩
  case round =>
    obtain ⟨j, rfl, hj, rfl, rfl⟩ := hrel
    by_cases hg : j < 38
    · have h3 := H.out.digit (i := j) (by omega)
      rw [oneD_low (by omega)] at h3
      go_wp2_with fail
      go_roundw
      case rel => exact ⟨j + 1, by simp, by omega, rfl, rfl⟩
      case measure => simp [intOf]; omega
    · obtain rfl : j = 38 := by omega
      go_wp2_with fail
      go_ret
      exact ⟨rfl, rfl⟩

def TopRel (w : World) (i : Value) (wr : World) : Prop := ∃ j : Nat, i = .int .i64 (j : Int) ∧ 48 ≤ j ∧ j ≤ 95 ∧ wr = w
set_option maxHeartbeats 1000000 in
theorem top_one {w : World} {b : Nat} (h : NumAt w b oneD) : Calls Tryz.prog 227 #[.pointer (some ⟨b, 0, none⟩)] w fun e w' => e = .returned (.int .i64 48) ∧ w = w' := by
  have H := hid h
  clear h
  go_enter Tryz.func227, Tryz.ntmps227
  go_wp2_with fail
  go_loopw [3] (fun i wr => TopRel w i wr) (fun i _ => (intOf i).toNat)
  case atStart => exact ⟨95, rfl, by omega, by omega, rfl⟩
  case round =>
    obtain ⟨j, rfl, hj, hj2, rfl⟩ := hrel
    have h3 := H.out.digit (i := j) (by omega)
    by_cases hg : j = 48
    · subst hg
      have e : oneD 48 = 1 := rfl
      rw [e] at h3
      go_wp2_with fail
      go_ret
      exact ⟨rfl, rfl⟩
    · rw [oneD_low hg] at h3
      go_wp2_with fail
      go_roundw
      case rel => exact ⟨j - 1, by go_num, by omega, by omega, rfl⟩
      case measure => simp [intOf]; omega

/-- the powers that the digits of 1 make, one by one -/
def pw (k : Nat) : Int := if k = 48 then 0 else 10 ^ (47 - k)
theorem pw_range {k : Nat} (h1 : 38 ≤ k) (h2 : k ≤ 48) : 0 ≤ pw k ∧ pw k ≤ 1000000000 := by
  have : k = 38 ∨ k = 39 ∨ k = 40 ∨ k = 41 ∨ k = 42 ∨ k = 43 ∨ k = 44 ∨ k = 45 ∨ k = 46 ∨ k = 47 ∨ k = 48 := by omega
  rcases this with rfl | rfl | rfl | rfl | rfl | rfl | rfl | rfl | rfl | rfl | rfl <;> decide
theorem pw_next {k : Nat} (h1 : 39 ≤ k) (h2 : k ≤ 48) : 10 * pw k + oneD k = pw (k - 1) := by
  have : k = 39 ∨ k = 40 ∨ k = 41 ∨ k = 42 ∨ k = 43 ∨ k = 44 ∨ k = 45 ∨ k = 46 ∨ k = 47 ∨ k = 48 := by omega
  rcases this with rfl | rfl | rfl | rfl | rfl | rfl | rfl | rfl | rfl | rfl <;> decide
theorem oneD_range (k : Nat) : 0 ≤ oneD k ∧ oneD k ≤ 1 := by unfold oneD; split <;> omega
def DecAt (w : World) (b : Nat) (m e : Int) : Prop := w.heap[b]? = some (.cells #[.int .i64 m, .int .i64 e] 75 (0, 0))
def ExRel (w : World) (i : Value) (wr : World) : Prop := ∃ k : Nat, i = .int .i64 (k : Int) ∧ 38 ≤ k ∧ k ≤ 48 ∧ DecAt wr (w.heap.size + 1) (pw k) 0 ∧ DecAt wr w.heap.size 0 0 ∧ Below w.heap.size w wr
/-- behind the digits: how often ten is taken out -/
def ExRel2 (w : World) (wr : World) : Prop := ∃ k : Nat, k ≤ 9 ∧ DecAt wr (w.heap.size + 1) (10 ^ k) (-(k : Int)) ∧ DecAt wr w.heap.size 0 0 ∧ Below w.heap.size w wr
theorem DecAt.set0 {w : World} {b : Nat} {m e : Int} (h : DecAt w b m e) (x : Int) : DecAt (w.setCell ⟨b, 0, none⟩ (.int .i64 x)) b x e := heap_setCell_at h _
theorem DecAt.set1 {w : World} {b : Nat} {m e : Int} (h : DecAt w b m e) (x : Int) : DecAt (w.setCell ⟨b, 1, none⟩ (.int .i64 x)) b m x := heap_setCell_at h _
theorem DecAt.c0 {w : World} {b : Nat} {m e : Int} (h : DecAt w b m e) : w.cell? ⟨b, 0, none⟩ = some (.int .i64 m) := cell_of h rfl
theorem DecAt.c1 {w : World} {b : Nat} {m e : Int} (h : DecAt w b m e) : w.cell? ⟨b, 1, none⟩ = some (.int .i64 e) := cell_of h rfl
theorem DecAt.far {w : World} {b : Nat} {m e : Int} (h : DecAt w b m e) {p : Addr} (hp : b ≠ p.block) (x : Value) : DecAt (w.setCell p x) b m e := (Below.heap_setCell w p x b hp).trans h
theorem meas_dec {w w' : World} {b : Nat} {m m' e e' : Int} (h' : DecAt w' b m' e') (h : DecAt w b m e) (h0 : 0 ≤ m') (hl : m' < m) : (intOf ((w'.cell? ⟨b, 0, none⟩).getD undef)).toNat < (intOf ((w.cell? ⟨b, 0, none⟩).getD undef)).toNat := by
  rw [h'.c0, h.c0]
  simp [intOf]
  omega
set_option maxRecDepth 20000 in
set_option maxHeartbeats 1000000 in
theorem exact_one {w : World} {b : Nat} (h : NumAt w b oneD) : Calls Tryz.prog 228 #[.pointer (some ⟨b, 0, none⟩), .int .i64 48, .int .i64 39] w fun e w' => e = .returned (.agg #[.int .i64 1, .int .i64 0]) ∧ Below w.heap.size w w' := by
  have H := hid h
  have hb := heap_lt h
  clear h
  go_enter Tryz.func228, Tryz.ntmps228
  go_wp2_with fail
  go_loopw [8] (fun i wr => ExRel w i wr) (fun i _ => (intOf i).toNat)
  case atStart => exact ⟨48, rfl, by omega, by omega, heap_alloc2_new w _ _, heap_alloc_keep (heap_alloc_new w _) _, ((Below.refl _ w).alloc (Nat.le_refl _) _).alloc (by simp) _⟩
  case round =>
    obtain ⟨k, rfl, hk1, hk2, D1, D0, hbw⟩ := hrel
    have c0 := D1.c0
    have c1 := D1.c1
    have f0 := free_of (i := 0) D1
    have f1 := free_of (i := 1) D1
    by_cases hg : k = 38
    · subst hg
      have e : pw 38 = 1000000000 := by decide
      rw [e] at c0 D1
      have R := hid (show ExRel2 w (wr.setCell ⟨w.heap.size + 1, 1, none⟩ (.int .i64 (-9))) from ⟨9, by omega, by simpa using D1.set1 (-9), D0.far (by simp) _, hbw.setCell (by simp) _⟩)
      clear D1 D0
      go_wp2_with fail
      obtain ⟨w2, hw2⟩ : ∃ w2, w2 = wr.setCell ⟨w.heap.size + 1, 1, none⟩ (.int .i64 (-9)) := ⟨_, rfl⟩
      have RW := R.out
      rw [← hw2] at RW ⊢
      clear hw2 R c0 c1 f0 f1 hbw
      go_loopw [36] (fun _ wr => ExRel2 w wr) (fun _ wr => (intOf ((wr.cell? ⟨w.heap.size + 1, 0, none⟩).getD undef)).toNat)
      case atStart => exact RW
      case round =>
        clear RW
        obtain ⟨k, hk, D1, D0, hbw⟩ := hrel
        have f0 := free_of (i := 0) D1
        have f1 := free_of (i := 1) D1
        have g0 := free_of (i := 0) D0
        have g1 := free_of (i := 1) D0
        by_cases hk0 : k = 0
        · subst hk0
          have D1' : DecAt wr (w.heap.size + 1) 1 0 := by simpa using D1
          have c0 := D1'.c0
          have c1 := D1'.c1
          have d0 := D0.c0
          have d1 := D0.c1
          have hbl := (hbw.cell (p := ⟨b, 0, none⟩) hb).trans H.out.below
          have HB := hid hbw
          clear D1 D1' hbw
          go_wp2_with fail
          refine bodyPost_ret (v := .agg #[.int .i64 1, .int .i64 0]) (by simp [results, Tryz.results228, go_sem, *]) rfl ?_
          exact ⟨rfl, (HB.out.setCell (by simp) _).setCell (by simp) _⟩
        · obtain ⟨x, hx⟩ : ∃ x : Int, x = 10 ^ k := ⟨_, rfl⟩
          obtain ⟨y, hy⟩ : ∃ y : Int, y = 10 ^ (k - 1) := ⟨_, rfl⟩
          have hxy : x = 10 * y := by
            rw [hx, hy, ← Int.pow_succ']
            congr 1
            omega
          have hy0 : 0 ≤ y := by rw [hy]; exact Int.pow_nonneg (by omega)
          have hy1 : y ≤ 1000000000 := by
            rw [hy]
            have : k = 1 ∨ k = 2 ∨ k = 3 ∨ k = 4 ∨ k = 5 ∨ k = 6 ∨ k = 7 ∨ k = 8 ∨ k = 9 := by omega
            rcases this with rfl | rfl | rfl | rfl | rfl | rfl | rfl | rfl | rfl <;> decide
          rw [← hx] at D1
          have c0 := D1.c0
          have c1 := D1.c1
          have hc : (x % 10 == 0) = true := by rw [beq_iff_eq]; omega
          have hq : x / 10 = y := by omega
          have hx0 : 0 ≤ x := by omega
          have R := hid (show ExRel2 w ((wr.setCell ⟨w.heap.size + 1, 0, none⟩ (.int .i64 y)).setCell ⟨w.heap.size + 1, 1, none⟩ (.int .i64 (-(k : Int) + 1))) from ⟨k - 1, by omega, by rw [← hy]; have := (D1.set0 y).set1 (-(k : Int) + 1); rwa [show -((k - 1 : Nat) : Int) = -(k : Int) + 1 by omega], (D0.far (by simp) _).far (by simp) _, (hbw.setCell (by simp) _).setCell (by simp) _⟩)
          have hy2 : 1 ≤ y := by
            have := Int.pow_pos (m := k - 1) (show (0 : Int) < 10 by decide)
            rw [← hy] at this
            omega
          have MS := hid (meas_dec (w' := (wr.setCell ⟨w.heap.size + 1, 0, none⟩ (.int .i64 y)).setCell ⟨w.heap.size + 1, 1, none⟩ (.int .i64 (-(k : Int) + 1))) ((D1.set0 y).set1 _) D1 hy0 (by omega))
          clear D1 D0 hx hy hxy
          go_wp2_with fail
          go_roundw
          case rel => exact R.out
          case measure => exact MS.out
    · have hd := (hbw.cell (p := ⟨b, 1 + k, none⟩) hb).trans (H.out.digit (i := k) (by omega))
      have r1 := pw_range hk1 hk2
      have r2 := oneD_range k
      have hn := pw_next (k := k) (by omega) hk2
      obtain ⟨x, hx⟩ : ∃ x, x = pw k := ⟨_, rfl⟩
      obtain ⟨y, hy⟩ : ∃ y, y = oneD k := ⟨_, rfl⟩
      rw [← hx] at c0 D1 hn r1
      rw [← hy] at hd hn r2
      have R := hid (show ExRel w (.int .i64 ((k : Int) - 1)) (wr.drew.setCell ⟨w.heap.size + 1, 0, none⟩ (.int .i64 (10 * x + y))) from ⟨k - 1, by go_num, by omega, by omega, by rw [← hn]; exact DecAt.set0 (w := wr.drew) D1 _, DecAt.far (w := wr.drew) D0 (by simp) _, hbw.drew.setCell (by simp) _⟩)
      have g0 : (0 : Int) ≤ (k : Int) := by omega
      have g1 : (k : Int) < 96 := by omega
      have g2 : k < 96 := by omega
      clear D1 D0 hx hy hn
      go_wp2_with fail
      go_still_tail 12, (by kernel_rfl)
      change wpList _ _ _ _ _ wr.drew
      go_wp2_with fail
      go_roundw
      case rel => exact R.out
      case measure => simp [intOf]; omega

theorem setCells_same {b : Nat} {xs : Array Value} {t : TypeId} {f : Nat × Nat} : ∀ (vs : List Value) (o : Nat) (w : World), (∀ (j : Nat) (v : Value), vs[j]? = some v → xs[o + j]? = some v) → w.heap[b]? = some (.cells xs t f) → (w.setCells b o vs).heap[b]? = some (.cells xs t f) := by
  intro vs
  induction vs with
  | nil => intro o w _ h; exact h
  | cons v vs ih =>
    intro o w hv h
    refine ih (o + 1) _ (fun j u hj => by have := hv (j + 1) u (by simpa using hj); rwa [show o + (j + 1) = o + 1 + j by omega] at this) ?_
    have e := heap_setCell_at (i := o) h v
    rw [e]
    have h0 := hv 0 v rfl
    rw [Nat.add_zero] at h0
    obtain ⟨h1, h2⟩ := Array.getElem?_eq_some_iff.1 h0
    congr 2
    apply Array.ext_getElem?
    intro i
    rw [Array.getElem?_setIfInBounds]
    split
    · rename_i e2; subst e2; simp [h1, h2]
    · rfl
theorem Chg.setCells {F : List Nat} {a b : World} {g : Nat} (h : Chg F a b) (hg : g ∈ F ∨ a.heap.size ≤ g) : ∀ (vs : List Value) (o : Nat), Chg F a (b.setCells g o vs) := by
  intro vs
  induction vs generalizing b with
  | nil => intro o; exact h
  | cons v vs ih => intro o; exact ih (h.setCell (p := ⟨g, o, none⟩) hg v) (o + 1)

theorem zero_i8 (w : World) : (zeroValue 276).run Tryz.prog w = .ok (.int .i8 0) w := by kernel_rfl
set_option maxHeartbeats 1000000 in
theorem cut_one {w : World} {b : Nat} (h : NumAt w b oneD) : Calls Tryz.prog 226 #[.pointer (some ⟨b, 0, none⟩), .int .i64 39, .bool false] w fun e w' => e = .returned (.tuple #[]) ∧ NumAt w' b oneD ∧ Chg [b] w w' := by
  have hcl : ∀ ty, (Builtin.clear_ #[363] ty #[.slice (some ⟨b, 1, none⟩) 39 96]).run Tryz.prog w = .ok (.tuple #[]) (w.setCells b 1 (List.replicate 39 (.int .i8 0))) :=
    fun ty => Lib.run_clear_slice w 363 276 ty (.int .i8 0) Tryz.underlying363 zero_i8 rfl rfl b 1 39 96 (by omega) (fun j hj => by rw [h.digit (by omega)]; rfl) (fun j hj => free_of h)
  have h2 : NumAt (w.setCells b 1 (List.replicate 39 (.int .i8 0))) b oneD := setCells_same _ _ _ (fun j v hv => by
    rw [List.getElem?_replicate] at hv
    split at hv
    · have := numL_digit oneD (i := j) (by omega)
      rw [oneD_low (by omega)] at this
      cases hv
      simpa using this
    · cases hv) h
  have k2 : Chg [b] w (w.setCells b 1 (List.replicate 39 (.int .i8 0))) := (Chg.refl _ w).setCells (.inl (by simp)) _ _
  obtain ⟨w2, hw2⟩ : ∃ w2, w2 = w.setCells b 1 (List.replicate 39 (.int .i8 0)) := ⟨_, rfl⟩
  rw [← hw2] at hcl h2 k2
  have c97 := h2.more
  have f97 := free_of (i := 97) h2
  have H2 := hid h2
  have K2 := hid k2
  clear h h2 k2 hw2
  go_enter Tryz.func226, Tryz.ntmps226
  go_wp2_with fail
  refine wp_loop_rounds 1 ?_
  rw [rounds_succ]
  go_wp2_with fail
  go_end0
  exact ⟨rfl, setCells_same [.bool false] 97 w2 (fun j v hv => by
    cases j with
    | zero => cases hv; simpa using numL_more oneD
    | succ j => simp at hv) H2.out, K2.out.setCell (.inl (by simp)) _⟩
end Go.Proofs.YtpcjfgihglfdgaaGreatDoor

namespace Go.Proofs.YtpcjfgihglfdgaaGreatDoor
open Go.RowKit Go.Lib

def zeroD : Nat → Int := fun _ => 0
theorem zero_num : Tryz.zeroCells279 = (numL zeroD).toArray := by kernel_rfl
theorem zero_num0 : Tryz.zeroCells279.setIfInBounds 0 (.bool false) = (numL zeroD).toArray := by kernel_rfl
theorem num_info : (Tryz.prog.info? 279).map (·.size) = some 98 := by kernel_rfl
theorem num_info2 (f : Nat → Int) : (Tryz.prog.info? 279).map (·.size) = some (numL f).toArray.size := by rw [num_info]; simp [numL_length]
theorem num_one (f : Nat → Int) : (numL f).toArray.all (·.oneCell') = true := by
  rw [Array.all_eq_true_iff_forall_mem]
  intro v hv
  simp only [numL, List.mem_toArray, List.mem_append, List.mem_cons, List.mem_map, List.not_mem_nil, or_false] at hv
  rcases hv with (rfl | ⟨i, _, rfl⟩) | rfl <;> rfl
theorem num_size (f g : Nat → Int) : (numL f).toArray.size = (numL g).toArray.size := by simp [numL_length]
/-- a digit more -/
theorem NumAt.put {w : World} {b i : Nat} {f : Nat → Int} (h : NumAt w b f) (hi : i < 96) (x : Int) : NumAt (w.setCell ⟨b, 1 + i, none⟩ (.int .i8 x)) b (fun k => if k = i then x else f k) := by
  have e := heap_setCell_at (i := 1 + i) h (.int .i8 x)
  unfold NumAt
  rw [e]
  congr 2
  apply Array.ext'
  rw [Array.toList_setIfInBounds]
  apply List.ext_getElem?
  intro k
  simp only [numL, List.cons_append, Nat.add_comm 1 i]
  cases k with
  | zero => simp
  | succ k =>
    simp only [List.set_cons_succ, List.getElem?_cons_succ]
    rw [List.getElem?_set]
    by_cases hk : i = k
    · subst hk
      rw [if_pos rfl, if_pos (by simp; omega), List.getElem?_append_left (by simpa using hi)]
      simp [hi]
    · rw [if_neg hk]
      by_cases h96 : k < 96
      · rw [List.getElem?_append_left (by simpa using h96), List.getElem?_append_left (by simpa using h96)]
        simp [h96, Ne.symm hk]
      · rw [List.getElem?_append_right (by simp; omega), List.getElem?_append_right (by simp; omega)]
        simp

set_option maxRecDepth 20000 in
set_option maxHeartbeats 400000 in
theorem div64_one (w : World) : Calls Tryz.prog 287 #[.int .u64 0, .int .u64 1, .int .u64 10] w fun e w' => e = .returned (.tuple #[.int .u64 0, .int .u64 1]) ∧ ∃ n, w' = w.drewN n := by
  go_enter Tryz.func287, Tryz.ntmps287
  go_wp2_with fail
  go_quiet (fail)
  go_wp2_with fail
  go_ret2
  exact ⟨rfl, _, rfl⟩

set_option maxRecDepth 100000 in
set_option maxHeartbeats 1000000 in
theorem of_one (w : World) : Calls Tryz.prog 229 #[.bool false, .int .u64 0, .int .u64 1, .int .i64 0] w fun e w' => e = .returned (.agg (numL oneD).toArray) ∧ Below w.heap.size w w' := by
  go_enter Tryz.func229, Tryz.ntmps229
  go_wp2_with (refine wpList_store_row rfl 279 _ _ rfl (w.heap.size + 1) (numL zeroD).toArray rfl (congrArg Value.agg zero_num0) 279 _ (heap_alloc2_new w _ _) (num_info2 _) (by rw [zero_num]) (num_one _) ?_)
  have N1 : NumAt (((w.alloc (.cells Tryz.zeroCells279 279)).alloc (.cells Tryz.zeroCells279 279)).setRow (w.heap.size + 1) (numL zeroD).toArray) (w.heap.size + 1) zeroD := heap_setRow_at (heap_alloc2_new w _ _)
  have N0 : NumAt (((w.alloc (.cells Tryz.zeroCells279 279)).alloc (.cells Tryz.zeroCells279 279)).setRow (w.heap.size + 1) (numL zeroD).toArray) w.heap.size zeroD := by
    have := heap_setRow_far (heap_alloc_keep (heap_alloc_new w (.cells Tryz.zeroCells279 279)) (.cells Tryz.zeroCells279 279)) (show w.heap.size ≠ w.heap.size + 1 by omega) (numL zeroD).toArray
    rw [zero_num] at this ⊢
    exact this
  have B2 : Chg [] w (((w.alloc (.cells Tryz.zeroCells279 279)).alloc (.cells Tryz.zeroCells279 279)).setRow (w.heap.size + 1) (numL zeroD).toArray) := (((Chg.refl _ w).alloc _).alloc _).setRow (.inr (by omega)) _
  generalize World.setRow _ _ _ = w2 at N1 N0 B2 ⊢
  have f49 := free_of (i := 49) N1
  have NN := hid (show _ ∧ _ ∧ _ from ⟨N0, N1, B2⟩)
  have c49 := N1.digit (i := 48) (by omega)
  clear N0 N1 B2
  refine wp_loop_rounds 2 ?_
  rw [rounds_succ]
  go_wp2_with fail
  refine (div64_one _).mono ?_
  rintro e w3 ⟨rfl, nn, rfl⟩
  go_wp2_with fail
  obtain ⟨w4, hw4⟩ : ∃ w4, w4 = (w2.drewN nn).setCell ⟨w.heap.size + 1, 49, none⟩ (.int .i8 1) := ⟨_, rfl⟩
  have M1 : NumAt w4 (w.heap.size + 1) oneD := by
    rw [hw4]
    exact NumAt.put (w := w2.drewN nn) (i := 48) NN.out.2.1 (by omega) 1
  have M0 : NumAt w4 w.heap.size zeroD := by
    rw [hw4]
    exact heap_setCell_far (w := w2.drewN nn) NN.out.1 (by omega) _
  have M2 : Chg [] w w4 := by
    rw [hw4]
    exact (NN.out.2.2.drewN nn).setCell (.inr (by simp)) _
  rw [← hw4]
  clear hw4 NN c49 f49
  have MM := hid (show _ ∧ _ ∧ _ from ⟨M0, M1, M2⟩)
  clear M0 M1 M2
  rw [rounds_succ]
  go_wp2_with (first | (refine wpList_load_row rfl 279 _ rfl (w.heap.size + 1) rfl 279 _ (0, 0) _ MM.out.2.1 Tryz.underlying279 rfl (num_info2 _) ?_) | (refine wpList_store_row rfl 279 _ _ rfl w.heap.size _ rfl rfl 279 _ MM.out.1 (num_info2 _) (num_size _ _) (num_one _) ?_))
  refine bodyPost_ret (v := .agg (numL oneD).toArray) (results_cell_row rfl _ _ w.heap.size 279 _ (0, 0) _ rfl (heap_setRow_at MM.out.1) Tryz.underlying279 rfl (num_info2 _)) rfl ?_
  exact ⟨rfl, (MM.out.2.2.setRow (.inr (Nat.le_refl _)) _).nil_below⟩

set_option maxHeartbeats 400000 in
theorem abs_one (w : World) : Calls Tryz.prog 230 #[.int .i64 1] w fun e w' => e = .returned (.int .u64 1) ∧ w' = w := by
  go_enter Tryz.func230, Tryz.ntmps230
  go_wp2_with fail
  go_ret
  exact ⟨rfl, rfl⟩

set_option maxRecDepth 100000 in
set_option maxHeartbeats 1000000 in
theorem lay_one (w : World) : Calls Tryz.prog 168 #[.agg #[.int .i64 1, .int .i64 0]] w fun e w' => e = .returned (.agg (numL oneD).toArray) ∧ Below w.heap.size w w' := by
  go_enter Tryz.func168, Tryz.ntmps168
  go_wp2_with fail
  have N0 : NumAt ((w.alloc (.cells #[.int .i64 1, .int .i64 0] 75)).alloc (.cells Tryz.zeroCells279 279)) (w.heap.size + 1) zeroD := by
    have := heap_alloc2_new w (.cells #[.int .i64 1, .int .i64 0] 75) (.cells Tryz.zeroCells279 279)
    unfold NumAt
    rw [← zero_num]
    exact this
  have B0 : Below w.heap.size w ((w.alloc (.cells #[.int .i64 1, .int .i64 0] 75)).alloc (.cells Tryz.zeroCells279 279)) := ((Below.refl _ w).alloc (Nat.le_refl _) _).alloc (by simp) _
  have e0 : ((w.alloc (.cells #[.int .i64 1, .int .i64 0] 75)).alloc (.cells Tryz.zeroCells279 279)).cell? ⟨w.heap.size, 0, none⟩ = some (.int .i64 1) := cell_of (heap_alloc_keep (heap_alloc_new w _) _) rfl
  have e1 : ((w.alloc (.cells #[.int .i64 1, .int .i64 0] 75)).alloc (.cells Tryz.zeroCells279 279)).cell? ⟨w.heap.size, 1, none⟩ = some (.int .i64 0) := cell_of (heap_alloc_keep (heap_alloc_new w _) _) rfl
  generalize World.alloc _ _ = w2 at N0 B0 e0 e1 ⊢
  have NN := hid (show _ ∧ _ from ⟨N0, B0⟩)
  clear N0 B0
  refine wp_region_still_tail 8 (by kernel_rfl) (by kernel_rfl) ?_
  simp only [List.take_succ_cons, List.take_zero, List.drop_succ_cons, List.drop_zero]
  repeat still_step
  still_call (abs_one _)
  repeat still_step
  refine wpStill_nil ?_
  change wpList _ _ _ _ _ w2.drew
  go_wp2_with fail
  refine (of_one _).mono ?_
  rintro e w3 ⟨rfl, b3⟩
  have N3 : NumAt w3 (w.heap.size + 1) zeroD := (b3.block _ (heap_lt NN.out.1)).trans NN.out.1
  have B3 : Below w.heap.size w w3 := NN.out.2.trans ((show Below w2.heap.size w2 w3 from ⟨b3.os, b3.tape, b3.output, b3.size, b3.block⟩).mono NN.out.2.size)
  go_wp2_with (refine wpList_store_row rfl 279 _ _ rfl (w.heap.size + 1) _ rfl rfl 279 _ N3 (num_info2 _) (num_size _ _) (num_one _) ?_)
  refine bodyPost_ret (v := .agg (numL oneD).toArray) (results_cell_row rfl _ _ (w.heap.size + 1) 279 _ (0, 0) _ rfl (heap_setRow_at N3) Tryz.underlying279 rfl (num_info2 _)) rfl ?_
  exact ⟨rfl, ((Chg.of_below (B3.mono (Nat.le_refl _))).setRow (F := []) (.inr (by omega)) _).nil_below⟩

set_option maxRecDepth 100000 in
set_option maxHeartbeats 1000000 in
theorem nearest_one (w : World) : Calls Tryz.prog 167 #[.agg (numL oneD).toArray] w fun e w' => e = .returned (.tuple #[.agg #[.int .i64 1, .int .i64 0], .int .i64 0]) ∧ Below w.heap.size w w' := by
  obtain ⟨V, hV⟩ : ∃ V, V = (numL oneD).toArray := ⟨_, rfl⟩
  rw [← hV]
  have HV := hid hV
  clear hV
  go_enter Tryz.func167, Tryz.ntmps167
  go_wp2_with fail
  have N0 : NumAt ((w.alloc (.cells V 279)).alloc (.cells #[.int .i64 0, .int .i64 0] 75)) w.heap.size oneD := by
    have := heap_alloc_keep (heap_alloc_new w (.cells V 279)) (.cells #[.int .i64 0, .int .i64 0] 75)
    rw [HV.out] at this ⊢
    exact this
  have D0 : DecAt ((w.alloc (.cells V 279)).alloc (.cells #[.int .i64 0, .int .i64 0] 75)) (w.heap.size + 1) 0 0 := heap_alloc2_new w _ _
  have C0 : Chg [] w ((w.alloc (.cells V 279)).alloc (.cells #[.int .i64 0, .int .i64 0] 75)) := ((Chg.refl _ w).alloc _).alloc _
  have S0 : w.heap.size + 1 < ((w.alloc (.cells V 279)).alloc (.cells #[.int .i64 0, .int .i64 0] 75)).heap.size := by simp
  generalize World.alloc _ _ = w2 at N0 D0 C0 S0 ⊢
  have NN := hid (show _ ∧ _ ∧ _ ∧ _ from ⟨N0, D0, C0, S0⟩)
  clear N0 D0 C0 S0
  refine wp_loop_rounds 1 ?_
  rw [rounds_succ]
  go_wp2_with (first | (refine wpList_load_row rfl 279 _ rfl w.heap.size rfl 279 _ (0, 0) _ NN.out.1 Tryz.underlying279 rfl (num_info2 _) ?_) | (refine wpList_store_row rfl 279 _ _ rfl w2.heap.size _ rfl rfl 279 _ (heap_alloc_new w2 _) (num_info2 _) (by rw [zero_num]; exact num_size _ _) (num_one _) ?_))
  have N3 : NumAt ((w2.alloc (.cells Tryz.zeroCells279 279)).setRow w2.heap.size (numL oneD).toArray) w2.heap.size oneD := heap_setRow_at (heap_alloc_new w2 _)
  have D3 : DecAt ((w2.alloc (.cells Tryz.zeroCells279 279)).setRow w2.heap.size (numL oneD).toArray) (w.heap.size + 1) 0 0 := heap_setRow_far (heap_alloc_keep NN.out.2.1 _) (by have := NN.out.2.2.2; omega) _
  have C3 : Chg [] w ((w2.alloc (.cells Tryz.zeroCells279 279)).setRow w2.heap.size (numL oneD).toArray) := (NN.out.2.2.1.alloc _).setRow (.inr NN.out.2.2.1.size) _
  have hg0 := NN.out.2.2.2
  obtain ⟨g, hg⟩ : ∃ g, g = w2.heap.size := ⟨_, rfl⟩
  rw [← hg] at N3 D3 C3 hg0 ⊢
  generalize World.setRow _ _ _ = w3 at N3 D3 C3 ⊢
  have MM := hid (show _ ∧ _ ∧ _ from ⟨N3, D3, C3⟩)
  clear N3 D3 C3 NN hg
  refine (rest_one MM.out.1).mono ?_
  rintro e w' ⟨rfl, rfl⟩
  have c48 := MM.out.1.digit (i := 39) (by omega)
  go_wp2_with fail
  refine (cut_one MM.out.1).mono ?_
  rintro e w4 ⟨rfl, N4, C4⟩
  have D4 : DecAt w4 (w.heap.size + 1) 0 0 := C4.heap MM.out.2.1 (by simp; omega)
  have C04 : Chg [] w w4 := MM.out.2.2.trans C4 (by simp; have := MM.out.2.2.size; omega)
  have LL := hid (show _ ∧ _ ∧ _ from ⟨N4, D4, C04⟩)
  clear N4 C4 D4 C04 MM c48
  go_wp2_with fail
  refine (top_one LL.out.1).mono ?_
  rintro e w' ⟨rfl, rfl⟩
  go_wp2_with fail
  refine (exact_one LL.out.1).mono ?_
  rintro e w5 ⟨rfl, b5⟩
  have D5 : DecAt w5 (w.heap.size + 1) 0 0 := (b5.block _ (heap_lt LL.out.2.1)).trans LL.out.2.1
  have f0 := free_of (i := 0) D5
  have f1 := free_of (i := 1) D5
  have d0 := D5.c0
  have d1 := D5.c1
  have B5 := hid (show Below w.heap.size w w5 from LL.out.2.2.nil_below.trans (b5.mono LL.out.2.2.size))
  clear D5
  go_wp2_with fail
  refine bodyPost_ret (v := .tuple #[.agg #[.int .i64 1, .int .i64 0], .int .i64 0]) (by simp [results, Tryz.results167, go_sem, *]) rfl ?_
  exact ⟨rfl, (B5.out.setCell (by simp) _).setCell (by simp) _⟩
end Go.Proofs.YtpcjfgihglfdgaaGreatDoor
