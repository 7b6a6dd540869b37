/- Contract of lex.Tokens at the text "1". No condition. -/
import Derived.Test.YtmmknjpcffaidaaGreatDoorSpInput
import Derived.Test.YtmmknjpcffaidaaGreatDoorSpLex
import Derived.Test.YtmmknjpcffaidaaGreatDoorSpOwn
namespace Go.Proofs.YtmmknjpcffaidaaGreatDoor
open Go.RowKit Go.Lib

theorem LexAt.keep {w w' : World} {r : Nat} {a : Int} (h : LexAt w r a) (hb : Below w.heap.size w w') : LexAt w' r a := (hb.block _ (heap_lt h)).trans h
/-- the reader, and a block of the call's own, while the call goes -/
structure Lx (w : World) (r : Nat) (y : World) : Prop where
  at' : LexAt y r 0
  own : y.heap[w.heap.size]? = some (.cells #[.int .i64 0, .string ⟨#[]⟩, .int .i64 0] 179 (0, 0))
  low : Below w.heap.size w y
theorem Lx.keep {w y z : World} {r : Nat} (h : Lx w r y) (hb : Below y.heap.size y z) : Lx w r z :=
  ⟨h.at'.keep hb, (hb.block _ (heap_lt h.own)).trans h.own, h.low.trans (hb.mono h.low.size)⟩
theorem Lx.start {w : World} {r : Nat} (h : LexAt w r 0) : Lx w r (w.alloc (.cells #[.int .i64 0, .string ⟨#[]⟩, .int .i64 0] 179)) :=
  ⟨heap_alloc_keep h _, heap_alloc_new w _, (Below.refl _ w).alloc (Nat.le_refl _) _⟩
/-- the answer laid into the call's own block, behind the reader's step -/
theorem lex_end {w y z : World} {r : Nat} (h : Lx w r y) (_h1 : LexAt z r 1) (hc : Chg [r] y z) (hr : r < w.heap.size) :
    (z.heap[w.heap.size]? = some (.cells #[.int .i64 0, .string ⟨#[]⟩, .int .i64 0] 179 (0, 0))) ∧ Chg [r] w z := by
  refine ⟨(hc.block _ (heap_lt h.own) (by simp; omega)).trans h.own, (Chg.of_below (F := [r]) h.low).trans hc (by simp)⟩

set_option maxRecDepth 20000 in
set_option maxHeartbeats 1000000 in
theorem lexNumber_one {w : World} {r : Nat} (h : LexAt w r 0) : Calls Tryz.prog 225 #[.pointer (some ⟨r, 0, none⟩)] w (LexPost w r) := by
  have hr := heap_lt h
  have H0 := hid (Lx.start h)
  clear h
  go_enter Tryz.func225, Tryz.ntmps225
  go_wp2_with fail
  generalize World.alloc _ _ = w0 at H0 ⊢
  refine (lexRest_one H0.out.at').mono ?_
  rintro e w1 ⟨rfl, b1⟩
  have H1 := hid (H0.out.keep b1)
  clear b1 H0
  go_wp2_with fail
  refine (while_one _).mono ?_
  rintro e w2 ⟨rfl, b2⟩
  have H2 := hid (H1.out.keep b2)
  clear b2 H1
  go_wp2_with fail
  refine (lexRest_one H2.out.at').mono ?_
  rintro e w3 ⟨rfl, b3⟩
  have H3 := hid (H2.out.keep b3)
  clear b3 H2
  go_wp2_with fail
  refine (cutPrefix_none _).mono ?_
  rintro e w4 ⟨rfl, rfl⟩
  go_wp2_with fail
  refine (decRead_one _).mono ?_
  rintro e w5 ⟨rfl, b5⟩
  have H5 := hid (H3.out.keep b5)
  clear b5 H3
  go_wp2_with fail
  have H6 := hid (H5.out.keep ((Below.refl w5.heap.size w5).alloc (Nat.le_refl _) (.cells #[.int .i64 1, .int .i64 0] 103)))
  generalize World.alloc _ _ = w6 at H6 ⊢
  clear H5
  refine (tok_one H6.out.at').mono ?_
  rintro e w7 ⟨rfl, h7, c7⟩
  obtain ⟨h8, c8⟩ := lex_end H6.out h7 c7 hr
  have f0 := free_of (i := 0) h8
  have f1 := free_of (i := 1) h8
  have f2 := free_of (i := 2) h8
  have d0 := cell_of (i := 0) h8 rfl
  have d1 := cell_of (i := 1) h8 rfl
  have d2 := cell_of (i := 2) h8 rfl
  have H8 := hid (show _ ∧ _ from ⟨h7, c8⟩)
  clear h8 h7 c7 c8 H6
  go_wp2_with fail
  refine bodyPost_ret (v := .tuple #[.agg tokL.toArray, .bool true]) (by simp [results, Tryz.results225, go_sem, *]) rfl ?_
  refine ⟨rfl, ?_, ((H8.out.2.setCell (.inr (Nat.le_refl _)) _).setCell (.inr (Nat.le_refl _)) _).setCell (.inr (Nat.le_refl _)) _⟩
  exact heap_setCell_far (heap_setCell_far (heap_setCell_far H8.out.1 (by omega) _) (by omega) _) (by omega) _

set_option maxRecDepth 20000 in
set_option maxHeartbeats 1000000 in
theorem lexNext_one {w : World} {r : Nat} (h : LexAt w r 0) : Calls Tryz.prog 183 #[.pointer (some ⟨r, 0, none⟩)] w (LexPost w r) := by
  have hr := heap_lt h
  have H0 := hid (Lx.start h)
  have hix : ∀ x, (Instr.index 9 (.string text1) (.int .i64 0)).run Tryz.prog x = .ok (.int .u8 49) x := fun x => by
    rw [run_index_string x 9 _ _ _ Tryz.underlying9, dif_pos ⟨by omega, by show (0 : Int) < 1; omega⟩]
    rfl
  clear h
  go_enter Tryz.func183, Tryz.ntmps183
  go_wp2_with fail
  generalize World.alloc _ _ = w0 at H0 ⊢
  have c0 := cell_of (i := 0) H0.out.at' rfl
  have c1 := cell_of (i := 1) H0.out.at' rfl
  go_quiet (fail)
  have H1 := hid (H0.out.keep (below_drewN (Below.refl w0.heap.size w0) nq))
  clear c0 c1 hix H0
  go_wp2_with fail
  refine (lexDigit_one _).mono ?_
  rintro e w2 ⟨rfl, rfl⟩
  go_wp2_with fail
  refine (lexNumber_one H1.out.at').mono ?_
  rintro e w7 ⟨rfl, h7, c7⟩
  obtain ⟨h8, c8⟩ := lex_end H1.out h7 c7 hr
  have f0 := free_of (i := 0) h8
  have f1 := free_of (i := 1) h8
  have f2 := free_of (i := 2) h8
  have d0 := cell_of (i := 0) h8 rfl
  have d1 := cell_of (i := 1) h8 rfl
  have d2 := cell_of (i := 2) h8 rfl
  have H8 := hid (show _ ∧ _ from ⟨h7, c8⟩)
  clear h8 h7 c7 c8 H1
  go_wp2_with fail
  refine bodyPost_ret (v := .tuple #[.agg tokL.toArray, .bool true]) (by simp [results, Tryz.results183, go_sem, *]) rfl ?_
  refine ⟨rfl, ?_, ((H8.out.2.setCell (.inr (Nat.le_refl _)) _).setCell (.inr (Nat.le_refl _)) _).setCell (.inr (Nat.le_refl _)) _⟩
  exact heap_setCell_far (heap_setCell_far (heap_setCell_far H8.out.1 (by omega) _) (by omega) _) (by omega) _

theorem tok_info : (Tryz.prog.info? 179).map (fun i => (i.zero, i.size, i.bytes)) = some (some (.agg #[.int .i64 0, .string ⟨#[]⟩, .int .i64 0]), 3, 32) := by kernel_rfl
theorem tok_app (w : World) {g : Nat} (hg : w.heap.size = g) : ∃ a c w2, (Builtin.append_ #[174, 174] 174 #[.slice none 0 0, .slice (some ⟨g, 0, none⟩) 1 1]).run Tryz.prog (w.alloc (.cells tokL.toArray 179)) = .ok (.slice a 1 c) w2 ∧
    w2.ownsRow w.heap.size 179 3 (.slice a 1 c) 1 tokL ∧ Chg [] w w2 := by
  subst hg
  obtain ⟨i0, hi, hz0, hz1, hz2⟩ := info_parts tok_info
  obtain ⟨v', w2, h1, h2, h3, _, h5⟩ := run_append_own_at (P := Tryz.prog) (w.alloc (.cells tokL.toArray 179)) w.heap.size 174 174 179 i0 (.agg #[.int .i64 0, .string ⟨#[]⟩, .int .i64 0]) 3 32 Tryz.underlying174 hi hz0 hz1 hz2 rfl (by decide) (.slice none 0 0) 0 [] ⟨rfl, .inl ⟨rfl, rfl⟩⟩
    ⟨w.heap.size, 0, none⟩ 1 1 tokL rfl (cells_new _ _ _) (by intro u hu; simp at hu; rcases hu with rfl | rfl | rfl <;> rfl) (by unfold maxLen; omega) (by omega) (by simp)
  obtain ⟨a, c, rfl, _⟩ := ownsRow_view h2
  exact ⟨a, c, w2, h1, h2, ((Chg.refl _ w).alloc _).grown h3 (fun k hk => by cases hk)⟩

set_option maxRecDepth 20000 in
set_option maxHeartbeats 1000000 in
theorem tokens_one (w : World) : Calls Tryz.prog 134 #[.string text1] w fun e w' => (∃ a c, e = .returned (.tuple #[.slice a 1 c, .int .i64 0, .int .i64 0]) ∧ RowIn w' 3 (.slice a 1 c) [tokL]) ∧ Below w.heap.size w w' := by
  have hix : ∀ x, (Instr.index 9 (.string text1) (.int .i64 0)).run Tryz.prog x = .ok (.int .u8 49) x := fun x => by
    rw [run_index_string x 9 _ _ _ Tryz.underlying9, dif_pos ⟨by omega, by show (0 : Int) < 1; omega⟩]
    rfl
  go_enter Tryz.func134, Tryz.ntmps134
  go_wp2_with fail
  have L0 := hid (show LexAt (w.alloc (.cells #[.string text1, .int .i64 0] 229)) w.heap.size 0 from heap_alloc_new w _)
  have B0 := hid (show Chg [w.heap.size] w (w.alloc (.cells #[.string text1, .int .i64 0] 229)) from (Chg.refl _ w).alloc _)
  obtain ⟨r, hr⟩ : ∃ r, r = w.heap.size := ⟨_, rfl⟩
  rw [← hr] at L0 B0 ⊢
  generalize World.alloc _ _ = w0 at L0 B0 ⊢
  have HR := hid hr
  clear hr
  have c0 := cell_of (i := 0) L0.out rfl
  have c1 := cell_of (i := 1) L0.out rfl
  refine wp_loop_rounds 2 ?_
  rw [rounds_succ]
  go_wp2_with fail
  refine (lexNext_one L0.out).mono ?_
  rintro e w1 ⟨rfl, h1, hc1⟩
  have L1 := hid h1
  have B1 := hid (B0.out.trans hc1 (by simp))
  clear h1 hc1 L0 B0 c0 c1 hix
  obtain ⟨a, c, w2, happ, hown, hchg⟩ := tok_app (w1.alloc (.cells tokL.toArray 179)) (g := w1.heap.size + 1) (by simp)
  have hch := ((Chg.refl [] w1).alloc (.cells tokL.toArray 179)).trans hchg (by simp)
  have hlt := heap_lt L1.out
  have L2 := hid (show LexAt w2 r 1 from (hch.block _ hlt (by simp)).trans L1.out)
  have B2 := hid (B1.out.trans (hch) (by simp))
  have O2 := hid (rowIn_of_own (L := [tokL]) (by simp) hown)
  clear hown hchg hch L1
  go_wp2_with (at_builtin; refine wpList_append_run rfl _ _ _ rfl _ _ rfl rfl happ ?_)
  have c1 := cell_of (i := 1) L2.out rfl
  clear happ
  go_wp2_with fail
  rw [rounds_succ]
  go_wp2_with fail
  go_ret3
  exact ⟨⟨a, c, rfl, O2.out⟩, B2.out.below (fun x hx => by simp only [List.mem_singleton] at hx; rw [hx, HR.out]; exact Nat.le_refl _) (Nat.le_refl _)⟩
end Go.Proofs.YtmmknjpcffaidaaGreatDoor
