/- Contracts of the parser at the pieces of "1": primary, signed, expr. No condition. -/
import Derived.Test.YtmmknjpcffaidaaGreatDoorSpTreeE
namespace Go.Proofs.YtmmknjpcffaidaaGreatDoor
open Go.RowKit Go.Lib

section
variable {p tb tf tc : Nat} {w : World}
theorem Nx.chg {g : Nat} {k n : Int} {F : List Nat} {w w' : World} (h : Nx g k n w) (hc : Chg F w w') (hn : g ∉ F) : Nx g k n w' := hc.heap h hn
set_option maxRecDepth 20000 in
set_option maxHeartbeats 2000000 in
theorem primary_one (h : Px p tb tf tc 0 w) : Calls Tryz.prog 283 #[.pointer (some ⟨p, 0, none⟩)] w fun e w' => e = .returned (.agg (nodeL 1 1).toArray) ∧ Px p tb tf tc 1 w' ∧ Chg [p] w w' := by
  have hp := heap_lt h.par
  have htb := World.block_lt_of_cell? _ _ h.k0
  have bA := ((Below.refl w.heap.size w).alloc (Nat.le_refl _) (.cells (nodeL 0 0).toArray 106)).alloc (by simp) (.cells (nodeL 0 0).toArray 106)
  have H0 := hid (h.keep bA)
  have C0 := hid (((Chg.refl [p] w).alloc (.cells (nodeL 0 0).toArray 106)).alloc (.cells (nodeL 0 0).toArray 106))
  have N2 := hid (show Nx w.heap.size 0 0 ((w.alloc (.cells (nodeL 0 0).toArray 106)).alloc (.cells (nodeL 0 0).toArray 106)) from heap_alloc_keep (heap_alloc_new w _) _)
  have N3 := hid (show Nx (w.heap.size + 1) 0 0 ((w.alloc (.cells (nodeL 0 0).toArray 106)).alloc (.cells (nodeL 0 0).toArray 106)) from heap_alloc2_new w _ _)
  obtain ⟨g2, hg2⟩ : ∃ g2, g2 = w.heap.size := ⟨_, rfl⟩
  obtain ⟨g3, hg3⟩ : ∃ g3, g3 = w.heap.size + 1 := ⟨_, rfl⟩
  clear h bA
  go_enter Tryz.func283, Tryz.ntmps283
  go_wp2_with fail
  generalize World.alloc (World.alloc _ _) _ = w0 at H0 C0 N2 N3 ⊢
  rw [← hg3] at N3 ⊢
  rw [← hg2] at N2 ⊢
  have HG := hid (show (g2 ≠ p ∧ g3 ≠ p) ∧ (tb ≠ g2 ∧ tb ≠ g3) ∧ (w.heap.size ≤ g2 ∧ w.heap.size ≤ g3) ∧ g2 ≠ g3 by omega)
  clear hg2 hg3 hp htb
  refine (pHas_zero H0.out _).mono ?_
  rintro e w1 ⟨rfl, rfl⟩
  go_wp2_with fail
  refine (pHas_zero H0.out _).mono ?_
  rintro e w1 ⟨rfl, rfl⟩
  have c0 := cell_of (i := 0) H0.out.par rfl
  have c1 := cell_of (i := 1) H0.out.par rfl
  have k0 := H0.out.k0
  go_wp2_with fail
  go_quiet (fail)
  have H1 := hid (H0.out.keep (below_drewN (Below.refl w0.heap.size w0) nq))
  have C1 := hid (C0.out.drewN nq)
  have N21 := hid (N2.out.keep (below_drewN (Below.refl w0.heap.size w0) nq))
  have N31 := hid (N3.out.keep (below_drewN (Below.refl w0.heap.size w0) nq))
  obtain ⟨w1, hw1⟩ : ∃ w1, w1 = w0.drewN nq := ⟨_, rfl⟩
  rw [← hw1] at H1 C1 N21 N31 ⊢
  clear hw1 c0 c1 k0 H0 C0 N2 N3
  go_wp2_with fail
  refine (one_one bare_one H1.out).mono ?_
  rintro e w2 ⟨rfl, h2, hc2⟩
  have H2 := hid h2
  have C2 := hid (C1.out.trans hc2 (by simp))
  have N22 := hid (N21.out.chg hc2 (by simpa using HG.out.1.1))
  have N32 := hid (N31.out.chg hc2 (by simpa using HG.out.1.2))
  clear h2 hc2 H1 C1 N21 N31
  go_wp2_with fail
  refine (span_one _ _).mono ?_
  rintro e w3 ⟨rfl, b3⟩
  have H3 := hid (H2.out.keep b3)
  have C3 := hid (C2.out.trans (Chg.of_below (F := []) b3) (by simp))
  have N23 := hid (N22.out.keep b3)
  have N33 := hid (N32.out.keep b3)
  clear b3 H2 C2 N22 N32
  go_wp2_with (refine wpList_store_row rfl 106 _ _ rfl g3 (nodeL 1 1).toArray rfl rfl 106 _ N33.out (node_info 1 1) (by rfl) node_one ?_)
  have N34 := hid (show Nx g3 1 1 (w3.setRow g3 (nodeL 1 1).toArray) from heap_setRow_at N33.out)
  have N24 := hid (show Nx g2 0 0 (w3.setRow g3 (nodeL 1 1).toArray) from heap_setRow_far N23.out HG.out.2.2.2 _)
  have H4 := hid (H3.out.row HG.out.1.2 HG.out.2.1.2 (nodeL 1 1).toArray)
  have C4 := hid (C3.out.setRow (.inr HG.out.2.2.1.2) (nodeL 1 1).toArray)
  generalize World.setRow _ _ _ = w4 at N34 N24 H4 C4 ⊢
  clear N23 N33 H3 C3
  refine wp_loop_rounds 1 ?_
  rw [rounds_succ]
  go_wp2_with (first | (refine wpList_load_row rfl 106 _ rfl g3 rfl 106 _ (0, 0) _ N34.out Tryz.underlying106 rfl (node_info 1 1) ?_) | (refine wpList_store_row rfl 106 _ _ rfl g2 (nodeL 1 1).toArray rfl rfl 106 _ N24.out (node_info 1 1) (by rfl) node_one ?_))
  refine bodyPost_ret (v := .agg (nodeL 1 1).toArray) (results_cell_row rfl _ _ g2 106 (nodeL 1 1).toArray (0, 0) _ rfl (heap_setRow_at N24.out) Tryz.underlying106 rfl (node_info 1 1)) rfl ?_
  exact ⟨rfl, H4.out.row HG.out.1.1 HG.out.2.1.1 _, C4.out.setRow (.inr HG.out.2.2.1.1) _⟩

set_option maxRecDepth 20000 in
set_option maxHeartbeats 2000000 in
theorem signed_one (h : Px p tb tf tc 0 w) : Calls Tryz.prog 231 #[.pointer (some ⟨p, 0, none⟩)] w fun e w' => e = .returned (.agg (nodeL 1 1).toArray) ∧ Px p tb tf tc 1 w' ∧ Chg [p] w w' := by
  have hp := heap_lt h.par
  have htb := World.block_lt_of_cell? _ _ h.k0
  have bA := ((Below.refl w.heap.size w).alloc (Nat.le_refl _) (.cells (nodeL 0 0).toArray 106)).alloc (by simp) (.cells #[.string ⟨#[43]⟩, .string ⟨#[45]⟩] 9)
  have H0 := hid (h.keep bA)
  have C0 := hid (((Chg.refl [p] w).alloc (.cells (nodeL 0 0).toArray 106)).alloc (.cells #[.string ⟨#[43]⟩, .string ⟨#[45]⟩] 9))
  have N2 := hid (show Nx w.heap.size 0 0 ((w.alloc (.cells (nodeL 0 0).toArray 106)).alloc (.cells #[.string ⟨#[43]⟩, .string ⟨#[45]⟩] 9)) from heap_alloc_keep (heap_alloc_new w _) _)
  have S2 := heap_alloc2_new w (.cells (nodeL 0 0).toArray 106) (.cells #[.string ⟨#[43]⟩, .string ⟨#[45]⟩] 9)
  obtain ⟨g2, hg2⟩ : ∃ g2, g2 = w.heap.size := ⟨_, rfl⟩
  obtain ⟨g3, hg3⟩ : ∃ g3, g3 = w.heap.size + 1 := ⟨_, rfl⟩
  clear h bA
  go_enter Tryz.func231, Tryz.ntmps231
  go_wp2_with fail
  generalize World.alloc (World.alloc _ _) _ = w0 at H0 C0 N2 S2 ⊢
  rw [← hg3] at S2 ⊢
  rw [← hg2] at N2 ⊢
  have HG := hid (show g2 ≠ p ∧ tb ≠ g2 ∧ w.heap.size ≤ g2 by omega)
  clear hg2 hg3 hp htb
  have s0 : w0.cell? ⟨g3, 0, none⟩ = some (.string ⟨#[43]⟩) := cell_of S2 rfl
  have s1 : w0.cell? ⟨g3, 1, none⟩ = some (.string ⟨#[45]⟩) := cell_of S2 rfl
  clear S2
  refine wp_loop_rounds 3 ?_
  rw [rounds_succ]
  go_wp2_with fail
  refine (pHas_zero H0.out _).mono ?_
  rintro e w1 ⟨rfl, rfl⟩
  go_wp2_with fail
  rw [rounds_succ]
  go_wp2_with fail
  refine (pHas_zero H0.out _).mono ?_
  rintro e w1 ⟨rfl, rfl⟩
  go_wp2_with fail
  rw [rounds_succ]
  go_wp2_with fail
  refine (primary_one H0.out).mono ?_
  rintro e w1 ⟨rfl, h1, hc1⟩
  have N21 := hid (N2.out.chg hc1 (by simpa using HG.out.1))
  have H1 := hid h1
  have C1 := hid (C0.out.trans hc1 (by simp))
  clear h1 hc1 N2 H0 C0 s0 s1
  go_wp2_with (refine wpList_store_row rfl 106 _ _ rfl g2 (nodeL 1 1).toArray rfl rfl 106 _ N21.out (node_info 1 1) (by rfl) node_one ?_)
  refine bodyPost_ret (v := .agg (nodeL 1 1).toArray) (results_cell_row rfl _ _ g2 106 (nodeL 1 1).toArray (0, 0) _ rfl (heap_setRow_at N21.out) Tryz.underlying106 rfl (node_info 1 1)) rfl ?_
  exact ⟨rfl, H1.out.row HG.out.1 HG.out.2.1 _, C1.out.setRow (.inr HG.out.2.2) _⟩
end
end Go.Proofs.YtmmknjpcffaidaaGreatDoor
