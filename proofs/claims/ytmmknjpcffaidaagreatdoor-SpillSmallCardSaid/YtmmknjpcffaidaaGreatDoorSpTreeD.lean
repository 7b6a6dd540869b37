/- Contracts of the parser at the pieces of "1". No condition. -/
import Derived.Test.YtmmknjpcffaidaaGreatDoorSpTreeA
namespace Go.Proofs.YtmmknjpcffaidaaGreatDoor
open Go.RowKit Go.Lib

/-- tree.bare's contract at a number's node -/
def BareOk : Prop := ∀ w : World, Calls Tryz.prog 286 #[.agg (nodeL 1 1).toArray] w fun e w' => e = .returned (.bool true) ∧ Below w.heap.size w w'
section
variable {p tb tf tc : Nat} {w : World}
/-- the parser has taken its piece -/
theorem Px.step (h : Px p tb tf tc 0 w) : Px p tb tf tc 1 (w.setCell ⟨p, 1, none⟩ (.int .i64 1)) :=
  ⟨heap_setCell_at (i := 1) h.par _, cell_setCell_far h.k0 h.ne _, cell_setCell_far h.k1 h.ne _, cell_setCell_far h.k2 h.ne _, h.ne⟩
theorem Px.row {a : Int} (h : Px p tb tf tc a w) {g : Nat} (hp : g ≠ p) (ht : tb ≠ g) (cs : Array Value) : Px p tb tf tc a (w.setRow g cs) := by
  have k : ∀ {q : Addr} {u : Value}, w.cell? q = some u → q.block ≠ g → (w.setRow g cs).cell? q = some u := fun {q u} hc hn => ((Chg.refl [g] w).setRow (.inl (by simp)) cs).cell hc (by simpa using hn)
  exact ⟨heap_setRow_far h.par hp.symm _, k h.k0 ht, k h.k1 ht, k h.k2 ht, h.ne⟩
/-- a node of the call's own -/
def Nx (g : Nat) (k n : Int) (w : World) : Prop := w.heap[g]? = some (.cells (nodeL k n).toArray 106 (0, 0))
theorem Nx.keep {g : Nat} {k n : Int} {w w' : World} (h : Nx g k n w) (hb : Below w.heap.size w w') : Nx g k n w' := (hb.block _ (heap_lt h)).trans h
theorem node_info (k n : Int) : (Tryz.prog.info? 106).map (·.size) = some (nodeL k n).toArray.size := by
  have : (Tryz.prog.info? 106).map (·.size) = some 20 := by kernel_rfl
  rw [this]
  rfl
set_option maxRecDepth 20000 in
set_option maxHeartbeats 2000000 in
theorem one_one (hbare : BareOk) (h : Px p tb tf tc 0 w) : Calls Tryz.prog 329 #[.pointer (some ⟨p, 0, none⟩)] w fun e w' => e = .returned (.agg (nodeL 1 1).toArray) ∧ Px p tb tf tc 1 w' ∧ Chg [p] w w' := by
  have hp := heap_lt h.par
  have hmu := fun w => (must_yes w).mono (fun e w' (hq : e = .returned (.tuple #[]) ∧ w = w') => (show e = .returned (.tuple #[]) ∧ w' = w from ⟨hq.1, hq.2.symm⟩))
  have HMU := hid hmu
  clear hmu
  have H := hid h
  clear h
  go_enter Tryz.func329, Tryz.ntmps329
  go_wp2_with fail
  have N0 := hid (show Nx w.heap.size 0 0 (w.alloc (.cells (nodeL 0 0).toArray 106)) from heap_alloc_new w _)
  have H0 := hid (H.out.keep ((Below.refl w.heap.size w).alloc (Nat.le_refl _) (.cells (nodeL 0 0).toArray 106)))
  have B0 := hid ((Below.refl w.heap.size w).alloc (Nat.le_refl _) (.cells (nodeL 0 0).toArray 106))
  obtain ⟨g, hg⟩ : ∃ g, g = w.heap.size := ⟨_, rfl⟩
  have HG := hid hg
  rw [← hg] at N0 ⊢
  generalize World.alloc _ _ = w0 at N0 H0 B0 ⊢
  clear hg
  have c0 := cell_of (i := 0) H0.out.par rfl
  have c1 := cell_of (i := 1) H0.out.par rfl
  go_quiet (first | (go_at_call 186; refine Calls.quiet_of_same (HMU.out _)))
  have H1 := hid (H0.out.keep (below_drewN (Below.refl w0.heap.size w0) nq))
  have N1 := hid (N0.out.keep (below_drewN (Below.refl w0.heap.size w0) nq))
  have B1 := hid (below_drewN B0.out nq)
  obtain ⟨w1, hw1⟩ : ∃ w1, w1 = w0.drewN nq := ⟨_, rfl⟩
  rw [← hw1] at H1 N1 B1 ⊢
  clear c0 c1 H0 N0 B0 hw1
  have c0 := cell_of (i := 0) H1.out.par rfl
  have c1 := cell_of (i := 1) H1.out.par rfl
  have k0 := H1.out.k0
  have k1 := H1.out.k1
  have k2 := H1.out.k2
  have hp1 : p ≠ w1.heap.size := Nat.ne_of_lt (heap_lt H1.out.par)
  have ht1 : tb ≠ w1.heap.size := Nat.ne_of_lt (World.block_lt_of_cell? _ _ H1.out.k0)
  go_wp2_with fail
  go_region_held (fun y => y.cell? ⟨p, 0, none⟩ = some (.slice (some ⟨tb, tf, none⟩) 1 tc) ∧ y.cell? ⟨p, 1, none⟩ = some (.int .i64 0) ∧ y.cell? ⟨tb, tf, none⟩ = some (.int .i64 1) ∧ y.cell? ⟨tb, tf + 1, none⟩ = some (.string text1) ∧ y.cell? ⟨tb, tf + 2, none⟩ = some (.int .i64 0)) (go_keep) (fail)
  have bT := ((Below.refl w1.heap.size w1).alloc (Nat.le_refl _) (.cells tokL.toArray 179)).drew
  have T2 : (w1.alloc (.cells tokL.toArray 179)).drew.heap[w1.heap.size]? = some (.cells tokL.toArray 179 (0, 0)) := heap_alloc_new w1 _
  obtain ⟨t, ht⟩ : ∃ t, t = w1.heap.size := ⟨_, rfl⟩
  have H2 := hid (H1.out.keep bT)
  have N2 := hid (N1.out.keep bT)
  have B2 := hid (B1.out.trans (bT.mono B1.out.size))
  rw [← ht] at T2 hp1 ht1 ⊢
  generalize World.drew _ = w2 at T2 H2 N2 B2 ⊢
  have t0 := cell_of (i := 0) T2 rfl
  have t1 := cell_of (i := 1) T2 rfl
  clear bT T2 ht hp1 ht1 c0 c1 k0 k1 k2 H1 N1 B1 ‹_ ∧ _ ∧ _ ∧ _ ∧ _›
  go_wp2_with fail
  refine (decRead_one _).mono ?_
  rintro e w3 ⟨rfl, b3⟩
  have H3 := hid (H2.out.keep b3)
  have N3 := hid (N2.out.keep b3)
  have B3 := hid (B2.out.trans (b3.mono B2.out.size))
  clear b3 t0 t1 H2 N2 B2
  go_wp2_with fail
  refine (must_yes _).mono ?_
  rintro e w4 ⟨rfl, rfl⟩
  have N4 := hid (N3.out.keep ((Below.refl w3.heap.size w3).alloc (Nat.le_refl _) (.cells #[.int .i64 1, .int .i64 0] 103)))
  have H4 := hid (H3.out.keep ((Below.refl w3.heap.size w3).alloc (Nat.le_refl _) (.cells #[.int .i64 1, .int .i64 0] 103)))
  have B4 := hid (B3.out.alloc B3.out.size (.cells #[.int .i64 1, .int .i64 0] 103))
  have D4 := heap_alloc_new w3 (.cells #[.int .i64 1, .int .i64 0] 103)
  obtain ⟨d, hd⟩ : ∃ d, d = w3.heap.size := ⟨_, rfl⟩
  rw [← hd] at D4 ⊢
  generalize World.alloc _ _ = w4 at N4 H4 B4 D4 ⊢
  have d0 := cell_of (i := 0) D4 rfl
  have d1 := cell_of (i := 1) D4 rfl
  clear D4 hd N3 H3 B3
  have hlt := World.block_lt_of_cell? _ _ H.out.k0
  have hgp : g ≠ p := by rw [HG.out]; omega
  have hgt : tb ≠ g := by rw [HG.out]; exact Nat.ne_of_lt hlt
  clear hlt
  go_wp2_with (first | (refine wpList_store_row rfl 106 _ _ rfl g (nodeL 1 1).toArray rfl rfl 106 _ N4.out (node_info 1 1) (by rfl) node_one ?_) | (refine wpList_load_row rfl 106 _ rfl g rfl 106 _ (0, 0) _ (heap_setRow_at N4.out) Tryz.underlying106 rfl (node_info 1 1) ?_))
  have N5 := hid (show Nx g 1 1 (w4.setRow g (nodeL 1 1).toArray) from heap_setRow_at N4.out)
  have H5 := hid (show Px p tb tf tc 0 (w4.setRow g (nodeL 1 1).toArray) from H4.out.row hgp hgt _)
  have B5 := hid (((Chg.of_below (F := []) B4.out).setRow (F := []) (.inr (Nat.le_of_eq HG.out.symm)) (nodeL 1 1).toArray).nil_below)
  generalize World.setRow _ _ _ = w5 at N5 H5 B5 ⊢
  clear N4 H4 B4 d0 d1
  refine (hbare _).mono ?_
  rintro e w6 ⟨rfl, b6⟩
  have H6 := hid (H5.out.keep b6)
  have N6 := hid (N5.out.keep b6)
  have B6 := hid (B5.out.trans (b6.mono B5.out.size))
  clear b6 N5 H5 B5
  go_wp2_with fail
  refine (must_yes _).mono ?_
  rintro e w7 ⟨rfl, rfl⟩
  have c0 := cell_of (i := 0) H6.out.par rfl
  have c1 := cell_of (i := 1) H6.out.par rfl
  have f1 := free_of (i := 1) H6.out.par
  have N7 := hid (show Nx g 1 1 (w6.setCell ⟨p, 1, none⟩ (.int .i64 1)) from heap_setCell_far N6.out hgp _)
  go_wp2_with (first | (refine wpList_load_row rfl 106 _ rfl g rfl 106 _ (0, 0) _ N7.out Tryz.underlying106 rfl (node_info 1 1) ?_) | (refine wpList_store_row rfl 106 _ _ rfl g (nodeL 1 1).toArray rfl rfl 106 _ N7.out (node_info 1 1) (by rfl) node_one ?_))
  have H8 := H6.out.step.row hgp hgt (nodeL 1 1).toArray
  refine bodyPost_ret (v := .agg (nodeL 1 1).toArray) (results_cell_row rfl _ _ g 106 (nodeL 1 1).toArray (0, 0) _ rfl (heap_setRow_at N7.out) Tryz.underlying106 rfl (node_info 1 1)) rfl ?_
  exact ⟨rfl, H8, (((Chg.of_below (F := [p]) B6.out).setCell (.inl (by simp)) _).setRow (.inr (Nat.le_of_eq HG.out.symm)) _)⟩
end
end Go.Proofs.YtmmknjpcffaidaaGreatDoor
