/- Contracts of the parser's expr, of tree.Parse and tree.Read at "1". No condition. -/
import Derived.Test.YtmmknjpcffaidaaGreatDoorSpTreeF
import Derived.Defers
import Derived.Recover
namespace Go.Proofs.YtmmknjpcffaidaaGreatDoor
open Go.RowKit Go.Lib

section
variable {p tb tf tc : Nat} {w : World}
set_option maxRecDepth 20000 in
set_option maxHeartbeats 2000000 in
theorem expr_one (h : Px p tb tf tc 0 w) : Calls Tryz.prog 185 #[.pointer (some ⟨p, 0, none⟩), .int .i64 1] w fun e w' => e = .returned (.agg (nodeL 1 1).toArray) ∧ Px p tb tf tc 1 w' ∧ Chg [p] w w' := by
  have hp := heap_lt h.par
  have htb := World.block_lt_of_cell? _ _ h.k0
  have bA := (Below.refl w.heap.size w).alloc (Nat.le_refl _) (.cells (nodeL 0 0).toArray 106)
  have H0 := hid (h.keep bA)
  have C0 := hid ((Chg.refl [p] w).alloc (.cells (nodeL 0 0).toArray 106))
  have N2 := hid (show Nx w.heap.size 0 0 (w.alloc (.cells (nodeL 0 0).toArray 106)) from heap_alloc_new w _)
  obtain ⟨g2, hg2⟩ : ∃ g2, g2 = w.heap.size := ⟨_, rfl⟩
  clear h bA
  go_enter Tryz.func185, Tryz.ntmps185
  go_wp2_with fail
  generalize World.alloc _ _ = w0 at H0 C0 N2 ⊢
  rw [← hg2] at N2 ⊢
  have HG := hid (show g2 ≠ p ∧ tb ≠ g2 ∧ w.heap.size ≤ g2 by omega)
  clear hg2 hp htb
  refine (signed_one H0.out).mono ?_
  rintro e w1 ⟨rfl, h1, hc1⟩
  have hl1 := heap_lt (N2.out.chg hc1 (by simpa using HG.out.1))
  have N21 := hid (heap_setRow_far (heap_alloc_keep (N2.out.chg hc1 (by simpa using HG.out.1)) (.cells (nodeL 0 0).toArray 106)) (Nat.ne_of_lt hl1) (nodeL 1 1).toArray)
  have hp1 := heap_lt h1.par
  have ht1 := World.block_lt_of_cell? _ _ h1.k0
  have H1 := hid ((h1.keep ((Below.refl w1.heap.size w1).alloc (Nat.le_refl _) (.cells (nodeL 0 0).toArray 106))).row (g := w1.heap.size) (Nat.ne_of_gt hp1) (Nat.ne_of_lt ht1) (nodeL 1 1).toArray)
  have C1 := hid (((C0.out.trans hc1 (by simp)).alloc (.cells (nodeL 0 0).toArray 106)).setRow (g := w1.heap.size) (.inr (C0.out.trans hc1 (by simp)).size) (nodeL 1 1).toArray)
  have N31 := hid (show Nx w1.heap.size 1 1 ((w1.alloc (.cells (nodeL 0 0).toArray 106)).setRow w1.heap.size (nodeL 1 1).toArray) from heap_setRow_at (heap_alloc_new w1 _))
  clear h1 hc1 N2 H0 C0 hl1 hp1 ht1
  go_wp2_with (refine wpList_store_row rfl 106 _ _ rfl w1.heap.size (nodeL 1 1).toArray rfl rfl 106 _ (heap_alloc_new w1 _) (node_info 1 1) (by rfl) node_one ?_)
  generalize World.setRow _ _ _ = w2 at N21 H1 C1 N31 ⊢
  obtain ⟨g3, hg3⟩ : ∃ g3, g3 = w1.heap.size := ⟨_, rfl⟩
  rw [← hg3] at N31 ⊢
  clear hg3
  refine wp_loop_rounds 1 ?_
  rw [rounds_succ]
  go_wp2_with fail
  refine (pHas_one H1.out _).mono ?_
  rintro e w3 ⟨rfl, rfl⟩
  go_wp2_with fail
  refine wp_loop_rounds 1 ?_
  rw [rounds_succ]
  go_wp2_with fail
  refine (pNext_one H1.out).mono ?_
  rintro e w3 ⟨rfl, b3⟩
  have H3 := hid (H1.out.keep b3)
  have C3 := hid (C1.out.trans (Chg.of_below (F := []) b3) (by simp))
  have N23 := hid (show Nx g2 0 0 w3 from Nx.keep N21.out b3)
  have N33 := hid (show Nx g3 1 1 w3 from Nx.keep N31.out b3)
  clear b3 H1 C1 N21 N31
  go_wp2_with (first | (refine wpList_load_row rfl 106 _ rfl g3 rfl 106 _ (0, 0) _ N33.out Tryz.underlying106 rfl (node_info 1 1) ?_) | (refine wpList_store_row rfl 106 _ _ rfl g2 (nodeL 1 1).toArray rfl rfl 106 _ N23.out (node_info 1 1) (by rfl) node_one ?_))
  refine bodyPost_ret (v := .agg (nodeL 1 1).toArray) (results_cell_row rfl _ _ g2 106 (nodeL 1 1).toArray (0, 0) _ rfl (heap_setRow_at N23.out) Tryz.underlying106 rfl (node_info 1 1)) rfl ?_
  exact ⟨rfl, H3.out.row HG.out.1 HG.out.2.1 _, C3.out.setRow (.inr HG.out.2.2) _⟩
end

theorem results_three {fn : Func} {p q r : Tmp} {t1 t2 t3 : TypeId} (h : fn.results = #[.cell p t1, .cell q t2, .cell r t3]) (tmps : Array Value) (w : World) (a1 a2 a3 : Addr) (v1 v2 v3 : Value)
    (hp : tmps.getD p undef = .pointer (some a1)) (hq : tmps.getD q undef = .pointer (some a2)) (hr : tmps.getD r undef = .pointer (some a3))
    (h1 : (loadVar t1 a1).run Tryz.prog w = .ok v1 w) (h2 : (loadVar t2 a2).run Tryz.prog w = .ok v2 w) (h3 : (loadVar t3 a3).run Tryz.prog w = .ok v3 w) : (results fn tmps).run Tryz.prog w = .ok (.tuple #[v1, v2, v3]) w := by
  have hp' : tmps[p]?.getD undef = .pointer (some a1) := by simpa using hp
  have hq' : tmps[q]?.getD undef = .pointer (some a2) := by simpa using hq
  have hr' : tmps[r]?.getD undef = .pointer (some a3) := by simpa using hr
  simp [results, h, hp', hq', hr', asAddr, h1, h2, h3, Result.andThen]
set_option maxRecDepth 20000 in
set_option maxHeartbeats 1000000 in
theorem parse1_idle (a b c d : Value) (w : World) : CallsD Tryz.prog 184 #[a, b, c, d] .returning w fun e u' w' => e = .returned (.tuple #[]) ∧ u' = .returning ∧ w' = w := by
  refine callsD_of_wpS Tryz.func184 rfl fun c₀ cs hu => ?_
  apply wpS_seq
  apply wpS_region
  simp [wpOpsS, go_sem, recoverD, hu, Tryz.ntmps184, Exit.thenS]
  apply wpS_seq
  apply wpS_region
  simp [wpOpsS, go_sem, Exit.thenS]
  refine wpS_cond (t := false) (by simp [Act.eval, Array.replicate]) ?_
  simp only [Bool.false_eq_true, if_false]
  refine wpS_of_wp (wp_skip ?_)
  cases c₀
  simp_all [bodyPostS, results, Tryz.results184]
set_option maxRecDepth 20000 in
set_option maxHeartbeats 2000000 in
theorem parse_one (w : World) (tb tf tc : Nat) (k0 : w.cell? ⟨tb, tf, none⟩ = some (.int .i64 1)) (k1 : w.cell? ⟨tb, tf + 1, none⟩ = some (.string text1)) (k2 : w.cell? ⟨tb, tf + 2, none⟩ = some (.int .i64 0)) :
    Calls Tryz.prog 135 #[.slice (some ⟨tb, tf, none⟩) 1 tc] w fun e w' => e = .returned (.tuple #[.agg (nodeL 1 1).toArray, .int .i64 0, .int .i64 0]) ∧ Below w.heap.size w w' := by
  have bA := (((((Below.refl w.heap.size w).alloc (Nat.le_refl _) (.cells (nodeL 0 0).toArray 106)).alloc (by simp) (.cells #[.int .i64 0] 3)).alloc (by simp; omega) (.cells #[.int .i64 0] 40)).alloc (by simp; omega) (.cells #[.slice (some ⟨tb, tf, none⟩) 1 tc, .int .i64 0] 234)).alloc (by simp; omega) (.cells #[.pointer (some ⟨w.heap.size + 1 + 1 + 1, 0, none⟩)] 232)
  have htb := World.block_lt_of_cell? _ _ k0
  obtain ⟨W, hW⟩ : ∃ W, W = ((((w.alloc (.cells (nodeL 0 0).toArray 106)).alloc (.cells #[.int .i64 0] 3)).alloc (.cells #[.int .i64 0] 40)).alloc (.cells #[.slice (some ⟨tb, tf, none⟩) 1 tc, .int .i64 0] 234)).alloc (.cells #[.pointer (some ⟨w.heap.size + 1 + 1 + 1, 0, none⟩)] 232) := ⟨_, rfl⟩
  have n0 : Nx w.heap.size 0 0 W := by rw [hW]; exact heap_alloc_keep (heap_alloc_keep (heap_alloc_keep (heap_alloc_keep (heap_alloc_new w _) _) _) _) _
  have n1 : W.heap[w.heap.size + 1]? = some (.cells #[.int .i64 0] 3 (0, 0)) := by rw [hW]; exact heap_alloc_keep (heap_alloc_keep (heap_alloc_keep (heap_alloc2_new w _ _) _) _) _
  have n2 : W.heap[w.heap.size + 1 + 1]? = some (.cells #[.int .i64 0] 40 (0, 0)) := by rw [hW]; exact heap_alloc_keep (heap_alloc_keep (by have := heap_alloc2_new (w.alloc (.cells (nodeL 0 0).toArray 106)) (.cells #[.int .i64 0] 3) (.cells #[.int .i64 0] 40); rwa [World.size_alloc] at this) _) _
  have n3 : W.heap[w.heap.size + 1 + 1 + 1]? = some (.cells #[.slice (some ⟨tb, tf, none⟩) 1 tc, .int .i64 0] 234 (0, 0)) := by rw [hW]; exact heap_alloc_keep (by have := heap_alloc2_new ((w.alloc (.cells (nodeL 0 0).toArray 106)).alloc (.cells #[.int .i64 0] 3)) (.cells #[.int .i64 0] 40) (.cells #[.slice (some ⟨tb, tf, none⟩) 1 tc, .int .i64 0] 234); rwa [World.size_alloc, World.size_alloc] at this) _
  have n4 : W.heap[w.heap.size + 1 + 1 + 1 + 1]? = some (.cells #[.pointer (some ⟨w.heap.size + 1 + 1 + 1, 0, none⟩)] 232 (0, 0)) := by rw [hW]; have := heap_alloc2_new (((w.alloc (.cells (nodeL 0 0).toArray 106)).alloc (.cells #[.int .i64 0] 3)).alloc (.cells #[.int .i64 0] 40)) (.cells #[.slice (some ⟨tb, tf, none⟩) 1 tc, .int .i64 0] 234) (.cells #[.pointer (some ⟨w.heap.size + 1 + 1 + 1, 0, none⟩)] 232); rwa [World.size_alloc, World.size_alloc, World.size_alloc] at this
  have bW : Below w.heap.size w W := by rw [hW]; exact bA
  have PX := hid (show Px (w.heap.size + 1 + 1 + 1) tb tf tc 0 W from ⟨n3, (bW.cell htb).trans k0, (bW.cell (World.block_lt_of_cell? _ _ k1)).trans k1, (bW.cell (World.block_lt_of_cell? _ _ k2)).trans k2, by have : tb < w.heap.size := htb; omega⟩)
  have N0 := hid n0
  have N1 := hid n1
  have N2 := hid n2
  have N4 := hid n4
  have BW := hid bW
  have HW := hid hW
  clear n0 n1 n2 n3 n4 bW bA htb k0 k1 k2 hW
  go_enter_defers Tryz.func135, Tryz.ntmps135
  go_wp2_with fail
  rw [← HW.out]
  clear HW
  refine (expr_one PX.out).mono ?_
  rintro e w1 ⟨rfl, h1, hc1⟩
  have P1 := hid h1
  have B1 := hid (hc1.below (B := w.heap.size) (fun x hx => by simp only [List.mem_singleton] at hx; omega) BW.out.size)
  have BW1 := hid (BW.out.trans B1.out)
  have M0 := hid (N0.out.chg hc1 (by simp only [List.mem_singleton]; omega))
  have M1 := hid (hc1.heap N1.out (by simp only [List.mem_singleton]; omega))
  have M2 := hid (hc1.heap N2.out (by simp only [List.mem_singleton]; omega))
  have M4 := hid (hc1.heap N4.out (by simp only [List.mem_singleton]; omega))
  clear h1 hc1 PX N0 N1 N2 N4 BW B1
  obtain ⟨g, hg⟩ : ∃ g, g = w.heap.size := ⟨_, rfl⟩
  rw [← hg] at P1 M0 M1 M2 M4 ⊢
  have HG := hid hg
  clear hg
  have L0 := hid (show Nx g 1 1 (w1.setRow g (nodeL 1 1).toArray) from heap_setRow_at M0.out)
  have L1 := hid (heap_setRow_far M1.out (show g + 1 ≠ g by omega) (nodeL 1 1).toArray)
  have L2 := hid (heap_setRow_far M2.out (show g + 1 + 1 ≠ g by omega) (nodeL 1 1).toArray)
  have L3 := hid (heap_setRow_far P1.out.par (show g + 1 + 1 + 1 ≠ g by omega) (nodeL 1 1).toArray)
  have L4 := hid (heap_setRow_far M4.out (show g + 1 + 1 + 1 + 1 ≠ g by omega) (nodeL 1 1).toArray)
  have BL := hid (((Chg.of_below (F := []) BW1.out).setRow (F := []) (.inr (Nat.le_of_eq HG.out.symm)) (nodeL 1 1).toArray).nil_below)
  have q4 : (w1.setRow g (nodeL 1 1).toArray).cell? ⟨g + 1 + 1 + 1 + 1, 0, none⟩ = some (.pointer (some ⟨g + 1 + 1 + 1, 0, none⟩)) := cell_of L4.out rfl
  have q3 : (w1.setRow g (nodeL 1 1).toArray).cell? ⟨g + 1 + 1 + 1, 1, none⟩ = some (.int .i64 1) := cell_of L3.out rfl
  go_wp2_with (refine wpList_store_row rfl 106 _ _ rfl g (nodeL 1 1).toArray rfl rfl 106 _ M0.out (node_info 1 1) (by rfl) node_one ?_)
  generalize World.setRow _ _ _ = w2 at L0 L1 L2 L3 L4 BL q4 q3 ⊢
  clear q4 q3 P1 M0 M1 M2 M4 BW1
  refine (must_yes _).mono ?_
  rintro e w3 ⟨rfl, rfl⟩
  go_wp2_with (refine wpList_load_row rfl 106 _ rfl g rfl 106 _ (0, 0) _ L0.out Tryz.underlying106 rfl (node_info 1 1) ?_)
  refine (treeRight_one _).mono ?_
  rintro e w3 ⟨rfl, b3⟩
  have K0 := hid (show Nx g 1 1 w3 from Nx.keep L0.out b3)
  have K1 := hid ((b3.block _ (heap_lt L1.out)).trans L1.out)
  have K2 := hid ((b3.block _ (heap_lt L2.out)).trans L2.out)
  have BK := hid (BL.out.trans (b3.mono BL.out.size))
  clear b3 L0 L1 L2 L3 L4 BL
  have f1 : (w3.setRow g (nodeL 1 1).toArray).frozen? ⟨g + 1, 0, none⟩ = false := free_of (heap_setRow_far K1.out (show g + 1 ≠ g by omega) _)
  have f2 : (w3.setRow g (nodeL 1 1).toArray).frozen? ⟨g + 1 + 1, 0, none⟩ = false := free_of (heap_setRow_far K2.out (show g + 1 + 1 ≠ g by omega) _)
  have d1 : (w3.setRow g (nodeL 1 1).toArray).cell? ⟨g + 1, 0, none⟩ = some (.int .i64 0) := cell_of (heap_setRow_far K1.out (show g + 1 ≠ g by omega) _) rfl
  have d2 : (w3.setRow g (nodeL 1 1).toArray).cell? ⟨g + 1 + 1, 0, none⟩ = some (.int .i64 0) := cell_of (heap_setRow_far K2.out (show g + 1 + 1 ≠ g by omega) _) rfl
  go_wp2_with (first | (refine wpList_load_row rfl 106 _ rfl g rfl 106 _ (0, 0) _ K0.out Tryz.underlying106 rfl (node_info 1 1) ?_) | (refine wpList_store_row rfl 106 _ _ rfl g (nodeL 1 1).toArray rfl rfl 106 _ K0.out (node_info 1 1) (by rfl) node_one ?_))
  refine leaves_cons (f := 184) (args := #[.pointer (some ⟨g + 1 + 1 + 1 + 1, 0, none⟩), .pointer (some ⟨g, 0, none⟩), .pointer (some ⟨g + 1, 0, none⟩), .pointer (some ⟨g + 1 + 1, 0, none⟩)]) (by simp) (by simp [go_sem]) ?_
  refine (parse1_idle _ _ _ _ _).mono ?_
  rintro e u' w4 ⟨rfl, rfl, rfl⟩
  have R0 : Nx g 1 1 (((w3.setRow g (nodeL 1 1).toArray).setCell ⟨g + 1, 0, none⟩ (.int .i64 0)).setCell ⟨g + 1 + 1, 0, none⟩ (.int .i64 0)) := heap_setCell_far (heap_setCell_far (heap_setRow_at K0.out) (by omega) _) (by omega) _
  have R1 : (((w3.setRow g (nodeL 1 1).toArray).setCell ⟨g + 1, 0, none⟩ (.int .i64 0)).setCell ⟨g + 1 + 1, 0, none⟩ (.int .i64 0)).heap[g + 1]? = some (.cells #[.int .i64 0] 3 (0, 0)) := heap_setCell_far (heap_setCell_at (i := 0) (heap_setRow_far K1.out (show g + 1 ≠ g by omega) _) _) (by omega) _
  have R2 : (((w3.setRow g (nodeL 1 1).toArray).setCell ⟨g + 1, 0, none⟩ (.int .i64 0)).setCell ⟨g + 1 + 1, 0, none⟩ (.int .i64 0)).heap[g + 1 + 1]? = some (.cells #[.int .i64 0] 40 (0, 0)) := heap_setCell_at (i := 0) (heap_setCell_far (heap_setRow_far K2.out (show g + 1 + 1 ≠ g by omega) _) (show g + 1 + 1 ≠ g + 1 by omega) _) _
  have BR : Below w.heap.size w (((w3.setRow g (nodeL 1 1).toArray).setCell ⟨g + 1, 0, none⟩ (.int .i64 0)).setCell ⟨g + 1 + 1, 0, none⟩ (.int .i64 0)) := ((((Chg.of_below (F := []) BK.out).setRow (F := []) (.inr (Nat.le_of_eq HG.out.symm)) (nodeL 1 1).toArray).nil_below).setCell (by rw [← HG.out]; show g ≤ g + 1; omega) _).setCell (by rw [← HG.out]; show g ≤ g + 1 + 1; omega) _
  generalize World.setCell (World.setCell _ _ _) _ _ = w4 at R0 R1 R2 BR ⊢
  have hl0 := run_loadVar_row (P := Tryz.prog) w4 g 106 106 (nodeL 1 1).toArray (0, 0) _ R0 Tryz.underlying106 rfl (node_info 1 1)
  have c1 : w4.cell? ⟨g + 1, 0, none⟩ = some (.int .i64 0) := cell_of R1 rfl
  have c2 : w4.cell? ⟨g + 1 + 1, 0, none⟩ = some (.int .i64 0) := cell_of R2 rfl
  have hl1 : (loadVar 3 ⟨g + 1, 0, none⟩).run Tryz.prog w4 = .ok (.int .i64 0) w4 := by simp [go_sem, c1]
  have hl2 : (loadVar 40 ⟨g + 1 + 1, 0, none⟩).run Tryz.prog w4 = .ok (.int .i64 0) w4 := by simp [go_sem, c2]
  exact ⟨_, results_three rfl _ _ _ _ _ _ _ _ rfl rfl rfl hl0 hl1 hl2, rfl, BR⟩
end Go.Proofs.YtmmknjpcffaidaaGreatDoor
