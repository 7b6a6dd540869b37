/- Rules of the parser's one at a number's and a reference's piece, of span at a range. Condition: what the package-level variables hold lies as it was laid (at a call). Contracts of tree.bare at the nodes of the law's formulas. Condition: utf8's tables lie as they were laid (at a call). -/
import Derived.Test.YtpcjfgihglfdgaaGreatDoorKChExpr
import Derived.Test.YtpcjfgihglfdgaaGreatDoorKChArgs
import Derived.Test.YtpcjfgihglfdgaaGreatDoorKChBareO

namespace Go.Proofs.YtpcjfgihglfdgaaGreatDoor
open Go.RowKit Go.Lib

section
variable {T : List (Int × ByteArray × Nat)}
theorem must_same (w : World) : Calls Tryz.prog 152 #[.bool true] w fun e w' => e = .returned (.tuple #[]) ∧ w' = w := (must_yes w).mono (fun e w' (hq : e = .returned (.tuple #[]) ∧ w = w') => (show e = .returned (.tuple #[]) ∧ w' = w from ⟨hq.1, hq.2.symm⟩))
abbrev owNum (m x : Int) : Ow := ⟨1, ⟨#[]⟩, m, x, false, 0, rfZ 0, rfZ 0, 0⟩
abbrev owRef (r : Rf) : Ow := ⟨5, ⟨#[]⟩, 0, 0, false, 0, r, rfZ 0, 0⟩
abbrev owRange (r t : Rf) : Ow := ⟨6, ⟨#[]⟩, 0, 0, false, 0, r, t, 0⟩
set_option maxRecDepth 20000 in
set_option maxHeartbeats 2000000 in
theorem one_num {a q : Nat} {s : ByteArray} {m x : Int} (ht : T[a]? = some (1, s, q)) (HD : ∀ w, Calls Tryz.prog 118 #[.string s] w fun e w' => e = .returned (.tuple #[.agg #[.int .i64 m, .int .i64 x], .int .i64 0]) ∧ Below w.heap.size w w') (HB : BareN (owNum m x) .nil) : OneOk T a (owNum m x) (a + 1) := by
  intro p tb tf tc w h
  have hp := h.plt
  have HMU := hid must_same
  have H := hid h
  have XT := hid ht
  have XD := hid HD
  have XB := hid HB
  have hlen := h.py.len
  have hlt := (List.getElem?_eq_some_iff.1 ht).1
  obtain ⟨n, hn⟩ : ∃ n, n = T.length := ⟨_, rfl⟩
  rw [← hn] at hlt hlen
  have XN := hid hn
  have ha1 : a < 1000 := by omega
  clear h ht HD HB hn
  go_enter Tryz.func309, Tryz.ntmps309
  go_wp2_with fail
  have N0 := hid (show NdV w.heap.size (nodeL 0 0) (w.alloc (.cells (nodeL 0 0).toArray 79)) from heap_alloc_new w _)
  have H0 := hid (H.out.keep ((Below.refl w.heap.size w).alloc (Nat.le_refl _) (.cells (nodeL 0 0).toArray 79)))
  have B0 := hid ((Below.refl w.heap.size w).alloc (Nat.le_refl _) (.cells (nodeL 0 0).toArray 79))
  obtain ⟨g, hg⟩ : ∃ g, g = w.heap.size := ⟨_, rfl⟩
  have HG := hid (show g = w.heap.size ∧ p < g from ⟨hg, by omega⟩)
  rw [← hg] at N0 ⊢
  generalize World.alloc _ _ = w0 at N0 H0 B0 ⊢
  clear hg hp
  have c0 := cell_of (i := 0) H0.out.py.par rfl
  have c1 := cell_of (i := 1) H0.out.py.par rfl
  rw [← XN.out] at c0
  have hab : ((a : Int) < (n : Int)) = True := by rw [eq_iff_iff, iff_true]; omega
  go_quiet (first | (go_at_call 152; refine Calls.quiet_of_same (HMU.out _)))
  have H1 := hid (H0.out.keep (below_drewN (Below.refl w0.heap.size w0) nq))
  have N1 := hid (show NdV g (nodeL 0 0) (w0.drewN nq) from N0.out)
  have B1 := hid (below_drewN B0.out nq)
  obtain ⟨w1, hw1⟩ : ∃ w1, w1 = w0.drewN nq := ⟨_, rfl⟩
  rw [← hw1] at H1 N1 B1 ⊢
  clear c0 c1 H0 N0 B0 hw1
  have c0 := cell_of (i := 0) H1.out.py.par rfl
  have c1 := cell_of (i := 1) H1.out.py.par rfl
  rw [← XN.out] at c0
  obtain ⟨k0, k1, k2⟩ := H1.out.py.row a _ XT.out
  go_wp2_with fail
  go_region_held (fun y => y.cell? ⟨p, 0, none⟩ = some (.slice (some ⟨tb, tf, none⟩) n tc) ∧ y.cell? ⟨p, 1, none⟩ = some (.int .i64 (a : Int)) ∧ y.cell? ⟨tb, tf + a * 3, none⟩ = some (.int .i64 1) ∧ y.cell? ⟨tb, tf + a * 3 + 1, none⟩ = some (.string s) ∧ y.cell? ⟨tb, tf + a * 3 + 2, none⟩ = some (.int .i64 (q : Int))) (go_keep) (fail)
  have bT := ((Below.refl w1.heap.size w1).alloc (Nat.le_refl _) (.cells #[.int .i64 1, .string s, .int .i64 (q : Int)] 185)).drew
  have T2 : (w1.alloc (.cells #[.int .i64 1, .string s, .int .i64 (q : Int)] 185)).drew.heap[w1.heap.size]? = some (.cells #[.int .i64 1, .string s, .int .i64 (q : Int)] 185 (0, 0)) := heap_alloc_new w1 _
  obtain ⟨t, ht⟩ : ∃ t, t = w1.heap.size := ⟨_, rfl⟩
  have H2 := hid (H1.out.keep bT)
  have N2 := hid (show NdV g (nodeL 0 0) _ from (bT.block _ (heap_lt N1.out)).trans N1.out)
  have B2 := hid (B1.out.trans (bT.mono B1.out.size))
  rw [← ht] at T2 ⊢
  generalize World.drew _ = w2 at T2 H2 N2 B2 ⊢
  have t0 := cell_of (i := 0) T2 rfl
  have t1 := cell_of (i := 1) T2 rfl
  clear bT T2 ht c0 c1 k0 k1 k2 H1 N1 B1 ‹_ ∧ _ ∧ _ ∧ _ ∧ _›
  go_wp2_with fail
  refine (XD.out _).mono ?_
  rintro e w3 ⟨rfl, b3⟩
  have H3 := hid (H2.out.keep b3)
  have N3 := hid (show NdV g (nodeL 0 0) w3 from (b3.block _ (heap_lt N2.out)).trans N2.out)
  have B3 := hid (B2.out.trans (b3.mono B2.out.size))
  clear b3 t0 t1 H2 N2 B2
  go_wp2_with fail
  refine (must_yes _).mono ?_
  rintro e w4 ⟨rfl, rfl⟩
  have b4 := (Below.refl w3.heap.size w3).alloc (Nat.le_refl _) (.cells #[.int .i64 m, .int .i64 x] 75)
  have N4 := hid (show NdV g (nodeL 0 0) _ from (b4.block _ (heap_lt N3.out)).trans N3.out)
  have H4 := hid (H3.out.keep b4)
  have B4 := hid (B3.out.trans (b4.mono B3.out.size))
  have D4 := heap_alloc_new w3 (.cells #[.int .i64 m, .int .i64 x] 75)
  obtain ⟨d, hd⟩ : ∃ d, d = w3.heap.size := ⟨_, rfl⟩
  rw [← hd] at D4 ⊢
  generalize World.alloc _ _ = w4 at N4 H4 B4 D4 ⊢
  have d0 := cell_of (i := 0) D4 rfl
  have d1 := cell_of (i := 1) D4 rfl
  clear b4 D4 hd N3 H3 B3
  go_wp2_with (first | (refine wpList_store_row rfl 79 _ _ rfl g ((owNum m x).cells nilV).toArray rfl rfl 79 _ N4.out (node_info 0 0) (by rfl) (ow_one (owNum m x) none 0 0) ?_) | (refine wpList_load_row rfl 79 _ rfl g rfl 79 _ (0, 0) _ (heap_setRow_at N4.out) Tryz.underlying79 rfl (ow_info (owNum m x) nilV) ?_))
  have N5 := hid (show NdV g ((owNum m x).cells nilV) (w4.setRow g ((owNum m x).cells nilV).toArray) from heap_setRow_at N4.out)
  have H5 := hid (H4.out.row HG.out.2 ((owNum m x).cells nilV).toArray)
  have B5 := hid (((Chg.of_below (F := []) B4.out).setRow (F := []) (.inr (Nat.le_of_eq HG.out.1.symm)) ((owNum m x).cells nilV).toArray).nil_below)
  generalize World.setRow _ _ _ = w5 at N5 H5 B5 ⊢
  clear N4 H4 B4 d0 d1
  refine (XB.out w5 (fun _ => True) none 0 H5.out.en.tabs (KidsV.nil _ _)).mono ?_
  rintro e w6 ⟨rfl, b6⟩
  have H6 := hid (H5.out.keep b6)
  have N6 := hid (show NdV g ((owNum m x).cells nilV) w6 from (b6.block _ (heap_lt N5.out)).trans N5.out)
  have B6 := hid (B5.out.trans (b6.mono B5.out.size))
  clear b6 N5 H5 B5
  go_wp2_with fail
  refine (must_yes _).mono ?_
  rintro e w7 ⟨rfl, rfl⟩
  have c0 := cell_of (i := 0) H6.out.py.par rfl
  have c1 := cell_of (i := 1) H6.out.py.par rfl
  have f1 := free_of (i := 1) H6.out.py.par
  have N7 := hid (show NdV g ((owNum m x).cells nilV) (w6.setCell ⟨p, 1, none⟩ (.int .i64 ((a : Int) + 1))) from heap_setCell_far N6.out (Nat.ne_of_gt HG.out.2) _)
  go_wp2_with (first | (refine wpList_load_row rfl 79 _ rfl g rfl 79 _ (0, 0) _ N7.out Tryz.underlying79 rfl (ow_info (owNum m x) nilV) ?_) | (refine wpList_store_row rfl 79 _ _ rfl g ((owNum m x).cells nilV).toArray rfl rfl 79 _ N7.out (ow_info (owNum m x) nilV) (by rfl) (ow_one (owNum m x) none 0 0) ?_))
  refine bodyPost_ret (v := .agg ((owNum m x).cells nilV).toArray) (results_cell_row rfl _ _ g 79 ((owNum m x).cells nilV).toArray (0, 0) _ rfl (heap_setRow_at N7.out) Tryz.underlying79 rfl (ow_info (owNum m x) nilV)) rfl ?_
  exact ⟨rfl, (H6.out.step (a + 1)).row HG.out.2 _, (((Chg.of_below (F := [p]) B6.out).setCell (.inl (by simp)) _).setRow (.inr (Nat.le_of_eq HG.out.1.symm)) _)⟩
set_option maxRecDepth 20000 in
set_option maxHeartbeats 2000000 in
theorem one_ref {a q : Nat} {s : ByteArray} {r : Rf} (ht : T[a]? = some (5, s, q)) (HD : ∀ w, Tabs w → Calls Tryz.prog 138 #[.string s] w fun e w' => e = .returned (.tuple #[.agg r.cells.toArray, .int .i64 0]) ∧ Below w.heap.size w w') (HB : BareN (owRef r) .nil) : OneOk T a (owRef r) (a + 1) := by
  intro p tb tf tc w h
  have hp := h.plt
  have HMU := hid must_same
  have H := hid h
  have XT := hid ht
  have XD := hid HD
  have XB := hid HB
  have hlen := h.py.len
  have hlt := (List.getElem?_eq_some_iff.1 ht).1
  obtain ⟨n, hn⟩ : ∃ n, n = T.length := ⟨_, rfl⟩
  rw [← hn] at hlt hlen
  have XN := hid hn
  have ha1 : a < 1000 := by omega
  clear h ht HD HB hn
  go_enter Tryz.func309, Tryz.ntmps309
  go_wp2_with fail
  have N0 := hid (show NdV w.heap.size (nodeL 0 0) (w.alloc (.cells (nodeL 0 0).toArray 79)) from heap_alloc_new w _)
  have H0 := hid (H.out.keep ((Below.refl w.heap.size w).alloc (Nat.le_refl _) (.cells (nodeL 0 0).toArray 79)))
  have B0 := hid ((Below.refl w.heap.size w).alloc (Nat.le_refl _) (.cells (nodeL 0 0).toArray 79))
  obtain ⟨g, hg⟩ : ∃ g, g = w.heap.size := ⟨_, rfl⟩
  have HG := hid (show g = w.heap.size ∧ p < g from ⟨hg, by omega⟩)
  rw [← hg] at N0 ⊢
  generalize World.alloc _ _ = w0 at N0 H0 B0 ⊢
  clear hg hp
  have c0 := cell_of (i := 0) H0.out.py.par rfl
  have c1 := cell_of (i := 1) H0.out.py.par rfl
  rw [← XN.out] at c0
  have hab : ((a : Int) < (n : Int)) = True := by rw [eq_iff_iff, iff_true]; omega
  go_quiet (first | (go_at_call 152; refine Calls.quiet_of_same (HMU.out _)))
  have H1 := hid (H0.out.keep (below_drewN (Below.refl w0.heap.size w0) nq))
  have N1 := hid (show NdV g (nodeL 0 0) (w0.drewN nq) from N0.out)
  have B1 := hid (below_drewN B0.out nq)
  obtain ⟨w1, hw1⟩ : ∃ w1, w1 = w0.drewN nq := ⟨_, rfl⟩
  rw [← hw1] at H1 N1 B1 ⊢
  clear c0 c1 H0 N0 B0 hw1
  have c0 := cell_of (i := 0) H1.out.py.par rfl
  have c1 := cell_of (i := 1) H1.out.py.par rfl
  rw [← XN.out] at c0
  obtain ⟨k0, k1, k2⟩ := H1.out.py.row a _ XT.out
  go_wp2_with fail
  go_region_held (fun y => y.cell? ⟨p, 0, none⟩ = some (.slice (some ⟨tb, tf, none⟩) n tc) ∧ y.cell? ⟨p, 1, none⟩ = some (.int .i64 (a : Int)) ∧ y.cell? ⟨tb, tf + a * 3, none⟩ = some (.int .i64 5) ∧ y.cell? ⟨tb, tf + a * 3 + 1, none⟩ = some (.string s) ∧ y.cell? ⟨tb, tf + a * 3 + 2, none⟩ = some (.int .i64 (q : Int))) (go_keep) (fail)
  have bT := ((Below.refl w1.heap.size w1).alloc (Nat.le_refl _) (.cells #[.int .i64 5, .string s, .int .i64 (q : Int)] 185)).drew
  have T2 : (w1.alloc (.cells #[.int .i64 5, .string s, .int .i64 (q : Int)] 185)).drew.heap[w1.heap.size]? = some (.cells #[.int .i64 5, .string s, .int .i64 (q : Int)] 185 (0, 0)) := heap_alloc_new w1 _
  obtain ⟨t, ht⟩ : ∃ t, t = w1.heap.size := ⟨_, rfl⟩
  have H2 := hid (H1.out.keep bT)
  have N2 := hid (show NdV g (nodeL 0 0) _ from (bT.block _ (heap_lt N1.out)).trans N1.out)
  have B2 := hid (B1.out.trans (bT.mono B1.out.size))
  rw [← ht] at T2 ⊢
  generalize World.drew _ = w2 at T2 H2 N2 B2 ⊢
  have t0 := cell_of (i := 0) T2 rfl
  have t1 := cell_of (i := 1) T2 rfl
  clear bT T2 ht c0 c1 k0 k1 k2 H1 N1 B1 ‹_ ∧ _ ∧ _ ∧ _ ∧ _›
  go_wp2_with fail
  refine (XD.out _ H2.out.en.tabs).mono ?_
  rintro e w3 ⟨rfl, b3⟩
  have H3 := hid (H2.out.keep b3)
  have N3 := hid (show NdV g (nodeL 0 0) w3 from (b3.block _ (heap_lt N2.out)).trans N2.out)
  have B3 := hid (B2.out.trans (b3.mono B2.out.size))
  clear b3 t0 t1 H2 N2 B2
  go_wp2_with fail
  refine (must_yes _).mono ?_
  rintro e w4 ⟨rfl, rfl⟩
  have b4 := (Below.refl w3.heap.size w3).alloc (Nat.le_refl _) (.cells r.cells.toArray 77)
  have N4 := hid (show NdV g (nodeL 0 0) _ from (b4.block _ (heap_lt N3.out)).trans N3.out)
  have H4 := hid (H3.out.keep b4)
  have B4 := hid (B3.out.trans (b4.mono B3.out.size))
  have D4 := heap_alloc_new w3 (.cells r.cells.toArray 77)
  obtain ⟨d, hd⟩ : ∃ d, d = w3.heap.size := ⟨_, rfl⟩
  rw [← hd] at D4 ⊢
  generalize World.alloc _ _ = w4 at N4 H4 B4 D4 ⊢
  have d0 := cell_of (i := 0) D4 rfl
  have d1 := cell_of (i := 1) D4 rfl
  have d2 := cell_of (i := 2) D4 rfl
  have d3 := cell_of (i := 3) D4 rfl
  have d4 := cell_of (i := 4) D4 rfl
  have d5 := cell_of (i := 5) D4 rfl
  clear b4 D4 hd N3 H3 B3
  go_wp2_with (first | (refine wpList_store_row rfl 79 _ _ rfl g ((owRef r).cells nilV).toArray rfl rfl 79 _ N4.out (node_info 0 0) (by rfl) (ow_one (owRef r) none 0 0) ?_) | (refine wpList_load_row rfl 79 _ rfl g rfl 79 _ (0, 0) _ (heap_setRow_at N4.out) Tryz.underlying79 rfl (ow_info (owRef r) nilV) ?_))
  have N5 := hid (show NdV g ((owRef r).cells nilV) (w4.setRow g ((owRef r).cells nilV).toArray) from heap_setRow_at N4.out)
  have H5 := hid (H4.out.row HG.out.2 ((owRef r).cells nilV).toArray)
  have B5 := hid (((Chg.of_below (F := []) B4.out).setRow (F := []) (.inr (Nat.le_of_eq HG.out.1.symm)) ((owRef r).cells nilV).toArray).nil_below)
  generalize World.setRow _ _ _ = w5 at N5 H5 B5 ⊢
  clear N4 H4 B4 d0 d1 d2 d3 d4 d5
  refine (XB.out w5 (fun _ => True) none 0 H5.out.en.tabs (KidsV.nil _ _)).mono ?_
  rintro e w6 ⟨rfl, b6⟩
  have H6 := hid (H5.out.keep b6)
  have N6 := hid (show NdV g ((owRef r).cells nilV) w6 from (b6.block _ (heap_lt N5.out)).trans N5.out)
  have B6 := hid (B5.out.trans (b6.mono B5.out.size))
  clear b6 N5 H5 B5
  go_wp2_with fail
  refine (must_yes _).mono ?_
  rintro e w7 ⟨rfl, rfl⟩
  have c0 := cell_of (i := 0) H6.out.py.par rfl
  have c1 := cell_of (i := 1) H6.out.py.par rfl
  have f1 := free_of (i := 1) H6.out.py.par
  have N7 := hid (show NdV g ((owRef r).cells nilV) (w6.setCell ⟨p, 1, none⟩ (.int .i64 ((a : Int) + 1))) from heap_setCell_far N6.out (Nat.ne_of_gt HG.out.2) _)
  go_wp2_with (first | (refine wpList_load_row rfl 79 _ rfl g rfl 79 _ (0, 0) _ N7.out Tryz.underlying79 rfl (ow_info (owRef r) nilV) ?_) | (refine wpList_store_row rfl 79 _ _ rfl g ((owRef r).cells nilV).toArray rfl rfl 79 _ N7.out (ow_info (owRef r) nilV) (by rfl) (ow_one (owRef r) none 0 0) ?_))
  refine bodyPost_ret (v := .agg ((owRef r).cells nilV).toArray) (results_cell_row rfl _ _ g 79 ((owRef r).cells nilV).toArray (0, 0) _ rfl (heap_setRow_at N7.out) Tryz.underlying79 rfl (ow_info (owRef r) nilV)) rfl ?_
  exact ⟨rfl, (H6.out.step (a + 1)).row HG.out.2 _, (((Chg.of_below (F := [p]) B6.out).setCell (.inl (by simp)) _).setRow (.inr (Nat.le_of_eq HG.out.1.symm)) _)⟩
end
end Go.Proofs.YtpcjfgihglfdgaaGreatDoor

namespace Go.Proofs.YtpcjfgihglfdgaaGreatDoor
open Go.RowKit Go.Lib

set_option maxRecDepth 20000 in
set_option maxHeartbeats 4000000 in
theorem bare_call (S : ByteArray) (hS : S = textSUM) (ao : Option Addr) (m c : Nat) (w : World)(hT : Tabs w) : Calls Tryz.prog 214 #[.agg (ndL 12 S 0 0 0 (.slice ao m c)).toArray] w fun e w' => e = .returned (.bool true) ∧ Below w.heap.size w w' := by
  have HCN := hid (show ∀ w, Calls Tryz.prog 272 #[.string S] w fun e w' => e = .returned (.bool true) ∧ w = w' from fun w => by rw [hS]; exact callName_SUM w)
  have HGR := hid (show ∀ w, Tabs w → Calls Tryz.prog 273 #[.string S] w fun e w' => e = .returned (.string S) ∧ Below w.heap.size w w' from fun w hT => by rw [hS]; exact great_SUM w hT)
  have HT := hid hT
  have htl : S.toList = [83, 85, 77] := by rw [hS]; exact bs_toList _
  have HEZ := hid (fun w => eq_ref_n 0 (by omega) w)
  have HED := hid (fun w => eq_dec_n 0 (.inl rfl) w)
  clear hT hS
  have A1 : Nd w.heap.size (ndL 12 S 0 0 0 (.slice ao m c)) (((w.alloc (.cells (ndL 12 S 0 0 0 (.slice ao m c)).toArray 79)).alloc (.cells (ndL 0 ⟨#[]⟩ 0 0 0 nilV).toArray 79)).setRow (w.heap.size + 1) (ndL 12 ⟨#[]⟩ 0 0 0 nilV).toArray) := heap_setRow_far (heap_alloc_keep (heap_alloc_new w _) _) (by omega) _
  have W1 : Nd (w.heap.size + 1) (ndL 12 ⟨#[]⟩ 0 0 0 nilV) (((w.alloc (.cells (ndL 12 S 0 0 0 (.slice ao m c)).toArray 79)).alloc (.cells (ndL 0 ⟨#[]⟩ 0 0 0 nilV).toArray 79)).setRow (w.heap.size + 1) (ndL 12 ⟨#[]⟩ 0 0 0 nilV).toArray) := heap_setRow_at (heap_alloc2_new w _ _)
  have B1 := hid (((((Chg.refl [] w).alloc (.cells (ndL 12 S 0 0 0 (.slice ao m c)).toArray 79)).alloc (.cells (ndL 0 ⟨#[]⟩ 0 0 0 nilV).toArray 79)).setRow (g := w.heap.size + 1) (.inr (by omega)) (ndL 12 ⟨#[]⟩ 0 0 0 nilV).toArray).nil_below)
  have a0 := cell_of (i := 0) A1 rfl
  have HA := hid A1
  have HW := hid W1
  clear A1 W1
  go_enter Tryz.func214, Tryz.ntmps214
  generalize h37 : Code.seq (Code.region 37 _ _) _ = c37
  generalize Code.seq (Code.region 30 _ _) _ = cB
  go_wp2_with (refine wpList_store_row rfl 79 _ _ rfl (w.heap.size + 1) (ndL 12 ⟨#[]⟩ 0 0 0 nilV).toArray rfl rfl 79 _ (heap_alloc2_new w _ _) (nd_info 12 ⟨#[]⟩ 0 0 0 nilV) (by rfl) (nd_one 12 ⟨#[]⟩ 0 0 0 none 0 0) ?_)
  clear a0
  generalize World.setRow _ _ _ = w1 at HA HW B1 ⊢
  obtain ⟨g, hg⟩ : ∃ g, g = w.heap.size := ⟨_, rfl⟩
  obtain ⟨g3, hg3⟩ : ∃ g3, g3 = w.heap.size + 1 := ⟨_, rfl⟩
  rw [← hg] at HA
  rw [← hg3] at HW
  rw [← hg3, ← hg]
  have hgg : g ≠ g3 := by omega
  have hgg' : g3 ≠ g := by omega
  have HG3 := hid (show w.heap.size ≤ g3 by omega)
  clear hg hg3
  have b1 : w1.cell? ⟨g, 1, none⟩ = some (.string S) := cell_of HA.out rfl
  have e1 : w1.cell? ⟨g3, 1, none⟩ = some (.string ⟨#[]⟩) := cell_of HW.out rfl
  have f1 : w1.frozen? ⟨g3, 1, none⟩ = false := free_of HW.out
  apply end_one (A := fun y => Nd g (ndL 12 S 0 0 0 (.slice ao m c)) y ∧ Nd g3 (ndL 12 S 0 0 0 nilV) y ∧ Below w.heap.size w y)
  · intro key
    have HTD := hid (show Tabs w1.drew from HT.out.below (B1.out.trans ((Below.refl w1.heap.size w1).drew.mono B1.out.size)))
    have HS0 := hid (show w1.drew.cell? ⟨g, 1, none⟩ = some (.string S) ∧ Tabs w1.drew from ⟨b1, HTD.out⟩)
    go_region_held (fun y => y.cell? ⟨g, 1, none⟩ = some (.string S) ∧ Tabs y) (first | with_reducible exact HS0.out | with_reducible exact HS2.out | with_reducible exact HS3.out) (first | (go_at_call 272; refine (HCN.out _).mono ?_; rintro e w2 ⟨rfl, rfl⟩) | (go_at_call 273; refine (HGR.out _ HTD.out).mono ?_; rintro e w2 ⟨rfl, b2⟩; have HA2 := hid (HA.out.keep ((Below.refl w1.heap.size w1).drew.trans b2)); have HW2 := hid (HW.out.keep ((Below.refl w1.heap.size w1).drew.trans b2)); have HB2 := hid (B1.out.trans (((Below.refl w1.heap.size w1).drew.trans b2).mono B1.out.size)); have bb1 : w2.cell? ⟨g, 1, none⟩ = some (.string S) := cell_of HA2.out rfl; have ee1 : w2.cell? ⟨g3, 1, none⟩ = some (.string ⟨#[]⟩) := cell_of HW2.out rfl; have ff1 : w2.frozen? ⟨g3, 1, none⟩ = false := free_of HW2.out; have HS2 := hid (show w2.cell? ⟨g, 1, none⟩ = some (.string S) ∧ Tabs w2 from ⟨bb1, HTD.out.below b2⟩); have HS3 := hid (show (w2.setCell ⟨g3, 1, none⟩ (.string S)).cell? ⟨g, 1, none⟩ = some (.string S) ∧ Tabs (w2.setCell ⟨g3, 1, none⟩ (.string S)) from ⟨cell_of (heap_setCell_far HA2.out hgg _) rfl, HT.out.below (HB2.out.setCell HG3.out _)⟩)))
    all_goals (try go_simp)
    all_goals exact key _ ⟨heap_setCell_far (HA2.out) hgg _, heap_setCell_at (i := 1) (HW2.out) (.string S), (HB2.out).setCell HG3.out _⟩
  · rintro y ⟨y1, y2, y3⟩
    have HY1 := hid y1
    have HY2 := hid y2
    have HY3 := hid y3
    clear y1 y2 y3 HA HW B1 b1 e1 f1
    have x1 : y.cell? ⟨g, 1, none⟩ = some (.string S) := cell_of HY1.out rfl
    have z1 : y.cell? ⟨g3, 1, none⟩ = some (.string S) := cell_of HY2.out rfl
    have x2 : y.cell? ⟨g, 2, none⟩ = some (.int .i64 0) := cell_of HY1.out rfl
    have z2 : y.cell? ⟨g3, 2, none⟩ = some (.int .i64 0) := cell_of HY2.out rfl
    have x3 : y.cell? ⟨g, 3, none⟩ = some (.int .i64 0) := cell_of HY1.out rfl
    have z3 : y.cell? ⟨g3, 3, none⟩ = some (.int .i64 0) := cell_of HY2.out rfl
    have x4 : y.cell? ⟨g, 4, none⟩ = some (.bool false) := cell_of HY1.out rfl
    have z4 : y.cell? ⟨g3, 4, none⟩ = some (.bool false) := cell_of HY2.out rfl
    have x5 : y.cell? ⟨g, 5, none⟩ = some (.int .i64 0) := cell_of HY1.out rfl
    have z5 : y.cell? ⟨g3, 5, none⟩ = some (.int .i64 0) := cell_of HY2.out rfl
    have x6 : y.cell? ⟨g, 6, none⟩ = some (.string ⟨#[]⟩) := cell_of HY1.out rfl
    have z6 : y.cell? ⟨g3, 6, none⟩ = some (.string ⟨#[]⟩) := cell_of HY2.out rfl
    have x7 : y.cell? ⟨g, 7, none⟩ = some (.int .i64 0) := cell_of HY1.out rfl
    have z7 : y.cell? ⟨g3, 7, none⟩ = some (.int .i64 0) := cell_of HY2.out rfl
    have x8 : y.cell? ⟨g, 8, none⟩ = some (.int .i64 0) := cell_of HY1.out rfl
    have z8 : y.cell? ⟨g3, 8, none⟩ = some (.int .i64 0) := cell_of HY2.out rfl
    have x9 : y.cell? ⟨g, 9, none⟩ = some (.bool false) := cell_of HY1.out rfl
    have z9 : y.cell? ⟨g3, 9, none⟩ = some (.bool false) := cell_of HY2.out rfl
    have x10 : y.cell? ⟨g, 10, none⟩ = some (.bool false) := cell_of HY1.out rfl
    have z10 : y.cell? ⟨g3, 10, none⟩ = some (.bool false) := cell_of HY2.out rfl
    have x11 : y.cell? ⟨g, 11, none⟩ = some (.bool false) := cell_of HY1.out rfl
    have z11 : y.cell? ⟨g3, 11, none⟩ = some (.bool false) := cell_of HY2.out rfl
    have x12 : y.cell? ⟨g, 12, none⟩ = some (.string ⟨#[]⟩) := cell_of HY1.out rfl
    have z12 : y.cell? ⟨g3, 12, none⟩ = some (.string ⟨#[]⟩) := cell_of HY2.out rfl
    have x13 : y.cell? ⟨g, 13, none⟩ = some (.int .i64 0) := cell_of HY1.out rfl
    have z13 : y.cell? ⟨g3, 13, none⟩ = some (.int .i64 0) := cell_of HY2.out rfl
    have x14 : y.cell? ⟨g, 14, none⟩ = some (.int .i64 0) := cell_of HY1.out rfl
    have z14 : y.cell? ⟨g3, 14, none⟩ = some (.int .i64 0) := cell_of HY2.out rfl
    have x15 : y.cell? ⟨g, 15, none⟩ = some (.bool false) := cell_of HY1.out rfl
    have z15 : y.cell? ⟨g3, 15, none⟩ = some (.bool false) := cell_of HY2.out rfl
    have x16 : y.cell? ⟨g, 16, none⟩ = some (.bool false) := cell_of HY1.out rfl
    have z16 : y.cell? ⟨g3, 16, none⟩ = some (.bool false) := cell_of HY2.out rfl
    have x17 : y.cell? ⟨g, 17, none⟩ = some (.bool false) := cell_of HY1.out rfl
    have z17 : y.cell? ⟨g3, 17, none⟩ = some (.bool false) := cell_of HY2.out rfl
    have x18 : y.cell? ⟨g, 18, none⟩ = some (.int .i64 0) := cell_of HY1.out rfl
    have z18 : y.cell? ⟨g3, 18, none⟩ = some (.int .i64 0) := cell_of HY2.out rfl
    have q1 := HED.out
    have q3 := HEZ.out
    subst h37
    clear HY1 HY2 hgg hgg' HG3
    go_wp2_with fail
    go_ret
    exact ⟨rfl, HY3.out⟩
end Go.Proofs.YtpcjfgihglfdgaaGreatDoor
