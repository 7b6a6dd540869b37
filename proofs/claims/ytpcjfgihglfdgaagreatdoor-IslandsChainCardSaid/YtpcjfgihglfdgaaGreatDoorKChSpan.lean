/- Rule of the parser's span at a range. Condition: what the package-level variables hold lies as it was laid (at a call). -/
import Derived.Test.YtpcjfgihglfdgaaGreatDoorKChOne
import Derived.Test.YtpcjfgihglfdgaaGreatDoorKChBareG
import Derived.Deep.RegionHeldLaw

namespace Go.Proofs.YtpcjfgihglfdgaaGreatDoor
open Go.RowKit Go.Lib

section
variable {T : List (Int × ByteArray × Nat)}
theorem is_some {p tb tf tc a : Nat} {w : World} (h : Pz T p tb tf tc a w) (c : UInt8) {q : Nat} (ht : T[a]? = some (8, bs [c], q)) : Calls Tryz.prog 267 #[.pointer (some ⟨p, 0, none⟩), .string ⟨#[c]⟩, .int .i64 0] w fun e w' => e = .returned (.bool true) ∧ w = w' := by
  have := is_sign h.py ht [c]
  rwa [decide_eq_true rfl] at this
theorem rf_info (r : Rf) : (Tryz.prog.info? 77).map (·.size) = some r.cells.toArray.size := by
  have : (Tryz.prog.info? 77).map (·.size) = some 6 := by kernel_rfl
  rw [this]
  rfl
theorem rf_one (r : Rf) : r.cells.toArray.all (·.oneCell') = true := by simp [Value.oneCell']
theorem pz_cells {p tb tf tc a n q : Nat} {k : Int} {s : ByteArray} {w : World} (h : Pz T p tb tf tc a w) (hn : n = T.length) (ht : T[a]? = some (k, s, q)) : w.cell? ⟨p, 0, none⟩ = some (.slice (some ⟨tb, tf, none⟩) n tc) ∧ w.cell? ⟨p, 1, none⟩ = some (.int .i64 (a : Int)) ∧ w.cell? ⟨tb, tf + a * 3 + 1, none⟩ = some (.string s) := by
  have c0 := cell_of (i := 0) h.py.par rfl
  rw [← hn] at c0
  exact ⟨c0, cell_of (i := 1) h.py.par rfl, (h.py.row a _ ht).2.1⟩
set_option maxRecDepth 20000 in
set_option maxHeartbeats 4000000 in
theorem span_range {a q q2 : Nat} {s : ByteArray} {r t : Rf} (hr : r.bad = false) (h58 : T[a]? = some (8, bs [58], q)) (ht : T[a + 1]? = some (5, s, q2))
    (HD : ∀ w, Tabs w → Calls Tryz.prog 138 #[.string s] w fun e w' => e = .returned (.tuple #[.agg t.cells.toArray, .int .i64 0]) ∧ Below w.heap.size w w') (HB : BareN (owRange r t) .nil) : SpanOk T a (owRef r) (owRange r t) (a + 2) := by
  intro p tb tf tc w h
  have hp := h.plt
  have A1 : NdV w.heap.size ((owRef r).cells nilV) ((w.alloc (.cells ((owRef r).cells nilV).toArray 79)).alloc (.cells (nodeL 0 0).toArray 79)) := heap_alloc_keep (heap_alloc_new w _) _
  have W1 : NdV (w.heap.size + 1) (nodeL 0 0) ((w.alloc (.cells ((owRef r).cells nilV).toArray 79)).alloc (.cells (nodeL 0 0).toArray 79)) := heap_alloc2_new w _ _
  have B0 := ((Below.refl w.heap.size w).alloc (Nat.le_refl _) (.cells ((owRef r).cells nilV).toArray 79)).alloc (by simp) (.cells (nodeL 0 0).toArray 79)
  have H0 := hid (h.keep B0)
  have BL0 := hid B0
  have a0 := cell_of (i := 0) A1 rfl
  have a11 : _ = some (Value.bool r.bad) := cell_of (i := 11) A1 rfl
  rw [hr] at a11
  have HA := hid A1
  have HW := hid W1
  have HMU := hid must_same
  have XD := hid HD
  have XB := hid HB
  have XT := hid ht
  have X58 := hid h58
  have hlen := h.py.len
  have hlt := (List.getElem?_eq_some_iff.1 ht).1
  obtain ⟨n, hn⟩ : ∃ n, n = T.length := ⟨_, rfl⟩
  rw [← hn] at hlt hlen
  have XN := hid hn
  have ha1 : a < 1000 := by omega
  have hg := hid (show p < w.heap.size from hp)
  clear A1 W1 h B0 HD HB ht h58 hn hp
  go_enter Tryz.func308, Tryz.ntmps308
  go_wp2_with fail
  generalize World.alloc (World.alloc _ _) _ = w0 at H0 BL0 HA HW a0 a11 ⊢
  refine (is_some H0.out 58 X58.out).mono ?_
  rintro e w1 ⟨rfl, rfl⟩
  go_wp2_with fail
  refine (must_yes _).mono ?_
  rintro e w1 ⟨rfl, rfl⟩
  have c1 := cell_of (i := 1) H0.out.py.par rfl
  have f1 := free_of (i := 1) H0.out.py.par
  go_wp2_with fail
  obtain ⟨gA, hgA⟩ : ∃ gA, gA = w.heap.size := ⟨_, rfl⟩
  obtain ⟨a', ha'⟩ : ∃ a', a' = a + 1 := ⟨_, rfl⟩
  rw [← hgA] at HA HW a0 a11 ⊢
  have HGA := hid (show p < gA ∧ w.heap.size ≤ gA from by rw [hgA]; exact ⟨hg.out, Nat.le_refl _⟩)
  have H1 := hid (show Pz T p tb tf tc a' (w0.setCell ⟨p, 1, none⟩ (.int .i64 ((a : Int) + 1))) from ha' ▸ H0.out.step (a + 1))
  have A1 := hid (show NdV gA ((owRef r).cells nilV) (w0.setCell ⟨p, 1, none⟩ (.int .i64 ((a : Int) + 1))) from heap_setCell_far HA.out (Nat.ne_of_gt HGA.out.1) _)
  have W1 := hid (show NdV (gA + 1) (nodeL 0 0) (w0.setCell ⟨p, 1, none⟩ (.int .i64 ((a : Int) + 1))) from heap_setCell_far HW.out (by have := HGA.out.1; omega) _)
  have C1 := hid (show Chg [p] w (w0.setCell ⟨p, 1, none⟩ (.int .i64 ((a : Int) + 1))) from ((Chg.of_below (F := [p]) BL0.out).setCell (.inl (by simp)) _))
  have hlt' : ((a' : Int) < (n : Int)) = True := by rw [eq_iff_iff, iff_true]; omega
  have XT' := hid (show T[a']? = some (5, s, q2) from by rw [ha']; exact XT.out)
  have XA := hid (show a + 2 = a' + 1 from by omega)
  have ha2 : a' < 1000 := by omega
  clear c1 f1 a0 a11 hgA H0 HA HW BL0 hg hr XT ha1 hlt hlen ha'
  generalize World.setCell _ _ _ = w1 at H1 A1 W1 C1 ⊢
  obtain ⟨c0, c1, k1⟩ := pz_cells H1.out XN.out XT'.out
  obtain ⟨k0, -, -⟩ := H1.out.py.row a' _ XT'.out
  go_quiet (first | (go_at_call 152; refine Calls.quiet_of_same (HMU.out _)))
  have H2 := hid (show Pz T p tb tf tc a' (w1.drewN nq).drew from (H1.out.keep (below_drewN (Below.refl w1.heap.size w1) nq)).keep (Below.refl _ _).drew)
  have A2 := hid (show NdV gA ((owRef r).cells nilV) (w1.drewN nq).drew from A1.out)
  have W2 := hid (show NdV (gA + 1) (nodeL 0 0) (w1.drewN nq).drew from W1.out)
  have C2 := hid (show Chg [p] w (w1.drewN nq).drew from (C1.out.drewN nq).drew)
  clear c0 c1 k0 k1 H1 A1 W1 C1
  go_wp2_with fail
  have HS2 := hid (pz_cells H2.out XN.out XT'.out)
  refine wp_region_held_drew (S := fun y => y.cell? ⟨p, 0, none⟩ = some (.slice (some ⟨tb, tf, none⟩) n tc) ∧ y.cell? ⟨p, 1, none⟩ = some (.int .i64 (a' : Int)) ∧ y.cell? ⟨tb, tf + a' * 3 + 1, none⟩ = some (.string s)) (by kernel_rfl) HS2.out (fun hS => ?_)
  generalize World.drew _ = w2 at H2 A2 W2 C2 HS2 hS ⊢
  refine wpAnyH_take (i := 0) (oi := ⟨some 54, Op.move (Operand.tmp 0), 243, "tree.go:395", #[], none⟩) (v := ?_) rfl (by kernel_rfl) (by kernel_rfl) (by kernel_rfl) (fun _ _ _ h => h) (Or.inl ⟨by rfl, ?_⟩) hS ?_
  rotate_left 1
  · rintro wx ⟨s0, s1, s2⟩
    (go_simp <;> (try with_reducible rfl))
  try simp only [Act.put, List.setIfInBounds_toArray, List.set_cons_zero, List.set_cons_succ]
  refine wpAnyH_take (i := 1) (oi := ⟨some 55, Op.nilCheck (Operand.tmp 54), 0, "tree.go:395", #[⟨0, .data⟩], none⟩) (v := ?_) rfl (by kernel_rfl) (by kernel_rfl) (by kernel_rfl) (fun _ _ _ h => h) (Or.inl ⟨by rfl, ?_⟩) hS ?_
  rotate_left 1
  · rintro wx ⟨s0, s1, s2⟩
    (go_simp <;> (try with_reducible rfl))
  try simp only [Act.put, List.setIfInBounds_toArray, List.set_cons_zero, List.set_cons_succ]
  refine wpAnyH_take (i := 2) (oi := ⟨some 56, Op.fieldAddr 245 (Operand.tmp 55) 0, 0, "tree.go:395", #[⟨1, .data⟩], none⟩) (v := ?_) rfl (by kernel_rfl) (by kernel_rfl) (by kernel_rfl) (fun _ _ _ h => h) (Or.inl ⟨by rfl, ?_⟩) hS ?_
  rotate_left 1
  · rintro wx ⟨s0, s1, s2⟩
    (go_simp <;> (try with_reducible rfl))
  try simp only [Act.put, List.setIfInBounds_toArray, List.set_cons_zero, List.set_cons_succ]
  refine wpAnyH_take (i := 3) (oi := ⟨some 57, Op.load 180 (Operand.tmp 56), 180, "tree.go:395", #[⟨2, .data⟩], none⟩) (v := ?_) rfl (by kernel_rfl) (by kernel_rfl) (by kernel_rfl) (fun _ _ _ h => h) (Or.inl ⟨by rfl, ?_⟩) hS ?_
  rotate_left 1
  · rintro wx ⟨s0, s1, s2⟩
    (go_simp <;> (try with_reducible rfl))
  try simp only [Act.put, List.setIfInBounds_toArray, List.set_cons_zero, List.set_cons_succ]
  refine wpAnyH_take (i := 4) (oi := ⟨some 58, Op.move (Operand.tmp 0), 243, "tree.go:395", #[], none⟩) (v := ?_) rfl (by kernel_rfl) (by kernel_rfl) (by kernel_rfl) (fun _ _ _ h => h) (Or.inl ⟨by rfl, ?_⟩) hS ?_
  rotate_left 1
  · rintro wx ⟨s0, s1, s2⟩
    (go_simp <;> (try with_reducible rfl))
  try simp only [Act.put, List.setIfInBounds_toArray, List.set_cons_zero, List.set_cons_succ]
  refine wpAnyH_take (i := 5) (oi := ⟨some 59, Op.nilCheck (Operand.tmp 58), 0, "tree.go:395", #[⟨4, .data⟩], none⟩) (v := ?_) rfl (by kernel_rfl) (by kernel_rfl) (by kernel_rfl) (fun _ _ _ h => h) (Or.inl ⟨by rfl, ?_⟩) hS ?_
  rotate_left 1
  · rintro wx ⟨s0, s1, s2⟩
    (go_simp <;> (try with_reducible rfl))
  try simp only [Act.put, List.setIfInBounds_toArray, List.set_cons_zero, List.set_cons_succ]
  refine wpAnyH_take (i := 6) (oi := ⟨some 60, Op.fieldAddr 245 (Operand.tmp 59) 1, 0, "tree.go:395", #[⟨5, .data⟩], none⟩) (v := ?_) rfl (by kernel_rfl) (by kernel_rfl) (by kernel_rfl) (fun _ _ _ h => h) (Or.inl ⟨by rfl, ?_⟩) hS ?_
  rotate_left 1
  · rintro wx ⟨s0, s1, s2⟩
    (go_simp <;> (try with_reducible rfl))
  try simp only [Act.put, List.setIfInBounds_toArray, List.set_cons_zero, List.set_cons_succ]
  refine wpAnyH_take (i := 7) (oi := ⟨some 61, Op.load 3 (Operand.tmp 60), 3, "tree.go:395", #[⟨6, .data⟩], none⟩) (v := ?_) rfl (by kernel_rfl) (by kernel_rfl) (by kernel_rfl) (fun _ _ _ h => h) (Or.inl ⟨by rfl, ?_⟩) hS ?_
  rotate_left 1
  · rintro wx ⟨s0, s1, s2⟩
    (go_simp <;> (try with_reducible rfl))
  try simp only [Act.put, List.setIfInBounds_toArray, List.set_cons_zero, List.set_cons_succ]
  refine wpAnyH_take (i := 8) (oi := ⟨some 62, Op.indexAddr 180 (Operand.tmp 57) (Operand.tmp 61), 0, "tree.go:395", #[⟨3, .data⟩, ⟨7, .data⟩], none⟩) (v := ?_) rfl (by kernel_rfl) (by kernel_rfl) (by kernel_rfl) (fun _ _ _ h => h) (Or.inl ⟨by rfl, ?_⟩) hS ?_
  rotate_left 1
  · rintro wx ⟨s0, s1, s2⟩
    (go_simp <;> (try with_reducible rfl))
  try simp only [Act.put, List.setIfInBounds_toArray, List.set_cons_zero, List.set_cons_succ]
  refine wpAnyH_take (i := 9) (oi := ⟨some 63, Op.fieldAddr 185 (Operand.tmp 62) 1, 0, "tree.go:395", #[⟨8, .data⟩], none⟩) (v := ?_) rfl (by kernel_rfl) (by kernel_rfl) (by kernel_rfl) (fun _ _ _ h => h) (Or.inl ⟨by rfl, ?_⟩) hS ?_
  rotate_left 1
  · rintro wx ⟨s0, s1, s2⟩
    (go_simp <;> (try with_reducible rfl))
  try simp only [Act.put, List.setIfInBounds_toArray, List.set_cons_zero, List.set_cons_succ]
  refine wpAnyH_take (i := 10) (oi := ⟨some 64, Op.load 9 (Operand.tmp 63), 9, "tree.go:395", #[⟨9, .data⟩], none⟩) (v := ?_) rfl (by kernel_rfl) (by kernel_rfl) (by kernel_rfl) (fun _ _ _ h => h) (Or.inl ⟨by rfl, ?_⟩) hS ?_
  rotate_left 1
  · rintro wx ⟨s0, s1, s2⟩
    (go_simp <;> (try with_reducible rfl))
  try simp only [Act.put, List.setIfInBounds_toArray, List.set_cons_zero, List.set_cons_succ]
  refine wpAnyH_ready (rs := [11, 15]) (by kernel_rfl) (by simp) ?_
  refine AllReadyH.cons (o := ⟨some 65, Op.call { callee := Callee.value (Operand.func 138), args := #[Operand.tmp 64], argTypes := #[9] }, 229, "tree.go:395", #[⟨10, .data⟩], none⟩) rfl (fun K hK => ?_) ?_
  rotate_left 1
  refine AllReadyH.cons (o := ⟨some 5, Op.alloc 77, 0, "tree.go:395", #[], none⟩) rfl (fun K hK => ?_) AllReadyH.nil
  · go_simp; have hdw := hid (heap_lt W2.out); have H5 := hid (H2.out.keep ((Below.refl _ w2).alloc (Nat.le_refl _) (.cells (rfZ 0).cells.toArray 77))); have A5 := hid (show NdV gA ((owRef r).cells nilV) (w2.alloc (.cells (rfZ 0).cells.toArray 77)) from heap_alloc_keep A2.out _); have W5 := hid (show NdV (gA + 1) (nodeL 0 0) (w2.alloc (.cells (rfZ 0).cells.toArray 77)) from heap_alloc_keep W2.out _); have C5 := hid (C2.out.alloc (.cells (rfZ 0).cells.toArray 77)); have D5 := hid (show (w2.alloc (.cells (rfZ 0).cells.toArray 77)).heap[w2.heap.size]? = some (.cells (rfZ 0).cells.toArray 77 (0, 0)) from heap_alloc_new _ _); have HS5 := hid (pz_cells H5.out XN.out XT'.out); generalize World.alloc w2 _ = w5 at H5 A5 W5 C5 D5 HS5 ⊢
    refine hK.out _ _ HS5.out (fun hS2 => ?_)
    clear hK K hS
    revert hS2; intro hS
    try simp only [Act.put, List.setIfInBounds_toArray, List.set_cons_zero, List.set_cons_succ]
    refine wpAnyH_ready (rs := [11]) (by kernel_rfl) (by simp) ?_
    refine AllReadyH.cons (o := ⟨some 65, Op.call { callee := Callee.value (Operand.func 138), args := #[Operand.tmp 64], argTypes := #[9] }, 229, "tree.go:395", #[⟨10, .data⟩], none⟩) rfl (fun K hK => ?_) AllReadyH.nil
    go_simp; refine (XD.out _ H5.out.en.tabs).mono ?_; rintro e w3 ⟨rfl, b3⟩; have H3 := hid (H5.out.keep b3); have A3 := hid (show NdV gA ((owRef r).cells nilV) w3 from (b3.block _ (heap_lt A5.out)).trans A5.out); have W3 := hid (show NdV (gA + 1) (nodeL 0 0) w3 from (b3.block _ (heap_lt W5.out)).trans W5.out); have C3 := hid (C5.out.trans (Chg.of_below (F := []) b3) (by simp)); have HS3 := hid (pz_cells H3.out XN.out XT'.out); have D3 := hid ((b3.block _ (heap_lt D5.out)).trans D5.out)
    refine hK.out _ _ HS3.out (fun hS2 => ?_)
    clear hK K hS
    revert hS2; intro hS
    try simp only [Act.put, List.setIfInBounds_toArray, List.set_cons_zero, List.set_cons_succ]
    refine wpAnyH_take (i := 12) (oi := ⟨some 53, Op.move (Operand.tmp 65), 229, "tree.go:395", #[⟨11, .data⟩], none⟩) (v := ?_) rfl (by kernel_rfl) (by kernel_rfl) (by kernel_rfl) (fun _ _ _ h => h) (Or.inl ⟨by rfl, ?_⟩) hS ?_
    rotate_left 1
    · rintro wx ⟨s0, s1, s2⟩
      (go_simp <;> (try with_reducible rfl))
    try simp only [Act.put, List.setIfInBounds_toArray, List.set_cons_zero, List.set_cons_succ]
    refine wpAnyH_take (i := 13) (oi := ⟨some 66, Op.extract (Operand.tmp 53) 0, 77, "tree.go:395", #[⟨12, .data⟩], none⟩) (v := ?_) rfl (by kernel_rfl) (by kernel_rfl) (by kernel_rfl) (fun _ _ _ h => h) (Or.inl ⟨by rfl, ?_⟩) hS ?_
    rotate_left 1
    · rintro wx ⟨s0, s1, s2⟩
      (go_simp <;> (try with_reducible rfl))
    try simp only [Act.put, List.setIfInBounds_toArray, List.set_cons_zero, List.set_cons_succ]
    refine wpAnyH_take (i := 14) (oi := ⟨some 67, Op.extract (Operand.tmp 53) 1, 31, "tree.go:395", #[⟨12, .data⟩, ⟨16, .gcOnly .lateStores⟩], none⟩) (v := ?_) rfl (by kernel_rfl) (by kernel_rfl) (by kernel_rfl) (fun _ _ _ h => h) (Or.inl ⟨by rfl, ?_⟩) hS ?_
    rotate_left 1
    · rintro wx ⟨s0, s1, s2⟩
      (go_simp <;> (try with_reducible rfl))
    try simp only [Act.put, List.setIfInBounds_toArray, List.set_cons_zero, List.set_cons_succ]
    have HDA := hid (show gA + 1 < w2.heap.size from hdw.out)
    have HP6 := hid (show Pz T p tb tf tc a' ((w3.setRow w2.heap.size t.cells.toArray)).drew from ((H3.out.row (by have := HDA.out; have := HGA.out.1; omega) _).keep (Below.refl _ _).drew))
    have HD6 := hid (show ((w3.setRow w2.heap.size t.cells.toArray)).drew.heap[w2.heap.size]? = some (.cells t.cells.toArray 77 (0, 0)) from heap_setRow_at D3.out)
    have HA6 := hid (show NdV gA ((owRef r).cells nilV) ((w3.setRow w2.heap.size t.cells.toArray)).drew from heap_setRow_far A3.out (by have := HDA.out; omega) _)
    have HW6 := hid (show NdV (gA + 1) (nodeL 0 0) ((w3.setRow w2.heap.size t.cells.toArray)).drew from heap_setRow_far W3.out (by have := HDA.out; omega) _)
    have HC6 := hid (show Chg [p] w ((w3.setRow w2.heap.size t.cells.toArray)).drew from (C3.out.setRow (.inr (by have := HDA.out; have := HGA.out.2; omega)) _).drew)
    have HS6 := hid (pz_cells (show Pz T p tb tf tc a' (w3.setRow w2.heap.size t.cells.toArray) from H3.out.row (by have := HDA.out; have := HGA.out.1; omega) _) XN.out XT'.out)
    refine wpAnyH_ready (rs := [16]) (by kernel_rfl) (by simp) ?_
    refine AllReadyH.cons (o := ⟨none, Op.store 77 (Operand.tmp 5) (Operand.tmp 66), 0, "tree.go:395", #[⟨15, .data⟩, ⟨13, .data⟩, ⟨11, .chain⟩, ⟨0, .phase⟩, ⟨1, .phase⟩, ⟨2, .phase⟩, ⟨3, .phase⟩, ⟨4, .phase⟩, ⟨5, .phase⟩, ⟨6, .phase⟩, ⟨7, .phase⟩, ⟨8, .phase⟩, ⟨9, .phase⟩, ⟨10, .phase⟩, ⟨11, .phase⟩, ⟨12, .phase⟩, ⟨13, .phase⟩, ⟨14, .textOnly .lateStores⟩, ⟨15, .phase⟩], none⟩) rfl (fun K hK => ?_) AllReadyH.nil
    refine step_store_row rfl 77 _ _ rfl w2.heap.size t.cells.toArray rfl rfl 77 _ D3.out (rf_info t) rfl (rf_one t) ?_
    refine hK.out _ _ HS6.out (fun hS2 => ?_)
    clear hK K hS
    revert hS2; intro hS
    try simp only [Act.put]
    refine wpAnyH_ready (rs := [17]) (by kernel_rfl) (by simp) ?_
    refine AllReadyH.cons (o := ⟨some 6, Op.assign (Operand.tmp 67), 31, "tree.go:395", #[⟨14, .data⟩, ⟨16, .chain⟩, ⟨0, .phase⟩, ⟨1, .phase⟩, ⟨2, .phase⟩, ⟨3, .phase⟩, ⟨4, .phase⟩, ⟨5, .phase⟩, ⟨6, .phase⟩, ⟨7, .phase⟩, ⟨8, .phase⟩, ⟨9, .phase⟩, ⟨10, .phase⟩, ⟨11, .phase⟩, ⟨12, .phase⟩, ⟨13, .phase⟩, ⟨14, .phase⟩, ⟨15, .phase⟩, ⟨16, .phase⟩], none⟩) rfl (fun K hK => ?_) AllReadyH.nil
    go_simp
    refine hK.out _ _ HS6.out (fun hS2 => ?_)
    clear hK K hS
    revert hS2; intro hS
    try simp only [Act.put, List.setIfInBounds_toArray, List.set_cons_zero, List.set_cons_succ]
    refine wpAnyH_done (by kernel_rfl) ?_ _
    generalize World.setRow _ _ _ = y0 at HP6 HD6 HA6 HW6 HC6 ⊢
    go_wp2_with fail
    have HDAn := hid (show w2.heap.size ≠ gA from by have := HDA.out; omega)
    refine wp_region_held_drew (S := fun _ => True) (by kernel_rfl) trivial (fun hS => ?_)
    generalize World.drew _ = y at HP6 HD6 HA6 HW6 HC6 ⊢
    have f0 := free_of (i := 0) HA6.out
    have f12 := free_of (i := 12) HA6.out
    have f13 := free_of (i := 13) HA6.out
    have f14 := free_of (i := 14) HA6.out
    have f15 := free_of (i := 15) HA6.out
    have f16 := free_of (i := 16) HA6.out
    have f17 := free_of (i := 17) HA6.out
    have x0 : y.cell? ⟨gA, 0, none⟩ = some (.int .i64 5) := cell_of HA6.out rfl
    have x12 : y.cell? ⟨gA, 12, none⟩ = some (.string ⟨#[]⟩) := cell_of HA6.out rfl
    have x13 : y.cell? ⟨gA, 13, none⟩ = some (.int .i64 0) := cell_of HA6.out rfl
    have x14 : y.cell? ⟨gA, 14, none⟩ = some (.int .i64 0) := cell_of HA6.out rfl
    have x15 : y.cell? ⟨gA, 15, none⟩ = some (.bool false) := cell_of HA6.out rfl
    have x16 : y.cell? ⟨gA, 16, none⟩ = some (.bool false) := cell_of HA6.out rfl
    have x17 : y.cell? ⟨gA, 17, none⟩ = some (.bool false) := cell_of HA6.out rfl
    have s0 : Nd gA [.int .i64 6, .string ⟨#[]⟩, .int .i64 0, .int .i64 0, .bool false, .int .i64 0, .string r.sh, .int .i64 r.row, .int .i64 r.col, .bool r.fr, .bool r.fc, .bool r.bad, .string ⟨#[]⟩, .int .i64 0, .int .i64 0, .bool false, .bool false, .bool false, .int .i64 0, nilV] (y.setCell ⟨gA, 0, none⟩ (.int .i64 6)) := Nd.set HA6.out 0 (.int .i64 6) rfl
    have s12 : Nd gA [.int .i64 6, .string ⟨#[]⟩, .int .i64 0, .int .i64 0, .bool false, .int .i64 0, .string r.sh, .int .i64 r.row, .int .i64 r.col, .bool r.fr, .bool r.fc, .bool r.bad, .string t.sh, .int .i64 0, .int .i64 0, .bool false, .bool false, .bool false, .int .i64 0, nilV] ((y.setCell ⟨gA, 0, none⟩ (.int .i64 6)).setCell ⟨gA, 12, none⟩ (.string t.sh)) := Nd.set s0 12 (.string t.sh) rfl
    have s13 : Nd gA [.int .i64 6, .string ⟨#[]⟩, .int .i64 0, .int .i64 0, .bool false, .int .i64 0, .string r.sh, .int .i64 r.row, .int .i64 r.col, .bool r.fr, .bool r.fc, .bool r.bad, .string t.sh, .int .i64 t.row, .int .i64 0, .bool false, .bool false, .bool false, .int .i64 0, nilV] (((y.setCell ⟨gA, 0, none⟩ (.int .i64 6)).setCell ⟨gA, 12, none⟩ (.string t.sh)).setCell ⟨gA, 13, none⟩ (.int .i64 t.row)) := Nd.set s12 13 (.int .i64 t.row) rfl
    have s14 : Nd gA [.int .i64 6, .string ⟨#[]⟩, .int .i64 0, .int .i64 0, .bool false, .int .i64 0, .string r.sh, .int .i64 r.row, .int .i64 r.col, .bool r.fr, .bool r.fc, .bool r.bad, .string t.sh, .int .i64 t.row, .int .i64 t.col, .bool false, .bool false, .bool false, .int .i64 0, nilV] ((((y.setCell ⟨gA, 0, none⟩ (.int .i64 6)).setCell ⟨gA, 12, none⟩ (.string t.sh)).setCell ⟨gA, 13, none⟩ (.int .i64 t.row)).setCell ⟨gA, 14, none⟩ (.int .i64 t.col)) := Nd.set s13 14 (.int .i64 t.col) rfl
    have s15 : Nd gA [.int .i64 6, .string ⟨#[]⟩, .int .i64 0, .int .i64 0, .bool false, .int .i64 0, .string r.sh, .int .i64 r.row, .int .i64 r.col, .bool r.fr, .bool r.fc, .bool r.bad, .string t.sh, .int .i64 t.row, .int .i64 t.col, .bool t.fr, .bool false, .bool false, .int .i64 0, nilV] (((((y.setCell ⟨gA, 0, none⟩ (.int .i64 6)).setCell ⟨gA, 12, none⟩ (.string t.sh)).setCell ⟨gA, 13, none⟩ (.int .i64 t.row)).setCell ⟨gA, 14, none⟩ (.int .i64 t.col)).setCell ⟨gA, 15, none⟩ (.bool t.fr)) := Nd.set s14 15 (.bool t.fr) rfl
    have s16 : Nd gA [.int .i64 6, .string ⟨#[]⟩, .int .i64 0, .int .i64 0, .bool false, .int .i64 0, .string r.sh, .int .i64 r.row, .int .i64 r.col, .bool r.fr, .bool r.fc, .bool r.bad, .string t.sh, .int .i64 t.row, .int .i64 t.col, .bool t.fr, .bool t.fc, .bool false, .int .i64 0, nilV] ((((((y.setCell ⟨gA, 0, none⟩ (.int .i64 6)).setCell ⟨gA, 12, none⟩ (.string t.sh)).setCell ⟨gA, 13, none⟩ (.int .i64 t.row)).setCell ⟨gA, 14, none⟩ (.int .i64 t.col)).setCell ⟨gA, 15, none⟩ (.bool t.fr)).setCell ⟨gA, 16, none⟩ (.bool t.fc)) := Nd.set s15 16 (.bool t.fc) rfl
    have s17 : Nd gA [.int .i64 6, .string ⟨#[]⟩, .int .i64 0, .int .i64 0, .bool false, .int .i64 0, .string r.sh, .int .i64 r.row, .int .i64 r.col, .bool r.fr, .bool r.fc, .bool r.bad, .string t.sh, .int .i64 t.row, .int .i64 t.col, .bool t.fr, .bool t.fc, .bool t.bad, .int .i64 0, nilV] (((((((y.setCell ⟨gA, 0, none⟩ (.int .i64 6)).setCell ⟨gA, 12, none⟩ (.string t.sh)).setCell ⟨gA, 13, none⟩ (.int .i64 t.row)).setCell ⟨gA, 14, none⟩ (.int .i64 t.col)).setCell ⟨gA, 15, none⟩ (.bool t.fr)).setCell ⟨gA, 16, none⟩ (.bool t.fc)).setCell ⟨gA, 17, none⟩ (.bool t.bad)) := Nd.set s16 17 (.bool t.bad) rfl
    have HCH := hid (show Nd gA ((owRange r t).cells nilV) (((((((y.setCell ⟨gA, 0, none⟩ (.int .i64 6)).setCell ⟨gA, 12, none⟩ (.string t.sh)).setCell ⟨gA, 13, none⟩ (.int .i64 t.row)).setCell ⟨gA, 14, none⟩ (.int .i64 t.col)).setCell ⟨gA, 15, none⟩ (.bool t.fr)).setCell ⟨gA, 16, none⟩ (.bool t.fc)).setCell ⟨gA, 17, none⟩ (.bool t.bad)) ∧ Chg [gA] y (((((((y.setCell ⟨gA, 0, none⟩ (.int .i64 6)).setCell ⟨gA, 12, none⟩ (.string t.sh)).setCell ⟨gA, 13, none⟩ (.int .i64 t.row)).setCell ⟨gA, 14, none⟩ (.int .i64 t.col)).setCell ⟨gA, 15, none⟩ (.bool t.fr)).setCell ⟨gA, 16, none⟩ (.bool t.fc)).setCell ⟨gA, 17, none⟩ (.bool t.bad)) from ⟨s17, (((((((Chg.refl [gA] y).setCell (.inl (by simp)) _).setCell (.inl (by simp)) _).setCell (.inl (by simp)) _).setCell (.inl (by simp)) _).setCell (.inl (by simp)) _).setCell (.inl (by simp)) _).setCell (.inl (by simp)) _⟩)
    clear s0 s12 s13 s14 s15 s16 s17
    refine wpAnyH_take (i := 1) (oi := ⟨some 69, Op.fieldAddr 79 (Operand.tmp 3) 0, 0, "tree.go:396", #[⟨0, .textOnly .lateStores⟩], none⟩) (v := ?_) rfl (by kernel_rfl) (by kernel_rfl) (by kernel_rfl) (fun _ _ _ h => h) (Or.inl ⟨by rfl, ?_⟩) hS ?_
    rotate_left 1
    · rintro wx -
      (go_simp <;> (try with_reducible rfl))
    try simp only [Act.put, List.setIfInBounds_toArray, List.set_cons_zero, List.set_cons_succ]
    refine wpAnyH_ready (rs := [0, 2]) (by kernel_rfl) (by simp) ?_
    refine AllReadyH.cons (o := ⟨some 68, Op.load 77 (Operand.tmp 5), 77, "tree.go:396", #[⟨2, .gcOnly .lateStores⟩], none⟩) rfl (fun K hK => ?_) ?_
    rotate_left 1
    refine AllReadyH.cons (o := ⟨none, Op.store 3 (Operand.tmp 69) (Operand.const (Value.int IntKind.i64 6)), 0, "tree.go:396", #[⟨1, .data⟩, ⟨0, .textOnly .lateStores⟩], none⟩) rfl (fun K hK => ?_) AllReadyH.nil
    · go_simp
      refine hK.out _ _ trivial (fun hS2 => ?_)
      clear hK K hS
      revert hS2; intro hS
      try simp only [Act.put, List.setIfInBounds_toArray, List.set_cons_zero, List.set_cons_succ]
      refine wpAnyH_ready (rs := [0]) (by kernel_rfl) (by simp) ?_
      refine AllReadyH.cons (o := ⟨some 68, Op.load 77 (Operand.tmp 5), 77, "tree.go:396", #[⟨2, .gcOnly .lateStores⟩], none⟩) rfl (fun K hK => ?_) AllReadyH.nil
      refine step_load_row rfl 77 _  rfl w2.heap.size rfl 77 _ (0, 0) _ (heap_setCell_far HD6.out HDAn.out _) Tryz.underlying77 rfl (rf_info t) ?_
      refine hK.out _ _ trivial (fun hS2 => ?_)
      clear hK K hS
      revert hS2; intro hS
      try simp only [Act.put, List.setIfInBounds_toArray, List.set_cons_zero, List.set_cons_succ]
      refine wpAnyH_take (i := 3) (oi := ⟨some 70, Op.fieldAddr 79 (Operand.tmp 3) 6, 0, "tree.go:396", #[⟨0, .phase⟩, ⟨1, .phase⟩, ⟨2, .phase⟩], none⟩) (v := ?_) rfl (by kernel_rfl) (by kernel_rfl) (by kernel_rfl) (fun _ _ _ h => h) (Or.inl ⟨by rfl, ?_⟩) hS ?_
      rotate_left 1
      · rintro wx -
        (go_simp <;> (try with_reducible rfl))
      try simp only [Act.put, List.setIfInBounds_toArray, List.set_cons_zero, List.set_cons_succ]
      refine wpAnyH_ready (rs := [4]) (by kernel_rfl) (by simp) ?_
      refine AllReadyH.cons (o := ⟨none, Op.store 77 (Operand.tmp 70) (Operand.tmp 68), 0, "tree.go:396", #[⟨3, .data⟩, ⟨0, .data⟩, ⟨2, .chain⟩, ⟨0, .phase⟩, ⟨1, .phase⟩, ⟨2, .phase⟩], none⟩) rfl (fun K hK => ?_) AllReadyH.nil
      go_simp
      refine hK.out _ _ trivial (fun hS2 => ?_)
      clear hK K hS
      revert hS2; intro hS
      try simp only [Act.put, List.setIfInBounds_toArray, List.set_cons_zero, List.set_cons_succ]
      refine wpAnyH_done (by kernel_rfl) ?_ _
      clear x0 x12 x13 x14 x15 x16 x17 f0 f12 f13 f14 f15 f16 f17
      generalize World.setCell (World.setCell _ _ _) _ _ = z at HCH ⊢
      have HZP := hid (HP6.out.chg HCH.out.2 (by simpa using HGA.out.1))
      have HZC := hid (HC6.out.trans HCH.out.2 (fun x hx => .inr (by simp only [List.mem_singleton] at hx; rw [hx]; exact HGA.out.2)))
      have HZW := hid (show NdV (gA + 1) (nodeL 0 0) z from HCH.out.2.heap HW6.out (by simp))
      have HZA := hid (show NdV gA ((owRange r t).cells nilV) z from HCH.out.1)
      clear HCH HA6 HW6 HC6 HP6
      go_wp2_with (refine wpList_load_row_w (by rfl) 79 _ rfl gA rfl 79 _ (0, 0) _ HZA.out Tryz.underlying79 rfl (ow_info (owRange r t) nilV) ?_)
      refine (XB.out _ (fun _ => True) none 0 HZP.out.en.tabs (KidsV.nil _ _)).mono ?_
      rintro e w8 ⟨rfl, b8⟩
      have H8 := hid (HZP.out.keep b8)
      have A8 := hid (show NdV gA ((owRange r t).cells nilV) w8 from (b8.block _ (heap_lt HZA.out)).trans HZA.out)
      have W8 := hid (show NdV (gA + 1) (nodeL 0 0) w8 from (b8.block _ (heap_lt HZW.out)).trans HZW.out)
      have C8 := hid (HZC.out.trans (Chg.of_below (F := []) b8) (by simp))
      clear b8 HZP HZC HZA HZW
      go_wp2_with fail
      refine (must_yes _).mono ?_
      rintro e w9 ⟨rfl, rfl⟩
      have c1 := cell_of (i := 1) H8.out.py.par rfl
      have f1 := free_of (i := 1) H8.out.py.par
      have A9 := hid (show NdV gA ((owRange r t).cells nilV) (w8.setCell ⟨p, 1, none⟩ (.int .i64 ((a' : Int) + 1))) from heap_setCell_far A8.out (Nat.ne_of_gt HGA.out.1) _)
      have W9 := hid (show NdV (gA + 1) (nodeL 0 0) (w8.setCell ⟨p, 1, none⟩ (.int .i64 ((a' : Int) + 1))) from heap_setCell_far W8.out (by have := HGA.out.1; omega) _)
      go_wp2_with (first | (refine wpList_load_row rfl 79 _ rfl gA rfl 79 _ (0, 0) _ A9.out Tryz.underlying79 rfl (ow_info (owRange r t) nilV) ?_) | (refine wpList_store_row rfl 79 _ _ rfl (gA + 1) ((owRange r t).cells nilV).toArray rfl rfl 79 _ W9.out (node_info 0 0) (by rfl) (ow_one (owRange r t) none 0 0) ?_))
      refine bodyPost_ret (v := .agg ((owRange r t).cells nilV).toArray) (results_cell_row rfl _ _ (gA + 1) 79 ((owRange r t).cells nilV).toArray (0, 0) _ rfl (heap_setRow_at W9.out) Tryz.underlying79 rfl (ow_info (owRange r t) nilV)) rfl ?_
      rw [XA.out]
      exact ⟨rfl, (H8.out.step (a' + 1)).row (by have := HGA.out.1; omega) _, (C8.out.setCell (.inl (by simp)) _).setRow (.inr (by have := HGA.out.2; omega)) _⟩
    · refine step_load_row rfl 77 _  rfl w2.heap.size rfl 77 _ (0, 0) _ HD6.out Tryz.underlying77 rfl (rf_info t) ?_
      refine hK.out _ _ trivial (fun hS2 => ?_)
      clear hK K hS
      revert hS2; intro hS
      try simp only [Act.put, List.setIfInBounds_toArray, List.set_cons_zero, List.set_cons_succ]
      refine wpAnyH_ready (rs := [2]) (by kernel_rfl) (by simp) ?_
      refine AllReadyH.cons (o := ⟨none, Op.store 3 (Operand.tmp 69) (Operand.const (Value.int IntKind.i64 6)), 0, "tree.go:396", #[⟨1, .data⟩, ⟨0, .textOnly .lateStores⟩], none⟩) rfl (fun K hK => ?_) AllReadyH.nil
      go_simp
      refine hK.out _ _ trivial (fun hS2 => ?_)
      clear hK K hS
      revert hS2; intro hS
      try simp only [Act.put, List.setIfInBounds_toArray, List.set_cons_zero, List.set_cons_succ]
      refine wpAnyH_take (i := 3) (oi := ⟨some 70, Op.fieldAddr 79 (Operand.tmp 3) 6, 0, "tree.go:396", #[⟨0, .phase⟩, ⟨1, .phase⟩, ⟨2, .phase⟩], none⟩) (v := ?_) rfl (by kernel_rfl) (by kernel_rfl) (by kernel_rfl) (fun _ _ _ h => h) (Or.inl ⟨by rfl, ?_⟩) hS ?_
      rotate_left 1
      · rintro wx -
        (go_simp <;> (try with_reducible rfl))
      try simp only [Act.put, List.setIfInBounds_toArray, List.set_cons_zero, List.set_cons_succ]
      refine wpAnyH_ready (rs := [4]) (by kernel_rfl) (by simp) ?_
      refine AllReadyH.cons (o := ⟨none, Op.store 77 (Operand.tmp 70) (Operand.tmp 68), 0, "tree.go:396", #[⟨3, .data⟩, ⟨0, .data⟩, ⟨2, .chain⟩, ⟨0, .phase⟩, ⟨1, .phase⟩, ⟨2, .phase⟩], none⟩) rfl (fun K hK => ?_) AllReadyH.nil
      go_simp
      refine hK.out _ _ trivial (fun hS2 => ?_)
      clear hK K hS
      revert hS2; intro hS
      try simp only [Act.put, List.setIfInBounds_toArray, List.set_cons_zero, List.set_cons_succ]
      refine wpAnyH_done (by kernel_rfl) ?_ _
      clear x0 x12 x13 x14 x15 x16 x17 f0 f12 f13 f14 f15 f16 f17
      generalize World.setCell (World.setCell _ _ _) _ _ = z at HCH ⊢
      have HZP := hid (HP6.out.chg HCH.out.2 (by simpa using HGA.out.1))
      have HZC := hid (HC6.out.trans HCH.out.2 (fun x hx => .inr (by simp only [List.mem_singleton] at hx; rw [hx]; exact HGA.out.2)))
      have HZW := hid (show NdV (gA + 1) (nodeL 0 0) z from HCH.out.2.heap HW6.out (by simp))
      have HZA := hid (show NdV gA ((owRange r t).cells nilV) z from HCH.out.1)
      clear HCH HA6 HW6 HC6 HP6
      go_wp2_with (refine wpList_load_row_w (by rfl) 79 _ rfl gA rfl 79 _ (0, 0) _ HZA.out Tryz.underlying79 rfl (ow_info (owRange r t) nilV) ?_)
      refine (XB.out _ (fun _ => True) none 0 HZP.out.en.tabs (KidsV.nil _ _)).mono ?_
      rintro e w8 ⟨rfl, b8⟩
      have H8 := hid (HZP.out.keep b8)
      have A8 := hid (show NdV gA ((owRange r t).cells nilV) w8 from (b8.block _ (heap_lt HZA.out)).trans HZA.out)
      have W8 := hid (show NdV (gA + 1) (nodeL 0 0) w8 from (b8.block _ (heap_lt HZW.out)).trans HZW.out)
      have C8 := hid (HZC.out.trans (Chg.of_below (F := []) b8) (by simp))
      clear b8 HZP HZC HZA HZW
      go_wp2_with fail
      refine (must_yes _).mono ?_
      rintro e w9 ⟨rfl, rfl⟩
      have c1 := cell_of (i := 1) H8.out.py.par rfl
      have f1 := free_of (i := 1) H8.out.py.par
      have A9 := hid (show NdV gA ((owRange r t).cells nilV) (w8.setCell ⟨p, 1, none⟩ (.int .i64 ((a' : Int) + 1))) from heap_setCell_far A8.out (Nat.ne_of_gt HGA.out.1) _)
      have W9 := hid (show NdV (gA + 1) (nodeL 0 0) (w8.setCell ⟨p, 1, none⟩ (.int .i64 ((a' : Int) + 1))) from heap_setCell_far W8.out (by have := HGA.out.1; omega) _)
      go_wp2_with (first | (refine wpList_load_row rfl 79 _ rfl gA rfl 79 _ (0, 0) _ A9.out Tryz.underlying79 rfl (ow_info (owRange r t) nilV) ?_) | (refine wpList_store_row rfl 79 _ _ rfl (gA + 1) ((owRange r t).cells nilV).toArray rfl rfl 79 _ W9.out (node_info 0 0) (by rfl) (ow_one (owRange r t) none 0 0) ?_))
      refine bodyPost_ret (v := .agg ((owRange r t).cells nilV).toArray) (results_cell_row rfl _ _ (gA + 1) 79 ((owRange r t).cells nilV).toArray (0, 0) _ rfl (heap_setRow_at W9.out) Tryz.underlying79 rfl (ow_info (owRange r t) nilV)) rfl ?_
      rw [XA.out]
      exact ⟨rfl, (H8.out.step (a' + 1)).row (by have := HGA.out.1; omega) _, (C8.out.setCell (.inl (by simp)) _).setRow (.inr (by have := HGA.out.2; omega)) _⟩
  · go_simp; refine (XD.out _ H2.out.en.tabs).mono ?_; rintro e w3 ⟨rfl, b3⟩; have H3 := hid (H2.out.keep b3); have A3 := hid (show NdV gA ((owRef r).cells nilV) w3 from (b3.block _ (heap_lt A2.out)).trans A2.out); have W3 := hid (show NdV (gA + 1) (nodeL 0 0) w3 from (b3.block _ (heap_lt W2.out)).trans W2.out); have C3 := hid (C2.out.trans (Chg.of_below (F := []) b3) (by simp)); have HS3 := hid (pz_cells H3.out XN.out XT'.out)
    refine hK.out _ _ HS3.out (fun hS2 => ?_)
    clear hK K hS
    revert hS2; intro hS
    try simp only [Act.put, List.setIfInBounds_toArray, List.set_cons_zero, List.set_cons_succ]
    refine wpAnyH_take (i := 12) (oi := ⟨some 53, Op.move (Operand.tmp 65), 229, "tree.go:395", #[⟨11, .data⟩], none⟩) (v := ?_) rfl (by kernel_rfl) (by kernel_rfl) (by kernel_rfl) (fun _ _ _ h => h) (Or.inl ⟨by rfl, ?_⟩) hS ?_
    rotate_left 1
    · rintro wx ⟨s0, s1, s2⟩
      (go_simp <;> (try with_reducible rfl))
    try simp only [Act.put, List.setIfInBounds_toArray, List.set_cons_zero, List.set_cons_succ]
    refine wpAnyH_take (i := 13) (oi := ⟨some 66, Op.extract (Operand.tmp 53) 0, 77, "tree.go:395", #[⟨12, .data⟩], none⟩) (v := ?_) rfl (by kernel_rfl) (by kernel_rfl) (by kernel_rfl) (fun _ _ _ h => h) (Or.inl ⟨by rfl, ?_⟩) hS ?_
    rotate_left 1
    · rintro wx ⟨s0, s1, s2⟩
      (go_simp <;> (try with_reducible rfl))
    try simp only [Act.put, List.setIfInBounds_toArray, List.set_cons_zero, List.set_cons_succ]
    refine wpAnyH_take (i := 14) (oi := ⟨some 67, Op.extract (Operand.tmp 53) 1, 31, "tree.go:395", #[⟨12, .data⟩, ⟨16, .gcOnly .lateStores⟩], none⟩) (v := ?_) rfl (by kernel_rfl) (by kernel_rfl) (by kernel_rfl) (fun _ _ _ h => h) (Or.inl ⟨by rfl, ?_⟩) hS ?_
    rotate_left 1
    · rintro wx ⟨s0, s1, s2⟩
      (go_simp <;> (try with_reducible rfl))
    try simp only [Act.put, List.setIfInBounds_toArray, List.set_cons_zero, List.set_cons_succ]
    have hdw := hid (heap_lt W3.out)
    refine wpAnyH_ready (rs := [15]) (by kernel_rfl) (by simp) ?_
    refine AllReadyH.cons (o := ⟨some 5, Op.alloc 77, 0, "tree.go:395", #[], none⟩) rfl (fun K hK => ?_) AllReadyH.nil
    go_simp; have H4 := hid (H3.out.keep ((Below.refl _ w3).alloc (Nat.le_refl _) (.cells (rfZ 0).cells.toArray 77))); have A4 := hid (show NdV gA ((owRef r).cells nilV) (w3.alloc (.cells (rfZ 0).cells.toArray 77)) from heap_alloc_keep A3.out _); have W4 := hid (show NdV (gA + 1) (nodeL 0 0) (w3.alloc (.cells (rfZ 0).cells.toArray 77)) from heap_alloc_keep W3.out _); have C4 := hid (C3.out.alloc (.cells (rfZ 0).cells.toArray 77)); have D4 := hid (show (w3.alloc (.cells (rfZ 0).cells.toArray 77)).heap[w3.heap.size]? = some (.cells (rfZ 0).cells.toArray 77 (0, 0)) from heap_alloc_new _ _); have HS4 := hid (pz_cells H4.out XN.out XT'.out)
    refine hK.out _ _ HS4.out (fun hS2 => ?_)
    clear hK K hS
    revert hS2; intro hS
    try simp only [Act.put, List.setIfInBounds_toArray, List.set_cons_zero, List.set_cons_succ]
    have HDA := hid (show gA + 1 < w3.heap.size from hdw.out)
    have HP6 := hid (show Pz T p tb tf tc a' (((w3.alloc (.cells (rfZ 0).cells.toArray 77)).setRow w3.heap.size t.cells.toArray)).drew from ((H4.out.row (by have := HDA.out; have := HGA.out.1; omega) _).keep (Below.refl _ _).drew))
    have HD6 := hid (show (((w3.alloc (.cells (rfZ 0).cells.toArray 77)).setRow w3.heap.size t.cells.toArray)).drew.heap[w3.heap.size]? = some (.cells t.cells.toArray 77 (0, 0)) from heap_setRow_at D4.out)
    have HA6 := hid (show NdV gA ((owRef r).cells nilV) (((w3.alloc (.cells (rfZ 0).cells.toArray 77)).setRow w3.heap.size t.cells.toArray)).drew from heap_setRow_far A4.out (by have := HDA.out; omega) _)
    have HW6 := hid (show NdV (gA + 1) (nodeL 0 0) (((w3.alloc (.cells (rfZ 0).cells.toArray 77)).setRow w3.heap.size t.cells.toArray)).drew from heap_setRow_far W4.out (by have := HDA.out; omega) _)
    have HC6 := hid (show Chg [p] w (((w3.alloc (.cells (rfZ 0).cells.toArray 77)).setRow w3.heap.size t.cells.toArray)).drew from (C4.out.setRow (.inr (by have := HDA.out; have := HGA.out.2; omega)) _).drew)
    have HS6 := hid (pz_cells (show Pz T p tb tf tc a' ((w3.alloc (.cells (rfZ 0).cells.toArray 77)).setRow w3.heap.size t.cells.toArray) from H4.out.row (by have := HDA.out; have := HGA.out.1; omega) _) XN.out XT'.out)
    refine wpAnyH_ready (rs := [16]) (by kernel_rfl) (by simp) ?_
    refine AllReadyH.cons (o := ⟨none, Op.store 77 (Operand.tmp 5) (Operand.tmp 66), 0, "tree.go:395", #[⟨15, .data⟩, ⟨13, .data⟩, ⟨11, .chain⟩, ⟨0, .phase⟩, ⟨1, .phase⟩, ⟨2, .phase⟩, ⟨3, .phase⟩, ⟨4, .phase⟩, ⟨5, .phase⟩, ⟨6, .phase⟩, ⟨7, .phase⟩, ⟨8, .phase⟩, ⟨9, .phase⟩, ⟨10, .phase⟩, ⟨11, .phase⟩, ⟨12, .phase⟩, ⟨13, .phase⟩, ⟨14, .textOnly .lateStores⟩, ⟨15, .phase⟩], none⟩) rfl (fun K hK => ?_) AllReadyH.nil
    refine step_store_row rfl 77 _ _ rfl w3.heap.size t.cells.toArray rfl rfl 77 _ D4.out (rf_info t) rfl (rf_one t) ?_
    refine hK.out _ _ HS6.out (fun hS2 => ?_)
    clear hK K hS
    revert hS2; intro hS
    try simp only [Act.put]
    refine wpAnyH_ready (rs := [17]) (by kernel_rfl) (by simp) ?_
    refine AllReadyH.cons (o := ⟨some 6, Op.assign (Operand.tmp 67), 31, "tree.go:395", #[⟨14, .data⟩, ⟨16, .chain⟩, ⟨0, .phase⟩, ⟨1, .phase⟩, ⟨2, .phase⟩, ⟨3, .phase⟩, ⟨4, .phase⟩, ⟨5, .phase⟩, ⟨6, .phase⟩, ⟨7, .phase⟩, ⟨8, .phase⟩, ⟨9, .phase⟩, ⟨10, .phase⟩, ⟨11, .phase⟩, ⟨12, .phase⟩, ⟨13, .phase⟩, ⟨14, .phase⟩, ⟨15, .phase⟩, ⟨16, .phase⟩], none⟩) rfl (fun K hK => ?_) AllReadyH.nil
    go_simp
    refine hK.out _ _ HS6.out (fun hS2 => ?_)
    clear hK K hS
    revert hS2; intro hS
    try simp only [Act.put, List.setIfInBounds_toArray, List.set_cons_zero, List.set_cons_succ]
    refine wpAnyH_done (by kernel_rfl) ?_ _
    generalize World.setRow _ _ _ = y0 at HP6 HD6 HA6 HW6 HC6 ⊢
    go_wp2_with fail
    have HDAn := hid (show w3.heap.size ≠ gA from by have := HDA.out; omega)
    refine wp_region_held_drew (S := fun _ => True) (by kernel_rfl) trivial (fun hS => ?_)
    generalize World.drew _ = y at HP6 HD6 HA6 HW6 HC6 ⊢
    have f0 := free_of (i := 0) HA6.out
    have f12 := free_of (i := 12) HA6.out
    have f13 := free_of (i := 13) HA6.out
    have f14 := free_of (i := 14) HA6.out
    have f15 := free_of (i := 15) HA6.out
    have f16 := free_of (i := 16) HA6.out
    have f17 := free_of (i := 17) HA6.out
    have x0 : y.cell? ⟨gA, 0, none⟩ = some (.int .i64 5) := cell_of HA6.out rfl
    have x12 : y.cell? ⟨gA, 12, none⟩ = some (.string ⟨#[]⟩) := cell_of HA6.out rfl
    have x13 : y.cell? ⟨gA, 13, none⟩ = some (.int .i64 0) := cell_of HA6.out rfl
    have x14 : y.cell? ⟨gA, 14, none⟩ = some (.int .i64 0) := cell_of HA6.out rfl
    have x15 : y.cell? ⟨gA, 15, none⟩ = some (.bool false) := cell_of HA6.out rfl
    have x16 : y.cell? ⟨gA, 16, none⟩ = some (.bool false) := cell_of HA6.out rfl
    have x17 : y.cell? ⟨gA, 17, none⟩ = some (.bool false) := cell_of HA6.out rfl
    have s0 : Nd gA [.int .i64 6, .string ⟨#[]⟩, .int .i64 0, .int .i64 0, .bool false, .int .i64 0, .string r.sh, .int .i64 r.row, .int .i64 r.col, .bool r.fr, .bool r.fc, .bool r.bad, .string ⟨#[]⟩, .int .i64 0, .int .i64 0, .bool false, .bool false, .bool false, .int .i64 0, nilV] (y.setCell ⟨gA, 0, none⟩ (.int .i64 6)) := Nd.set HA6.out 0 (.int .i64 6) rfl
    have s12 : Nd gA [.int .i64 6, .string ⟨#[]⟩, .int .i64 0, .int .i64 0, .bool false, .int .i64 0, .string r.sh, .int .i64 r.row, .int .i64 r.col, .bool r.fr, .bool r.fc, .bool r.bad, .string t.sh, .int .i64 0, .int .i64 0, .bool false, .bool false, .bool false, .int .i64 0, nilV] ((y.setCell ⟨gA, 0, none⟩ (.int .i64 6)).setCell ⟨gA, 12, none⟩ (.string t.sh)) := Nd.set s0 12 (.string t.sh) rfl
    have s13 : Nd gA [.int .i64 6, .string ⟨#[]⟩, .int .i64 0, .int .i64 0, .bool false, .int .i64 0, .string r.sh, .int .i64 r.row, .int .i64 r.col, .bool r.fr, .bool r.fc, .bool r.bad, .string t.sh, .int .i64 t.row, .int .i64 0, .bool false, .bool false, .bool false, .int .i64 0, nilV] (((y.setCell ⟨gA, 0, none⟩ (.int .i64 6)).setCell ⟨gA, 12, none⟩ (.string t.sh)).setCell ⟨gA, 13, none⟩ (.int .i64 t.row)) := Nd.set s12 13 (.int .i64 t.row) rfl
    have s14 : Nd gA [.int .i64 6, .string ⟨#[]⟩, .int .i64 0, .int .i64 0, .bool false, .int .i64 0, .string r.sh, .int .i64 r.row, .int .i64 r.col, .bool r.fr, .bool r.fc, .bool r.bad, .string t.sh, .int .i64 t.row, .int .i64 t.col, .bool false, .bool false, .bool false, .int .i64 0, nilV] ((((y.setCell ⟨gA, 0, none⟩ (.int .i64 6)).setCell ⟨gA, 12, none⟩ (.string t.sh)).setCell ⟨gA, 13, none⟩ (.int .i64 t.row)).setCell ⟨gA, 14, none⟩ (.int .i64 t.col)) := Nd.set s13 14 (.int .i64 t.col) rfl
    have s15 : Nd gA [.int .i64 6, .string ⟨#[]⟩, .int .i64 0, .int .i64 0, .bool false, .int .i64 0, .string r.sh, .int .i64 r.row, .int .i64 r.col, .bool r.fr, .bool r.fc, .bool r.bad, .string t.sh, .int .i64 t.row, .int .i64 t.col, .bool t.fr, .bool false, .bool false, .int .i64 0, nilV] (((((y.setCell ⟨gA, 0, none⟩ (.int .i64 6)).setCell ⟨gA, 12, none⟩ (.string t.sh)).setCell ⟨gA, 13, none⟩ (.int .i64 t.row)).setCell ⟨gA, 14, none⟩ (.int .i64 t.col)).setCell ⟨gA, 15, none⟩ (.bool t.fr)) := Nd.set s14 15 (.bool t.fr) rfl
    have s16 : Nd gA [.int .i64 6, .string ⟨#[]⟩, .int .i64 0, .int .i64 0, .bool false, .int .i64 0, .string r.sh, .int .i64 r.row, .int .i64 r.col, .bool r.fr, .bool r.fc, .bool r.bad, .string t.sh, .int .i64 t.row, .int .i64 t.col, .bool t.fr, .bool t.fc, .bool false, .int .i64 0, nilV] ((((((y.setCell ⟨gA, 0, none⟩ (.int .i64 6)).setCell ⟨gA, 12, none⟩ (.string t.sh)).setCell ⟨gA, 13, none⟩ (.int .i64 t.row)).setCell ⟨gA, 14, none⟩ (.int .i64 t.col)).setCell ⟨gA, 15, none⟩ (.bool t.fr)).setCell ⟨gA, 16, none⟩ (.bool t.fc)) := Nd.set s15 16 (.bool t.fc) rfl
    have s17 : Nd gA [.int .i64 6, .string ⟨#[]⟩, .int .i64 0, .int .i64 0, .bool false, .int .i64 0, .string r.sh, .int .i64 r.row, .int .i64 r.col, .bool r.fr, .bool r.fc, .bool r.bad, .string t.sh, .int .i64 t.row, .int .i64 t.col, .bool t.fr, .bool t.fc, .bool t.bad, .int .i64 0, nilV] (((((((y.setCell ⟨gA, 0, none⟩ (.int .i64 6)).setCell ⟨gA, 12, none⟩ (.string t.sh)).setCell ⟨gA, 13, none⟩ (.int .i64 t.row)).setCell ⟨gA, 14, none⟩ (.int .i64 t.col)).setCell ⟨gA, 15, none⟩ (.bool t.fr)).setCell ⟨gA, 16, none⟩ (.bool t.fc)).setCell ⟨gA, 17, none⟩ (.bool t.bad)) := Nd.set s16 17 (.bool t.bad) rfl
    have HCH := hid (show Nd gA ((owRange r t).cells nilV) (((((((y.setCell ⟨gA, 0, none⟩ (.int .i64 6)).setCell ⟨gA, 12, none⟩ (.string t.sh)).setCell ⟨gA, 13, none⟩ (.int .i64 t.row)).setCell ⟨gA, 14, none⟩ (.int .i64 t.col)).setCell ⟨gA, 15, none⟩ (.bool t.fr)).setCell ⟨gA, 16, none⟩ (.bool t.fc)).setCell ⟨gA, 17, none⟩ (.bool t.bad)) ∧ Chg [gA] y (((((((y.setCell ⟨gA, 0, none⟩ (.int .i64 6)).setCell ⟨gA, 12, none⟩ (.string t.sh)).setCell ⟨gA, 13, none⟩ (.int .i64 t.row)).setCell ⟨gA, 14, none⟩ (.int .i64 t.col)).setCell ⟨gA, 15, none⟩ (.bool t.fr)).setCell ⟨gA, 16, none⟩ (.bool t.fc)).setCell ⟨gA, 17, none⟩ (.bool t.bad)) from ⟨s17, (((((((Chg.refl [gA] y).setCell (.inl (by simp)) _).setCell (.inl (by simp)) _).setCell (.inl (by simp)) _).setCell (.inl (by simp)) _).setCell (.inl (by simp)) _).setCell (.inl (by simp)) _).setCell (.inl (by simp)) _⟩)
    clear s0 s12 s13 s14 s15 s16 s17
    refine wpAnyH_take (i := 1) (oi := ⟨some 69, Op.fieldAddr 79 (Operand.tmp 3) 0, 0, "tree.go:396", #[⟨0, .textOnly .lateStores⟩], none⟩) (v := ?_) rfl (by kernel_rfl) (by kernel_rfl) (by kernel_rfl) (fun _ _ _ h => h) (Or.inl ⟨by rfl, ?_⟩) hS ?_
    rotate_left 1
    · rintro wx -
      (go_simp <;> (try with_reducible rfl))
    try simp only [Act.put, List.setIfInBounds_toArray, List.set_cons_zero, List.set_cons_succ]
    refine wpAnyH_ready (rs := [0, 2]) (by kernel_rfl) (by simp) ?_
    refine AllReadyH.cons (o := ⟨some 68, Op.load 77 (Operand.tmp 5), 77, "tree.go:396", #[⟨2, .gcOnly .lateStores⟩], none⟩) rfl (fun K hK => ?_) ?_
    rotate_left 1
    refine AllReadyH.cons (o := ⟨none, Op.store 3 (Operand.tmp 69) (Operand.const (Value.int IntKind.i64 6)), 0, "tree.go:396", #[⟨1, .data⟩, ⟨0, .textOnly .lateStores⟩], none⟩) rfl (fun K hK => ?_) AllReadyH.nil
    · go_simp
      refine hK.out _ _ trivial (fun hS2 => ?_)
      clear hK K hS
      revert hS2; intro hS
      try simp only [Act.put, List.setIfInBounds_toArray, List.set_cons_zero, List.set_cons_succ]
      refine wpAnyH_ready (rs := [0]) (by kernel_rfl) (by simp) ?_
      refine AllReadyH.cons (o := ⟨some 68, Op.load 77 (Operand.tmp 5), 77, "tree.go:396", #[⟨2, .gcOnly .lateStores⟩], none⟩) rfl (fun K hK => ?_) AllReadyH.nil
      refine step_load_row rfl 77 _  rfl w3.heap.size rfl 77 _ (0, 0) _ (heap_setCell_far HD6.out HDAn.out _) Tryz.underlying77 rfl (rf_info t) ?_
      refine hK.out _ _ trivial (fun hS2 => ?_)
      clear hK K hS
      revert hS2; intro hS
      try simp only [Act.put, List.setIfInBounds_toArray, List.set_cons_zero, List.set_cons_succ]
      refine wpAnyH_take (i := 3) (oi := ⟨some 70, Op.fieldAddr 79 (Operand.tmp 3) 6, 0, "tree.go:396", #[⟨0, .phase⟩, ⟨1, .phase⟩, ⟨2, .phase⟩], none⟩) (v := ?_) rfl (by kernel_rfl) (by kernel_rfl) (by kernel_rfl) (fun _ _ _ h => h) (Or.inl ⟨by rfl, ?_⟩) hS ?_
      rotate_left 1
      · rintro wx -
        (go_simp <;> (try with_reducible rfl))
      try simp only [Act.put, List.setIfInBounds_toArray, List.set_cons_zero, List.set_cons_succ]
      refine wpAnyH_ready (rs := [4]) (by kernel_rfl) (by simp) ?_
      refine AllReadyH.cons (o := ⟨none, Op.store 77 (Operand.tmp 70) (Operand.tmp 68), 0, "tree.go:396", #[⟨3, .data⟩, ⟨0, .data⟩, ⟨2, .chain⟩, ⟨0, .phase⟩, ⟨1, .phase⟩, ⟨2, .phase⟩], none⟩) rfl (fun K hK => ?_) AllReadyH.nil
      go_simp
      refine hK.out _ _ trivial (fun hS2 => ?_)
      clear hK K hS
      revert hS2; intro hS
      try simp only [Act.put, List.setIfInBounds_toArray, List.set_cons_zero, List.set_cons_succ]
      refine wpAnyH_done (by kernel_rfl) ?_ _
      clear x0 x12 x13 x14 x15 x16 x17 f0 f12 f13 f14 f15 f16 f17
      generalize World.setCell (World.setCell _ _ _) _ _ = z at HCH ⊢
      have HZP := hid (HP6.out.chg HCH.out.2 (by simpa using HGA.out.1))
      have HZC := hid (HC6.out.trans HCH.out.2 (fun x hx => .inr (by simp only [List.mem_singleton] at hx; rw [hx]; exact HGA.out.2)))
      have HZW := hid (show NdV (gA + 1) (nodeL 0 0) z from HCH.out.2.heap HW6.out (by simp))
      have HZA := hid (show NdV gA ((owRange r t).cells nilV) z from HCH.out.1)
      clear HCH HA6 HW6 HC6 HP6
      go_wp2_with (refine wpList_load_row_w (by rfl) 79 _ rfl gA rfl 79 _ (0, 0) _ HZA.out Tryz.underlying79 rfl (ow_info (owRange r t) nilV) ?_)
      refine (XB.out _ (fun _ => True) none 0 HZP.out.en.tabs (KidsV.nil _ _)).mono ?_
      rintro e w8 ⟨rfl, b8⟩
      have H8 := hid (HZP.out.keep b8)
      have A8 := hid (show NdV gA ((owRange r t).cells nilV) w8 from (b8.block _ (heap_lt HZA.out)).trans HZA.out)
      have W8 := hid (show NdV (gA + 1) (nodeL 0 0) w8 from (b8.block _ (heap_lt HZW.out)).trans HZW.out)
      have C8 := hid (HZC.out.trans (Chg.of_below (F := []) b8) (by simp))
      clear b8 HZP HZC HZA HZW
      go_wp2_with fail
      refine (must_yes _).mono ?_
      rintro e w9 ⟨rfl, rfl⟩
      have c1 := cell_of (i := 1) H8.out.py.par rfl
      have f1 := free_of (i := 1) H8.out.py.par
      have A9 := hid (show NdV gA ((owRange r t).cells nilV) (w8.setCell ⟨p, 1, none⟩ (.int .i64 ((a' : Int) + 1))) from heap_setCell_far A8.out (Nat.ne_of_gt HGA.out.1) _)
      have W9 := hid (show NdV (gA + 1) (nodeL 0 0) (w8.setCell ⟨p, 1, none⟩ (.int .i64 ((a' : Int) + 1))) from heap_setCell_far W8.out (by have := HGA.out.1; omega) _)
      go_wp2_with (first | (refine wpList_load_row rfl 79 _ rfl gA rfl 79 _ (0, 0) _ A9.out Tryz.underlying79 rfl (ow_info (owRange r t) nilV) ?_) | (refine wpList_store_row rfl 79 _ _ rfl (gA + 1) ((owRange r t).cells nilV).toArray rfl rfl 79 _ W9.out (node_info 0 0) (by rfl) (ow_one (owRange r t) none 0 0) ?_))
      refine bodyPost_ret (v := .agg ((owRange r t).cells nilV).toArray) (results_cell_row rfl _ _ (gA + 1) 79 ((owRange r t).cells nilV).toArray (0, 0) _ rfl (heap_setRow_at W9.out) Tryz.underlying79 rfl (ow_info (owRange r t) nilV)) rfl ?_
      rw [XA.out]
      exact ⟨rfl, (H8.out.step (a' + 1)).row (by have := HGA.out.1; omega) _, (C8.out.setCell (.inl (by simp)) _).setRow (.inr (by have := HGA.out.2; omega)) _⟩
    · refine step_load_row rfl 77 _  rfl w3.heap.size rfl 77 _ (0, 0) _ HD6.out Tryz.underlying77 rfl (rf_info t) ?_
      refine hK.out _ _ trivial (fun hS2 => ?_)
      clear hK K hS
      revert hS2; intro hS
      try simp only [Act.put, List.setIfInBounds_toArray, List.set_cons_zero, List.set_cons_succ]
      refine wpAnyH_ready (rs := [2]) (by kernel_rfl) (by simp) ?_
      refine AllReadyH.cons (o := ⟨none, Op.store 3 (Operand.tmp 69) (Operand.const (Value.int IntKind.i64 6)), 0, "tree.go:396", #[⟨1, .data⟩, ⟨0, .textOnly .lateStores⟩], none⟩) rfl (fun K hK => ?_) AllReadyH.nil
      go_simp
      refine hK.out _ _ trivial (fun hS2 => ?_)
      clear hK K hS
      revert hS2; intro hS
      try simp only [Act.put, List.setIfInBounds_toArray, List.set_cons_zero, List.set_cons_succ]
      refine wpAnyH_take (i := 3) (oi := ⟨some 70, Op.fieldAddr 79 (Operand.tmp 3) 6, 0, "tree.go:396", #[⟨0, .phase⟩, ⟨1, .phase⟩, ⟨2, .phase⟩], none⟩) (v := ?_) rfl (by kernel_rfl) (by kernel_rfl) (by kernel_rfl) (fun _ _ _ h => h) (Or.inl ⟨by rfl, ?_⟩) hS ?_
      rotate_left 1
      · rintro wx -
        (go_simp <;> (try with_reducible rfl))
      try simp only [Act.put, List.setIfInBounds_toArray, List.set_cons_zero, List.set_cons_succ]
      refine wpAnyH_ready (rs := [4]) (by kernel_rfl) (by simp) ?_
      refine AllReadyH.cons (o := ⟨none, Op.store 77 (Operand.tmp 70) (Operand.tmp 68), 0, "tree.go:396", #[⟨3, .data⟩, ⟨0, .data⟩, ⟨2, .chain⟩, ⟨0, .phase⟩, ⟨1, .phase⟩, ⟨2, .phase⟩], none⟩) rfl (fun K hK => ?_) AllReadyH.nil
      go_simp
      refine hK.out _ _ trivial (fun hS2 => ?_)
      clear hK K hS
      revert hS2; intro hS
      try simp only [Act.put, List.setIfInBounds_toArray, List.set_cons_zero, List.set_cons_succ]
      refine wpAnyH_done (by kernel_rfl) ?_ _
      clear x0 x12 x13 x14 x15 x16 x17 f0 f12 f13 f14 f15 f16 f17
      generalize World.setCell (World.setCell _ _ _) _ _ = z at HCH ⊢
      have HZP := hid (HP6.out.chg HCH.out.2 (by simpa using HGA.out.1))
      have HZC := hid (HC6.out.trans HCH.out.2 (fun x hx => .inr (by simp only [List.mem_singleton] at hx; rw [hx]; exact HGA.out.2)))
      have HZW := hid (show NdV (gA + 1) (nodeL 0 0) z from HCH.out.2.heap HW6.out (by simp))
      have HZA := hid (show NdV gA ((owRange r t).cells nilV) z from HCH.out.1)
      clear HCH HA6 HW6 HC6 HP6
      go_wp2_with (refine wpList_load_row_w (by rfl) 79 _ rfl gA rfl 79 _ (0, 0) _ HZA.out Tryz.underlying79 rfl (ow_info (owRange r t) nilV) ?_)
      refine (XB.out _ (fun _ => True) none 0 HZP.out.en.tabs (KidsV.nil _ _)).mono ?_
      rintro e w8 ⟨rfl, b8⟩
      have H8 := hid (HZP.out.keep b8)
      have A8 := hid (show NdV gA ((owRange r t).cells nilV) w8 from (b8.block _ (heap_lt HZA.out)).trans HZA.out)
      have W8 := hid (show NdV (gA + 1) (nodeL 0 0) w8 from (b8.block _ (heap_lt HZW.out)).trans HZW.out)
      have C8 := hid (HZC.out.trans (Chg.of_below (F := []) b8) (by simp))
      clear b8 HZP HZC HZA HZW
      go_wp2_with fail
      refine (must_yes _).mono ?_
      rintro e w9 ⟨rfl, rfl⟩
      have c1 := cell_of (i := 1) H8.out.py.par rfl
      have f1 := free_of (i := 1) H8.out.py.par
      have A9 := hid (show NdV gA ((owRange r t).cells nilV) (w8.setCell ⟨p, 1, none⟩ (.int .i64 ((a' : Int) + 1))) from heap_setCell_far A8.out (Nat.ne_of_gt HGA.out.1) _)
      have W9 := hid (show NdV (gA + 1) (nodeL 0 0) (w8.setCell ⟨p, 1, none⟩ (.int .i64 ((a' : Int) + 1))) from heap_setCell_far W8.out (by have := HGA.out.1; omega) _)
      go_wp2_with (first | (refine wpList_load_row rfl 79 _ rfl gA rfl 79 _ (0, 0) _ A9.out Tryz.underlying79 rfl (ow_info (owRange r t) nilV) ?_) | (refine wpList_store_row rfl 79 _ _ rfl (gA + 1) ((owRange r t).cells nilV).toArray rfl rfl 79 _ W9.out (node_info 0 0) (by rfl) (ow_one (owRange r t) none 0 0) ?_))
      refine bodyPost_ret (v := .agg ((owRange r t).cells nilV).toArray) (results_cell_row rfl _ _ (gA + 1) 79 ((owRange r t).cells nilV).toArray (0, 0) _ rfl (heap_setRow_at W9.out) Tryz.underlying79 rfl (ow_info (owRange r t) nilV)) rfl ?_
      rw [XA.out]
      exact ⟨rfl, (H8.out.step (a' + 1)).row (by have := HGA.out.1; omega) _, (C8.out.setCell (.inl (by simp)) _).setRow (.inr (by have := HGA.out.2; omega)) _⟩
end
end Go.Proofs.YtpcjfgihglfdgaaGreatDoor
