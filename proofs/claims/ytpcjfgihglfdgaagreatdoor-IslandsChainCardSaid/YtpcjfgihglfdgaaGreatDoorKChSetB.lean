/- Contracts of slices.Clone at cells, at one sheet, at nil, and of book.copied at a workbook of one sheet. No condition. -/
import Derived.Test.YtpcjfgihglfdgaaGreatDoorKSpOwn
import Derived.Lib.LazyBuf
import Derived.Maps.AppendAt
import Derived.Lib.SliceRun
import Derived.Deep.RegionHeldLaw
import Derived.Test.YtpcjfgihglfdgaaGreatDoorKChCheck

namespace Go.Proofs.YtpcjfgihglfdgaaGreatDoor
open Go.RowKit Go.Lib

theorem cls_flat (tx : PAt → ByteArray) (l : List PAt) : (l.flatMap (cellC tx)).length = l.length * 3 := by
  induction l with
  | nil => rfl
  | cons x l ih =>
    rw [List.flatMap_cons, List.length_append, ih, List.length_cons]
    simp only [cellC, List.length_cons, List.length_nil]
    omega
set_option maxRecDepth 20000 in
set_option maxHeartbeats 1000000 in
theorem cloneC_any (w : World) (v : Value) (tx : PAt → ByteArray) (l : List PAt) (h : CellsIn w v tx l) (hl : l.length ≤ 1000) :
    Calls Tryz.prog 74 #[v] w fun e w' => (∃ ov, e = .returned ov ∧ ClsOwn w' w.heap.size ov tx l) ∧ Below w.heap.size w w' := by
  obtain ⟨ao, c, cb, co, rfl, hl2, hcl⟩ := h
  rw [List.length_map] at *
  have q22 : ∀ (w : World) (a : Option Addr) (n c : Nat), (binOp .eql 23 (.slice a n c) (.slice none 0 0)).run Tryz.prog w = .ok (.bool a.isNone) w := fun w a n c => Lib.run_eql_slice_nil w _ _ a n c 0 0 Tryz.underlying23
  obtain ⟨i0, hi, hz0, hz1, hz2⟩ := info_parts cls_info
  obtain ⟨ln, hln⟩ : ∃ n, n = l.length := ⟨_, rfl⟩
  rw [← hln] at hl ⊢
  rcases ao with _ | ad
  · have : l = [] := by
      cases l with
      | nil => rfl
      | cons p l => have := (hcl 0 (cellC tx p) rfl).1; cases this
    subst this
    obtain rfl : ln = 0 := hln
    go_enter Tryz.func74, Tryz.ntmps74
    go_wp2_with fail
    go_ret
    exact ⟨⟨_, rfl, ClsOwn.nil _ _ _⟩, Below.refl _ _⟩
  · obtain ⟨v', w', a1, a2, a3, _, _⟩ := run_append_own_at (P := Tryz.prog) (w.alloc (.cells #[] 28)) w.heap.size 23 23 28 i0 (.agg #[.int .i64 0, .int .i64 0, .string ⟨#[]⟩]) 3 32 Tryz.underlying23 hi hz0 hz1 hz2 rfl (by decide) _ 0 [] (World.ownsRow_made w #[] 0 (Nat.le_refl _) (Nat.zero_le _) (by simp))
      ad ln c (l.flatMap (cellC tx)) (by rw [cls_flat, hln]) (fun m u hu => by
        have hlen := cls_flat tx l
        have hm : m < l.length * 3 := by rw [← hlen]; exact (List.getElem?_eq_some_iff.1 hu).1
        obtain ⟨y, hy⟩ : ∃ y, l[m / 3]? = some y := ⟨_, List.getElem?_eq_getElem (by omega)⟩
        have h5 := flat_get (k := 3) (l.map (cellC tx)) (by intro c hc; obtain ⟨q, -, rfl⟩ := List.mem_map.1 hc; rfl) (m / 3) (m % 3) (cellC tx y) (by simp [hy]) (Nat.mod_lt _ (by omega))
        rw [show m / 3 * 3 + m % 3 = m by omega, ← List.flatMap_def, hu] at h5
        obtain ⟨e1, e2⟩ := hcl (m / 3) (cellC tx y) (by simp [hy])
        obtain rfl := Option.some.inj e1
        have := e2 (m % 3) u h5.symm
        rw [Addr.add_lit]
        rw [Nat.add_assoc, show m / 3 * 3 + m % 3 = m by omega] at this
        exact ((((Below.refl w.heap.size w).alloc (Nat.le_refl _) _).cell (World.block_lt_of_cell? _ _ this)).trans this)) (by
          intro u hu
          obtain ⟨y, -, hu⟩ := List.mem_flatMap.1 hu
          simp [cellC] at hu
          rcases hu with rfl | rfl | rfl <;> rfl) (by unfold maxLen; omega) (by omega) (by simp)
    have HO := hid (show ClsOwn w' w.heap.size v' tx l from by unfold ClsOwn; rw [← hln]; simpa using a2)
    have HB := hid (((Below.refl w.heap.size w).alloc (Nat.le_refl _) (.cells #[] 28)).grown a3 (by simp) (by intro k hk; simp [Value.ownBlock] at hk; omega))
    clear hcl a2 a3 hln
    go_enter Tryz.func74, Tryz.ntmps74
    go_wp2_with (at_builtin; refine wpList_append_run rfl _ _ _ rfl _ _ rfl rfl a1 ?_)
    go_ret
    exact ⟨⟨_, rfl, HO.out⟩, HB.out⟩

theorem shs_info : (Tryz.prog.info? 25).map (fun i => (i.zero, i.size, i.bytes)) = some (some (.agg #[.string ⟨#[]⟩, .slice none 0 0]), 2, 40) := by kernel_rfl
set_option maxRecDepth 20000 in
set_option maxHeartbeats 1000000 in
theorem cloneS_one (w : World) (b off bc : Nat) (s0 : ByteArray) (a0 : Option Addr) (n0 c0 : Nat) (h0 : w.cell? ⟨b, off, none⟩ = some (.string s0)) (h1 : w.cell? ⟨b, off + 1, none⟩ = some (.slice a0 n0 c0)) :
    Calls Tryz.prog 70 #[.slice (some ⟨b, off, none⟩) 1 bc] w fun e w' => (∃ ov, e = .returned ov ∧ w'.ownsRow w.heap.size 25 2 ov 1 [.string s0, .slice a0 n0 c0]) ∧ Below w.heap.size w w' := by
  have q22 : ∀ (w : World) (a : Option Addr) (n c : Nat), (binOp .eql 34 (.slice a n c) (.slice none 0 0)).run Tryz.prog w = .ok (.bool a.isNone) w := fun w a n c => Lib.run_eql_slice_nil w _ _ a n c 0 0 Tryz.underlying34
  obtain ⟨i0, hi, hz0, hz1, hz2⟩ := info_parts shs_info
  have bA := (Below.refl w.heap.size w).alloc (Nat.le_refl _) (.cells #[] 25)
  have k : ∀ {p : Addr} {u : Value}, w.cell? p = some u → (w.alloc (.cells #[] 25)).cell? p = some u := fun {p u} hc => (bA.cell (World.block_lt_of_cell? _ _ hc)).trans hc
  obtain ⟨v', w', r1, r2, r3, _, _⟩ := run_append_own_at (P := Tryz.prog) (w.alloc (.cells #[] 25)) w.heap.size 34 34 25 i0 (.agg #[.string ⟨#[]⟩, .slice none 0 0]) 2 40 Tryz.underlying34 hi hz0 hz1 hz2 rfl (by decide) _ 0 [] (World.ownsRow_made w #[] 0 (Nat.le_refl _) (Nat.zero_le _) (by simp))
    ⟨b, off, none⟩ 1 bc [.string s0, .slice a0 n0 c0] rfl (fun m u hu => by
      rw [Addr.add_lit]
      rcases m with _ | _ | m
      · simp at hu; subst hu; exact k h0
      · simp at hu; subst hu; exact k h1
      · simp at hu) (by
        intro u hu
        simp at hu
        rcases hu with rfl | rfl <;> rfl) (by unfold maxLen; omega) (by omega) (by simp)
  have HO := hid (show w'.ownsRow w.heap.size 25 2 v' 1 [.string s0, .slice a0 n0 c0] from by simpa using r2)
  have HB := hid (bA.grown r3 (by simp) (by intro k hk; simp [Value.ownBlock] at hk; omega))
  clear r2 r3 k bA h0 h1
  go_enter Tryz.func70, Tryz.ntmps70
  go_wp2_with (at_builtin; refine wpList_append_run rfl _ _ _ rfl _ _ rfl rfl r1 ?_)
  go_ret
  exact ⟨⟨_, rfl, HO.out⟩, HB.out⟩
theorem cloneN_nil (w : World) : Calls Tryz.prog 71 #[.slice none 0 0] w fun e w' => e = .returned (.slice none 0 0) ∧ w' = w := by
  have q22 : ∀ (w : World) (a : Option Addr) (n c : Nat), (binOp .eql 35 (.slice a n c) (.slice none 0 0)).run Tryz.prog w = .ok (.bool a.isNone) w := fun w a n c => Lib.run_eql_slice_nil w _ _ a n c 0 0 Tryz.underlying35
  go_enter Tryz.func71, Tryz.ntmps71
  go_wp2_with fail
  go_ret
  exact ⟨rfl, rfl⟩
theorem cloneT_nil (w : World) : Calls Tryz.prog 72 #[.slice none 0 0] w fun e w' => e = .returned (.slice none 0 0) ∧ w' = w := by
  have q22 : ∀ (w : World) (a : Option Addr) (n c : Nat), (binOp .eql 36 (.slice a n c) (.slice none 0 0)).run Tryz.prog w = .ok (.bool a.isNone) w := fun w a n c => Lib.run_eql_slice_nil w _ _ a n c 0 0 Tryz.underlying36
  go_enter Tryz.func72, Tryz.ntmps72
  go_wp2_with fail
  go_ret
  exact ⟨rfl, rfl⟩
theorem cloneR_nil (w : World) : Calls Tryz.prog 73 #[.slice none 0 0] w fun e w' => e = .returned (.slice none 0 0) ∧ w' = w := by
  have q22 : ∀ (w : World) (a : Option Addr) (n c : Nat), (binOp .eql 37 (.slice a n c) (.slice none 0 0)).run Tryz.prog w = .ok (.bool a.isNone) w := fun w a n c => Lib.run_eql_slice_nil w _ _ a n c 0 0 Tryz.underlying37
  go_enter Tryz.func73, Tryz.ntmps73
  go_wp2_with fail
  go_ret
  exact ⟨rfl, rfl⟩

/-- what stands while copied goes: its workbook, its answer's place, the new sheets -/
structure Cp (w : World) (gs bc : Nat) (x0 : Value) (S : List Value) (y : World) : Prop where
  b0 : y.heap[w.heap.size]? = some (.cells (bookC1 gs 0 bc) 39 (0, 0))
  b1 : y.heap[w.heap.size + 1]? = some (.cells #[.slice none 0 0, .slice none 0 0, .slice none 0 0, .slice none 0 0] 39 (0, 0))
  sh : y.heap[gs]? = some (.cells (.string nameS :: x0 :: S).toArray 25 (0, 0))
  low : Below w.heap.size w y
  lo : w.heap.size ≤ gs
theorem Cp.keep {w y z : World} {gs bc : Nat} {x0 : Value} {S : List Value} (h : Cp w gs bc x0 S y) (hb : Below y.heap.size y z) : Cp w gs bc x0 S z :=
  ⟨(hb.block _ (heap_lt h.b0)).trans h.b0, (hb.block _ (heap_lt h.b1)).trans h.b1, (hb.block _ (heap_lt h.sh)).trans h.sh, h.low.trans (hb.mono h.low.size), h.lo⟩

/-- a workbook of one sheet of a call's own -/
structure BookOwn1 (w : World) (B : Nat) (v : Value) (A : List PAt) (tx : PAt → ByteArray) : Prop where
  at' : ∃ g bc u0 S, v = .agg (bookC1 g 0 bc) ∧ 1 ≤ bc ∧ B ≤ g ∧ w.heap[g]? = some (.cells (.string nameS :: u0 :: S).toArray 25 (0, 0)) ∧ ClsOwn w B u0 tx (onSheet A 0)
theorem cls_ne_sheet {w : World} {B : Nat} {v : Value} {tx : PAt → ByteArray} {l : List PAt} {g : Nat} {cs : Array Value} (h : ClsOwn w B v tx l) (hg : w.heap[g]? = some (.cells cs 25 (0, 0))) : v.ownBlock ≠ some g := by
  rcases h.2 with ⟨rfl, _⟩ | ⟨g', cap, cur, rfl, _, hg', _⟩
  · intro hc; cases hc
  · intro hc
    cases hc
    exact heap_ne hg' hg (by decide) rfl

theorem sheets_view {w : World} {B : Nat} {v x0 : Value} {s0 : ByteArray} (h : w.ownsRow B 25 2 v 1 [.string s0, x0]) :
    ∃ gs gc S, v = .slice (some ⟨gs, 0, none⟩) 1 gc ∧ 1 ≤ gc ∧ B ≤ gs ∧ w.heap[gs]? = some (.cells (.string s0 :: x0 :: S).toArray 25 (0, 0)) := by
  rcases h.2 with ⟨_, h0⟩ | ⟨g, cap, cur, rfl, hb, hg, h1, h2, h3, h4⟩
  · cases h0
  · refine ⟨g, cap, cur.toList.drop 2, rfl, h1, hb, ?_⟩
    have e : cur = (.string s0 :: x0 :: cur.toList.drop 2 : List Value).toArray := by
      have h5 := List.take_append_drop 2 cur.toList
      rw [h4] at h5
      have h6 := congrArg List.toArray h5
      rw [Array.toArray_toList] at h6
      exact h6.symm
    rw [← e]
    exact hg
/-- .. and ahead of the first copy -/
structure Cq (w : World) (b off bc : Nat) (y : World) : Prop where
  b0 : y.heap[w.heap.size]? = some (.cells (bookC1 b off bc) 39 (0, 0))
  b1 : y.heap[w.heap.size + 1]? = some (.cells #[.slice none 0 0, .slice none 0 0, .slice none 0 0, .slice none 0 0] 39 (0, 0))
  low : Below w.heap.size w y
theorem Cq.keep {w y z : World} {b off bc : Nat} (h : Cq w b off bc y) (hb : Below y.heap.size y z) : Cq w b off bc z :=
  ⟨(hb.block _ (heap_lt h.b0)).trans h.b0, (hb.block _ (heap_lt h.b1)).trans h.b1, h.low.trans (hb.mono h.low.size)⟩
abbrev CpS (B : Nat) (y : World) : Prop := y.cell? ⟨B, 1, none⟩ = some (.slice none 0 0) ∧ y.cell? ⟨B, 2, none⟩ = some (.slice none 0 0) ∧ y.cell? ⟨B, 3, none⟩ = some (.slice none 0 0)
theorem cpS_set {B : Nat} {y : World} (h : CpS B y) : (∀ u, CpS B (y.setCell ⟨B, 0, none⟩ u)) ∧ CpS B (y.setCell ⟨B, 1, none⟩ (.slice none 0 0)) ∧ CpS B (y.setCell ⟨B, 2, none⟩ (.slice none 0 0)) ∧ CpS B (y.setCell ⟨B, 3, none⟩ (.slice none 0 0)) := by
  obtain ⟨h1, h2, h3⟩ := h
  have o : ∀ {i j : Nat} {u v : Value}, i ≠ j → y.cell? ⟨B, j, none⟩ = some v → (y.setCell ⟨B, i, none⟩ u).cell? ⟨B, j, none⟩ = some v := fun hij hc => (World.cell?_setCell_other _ _ _ _ (by intro e; exact hij (congrArg Addr.off e))).trans hc
  refine ⟨fun u => ⟨o (by decide) h1, o (by decide) h2, o (by decide) h3⟩, ⟨World.cell?_setCell_same _ _ _ h1, o (by decide) h2, o (by decide) h3⟩, ⟨o (by decide) h1, World.cell?_setCell_same _ _ _ h2, o (by decide) h3⟩, ⟨o (by decide) h1, o (by decide) h2, World.cell?_setCell_same _ _ _ h3⟩⟩

theorem cp_start {w y : World} {b off bc gs gc : Nat} {x0 : Value} {S : List Value} (h : Cq w b off bc y) (hg : y.heap[gs]? = some (.cells (.string nameS :: x0 :: S).toArray 25 (0, 0))) (hlo : w.heap.size ≤ gs) :
    Cp w gs gc x0 S ((((y.setCell ⟨w.heap.size, 0, none⟩ (.slice (some ⟨gs, 0, none⟩) 1 gc)).setCell ⟨w.heap.size, 1, none⟩ (.slice none 0 0)).setCell ⟨w.heap.size, 2, none⟩ (.slice none 0 0)).setCell ⟨w.heap.size, 3, none⟩ (.slice none 0 0)) := by
  have n0 : gs ≠ w.heap.size := heap_ne hg h.b0 (by decide)
  refine ⟨?_, ?_, ?_, (((h.low.setCell (Nat.le_refl _) _).setCell (Nat.le_refl _) _).setCell (Nat.le_refl _) _).setCell (Nat.le_refl _) _, hlo⟩
  · have := heap_setCell_at (i := 3) (heap_setCell_at (i := 2) (heap_setCell_at (i := 1) (heap_setCell_at (i := 0) h.b0 (.slice (some ⟨gs, 0, none⟩) 1 gc)) (.slice none 0 0)) (.slice none 0 0)) (.slice none 0 0)
    simpa [bookC1] using this
  · exact heap_setCell_far (heap_setCell_far (heap_setCell_far (heap_setCell_far h.b1 (by omega) _) (by omega) _) (by omega) _) (by omega) _
  · exact heap_setCell_far (heap_setCell_far (heap_setCell_far (heap_setCell_far hg n0 _) n0 _) n0 _) n0 _
theorem Cp.store0 {w y : World} {gs gc : Nat} {x0 : Value} {S : List Value} (h : Cp w gs gc x0 S y) (u : Value) : Cp w gs gc u S (y.setCell ⟨gs, 1, none⟩ u) := by
  have n0 : w.heap.size ≠ gs := heap_ne h.b0 h.sh (by decide)
  have n1 : w.heap.size + 1 ≠ gs := heap_ne h.b1 h.sh (by decide)
  exact ⟨heap_setCell_far h.b0 n0 _, heap_setCell_far h.b1 n1 _, by simpa using heap_setCell_at (i := 1) h.sh u, h.low.setCell h.lo _, h.lo⟩
theorem cls_store {w : World} {B gs i : Nat} {v u : Value} {tx : PAt → ByteArray} {l : List PAt} {cs : Array Value} (h : ClsOwn w B v tx l) (hg : w.heap[gs]? = some (.cells cs 25 (0, 0))) : ClsOwn (w.setCell ⟨gs, i, none⟩ u) B v tx l :=
  h.chg (F := [gs]) ((Chg.refl [gs] w).setCell (.inl (by simp)) u) (fun g hg' hm => by simp only [List.mem_singleton] at hm; exact cls_ne_sheet h hg (hm ▸ hg'))

set_option maxRecDepth 20000 in
set_option maxHeartbeats 2000000 in
theorem copied_one (w : World) (v : Value) (A : List PAt) (tx : PAt → ByteArray) (h : Bk1 w v A tx) : Calls Tryz.prog 30 #[v] w fun e w' => (∃ ov, e = .returned ov ∧ BookOwn1 w' w.heap.size ov A tx) ∧ Below w.heap.size w w' := by
  obtain ⟨⟨b, off, bc, v0, hbc, rfl, h2, h3, h6⟩, hr, ht, hf, ho⟩ := h
  obtain ⟨a0, c0, b0, o0, rfl, l0, k0⟩ := h6.view
  have C1 : Cq w b off bc ((w.alloc (.cells (bookC1 b off bc) 39)).alloc (.cells #[.slice none 0 0, .slice none 0 0, .slice none 0 0, .slice none 0 0] 39)) := ⟨heap_alloc_keep (heap_alloc_new w _) _, heap_alloc2_new w _ _, ((Below.refl w.heap.size w).alloc (Nat.le_refl _) _).alloc (by simp) _⟩
  have HS := hid (fun (y : World) (hb : Below w.heap.size w y) => by
    have k : ∀ {p : Addr} {u : Value}, w.cell? p = some u → y.cell? p = some u := fun {p u} hc => (hb.cell (World.block_lt_of_cell? _ _ hc)).trans hc
    exact cloneS_one y b off bc _ _ _ _ (k h2) (k h3))
  have H6 := hid h6
  have HN0 := hid (show (onSheet A 0).length ≤ 1000 from Nat.le_trans (onSheet_le A 0) (by omega))
  obtain ⟨n0, e0⟩ : ∃ n, n = (onSheet A 0).length := ⟨_, rfl⟩
  rw [← e0] at HS
  rw [← e0] at H6
  have HCN := hid (fun w => cloneN_nil w)
  have HCT := hid (fun w => cloneT_nil w)
  have HCR := hid (fun w => cloneR_nil w)
  have HST := hid (fun (B : Nat) (y : World) (h : CpS B y) => cpS_set h)
  clear h2 h3 h6 hr ht hf ho k0 l0 hbc e0
  go_enter Tryz.func30, Tryz.ntmps30
  go_wp2_with fail
  generalize World.alloc (World.alloc _ _) _ = w1 at C1 ⊢
  have HC1 := hid C1
  have q0 : w1.cell? ⟨w.heap.size, 0, none⟩ = some (.slice (some ⟨b, off, none⟩) 1 bc) := cell_of C1.b0 rfl
  have HS0 := hid (show CpS w.heap.size w1.drew from ⟨(cell_of C1.b0 rfl : w1.cell? _ = _), (cell_of C1.b0 rfl : w1.cell? _ = _), (cell_of C1.b0 rfl : w1.cell? _ = _)⟩)
  clear C1
  refine wp_region_held_drew (S := fun y => y.cell? ⟨w.heap.size, 1, none⟩ = some (.slice none 0 0) ∧ y.cell? ⟨w.heap.size, 2, none⟩ = some (.slice none 0 0) ∧ y.cell? ⟨w.heap.size, 3, none⟩ = some (.slice none 0 0)) (by kernel_rfl) HS0.out (fun hS => ?_)
  refine wpAnyH_take (i := 0) (oi := ⟨some 5, Op.fieldAddr 39 (Operand.tmp 1) 0, 0, "book.go:250", #[], none⟩) (v := ?_) rfl (by kernel_rfl) (by kernel_rfl) (by kernel_rfl) (fun _ _ _ h => h) (Or.inl ⟨by rfl, ?_⟩) hS ?_
  rotate_left 1
  · rintro wx ⟨s0, s1, s2⟩
    (go_simp <;> (try with_reducible rfl))
  try simp only [Act.put, List.setIfInBounds_toArray, List.set_cons_zero, List.set_cons_succ]
  refine wpAnyH_take (i := 3) (oi := ⟨some 8, Op.fieldAddr 39 (Operand.tmp 1) 1, 0, "book.go:250", #[], none⟩) (v := ?_) rfl (by kernel_rfl) (by kernel_rfl) (by kernel_rfl) (fun _ _ _ h => h) (Or.inl ⟨by rfl, ?_⟩) hS ?_
  rotate_left 1
  · rintro wx ⟨s0, s1, s2⟩
    (go_simp <;> (try with_reducible rfl))
  try simp only [Act.put, List.setIfInBounds_toArray, List.set_cons_zero, List.set_cons_succ]
  refine wpAnyH_take (i := 6) (oi := ⟨some 11, Op.fieldAddr 39 (Operand.tmp 1) 2, 0, "book.go:250", #[], none⟩) (v := ?_) rfl (by kernel_rfl) (by kernel_rfl) (by kernel_rfl) (fun _ _ _ h => h) (Or.inl ⟨by rfl, ?_⟩) hS ?_
  rotate_left 1
  · rintro wx ⟨s0, s1, s2⟩
    (go_simp <;> (try with_reducible rfl))
  try simp only [Act.put, List.setIfInBounds_toArray, List.set_cons_zero, List.set_cons_succ]
  refine wpAnyH_take (i := 9) (oi := ⟨some 14, Op.fieldAddr 39 (Operand.tmp 1) 3, 0, "book.go:250", #[], none⟩) (v := ?_) rfl (by kernel_rfl) (by kernel_rfl) (by kernel_rfl) (fun _ _ _ h => h) (Or.inl ⟨by rfl, ?_⟩) hS ?_
  rotate_left 1
  · rintro wx ⟨s0, s1, s2⟩
    (go_simp <;> (try with_reducible rfl))
  try simp only [Act.put, List.setIfInBounds_toArray, List.set_cons_zero, List.set_cons_succ]
  refine wpAnyH_take (i := 4) (oi := ⟨some 9, Op.load 35 (Operand.tmp 8), 35, "book.go:250", #[⟨3, .data⟩], none⟩) (v := ?_) rfl (by kernel_rfl) (by kernel_rfl) (by kernel_rfl) (fun _ _ _ h => h) (Or.inl ⟨by rfl, ?_⟩) hS ?_
  rotate_left 1
  · rintro wx ⟨s0, s1, s2⟩
    (go_simp <;> (try with_reducible rfl))
  try simp only [Act.put, List.setIfInBounds_toArray, List.set_cons_zero, List.set_cons_succ]
  refine wpAnyH_take (i := 7) (oi := ⟨some 12, Op.load 36 (Operand.tmp 11), 36, "book.go:250", #[⟨6, .data⟩], none⟩) (v := ?_) rfl (by kernel_rfl) (by kernel_rfl) (by kernel_rfl) (fun _ _ _ h => h) (Or.inl ⟨by rfl, ?_⟩) hS ?_
  rotate_left 1
  · rintro wx ⟨s0, s1, s2⟩
    (go_simp <;> (try with_reducible rfl))
  try simp only [Act.put, List.setIfInBounds_toArray, List.set_cons_zero, List.set_cons_succ]
  refine wpAnyH_take (i := 10) (oi := ⟨some 15, Op.load 37 (Operand.tmp 14), 37, "book.go:250", #[⟨9, .data⟩], none⟩) (v := ?_) rfl (by kernel_rfl) (by kernel_rfl) (by kernel_rfl) (fun _ _ _ h => h) (Or.inl ⟨by rfl, ?_⟩) hS ?_
  rotate_left 1
  · rintro wx ⟨s0, s1, s2⟩
    (go_simp <;> (try with_reducible rfl))
  try simp only [Act.put, List.setIfInBounds_toArray, List.set_cons_zero, List.set_cons_succ]
  refine wpAnyH_ready (rs := [1]) (by kernel_rfl) (by simp) ?_
  refine AllReadyH.cons (o := ⟨some 6, Op.load 34 (Operand.tmp 5), 34, "book.go:250", #[⟨0, .data⟩], none⟩) rfl (fun K hK => ?_) AllReadyH.nil
  go_simp
  refine hK.out _ _ HS0.out (fun hS2 => ?_)
  clear hK K hS
  revert hS2; intro hS
  try simp only [Act.put, List.setIfInBounds_toArray, List.set_cons_zero, List.set_cons_succ]
  refine wpAnyH_ready (rs := [2]) (by kernel_rfl) (by simp) ?_
  refine AllReadyH.cons (o := ⟨some 7, Op.call { callee := Callee.value (Operand.func 70), args := #[Operand.tmp 6], argTypes := #[34] }, 34, "book.go:250", #[⟨1, .data⟩], none⟩) rfl (fun K hK => ?_) AllReadyH.nil
  go_simp; refine (HS.out _ HC1.out.low.drew).mono ?_; rintro e w3 ⟨⟨ov, rfl, ho⟩, b3⟩; obtain ⟨gs, gc, S, rfl, hgc, hgs, hgr⟩ := sheets_view ho; have HGR := hid hgr; have HGS := hid hgs; have HGC := hid hgc; have b3' := (Below.refl w1.heap.size w1).drew.trans b3; have C3 := HC1.out.keep b3'; have HC3 := hid C3; have HS3 := hid (show CpS w.heap.size w3 from ⟨cell_of C3.b0 rfl, cell_of C3.b0 rfl, cell_of C3.b0 rfl⟩); have d0 : w3.cell? ⟨w.heap.size, 0, none⟩ = some (.slice (some ⟨b, off, none⟩) 1 bc) := cell_of C3.b0 rfl; have d1 : w3.cell? ⟨w.heap.size, 1, none⟩ = some (.slice none 0 0) := cell_of C3.b0 rfl; have d2 : w3.cell? ⟨w.heap.size, 2, none⟩ = some (.slice none 0 0) := cell_of C3.b0 rfl; have d3 : w3.cell? ⟨w.heap.size, 3, none⟩ = some (.slice none 0 0) := cell_of C3.b0 rfl; have f0 := free_of (i := 0) C3.b0; have f1 := free_of (i := 1) C3.b0; have f2 := free_of (i := 2) C3.b0; have f3 := free_of (i := 3) C3.b0; have HB3 := hid b3; clear b3 b3' C3 ho q0 hgr hgs hgc
  refine hK.out _ _ HS3.out (fun hS2 => ?_)
  clear hK K hS
  revert hS2; intro hS
  try simp only [Act.put, List.setIfInBounds_toArray, List.set_cons_zero, List.set_cons_succ]
  refine wpAnyH_take (i := 12) (oi := ⟨some 17, Op.fieldAddr 39 (Operand.tmp 1) 0, 0, "book.go:250", #[⟨0, .phase⟩, ⟨1, .phase⟩, ⟨2, .phase⟩, ⟨3, .phase⟩, ⟨4, .phase⟩, ⟨5, .textOnly .lateStoresUnsure⟩, ⟨6, .phase⟩, ⟨7, .phase⟩, ⟨8, .textOnly .lateStoresUnsure⟩, ⟨9, .phase⟩, ⟨10, .phase⟩, ⟨11, .textOnly .lateStoresUnsure⟩], none⟩) (v := ?_) rfl (by kernel_rfl) (by kernel_rfl) (by kernel_rfl) (fun _ _ _ h => h) (Or.inl ⟨by rfl, ?_⟩) hS ?_
  rotate_left 1
  · rintro wx ⟨s0, s1, s2⟩
    (go_simp <;> (try with_reducible rfl))
  try simp only [Act.put, List.setIfInBounds_toArray, List.set_cons_zero, List.set_cons_succ]
  refine wpAnyH_ready (rs := [5]) (by kernel_rfl) (by simp) ?_
  refine AllReadyH.cons (o := ⟨some 10, Op.call { callee := Callee.value (Operand.func 71), args := #[Operand.tmp 9], argTypes := #[35] }, 35, "book.go:250", #[⟨4, .data⟩, ⟨2, .chain⟩], none⟩) rfl (fun K hK => ?_) AllReadyH.nil
  go_simp; refine (HCN.out _).mono ?_; rintro e w4 ⟨rfl, rfl⟩
  refine hK.out _ _ HS3.out (fun hS2 => ?_)
  clear hK K hS
  revert hS2; intro hS
  try simp only [Act.put, List.setIfInBounds_toArray, List.set_cons_zero, List.set_cons_succ]
  refine wpAnyH_ready (rs := [8]) (by kernel_rfl) (by simp) ?_
  refine AllReadyH.cons (o := ⟨some 13, Op.call { callee := Callee.value (Operand.func 72), args := #[Operand.tmp 12], argTypes := #[36] }, 36, "book.go:250", #[⟨7, .data⟩, ⟨5, .chain⟩], none⟩) rfl (fun K hK => ?_) AllReadyH.nil
  go_simp; refine (HCT.out _).mono ?_; rintro e w4 ⟨rfl, rfl⟩
  refine hK.out _ _ HS3.out (fun hS2 => ?_)
  clear hK K hS
  revert hS2; intro hS
  try simp only [Act.put, List.setIfInBounds_toArray, List.set_cons_zero, List.set_cons_succ]
  refine wpAnyH_ready (rs := [11]) (by kernel_rfl) (by simp) ?_
  refine AllReadyH.cons (o := ⟨some 16, Op.call { callee := Callee.value (Operand.func 73), args := #[Operand.tmp 15], argTypes := #[37] }, 37, "book.go:250", #[⟨10, .data⟩, ⟨8, .chain⟩], none⟩) rfl (fun K hK => ?_) AllReadyH.nil
  go_simp; refine (HCR.out _).mono ?_; rintro e w4 ⟨rfl, rfl⟩
  refine hK.out _ _ HS3.out (fun hS2 => ?_)
  clear hK K hS
  revert hS2; intro hS
  try simp only [Act.put, List.setIfInBounds_toArray, List.set_cons_zero, List.set_cons_succ]
  refine wpAnyH_ready (rs := [13]) (by kernel_rfl) (by simp) ?_
  refine AllReadyH.cons (o := ⟨none, Op.store 34 (Operand.tmp 17) (Operand.tmp 7), 0, "book.go:250", #[⟨12, .data⟩, ⟨2, .data⟩, ⟨11, .chain⟩, ⟨0, .phase⟩, ⟨1, .phase⟩, ⟨2, .phase⟩, ⟨3, .phase⟩, ⟨4, .phase⟩, ⟨5, .textOnly .lateStoresUnsure⟩, ⟨6, .phase⟩, ⟨7, .phase⟩, ⟨8, .textOnly .lateStoresUnsure⟩, ⟨9, .phase⟩, ⟨10, .phase⟩, ⟨11, .textOnly .lateStoresUnsure⟩], none⟩) rfl (fun K hK => ?_) AllReadyH.nil
  go_simp
  refine hK.out _ _ ((HST.out _ _ hS).1 _) (fun hS2 => ?_)
  clear hK K hS
  revert hS2; intro hS
  try simp only [Act.put, List.setIfInBounds_toArray, List.set_cons_zero, List.set_cons_succ]
  refine wpAnyH_take (i := 14) (oi := ⟨some 18, Op.fieldAddr 39 (Operand.tmp 1) 1, 0, "book.go:250", #[⟨0, .phase⟩, ⟨1, .phase⟩, ⟨2, .phase⟩, ⟨3, .phase⟩, ⟨4, .phase⟩, ⟨5, .phase⟩, ⟨6, .phase⟩, ⟨7, .phase⟩, ⟨8, .textOnly .lateStoresUnsure⟩, ⟨9, .phase⟩, ⟨10, .phase⟩, ⟨11, .textOnly .lateStoresUnsure⟩, ⟨12, .phase⟩, ⟨13, .phase⟩], none⟩) (v := ?_) rfl (by kernel_rfl) (by kernel_rfl) (by kernel_rfl) (fun _ _ _ h => h) (Or.inl ⟨by rfl, ?_⟩) hS ?_
  rotate_left 1
  · rintro wx ⟨s0, s1, s2⟩
    (go_simp <;> (try with_reducible rfl))
  try simp only [Act.put, List.setIfInBounds_toArray, List.set_cons_zero, List.set_cons_succ]
  refine wpAnyH_ready (rs := [15]) (by kernel_rfl) (by simp) ?_
  refine AllReadyH.cons (o := ⟨none, Op.store 35 (Operand.tmp 18) (Operand.tmp 10), 0, "book.go:250", #[⟨14, .data⟩, ⟨5, .data⟩, ⟨13, .chain⟩, ⟨0, .phase⟩, ⟨1, .phase⟩, ⟨2, .phase⟩, ⟨3, .phase⟩, ⟨4, .phase⟩, ⟨5, .phase⟩, ⟨6, .phase⟩, ⟨7, .phase⟩, ⟨8, .textOnly .lateStoresUnsure⟩, ⟨9, .phase⟩, ⟨10, .phase⟩, ⟨11, .textOnly .lateStoresUnsure⟩, ⟨12, .phase⟩, ⟨13, .phase⟩], none⟩) rfl (fun K hK => ?_) AllReadyH.nil
  go_simp
  refine hK.out _ _ (HST.out _ _ hS).2.1 (fun hS2 => ?_)
  clear hK K hS
  revert hS2; intro hS
  try simp only [Act.put, List.setIfInBounds_toArray, List.set_cons_zero, List.set_cons_succ]
  refine wpAnyH_take (i := 16) (oi := ⟨some 19, Op.fieldAddr 39 (Operand.tmp 1) 2, 0, "book.go:250", #[⟨0, .phase⟩, ⟨1, .phase⟩, ⟨2, .phase⟩, ⟨3, .phase⟩, ⟨4, .phase⟩, ⟨5, .phase⟩, ⟨6, .phase⟩, ⟨7, .phase⟩, ⟨8, .phase⟩, ⟨9, .phase⟩, ⟨10, .phase⟩, ⟨11, .textOnly .lateStoresUnsure⟩, ⟨12, .phase⟩, ⟨13, .phase⟩, ⟨14, .phase⟩, ⟨15, .phase⟩], none⟩) (v := ?_) rfl (by kernel_rfl) (by kernel_rfl) (by kernel_rfl) (fun _ _ _ h => h) (Or.inl ⟨by rfl, ?_⟩) hS ?_
  rotate_left 1
  · rintro wx ⟨s0, s1, s2⟩
    (go_simp <;> (try with_reducible rfl))
  try simp only [Act.put, List.setIfInBounds_toArray, List.set_cons_zero, List.set_cons_succ]
  refine wpAnyH_ready (rs := [17]) (by kernel_rfl) (by simp) ?_
  refine AllReadyH.cons (o := ⟨none, Op.store 36 (Operand.tmp 19) (Operand.tmp 13), 0, "book.go:250", #[⟨16, .data⟩, ⟨8, .data⟩, ⟨15, .chain⟩, ⟨0, .phase⟩, ⟨1, .phase⟩, ⟨2, .phase⟩, ⟨3, .phase⟩, ⟨4, .phase⟩, ⟨5, .phase⟩, ⟨6, .phase⟩, ⟨7, .phase⟩, ⟨8, .phase⟩, ⟨9, .phase⟩, ⟨10, .phase⟩, ⟨11, .textOnly .lateStoresUnsure⟩, ⟨12, .phase⟩, ⟨13, .phase⟩, ⟨14, .phase⟩, ⟨15, .phase⟩], none⟩) rfl (fun K hK => ?_) AllReadyH.nil
  go_simp
  refine hK.out _ _ (HST.out _ _ hS).2.2.1 (fun hS2 => ?_)
  clear hK K hS
  revert hS2; intro hS
  try simp only [Act.put, List.setIfInBounds_toArray, List.set_cons_zero, List.set_cons_succ]
  refine wpAnyH_take (i := 18) (oi := ⟨some 20, Op.fieldAddr 39 (Operand.tmp 1) 3, 0, "book.go:250", #[⟨0, .phase⟩, ⟨1, .phase⟩, ⟨2, .phase⟩, ⟨3, .phase⟩, ⟨4, .phase⟩, ⟨5, .phase⟩, ⟨6, .phase⟩, ⟨7, .phase⟩, ⟨8, .phase⟩, ⟨9, .phase⟩, ⟨10, .phase⟩, ⟨11, .phase⟩, ⟨12, .phase⟩, ⟨13, .phase⟩, ⟨14, .phase⟩, ⟨15, .phase⟩, ⟨16, .phase⟩, ⟨17, .phase⟩], none⟩) (v := ?_) rfl (by kernel_rfl) (by kernel_rfl) (by kernel_rfl) (fun _ _ _ h => h) (Or.inl ⟨by rfl, ?_⟩) hS ?_
  rotate_left 1
  · rintro wx ⟨s0, s1, s2⟩
    (go_simp <;> (try with_reducible rfl))
  try simp only [Act.put, List.setIfInBounds_toArray, List.set_cons_zero, List.set_cons_succ]
  refine wpAnyH_ready (rs := [19]) (by kernel_rfl) (by simp) ?_
  refine AllReadyH.cons (o := ⟨none, Op.store 37 (Operand.tmp 20) (Operand.tmp 16), 0, "book.go:250", #[⟨18, .data⟩, ⟨11, .data⟩, ⟨17, .chain⟩, ⟨0, .phase⟩, ⟨1, .phase⟩, ⟨2, .phase⟩, ⟨3, .phase⟩, ⟨4, .phase⟩, ⟨5, .phase⟩, ⟨6, .phase⟩, ⟨7, .phase⟩, ⟨8, .phase⟩, ⟨9, .phase⟩, ⟨10, .phase⟩, ⟨11, .phase⟩, ⟨12, .phase⟩, ⟨13, .phase⟩, ⟨14, .phase⟩, ⟨15, .phase⟩, ⟨16, .phase⟩, ⟨17, .phase⟩], none⟩) rfl (fun K hK => ?_) AllReadyH.nil
  go_simp
  refine hK.out _ _ (HST.out _ _ hS).2.2.2 (fun hS2 => ?_)
  clear hK K hS
  revert hS2; intro hS
  try simp only [Act.put, List.setIfInBounds_toArray, List.set_cons_zero, List.set_cons_succ]
  refine wpAnyH_done (by kernel_rfl) ?_ _
  have C5 := cp_start (gc := gc) HC3.out HGR.out (Nat.le_trans HC1.out.low.size HGS.out)
  clear hS d0 d1 d2 d3 f0 f1 f2 f3
  generalize World.setCell (World.setCell (World.setCell (World.setCell _ _ _) _ _) _ _) _ _ = w5 at C5 ⊢
  have HC5 := hid C5
  have q0 : w5.cell? ⟨w.heap.size, 0, none⟩ = some (.slice (some ⟨gs, 0, none⟩) 1 gc) := cell_of C5.b0 rfl
  clear C5 HS HCN HCT HCR HST HC1 HS0 HC3 HS3 HGR HB3
  go_wp2_with fail
  refine wp_loop_rounds 2 ?_
  rw [rounds_succ]
  go_wp2_with fail
  have HSa0 := hid (show w5.drew.cell? ⟨w.heap.size, 0, none⟩ = some (.slice (some ⟨gs, 0, none⟩) 1 gc) from q0)
  have m0 : w5.cell? ⟨gs, 1, none⟩ = some (.slice a0 n0 c0) := cell_of HC5.out.sh rfl
  refine wp_region_held_drew (S := fun y => y.cell? ⟨w.heap.size, 0, none⟩ = some (.slice (some ⟨gs, 0, none⟩) 1 gc)) (by kernel_rfl) HSa0.out (fun hS => ?_)
  refine wpAnyH_take (i := 0) (oi := ⟨some 27, Op.fieldAddr 39 (Operand.tmp 1) 0, 0, "book.go:252", #[], none⟩) (v := ?_) rfl (by kernel_rfl) (by kernel_rfl) (by kernel_rfl) (fun _ _ _ h => h) (Or.inl ⟨by rfl, ?_⟩) hS ?_
  rotate_left 1
  · rintro wx s0
    (go_simp <;> (try with_reducible rfl))
  try simp only [Act.put, List.setIfInBounds_toArray, List.set_cons_zero, List.set_cons_succ]
  refine wpAnyH_take (i := 1) (oi := ⟨some 28, Op.load 34 (Operand.tmp 27), 34, "book.go:252", #[⟨0, .data⟩], none⟩) (v := ?_) rfl (by kernel_rfl) (by kernel_rfl) (by kernel_rfl) (fun _ _ _ h => h) (Or.inl ⟨by rfl, ?_⟩) hS ?_
  rotate_left 1
  · rintro wx s0
    (go_simp <;> (try with_reducible rfl))
  try simp only [Act.put, List.setIfInBounds_toArray, List.set_cons_zero, List.set_cons_succ]
  refine wpAnyH_take (i := 2) (oi := ⟨some 29, Op.move (Operand.tmp 3), 3, "book.go:252", #[], none⟩) (v := ?_) rfl (by kernel_rfl) (by kernel_rfl) (by kernel_rfl) (fun _ _ _ h => h) (Or.inl ⟨by rfl, ?_⟩) hS ?_
  rotate_left 1
  · rintro wx s0
    (go_simp <;> (try with_reducible rfl))
  try simp only [Act.put, List.setIfInBounds_toArray, List.set_cons_zero, List.set_cons_succ]
  refine wpAnyH_take (i := 3) (oi := ⟨some 30, Op.fieldAddr 39 (Operand.tmp 1) 0, 0, "book.go:252", #[], none⟩) (v := ?_) rfl (by kernel_rfl) (by kernel_rfl) (by kernel_rfl) (fun _ _ _ h => h) (Or.inl ⟨by rfl, ?_⟩) hS ?_
  rotate_left 1
  · rintro wx s0
    (go_simp <;> (try with_reducible rfl))
  try simp only [Act.put, List.setIfInBounds_toArray, List.set_cons_zero, List.set_cons_succ]
  refine wpAnyH_take (i := 4) (oi := ⟨some 31, Op.load 34 (Operand.tmp 30), 34, "book.go:252", #[⟨3, .data⟩], none⟩) (v := ?_) rfl (by kernel_rfl) (by kernel_rfl) (by kernel_rfl) (fun _ _ _ h => h) (Or.inl ⟨by rfl, ?_⟩) hS ?_
  rotate_left 1
  · rintro wx s0
    (go_simp <;> (try with_reducible rfl))
  try simp only [Act.put, List.setIfInBounds_toArray, List.set_cons_zero, List.set_cons_succ]
  refine wpAnyH_take (i := 5) (oi := ⟨some 32, Op.move (Operand.tmp 3), 3, "book.go:252", #[], none⟩) (v := ?_) rfl (by kernel_rfl) (by kernel_rfl) (by kernel_rfl) (fun _ _ _ h => h) (Or.inl ⟨by rfl, ?_⟩) hS ?_
  rotate_left 1
  · rintro wx s0
    (go_simp <;> (try with_reducible rfl))
  try simp only [Act.put, List.setIfInBounds_toArray, List.set_cons_zero, List.set_cons_succ]
  refine wpAnyH_take (i := 6) (oi := ⟨some 33, Op.indexAddr 34 (Operand.tmp 31) (Operand.tmp 32), 0, "book.go:252", #[⟨4, .data⟩, ⟨5, .data⟩], none⟩) (v := ?_) rfl (by kernel_rfl) (by kernel_rfl) (by kernel_rfl) (fun _ _ _ h => h) (Or.inl ⟨by rfl, ?_⟩) hS ?_
  rotate_left 1
  · rintro wx s0
    (go_simp <;> (try with_reducible rfl))
  try simp only [Act.put, List.setIfInBounds_toArray, List.set_cons_zero, List.set_cons_succ]
  refine wpAnyH_take (i := 7) (oi := ⟨some 34, Op.fieldAddr 25 (Operand.tmp 33) 1, 0, "book.go:252", #[⟨6, .data⟩], none⟩) (v := ?_) rfl (by kernel_rfl) (by kernel_rfl) (by kernel_rfl) (fun _ _ _ h => h) (Or.inl ⟨by rfl, ?_⟩) hS ?_
  rotate_left 1
  · rintro wx s0
    (go_simp <;> (try with_reducible rfl))
  try simp only [Act.put, List.setIfInBounds_toArray, List.set_cons_zero, List.set_cons_succ]
  refine wpAnyH_ready (rs := [8]) (by kernel_rfl) (by simp) ?_
  refine AllReadyH.cons (o := ⟨some 35, Op.load 23 (Operand.tmp 34), 23, "book.go:252", #[⟨7, .data⟩], none⟩) rfl (fun K hK => ?_) AllReadyH.nil
  go_simp
  refine hK.out _ _ HSa0.out (fun hS2 => ?_)
  clear hK K hS
  revert hS2; intro hS
  try simp only [Act.put, List.setIfInBounds_toArray, List.set_cons_zero, List.set_cons_succ]
  refine wpAnyH_ready (rs := [9]) (by kernel_rfl) (by simp) ?_
  refine AllReadyH.cons (o := ⟨some 36, Op.call { callee := Callee.value (Operand.func 74), args := #[Operand.tmp 35], argTypes := #[23] }, 23, "book.go:252", #[⟨8, .data⟩], none⟩) rfl (fun K hK => ?_) AllReadyH.nil
  go_simp; refine (cloneC_any _ _ tx _ (H6.out.below HC5.out.low.drew) HN0.out).mono ?_; rintro e w6 ⟨⟨u0, rfl, ho⟩, b6⟩; have b6' := (Below.refl w5.heap.size w5).drew.trans b6; have HC6 := hid (HC5.out.keep b6'); have HU := hid (show ClsOwn w6 w.heap.size u0 tx (onSheet A 0) from ho.lower HC5.out.low.size); obtain ⟨ua, um, uc, rfl, hum⟩ := ho.view; have HSb0 := hid (show w6.cell? ⟨w.heap.size, 0, none⟩ = some (.slice (some ⟨gs, 0, none⟩) 1 gc) from cell_of HC6.out.b0 rfl); have t0 : w6.cell? ⟨gs, 1, none⟩ = some (.slice a0 n0 c0) := cell_of HC6.out.sh rfl; have f0 := free_of (i := 1) HC6.out.sh; have HSc0 := hid (show (w6.setCell ⟨gs, 1, none⟩ (.slice ua um uc)).cell? ⟨w.heap.size, 0, none⟩ = some (.slice (some ⟨gs, 0, none⟩) 1 gc) from cell_of (HC6.out.store0 _).b0 rfl); clear b6 b6' ho m0 q0 hum
  refine hK.out _ _ HSb0.out (fun hS2 => ?_)
  clear hK K hS
  revert hS2; intro hS
  try simp only [Act.put, List.setIfInBounds_toArray, List.set_cons_zero, List.set_cons_succ]
  refine wpAnyH_take (i := 10) (oi := ⟨some 37, Op.indexAddr 34 (Operand.tmp 28) (Operand.tmp 29), 0, "book.go:252", #[⟨1, .data⟩, ⟨2, .data⟩, ⟨0, .phase⟩, ⟨1, .phase⟩, ⟨2, .phase⟩, ⟨3, .phase⟩, ⟨4, .phase⟩, ⟨5, .phase⟩, ⟨6, .phase⟩, ⟨7, .phase⟩, ⟨8, .phase⟩, ⟨9, .phase⟩], none⟩) (v := ?_) rfl (by kernel_rfl) (by kernel_rfl) (by kernel_rfl) (fun _ _ _ h => h) (Or.inl ⟨by rfl, ?_⟩) hS ?_
  rotate_left 1
  · rintro wx s0
    (go_simp <;> (try with_reducible rfl))
  try simp only [Act.put, List.setIfInBounds_toArray, List.set_cons_zero, List.set_cons_succ]
  refine wpAnyH_take (i := 11) (oi := ⟨some 38, Op.fieldAddr 25 (Operand.tmp 37) 1, 0, "book.go:252", #[⟨10, .data⟩, ⟨0, .phase⟩, ⟨1, .phase⟩, ⟨2, .phase⟩, ⟨3, .phase⟩, ⟨4, .phase⟩, ⟨5, .phase⟩, ⟨6, .phase⟩, ⟨7, .phase⟩, ⟨8, .phase⟩, ⟨9, .phase⟩], none⟩) (v := ?_) rfl (by kernel_rfl) (by kernel_rfl) (by kernel_rfl) (fun _ _ _ h => h) (Or.inl ⟨by rfl, ?_⟩) hS ?_
  rotate_left 1
  · rintro wx s0
    (go_simp <;> (try with_reducible rfl))
  try simp only [Act.put, List.setIfInBounds_toArray, List.set_cons_zero, List.set_cons_succ]
  refine wpAnyH_ready (rs := [12]) (by kernel_rfl) (by simp) ?_
  refine AllReadyH.cons (o := ⟨none, Op.store 23 (Operand.tmp 38) (Operand.tmp 36), 0, "book.go:252", #[⟨11, .data⟩, ⟨9, .data⟩, ⟨9, .chain⟩, ⟨0, .phase⟩, ⟨1, .phase⟩, ⟨2, .phase⟩, ⟨3, .phase⟩, ⟨4, .phase⟩, ⟨5, .phase⟩, ⟨6, .phase⟩, ⟨7, .phase⟩, ⟨8, .phase⟩, ⟨9, .phase⟩], none⟩) rfl (fun K hK => ?_) AllReadyH.nil
  go_simp
  refine hK.out _ _ HSc0.out (fun hS2 => ?_)
  clear hK K hS
  revert hS2; intro hS
  try simp only [Act.put, List.setIfInBounds_toArray, List.set_cons_zero, List.set_cons_succ]
  refine wpAnyH_done (by kernel_rfl) ?_ _
  have C9 := HC6.out.store0 (.slice ua um uc)
  have HU9 := hid (cls_store (i := 1) (u := .slice ua um uc) HU.out HC6.out.sh)
  clear hS t0 f0 HSa0 HSb0 HSc0 HU
  generalize World.setCell w6 _ _ = w9 at C9 HU9 ⊢
  have HC9 := hid C9
  clear C9 HC6
  go_wp2_with fail
  rw [rounds_succ]
  have b2 : w9.cell? ⟨w.heap.size, 2, none⟩ = some (.slice none 0 0) := cell_of HC9.out.b0 rfl
  go_wp2_with fail
  refine wp_loop_rounds 1 ?_
  rw [rounds_succ]
  have d0 : w9.cell? ⟨w.heap.size, 0, none⟩ = some (.slice (some ⟨gs, 0, none⟩) 1 gc) := cell_of HC9.out.b0 rfl
  have d1 : w9.cell? ⟨w.heap.size, 1, none⟩ = some (.slice none 0 0) := cell_of HC9.out.b0 rfl
  have d3 : w9.cell? ⟨w.heap.size, 3, none⟩ = some (.slice none 0 0) := cell_of HC9.out.b0 rfl
  have r0 : w9.cell? ⟨w.heap.size + 1, 0, none⟩ = some (.slice none 0 0) := cell_of HC9.out.b1 rfl
  have r1 : w9.cell? ⟨w.heap.size + 1, 1, none⟩ = some (.slice none 0 0) := cell_of HC9.out.b1 rfl
  have r2 : w9.cell? ⟨w.heap.size + 1, 2, none⟩ = some (.slice none 0 0) := cell_of HC9.out.b1 rfl
  have r3 : w9.cell? ⟨w.heap.size + 1, 3, none⟩ = some (.slice none 0 0) := cell_of HC9.out.b1 rfl
  have f0 := free_of (i := 0) HC9.out.b1
  have f1 := free_of (i := 1) HC9.out.b1
  have f2 := free_of (i := 2) HC9.out.b1
  have f3 := free_of (i := 3) HC9.out.b1
  go_wp2_with fail
  refine bodyPost_ret (v := .agg (bookC1 gs 0 gc)) (by simp [results, Tryz.results30, go_sem, *]) rfl ?_
  have C9 := HC9.out
  have hc : ∀ (x0 x1 x2 x3 : Value), Chg [w.heap.size + 1] w9 ((((w9.setCell ⟨w.heap.size + 1, 0, none⟩ x0).setCell ⟨w.heap.size + 1, 1, none⟩ x1).setCell ⟨w.heap.size + 1, 2, none⟩ x2).setCell ⟨w.heap.size + 1, 3, none⟩ x3) := fun x0 x1 x2 x3 => ((((Chg.refl _ w9).setCell (.inl (by simp)) _).setCell (.inl (by simp)) _).setCell (.inl (by simp)) _).setCell (.inl (by simp)) _
  have hcc := hc (.slice (some ⟨gs, 0, none⟩) 1 gc) (.slice none 0 0) (.slice none 0 0) (.slice none 0 0)
  have hn : gs ≠ w.heap.size + 1 := heap_ne C9.sh C9.b1 (by decide)
  have hb : ∀ {v : Value} {l : List PAt}, ClsOwn w9 w.heap.size v tx l → ∀ g, v.ownBlock = some g → g ∉ [w.heap.size + 1] := fun {v l} h g hg hm => by
    simp only [List.mem_singleton] at hm
    subst hm
    rcases h.2 with ⟨rfl, _⟩ | ⟨g', cap, cur, rfl, _, hg', _⟩
    · cases hg
    · cases hg
      exact heap_ne hg' C9.b1 (by decide) rfl
  exact ⟨⟨_, rfl, ⟨⟨gs, gc, _, S, rfl, HGC.out, C9.lo, hcc.heap C9.sh (by simpa using hn), HU9.out.chg hcc (hb HU9.out)⟩⟩⟩, C9.low.trans (hcc.below (fun x hx => by simp at hx; omega) C9.low.size)⟩
end Go.Proofs.YtpcjfgihglfdgaaGreatDoor
