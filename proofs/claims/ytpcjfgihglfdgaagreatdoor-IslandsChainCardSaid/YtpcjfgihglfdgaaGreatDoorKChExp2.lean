/- The expander's expand, at any tree of plain kinds. Condition: what the package-level variables hold lies as it was laid. Contracts of names.expanded, names.Expand at a workbook without names. Condition: what the package-level variables hold lies as it was laid. Contract of names.Expand at a workbook of one sheet without names. Condition: what the package-level variables hold lies as it was laid. -/
import Derived.Test.YtpcjfgihglfdgaaGreatDoorKChNodesE
import Derived.Test.YtpcjfgihglfdgaaGreatDoorKSpName
import Derived.Test.YtpcjfgihglfdgaaGreatDoorKChShape

namespace Go.Proofs.YtpcjfgihglfdgaaGreatDoor
open Go.RowKit Go.Lib

set_option maxRecDepth 20000 in
set_option maxHeartbeats 2000000 in
/-- behind the kinds: one node more, and its kids -/
theorem expand_step (o : Ow) (ks : Fo) (hp : Plain o) (H : ∀ j o' k', ks.get j = some (o', k') → ExpOk o' k') : ExpOk o ks := by
  intro xb m w B s lv ao c hx hm hv hB hl
  obtain ⟨h7, h8, h14, h16, h12⟩ := hp
  obtain ⟨n, hn⟩ : ∃ n, n = ks.len := ⟨_, rfl⟩
  have HN := hid hn
  have HM := hid hm
  have XK := hid (fun (m' : Nat) (w' : World) (hx' : Xp xb m' w') (hm' : m' + mF ks ≤ 200) (hv' : KidsV w' B (.slice ao n c) ks) (hl' : LocV w' lv) => show Calls Tryz.prog 222 #[.pointer (some ⟨xb, 0, none⟩), .agg (o.cells (.slice ao n c)).toArray, .agg (viewC s lv).toArray] w' fun e z' =>
      ∃ ao' c', e = .returned (.slice ao' n c') ∧ KidsV z' (w'.heap.size ≤ ·) (.slice ao' n c') ks ∧ Xp xb (m' + mF ks) z' ∧ Chg [xb] w' z' from by
    subst hn
    exact kids_step o ks h14 h16 H hx' hm' hv' hB hl')
  have e7 : (o.k == 7) = false := by simpa using h7
  have e8 : (o.k == 8) = false := by simpa using h8
  rw [← hn] at hv ⊢
  have hxw := hx.lt
  have b0 := (((Below.refl w.heap.size w).alloc (Nat.le_refl _) (.cells (o.cells (.slice ao n c)).toArray 79)).alloc (by simp) (.cells (viewC s lv).toArray 262)).alloc (by simp; omega) (.cells (nodeL 0 0).toArray 79)
  have A0 : NdV w.heap.size (o.cells (.slice ao n c)) (((w.alloc (.cells (o.cells (.slice ao n c)).toArray 79)).alloc (.cells (viewC s lv).toArray 262)).alloc (.cells (nodeL 0 0).toArray 79)) := heap_alloc_keep (heap_alloc_keep (heap_alloc_new w _) _) _
  have A1 : (((w.alloc (.cells (o.cells (.slice ao n c)).toArray 79)).alloc (.cells (viewC s lv).toArray 262)).alloc (.cells (nodeL 0 0).toArray 79)).heap[w.heap.size + 1]? = some (.cells (viewC s lv).toArray 262 (0, 0)) := heap_alloc_keep (heap_alloc2_new w _ _) _
  have A2 : NdV (w.heap.size + 2) (nodeL 0 0) (((w.alloc (.cells (o.cells (.slice ao n c)).toArray 79)).alloc (.cells (viewC s lv).toArray 262)).alloc (.cells (nodeL 0 0).toArray 79)) := by
    have := heap_alloc_new ((w.alloc (.cells (o.cells (.slice ao n c)).toArray 79)).alloc (.cells (viewC s lv).toArray 262)) (.cells (nodeL 0 0).toArray 79)
    have e : ((w.alloc (.cells (o.cells (.slice ao n c)).toArray 79)).alloc (.cells (viewC s lv).toArray 262)).heap.size = w.heap.size + 2 := by simp
    rwa [e] at this
  have HE := hid (show Ke xb m w.heap.size (w.heap.size + 2) (o.cells (.slice ao n c)) (viewC s lv) (nodeL 0 0) w _ from ⟨hx.keep b0, A0, A1, A2, Chg.of_below b0⟩)
  have HV := hid hv
  have HL := hid hl
  have HX := hid hx
  have HB := hid hB
  have a0 := cell_of (i := 0) A0 rfl
  have a1 := cell_of (i := 1) A0 rfl
  obtain ⟨g, hg⟩ : ∃ g, g = w.heap.size := ⟨_, rfl⟩
  have HG := hid (show g = w.heap.size ∧ xb < g from ⟨hg, by omega⟩)
  clear A0 A1 A2 b0 hn hx hm hv hl hB H hxw h7 h8 h14 h16
  by_cases hk : o.k = 12
  · have e12 : (o.k == 12) = true := by simpa using hk
    have XF := hid (fun w (hT : Tabs w) => show Calls Tryz.prog 217 #[.string o.s] w fun e w' => e = .returned (.string (bs [115, 117, 109])) ∧ Below w.heap.size w w' from by rw [h12 hk]; exact nfold_SUM w hT)
    clear h12 hk
    go_enter Tryz.func155, Tryz.ntmps155
    go_wp2_with fail
    generalize World.alloc (World.alloc (World.alloc _ _) _) _ = w0 at HE a0 a1 ⊢
    rw [← hg] at HE a0 a1 ⊢
    clear hg
    have a2 := cell_of (i := 1) HE.out.vw rfl
    refine wp_region_held_drew (S := fun z => z.cell? ⟨g + 1, 1, none⟩ = some lv ∧ z.cell? ⟨g, 1, none⟩ = some (.string o.s)) (by kernel_rfl) ⟨a2, a1⟩ (fun hS => ?_)
    refine wpAnyH_take (i := 0) (oi := ⟨some 23, Op.fieldAddr 262 (Operand.tmp 5) 1, 0, "names.go:165", #[], none⟩) (v := ?_) rfl (by kernel_rfl) (by kernel_rfl) (by kernel_rfl) (fun _ _ _ h => h) (Or.inl ⟨by rfl, ?_⟩) hS ?_
    rotate_left 1
    · rintro wx ⟨s0, s1⟩
      (go_simp <;> (try with_reducible rfl))
    try simp only [Act.put, List.setIfInBounds_toArray, List.set_cons_zero, List.set_cons_succ]
    refine wpAnyH_take (i := 1) (oi := ⟨some 24, Op.load 260 (Operand.tmp 23), 260, "names.go:165", #[⟨0, .data⟩], none⟩) (v := ?_) rfl (by kernel_rfl) (by kernel_rfl) (by kernel_rfl) (fun _ _ _ h => h) (Or.inl ⟨by rfl, ?_⟩) hS ?_
    rotate_left 1
    · rintro wx ⟨s0, s1⟩
      (go_simp <;> (try with_reducible rfl))
    try simp only [Act.put, List.setIfInBounds_toArray, List.set_cons_zero, List.set_cons_succ]
    refine wpAnyH_take (i := 2) (oi := ⟨some 25, Op.fieldAddr 79 (Operand.tmp 4) 1, 0, "names.go:165", #[], none⟩) (v := ?_) rfl (by kernel_rfl) (by kernel_rfl) (by kernel_rfl) (fun _ _ _ h => h) (Or.inl ⟨by rfl, ?_⟩) hS ?_
    rotate_left 1
    · rintro wx ⟨s0, s1⟩
      (go_simp <;> (try with_reducible rfl))
    try simp only [Act.put, List.setIfInBounds_toArray, List.set_cons_zero, List.set_cons_succ]
    refine wpAnyH_take (i := 3) (oi := ⟨some 26, Op.load 9 (Operand.tmp 25), 9, "names.go:165", #[⟨2, .data⟩], none⟩) (v := ?_) rfl (by kernel_rfl) (by kernel_rfl) (by kernel_rfl) (fun _ _ _ h => h) (Or.inl ⟨by rfl, ?_⟩) hS ?_
    rotate_left 1
    · rintro wx ⟨s0, s1⟩
      (go_simp <;> (try with_reducible rfl))
    try simp only [Act.put, List.setIfInBounds_toArray, List.set_cons_zero, List.set_cons_succ]
    have HE1 := hid (show Ke xb m g (g + 2) (o.cells (.slice ao n c)) (viewC s lv) (nodeL 0 0) w w0.drew from HE.out.keep (Below.refl _ _).drew)
    generalize World.drew w0 = w1 at HE1 ⊢
    refine wpAnyH_ready (rs := [4]) (by kernel_rfl) (by simp) ?_
    refine AllReadyH.cons (o := ⟨some 27, Op.call { callee := Callee.value (Operand.func 217), args := #[Operand.tmp 26], argTypes := #[9] }, 9, "names.go:165", #[⟨3, .data⟩], none⟩) rfl (fun K hK => ?_) AllReadyH.nil
    go_simp; refine (XF.out _ HE1.out.xp.en.tabs).mono ?_; rintro e w2 ⟨rfl, b2⟩; have HE2 := hid (HE1.out.keep b2); have hlk := look_none (HL.out.chg HE2.out.chg (fun x hx => by simp only [List.mem_singleton] at hx; obtain ⟨⟨_, _, _, _, h⟩, _⟩ := HX.out; exact ⟨_, _, _, hx ▸ h⟩)) (bs [115, 117, 109]) (by decide); clear b2
    refine hK.out _ _ ⟨cell_of (i := 1) HE2.out.vw rfl, cell_of (i := 1) HE2.out.nd rfl⟩ (fun hS2 => ?_)
    clear hK K hS
    revert hS2; intro hS
    try simp only [Act.put, List.setIfInBounds_toArray, List.set_cons_zero, List.set_cons_succ]
    refine wpAnyH_ready (rs := [5]) (by kernel_rfl) (by simp) ?_
    refine AllReadyH.cons (o := ⟨some 28, Op.lookup 260 (Operand.tmp 24) (Operand.tmp 27) Bool.false, 4, "names.go:165", #[⟨1, .data⟩, ⟨4, .data⟩], none⟩) rfl (fun K hK => ?_) AllReadyH.nil
    go_simp
    refine hK.out _ _ ⟨cell_of (i := 1) HE2.out.vw rfl, cell_of (i := 1) HE2.out.nd rfl⟩ (fun hS2 => ?_)
    clear hK K hS
    revert hS2; intro hS
    try simp only [Act.put, List.setIfInBounds_toArray, List.set_cons_zero, List.set_cons_succ]
    refine wpAnyH_done (by kernel_rfl) ?_ _
    have a3 := cell_of (i := 1) HE2.out.nd rfl
    have a4 := cell_of (i := 0) HE2.out.vw rfl
    clear a0 a1 a2
    go_wp2_with fail
    refine (name_none HE2.out.xp _ _).mono ?_
    rintro e w3 ⟨rfl, b3⟩
    have HKa := hid (HE2.out.keep b3)
    have a5 := cell_of (i := 0) HKa.out.nd rfl
    clear b3 a3 a4
    go_wp2_with (refine wpList_load_row rfl 79 _ rfl g rfl 79 _ (0, 0) _ HKa.out.nd Tryz.underlying79 rfl (ow_info o (.slice ao n c)) ?_)
    refine (node_any HKa.out.xp (by have := HM.out; omega) o ao n c).mono ?_
    rintro e w2 ⟨rfl, hx2, hc2⟩
    have HK2 := hid (HKa.out.call (by have := HG.out; omega) hx2 hc2)
    have cg := (Chg.refl [g] w2).setRow (g := g) (.inl (by simp)) (o.cells (.slice ao n c)).toArray
    have HK3 := hid (show Ke xb (m + 1) g (g + 2) (o.cells (.slice ao n c)) (viewC s lv) (nodeL 0 0) w (w2.setRow g (o.cells (.slice ao n c)).toArray) from
    ⟨HK2.out.xp.chg cg (by simp only [List.mem_singleton, forall_eq]; exact HG.out.2), heap_setRow_at HK2.out.nd, cg.heap HK2.out.vw (by simp), cg.heap HK2.out.kd (by simp), HK2.out.chg.trans cg (by simp only [List.mem_singleton, forall_eq]; right; rw [HG.out.1]; omega)⟩)
    clear hx2 hc2 cg
    go_wp2_with (first | (refine wpList_store_row rfl 79 _ _ rfl g (o.cells (.slice ao n c)).toArray rfl rfl 79 _ HK2.out.nd (ow_info o (.slice ao n c)) (by rfl) (ow_one o ao n c) ?_) | (refine wpList_load_row rfl 79 _ rfl g rfl 79 _ (0, 0) _ HK3.out.nd Tryz.underlying79 rfl (ow_info o (.slice ao n c)) ?_) | (refine wpList_load_row rfl 262 _ rfl (g + 1) rfl 262 _ (0, 0) _ HK3.out.vw Tryz.underlying262 rfl (view_info s lv) ?_))
    have hcx := HK3.out.chg
    refine (XK.out (m + 1) _ HK3.out.xp (by have := HM.out; omega) (HV.out.chg hcx (fun x hx hb => HB.out (by simp only [List.mem_singleton] at hx; exact hx ▸ hb))) (HL.out.chg hcx (fun x hx => by simp only [List.mem_singleton] at hx; obtain ⟨⟨_, _, _, _, h⟩, _⟩ := HX.out; exact ⟨_, _, _, hx ▸ h⟩))).mono ?_
    rintro e w4 ⟨ao', c', rfl, hk4, hx4, hc4⟩
    have hsz := heap_lt HK3.out.kd
    have HK4 := hid (HK3.out.call (by have := HG.out; omega) hx4 hc4)
    have a19 := cell_of (i := 19) HK4.out.nd rfl
    have f19 := free_of (i := 19) HK4.out.nd
    have N5 := hid (show NdV g (o.cells (.slice ao' n c')) (w4.setCell ⟨g, 19, none⟩ (.slice ao' n c')) from heap_setCell_at (i := 19) HK4.out.nd _)
    have N6 := hid (show NdV (g + 2) (nodeL 0 0) (w4.setCell ⟨g, 19, none⟩ (.slice ao' n c')) from heap_setCell_far HK4.out.kd (by omega) _)
    have cg := (((Chg.refl [g, g + 2] w4).setCell (p := ⟨g, 19, none⟩) (.inl (by simp)) (.slice ao' n c')).setRow (g := g + 2) (.inl (by simp)) (o.cells (.slice ao' n c')).toArray)
    have HF := hid (show KidsV ((w4.setCell ⟨g, 19, none⟩ (.slice ao' n c')).setRow (g + 2) (o.cells (.slice ao' n c')).toArray) (w.heap.size ≤ ·) (.slice ao' n c') ks ∧ Xp xb (m + mF ks + 1) ((w4.setCell ⟨g, 19, none⟩ (.slice ao' n c')).setRow (g + 2) (o.cells (.slice ao' n c')).toArray) ∧ Chg [xb] w ((w4.setCell ⟨g, 19, none⟩ (.slice ao' n c')).setRow (g + 2) (o.cells (.slice ao' n c')).toArray) from by
    refine ⟨(hk4.chg cg (fun x hx => by simp only [List.mem_cons, List.not_mem_nil, or_false] at hx; omega)).mono (fun x hx => Nat.le_trans HK3.out.chg.size hx), ?_, HK4.out.chg.trans cg (fun x hx => by simp only [List.mem_cons, List.not_mem_nil, or_false] at hx; right; have := HG.out.1; omega)⟩
    have := HK4.out.xp.chg cg (fun x hx => by simp only [List.mem_cons, List.not_mem_nil, or_false] at hx; have := HG.out.2; omega)
    have e : m + mF ks + 1 = m + 1 + mF ks := by omega
    rw [e]
    exact this)
    clear hk4 hx4 hc4 hcx cg hsz
    go_wp2_with (first | (refine wpList_load_row rfl 79 _ rfl g rfl 79 _ (0, 0) _ N5.out Tryz.underlying79 rfl (ow_info o (.slice ao' n c')) ?_) | (refine wpList_store_row rfl 79 _ _ rfl (g + 2) (o.cells (.slice ao' n c')).toArray rfl rfl 79 _ N6.out (node_info 0 0) (by rfl) (ow_one o ao' n c') ?_))
    refine bodyPost_ret (v := .agg (o.cells (.slice ao' n c')).toArray) (results_cell_row rfl _ _ (g + 2) 79 (o.cells (.slice ao' n c')).toArray (0, 0) _ rfl (heap_setRow_at N6.out) Tryz.underlying79 rfl (ow_info o (.slice ao' n c'))) rfl ?_
    exact ⟨ao', c', rfl, HF.out⟩
  · have e12 : (o.k == 12) = false := by simpa using hk
    have HKa := HE
    clear h12 hk
    go_enter Tryz.func155, Tryz.ntmps155
    go_wp2_with (refine wpList_load_row rfl 79 _ rfl w.heap.size rfl 79 _ (0, 0) _ HKa.out.nd Tryz.underlying79 rfl (ow_info o (.slice ao n c)) ?_)
    generalize World.alloc (World.alloc (World.alloc _ _) _) _ = w0 at HE HKa a0 a1 ⊢
    rw [← hg] at HKa ⊢
    clear hg HE a0 a1
    refine (node_any HKa.out.xp (by have := HM.out; omega) o ao n c).mono ?_
    rintro e w2 ⟨rfl, hx2, hc2⟩
    have HK2 := hid (HKa.out.call (by have := HG.out; omega) hx2 hc2)
    have cg := (Chg.refl [g] w2).setRow (g := g) (.inl (by simp)) (o.cells (.slice ao n c)).toArray
    have HK3 := hid (show Ke xb (m + 1) g (g + 2) (o.cells (.slice ao n c)) (viewC s lv) (nodeL 0 0) w (w2.setRow g (o.cells (.slice ao n c)).toArray) from
      ⟨HK2.out.xp.chg cg (by simp only [List.mem_singleton, forall_eq]; exact HG.out.2), heap_setRow_at HK2.out.nd, cg.heap HK2.out.vw (by simp), cg.heap HK2.out.kd (by simp), HK2.out.chg.trans cg (by simp only [List.mem_singleton, forall_eq]; right; rw [HG.out.1]; omega)⟩)
    clear hx2 hc2 cg
    go_wp2_with (first | (refine wpList_store_row rfl 79 _ _ rfl g (o.cells (.slice ao n c)).toArray rfl rfl 79 _ HK2.out.nd (ow_info o (.slice ao n c)) (by rfl) (ow_one o ao n c) ?_) | (refine wpList_load_row rfl 79 _ rfl g rfl 79 _ (0, 0) _ HK3.out.nd Tryz.underlying79 rfl (ow_info o (.slice ao n c)) ?_) | (refine wpList_load_row rfl 262 _ rfl (g + 1) rfl 262 _ (0, 0) _ HK3.out.vw Tryz.underlying262 rfl (view_info s lv) ?_))
    have hcx := HK3.out.chg
    refine (XK.out (m + 1) _ HK3.out.xp (by have := HM.out; omega) (HV.out.chg hcx (fun x hx hb => HB.out (by simp only [List.mem_singleton] at hx; exact hx ▸ hb))) (HL.out.chg hcx (fun x hx => by simp only [List.mem_singleton] at hx; obtain ⟨⟨_, _, _, _, h⟩, _⟩ := HX.out; exact ⟨_, _, _, hx ▸ h⟩))).mono ?_
    rintro e w4 ⟨ao', c', rfl, hk4, hx4, hc4⟩
    have hsz := heap_lt HK3.out.kd
    have HK4 := hid (HK3.out.call (by have := HG.out; omega) hx4 hc4)
    have a19 := cell_of (i := 19) HK4.out.nd rfl
    have f19 := free_of (i := 19) HK4.out.nd
    have N5 := hid (show NdV g (o.cells (.slice ao' n c')) (w4.setCell ⟨g, 19, none⟩ (.slice ao' n c')) from heap_setCell_at (i := 19) HK4.out.nd _)
    have N6 := hid (show NdV (g + 2) (nodeL 0 0) (w4.setCell ⟨g, 19, none⟩ (.slice ao' n c')) from heap_setCell_far HK4.out.kd (by omega) _)
    have cg := (((Chg.refl [g, g + 2] w4).setCell (p := ⟨g, 19, none⟩) (.inl (by simp)) (.slice ao' n c')).setRow (g := g + 2) (.inl (by simp)) (o.cells (.slice ao' n c')).toArray)
    have HF := hid (show KidsV ((w4.setCell ⟨g, 19, none⟩ (.slice ao' n c')).setRow (g + 2) (o.cells (.slice ao' n c')).toArray) (w.heap.size ≤ ·) (.slice ao' n c') ks ∧ Xp xb (m + mF ks + 1) ((w4.setCell ⟨g, 19, none⟩ (.slice ao' n c')).setRow (g + 2) (o.cells (.slice ao' n c')).toArray) ∧ Chg [xb] w ((w4.setCell ⟨g, 19, none⟩ (.slice ao' n c')).setRow (g + 2) (o.cells (.slice ao' n c')).toArray) from by
      refine ⟨(hk4.chg cg (fun x hx => by simp only [List.mem_cons, List.not_mem_nil, or_false] at hx; omega)).mono (fun x hx => Nat.le_trans HK3.out.chg.size hx), ?_, HK4.out.chg.trans cg (fun x hx => by simp only [List.mem_cons, List.not_mem_nil, or_false] at hx; right; have := HG.out.1; omega)⟩
      have := HK4.out.xp.chg cg (fun x hx => by simp only [List.mem_cons, List.not_mem_nil, or_false] at hx; have := HG.out.2; omega)
      have e : m + mF ks + 1 = m + 1 + mF ks := by omega
      rw [e]
      exact this)
    clear hk4 hx4 hc4 hcx cg hsz
    go_wp2_with (first | (refine wpList_load_row rfl 79 _ rfl g rfl 79 _ (0, 0) _ N5.out Tryz.underlying79 rfl (ow_info o (.slice ao' n c')) ?_) | (refine wpList_store_row rfl 79 _ _ rfl (g + 2) (o.cells (.slice ao' n c')).toArray rfl rfl 79 _ N6.out (node_info 0 0) (by rfl) (ow_one o ao' n c') ?_))
    refine bodyPost_ret (v := .agg (o.cells (.slice ao' n c')).toArray) (results_cell_row rfl _ _ (g + 2) 79 (o.cells (.slice ao' n c')).toArray (0, 0) _ rfl (heap_setRow_at N6.out) Tryz.underlying79 rfl (ow_info o (.slice ao' n c'))) rfl ?_
    exact ⟨ao', c', rfl, HF.out⟩
theorem expand_all (f : Fo) : PlainF f → ∀ (j : Nat) (o : Ow) (k : Fo), f.get j = some (o, k) → ExpOk o k := by
  induction f with
  | nil => intro _ j o k h; cases h
  | cons o' k' r ihk ihr =>
    rintro ⟨h1, h2, h3⟩ j o k h
    cases j with
    | zero =>
      have e : (o', k') = (o, k) := Option.some.inj h
      obtain ⟨rfl, rfl⟩ := Prod.mk.inj e
      exact expand_step o' k' h1 (ihk h2)
    | succ j => exact ihr h3 j o k h
/-- a whole tree -/
theorem expand_any {o : Ow} {ks : Fo} (h : Plain o) (hk : PlainF ks) : ExpOk o ks := expand_step o ks h (expand_all ks hk)
end Go.Proofs.YtpcjfgihglfdgaaGreatDoor

namespace Go.Proofs.YtpcjfgihglfdgaaGreatDoor
open Go.RowKit Go.Lib

/-- the walk stops ahead of a load of a row -/
structure Stop (p : Prop) : Prop where
  out : p
theorem stop_load {P : Program} {ops : Array Oper} {rest : List Oper} {op : Oper} {a : Act} {w : World} {Q : Exit → Act → World → Prop} (ty : TypeId) (x : Operand) (_ : op.op = .load ty x) (h : Stop (wpList P ops Q (op :: rest) a w)) : wpList P ops Q (op :: rest) a w := h.out
theorem results_two {fn : Func} {p q : Tmp} {t1 t2 : TypeId} (h : fn.results = #[.cell p t1, .cell q t2]) (tmps : Array Value) (w : World) (a1 a2 : Addr) (v1 v2 : Value)
    (hp : tmps.getD p undef = .pointer (some a1)) (hq : tmps.getD q undef = .pointer (some a2))
    (h1 : (loadVar t1 a1).run Tryz.prog w = .ok v1 w) (h2 : (loadVar t2 a2).run Tryz.prog w = .ok v2 w) : (results fn tmps).run Tryz.prog w = .ok (.tuple #[v1, v2]) w := by
  have hp' : tmps[p]?.getD undef = .pointer (some a1) := by simpa using hp
  have hq' : tmps[q]?.getD undef = .pointer (some a2) := by simpa using hq
  simp [results, h, hp', hq', asAddr, h1, h2, Result.andThen]
set_option maxRecDepth 20000 in
set_option maxHeartbeats 1000000 in
theorem xpd1_idle (a b : Value) (w : World) : CallsD Tryz.prog 154 #[a, b] .returning w fun e u' w' => e = .returned (.tuple #[]) ∧ u' = .returning ∧ Below w.heap.size w w' := by
  have hta : ∀ w, (Instr.typeAssert .nilIface 20 253 true).run Tryz.prog w = .ok (.tuple #[.agg #[], .bool false]) w := fun w => by kernel_rfl
  have b0 := (Below.refl w.heap.size w).alloc (Nat.le_refl _) (.cells #[] 253)
  refine callsD_of_wpS Tryz.func154 rfl fun c₀ cs hu => ?_
  apply wpS_seq
  apply wpS_region
  simp [wpOpsS, go_sem, recoverD, hu, hta, Tryz.ntmps154, Exit.thenS]
  apply wpS_seq
  apply wpS_region
  simp [wpOpsS, go_sem, Exit.thenS]
  refine wpS_cond (t := false) (by simp [Act.eval, Array.replicate]) ?_
  simp only [Bool.false_eq_true, if_false]
  refine wpS_of_wp (wp_skip ?_)
  cases c₀
  simp_all [bodyPostS, results, Tryz.results154]
set_option maxRecDepth 20000 in
set_option maxHeartbeats 2000000 in
theorem expanded_any {o : Ow} {ks : Fo} (hp : Plain o) (hk : PlainF ks) (hm : mF ks + 1 ≤ 200) (hR : RightOk o ks) (w : World) (hE : Env w) {B : Nat → Prop} {sv tv rv : Value} {ao : Option Addr} {c : Nat} (j : Int) (hv : KidsV w B (.slice ao ks.len c) ks) (hs : ∃ a n m, sv = .slice a n m) (ht : ∃ a n m, tv = .slice a n m) (hr : ∃ a n m, rv = .slice a n m) :
    Calls Tryz.prog 97 #[.agg #[sv, .slice none 0 0, tv, rv], .int .i64 j, .agg (o.cells (.slice ao ks.len c)).toArray] w fun e w' =>
      ∃ ao' c', e = .returned (.tuple #[.agg (o.cells (.slice ao' ks.len c')).toArray, .int .i64 0]) ∧ KidsV w' (w.heap.size ≤ ·) (.slice ao' ks.len c') ks ∧ Below w.heap.size w w' := by
  obtain ⟨n, hn⟩ : ∃ n, n = ks.len := ⟨_, rfl⟩
  have XE := hid (fun (xb : Nat) (z : World) (B : Nat → Prop) (lv : Value) (hx : Xp xb 0 z) (h : KidsV z B (.slice ao n c) ks) (hb : ¬ B xb) (hl : LocV z lv) => show Calls Tryz.prog 155 #[.pointer (some ⟨xb, 0, none⟩), .agg (o.cells (.slice ao n c)).toArray, .agg (viewC j lv).toArray] z fun e z' =>
    ∃ ao' c', e = .returned (.agg (o.cells (.slice ao' n c')).toArray) ∧ KidsV z' (z.heap.size ≤ ·) (.slice ao' n c') ks ∧ Xp xb (0 + mF ks + 1) z' ∧ Chg [xb] z z' from by
      subst hn
      exact expand_any hp hk xb 0 z B j lv ao c hx (by omega) h hb hl)
  have XR := hid (fun (w : World) (B : Nat → Prop) (ao : Option Addr) (c : Nat) (hT : Tabs w) (h : KidsV w B (.slice ao n c) ks) => show Calls Tryz.prog 96 #[.agg (o.cells (.slice ao n c)).toArray] w fun e w' => e = .returned (.bool true) ∧ Below w.heap.size w w' from by
      subst hn
      exact hR w B ao c hT h)
  obtain ⟨sa, sn, sc, rfl⟩ := hs
  obtain ⟨ta, tn, tc, rfl⟩ := ht
  obtain ⟨ra, rn, rc, rfl⟩ := hr
  rw [← hn] at hv ⊢
  have hmm := @run_makeMap Tryz.prog
  obtain ⟨g, hg⟩ : ∃ g, g = w.heap.size := ⟨_, rfl⟩
  have HG := hid hg
  have HV := hid hv
  have HEn := hid hE
  clear hp hk hm hR hv hE hn
  go_enter_defers Tryz.func97, Tryz.ntmps97
  go_wp2_with (refine stop_load 79 _ rfl ?_)
  generalize hW : World.alloc (World.alloc (World.alloc (World.alloc (World.alloc (World.alloc w _) _) _) _) _) _ = W
  have hn : ∀ (z : World) (o : Obj) (k : Nat), z.heap.size = k → (z.alloc o).heap[k]? = some o := fun z o k h => by subst h; exact heap_alloc_new z o
  have n1 : NdV (w.heap.size + 1) (o.cells (.slice ao n c)) W := by rw [← hW]; exact heap_alloc_keep (heap_alloc_keep (heap_alloc_keep (heap_alloc_keep (hn _ _ _ (by simp)) _) _) _) _
  have n2 : NdV (w.heap.size + 1 + 1) (nodeL 0 0) W := by rw [← hW]; exact heap_alloc_keep (heap_alloc_keep (heap_alloc_keep (hn _ _ _ (by simp)) _) _) _
  have n3 : W.heap[w.heap.size + 1 + 1 + 1]? = some (.cells #[.int .i64 0] 31 (0, 0)) := by rw [← hW]; exact heap_alloc_keep (heap_alloc_keep (hn _ _ _ (by simp)) _) _
  have n5 : W.heap[w.heap.size + 1 + 1 + 1 + 1 + 1]? = some (.cells #[.slice sa sn sc, .slice none 0 0, .slice ta tn tc, .slice ra rn rc, .int .i64 0, .map (some (w.heap.size + 1 + 1 + 1 + 1))] 258 (0, 0)) := by rw [← hW]; exact hn _ _ _ (by simp)
  have bW : Below w.heap.size w W := by rw [← hW]; exact (((((((Below.refl w.heap.size w).alloc (Nat.le_refl _) _).alloc (by simp) _).alloc (by simp; omega) _).alloc (by simp; omega) _).alloc (by simp; omega) _).alloc (by simp; omega) _)
  clear hW hn
  rw [← hg] at n1 n2 n3 n5 ⊢
  have X0 := hid (show Xp (g + 1 + 1 + 1 + 1 + 1) 0 W from ⟨⟨_, _, _, _, n5⟩, w, HEn.out, by omega, bW⟩)
  have N1 := hid n1
  have N2 := hid n2
  have N3 := hid n3
  have BW := hid bW
  have HV1 := hid (HV.out.keep bW).lt
  have HV2 := hid (HV.out.lt.keep bW)
  clear n1 n2 n3 n5 bW hg HV1
  refine Stop.mk ?_
  go_wp2_with (refine wpList_load_row rfl 79 _ rfl (g + 1) rfl 79 _ (0, 0) _ N1.out Tryz.underlying79 rfl (ow_info o (.slice ao n c)) ?_)
  refine (XE.out _ _ _ _ X0.out HV2.out (by have := HG.out; omega) (.inl rfl)).mono ?_
  rintro e w1 ⟨ao', c', rfl, hk1, hx1, hc1⟩
  have hg5 := X0.out.lt
  have M2 := hid (show NdV (g + 1 + 1) (nodeL 0 0) w1 from hc1.heap N2.out (by simp only [List.mem_singleton]; omega))
  have M3 := hid (hc1.heap N3.out (by simp only [List.mem_singleton]; omega))
  have L2 := hid (show NdV (g + 1 + 1) (o.cells (.slice ao' n c')) (w1.setRow (g + 1 + 1) (o.cells (.slice ao' n c')).toArray) from heap_setRow_at M2.out)
  have L3 := hid (heap_setRow_far M3.out (show g + 1 + 1 + 1 ≠ g + 1 + 1 by omega) (o.cells (.slice ao' n c')).toArray)
  have cg := (Chg.refl [g + 1 + 1] w1).setRow (g := g + 1 + 1) (.inl (by simp)) (o.cells (.slice ao' n c')).toArray
  have cw := (Chg.of_below (F := []) BW.out).trans hc1 (fun x hx => by simp only [List.mem_singleton] at hx; right; have := HG.out; omega)
  have cl := cw.trans cg (fun x hx => by simp only [List.mem_singleton] at hx; right; have := HG.out; omega)
  have BL := hid cl.nil_below
  have hW5 : g + 1 + 1 + 1 + 1 + 1 < W.heap.size := hg5
  have KL := hid (show KidsV (w1.setRow (g + 1 + 1) (o.cells (.slice ao' n c')).toArray) (W.heap.size ≤ ·) (.slice ao' n c') ks from hk1.chg cg (fun x hx => by simp only [List.mem_singleton] at hx; omega))
  have HEL := hid (HEn.out.below cl.nil_below)
  have HWs := hid (And.intro hW5 BW.out.size)
  clear hk1 hx1 hc1 hg5 cg cw cl X0 N1 N2 N3 BW HV2 hW5
  go_wp2_with (first | (refine wpList_store_row rfl 79 _ _ rfl (g + 1 + 1) (o.cells (.slice ao' n c')).toArray rfl rfl 79 _ M2.out (node_info 0 0) (by rfl) (ow_one o ao' n c') ?_) | (refine wpList_load_row rfl 79 _ rfl (g + 1 + 1) rfl 79 _ (0, 0) _ L2.out Tryz.underlying79 rfl (ow_info o (.slice ao' n c')) ?_))
  refine (XR.out _ _ _ _ HEL.out.tabs KL.out).mono ?_
  rintro e w2 ⟨rfl, b2⟩
  have K2 := hid (show NdV (g + 1 + 1) (o.cells (.slice ao' n c')) w2 from (b2.block _ (heap_lt L2.out)).trans L2.out)
  have k3 := (b2.block _ (heap_lt L3.out)).trans L3.out
  have K3 := hid (heap_setRow_far k3 (show g + 1 + 1 + 1 ≠ g + 1 + 1 by omega) (o.cells (.slice ao' n c')).toArray)
  have f1 := free_of (i := 0) K3.out
  have d1 := cell_of (i := 0) K3.out rfl
  have KR := hid (KL.out.keep b2)
  have BK := hid (BL.out.trans (b2.mono BL.out.size))
  clear b2 k3 L2 L3 KL HEL BL M2 M3
  go_wp2_with (first | (refine wpList_load_row rfl 79 _ rfl (g + 1 + 1) rfl 79 _ (0, 0) _ K2.out Tryz.underlying79 rfl (ow_info o (.slice ao' n c')) ?_) | (refine wpList_store_row rfl 79 _ _ rfl (g + 1 + 1) (o.cells (.slice ao' n c')).toArray rfl rfl 79 _ K2.out (ow_info o (.slice ao' n c')) (by rfl) (ow_one o ao' n c') ?_))
  have Z2 : NdV (g + 1 + 1) (o.cells (.slice ao' n c')) ((w2.setRow (g + 1 + 1) (o.cells (.slice ao' n c')).toArray).setCell ⟨g + 1 + 1 + 1, 0, none⟩ (.int .i64 0)) := heap_setCell_far (heap_setRow_at K2.out) (by omega) _
  have Z3 := heap_setCell_at (i := 0) K3.out (.int .i64 0)
  have cz := (((Chg.refl [g + 1 + 1, g + 1 + 1 + 1] w2).setRow (g := g + 1 + 1) (.inl (by simp)) (o.cells (.slice ao' n c')).toArray).setCell (p := ⟨g + 1 + 1 + 1, 0, none⟩) (.inl (by simp)) (.int .i64 0))
  have BZ := ((Chg.of_below (F := []) BK.out).trans cz (fun x hx => by simp only [List.mem_cons, List.not_mem_nil, or_false] at hx; right; have := HG.out; omega)).nil_below
  have KZ := (KR.out.chg cz (fun x hx => by simp only [List.mem_cons, List.not_mem_nil, or_false] at hx; have := HWs.out.1; omega)).mono (C := (w.heap.size ≤ ·)) (fun x hx => by have := HWs.out.2; omega)
  clear cz
  generalize World.setCell (World.setRow _ _ _) _ _ = w3 at Z2 Z3 BZ KZ ⊢
  refine leaves_cons (f := 154) (args := #[.pointer (some ⟨g + 1 + 1, 0, none⟩), .pointer (some ⟨g + 1 + 1 + 1, 0, none⟩)]) (by simp) (by simp [go_sem]) ?_
  refine (xpd1_idle _ _ _).mono ?_
  rintro e u' w4 ⟨rfl, rfl, b4⟩
  have hl0 := run_loadVar_row (P := Tryz.prog) w4 (g + 1 + 1) 79 79 (o.cells (.slice ao' n c')).toArray (0, 0) _ ((b4.block _ (heap_lt Z2)).trans Z2) Tryz.underlying79 rfl (ow_info o (.slice ao' n c'))
  have c1 : w4.cell? ⟨g + 1 + 1 + 1, 0, none⟩ = some (.int .i64 0) := cell_of ((b4.block _ (heap_lt Z3)).trans Z3) rfl
  have hl1 : (loadVar 31 ⟨g + 1 + 1 + 1, 0, none⟩).run Tryz.prog w4 = .ok (.int .i64 0) w4 := by simp [go_sem, c1]
  exact ⟨_, results_two rfl _ _ _ _ _ _ rfl rfl hl0 hl1, ao', c', rfl, KZ.keep b4, BZ.trans (b4.mono BZ.size)⟩
end Go.Proofs.YtpcjfgihglfdgaaGreatDoor

namespace Go.Proofs.YtpcjfgihglfdgaaGreatDoor
open Go.RowKit Go.Lib

set_option maxRecDepth 20000 in
set_option maxHeartbeats 2000000 in
theorem xpand_any {o : Ow} {ks : Fo} (hp : Plain o) (hk : PlainF ks) (hm : mF ks + 1 ≤ 200) (hR : RightOk o ks) (w : World) (hE : Env w) {B : Nat → Prop} {v : Value} {A : List PAt} {tx : PAt → ByteArray} (hB : Bk1 w v A tx) {ao : Option Addr} {c : Nat} (hv : KidsV w B (.slice ao ks.len c) ks) :
    Calls Tryz.prog 45 #[v, .int .i64 0, .agg (o.cells (.slice ao ks.len c)).toArray] w fun e w' =>
      ∃ ao' c', e = .returned (.tuple #[.agg (o.cells (.slice ao' ks.len c')).toArray, .int .i64 0]) ∧ KidsV w' (w.heap.size ≤ ·) (.slice ao' ks.len c') ks ∧ Below w.heap.size w w' := by
  obtain ⟨n, hn⟩ : ∃ n, n = ks.len := ⟨_, rfl⟩
  have HBK := hid hB
  obtain ⟨⟨b, off, bc, v0, hbc, rfl, -, -, -⟩, -⟩ := hB
  have XX := hid (fun (z : World) (B : Nat → Prop) (hE : Env z) (h : KidsV z B (.slice ao n c) ks) => show Calls Tryz.prog 97 #[.agg (bookC1 b off bc), .int .i64 0, .agg (o.cells (.slice ao n c)).toArray] z fun e z' =>
    ∃ ao' c', e = .returned (.tuple #[.agg (o.cells (.slice ao' n c')).toArray, .int .i64 0]) ∧ KidsV z' (z.heap.size ≤ ·) (.slice ao' n c') ks ∧ Below z.heap.size z z' from by
      subst hn
      exact expanded_any hp hk hm hR z hE 0 h ⟨_, _, _, rfl⟩ ⟨_, _, _, rfl⟩ ⟨_, _, _, rfl⟩)
  have XR := hid (fun (w : World) (B : Nat → Prop) (hT : Tabs w) (h : KidsV w B (.slice ao n c) ks) => show Calls Tryz.prog 96 #[.agg (o.cells (.slice ao n c)).toArray] w fun e w' => e = .returned (.bool true) ∧ Below w.heap.size w w' from by
      subst hn
      exact hR w B ao c hT h)
  rw [← hn] at hv ⊢
  have HV := hid hv
  have HEn := hid hE
  have b0 := (((Below.refl w.heap.size w).alloc (Nat.le_refl _) (.cells (bookC1 b off bc) 39)).alloc (by simp) (.cells (o.cells (.slice ao n c)).toArray 79)).alloc (by simp; omega) (.cells (nodeL 0 0).toArray 79)
  have hnn : ∀ (z : World) (o : Obj) (k : Nat), z.heap.size = k → (z.alloc o).heap[k]? = some o := fun z o k h => by subst h; exact heap_alloc_new z o
  have N0 := hid (show (((w.alloc (.cells (bookC1 b off bc) 39)).alloc (.cells (o.cells (.slice ao n c)).toArray 79)).alloc (.cells (nodeL 0 0).toArray 79)).heap[w.heap.size]? = some (.cells (bookC1 b off bc) 39 (0, 0)) from heap_alloc_keep (heap_alloc_keep (heap_alloc_new w _) _) _)
  have N1 := hid (show NdV (w.heap.size + 1) (o.cells (.slice ao n c)) (((w.alloc (.cells (bookC1 b off bc) 39)).alloc (.cells (o.cells (.slice ao n c)).toArray 79)).alloc (.cells (nodeL 0 0).toArray 79)) from heap_alloc_keep (heap_alloc2_new w _ _) _)
  have N2 := hid (show NdV (w.heap.size + 1 + 1) (nodeL 0 0) (((w.alloc (.cells (bookC1 b off bc) 39)).alloc (.cells (o.cells (.slice ao n c)).toArray 79)).alloc (.cells (nodeL 0 0).toArray 79)) from hnn _ _ _ (by simp))
  have B0 := hid b0
  clear hp hk hm hR hv hE hn b0 hnn
  obtain ⟨g, hg⟩ : ∃ g, g = w.heap.size := ⟨_, rfl⟩
  go_enter Tryz.func45, Tryz.ntmps45
  go_wp2_with fail
  generalize World.alloc (World.alloc (World.alloc _ _) _) _ = w0 at N0 N1 N2 B0 ⊢
  rw [← hg] at N0 N1 N2 ⊢
  have HG := hid hg
  clear hg
  refine (check1 w0 (HEn.out.below B0.out) _ A tx (HBK.out.below B0.out)).mono ?_
  rintro e w1 ⟨rfl, b1⟩
  have q0 := (b1.block _ (heap_lt N0.out)).trans N0.out
  have q1 := cell_of (i := 0) q0 rfl
  have hlt := heap_lt q0
  have Q0 := hid q0
  have M1 := hid ((b1.block _ (heap_lt N1.out)).trans N1.out)
  have M2 := hid ((b1.block _ (heap_lt N2.out)).trans N2.out)
  have B1 := hid (B0.out.trans (b1.mono B0.out.size))
  clear q0 b1 N0 N1 N2 B0
  go_wp2_with (refine stop_load 79 _ rfl ?_)
  have ba := (Below.refl w1.heap.size w1).alloc (Nat.le_refl _) (.cells #[.int .i64 0, .int .i64 0, .int .i64 0] 46)
  generalize World.alloc w1 _ = w2 at ba ⊢
  have L0 := hid ((ba.block _ (heap_lt Q0.out)).trans Q0.out)
  have L1 := hid (show NdV (g + 1) (o.cells (.slice ao n c)) w2 from (ba.block _ (heap_lt M1.out)).trans M1.out)
  have L2 := hid (show NdV (g + 1 + 1) (nodeL 0 0) w2 from (ba.block _ (heap_lt M2.out)).trans M2.out)
  have B2 := hid (B1.out.trans (ba.mono B1.out.size))
  clear ba Q0 M1 M2 B1 hlt q1
  refine Stop.mk ?_
  go_wp2_with (refine wpList_load_row rfl 79 _ rfl (g + 1) rfl 79 _ (0, 0) _ L1.out Tryz.underlying79 rfl (ow_info o (.slice ao n c)) ?_)
  refine (XR.out _ _ (HEn.out.below B2.out).tabs (HV.out.keep B2.out)).mono ?_
  rintro e w3 ⟨rfl, b3⟩
  have K0 := hid ((b3.block _ (heap_lt L0.out)).trans L0.out)
  have K1 := hid (show NdV (g + 1) (o.cells (.slice ao n c)) w3 from (b3.block _ (heap_lt L1.out)).trans L1.out)
  have K2 := hid (show NdV (g + 1 + 1) (nodeL 0 0) w3 from (b3.block _ (heap_lt L2.out)).trans L2.out)
  have B3 := hid (B2.out.trans (b3.mono B2.out.size))
  clear b3 L0 L1 L2 B2
  have hbi : (Tryz.prog.info? 39).map (·.size) = some (bookC1 b off bc).size := show _ = some 4 from by kernel_rfl
  go_wp2_with (first | (refine wpList_load_row rfl 79 _ rfl (g + 1) rfl 79 _ (0, 0) _ K1.out Tryz.underlying79 rfl (ow_info o (.slice ao n c)) ?_) | (refine wpList_load_row rfl 39 _ rfl g rfl 39 _ (0, 0) _ K0.out Tryz.underlying39 rfl hbi ?_))
  refine (XX.out _ _ (HEn.out.below B3.out) (HV.out.keep B3.out)).mono ?_
  rintro e w4 ⟨ao', c', rfl, hk, b4⟩
  have J2 := hid (show NdV (g + 1 + 1) (nodeL 0 0) w4 from (b4.block _ (heap_lt K2.out)).trans K2.out)
  have hj := heap_lt K2.out
  have B4 := hid (B3.out.trans (b4.mono B3.out.size))
  have cz := (Chg.refl [g + 1 + 1] w4).setRow (g := g + 1 + 1) (.inl (by simp)) (o.cells (.slice ao' n c')).toArray
  have KZ := hid ((hk.chg cz (fun x hx => by simp only [List.mem_singleton] at hx; omega)).mono (C := (w.heap.size ≤ ·)) (fun x hx => Nat.le_trans B3.out.size hx))
  have BZ := hid ((Chg.of_below (F := []) B4.out).trans cz (fun x hx => by simp only [List.mem_singleton] at hx; right; have := HG.out; omega)).nil_below
  clear b4 hk cz hj
  go_wp2_with (refine wpList_store_row rfl 79 _ _ rfl (g + 1 + 1) (o.cells (.slice ao' n c')).toArray rfl rfl 79 _ J2.out (node_info 0 0) (by rfl) (ow_one o ao' n c') ?_)
  refine bodyPost_ret (v := .tuple #[.agg (o.cells (.slice ao' n c')).toArray, .int .i64 0]) (results_row_tmp rfl _ _ (g + 1 + 1) _ _ rfl rfl (run_loadVar_row (P := Tryz.prog) _ (g + 1 + 1) 79 79 (o.cells (.slice ao' n c')).toArray (0, 0) _ (heap_setRow_at J2.out) Tryz.underlying79 rfl (ow_info o (.slice ao' n c')))) rfl ?_
  exact ⟨ao', c', rfl, KZ.out, BZ.out⟩
end Go.Proofs.YtpcjfgihglfdgaaGreatDoor
