/- Contracts of tree.Read at "1", of book.formula and book.input at "=1". No condition. -/
import Derived.Test.YtmmknjpcffaidaaGreatDoorSpTreeG
import Derived.Test.YtmmknjpcffaidaaGreatDoorSpMem
namespace Go.Proofs.YtmmknjpcffaidaaGreatDoor
open Go.RowKit Go.Lib

theorem results_row_tmps {fn : Func} {p q r : Tmp} {t1 : TypeId} (h : fn.results = #[.cell p t1, .tmp q, .tmp r]) (tmps : Array Value) (w : World) (a1 : Addr) (v1 v2 v3 : Value)
    (hp : tmps.getD p undef = .pointer (some a1)) (hq : tmps.getD q undef = v2) (hr : tmps.getD r undef = v3)
    (h1 : (loadVar t1 a1).run Tryz.prog w = .ok v1 w) : (results fn tmps).run Tryz.prog w = .ok (.tuple #[v1, v2, v3]) w := by
  have hp' : tmps[p]?.getD undef = .pointer (some a1) := by simpa using hp
  have hq' : tmps[q]?.getD undef = v2 := by simpa using hq
  have hr' : tmps[r]?.getD undef = v3 := by simpa using hr
  simp [results, h, hp', hq', hr', asAddr, h1, Result.andThen]
set_option maxRecDepth 20000 in
set_option maxHeartbeats 2000000 in
theorem treeRead_one (w : World) : Calls Tryz.prog 93 #[.string text1] w fun e w' => e = .returned (.tuple #[.agg (nodeL 1 1).toArray, .int .i64 0, .int .i64 0]) ∧ Below w.heap.size w w' := by
  have N0 := hid (show Nx w.heap.size 0 0 (w.alloc (.cells (nodeL 0 0).toArray 106)) from heap_alloc_new w _)
  have B0 := hid ((Below.refl w.heap.size w).alloc (Nat.le_refl _) (.cells (nodeL 0 0).toArray 106))
  obtain ⟨g, hg⟩ : ∃ g, g = w.heap.size := ⟨_, rfl⟩
  go_enter Tryz.func93, Tryz.ntmps93
  go_wp2_with fail
  generalize World.alloc _ _ = w0 at N0 B0 ⊢
  rw [← hg] at N0 ⊢
  have HG := hid hg
  clear hg
  refine (tokens_one _).mono ?_
  rintro e w1 ⟨⟨a, c, rfl, hr⟩, b1⟩
  obtain ⟨ao, c', b, off, e1, -, hr⟩ := hr
  simp only [List.length_cons, List.length_nil, Nat.zero_add, Value.slice.injEq, true_and] at e1
  obtain ⟨rfl, rfl⟩ := e1
  obtain ⟨rfl, hc⟩ := hr 0 tokL rfl
  simp only [Nat.zero_mul, Nat.add_zero] at hc
  have k0 := hc 0 _ rfl
  have k1 := hc 1 _ rfl
  have k2 := hc 2 _ rfl
  have N1 := hid (N0.out.keep b1)
  have B1 := hid (B0.out.trans (b1.mono B0.out.size))
  have HP := hid (parse_one w1 b off c k0 k1 k2)
  clear hr hc k0 k1 k2 b1 N0 B0
  go_wp2_with fail
  refine HP.out.mono ?_
  rintro e w2 ⟨rfl, b2⟩
  have hlt := heap_lt (N1.out.keep b2)
  have N2 := hid (show Nx g 0 0 ((w2.alloc (.cells (nodeL 0 0).toArray 106)).setRow w2.heap.size (nodeL 1 1).toArray) from heap_setRow_far (heap_alloc_keep (N1.out.keep b2) _) (Nat.ne_of_lt hlt) _)
  have M2 := hid (show Nx w2.heap.size 1 1 ((w2.alloc (.cells (nodeL 0 0).toArray 106)).setRow w2.heap.size (nodeL 1 1).toArray) from heap_setRow_at (heap_alloc_new w2 _))
  have B2 := hid ((((Chg.of_below (F := []) (B1.out.trans (b2.mono B1.out.size))).alloc (.cells (nodeL 0 0).toArray 106)).setRow (F := []) (g := w2.heap.size) (.inr (Nat.le_trans B1.out.size b2.size)) (nodeL 1 1).toArray).nil_below)
  clear b2 hlt N1 B1 HP
  go_wp2_with (first | (refine wpList_store_row rfl 106 _ _ rfl w2.heap.size (nodeL 1 1).toArray rfl rfl 106 _ (heap_alloc_new w2 _) (node_info 1 1) (by rfl) node_one ?_) | (refine wpList_load_row rfl 106 _ rfl w2.heap.size rfl 106 _ (0, 0) _ M2.out Tryz.underlying106 rfl (node_info 1 1) ?_) | (refine wpList_store_row rfl 106 _ _ rfl g (nodeL 1 1).toArray rfl rfl 106 _ N2.out (node_info 1 1) (by rfl) node_one ?_))
  refine bodyPost_ret (v := .tuple #[.agg (nodeL 1 1).toArray, .int .i64 0, .int .i64 0]) (results_row_tmps rfl _ _ ⟨g, 0, none⟩ _ _ _ rfl rfl rfl (run_loadVar_row (P := Tryz.prog) _ g 106 106 (nodeL 1 1).toArray (0, 0) _ (heap_setRow_at N2.out) Tryz.underlying106 rfl (node_info 1 1))) rfl ?_
  exact ⟨rfl, ((Chg.of_below (F := []) B2.out).setRow (F := []) (.inr (Nat.le_of_eq HG.out.symm)) _).nil_below⟩

abbrev textE : ByteArray := ⟨#[61, 49]⟩
set_option maxHeartbeats 400000 in
theorem cutPrefix_eq (w : World) : Calls Tryz.prog 92 #[.string textE, .string ⟨#[61]⟩] w fun e w' => e = .returned (.tuple #[.string text1, .bool true]) ∧ w = w' := by
  have h : ((textE.extract 0 1).toList == [61]) = true := by kernel_rfl
  have h2 : textE.extract 1 2 = text1 := by rfl
  go_enter Tryz.func92, Tryz.ntmps92
  go_wp2
  go_ret2
  exact ⟨rfl, rfl⟩
set_option maxRecDepth 20000 in
set_option maxHeartbeats 2000000 in
theorem formula_eq (w : World) : Calls Tryz.prog 61 #[.string textE] w fun e w' => e = .returned (.tuple #[.agg (nodeL 1 1).toArray, .bool true]) ∧ Below w.heap.size w w' := by
  have N0 := hid (show Nx w.heap.size 0 0 (w.alloc (.cells (nodeL 0 0).toArray 106)) from heap_alloc_new w _)
  have B0 := hid ((Below.refl w.heap.size w).alloc (Nat.le_refl _) (.cells (nodeL 0 0).toArray 106))
  obtain ⟨g, hg⟩ : ∃ g, g = w.heap.size := ⟨_, rfl⟩
  go_enter Tryz.func61, Tryz.ntmps61
  go_wp2_with fail
  generalize World.alloc _ _ = w0 at N0 B0 ⊢
  rw [← hg] at N0 ⊢
  have HG := hid hg
  clear hg
  refine (cutPrefix_eq _).mono ?_
  rintro e w1 ⟨rfl, rfl⟩
  go_wp2_with fail
  refine (treeRead_one _).mono ?_
  rintro e w2 ⟨rfl, b2⟩
  have hlt := heap_lt (N0.out.keep b2)
  have N2 := hid (show Nx g 0 0 ((w2.alloc (.cells (nodeL 0 0).toArray 106)).setRow w2.heap.size (nodeL 1 1).toArray) from heap_setRow_far (heap_alloc_keep (N0.out.keep b2) _) (Nat.ne_of_lt hlt) _)
  have M2 := hid (show Nx w2.heap.size 1 1 ((w2.alloc (.cells (nodeL 0 0).toArray 106)).setRow w2.heap.size (nodeL 1 1).toArray) from heap_setRow_at (heap_alloc_new w2 _))
  have B2 := hid ((((Chg.of_below (F := []) (B0.out.trans (b2.mono B0.out.size))).alloc (.cells (nodeL 0 0).toArray 106)).setRow (F := []) (g := w2.heap.size) (.inr (Nat.le_trans B0.out.size b2.size)) (nodeL 1 1).toArray).nil_below)
  clear b2 hlt N0 B0
  go_wp2_with (first | (refine wpList_store_row rfl 106 _ _ rfl w2.heap.size (nodeL 1 1).toArray rfl rfl 106 _ (heap_alloc_new w2 _) (node_info 1 1) (by rfl) node_one ?_) | (refine wpList_load_row rfl 106 _ rfl w2.heap.size rfl 106 _ (0, 0) _ M2.out Tryz.underlying106 rfl (node_info 1 1) ?_) | (refine wpList_store_row rfl 106 _ _ rfl g (nodeL 1 1).toArray rfl rfl 106 _ N2.out (node_info 1 1) (by rfl) node_one ?_))
  refine bodyPost_ret (v := .tuple #[.agg (nodeL 1 1).toArray, .bool true]) (results_row_tmp rfl _ _ g _ _ rfl rfl (run_loadVar_row (P := Tryz.prog) _ g 106 106 (nodeL 1 1).toArray (0, 0) _ (heap_setRow_at N2.out) Tryz.underlying106 rfl (node_info 1 1))) rfl ?_
  exact ⟨rfl, ((Chg.of_below (F := []) B2.out).setRow (F := []) (.inr (Nat.le_of_eq HG.out.symm)) _).nil_below⟩
set_option maxRecDepth 20000 in
set_option maxHeartbeats 1000000 in
theorem input_eq (w : World) : Calls Tryz.prog 40 #[.string textE] w fun e w' => e = .returned (.bool true) ∧ Below w.heap.size w w' := by
  go_enter Tryz.func40, Tryz.ntmps40
  go_wp2_with fail
  refine (formula_eq _).mono ?_
  rintro e w1 ⟨rfl, b1⟩
  have B1 := hid b1
  have N1 := heap_alloc_new w1 (.cells (nodeL 0 0).toArray 106)
  have BB := hid ((((Chg.of_below (F := []) b1).alloc (.cells (nodeL 0 0).toArray 106)).setRow (F := []) (g := w1.heap.size) (.inr b1.size) (nodeL 1 1).toArray).nil_below)
  clear b1
  go_wp2_with (refine wpList_store_row rfl 106 _ _ rfl w1.heap.size (nodeL 1 1).toArray rfl rfl 106 _ N1 (node_info 1 1) (by rfl) node_one ?_)
  go_ret
  exact ⟨rfl, BB.out⟩
theorem inOk_eq : InOk textE := fun w _ => input_eq w
end Go.Proofs.YtmmknjpcffaidaaGreatDoor
