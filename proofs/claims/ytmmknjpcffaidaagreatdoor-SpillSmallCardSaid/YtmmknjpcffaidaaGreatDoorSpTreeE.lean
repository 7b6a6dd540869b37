/- Contracts of the parser at the pieces of "1", up to tree.Right. No condition. -/
import Derived.Test.YtmmknjpcffaidaaGreatDoorSpTreeB
namespace Go.Proofs.YtmmknjpcffaidaaGreatDoor
open Go.RowKit Go.Lib

/-- a row loaded by an operation that is guarded, and wanted -/
theorem wpList_load_row_w {P : Program} {ops : Array Oper} {rest : List Oper} {o : Oper} {a : Act} {w : World} {Q : Exit → Act → World → Prop} (hw : Region.wanted o (yielded ops a.tmps) = true) (ty : TypeId) (x : Operand) (ho : o.op = .load ty x)
    (g : Nat) (hx : a.eval x = .pointer (some ⟨g, 0, none⟩)) (t : TypeId) (cs : Array Value) (fr : Nat × Nat) (d : TypeDesc) (hg : w.heap[g]? = some (.cells cs t fr))
    (hu : P.underlying ty = some d) (hd : (match d with | .struct _ | .array _ _ => true | _ => false) = true) (hi : (P.info? ty).map (·.size) = some cs.size)
    (h : wpList P ops Q rest (a.put o.dst (.agg cs)) w) : wpList P ops Q (o :: rest) a w :=
  wpList_step fun K hK => by simp only [hw, if_true]; exact wp_load_row ty x ho g hx t cs fr d hg hu hd hi (hK _ _ h)
section
variable {p tb tf tc : Nat} {w : World}
set_option maxRecDepth 20000 in
set_option maxHeartbeats 2000000 in
theorem span_one (w : World) (pv : Value) : Calls Tryz.prog 328 #[pv, .agg (nodeL 1 1).toArray] w fun e w' => e = .returned (.agg (nodeL 1 1).toArray) ∧ Below w.heap.size w w' := by
  have A1 : Nx w.heap.size 1 1 ((w.alloc (.cells (nodeL 1 1).toArray 106)).alloc (.cells (nodeL 0 0).toArray 106)) := heap_alloc_keep (heap_alloc_new w _) _
  have W1 : Nx (w.heap.size + 1) 0 0 ((w.alloc (.cells (nodeL 1 1).toArray 106)).alloc (.cells (nodeL 0 0).toArray 106)) := heap_alloc2_new w _ _
  have B1 := hid (((((Chg.refl [] w).alloc (.cells (nodeL 1 1).toArray 106)).alloc (.cells (nodeL 0 0).toArray 106)).setRow (g := w.heap.size + 1) (.inr (by omega)) (nodeL 1 1).toArray).nil_below)
  have HA := hid A1
  have HW := hid W1
  clear A1 W1
  go_enter Tryz.func328, Tryz.ntmps328
  go_wp2_with (first | (refine wpList_load_row rfl 106 _ rfl w.heap.size rfl 106 _ (0, 0) _ HA.out Tryz.underlying106 rfl (node_info 1 1) ?_) | (refine wpList_store_row rfl 106 _ _ rfl (w.heap.size + 1) (nodeL 1 1).toArray rfl rfl 106 _ HW.out (node_info 1 1) (by rfl) node_one ?_))
  refine bodyPost_ret (v := .agg (nodeL 1 1).toArray) (results_cell_row rfl _ _ (w.heap.size + 1) 106 (nodeL 1 1).toArray (0, 0) _ rfl (heap_setRow_at HW.out) Tryz.underlying106 rfl (node_info 1 1)) rfl ?_
  exact ⟨rfl, B1.out⟩
set_option maxRecDepth 20000 in
set_option maxHeartbeats 2000000 in
theorem size_one (w : World) : Calls Tryz.prog 234 #[.agg (nodeL 1 1).toArray] w fun e w' => e = .returned (.tuple #[.int .i64 1, .int .i64 1, .bool true]) ∧ Below w.heap.size w w' := by
  have A1 : Nx w.heap.size 1 1 (w.alloc (.cells (nodeL 1 1).toArray 106)) := heap_alloc_new w _
  have B1 := hid ((Below.refl w.heap.size w).alloc (Nat.le_refl _) (.cells (nodeL 1 1).toArray 106))
  have HA := hid A1
  clear A1
  go_enter Tryz.func234, Tryz.ntmps234
  go_wp2_with (refine wpList_load_row rfl 106 _ rfl w.heap.size rfl 106 _ (0, 0) _ HA.out Tryz.underlying106 rfl (node_info 1 1) ?_)
  refine (bare_one _).mono ?_
  rintro e w1 ⟨rfl, b1⟩
  have B2 := hid (B1.out.trans (b1.mono B1.out.size))
  have HA2 := hid (HA.out.keep b1)
  have a19 : w1.cell? ⟨w.heap.size, 19, none⟩ = some (.slice none 0 0) := cell_of HA2.out rfl
  clear b1 HA B1
  go_wp2_with (refine wpList_load_row_w (by rfl) 106 _ rfl w.heap.size rfl 106 _ (0, 0) _ HA2.out Tryz.underlying106 rfl (node_info 1 1) ?_)
  refine (kids_one _).mono ?_
  rintro e w2 ⟨rfl, b2⟩
  have B3 := hid (B2.out.trans (b2.mono B2.out.size))
  have a19' : w2.cell? ⟨w.heap.size, 19, none⟩ = some (.slice none 0 0) := (b2.cell (World.block_lt_of_cell? _ _ a19)).trans a19
  clear b2 HA2 B2 a19
  go_wp2_with fail
  refine wp_loop_rounds 1 ?_
  rw [rounds_succ]
  go_wp2_with fail
  go_ret3
  exact ⟨rfl, B3.out⟩
set_option maxRecDepth 20000 in
set_option maxHeartbeats 2000000 in
theorem treeRight_one (w : World) : Calls Tryz.prog 187 #[.agg (nodeL 1 1).toArray] w fun e w' => e = .returned (.bool true) ∧ Below w.heap.size w w' := by
  have A1 : Nx w.heap.size 1 1 (w.alloc (.cells (nodeL 1 1).toArray 106)) := heap_alloc_new w _
  have B1 := hid ((Below.refl w.heap.size w).alloc (Nat.le_refl _) (.cells (nodeL 1 1).toArray 106))
  have HA := hid A1
  clear A1
  go_enter Tryz.func187, Tryz.ntmps187
  go_wp2_with (refine wpList_load_row rfl 106 _ rfl w.heap.size rfl 106 _ (0, 0) _ HA.out Tryz.underlying106 rfl (node_info 1 1) ?_)
  refine (size_one _).mono ?_
  rintro e w1 ⟨rfl, b1⟩
  have B2 := hid (B1.out.trans (b1.mono B1.out.size))
  clear b1 HA B1
  go_wp2_with fail
  go_ret
  exact ⟨rfl, B2.out⟩
end
end Go.Proofs.YtmmknjpcffaidaaGreatDoor
