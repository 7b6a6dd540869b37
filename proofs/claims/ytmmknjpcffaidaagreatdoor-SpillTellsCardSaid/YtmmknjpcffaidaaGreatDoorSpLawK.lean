/- What the laws SpillApart and SpillReasons keep in memory while they go. No condition. -/
import Derived.Test.YtmmknjpcffaidaaGreatDoorSpMore
import Derived.Test.YtmmknjpcffaidaaGreatDoorSpLawP
namespace Go.Proofs.YtmmknjpcffaidaaGreatDoor
open Go.RowKit Go.Lib

/-- an area of the law's own, and all that is old -/
structure Ak (w : World) (ga : Nat) (x : PSp) (y : World) : Prop where
  ab : y.heap[ga]? = some (.cells #[.int .i64 x.1.1, .int .i64 x.1.2.1, .int .i64 x.1.2.2, .int .i64 x.2.1, .int .i64 x.2.2] 51 (0, 0))
  low : Below w.heap.size w y
theorem Ak.keep {w y z : World} {ga : Nat} {x : PSp} (h : Ak w ga x y) (hb : Below y.heap.size y z) : Ak w ga x z :=
  ⟨(hb.block _ (heap_lt h.ab)).trans h.ab, h.low.trans (hb.mono h.low.size)⟩
theorem Ak.old {w y : World} {ga : Nat} {x : PSp} (h : Ak w ga x y) {p : Addr} {u : Value} (hc : w.cell? p = some u) : y.cell? p = some u := (h.low.cell (World.block_lt_of_cell? _ _ hc)).trans hc
theorem Ak.new {w y : World} {x : PSp} (h : Below w.heap.size w y) : Ak w y.heap.size x (y.alloc (.cells #[.int .i64 x.1.1, .int .i64 x.1.2.1, .int .i64 x.1.2.2, .int .i64 x.2.1, .int .i64 x.2.2] 51)) :=
  ⟨heap_alloc_new y _, h.alloc h.size _⟩
theorem old_cell {w y : World} (h : Below w.heap.size w y) {p : Addr} {u : Value} (hc : w.cell? p = some u) : y.cell? p = some u := (h.cell (World.block_lt_of_cell? _ _ hc)).trans hc
theorem Ak.store {w y : World} {ga g i : Nat} {x : PSp} {u : Value} (h : Ak w ga x y) (hg : g ≠ ga) (hw : w.heap.size ≤ g) : Ak w ga x (y.setCell ⟨g, i, none⟩ u) :=
  ⟨heap_setCell_far h.ab hg.symm u, h.low.setCell hw _⟩
theorem Ak.store5 {w y : World} {ga g : Nat} {x : PSp} {u0 u1 u2 u3 u4 : Value} (h : Ak w ga x y) (hg : g ≠ ga) (hw : w.heap.size ≤ g) :
    Ak w ga x (((((y.setCell ⟨g, 0, none⟩ u0).setCell ⟨g, 1, none⟩ u1).setCell ⟨g, 2, none⟩ u2).setCell ⟨g, 3, none⟩ u3).setCell ⟨g, 4, none⟩ u4) :=
  ((((h.store hg hw).store hg hw).store hg hw).store hg hw).store hg hw
theorem Ak.al {w y : World} {ga : Nat} {x : PSp} (h : Ak w ga x y) {o : Obj} : Ak w ga x (y.alloc o) := h.keep ((Below.refl _ _).alloc (Nat.le_refl _) _)
theorem Ak.ald {w y : World} {ga : Nat} {x : PSp} (h : Ak w ga x y) {o : Obj} : Ak w ga x (y.alloc o).drew := h.al.keep (Below.refl _ _).drew
theorem Ak.dal {w y : World} {ga : Nat} {x : PSp} (h : Ak w ga x y) {o : Obj} : Ak w ga x (y.drew.alloc o) := (h.keep (Below.refl _ _).drew).al
theorem zer_new {u y : World} {o : Obj} (b : Below (u.alloc o).heap.size (u.alloc o) y) : y.heap[u.heap.size]? = some o := (b.block _ (by simp)).trans (heap_alloc_new u o)
theorem zer_dnew {u y : World} {o : Obj} (b : Below (u.drew.alloc o).heap.size (u.drew.alloc o) y) : y.heap[u.heap.size]? = some o := (b.block u.heap.size (by simp)).trans (heap_alloc_new u.drew o)
theorem zer_newd {u y : World} {o : Obj} (b : Below (u.alloc o).drew.heap.size (u.alloc o).drew y) : y.heap[u.heap.size]? = some o := (b.block u.heap.size (by simp)).trans (heap_alloc_new u o)
end Go.Proofs.YtmmknjpcffaidaaGreatDoor
