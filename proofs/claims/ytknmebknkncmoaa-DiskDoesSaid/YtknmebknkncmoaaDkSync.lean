/- Contract of (*disk.Disk).Sync. -/
import Derived.Test.YtknmebknkncmoaaDkRead
namespace Go.Proofs.Ytknmebknkncmoaa
open Go.RowKit Go.Lib

theorem copy_rows {w : World} {g h n : Nat} {xs ys : Bs} (hg : w.heap[g]? = some (.cells (byteCells xs).toArray 5 (0, 0))) (hh : w.heap[h]? = some (.cells (byteCells ys).toArray 5 (0, 0)))
    (hx : xs.length = n) (hy : ys.length = n) (ty : TypeId) :
    (Builtin.copy_ #[35, 35] ty #[.slice (some ⟨g, 0, none⟩) n n, .slice (some ⟨h, 0, none⟩) n n]).run Try.prog w = .ok (goInt n) (w.setRow g (byteCells ys).toArray) := by
  have hs : (Try.prog.info? 5).map (·.size) = some 1 := by kernel_rfl
  have e := run_copy_row (P := Try.prog) w 35 35 ty 5 g 0 n n ⟨h, 0, none⟩ n n (byteCells xs).toArray 5 (byteCells ys) Try.underlying35 hs hg (by rw [byteCells_length, hy]; exact (Nat.min_self n).symm)
    (fun j v hv => by
      have hadd : (⟨h, 0, none⟩ : Addr).add j = ⟨h, j, none⟩ := by unfold Addr.add; split <;> simp_all
      rw [hadd, cell_of_row w h j _ 5 (0, 0) hh]
      simpa using hv)
    (by rw [byteCells_length, hy]; simp [byteCells_length, hx]) (byteCells_one _)
  rw [e, byteCells_length, hy]
  congr 2
  simp only [List.take_zero, List.nil_append, Nat.zero_add]
  rw [List.drop_of_length_le (by rw [byteCells_length, hx]; exact Nat.le_refl _), List.append_nil]

set_option maxHeartbeats 400000 in
theorem sync_any {w : World} {base bd bk bn : Nat} {pv : Value} {kept now : Bs} {pend : List (Nat × Bs)} (D : DiskAt w base bd bk bn pv kept now pend) :
    Calls Try.prog 24 #[.pointer (some ⟨bd, 0, none⟩)] w fun e w' => e = .returned (.int .i64 0) ∧ DiskAt w' base bd bk bn (.slice none 0 0) now now [] ∧ Chg [bd, bk] w w' := by
  have c0 := cell_of (i := 0) D.hd rfl
  have c1 := cell_of (i := 1) D.hd rfl
  have c2 := cell_of (i := 2) D.hd rfl
  have f2 := free_of (i := 2) D.hd
  have hcp := copy_rows (w := w.drew) D.hk D.hn rfl D.len
  have nkd : bd ≠ bk := heap_ne D.hd D.hk (by decide)
  have nnd : bd ≠ bn := heap_ne D.hd D.hn (by decide)
  obtain ⟨w1, hw1⟩ : ∃ w1, w1 = w.drew.setRow bk (byteCells now).toArray := ⟨_, rfl⟩
  rw [← hw1] at hcp
  have hd1 := heap_setRow_far (w := w.drew) D.hd nkd (byteCells now).toArray
  have hk1 := heap_setRow_at (w := w.drew) (cs := (byteCells now).toArray) D.hk
  have hn1 := heap_setRow_far (w := w.drew) D.hn D.ne.symm (byteCells now).toArray
  have hch := ((Chg.refl [bd, bk] w).drew.setRow (g := bk) (by simp) (byteCells now).toArray)
  rw [← hw1] at hd1 hk1 hn1 hch
  have fin : DiskAt (w1.setCell ⟨bd, 2, none⟩ (.slice none 0 0)) base bd bk bn (.slice none 0 0) now now [] ∧ Chg [bd, bk] w (w1.setCell ⟨bd, 2, none⟩ (.slice none 0 0)) := by
    refine ⟨⟨?_, heap_setCell_far hk1 nkd.symm _, heap_setCell_far hn1 nnd.symm _, World.ownsRow_nil _ _ _ _, rfl, D.ne, by rw [D.len]; exact D.lo, by rw [D.len]; exact D.hi, by simp, D.b1, D.b2, D.b3⟩, hch.setCell (by simp) _⟩
    rw [D.len]
    exact heap_setCell_at hd1 _
  have c2' := cell_of (i := 2) hd1 rfl
  have f2' := free_of (i := 2) hd1
  have HF := hid fin
  clear D hw1 hd1 hk1 hn1 hch fin
  go_enter Try.func24, Try.ntmps24
  go_wp2
  go_region
  go_wp2
  go_ret
  exact ⟨rfl, HF.out⟩

set_option maxHeartbeats 400000 in
theorem sync_nil (w : World) : Calls Try.prog 24 #[.pointer none] w fun e w' => e = .returned (.int .i64 1) ∧ w = w' := by
  go_enter Try.func24, Try.ntmps24
  go_wp2
  go_ret
  exact ⟨rfl, rfl⟩

end Go.Proofs.Ytknmebknkncmoaa
