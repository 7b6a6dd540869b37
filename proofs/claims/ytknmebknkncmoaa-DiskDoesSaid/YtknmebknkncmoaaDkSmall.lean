/- Contracts of the small functions: pick, within, Size, Pending, New. -/
import Derived.Test.YtknmebknkncmoaaRows
import Derived.Test.YtknmebknkncmoaaDkBase
import Derived.Test.YtknmebknkncmoaaDkPlain
import Derived.BigQuiet
import Derived.BigRegion
import Derived.Deep.QuietTactic
import Derived.RegionTactic
import Derived.ChangeAlike
namespace Go.Proofs.Ytknmebknkncmoaa
open Go.RowKit Go.Lib

theorem pk_range (c n : Int) (hn : 0 < n) : 0 ≤ pk c n ∧ pk c n < n := by
  unfold pk
  exact ⟨Int.emod_nonneg _ (by omega), Int.emod_lt_of_pos _ hn⟩

set_option maxHeartbeats 400000 in
theorem pick_any (c n : Int) (w : World) (h1 : -9223372036854775808 ≤ c) (h2 : c ≤ 9223372036854775807) (h3 : 1 ≤ n) (h4 : n ≤ 9223372036854775807) :
    Calls Try.prog 23 #[.int .i64 c, .int .i64 n] w fun e w' => e = .returned (.int .i64 (pk c n)) ∧ w = w' := by
  by_cases hc : c < 0
  · have e : pk c n = (-(c + 1)) % n := by unfold pk; rw [if_pos hc]; congr 1; omega
    have E := Lib.hid e
    clear e
    have b1 : 0 ≤ -(c + 1) := by omega
    go_enter Try.func23, Try.ntmps23
    go_wp2
    go_ret
    exact ⟨ret_int (by rw [E.out, ← neg_tmod_emod _ _ (by omega)]), rfl⟩
  · have e : pk c n = c % n := by unfold pk; rw [if_neg hc]
    have E := Lib.hid e
    clear e
    have b1 : 0 ≤ c := by omega
    go_enter Try.func23, Try.ntmps23
    go_wp2
    go_ret
    exact ⟨ret_int (by rw [E.out]), rfl⟩

/-- A disk in memory: its struct in block bd, what is kept in bk, what is there in bn, what is pending under pv. -/
def pieceCells (p : Nat × Bs) : List Value := [.int .i64 (p.1 : Int), .string ⟨p.2.toArray⟩]
structure DiskAt (w : World) (base bd bk bn : Nat) (pv : Value) (kept now : Bs) (pend : List (Nat × Bs)) : Prop where
  hd : w.heap[bd]? = some (.cells #[.slice (some ⟨bk, 0, none⟩) kept.length kept.length, .slice (some ⟨bn, 0, none⟩) kept.length kept.length, pv] 65 (0, 0))
  hk : w.heap[bk]? = some (.cells (byteCells kept).toArray 5 (0, 0))
  hn : w.heap[bn]? = some (.cells (byteCells now).toArray 5 (0, 0))
  hp : w.ownsRow base 69 2 pv pend.length (pend.flatMap pieceCells)
  len : now.length = kept.length
  ne : bk ≠ bn
  lo : 64 ≤ kept.length
  hi : kept.length ≤ 65536
  ok : ∀ p ∈ pend, p.1 + p.2.length ≤ kept.length ∧ p.1 < kept.length
  b1 : base ≤ bd
  b2 : base ≤ bk
  b3 : base ≤ bn

def wthB (n at_ m : Int) : Bool := decide (0 ≤ at_) && decide (0 ≤ m) && decide (at_ ≤ n) && decide (m ≤ n - at_)

set_option maxHeartbeats 400000 in
theorem within_any {w : World} {base bd bk bn : Nat} {pv : Value} {kept now : Bs} {pend : List (Nat × Bs)} (D : DiskAt w base bd bk bn pv kept now pend) (at_ m : Int) 
    (h1 : -9223372036854775808 ≤ at_) (h2 : at_ ≤ 9223372036854775807) (h3 : -9223372036854775808 ≤ m) (h4 : m ≤ 9223372036854775807) :
    Calls Try.prog 30 #[.pointer (some ⟨bd, 0, none⟩), .int .i64 at_, .int .i64 m] w fun e w' => e = .returned (.bool (wthB kept.length at_ m)) ∧ w = w' := by
  have c0 := cell_of (i := 0) D.hd rfl
  have hi := D.hi
  clear D
  go_enter Try.func30, Try.ntmps30
  go_wp2
  all_goals go_ret
  all_goals exact ⟨ret_bool (by simp [wthB]; try omega), rfl⟩

set_option maxHeartbeats 400000 in
theorem size_any {w : World} {base bd bk bn : Nat} {pv : Value} {kept now : Bs} {pend : List (Nat × Bs)} (D : DiskAt w base bd bk bn pv kept now pend) :
    Calls Try.prog 17 #[.pointer (some ⟨bd, 0, none⟩)] w fun e w' => e = .returned (.int .i64 kept.length) ∧ w = w' := by
  have c0 := cell_of (i := 0) D.hd rfl
  have hi := D.hi
  clear D
  go_enter Try.func17, Try.ntmps17
  go_wp2
  go_ret
  exact ⟨rfl, rfl⟩

set_option maxHeartbeats 400000 in
theorem size_nil (w : World) : Calls Try.prog 17 #[.pointer none] w fun e w' => e = .returned (.int .i64 0) ∧ w = w' := by
  go_enter Try.func17, Try.ntmps17
  go_wp2
  go_ret
  exact ⟨rfl, rfl⟩

theorem ownsRow_view {w : World} {base size : Nat} {e : TypeId} {v : Value} {n : Nat} {xs : List Value} (h : w.ownsRow base e size v n xs) : ∃ a c, v = .slice a n c ∧ n ≤ maxLen := by
  rcases h.2 with ⟨rfl, rfl⟩ | ⟨g, cap, cur, rfl, _, _, h1, h2, _⟩
  · exact ⟨_, _, rfl, by simp [maxLen]⟩
  · exact ⟨_, _, rfl, Nat.le_trans h1 h2⟩

set_option maxHeartbeats 400000 in
theorem pending_any {w : World} {base bd bk bn : Nat} {pv : Value} {kept now : Bs} {pend : List (Nat × Bs)} (D : DiskAt w base bd bk bn pv kept now pend) :
    Calls Try.prog 16 #[.pointer (some ⟨bd, 0, none⟩)] w fun e w' => e = .returned (.int .i64 pend.length) ∧ w = w' := by
  obtain ⟨a, c, hv, hm⟩ := ownsRow_view D.hp
  unfold maxLen at hm
  have hd := D.hd
  rw [hv] at hd
  have c0 := cell_of (i := 2) hd rfl
  clear D hd hv
  go_enter Try.func16, Try.ntmps16
  go_wp2
  go_ret
  exact ⟨rfl, rfl⟩

set_option maxHeartbeats 400000 in
theorem pending_nil (w : World) : Calls Try.prog 16 #[.pointer none] w fun e w' => e = .returned (.int .i64 0) ∧ w = w' := by
  go_enter Try.func16, Try.ntmps16
  go_wp2
  go_ret
  exact ⟨rfl, rfl⟩

def zeros (n : Nat) : Bs := List.replicate n 0
theorem zeros_length (n : Nat) : (zeros n).length = n := by simp [zeros]
theorem Try.info5 : (Try.prog.info? 5).map (fun i => (i.zero, i.size, i.bytes)) = some (some (.int .u8 0), 1, 1) := by kernel_rfl
theorem made_zeros (n : Nat) : madeCells #[Value.int .u8 0] n = (byteCells (zeros n)).toArray := by
  apply Array.ext'
  rw [toList_madeCells_one]
  simp [byteCells, zeros]
theorem make_bytes (n : Nat) (h : n ≤ 100000) (u : World) : (Instr.makeSlice 35 (.int .i64 (n : Int)) (.int .i64 (n : Int))).run Try.prog u =
    .ok (.slice (some ⟨u.heap.size, 0, none⟩) n n) (u.alloc (.cells (byteCells (zeros n)).toArray 5)) := by
  obtain ⟨i0, hi, hz0, hz1, hz2⟩ := info_parts Try.info5
  have h := run_make (P := Try.prog) u 35 5 i0 (.int .u8 0) Try.underlying35 hi hz0 .i64 .i64 (n : Int) (n : Int) (by omega) (Int.le_refl _) (by rw [hz2]; omega) (by omega)
  simpa [hz1, Value.cells, made_zeros] using h

set_option maxHeartbeats 400000 in
theorem new_bad (n : Int) (w : World) (h : n < 64 ∨ 65536 < n ∨ n % 64 ≠ 0) (h1 : -9223372036854775808 ≤ n) (h2 : n ≤ 9223372036854775807) :
    Calls Try.prog 18 #[.int .i64 n] w fun e w' => e = .returned (.tuple #[.pointer none, .int .i64 2]) ∧ w = w' := by
  by_cases ha : n < 64
  · clear h
    go_enter Try.func18, Try.ntmps18
    go_wp2
    go_ret2
    exact ⟨rfl, rfl⟩
  · by_cases hb : 65536 < n
    · clear h
      go_enter Try.func18, Try.ntmps18
      go_wp2
      go_ret2
      exact ⟨rfl, rfl⟩
    · have hc : (n % 64 != 0) = true := by
        rw [bne_iff_ne]; omega
      have h0 : 0 ≤ n := by omega
      clear h
      go_enter Try.func18, Try.ntmps18
      go_wp2
      go_ret2
      exact ⟨rfl, rfl⟩

theorem disk_new (w : World) (n : Nat) (h1 : 64 ≤ n) (h2 : n ≤ 65536) {bk bn : Nat} (hb : (bk = w.heap.size ∧ bn = w.heap.size + 1) ∨ (bk = w.heap.size + 1 ∧ bn = w.heap.size)) :
    DiskAt (((w.alloc (.cells (byteCells (zeros n)).toArray 5)).alloc (.cells (byteCells (zeros n)).toArray 5)).alloc (.cells #[.slice (some ⟨bk, 0, none⟩) n n, .slice (some ⟨bn, 0, none⟩) n n, .slice none 0 0] 65)).drew
      w.heap.size (w.heap.size + 1 + 1) bk bn (.slice none 0 0) (zeros n) (zeros n) [] := by
  have e0 := heap_alloc_keep (heap_alloc_keep (heap_alloc_new w (.cells (byteCells (zeros n)).toArray 5)) (.cells (byteCells (zeros n)).toArray 5)) (.cells #[.slice (some ⟨bk, 0, none⟩) n n, .slice (some ⟨bn, 0, none⟩) n n, .slice none 0 0] 65)
  have e1 := heap_alloc_keep (heap_alloc_new (w.alloc (.cells (byteCells (zeros n)).toArray 5)) (.cells (byteCells (zeros n)).toArray 5)) (.cells #[.slice (some ⟨bk, 0, none⟩) n n, .slice (some ⟨bn, 0, none⟩) n n, .slice none 0 0] 65)
  have e2 := heap_alloc_new ((w.alloc (.cells (byteCells (zeros n)).toArray 5)).alloc (.cells (byteCells (zeros n)).toArray 5)) (.cells #[.slice (some ⟨bk, 0, none⟩) n n, .slice (some ⟨bn, 0, none⟩) n n, .slice none 0 0] 65)
  simp only [World.size_alloc] at e1 e2
  refine ⟨by rw [zeros_length]; exact e2, ?_, ?_, World.ownsRow_nil _ _ _ _, rfl, ?_, by rw [zeros_length]; exact h1, by rw [zeros_length]; exact h2, by simp, by omega, ?_, ?_⟩
  all_goals rcases hb with ⟨rfl, rfl⟩ | ⟨rfl, rfl⟩
  all_goals first | exact e0 | exact e1 | omega

theorem DiskAt.keep {w w' : World} {base bd bk bn : Nat} {pv : Value} {kept now : Bs} {pend : List (Nat × Bs)} (D : DiskAt w base bd bk bn pv kept now pend) {F : List Nat} (h : Chg F w w')
    (n1 : bd ∉ F) (n2 : bk ∉ F) (n3 : bn ∉ F) (n4 : ∀ g, pv.ownBlock = some g → g ∉ F) : DiskAt w' base bd bk bn pv kept now pend :=
  ⟨h.heap D.hd n1, h.heap D.hk n2, h.heap D.hn n3, h.owns D.hp n4, D.len, D.ne, D.lo, D.hi, D.ok, D.b1, D.b2, D.b3⟩

set_option maxHeartbeats 400000 in
theorem new_ok (n : Nat) (w : World) (h1 : 64 ≤ n) (h2 : n ≤ 65536) (h3 : n % 64 = 0) :
    Calls Try.prog 18 #[.int .i64 n] w fun e w' => ∃ bd bk bn, e = .returned (.tuple #[.pointer (some ⟨bd, 0, none⟩), .int .i64 0]) ∧
      DiskAt w' w.heap.size bd bk bn (.slice none 0 0) (zeros n) (zeros n) [] ∧ Chg [] w w' := by
  have hmk := make_bytes n (by omega)
  have hc : ((n : Int) % 64 != 0) = false := by
    rw [bne_eq_false_iff_eq]; omega
  clear h3
  go_enter Try.func18, Try.ntmps18
  go_wp2
  go_region
  all_goals go_wp2
  all_goals go_ret2
  · exact ⟨_, w.heap.size, w.heap.size + 1, rfl, disk_new w n h1 h2 (Or.inl ⟨rfl, rfl⟩), ((((Chg.refl _ w).alloc _).alloc _).alloc _).drew⟩
  · exact ⟨_, w.heap.size + 1, w.heap.size, rfl, disk_new w n h1 h2 (Or.inr ⟨rfl, rfl⟩), ((((Chg.refl _ w).alloc _).alloc _).alloc _).drew⟩

end Go.Proofs.Ytknmebknkncmoaa
