/- General lemmas on memory: which blocks a call may have written; rows of bytes; copy out of a string; a row turned into a string. No condition. -/
import Derived.WalkKit
import Derived.WalkSpells
import Derived.WalkLawsBesides
import Derived.Laws.CopyOwn
import Derived.Laws.BytesString
import Derived.Lib.BufferWrite
import Derived.Deep.AppendLies
import Derived.Lib.Hide
namespace Go.Proofs.YthkjmplcmfabfaaGreatDoor
open Go.RowKit Go.Lib

/-- Only the blocks of F, of those that were there, may have turned. -/
structure Chg (F : List Nat) (w w' : World) : Prop where
  os : w'.os = w.os
  tape : w'.tape = w.tape
  output : w'.output = w.output
  size : w.heap.size ≤ w'.heap.size
  block : ∀ k, k < w.heap.size → k ∉ F → w'.heap[k]? = w.heap[k]?

theorem Chg.refl (F : List Nat) (w : World) : Chg F w w := ⟨rfl, rfl, rfl, Nat.le_refl _, fun _ _ _ => rfl⟩
theorem Chg.trans {F G : List Nat} {a b c : World} (h : Chg F a b) (k : Chg G b c) (hG : ∀ g ∈ G, g ∈ F ∨ a.heap.size ≤ g) : Chg F a c :=
  ⟨k.os.trans h.os, k.tape.trans h.tape, k.output.trans h.output, Nat.le_trans h.size k.size, fun i hi hn =>
    (k.block i (Nat.lt_of_lt_of_le hi h.size) (fun hg => by rcases hG i hg with h1 | h1; exact hn h1; omega)).trans (h.block i hi hn)⟩
theorem Chg.mono {F G : List Nat} {a b : World} (h : Chg F a b) (hs : ∀ x ∈ F, x ∈ G) : Chg G a b :=
  ⟨h.os, h.tape, h.output, h.size, fun k hk hn => h.block k hk (fun hf => hn (hs k hf))⟩
theorem Chg.drew {F : List Nat} {a b : World} (h : Chg F a b) : Chg F a b.drew := ⟨h.os, h.tape, h.output, h.size, h.block⟩
theorem Chg.drewN {F : List Nat} {a b : World} (h : Chg F a b) (n : Nat) : Chg F a (b.drewN n) := ⟨h.os, h.tape, h.output, h.size, h.block⟩
theorem Chg.alloc {F : List Nat} {a b : World} (h : Chg F a b) (o : Obj) : Chg F a (b.alloc o) :=
  ⟨h.os, h.tape, h.output, by simp; have := h.size; omega, fun k hk hn => (heap_alloc_old b o (Nat.lt_of_lt_of_le hk h.size)).trans (h.block k hk hn)⟩
theorem Chg.setCell {F : List Nat} {a b : World} (h : Chg F a b) {p : Addr} (hp : p.block ∈ F ∨ a.heap.size ≤ p.block) (u : Value) : Chg F a (b.setCell p u) :=
  ⟨h.os, h.tape, h.output, by simpa using h.size, fun k hk hn => (Below.heap_setCell b p u k (by rintro rfl; rcases hp with h1 | h1; exact hn h1; omega)).trans (h.block k hk hn)⟩
theorem Chg.setRow {F : List Nat} {a b : World} (h : Chg F a b) {g : Nat} (hp : g ∈ F ∨ a.heap.size ≤ g) (cs : Array Value) : Chg F a (b.setRow g cs) :=
  ⟨h.os, h.tape, h.output, by simpa [World.setRow] using h.size, fun k hk hn => (setRow_other b g k cs (by rintro rfl; rcases hp with h1 | h1; exact hn h1; omega)).trans (h.block k hk hn)⟩
theorem Chg.grown {F : List Nat} {a b c : World} {row : Option Nat} (h : Chg F a b) (hg : b.grownBy c row) (hp : ∀ k, row = some k → k ∈ F ∨ a.heap.size ≤ k) : Chg F a c :=
  ⟨hg.os.trans h.os, hg.tape.trans h.tape, hg.output.trans h.output, Nat.le_trans h.size hg.size, fun k hk hn =>
    (hg.block k (Nat.lt_of_lt_of_le hk h.size) (fun e => by rcases hp k e.symm with h1 | h1; exact hn h1; omega)).trans (h.block k hk hn)⟩
theorem Chg.of_below {F : List Nat} {a b : World} (h : Below a.heap.size a b) : Chg F a b := ⟨h.os, h.tape, h.output, h.size, fun k hk _ => h.block k hk⟩
theorem Chg.below {F : List Nat} {a b : World} {B : Nat} (h : Chg F a b) (hB : ∀ x ∈ F, B ≤ x) (hs : B ≤ a.heap.size) : Below B a b :=
  ⟨h.os, h.tape, h.output, h.size, fun k hk => h.block k (by omega) (fun hf => by have := hB k hf; omega)⟩
theorem Chg.nil_below {a b : World} (h : Chg [] a b) : Below a.heap.size a b := h.below (by simp) (Nat.le_refl _)
theorem Chg.heap {F : List Nat} {a b : World} (h : Chg F a b) {k : Nat} {o : Obj} (ho : a.heap[k]? = some o) (hn : k ∉ F) : b.heap[k]? = some o :=
  (h.block k (Array.getElem?_eq_some_iff.1 ho).1 hn).trans ho
theorem Chg.cell {F : List Nat} {a b : World} (h : Chg F a b) {p : Addr} {v : Value} (hc : a.cell? p = some v) (hn : p.block ∉ F) : b.cell? p = some v :=
  (World.cell?_of_block (h.block p.block (World.block_lt_of_cell? _ _ hc) hn)).trans hc
theorem Chg.owns {F : List Nat} {a b : World} (h : Chg F a b) {base size n : Nat} {e : TypeId} {v : Value} {xs : List Value} (ho : a.ownsRow base e size v n xs) (hn : ∀ g, v.ownBlock = some g → g ∉ F) : b.ownsRow base e size v n xs := by
  refine ⟨ho.1, ?_⟩
  rcases ho.2 with h0 | ⟨g, cap, cur, rfl, hb, hg, rest⟩
  · exact .inl h0
  · exact .inr ⟨g, cap, cur, rfl, hb, h.heap hg (hn g rfl), rest⟩

theorem ret_int {k : IntKind} {a b : Int} (h : a = b) : Ending.returned (.int k a) = .returned (.int k b) := by rw [h]
theorem ret_bool {a b : Bool} (h : a = b) : Ending.returned (.bool a) = .returned (.bool b) := by rw [h]
theorem neg_tmod_emod (a n : Int) (h : a ≤ 0) : -(a.tmod n) = (-a) % n := by
  rw [← Int.neg_tmod, Int.tmod_eq_emod_of_nonneg (by omega)]

theorem heap_lt {w : World} {b : Nat} {o : Obj} (h : w.heap[b]? = some o) : b < w.heap.size := (Array.getElem?_eq_some_iff.1 h).1
theorem heap_ne {w : World} {a b : Nat} {c d : Array Value} {s t : TypeId} {f g : Nat × Nat} (h : w.heap[a]? = some (.cells c s f)) (k : w.heap[b]? = some (.cells d t g)) (hst : s ≠ t) : a ≠ b := by
  rintro rfl
  rw [h] at k
  simp at k
  exact hst k.2.1
theorem cell_of {w : World} {b i : Nat} {xs : Array Value} {t : TypeId} {f : Nat × Nat} {v : Value} (h : w.heap[b]? = some (.cells xs t f)) (hv : xs[i]? = some v) : w.cell? ⟨b, i, none⟩ = some v := by
  simp [World.cell?, h, hv]
theorem free_of {w : World} {b i : Nat} {xs : Array Value} {t : TypeId} (h : w.heap[b]? = some (.cells xs t (0, 0))) : w.frozen? ⟨b, i, none⟩ = false := by
  simp [World.frozen?, h]
theorem heap_setCell_at {w : World} {b i : Nat} {xs : Array Value} {t : TypeId} {f : Nat × Nat} (h : w.heap[b]? = some (.cells xs t f)) (u : Value) : (w.setCell ⟨b, i, none⟩ u).heap[b]? = some (.cells (xs.setIfInBounds i u) t f) := by
  simp [World.setCell, Array.getElem?_modify, h]
theorem heap_setCell_far {w : World} {b i k : Nat} {o : Obj} (h : w.heap[k]? = some o) (hk : k ≠ b) (u : Value) : (w.setCell ⟨b, i, none⟩ u).heap[k]? = some o :=
  (Below.heap_setCell w _ u k hk).trans h
theorem cell_setCell_far {w : World} {b i : Nat} {p : Addr} {u : Value} (h : w.cell? p = some u) (hne : p.block ≠ b) (v : Value) : (w.setCell ⟨b, i, none⟩ v).cell? p = some u :=
  (World.cell?_of_block (w := w) (Below.heap_setCell w ⟨b, i, none⟩ v p.block hne)).trans h
theorem heap_setRow_at {w : World} {g : Nat} {cur cs : Array Value} {t : TypeId} {f : Nat × Nat} (h : w.heap[g]? = some (.cells cur t f)) : (w.setRow g cs).heap[g]? = some (.cells cs t f) :=
  setRow_heap w g _ _ t _ h
theorem heap_setRow_far {w : World} {g k : Nat} {o : Obj} (h : w.heap[k]? = some o) (hk : k ≠ g) (cs : Array Value) : (w.setRow g cs).heap[k]? = some o :=
  (setRow_other w g k cs hk).trans h
theorem heap_alloc_keep {w : World} {k : Nat} {o : Obj} (h : w.heap[k]? = some o) (o' : Obj) : (w.alloc o').heap[k]? = some o :=
  (heap_alloc_old w o' (heap_lt h)).trans h

end Go.Proofs.YthkjmplcmfabfaaGreatDoor
