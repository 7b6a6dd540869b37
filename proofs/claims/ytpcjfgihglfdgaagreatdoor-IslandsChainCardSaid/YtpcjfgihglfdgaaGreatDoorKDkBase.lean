/- General lemmas on memory: which blocks a call may have written; rows of bytes; copy out of a string; a row turned into a string. No condition. Texts as lists of bytes; the beginning of a text whose bytes are of a kind. No condition. Contracts of lex's small functions: kinds of runes, the beginning of a text of a kind, what is left, a piece. No condition. Contracts of HasPrefix, CutPrefix, LastIndexByte over texts as lists of bytes. No condition. Spills on a sheet: which are placed and which are blocked; no program in sight. No condition. Spills on a sheet: where each of them stands among those placed and those blocked; why one is blocked; which one has a place; no program in sight. No condition. Places of raw numbers, in order, each once; spills of them: what the laws on spills are made of; no program in sight. No condition. -/
import Derived.WalkKit
import Derived.WalkSpells
import Derived.WalkLawsBesides
import Derived.Laws.CopyOwn
import Derived.Laws.BytesString
import Derived.Lib.BufferWrite
import Derived.Deep.AppendLies
import Derived.Lib.Hide
import Derived.Laws.Strings2
import Derived.Test.YtpcjfgihglfdgaaGreatDoorRows
import Derived.BigQuiet
import Derived.BigRegion
import Derived.Deep.QuietTactic
import Derived.RegionTactic
import Derived.ChangeAlike
import Derived.LoopTactic
import Derived.Laws.RangeString
import Derived.Laws.RangeAny

namespace Go.Proofs.YtpcjfgihglfdgaaGreatDoor
open Go.RowKit Go.Lib

/-- Only the blocks of F, of those that were there, may have turned. -/
structure Chg (F : List Nat) (w w' : World) : Prop where
  os : w'.os = w.os
  tape : w'.tape = w.tape
  output : w'.output = w.output
  size : w.heap.size ≤ w'.heap.size
  block : ∀ k, k < w.heap.size → k ∉ F → w'.heap[k]? = w.heap[k]?

theorem Chg.refl (F : List Nat) (w : World) : Chg F w w := ⟨rfl, rfl, rfl, Nat.le_refl _, fun _ _ _ => rfl⟩
theorem Chg.trans {F G : List Nat} {a b c : World} (h : Chg F a b) (k : Chg G b c) (hG : ∀ g ∈ G, g ∈ F ∨ a.heap.size ≤ g) : Chg F a c :=
  ⟨k.os.trans h.os, k.tape.trans h.tape, k.output.trans h.output, Nat.le_trans h.size k.size, fun i hi hn =>
    (k.block i (Nat.lt_of_lt_of_le hi h.size) (fun hg => by rcases hG i hg with h1 | h1; exact hn h1; omega)).trans (h.block i hi hn)⟩
theorem Chg.mono {F G : List Nat} {a b : World} (h : Chg F a b) (hs : ∀ x ∈ F, x ∈ G) : Chg G a b :=
  ⟨h.os, h.tape, h.output, h.size, fun k hk hn => h.block k hk (fun hf => hn (hs k hf))⟩
theorem Chg.drew {F : List Nat} {a b : World} (h : Chg F a b) : Chg F a b.drew := ⟨h.os, h.tape, h.output, h.size, h.block⟩
theorem Chg.drewN {F : List Nat} {a b : World} (h : Chg F a b) (n : Nat) : Chg F a (b.drewN n) := ⟨h.os, h.tape, h.output, h.size, h.block⟩
theorem Chg.alloc {F : List Nat} {a b : World} (h : Chg F a b) (o : Obj) : Chg F a (b.alloc o) :=
  ⟨h.os, h.tape, h.output, by simp; have := h.size; omega, fun k hk hn => (heap_alloc_old b o (Nat.lt_of_lt_of_le hk h.size)).trans (h.block k hk hn)⟩
theorem Chg.setCell {F : List Nat} {a b : World} (h : Chg F a b) {p : Addr} (hp : p.block ∈ F ∨ a.heap.size ≤ p.block) (u : Value) : Chg F a (b.setCell p u) :=
  ⟨h.os, h.tape, h.output, by simpa using h.size, fun k hk hn => (Below.heap_setCell b p u k (by rintro rfl; rcases hp with h1 | h1; exact hn h1; omega)).trans (h.block k hk hn)⟩
theorem Chg.setRow {F : List Nat} {a b : World} (h : Chg F a b) {g : Nat} (hp : g ∈ F ∨ a.heap.size ≤ g) (cs : Array Value) : Chg F a (b.setRow g cs) :=
  ⟨h.os, h.tape, h.output, by simpa [World.setRow] using h.size, fun k hk hn => (setRow_other b g k cs (by rintro rfl; rcases hp with h1 | h1; exact hn h1; omega)).trans (h.block k hk hn)⟩
theorem Chg.grown {F : List Nat} {a b c : World} {row : Option Nat} (h : Chg F a b) (hg : b.grownBy c row) (hp : ∀ k, row = some k → k ∈ F ∨ a.heap.size ≤ k) : Chg F a c :=
  ⟨hg.os.trans h.os, hg.tape.trans h.tape, hg.output.trans h.output, Nat.le_trans h.size hg.size, fun k hk hn =>
    (hg.block k (Nat.lt_of_lt_of_le hk h.size) (fun e => by rcases hp k e.symm with h1 | h1; exact hn h1; omega)).trans (h.block k hk hn)⟩
theorem Chg.of_below {F : List Nat} {a b : World} (h : Below a.heap.size a b) : Chg F a b := ⟨h.os, h.tape, h.output, h.size, fun k hk _ => h.block k hk⟩
theorem Chg.below {F : List Nat} {a b : World} {B : Nat} (h : Chg F a b) (hB : ∀ x ∈ F, B ≤ x) (hs : B ≤ a.heap.size) : Below B a b :=
  ⟨h.os, h.tape, h.output, h.size, fun k hk => h.block k (by omega) (fun hf => by have := hB k hf; omega)⟩
theorem Chg.nil_below {a b : World} (h : Chg [] a b) : Below a.heap.size a b := h.below (by simp) (Nat.le_refl _)
theorem Chg.heap {F : List Nat} {a b : World} (h : Chg F a b) {k : Nat} {o : Obj} (ho : a.heap[k]? = some o) (hn : k ∉ F) : b.heap[k]? = some o :=
  (h.block k (Array.getElem?_eq_some_iff.1 ho).1 hn).trans ho
theorem Chg.cell {F : List Nat} {a b : World} (h : Chg F a b) {p : Addr} {v : Value} (hc : a.cell? p = some v) (hn : p.block ∉ F) : b.cell? p = some v :=
  (World.cell?_of_block (h.block p.block (World.block_lt_of_cell? _ _ hc) hn)).trans hc
theorem Chg.owns {F : List Nat} {a b : World} (h : Chg F a b) {base size n : Nat} {e : TypeId} {v : Value} {xs : List Value} (ho : a.ownsRow base e size v n xs) (hn : ∀ g, v.ownBlock = some g → g ∉ F) : b.ownsRow base e size v n xs := by
  refine ⟨ho.1, ?_⟩
  rcases ho.2 with h0 | ⟨g, cap, cur, rfl, hb, hg, rest⟩
  · exact .inl h0
  · exact .inr ⟨g, cap, cur, rfl, hb, h.heap hg (hn g rfl), rest⟩

theorem ret_int {k : IntKind} {a b : Int} (h : a = b) : Ending.returned (.int k a) = .returned (.int k b) := by rw [h]
theorem ret_bool {a b : Bool} (h : a = b) : Ending.returned (.bool a) = .returned (.bool b) := by rw [h]
theorem heap_lt {w : World} {b : Nat} {o : Obj} (h : w.heap[b]? = some o) : b < w.heap.size := (Array.getElem?_eq_some_iff.1 h).1
theorem heap_ne {w : World} {a b : Nat} {c d : Array Value} {s t : TypeId} {f g : Nat × Nat} (h : w.heap[a]? = some (.cells c s f)) (k : w.heap[b]? = some (.cells d t g)) (hst : s ≠ t) : a ≠ b := by
  rintro rfl
  rw [h] at k
  simp at k
  exact hst k.2.1
theorem cell_of {w : World} {b i : Nat} {xs : Array Value} {t : TypeId} {f : Nat × Nat} {v : Value} (h : w.heap[b]? = some (.cells xs t f)) (hv : xs[i]? = some v) : w.cell? ⟨b, i, none⟩ = some v := by
  simp [World.cell?, h, hv]
theorem free_of {w : World} {b i : Nat} {xs : Array Value} {t : TypeId} (h : w.heap[b]? = some (.cells xs t (0, 0))) : w.frozen? ⟨b, i, none⟩ = false := by
  simp [World.frozen?, h]
theorem heap_setCell_at {w : World} {b i : Nat} {xs : Array Value} {t : TypeId} {f : Nat × Nat} (h : w.heap[b]? = some (.cells xs t f)) (u : Value) : (w.setCell ⟨b, i, none⟩ u).heap[b]? = some (.cells (xs.setIfInBounds i u) t f) := by
  simp [World.setCell, Array.getElem?_modify, h]
theorem heap_setCell_far {w : World} {b i k : Nat} {o : Obj} (h : w.heap[k]? = some o) (hk : k ≠ b) (u : Value) : (w.setCell ⟨b, i, none⟩ u).heap[k]? = some o :=
  (Below.heap_setCell w _ u k hk).trans h
theorem cell_setCell_far {w : World} {b i : Nat} {p : Addr} {u : Value} (h : w.cell? p = some u) (hne : p.block ≠ b) (v : Value) : (w.setCell ⟨b, i, none⟩ v).cell? p = some u :=
  (World.cell?_of_block (w := w) (Below.heap_setCell w ⟨b, i, none⟩ v p.block hne)).trans h
theorem heap_setRow_at {w : World} {g : Nat} {cur cs : Array Value} {t : TypeId} {f : Nat × Nat} (h : w.heap[g]? = some (.cells cur t f)) : (w.setRow g cs).heap[g]? = some (.cells cs t f) :=
  setRow_heap w g _ _ t _ h
theorem heap_setRow_far {w : World} {g k : Nat} {o : Obj} (h : w.heap[k]? = some o) (hk : k ≠ g) (cs : Array Value) : (w.setRow g cs).heap[k]? = some o :=
  (setRow_other w g k cs hk).trans h
theorem heap_alloc_keep {w : World} {k : Nat} {o : Obj} (h : w.heap[k]? = some o) (o' : Obj) : (w.alloc o').heap[k]? = some o :=
  (heap_alloc_old w o' (heap_lt h)).trans h

end Go.Proofs.YtpcjfgihglfdgaaGreatDoor

namespace Go.Proofs.YtpcjfgihglfdgaaGreatDoor

def bs (l : List UInt8) : ByteArray := ⟨l.toArray⟩
theorem bs_data (l : List UInt8) : (bs l).data.toList = l := by simp [bs]
theorem bs_size (l : List UInt8) : (bs l).size = l.length := by simp [bs, ByteArray.size]
theorem bs_extract (l : List UInt8) (a b : Nat) : (bs l).extract a b = bs ((l.drop a).take (b - a)) := ByteArray.extract_mk l a b
theorem bs_append (l m : List UInt8) : bs l ++ bs m = bs (l ++ m) := by
  apply ByteArray.ext
  simp [bs]
theorem bs_get (l : List UInt8) (i : Nat) (h : i < (bs l).size) : (bs l)[i] = l[i]'(by rw [bs_size] at h; exact h) := by
  simp [bs, ByteArray.getElem_eq_getElem_data]
/-- what is left of a text behind its first bytes -/
theorem bs_rest (p r : List UInt8) : (bs (p ++ r)).extract p.length (bs (p ++ r)).size = bs r := by
  rw [bs_extract, bs_size, List.drop_left, List.take_of_length_le (by simp)]
/-- how many bytes ahead are of a kind -/
def span (f : UInt8 → Bool) (l : List UInt8) : Nat := (l.takeWhile f).length
theorem span_le (f : UInt8 → Bool) (l : List UInt8) : span f l ≤ l.length := (List.takeWhile_sublist f).length_le
theorem span_at {f : UInt8 → Bool} {l : List UInt8} {k : Nat} (h : k < span f l) : ∃ b, l[k]? = some b ∧ f b = true := by
  induction l generalizing k with
  | nil => simp [span] at h
  | cons x l ih =>
    unfold span at h
    rw [List.takeWhile_cons] at h
    by_cases hx : f x = true
    · rw [if_pos hx] at h
      cases k with
      | zero => exact ⟨x, rfl, hx⟩
      | succ k => exact ih (k := k) (by unfold span; simpa using h)
    · rw [if_neg hx] at h
      simp at h
theorem span_end {f : UInt8 → Bool} {l : List UInt8} {b : UInt8} (h : l[span f l]? = some b) : f b = false := by
  induction l with
  | nil => simp at h
  | cons x l ih =>
    unfold span at h
    rw [List.takeWhile_cons] at h
    by_cases hx : f x = true
    · rw [if_pos hx, List.length_cons, List.getElem?_cons_succ] at h
      exact ih h
    · rw [if_neg hx] at h
      simp at h
      subst h
      simpa using hx
theorem span_is {f : UInt8 → Bool} {p r : List UInt8} (hp : ∀ b ∈ p, f b = true) (hr : ∀ b, r.head? = some b → f b = false) : span f (p ++ r) = p.length := by
  induction p with
  | nil =>
    cases r with
    | nil => rfl
    | cons b r =>
      have := hr b rfl
      simp [span, this]
  | cons x p ih =>
    have hx := hp x (by simp)
    have := ih (fun b hb => hp b (by simp [hb]))
    unfold span at *
    rw [List.cons_append, List.takeWhile_cons, if_pos hx, List.length_cons, this, List.length_cons]
end Go.Proofs.YtpcjfgihglfdgaaGreatDoor

namespace Go.Proofs.YtpcjfgihglfdgaaGreatDoor
open Go.RowKit Go.Lib

def digitB (b : UInt8) : Bool := decide (48 ≤ b.toNat ∧ b.toNat ≤ 57)
def letterB (b : UInt8) : Bool := decide ((65 ≤ b.toNat ∧ b.toNat ≤ 90) ∨ (97 ≤ b.toNat ∧ b.toNat ≤ 122))
def wordyB (b : UInt8) : Bool := digitB b || letterB b || decide (b.toNat = 95) || decide (b.toNat = 46) || decide (b.toNat = 36)

set_option maxHeartbeats 400000 in
theorem lexDigit_any (c : Nat) (w : World) : Calls Tryz.prog 204 #[.int .i32 c] w fun e w' => e = .returned (.bool (decide (48 ≤ c ∧ c ≤ 57))) ∧ w = w' := by
  go_enter Tryz.func204, Tryz.ntmps204
  by_cases h1 : 48 ≤ c
  · have d1 : (48 ≤ (c : Int)) = True := by rw [eq_iff_iff, iff_true]; omega
    by_cases h2 : c ≤ 57
    · have d2 : ((c : Int) ≤ 57) = True := by rw [eq_iff_iff, iff_true]; omega
      go_wp2_with fail
      go_ret
      exact ⟨by rw [decide_eq_true ⟨h1, h2⟩]; rfl, rfl⟩
    · have d2 : ((c : Int) ≤ 57) = False := by rw [eq_iff_iff, iff_false]; omega
      go_wp2_with fail
      go_ret
      exact ⟨by rw [decide_eq_false (by omega)]; rfl, rfl⟩
  · have d1 : (48 ≤ (c : Int)) = False := by rw [eq_iff_iff, iff_false]; omega
    go_wp2_with fail
    go_ret
    exact ⟨by rw [decide_eq_false (by omega)]; rfl, rfl⟩
set_option maxHeartbeats 800000 in
theorem lexLetter_any (c : Nat) (w : World) : Calls Tryz.prog 260 #[.int .i32 c] w fun e w' => e = .returned (.bool (decide ((65 ≤ c ∧ c ≤ 90) ∨ (97 ≤ c ∧ c ≤ 122)))) ∧ w = w' := by
  go_enter Tryz.func260, Tryz.ntmps260
  by_cases h1 : 65 ≤ c
  · have d1 : (65 ≤ (c : Int)) = True := by rw [eq_iff_iff, iff_true]; omega
    by_cases h2 : c ≤ 90
    · have d2 : ((c : Int) ≤ 90) = True := by rw [eq_iff_iff, iff_true]; omega
      go_wp2_with fail
      go_ret
      exact ⟨by rw [decide_eq_true (.inl ⟨h1, h2⟩)]; rfl, rfl⟩
    · have d2 : ((c : Int) ≤ 90) = False := by rw [eq_iff_iff, iff_false]; omega
      by_cases h3 : 97 ≤ c
      · have d3 : (97 ≤ (c : Int)) = True := by rw [eq_iff_iff, iff_true]; omega
        by_cases h4 : c ≤ 122
        · have d4 : ((c : Int) ≤ 122) = True := by rw [eq_iff_iff, iff_true]; omega
          go_wp2_with fail
          go_ret
          exact ⟨by rw [decide_eq_true (.inr ⟨h3, h4⟩)]; rfl, rfl⟩
        · have d4 : ((c : Int) ≤ 122) = False := by rw [eq_iff_iff, iff_false]; omega
          go_wp2_with fail
          go_ret
          exact ⟨by rw [decide_eq_false (by omega)]; rfl, rfl⟩
      · have d3 : (97 ≤ (c : Int)) = False := by rw [eq_iff_iff, iff_false]; omega
        go_wp2_with fail
        go_ret
        exact ⟨by rw [decide_eq_false (by omega)]; rfl, rfl⟩
  · have d1 : (65 ≤ (c : Int)) = False := by rw [eq_iff_iff, iff_false]; omega
    have d3 : (97 ≤ (c : Int)) = False := by rw [eq_iff_iff, iff_false]; omega
    go_wp2_with fail
    go_ret
    exact ⟨by rw [decide_eq_false (by omega)]; rfl, rfl⟩
set_option maxHeartbeats 800000 in
theorem lexWordy_any (b : UInt8) (w : World) : Calls Tryz.prog 209 #[.int .i32 b.toNat] w fun e w' => e = .returned (.bool (wordyB b)) ∧ w = w' := by
  obtain ⟨c, hc⟩ : ∃ c, c = b.toNat := ⟨_, rfl⟩
  have hw : wordyB b = (decide (48 ≤ c ∧ c ≤ 57) || decide ((65 ≤ c ∧ c ≤ 90) ∨ (97 ≤ c ∧ c ≤ 122)) || decide (c = 95) || decide (c = 46) || decide (c = 36)) := by rw [hc]; rfl
  rw [hw, ← hc]
  clear hw hc
  have hD := hid (fun w => lexDigit_any c w)
  have hL := hid (fun w => lexLetter_any c w)
  go_enter Tryz.func209, Tryz.ntmps209
  go_wp2_with fail
  refine (hD.out _).mono ?_
  rintro e w1 ⟨rfl, rfl⟩
  generalize hbd : decide (48 ≤ c ∧ c ≤ 57) = bd
  cases bd with
  | true =>
    go_wp2_with fail
    go_ret
    exact ⟨by rw [hbd]; rfl, rfl⟩
  | false =>
    go_wp2_with fail
    refine (hL.out _).mono ?_
    rintro e w1 ⟨rfl, rfl⟩
    generalize hbl : decide ((65 ≤ c ∧ c ≤ 90) ∨ (97 ≤ c ∧ c ≤ 122)) = bl
    cases bl with
    | true =>
      go_wp2_with fail
      go_ret
      exact ⟨by rw [hbd, hbl]; rfl, rfl⟩
    | false =>
      by_cases h1 : c = 95
      · have d1 : ((c : Int) = 95) = True := by rw [eq_iff_iff, iff_true]; omega
        go_wp2_with fail
        go_ret
        exact ⟨by rw [hbd, hbl, decide_eq_true h1]; rfl, rfl⟩
      · have d1 : ((c : Int) = 95) = False := by rw [eq_iff_iff, iff_false]; omega
        by_cases h2 : c = 46
        · have d2 : ((c : Int) = 46) = True := by rw [eq_iff_iff, iff_true]; omega
          go_wp2_with fail
          go_ret
          exact ⟨by rw [hbd, hbl, decide_eq_false h1, decide_eq_true h2]; rfl, rfl⟩
        · have d2 : ((c : Int) = 46) = False := by rw [eq_iff_iff, iff_false]; omega
          have e1 : ((c : Int) == 95) = decide (c = 95) := by rw [Bool.eq_iff_iff]; simp; omega
          have e2 : ((c : Int) == 46) = decide (c = 46) := by rw [Bool.eq_iff_iff]; simp; omega
          have e3 : ((c : Int) == 36) = decide (c = 36) := by rw [Bool.eq_iff_iff]; simp; omega
          by_cases h3 : c = 36
          · have d3 : ((c : Int) = 36) = True := by rw [eq_iff_iff, iff_true]; omega
            go_wp2_with fail
            go_ret
            exact ⟨by rw [hbd, hbl, decide_eq_false h1, decide_eq_false h2, decide_eq_true h3]; rfl, rfl⟩
          · have d3 : ((c : Int) = 36) = False := by rw [eq_iff_iff, iff_false]; omega
            go_wp2_with fail
            go_ret
            exact ⟨by rw [hbd, hbl, decide_eq_false h1, decide_eq_false h2, decide_eq_false h3]; rfl, rfl⟩
theorem lexDigit_b (b : UInt8) (w : World) : Calls Tryz.prog 204 #[.int .i32 b.toNat] w fun e w' => e = .returned (.bool (digitB b)) ∧ w = w' := lexDigit_any b.toNat w
set_option maxRecDepth 20000 in
set_option maxHeartbeats 1000000 in
/-- the beginning of an ASCII text whose bytes are of a kind -/
theorem while_any (id : FuncId) (hi0 : id = 204 ∨ id = 209) (f : UInt8 → Bool) (hcb : Hid (∀ (b : UInt8) (w : World), Calls Tryz.prog id #[.int .i32 b.toNat] w fun e w' => e = .returned (.bool (f b)) ∧ w = w')) (l : List UInt8) (hA : ∀ b ∈ l, b.toNat < 128) (w : World) :
    Calls Tryz.prog 253 #[.string (bs l), .func (.func id) #[] #[]] w fun e w' => e = .returned (.string (bs (l.takeWhile f))) ∧ Below w.heap.size w w' := by
  have HA := hid hA
  clear hA
  go_enter Tryz.func253, Tryz.ntmps253
  go_wp2_with fail
  go_loopw [] (fun wr => ∃ i : Nat, i ≤ span f l ∧ wr = w.iter (bs l) i) (fun wr => l.length - wr.iterPos w.heap.size)
  case atStart => exact ⟨0, Nat.zero_le _, rfl⟩
  case round =>
    obtain ⟨i, hi, rfl⟩ := hrel
    have hle := span_le f l
    by_cases hlt : i < l.length
    · have hsz : i < (bs l).size := by rw [bs_size]; exact hlt
      obtain ⟨b, hb⟩ : ∃ b, l[i]? = some b := ⟨_, List.getElem?_eq_getElem hlt⟩
      have hbe : l[i] = b := by rw [List.getElem?_eq_getElem hlt] at hb; injection hb
      have hby : (bs l)[i]'hsz = b := (bs_get l i hsz).trans hbe
      have hA1 : b.toNat < 128 := HA.out b (hbe ▸ List.getElem_mem hlt)
      have hnx : ∀ ty, (Instr.next (.pointer (some ⟨w.heap.size, 0, none⟩)) true ty).run Tryz.prog (w.iter (bs l) i) = .ok (.tuple #[.bool true, .int .i64 i, .int .i32 b.toNat]) (w.iter (bs l) (i + 1)) := fun ty => by
        rw [run_next_ascii w (bs l) i ty hsz (by rw [hby]; exact hA1), hby]
      have HB := hid (show _ ∧ _ from ⟨hb, hi⟩)
      have hsi : ((i : Int) ≤ (bs l).size) = True := by rw [eq_iff_iff, iff_true]; omega
      clear hb hbe hby hA1 hi hle
      rcases hi0 with rfl | rfl
      all_goals
        go_wp2_with fail
        refine (hcb.out _ _).mono ?_
        rintro e w1 ⟨rfl, rfl⟩
        cases hf : f b with
        | true =>
          go_wp2_with fail
          go_roundw
          case rel =>
            refine ⟨i + 1, ?_, rfl⟩
            rcases Nat.lt_or_ge i (span f l) with h | h
            · exact h
            · have he : i = span f l := Nat.le_antisymm HB.out.2 h
              have := span_end (f := f) (l := l) (b := b) (by rw [← he]; exact HB.out.1)
              rw [hf] at this
              cases this
          case measure =>
            simp
            omega
        | false =>
          go_wp2_with fail
          go_ret
          refine ⟨?_, (Below.refl _ w).alloc (Nat.le_refl _) _⟩
          have he : i = span f l := by
            rcases Nat.lt_or_ge i (span f l) with h | h
            · obtain ⟨b', hb', hfb⟩ := span_at h
              rw [HB.out.1] at hb'
              injection hb' with hb'
              rw [← hb', hf] at hfb
              cases hfb
            · exact Nat.le_antisymm HB.out.2 h
          have ht : (bs l).extract 0 i = bs (l.takeWhile f) := by
            rw [bs_extract, he]
            simp only [List.drop_zero, Nat.sub_zero]
            rw [span, ← List.prefix_iff_eq_take.1 (List.takeWhile_prefix f)]
          rw [← ht]
          rfl
    · have hnx : ∀ ty, (Instr.next (.pointer (some ⟨w.heap.size, 0, none⟩)) true ty).run Tryz.prog (w.iter (bs l) i) = .ok (.tuple #[.bool false]) (w.iter (bs l) i) := fun ty => run_next_end w (bs l) i ty (by rw [bs_size]; exact hlt)
      go_wp2_with fail
      go_ret
      refine ⟨?_, (Below.refl _ w).alloc (Nat.le_refl _) _⟩
      have he : span f l = l.length := by omega
      have ht : l.takeWhile f = l := by rw [List.prefix_iff_eq_take.1 (List.takeWhile_prefix f), ← span, he, List.take_length]
      rw [ht]
      rfl

/-- a reader of a text, at a place -/
def LexR (l : List UInt8) (w : World) (r : Nat) (a : Nat) : Prop := w.heap[r]? = some (.cells #[.string (bs l), .int .i64 a] 240 (0, 0))
theorem LexR.keep {l : List UInt8} {w w' : World} {r a : Nat} (h : LexR l w r a) (hb : Below w.heap.size w w') : LexR l w' r a := (hb.block _ (heap_lt h)).trans h
set_option maxHeartbeats 400000 in
theorem lexRest_any {l : List UInt8} {w : World} {r a : Nat} (h : LexR l w r a) (ha : a ≤ l.length) : Calls Tryz.prog 250 #[.pointer (some ⟨r, 0, none⟩)] w fun e w' => e = .returned (.string (bs (l.drop a))) ∧ Below w.heap.size w w' := by
  have c0 := cell_of (i := 0) h rfl
  have c1 := cell_of (i := 1) h rfl
  have hs : ((a : Int) ≤ (bs l).size) = True := by rw [eq_iff_iff, iff_true, bs_size]; omega
  clear h
  go_enter Tryz.func250, Tryz.ntmps250
  go_wp2_with fail
  go_quiet (fail)
  go_wp2_with fail
  go_ret
  refine ⟨?_, below_drewN (Below.refl _ w) _⟩
  have : (bs l).extract a (bs l).size = bs (l.drop a) := by
    rw [bs_extract, bs_size, List.take_of_length_le (by simp)]
  rw [← this]
  rfl
/-- what a reader answers that has read a piece of n bytes -/
abbrev tokV (k : Int) (s : ByteArray) (a : Nat) : List Value := [.int .i64 k, .string s, .int .i64 a]
def LexNext (l : List UInt8) (w : World) (r : Nat) (k : Int) (s : ByteArray) (a n : Nat) (e : Ending) (w' : World) : Prop := e = .returned (.tuple #[.agg (tokV k s a).toArray, .bool true]) ∧ LexR l w' r (a + n) ∧ Chg [r] w w'
set_option maxHeartbeats 1000000 in
theorem tok_any {l : List UInt8} {w : World} {r a : Nat} (h : LexR l w r a) (k : Int) (s : ByteArray) (n : Nat) (hn : 0 < n) (hb : a + n < 2 ^ 62) : Calls Tryz.prog 251 #[.pointer (some ⟨r, 0, none⟩), .int .i64 k, .string s, .int .i64 n] w (LexNext l w r k s a n) := by
  have hr := heap_lt h
  have c1 := cell_of (i := 1) h rfl
  have f1 := free_of (i := 1) h
  have hp : ((n : Int) > 0) = True := by rw [eq_iff_iff, iff_true]; omega
  have hp' : (0 < (n : Int)) = True := by rw [eq_iff_iff, iff_true]; omega
  have hw : IntKind.i64.wrap ((a : Int) + n) = ((a + n : Nat) : Int) := by simp only [IntKind.wrap_i64]; omega
  have H := hid h
  clear h
  go_enter Tryz.func251, Tryz.ntmps251
  go_wp2_with fail
  refine bodyPost_ret (v := .tuple #[.agg (tokV k s a).toArray, .bool true]) (by simp [results, Tryz.results251, go_sem, *]) rfl ?_
  exact ⟨rfl, heap_alloc_keep (heap_alloc_keep (heap_setCell_at (i := 1) H.out (.int .i64 ((a + n : Nat) : Int))) _) _, (((Chg.refl [r] w).setCell (.inl (by simp)) _).alloc _).alloc _⟩
end Go.Proofs.YtpcjfgihglfdgaaGreatDoor

namespace Go.Proofs.YtpcjfgihglfdgaaGreatDoor
open Go.RowKit Go.Lib

theorem bs_toList (l : List UInt8) : (bs l).toList = l := by rw [Lib.toList_data, bs_data]
theorem bs_beq (l m : List UInt8) : ((bs l).toList == (bs m).toList) = decide (l = m) := by
  rw [bs_toList, bs_toList, Bool.eq_iff_iff]
  simp
theorem index_bs {l : List UInt8} {j : Nat} {b : UInt8} (h : l[j]? = some b) (x : World) : (Instr.index 9 (.string (bs l)) (.int .i64 (j : Int))).run Tryz.prog x = .ok (.int .u8 (b.toNat : Int)) x := by
  obtain ⟨hj, he⟩ := List.getElem?_eq_some_iff.1 h
  rw [run_index_string x 9 _ _ _ Tryz.underlying9, dif_pos ⟨by omega, by rw [bs_size]; omega⟩]
  subst he
  rfl
theorem pre_eq (l m : List UInt8) : (((bs l).extract 0 (bs m).size).toList == (bs m).toList) = m.isPrefixOf l := by
  rw [bs_extract, bs_beq, bs_size, Bool.eq_iff_iff, decide_eq_true_iff, List.isPrefixOf_iff_prefix, List.prefix_iff_eq_take]
  simp only [List.drop_zero, Nat.sub_zero]
  exact eq_comm
set_option maxHeartbeats 400000 in
theorem slPrefix_any (l m : List UInt8) (w : World) : Calls Tryz.prog 148 #[.string (bs l), .string (bs m)] w fun e w' => e = .returned (.bool (m.isPrefixOf l)) ∧ w = w' := by
  have hp := pre_eq l m
  by_cases h : m.length ≤ l.length
  · have d1 : (((bs m).size : Int) ≤ (bs l).size) = True := by rw [eq_iff_iff, iff_true, bs_size, bs_size]; omega
    have d2 : (((bs l).size : Int) ≥ (bs m).size) = True := by rw [eq_iff_iff, iff_true, bs_size, bs_size]; omega
    have HP := hid hp
    clear hp
    go_enter Tryz.func148, Tryz.ntmps148
    go_wp2_with fail
    go_ret
    exact ⟨by rw [← HP.out]; rfl, rfl⟩
  · have d1 : (((bs m).size : Int) ≤ (bs l).size) = False := by rw [eq_iff_iff, iff_false, bs_size, bs_size]; omega
    have d2 : (((bs l).size : Int) ≥ (bs m).size) = False := by rw [eq_iff_iff, iff_false, bs_size, bs_size]; omega
    have hf : m.isPrefixOf l = false := by
      rw [Bool.eq_false_iff]
      intro hh
      exact h (List.isPrefixOf_iff_prefix.1 hh).length_le
    clear hp
    go_enter Tryz.func148, Tryz.ntmps148
    go_wp2_with fail
    go_ret
    exact ⟨by rw [hf]; rfl, rfl⟩
set_option maxHeartbeats 400000 in
theorem prefix_any (l m : List UInt8) (w : World) : Calls Tryz.prog 249 #[.string (bs l), .string (bs m)] w fun e w' => e = .returned (.bool (m.isPrefixOf l)) ∧ w = w' := by
  have H := hid (fun w => slPrefix_any l m w)
  go_enter Tryz.func249, Tryz.ntmps249
  go_wp2_with (first | (go_at_call 148; refine (H.out _).mono ?_; rintro e w1 ⟨rfl, rfl⟩) | go_in)
  go_ret
  exact ⟨rfl, rfl⟩
theorem bs_cut (m r : List UInt8) : (bs (m ++ r)).extract (bs m).size (bs (m ++ r)).size = bs r := by rw [bs_size m]; exact bs_rest m r
set_option maxHeartbeats 400000 in
theorem cutPrefix_no (l m : List UInt8) (h : m.isPrefixOf l = false) (w : World) : Calls Tryz.prog 43 #[.string (bs l), .string (bs m)] w fun e w' => e = .returned (.tuple #[.string (bs l), .bool false]) ∧ w = w' := by
  have H := hid (fun w => slPrefix_any l m w)
  go_enter Tryz.func43, Tryz.ntmps43
  go_wp2_with (first | (go_at_call 148; refine (H.out _).mono ?_; rintro e w1 ⟨rfl, rfl⟩; rw [h]) | go_in)
  go_ret2
  exact ⟨rfl, rfl⟩
set_option maxHeartbeats 400000 in
theorem cutPrefix_yes (m r : List UInt8) (w : World) : Calls Tryz.prog 43 #[.string (bs (m ++ r)), .string (bs m)] w fun e w' => e = .returned (.tuple #[.string (bs r), .bool true]) ∧ w = w' := by
  have H := hid (fun w => slPrefix_any (m ++ r) m w)
  have h : m.isPrefixOf (m ++ r) = true := List.isPrefixOf_iff_prefix.2 (List.prefix_append m r)
  have d1 : (((bs m).size : Int) ≤ (bs (m ++ r)).size) = True := by rw [eq_iff_iff, iff_true, bs_size, bs_size, List.length_append]; omega
  have hc := hid (bs_cut m r)
  go_enter Tryz.func43, Tryz.ntmps43
  go_wp2_with (first | (go_at_call 148; refine (H.out _).mono ?_; rintro e w1 ⟨rfl, rfl⟩; rw [h]) | go_in)
  go_ret2
  exact ⟨by rw [← hc.out]; rfl, rfl⟩
set_option maxRecDepth 20000 in
set_option maxHeartbeats 400000 in
theorem lastByte_none (l : List UInt8) (c : UInt8) (h : ∀ b ∈ l, b ≠ c) (hl : l.length < 2 ^ 62) (w : World) : Calls Tryz.prog 237 #[.string (bs l), .int .u8 c.toNat] w fun e w' => e = .returned (.int .i64 (-1)) ∧ w = w' := by
  have HH := hid h
  clear h
  have hsz : ((bs l).size : Int) = l.length := by rw [bs_size]
  go_enter Tryz.func237, Tryz.ntmps237
  go_wp2_with (first | (go_at_call 292; fail) | go_in)
  go_loop [5] (fun v => ∃ k : Nat, k ≤ l.length ∧ v = .int .i64 ((k : Int) - 1)) (fun v => (intOf v + 1).toNat)
  case atStart => exact ⟨l.length, Nat.le_refl _, by go_num⟩
  case round =>
    obtain ⟨k, hk, rfl⟩ := hrel
    cases k with
    | zero =>
      go_wp2_with fail
      go_ret
      exact ⟨rfl, rfl⟩
    | succ k =>
      obtain ⟨b, hb⟩ : ∃ b, l[k]? = some b := ⟨_, List.getElem?_eq_getElem (by omega)⟩
      have hix := index_bs hb
      have hne : ((b.toNat : Int) == c.toNat) = false := by
        rw [Bool.eq_false_iff]
        intro he
        exact HH.out b (List.mem_of_getElem? hb) (UInt8.toNat_inj.1 (by have := eq_of_beq he; omega))
      have he : ((k + 1 : Nat) : Int) - 1 = (k : Int) := by omega
      rw [he]
      clear he hb
      go_wp2_with fail
      go_round
      case rel => exact ⟨k, by omega, by go_num⟩
      case measure => simp [intOf]
end Go.Proofs.YtpcjfgihglfdgaaGreatDoor

namespace Go.Proofs.YtpcjfgihglfdgaaGreatDoor

/-- a place: sheet, row, column -/
abbrev PAt := Int × Int × Int
/-- a spill: its cell's place, rows, columns -/
abbrev PSp := PAt × Int × Int

/-- a place stands ahead of another one -/
def aheadP (a b : PAt) : Prop := a.1 < b.1 ∨ (a.1 = b.1 ∧ (a.2.1 < b.2.1 ∨ (a.2.1 = b.2.1 ∧ a.2.2 < b.2.2)))
instance (a b : PAt) : Decidable (aheadP a b) := by unfold aheadP; infer_instance
theorem aheadP.ne {a b : PAt} (h : aheadP a b) : a ≠ b := by
  rintro rfl
  unfold aheadP at h
  omega
theorem aheadP.trans {a b c : PAt} (h : aheadP a b) (k : aheadP b c) : aheadP a c := by
  unfold aheadP at *
  omega
/-- a place is one of a spill's -/
def tileP (x : PSp) (p : PAt) : Prop := p.1 = x.1.1 ∧ x.1.2.1 ≤ p.2.1 ∧ p.2.1 < x.1.2.1 + x.2.1 ∧ x.1.2.2 ≤ p.2.2 ∧ p.2.2 < x.1.2.2 + x.2.2
instance (x : PSp) (p : PAt) : Decidable (tileP x p) := by unfold tileP; infer_instance
/-- an area that may be -/
def rightP (x : PSp) : Prop := 0 ≤ x.1.1 ∧ x.1.1 < 8 ∧ 0 ≤ x.1.2.1 ∧ x.1.2.1 < 200 ∧ 0 ≤ x.1.2.2 ∧ x.1.2.2 < 52 ∧ 1 ≤ x.2.1 ∧ x.2.1 ≤ 200 - x.1.2.1 ∧ 1 ≤ x.2.2 ∧ x.2.2 ≤ 52 - x.1.2.2
instance (x : PSp) : Decidable (rightP x) := by unfold rightP; infer_instance
/-- two areas meet -/
def meetP (x y : PSp) : Prop := rightP x ∧ rightP y ∧ x.1.1 = y.1.1 ∧ 1 ≤ min (x.1.2.1 + x.2.1) (y.1.2.1 + y.2.1) - max x.1.2.1 y.1.2.1 ∧ 1 ≤ min (x.1.2.2 + x.2.2) (y.1.2.2 + y.2.2) - max x.1.2.2 y.1.2.2
instance (x y : PSp) : Decidable (meetP x y) := by unfold meetP; infer_instance
theorem meetP_iff {x y : PSp} : meetP x y ↔ rightP x ∧ rightP y ∧ ∃ p, tileP x p ∧ tileP y p := by
  obtain ⟨⟨a1, a2, a3⟩, a4, a5⟩ := x
  obtain ⟨⟨b1, b2, b3⟩, b4, b5⟩ := y
  constructor
  · rintro ⟨h1, h2, h3, h4, h5⟩
    dsimp only at h3 h4 h5
    have m1 : max a2 b2 = a2 ∨ max a2 b2 = b2 := by omega
    have m2 : max a3 b3 = a3 ∨ max a3 b3 = b3 := by omega
    refine ⟨h1, h2, (a1, max a2 b2, max a3 b3), ⟨rfl, ?_, ?_, ?_, ?_⟩, ⟨h3, ?_, ?_, ?_, ?_⟩⟩ <;> dsimp only <;> omega
  · rintro ⟨h1, h2, ⟨p1, p2, p3⟩, h3, h4⟩
    simp only [meetP, rightP, tileP] at *
    omega
theorem tile_self {x : PSp} (h : rightP x) : tileP x x.1 := by
  unfold rightP tileP at *
  omega
theorem meetP_self {x : PSp} : meetP x x ↔ rightP x := by
  rw [meetP_iff]
  exact ⟨fun h => h.1, fun h => ⟨h, h, x.1, tile_self h, tile_self h⟩⟩

end Go.Proofs.YtpcjfgihglfdgaaGreatDoor

namespace Go.Proofs.YtpcjfgihglfdgaaGreatDoor

section
variable {T : PAt → Prop} {l : List PSp} {n : Nat} {x : PSp}

end

end Go.Proofs.YtpcjfgihglfdgaaGreatDoor

namespace Go.Proofs.YtpcjfgihglfdgaaGreatDoor

/-- a place of a sheet of the two -/
def InTwo (p : PAt) : Prop := 0 ≤ p.1 ∧ p.1 < 2 ∧ 0 ≤ p.2.1 ∧ p.2.1 < 200 ∧ 0 ≤ p.2.2 ∧ p.2.2 < 52
/-- places in order, each once -/
def Rising (l : List PAt) : Prop := l.Pairwise aheadP
/-- how many of some places stand ahead of one -/
def cutP (p : PAt) (l : List PAt) : Nat := l.countP fun y => decide (aheadP y p)
theorem cutP_no {p : PAt} {l : List PAt} (h : ∀ y, y ∈ l → ¬ aheadP y p) : cutP p l = 0 := by
  unfold cutP
  rw [List.countP_eq_zero]
  intro y hy
  simpa using h y hy
/-- the cells of a sheet -/
def onSheet (l : List PAt) (s : Int) : List PAt := l.filter fun p => decide (p.1 = s)
theorem onSheet_rising {l : List PAt} (h : Rising l) (s : Int) : Rising (onSheet l s) := h.sublist List.filter_sublist
end Go.Proofs.YtpcjfgihglfdgaaGreatDoor
