/- slices.Clone of ints; many rows of ints, each its own; the test whether an island may be next. Contracts of bits.Mul64, bits.Mul at one and a small number; of slices.Repeat at one int. The walk's way in memory, beside the walker; what each step leaves of them. -/
import Derived.Test.YtpcjfgihglfdgaaGreatDoorKCjTake
import Derived.Test.YtpcjfgihglfdgaaGreatDoorKCjMem
import Derived.Laws.CopyOwn
import Derived.Laws.Bits64b
import Derived.Deep.RegionLaw

namespace Go.Proofs.YtpcjfgihglfdgaaGreatDoor.Isl
open Go.RowKit Go.Lib

def CloneEnd (w : World) (l : List Nat) (e : Ending) (w' : World) : Prop :=
  ∃ v, e = .returned v ∧ w'.ownsRow w.heap.size 3 1 v l.length (natCells l) ∧ Below w.heap.size w w'

set_option maxHeartbeats 1000000 in
theorem clone_any {w : World} {B : Nat} {v : Value} {l : List Nat} (h : w.ownsRow B 3 1 v l.length (natCells l)) (hl0 : 0 < l.length) (hl : l.length ≤ 1000000) : Calls Tryz.prog 27 #[v] w (CloneEnd w l) := by
  obtain ⟨i0, hi, hz0, hz1, hz2⟩ := info_parts infoT3
  obtain ⟨g, c, rfl⟩ : ∃ g c, v = .slice (some ⟨g, 0, none⟩) l.length c := by
    rcases h.2 with ⟨_, h0⟩ | ⟨g, cap, cur, rfl, _⟩
    · omega
    · exact ⟨g, cap, rfl⟩
  have HO : Hid ((w.alloc (.cells #[] 3)).ownsRow w.heap.size 3 1 (.slice (some ⟨w.heap.size, 0, none⟩) 0 0) 0 []) := hid (World.ownsRow_made (e := 3) (base := w.heap.size) (size := 1) w #[] 0 (Nat.le_refl _) (by simp [maxLen]) rfl)
  have HS := hid ((h.alloc (.cells #[] 3)).cells (g := g) rfl)
  have heq : ∀ x : World, (binOp BinOp.eql 42 (.slice (some ⟨g, 0, none⟩) l.length c) (.slice none 0 0)).run Tryz.prog x = .ok (.bool false) x := fun x => by kernel_rfl
  clear h
  go_enter Tryz.func27, Tryz.ntmps27
  go_wp2_with (at_builtin;  refine wpList_append_own _ rfl _ _ 42 rfl w.heap.size 3 i0 (.int .i64 0) 1 8 Tryz.underlying42 hi hz0 hz1 hz2 rfl (by decide) _ _ _ rfl HO.out ⟨g, 0, none⟩ l.length c (natCells l) rfl (by simp [natCells]) HS.out ?n1 ?n2 ?n3 ?n4 ?_)
  case n1 => intro u hu; simp only [natCells, List.mem_map] at hu; obtain ⟨x, _, rfl⟩ := hu; rfl
  case n2 => unfold maxLen; omega
  case n3 => omega
  case n4 => simp
  intro v' w1 hown hgrow _
  have hb : Below w.heap.size w w1 := ((Below.refl _ w).alloc (Nat.le_refl _) _).grown hgrow (by simp) (fun k e => by simp [Value.ownBlock] at e; omega)
  have HF := hid (show w1.ownsRow w.heap.size 3 1 v' l.length (natCells l) from by simpa using hown)
  clear hown hgrow
  go_wp2_with fail
  go_ret
  exact ⟨_, rfl, HF.out, hb⟩

/-- so many rows of ints, each its own, and none of F -/
structure Rows3 (w : World) (B N : Nat) (vs : Nat → Value) (xs : Nat → List Nat) (F : List Nat) : Prop where
  row : ∀ p, p < N → w.ownsRow B 3 1 (vs p) (xs p).length (natCells (xs p))
  far : ∀ p, p < N → ∀ b, (vs p).ownBlock = some b → b ∉ F
  sep : ∀ p q, p < N → q < N → p ≠ q → ∀ b, (vs p).ownBlock = some b → (vs q).ownBlock ≠ some b

theorem Rows3.chg {w w' : World} {B N : Nat} {vs : Nat → Value} {xs : Nat → List Nat} {F G : List Nat} (R : Rows3 w B N vs xs F) (h : Chg G w w') (hG : ∀ b ∈ G, b ∈ F ∨ ∀ p, p < N → (vs p).ownBlock ≠ some b) : Rows3 w' B N vs xs F :=
  ⟨fun p hp => h.owns (R.row p hp) (fun b hb hm => by
    rcases hG b hm with h1 | h1
    · exact R.far p hp b hb h1
    · exact h1 p hp hb), R.far, R.sep⟩

/-- one more int on one of the rows -/
theorem Rows3.app {w : World} {B N i : Nat} {vs : Nat → Value} {xs : Nat → List Nat} {F : List Nat} (R : Rows3 w B N vs xs F) (hi : i < N) (hB : B ≤ w.heap.size) (hl : (xs i).length ≤ 1000000) (hF : ∀ b ∈ F, b < w.heap.size) (x : Nat) :
    ∃ a c w2, (Builtin.append_ #[42, 42] 42 #[vs i, .slice (some ⟨w.heap.size, 0, none⟩) 1 1]).run Tryz.prog (w.alloc (.cells #[.int .i64 (x : Int)] 3)) = .ok (.slice a ((xs i).length + 1) c) w2 ∧
      Rows3 w2 B N (upd vs i (.slice a ((xs i).length + 1) c)) (upd xs i (xs i ++ [x])) F ∧ Chg (own (vs i)) w w2 := by
  obtain ⟨a, c, w2, h1, h2, h3, h4⟩ := app_int (R.row i hi) hB hl (x : Int)
  have lt : ∀ p, p < N → ∀ b, (vs p).ownBlock = some b → b < w.heap.size := fun p hp b hb => ((R.row p hp).lt b hb).2
  refine ⟨a, c, w2, h1, ⟨fun p hp => ?_, fun p hp b hb => ?_, fun p q hp hq hpq b hb hb' => ?_⟩, h3⟩
  · by_cases e : p = i
    · subst e
      rw [upd_same, upd_same, List.length_append, natCells, List.map_append]
      exact h2
    · rw [upd_far _ _ e, upd_far _ _ e]
      exact h3.owns (R.row p hp) (fun b hb hm => by
        simp only [Go.Proofs.YtpcjfgihglfdgaaGreatDoor.Isl.own, Option.mem_toList] at hm
        exact R.sep p i hp hi e b hb hm)
  · by_cases e : p = i
    · subst e
      rw [upd_same] at hb
      rcases h4 b hb with h | h
      · exact R.far p hp b h
      · intro hm; have := hF b hm; omega
    · rw [upd_far _ _ e] at hb
      exact R.far p hp b hb
  · by_cases e : p = i
    · subst e
      rw [upd_same] at hb
      rw [upd_far _ _ (Ne.symm hpq)] at hb'
      rcases h4 b hb with h | h
      · exact R.sep p q hp hq hpq b h hb'
      · have := lt q hq b hb'; omega
    · rw [upd_far _ _ e] at hb
      by_cases e2 : q = i
      · subst e2
        rw [upd_same] at hb'
        rcases h4 b hb' with h | h
        · exact R.sep p q hp hq hpq b hb h
        · have := lt p hp b hb; omega
      · rw [upd_far _ _ e2] at hb'
        exact R.sep p q hp hq hpq b hb hb'

/-- a row of slices -/
def RowV (w : World) (b n : Nat) (vs : Nat → Value) : Prop := w.heap[b]? = some (.cells ((List.range n).map vs).toArray 42 (0, 0))
theorem RowV.get {w : World} {b n i : Nat} {vs : Nat → Value} (h : RowV w b n vs) (hi : i < n) : w.cell? ⟨b, i, none⟩ = some (vs i) := cell_of h (by simp [hi])
theorem RowV.free {w : World} {b n i : Nat} {vs : Nat → Value} (h : RowV w b n vs) : w.frozen? ⟨b, i, none⟩ = false := free_of h
theorem RowV.set {w : World} {b n k : Nat} {vs : Nat → Value} (h : RowV w b n vs) (v : Value) : RowV (w.setCell ⟨b, k, none⟩ v) b n (upd vs k v) := by
  have := heap_setCell_at (i := k) h v
  unfold RowV
  rw [this]
  congr 2
  apply Array.ext'
  rw [Array.toList_setIfInBounds]
  apply List.ext_getElem?
  intro i
  simp only [List.getElem?_set, List.getElem?_map, List.length_map, List.length_range]
  by_cases e : k = i
  · subst e
    by_cases hk : k < n <;> simp [hk, upd]
  · simp only [if_neg e]
    by_cases hi : i < n
    · simp [hi, upd, Ne.symm e]
    · simp [hi]
theorem RowV.chg {w w' : World} {b n : Nat} {vs : Nat → Value} {F : List Nat} (h : RowV w b n vs) (c : Chg F w w') (hb : b ∉ F) : RowV w' b n vs := c.heap h hb

/-- the closure may: an island that wants nothing goes onto the heap by its first node -/
def MayEnd (w : World) (hb m : Nat) (S : Nat → Prop) (nd x : Nat) (e : Ending) (w' : World) : Prop :=
  e = .returned (.tuple #[]) ∧ Chg [hb] w w' ∧ (nd = 0 → HeapAt w' hb (m + 1) (fun v => v = x ∨ S v)) ∧ (nd ≠ 0 → w' = w)

set_option maxHeartbeats 1000000 in
theorem may_any {w : World} {nbx nr pbx pr mm hb m p b c : Nat} {S : Nat → Prop} {nd : Nat → Nat} {vs : Nat → Value} {x ln : Nat} (hp : p < mm) (_hmm : mm ≤ 1000000)
    (c1 : w.cell? ⟨nbx, 0, none⟩ = some (.slice (some ⟨nr, 0, none⟩) mm mm)) (c2 : w.cell? ⟨pbx, 0, none⟩ = some (.slice (some ⟨pr, 0, none⟩) mm mm)) (rn : RowF w nr mm (natI nd)) (rp : RowV w pr mm vs)
    (hv : vs p = .slice (some ⟨b, 0, none⟩) (ln + 1) c) (hx : w.cell? ⟨b, 0, none⟩ = some (.int .i64 (x : Int))) (hnd : nd p ≤ 100000000)
    (H : HeapAt w hb m S) (hxS : nd p = 0 → ¬ S x) (hm : nd p = 0 → m < 2000) (hx2 : x ≤ 1000000) (hS : ∀ v, S v → v ≤ 1000000) :
    Calls Tryz.prog 24 #[.int .i64 (p : Int), .pointer (some ⟨nbx, 0, none⟩), .pointer (some ⟨hb, 0, none⟩), .pointer (some ⟨pbx, 0, none⟩)] w (MayEnd w hb m S (nd p) x) := by
  have g1 := rn.get hp
  have g2 := rp.get hp
  rw [hv] at g2
  by_cases h0 : nd p = 0
  · have HP := hid (put_any H (hxS h0) (hm h0) hx2 hS)
    have g1' : w.cell? ⟨nr, p, none⟩ = some (.int .i64 0) := by rw [g1]; simp [natI, h0]
    clear g1 rn rp hxS hm
    go_enter Tryz.func24, Tryz.ntmps24
    go_wp2_with fail
    refine HP.out.mono ?_
    rintro e w' ⟨rfl, h1, h2⟩
    go_wp2_with fail
    go_end0
    exact ⟨rfl, h2, fun _ => h1, fun h => absurd h0 h⟩
  · obtain ⟨y, hy⟩ : ∃ y, y = nd p := ⟨_, rfl⟩
    have g1' : w.cell? ⟨nr, p, none⟩ = some (.int .i64 (y : Int)) := by rw [g1, hy]; rfl
    have hy0 : ¬ (y : Int) = 0 := by omega
    have hy1 : 0 < y := by omega
    clear g1 rn rp hxS hm
    go_enter Tryz.func24, Tryz.ntmps24
    go_wp2_with fail
    go_end0
    exact ⟨rfl, Chg.refl _ _, fun h => absurd h h0, fun _ => rfl⟩

end Go.Proofs.YtpcjfgihglfdgaaGreatDoor.Isl

namespace Go.Proofs.YtpcjfgihglfdgaaGreatDoor.Isl
open Go.RowKit Go.Lib

set_option maxRecDepth 20000 in
set_option maxHeartbeats 1000000 in
theorem mul64_any (w : World) (n : Nat) (hn : n ≤ 100000) : Calls Tryz.prog 117 #[.int .u64 1, .int .u64 (n : Int)] w fun e w' => e = .returned (.tuple #[.int .u64 0, .int .u64 (n : Int)]) ∧ w = w' := by
  have h1 : bits .and .u64 1 4294967295 = 1 := by kernel_rfl
  have h0 : bits .and .u64 0 4294967295 = 0 := by kernel_rfl
  have h2 : bits .and .u64 (n : Int) 4294967295 = (n : Int) := by
    have h := bits_and_u64_nat n 4294967295 (by omega) (by omega)
    have e : n &&& 4294967295 = n := by
      rw [show (4294967295 : Nat) = 2 ^ 32 - 1 by decide, Nat.and_two_pow_sub_one_eq_mod]
      exact Nat.mod_eq_of_lt (by omega)
    rw [e] at h
    exact h
  have h3 : (n : Int) / 4294967296 = 0 := by omega
  have h4 : (n : Int) ≤ 100000 := by omega
  go_enter Tryz.func117, Tryz.ntmps117
  go_wp2_with fail
  go_ret2
  exact ⟨rfl, rfl⟩

set_option maxRecDepth 20000 in
set_option maxHeartbeats 400000 in
theorem mul_any (w : World) (n : Nat) (hn : n ≤ 100000) : Calls Tryz.prog 63 #[.int .u64 1, .int .u64 (n : Int)] w fun e w' => e = .returned (.tuple #[.int .u64 0, .int .u64 (n : Int)]) ∧ w = w' := by
  have H := hid (mul64_any w n hn)
  go_enter Tryz.func63, Tryz.ntmps63
  go_wp2_with fail
  refine H.out.mono ?_
  rintro e w' ⟨rfl, rfl⟩
  go_wp2_with fail
  go_ret2
  exact ⟨rfl, rfl⟩

/-- so many -1, then zeros -/
def rep (n j : Nat) : List Value := List.replicate j (.int .i64 (-1)) ++ List.replicate (n - j) (.int .i64 0)
theorem rep_length {n j : Nat} (h : j ≤ n) : (rep n j).length = n := by simp [rep]; omega
theorem rep_splice {n j k : Nat} (h : j + k ≤ n) : splice (rep n j) j (List.replicate k (.int .i64 (-1))) = rep n (j + k) := by
  unfold splice rep
  have e1 : (List.replicate j (Value.int .i64 (-1)) ++ List.replicate (n - j) (Value.int .i64 0)).take j = List.replicate j (Value.int .i64 (-1)) := by
    rw [List.take_append_of_le_length (by simp)]
    exact List.take_of_length_le (by simp)
  rw [e1, List.length_replicate, List.drop_append, List.drop_eq_nil_of_le (by simp), List.nil_append, List.drop_replicate, List.length_replicate, ← List.append_assoc, List.replicate_append_replicate]
  congr 2
  omega
theorem rep_get {n j i : Nat} (h : i < j) : (rep n j)[i]? = some (.int .i64 (-1)) := by
  unfold rep
  rw [List.getElem?_append_left (by simp; omega)]
  simp [h]
theorem rep_row (n : Nat) : rep n n = (List.range n).map fun i => Value.int .i64 ((fun _ => -1 : Nat → Int) i) := by
  apply List.ext_getElem?
  intro i
  by_cases hi : i < n
  · rw [rep_get hi]; simp [hi]
  · rw [List.getElem?_eq_none (by rw [rep_length (Nat.le_refl _)]; omega), List.getElem?_eq_none (by simp; omega)]

theorem make_ints (n : Nat) (h : n ≤ 100000) (u : World) : (Instr.makeSlice 42 (.int .i64 (n : Int)) (.int .i64 (n : Int))).run Tryz.prog u =
    .ok (.slice (some ⟨u.heap.size, 0, none⟩) n n) (u.alloc (.cells (List.replicate n (Value.int .i64 0)).toArray 3)) := by
  obtain ⟨i0, hi, hz0, hz1, hz2⟩ := info_parts infoT3
  have h := run_make (P := Tryz.prog) u 42 3 i0 (.int .i64 0) Tryz.underlying42 hi hz0 .i64 .i64 (n : Int) (n : Int) (by omega) (Int.le_refl _) (by rw [hz2]; omega) (by omega)
  have e : madeCells #[Value.int .i64 0] n = (List.replicate n (Value.int .i64 0)).toArray := by
    apply Array.ext'
    rw [toList_madeCells_one]
  simpa [hz1, Value.cells, e] using h

def RepRel (w : World) (n : Nat) (jv : Value) (wr : World) : Prop :=
  ∃ j : Nat, jv = .int .i64 (j : Int) ∧ j ≤ n ∧ (0 < j ∨ n = 0) ∧ wr.heap[w.heap.size]? = some (.cells (rep n j).toArray 3 (0, 0)) ∧ Below w.heap.size w wr

set_option maxRecDepth 20000 in
set_option maxHeartbeats 1000000 in
theorem repeat_any (w : World) (xb n : Nat) (hx : w.cell? ⟨xb, 0, none⟩ = some (.int .i64 (-1))) (hn : n ≤ 100000) :
    Calls Tryz.prog 22 #[.slice (some ⟨xb, 0, none⟩) 1 1, .int .i64 (n : Int)] w fun e w' => e = .returned (.slice (some ⟨w.heap.size, 0, none⟩) n n) ∧ RowF w' w.heap.size n (fun _ => -1) ∧ Below w.heap.size w w' := by
  have HM := hid (mul_any w n hn)
  have hmk := make_ints n hn
  have hxl := World.block_lt_of_cell? _ _ hx
  have sz3 : (Tryz.prog.info? 3).map (·.size) = some 1 := by kernel_rfl
  have hx1 := ((Chg.refl [] w).alloc (.cells (List.replicate n (Value.int .i64 0)).toArray 3)).cell hx (by simp)
  have hg0 := heap_alloc_new w (.cells (List.replicate n (Value.int .i64 0)).toArray 3)
  have hr0 : List.replicate n (Value.int .i64 0) = rep n 0 := by simp [rep]
  rw [hr0] at hmk hx1 hg0
  have hb0 : Below w.heap.size w (w.alloc (.cells (rep n 0).toArray 3)) := (Below.refl _ w).alloc (Nat.le_refl _) _
  have HMK := hid hmk
  clear hr0
  by_cases h0 : n = 0
  · subst h0
    have hmk0 : ∀ u : World, (Instr.makeSlice 42 (.int .i64 0) (.int .i64 0)).run Tryz.prog u = .ok (.slice (some ⟨u.heap.size, 0, none⟩) 0 0) (u.alloc (.cells #[] 3)) := HMK.out
    have HM0 : Hid (Calls Tryz.prog 63 #[.int .u64 1, .int .u64 0] w fun e w' => e = .returned (.tuple #[.int .u64 0, .int .u64 0]) ∧ w = w') := hid HM.out
    clear hmk
    go_enter Tryz.func22, Tryz.ntmps22
    go_wp2_with fail
    refine HM0.out.mono ?_
    rintro e w' ⟨rfl, rfl⟩
    go_wp2_with (refine wpList_copy_nothing rfl (.tmp 31) (.tmp 32) 42 42 rfl 3 Tryz.underlying42 sz3 _ _ 0 0 1 1 rfl rfl rfl ?_)
    go_loopw [8] (fun jv wr => jv = .int .i64 0 ∧ wr = w.alloc (.cells #[] 3)) (fun _ _ => 0)
    case atStart => exact ⟨rfl, rfl⟩
    case round =>
      obtain ⟨rfl, rfl⟩ := hrel
      go_wp2_with fail
      go_ret
      exact ⟨rfl, heap_alloc_new w _, (Below.refl _ w).alloc (Nat.le_refl _) _⟩
  · have hnn : (0 : Int) < (n : Int) := by omega
    have hn2 : (n : Int) ≤ 100000 := by omega
    go_enter Tryz.func22, Tryz.ntmps22
    go_wp2_with fail
    refine HM.out.mono ?_
    rintro e w' ⟨rfl, rfl⟩
    go_wp2_with (refine wpList_copy_splice rfl (.tmp 31) (.tmp 32) 42 42 rfl 3 Tryz.underlying42 sz3 _ _ n n 1 1 rfl rfl w.heap.size 0 (rep n 0) 3 hg0 [.int .i64 (-1)] (by simp [Nat.min_def]; omega) (fun _ => ⟨rfl, _, rfl, ?yc⟩) (by rw [rep_length (by omega)]; simp; omega) (by intro v hv; simp at hv; subst hv; rfl) w.heap.size w hb0 (Nat.le_refl _) ?_)
    case yc =>
      intro j v hv
      cases j with
      | zero =>
        simp at hv
        subst hv
        have : (⟨xb, 0, none⟩ : Addr).add 0 = ⟨xb, 0, none⟩ := by unfold Addr.add; simp
        rw [this]
        exact hx1
      | succ j => simp at hv
    intro w1 hg1 hb1
    have e1 : splice (rep n 0) 0 [Value.int .i64 (-1)] = rep n 1 := by
      have := rep_splice (n := n) (j := 0) (k := 1) (by omega)
      simpa using this
    rw [e1] at hg1
    clear hmk HMK hg0 hx1 hb0
    go_wp2_with fail
    go_loopw [8] (fun jv wr => RepRel w n jv wr) (fun jv _ => n - (intOf jv).toNat)
    case atStart => exact ⟨1, rfl, by omega, by omega, hg1.out, hb1⟩
    case round =>
      obtain ⟨j, rfl, hj, hj0, hg, hb⟩ := hrel
      have HG := hid hg
      have HB := hid hb
      clear hg hb
      by_cases hgo : j < n
      · obtain ⟨k, hk⟩ : ∃ k, k = min j (n - j) := ⟨_, rfl⟩
        have hk1 : 1 ≤ k := by omega
        have hkn : j + k ≤ n := by omega
        have gd : (wr.drew).heap[w.heap.size]? = some (.cells (rep n j).toArray 3 (0, 0)) := HG.out
        have hbd : Below w.heap.size w wr.drew := HB.out.drew
        have hsrc : ∀ i v, (List.replicate k (Value.int .i64 (-1)))[i]? = some v → wr.drew.cell? ((⟨w.heap.size, 0, none⟩ : Addr).add i) = some v := fun i v hv => by
          have hadd : (⟨w.heap.size, 0, none⟩ : Addr).add i = ⟨w.heap.size, i, none⟩ := by unfold Addr.add; split <;> simp_all
          rw [hadd]
          simp only [List.getElem?_replicate] at hv
          split at hv
          · obtain rfl := Option.some.inj hv
            refine cell_of HG.out ?_
            rw [List.getElem?_toArray]
            exact rep_get (by omega)
          · cases hv
        have HSRC := hid hsrc
        have hne : ¬ n = j := by omega
        have HK := hid hk
        have hjI : (j : Int) ≤ 100000 := by omega
        have hkI : (k : Int) ≤ 100000 := by omega
        have hwr : IntKind.i64.wrap ((j : Int) + (k : Int)) = (j : Int) + (k : Int) := IntWalk.i64_in _ (by omega)
        clear hsrc hk
        go_wp2_with fail
        go_region_law (refine step_copy_splice rfl (.tmp 41) (.tmp 44) 42 42 rfl 3 Tryz.underlying42 sz3 (some ⟨w.heap.size, j, none⟩) (some ⟨w.heap.size, 0, none⟩) (n - j) (n - j) j n (by simp [Act.eval, Act.put]) (by simp [Act.eval, Act.put]) w.heap.size j (rep n j) 3 gd (List.replicate k (.int .i64 (-1))) (by rw [List.length_replicate, HK.out]) (fun _ => ⟨rfl, _, rfl, HSRC.out⟩) (by rw [rep_length hj, List.length_replicate]; exact hkn) (by intro v hv; rw [List.eq_of_mem_replicate hv]; rfl) w.heap.size w hbd (Nat.le_refl _) ?_; intro w4 hg4 hb4)
        rw [rep_splice hkn] at hg4
        have RR := hid (show RepRel w n (.int .i64 ((j : Int) + (k : Int))) w4 from ⟨j + k, by simp, hkn, .inl (by omega), hg4.out, hb4⟩)
        clear hg4 hb4 gd hbd
        go_simp
        go_wp2
        go_roundw
        case rel => exact RR.out
        case measure => simp [intOf]; omega
      · obtain rfl : j = n := by omega
        have HR := hid (show RowF wr w.heap.size j (fun _ => -1) from by
          have := HG.out
          rw [rep_row] at this
          exact this)
        go_wp2_with fail
        go_ret
        exact ⟨rfl, HR.out, HB.out⟩

end Go.Proofs.YtpcjfgihglfdgaaGreatDoor.Isl

namespace Go.Proofs.YtpcjfgihglfdgaaGreatDoor.Isl
open Go.RowKit Go.Lib

def wayCells (way : Way) : List Value := way.flatMap fun p => [Value.int .i64 (p.1 : Int), Value.int .i64 (p.2 : Int)]
theorem wayCells_length (way : Way) : (wayCells way).length = way.length * 2 := by
  induction way with
  | nil => rfl
  | cons p l ih => unfold wayCells at *; simp only [List.flatMap_cons, List.length_append, ih, List.length_cons, List.length_nil]; omega
theorem wayCells_append (a b : Way) : wayCells (a ++ b) = wayCells a ++ wayCells b := by simp [wayCells]
def castG (g : Gr) : List (List Int) := g.map fun l => l.map fun (x : Nat) => (x : Int)
theorem castG_length (g : Gr) : (castG g).length = g.length := by simp [castG]
theorem castG_get {g : Gr} {i : Nat} (h : i < g.length) : (castG g)[i]? = some ((edges g i).map fun (x : Nat) => (x : Int)) := by
  simp [castG, edges, h]

/-- the walker and the way in memory -/
structure WM (w0 : World) (B wb : Nat) (ev : Value) (n bw bl bo : Nat) (g : Gr) (ov0 ov wv : Value) (s : St) (way : Way) (w : World) : Prop where
  wat : WAt w B wb ev n bw bl bo ov s
  row : w.ownsRow w0.heap.size 143 2 wv way.length (wayCells way)
  chg : WChg wb bw bl bo ov0 ov w0 w
  gr : ∀ y, Below B w y → RowsIn y ev (castG g)

section
variable {w0 w w' : World} {B wb n bw bl bo d t k p : Nat} {ev ov0 ov ov' wv : Value} {g : Gr} {s s' : St} {ws way : Way}

theorem WM.low (M : WM w0 B wb ev n bw bl bo g ov0 ov wv s way w) : B ≤ w.heap.size := by have := M.wat.b0; have := heap_lt M.wat.hd; omega
theorem WAt.blocks (A : WAt w B wb ev n bw bl bo ov s) : ∀ x ∈ wb :: bw :: bl :: bo :: own ov, B ≤ x := by
  intro x hx
  simp only [List.mem_cons] at hx
  rcases hx with rfl | rfl | rfl | rfl | hx
  · exact A.b0
  · exact A.b1
  · exact A.b2
  · exact A.b3
  · simp only [own, Option.mem_toList] at hx
    exact (A.op.lt x hx).1
/-- the way's row is none of the walker's -/
theorem WM.rowfar (M : WM w0 B wb ev n bw bl bo g ov0 ov wv s way w) : ∀ x, wv.ownBlock = some x → x ∉ wb :: bw :: bl :: bo :: own ov := by
  intro x hx
  obtain ⟨cur, hc⟩ := owns_cells M.row hx
  simp only [List.mem_cons, not_or]
  refine ⟨heap_ne hc M.wat.hd (by decide), heap_ne hc M.wat.rw (by decide), heap_ne hc M.wat.rl (by decide), heap_ne hc M.wat.ro (by decide), fun hm => ?_⟩
  simp only [own, Option.mem_toList] at hm
  obtain ⟨cur2, hc2⟩ := owns_cells M.wat.op hm
  rw [hc] at hc2
  simp at hc2
theorem WM.far (M : WM w0 B wb ev n bw bl bo g ov0 ov wv s way w) : ∀ x ∈ wb :: bw :: bl :: bo :: own ov, x ∉ own wv := fun x hx hm => by
  simp only [own, Option.mem_toList] at hm
  exact M.rowfar x hm hx
theorem WM.new (M : WM w0 B wb ev n bw bl bo g ov0 ov wv s way w) : ∀ x ∈ wb :: bw :: bl :: bo :: own ov, x ∈ wb :: bw :: bl :: bo :: own ov0 ∨ w0.heap.size ≤ x := by
  intro x hx
  simp only [List.mem_cons] at hx ⊢
  rcases hx with h | h | h | h | h
  · simp [h]
  · simp [h]
  · simp [h]
  · simp [h]
  · simp only [own, Option.mem_toList] at h ⊢
    rcases M.chg.2 x h with h1 | h1
    · simp [h1]
    · exact .inr h1

/-- a step that writes the walker's blocks alone -/
theorem WM.walker (M : WM w0 B wb ev n bw bl bo g ov0 ov wv s way w) (A : WAt w' B wb ev n bw bl bo ov' s') (h : WChg wb bw bl bo ov ov' w w') : WM w0 B wb ev n bw bl bo g ov0 ov' wv s' way w' := by
  refine ⟨A, h.1.owns M.row M.rowfar, ⟨M.chg.1.trans h.1 M.new, fun x hx => ?_⟩, fun y hy => M.gr y ((h.1.below M.wat.blocks M.low).trans hy)⟩
  rcases h.2 x hx with h1 | h1
  · exact M.chg.2 x h1
  · have := M.chg.1.size; exact .inr (by omega)

/-- a step that writes the way's row alone, or new memory -/
theorem WM.wayrow (M : WM w0 B wb ev n bw bl bo g ov0 ov wv s way w) (h : Chg (own wv) w w') {wv' : Value} {way' : Way} (hr : w'.ownsRow w0.heap.size 143 2 wv' way'.length (wayCells way')) (hB : B ≤ w0.heap.size) : WM w0 B wb ev n bw bl bo g ov0 ov wv' s way' w' := by
  have far := M.far
  have A := M.wat
  refine ⟨⟨h.heap A.hd (far wb (by simp)), A.rw.chg h (far bw (by simp)), A.rl.chg h (far bl (by simp)), A.ro.chg h (far bo (by simp)), h.owns A.op (fun x hx => far x (by simp [own, hx])), A.wl, A.wo, A.lo, A.ow, A.b0, A.b1, A.b2, A.b3⟩, hr, ⟨M.chg.1.trans h (fun x hx => .inr ?_), M.chg.2⟩, fun y hy => M.gr y ((h.below (fun x hx => ?_) M.low).trans hy)⟩
  · simp only [own, Option.mem_toList] at hx
    exact (M.row.lt x hx).1
  · simp only [own, Option.mem_toList] at hx
    have := (M.row.lt x hx).1
    omega

theorem WM.drewN (M : WM w0 B wb ev n bw bl bo g ov0 ov wv s way w) (hB : B ≤ w0.heap.size) (m : Nat) : WM w0 B wb ev n bw bl bo g ov0 ov wv s way (w.drewN m) :=
  M.wayrow ((Chg.refl _ w).drewN m) (((Chg.refl [] w).drewN m).owns M.row (by simp)) hB

theorem WM.top (M : WM w0 B wb ev n bw bl bo g ov0 ov wv s (ws ++ [(d, t)]) w) : ∃ gb c, wv = .slice (some ⟨gb, 0, none⟩) (ws.length + 1) c ∧ ws.length + 1 ≤ c ∧ c ≤ 9223372036854775807 ∧
    w.cell? ⟨gb, ws.length * 2, none⟩ = some (.int .i64 (d : Int)) ∧ w.cell? ⟨gb, ws.length * 2 + 1, none⟩ = some (.int .i64 (t : Int)) ∧ w.frozen? ⟨gb, ws.length * 2 + 1, none⟩ = false := by
  have hl : (ws ++ [(d, t)]).length = ws.length + 1 := by simp
  have hr := M.row
  rw [hl] at hr
  rcases hr.2 with ⟨_, h0⟩ | ⟨gb, c, cur, rfl, _, hg, h1, h2, _⟩
  · omega
  · have e : wayCells (ws ++ [(d, t)]) = wayCells ws ++ [.int .i64 (d : Int), .int .i64 (t : Int)] := by rw [wayCells_append]; rfl
    have hw := wayCells_length ws
    refine ⟨gb, c, rfl, h1, h2, ?_, ?_, free_of hg⟩
    · rw [hr.cellAt _ (by omega), e, List.getElem?_append_right (by omega), hw]; simp
    · rw [hr.cellAt _ (by omega), e, List.getElem?_append_right (by omega), hw]; simp

theorem WM.topc {gb c : Nat} (M : WM w0 B wb ev n bw bl bo g ov0 ov (.slice (some ⟨gb, 0, none⟩) (ws.length + 1) c) s (ws ++ [(d, t)]) w) :
    w.cell? ⟨gb, ws.length * 2, none⟩ = some (.int .i64 (d : Int)) ∧ w.cell? ⟨gb, ws.length * 2 + 1, none⟩ = some (.int .i64 (t : Int)) ∧ w.frozen? ⟨gb, ws.length * 2 + 1, none⟩ = false := by
  obtain ⟨gb', c', he, _, _, h1, h2, h3⟩ := M.top
  injection he with he1 _ he3
  injection he1 with he1
  injection he1 with he1
  subst he1
  exact ⟨h1, h2, h3⟩

theorem WM.nextset {gb c : Nat} (M : WM w0 B wb ev n bw bl bo g ov0 ov (.slice (some ⟨gb, 0, none⟩) (ws.length + 1) c) s (ws ++ [(d, t)]) w) (hB : B ≤ w0.heap.size) :
    WM w0 B wb ev n bw bl bo g ov0 ov (.slice (some ⟨gb, 0, none⟩) (ws.length + 1) c) s (ws ++ [(d, t + 1)]) (w.setCell ⟨gb, ws.length * 2 + 1, none⟩ (.int .i64 ((t : Int) + 1))) := by
  refine M.wayrow ((Chg.refl _ w).setCell (by simp [own, Value.ownBlock]) _) ?_ hB
  have hl : (ws ++ [(d, t)]).length = ws.length + 1 := by simp
  have hl2 : (ws ++ [(d, t + 1)]).length = ws.length + 1 := by simp
  have hr := M.row
  rw [hl] at hr
  rw [hl2]
  have hw := wayCells_length ws
  refine ⟨by rw [wayCells_length, hl2], ?_⟩
  rcases hr.2 with ⟨_, h0⟩ | ⟨gb', c', cur, he, h3, hg, h1, h2, h4, h5⟩
  · omega
  · injection he with he1 _ he3
    injection he1 with he1
    injection he1 with he1
    subst he1 he3
    refine .inr ⟨gb, c, _, rfl, h3, heap_setCell_at hg _, h1, h2, by simpa using h4, ?_⟩
    rw [Array.toList_setIfInBounds, List.take_set, h5, wayCells_append, wayCells_append, List.set_append_right _ _ (by omega), hw]
    congr 1
    simp [wayCells]

theorem WM.pop {a : Option Addr} {c : Nat} (M : WM w0 B wb ev n bw bl bo g ov0 ov (.slice a (ws.length + 1) c) s (ws ++ [(d, t)]) w) (hB : B ≤ w0.heap.size) :
    WM w0 B wb ev n bw bl bo g ov0 ov (.slice a ws.length c) s ws w := by
  have h := M.wayrow (w' := w) (wv' := .slice a ws.length c) (way' := ws) (Chg.refl _ w) ?_ hB
  · exact h
  have hl : (ws ++ [(d, t)]).length = ws.length + 1 := by simp
  have hr := M.row
  rw [hl] at hr
  refine ⟨wayCells_length ws, ?_⟩
  rcases hr.2 with ⟨_, h0⟩ | ⟨gb', c', cur, he, h3, hg, h1, h2, h4, h5⟩
  · omega
  · injection he with he1 _ he3
    subst he1 he3
    refine .inr ⟨gb', c, cur, rfl, h3, hg, by omega, h2, h4, ?_⟩
    have : cur.toList.take (ws.length * 2) = (cur.toList.take ((ws.length + 1) * 2)).take (ws.length * 2) := by rw [List.take_take]; congr 1; omega
    rw [this, h5, wayCells_append, ← wayCells_length ws, List.take_left]

theorem WM.lowset (M : WM w0 B wb ev n bw bl bo g ov0 ov wv s way w) (x : Nat) : WM w0 B wb ev n bw bl bo g ov0 ov wv (lower s d x) way (w.setCell ⟨bl, d, none⟩ (.int .i64 ((min (s.low d) x : Nat) : Int))) := by
  have A := M.wat
  have ch : Chg [bl] w (w.setCell ⟨bl, d, none⟩ (.int .i64 ((min (s.low d) x : Nat) : Int))) := (Chg.refl _ w).setCell (by simp) _
  have nwb : wb ≠ bl := heap_ne A.hd A.rl (by decide)
  refine M.walker (ov' := ov) ⟨ch.heap A.hd (by simpa using nwb), A.rw.chg ch (by simpa using A.wl), ?_, A.ro.chg ch (by simpa using A.lo.symm), ch.owns A.op (fun y hy => by simpa using (A.ow y hy).2.1), A.wl, A.wo, A.lo, A.ow, A.b0, A.b1, A.b2, A.b3⟩ ⟨ch.mono (by simp), fun y hy => .inl hy⟩
  have := A.rl.set (k := d) ((min (s.low d) x : Nat) : Int)
  rw [natI_upd] at this
  exact this

theorem infoT65 : (Tryz.prog.info? 143).map (fun i => (i.zero, i.size, i.bytes)) = some (some (.agg #[.int .i64 0, .int .i64 0]), 2, 16) := by kernel_rfl
theorem cell_two_new2 {w : World} {n : Nat} (hn : w.heap.size = n) (x y : Value) (t : TypeId) : ∀ j u, [x, y][j]? = some u → (w.alloc (.cells #[x, y] t)).cell? ((⟨n, 0, none⟩ : Addr).add j) = some u := by
  subst hn
  exact cell_two_new w x y t

theorem WM.push (M : WM w0 B wb ev n bw bl bo g ov0 ov wv s way w) (hB : B ≤ w0.heap.size) (hl : way.length ≤ 1000000) (k : Nat) :
    ∃ a c w2, (Builtin.append_ #[144, 144] 144 #[wv, .slice (some ⟨w.heap.size, 0, none⟩) 1 1]).run Tryz.prog (w.alloc (.cells #[.int .i64 (k : Int), .int .i64 0] 143)) = .ok (.slice a (way.length + 1) c) w2 ∧
      WM w0 B wb ev n bw bl bo g ov0 ov (.slice a (way.length + 1) c) s (way ++ [(k, 0)]) w2 := by
  obtain ⟨i0, hi, hz0, hz1, hz2⟩ := info_parts infoT65
  have hs := M.chg.1.size
  obtain ⟨v', w2, h1, h2, h3, _, _⟩ := run_append_own_at (P := Tryz.prog) (w.alloc (.cells #[.int .i64 (k : Int), .int .i64 0] 143)) w0.heap.size 144 144 143 i0 (.agg #[.int .i64 0, .int .i64 0]) 2 16 Tryz.underlying144 hi hz0 hz1 hz2 rfl (by decide) wv way.length _ (M.row.alloc _)
    ⟨w.heap.size, 0, none⟩ 1 1 [.int .i64 (k : Int), .int .i64 0] rfl (cell_two_new2 rfl _ _ _) (by intro u hu; simp at hu; rcases hu with rfl | rfl <;> rfl) (by unfold maxLen; omega) (by omega) (by simp; omega)
  obtain ⟨a, c, rfl, _⟩ := ownsRow_view h2
  refine ⟨a, c, w2, h1, M.wayrow (((Chg.refl _ w).alloc _).grown h3 (fun x hx => .inl (by simp [own, hx]))) ?_ hB⟩
  rw [List.length_append, wayCells_append]
  exact h2

theorem WM.edges {eb eo ec : Nat} (M : WM w0 B wb (.slice (some ⟨eb, eo, none⟩) n ec) n bw bl bo g ov0 ov wv s way w) (hn : n = g.length) (hd : d < n) : ∃ lo lc, w.cell? ⟨eb, eo + d, none⟩ = some (.slice lo (edges g d).length lc) ∧ (edges g d).length ≤ 9223372036854775807 ∧
    ∀ (t to : Nat), (edges g d)[t]? = some to → ∃ b2 o2, lo = some ⟨b2, o2, none⟩ ∧ w.cell? ⟨b2, o2 + t, none⟩ = some (.int .i64 (to : Int)) := by
  obtain ⟨ao, c, b, off, h1, _, h3⟩ := M.gr w (Below.refl _ w)
  obtain ⟨h4, lv, h5, lo, lc, b2, o2, h6, h7, h8⟩ := h3 d _ (castG_get (by omega))
  subst h4
  injection h1 with h1 _ _
  injection h1 with h1
  injection h1 with h1 h1'
  subst h1 h1'
  rw [h6, List.length_map] at h5
  rw [List.length_map] at h7
  refine ⟨lo, lc, h5, h7, fun t to ht => ⟨b2, o2, ?_⟩⟩
  have := h8 t (to : Int) (by simp [ht])
  exact ⟨this.1, this.2.1⟩
end

end Go.Proofs.YtpcjfgihglfdgaaGreatDoor.Isl
