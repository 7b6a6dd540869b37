/- For the law SpillTells: a copy of spills, and one of them set; both ways to place, as one contract. No condition. The walk of the law SpillTells. Condition: utf8's tables lie as they were laid; ints are of 64 bits. -/
import Derived.Test.YtmmknjpcffaidaaGreatDoorSpRDoc
import Derived.Test.YtmmknjpcffaidaaGreatDoorSpPlaceW
import Derived.Test.YtmmknjpcffaidaaGreatDoorSpMore
import Derived.Test.YtmmknjpcffaidaaGreatDoorSpLawS
import Derived.Deep.Cut

/- For the law SpillTells: a copy of spills, and one of them set; both ways to place, as one contract. No condition. -/
namespace Go.Proofs.YtmmknjpcffaidaaGreatDoor
open Go.RowKit Go.Lib

theorem spC_flat (l : List PSp) : (l.flatMap spC).length = l.length * 5 := by
  induction l with
  | nil => rfl
  | cons x l ih =>
    rw [List.flatMap_cons, List.length_append, ih, List.length_cons]
    simp only [spC, List.length_cons, List.length_nil]
    omega
theorem sps_none (c : Nat) (w : World) : (Builtin.append_ #[28, 28] 28 #[.slice none 0 0, .slice none 0 c]).run Tryz.prog w = .ok (.slice none 0 0) w := by kernel_rfl
/-- spills copied behind nothing -/
theorem copy_sps {w : World} {v : Value} {l : List PSp} (h : SpsIn w v l) (hc : Capped v) (hl : l.length ≤ 1000) :
    ∃ v' w', (Builtin.append_ #[28, 28] 28 #[.slice none 0 0, v]).run Tryz.prog w = .ok v' w' ∧ SpsOwn w' w.heap.size v' l ∧ Below w.heap.size w w' := by
  obtain ⟨i0, hi, hz0, hz1, hz2⟩ := info_parts sps_info
  obtain ⟨ao, c, b, off, rfl, h2, h3⟩ := h
  rw [List.length_map] at *
  have hb0 : ∀ {w' : World}, w.grownBy w' (Value.slice none 0 0).ownBlock → Below w.heap.size w w' := fun a3 => ((Below.refl _ w)).grown a3 (Nat.le_refl _) (fun k e => by simp [Value.ownBlock] at e)
  by_cases h0 : l.length = 0
  · have : l = [] := List.length_eq_zero_iff.1 h0
    subst this
    rcases ao with _ | a
    · exact ⟨.slice none 0 0, w, sps_none c w, SpsOwn.nil _ _, Below.refl _ _⟩
    · obtain ⟨v', w', a1, a2, a3, _, _⟩ := run_append_own_at (P := Tryz.prog) w w.heap.size 28 28 27 i0 (.agg #[.int .i64 0, .int .i64 0, .int .i64 0, .int .i64 0, .int .i64 0]) 5 40 Tryz.underlying28 hi hz0 hz1 hz2 rfl (by decide) (.slice none 0 0) 0 [] (World.ownsRow_nil _ _ _ _)
        a 0 c [] rfl (by simp) (by simp) (by decide) (by omega) (Nat.le_refl _)
      exact ⟨v', w', a1, a2, hb0 a3⟩
  · obtain ⟨x, hx⟩ : ∃ x, l[0]? = some x := ⟨_, List.getElem?_eq_getElem (by omega)⟩
    obtain ⟨rfl, _⟩ := h3 0 (spC x) (by simp [hx])
    obtain ⟨v', w', a1, a2, a3, _, _⟩ := run_append_own_at (P := Tryz.prog) w w.heap.size 28 28 27 i0 (.agg #[.int .i64 0, .int .i64 0, .int .i64 0, .int .i64 0, .int .i64 0]) 5 40 Tryz.underlying28 hi hz0 hz1 hz2 rfl (by decide) (.slice none 0 0) 0 [] (World.ownsRow_nil _ _ _ _)
      ⟨b, off, none⟩ l.length c (l.flatMap spC) (spC_flat l) (fun m u hu => by
        have hlen := spC_flat l
        have hm : m < l.length * 5 := by rw [← hlen]; exact (List.getElem?_eq_some_iff.1 hu).1
        obtain ⟨y, hy⟩ : ∃ y, l[m / 5]? = some y := ⟨_, List.getElem?_eq_getElem (by omega)⟩
        have h5 := flat_get (k := 5) (l.map spC) (by intro c hc; obtain ⟨q, -, rfl⟩ := List.mem_map.1 hc; rfl) (m / 5) (m % 5) (spC y) (by simp [hy]) (Nat.mod_lt _ (by omega))
        rw [show m / 5 * 5 + m % 5 = m by omega, ← List.flatMap_def, hu] at h5
        have := (h3 (m / 5) (spC y) (by simp [hy])).2 (m % 5) u h5.symm
        rw [Addr.add_lit]
        rwa [Nat.add_assoc, show m / 5 * 5 + m % 5 = m by omega] at this) (by
          intro u hu
          obtain ⟨y, -, hu⟩ := List.mem_flatMap.1 hu
          simp [spC] at hu
          rcases hu with rfl | rfl | rfl | rfl | rfl <;> rfl) (by unfold maxLen; omega) (by omega) (Nat.le_refl _)
    exact ⟨v', w', a1, by simpa [SpsOwn] using a2, hb0 a3⟩

/-- spills in a block of the call's own, to be set -/
structure Tr (g n cap : Nat) (l : List PSp) (y : World) : Prop where
  len : l.length = n
  cap' : n ≤ cap
  few : n ≤ 1000
  blk : ∃ cur, y.heap[g]? = some (.cells cur 27 (0, 0)) ∧ n * 5 ≤ cur.size ∧ ∀ (j : Nat) (x : PSp) (i : Nat) (u : Value), l[j]? = some x → (spC x)[i]? = some u → cur[j * 5 + i]? = some u
theorem Tr.reads {g n cap : Nat} {l : List PSp} {y : World} (h : Tr g n cap l y) : SpsIn y (.slice (some ⟨g, 0, none⟩) n cap) l := by
  obtain ⟨cur, h1, h2, h3⟩ := h.blk
  have := h.few
  refine ⟨_, cap, g, 0, by rw [List.length_map, h.len], by rw [List.length_map, h.len]; omega, fun j cs hj => ⟨rfl, fun i u hu => ?_⟩⟩
  rw [List.getElem?_map, Option.map_eq_some_iff] at hj
  obtain ⟨x, hx, rfl⟩ := hj
  exact cell_of h1 (by simpa using h3 j x i u hx hu)
theorem Tr.below {g n cap : Nat} {l : List PSp} {y z : World} (h : Tr g n cap l y) (hb : Below y.heap.size y z) : Tr g n cap l z := by
  obtain ⟨cur, h1, h2, h3⟩ := h.blk
  exact ⟨h.len, h.cap', h.few, cur, (hb.block _ (heap_lt h1)).trans h1, h2, h3⟩
theorem Tr.free {g n cap i : Nat} {l : List PSp} {y : World} (h : Tr g n cap l y) : y.frozen? ⟨g, i, none⟩ = false := by
  obtain ⟨cur, h1, h2, h3⟩ := h.blk
  exact free_of h1
theorem tr_of_own {w : World} {B : Nat} {v : Value} {l : List PSp} (h : SpsOwn w B v l) (h0 : l ≠ []) (hl : l.length ≤ 1000) : ∃ g cap, v = .slice (some ⟨g, 0, none⟩) l.length cap ∧ B ≤ g ∧ Tr g l.length cap l w := by
  rcases h.2 with ⟨rfl, hn⟩ | ⟨g, cap, cur, rfl, hb, hg, h1, h2, h3, h4⟩
  · exact absurd (List.length_eq_zero_iff.1 hn) h0
  · have hlen := spC_flat l
    refine ⟨g, cap, rfl, hb, rfl, h1, hl, cur, hg, ?_, fun j x i u hx hu => ?_⟩
    · rw [← h4, List.length_take] at hlen
      simp only [Array.length_toList] at hlen
      omega
    · have hi : i < 5 := (List.getElem?_eq_some_iff.1 hu).1
      have hj := (List.getElem?_eq_some_iff.1 hx).1
      have h5 := flat_get (k := 5) (l.map spC) (by intro c hc; obtain ⟨q, -, rfl⟩ := List.mem_map.1 hc; rfl) j i (spC x) (by simp [hx]) hi
      rw [← List.flatMap_def, ← h4, List.getElem?_take_of_lt (by omega), hu] at h5
      simpa using h5
theorem Tr.set5 {g n cap k : Nat} {l : List PSp} {y : World} (h : Tr g n cap l y) (hk : k < n) (x : PSp) : Tr g n cap (l.set k x)
    (((((y.setCell ⟨g, k * 5, none⟩ (.int .i64 x.1.1)).setCell ⟨g, k * 5 + 1, none⟩ (.int .i64 x.1.2.1)).setCell ⟨g, k * 5 + 2, none⟩ (.int .i64 x.1.2.2)).setCell ⟨g, k * 5 + 3, none⟩ (.int .i64 x.2.1)).setCell ⟨g, k * 5 + 4, none⟩ (.int .i64 x.2.2)) := by
  obtain ⟨cur, h1, h2, h3⟩ := h.blk
  have hl := h.len
  refine ⟨by rw [List.length_set]; exact hl, h.cap', h.few, _, heap_setCell_at (heap_setCell_at (heap_setCell_at (heap_setCell_at (heap_setCell_at h1 _) _) _) _) _, by simp; exact h2, fun j z i u hz hu => ?_⟩
  have hi : i < 5 := (List.getElem?_eq_some_iff.1 hu).1
  by_cases hjk : k = j
  · subst hjk
    rw [List.getElem?_set_self (by omega)] at hz
    obtain rfl := Option.some.inj hz
    have : i = 0 ∨ i = 1 ∨ i = 2 ∨ i = 3 ∨ i = 4 := by omega
    rcases this with rfl | rfl | rfl | rfl | rfl <;> (simp [spC] at hu; subst hu; simp [Array.getElem?_setIfInBounds]; try omega)
  · rw [List.getElem?_set_ne hjk] at hz
    have h6 := h3 j z i u hz hu
    have e0 : k * 5 ≠ j * 5 + i := by omega
    have e1 : k * 5 + 1 ≠ j * 5 + i := by omega
    have e2 : k * 5 + 2 ≠ j * 5 + i := by omega
    have e3 : k * 5 + 3 ≠ j * 5 + i := by omega
    have e4 : k * 5 + 4 ≠ j * 5 + i := by omega
    rw [Array.getElem?_setIfInBounds_ne e4, Array.getElem?_setIfInBounds_ne e3, Array.getElem?_setIfInBounds_ne e2, Array.getElem?_setIfInBounds_ne e1, Array.getElem?_setIfInBounds_ne e0]
    exact h6
theorem Tr.set3 {g n cap k : Nat} {l : List PSp} {y : World} (h : Tr g n cap l y) (x : PSp) (hk : l[k]? = some x) (p : PAt) : Tr g n cap (l.set k (p, x.2))
    (((y.setCell ⟨g, k * 5, none⟩ (.int .i64 p.1)).setCell ⟨g, k * 5 + 1, none⟩ (.int .i64 p.2.1)).setCell ⟨g, k * 5 + 2, none⟩ (.int .i64 p.2.2)) := by
  obtain ⟨cur, h1, h2, h3⟩ := h.blk
  have hl := h.len
  have hkl := (List.getElem?_eq_some_iff.1 hk).1
  refine ⟨by rw [List.length_set]; exact hl, h.cap', h.few, _, heap_setCell_at (heap_setCell_at (heap_setCell_at h1 _) _) _, by simp; exact h2, fun j z i u hz hu => ?_⟩
  have hi : i < 5 := (List.getElem?_eq_some_iff.1 hu).1
  by_cases hjk : k = j
  · subst hjk
    rw [List.getElem?_set_self hkl] at hz
    obtain rfl := Option.some.inj hz
    have h63 := h3 k x 3 _ hk rfl
    have h64 := h3 k x 4 _ hk rfl
    have : i = 0 ∨ i = 1 ∨ i = 2 ∨ i = 3 ∨ i = 4 := by omega
    rcases this with rfl | rfl | rfl | rfl | rfl
    · simp [spC] at hu; subst hu; simp [Array.getElem?_setIfInBounds]; omega
    · simp [spC] at hu; subst hu; simp [Array.getElem?_setIfInBounds]; omega
    · simp [spC] at hu; subst hu; simp [Array.getElem?_setIfInBounds]; omega
    · simp [spC] at hu; subst hu; simp ; simpa using h63
    · simp [spC] at hu; subst hu; simp ; simpa using h64
  · rw [List.getElem?_set_ne hjk] at hz
    have h6 := h3 j z i u hz hu
    have e0 : k * 5 ≠ j * 5 + i := by omega
    have e1 : k * 5 + 1 ≠ j * 5 + i := by omega
    have e2 : k * 5 + 2 ≠ j * 5 + i := by omega
    rw [Array.getElem?_setIfInBounds_ne e2, Array.getElem?_setIfInBounds_ne e1, Array.getElem?_setIfInBounds_ne e0]
    exact h6

open Classical in
/-- what Place tells: the placed, the blocked, the error -/
noncomputable def tellP (A : List PAt) (l : List PSp) : List PSp × List PAt × Int := if mayP A l then ((placeP (fun p => p ∈ A) l).1, (placeP (fun p => p ∈ A) l).2, 0) else ([], [], 140)
theorem tell_small {A : List PAt} {l : List PSp} (h : ∀ x, x ∈ l → SmallSp x) : (∀ x, x ∈ (tellP A l).1 → SmallSp x) ∧ (∀ p, p ∈ (tellP A l).2.1 → SmallAt p) := by
  unfold tellP
  split
  · refine ⟨fun x hx => h x (placeP_mem _ _ _ hx).1, fun p hp => ?_⟩
    obtain ⟨x, hx, rfl⟩ := placeP_blocked _ _ _ hp
    exact (h x hx).1
  · exact ⟨by simp, by simp⟩
theorem place_tell (w : World) (hT : Tabs w) (bv lv : Value) (A : List PAt) (l : List PSp) (hB : BookAt w bv A one1) (hl : SpsIn w lv l) (hll : l.length ≤ 1000) :
    Calls Tryz.prog 14 #[bv, lv] w fun e w' => (∃ pa pn pc qa qn qc, e = .returned (.tuple #[.slice pa pn pc, .slice qa qn qc, .int .i64 (tellP A l).2.2]) ∧ SpsIn w' (.slice pa pn pc) (tellP A l).1 ∧ AtsIn w' (.slice qa qn qc) (tellP A l).2.1) ∧ Below w.heap.size w w' := by
  by_cases hm : mayP A l
  · unfold tellP
    rw [if_pos hm]
    refine (place_yes w hT bv lv A one1 l hB hl hm hll).mono ?_
    rintro e w' ⟨⟨pv, qv, rfl, hp, hq, -, -⟩, b⟩
    obtain ⟨pa, pc, _, _, rfl, _⟩ := hp.view
    obtain ⟨qa, qc, _, _, rfl, _⟩ := hq.view
    exact ⟨⟨_, _, _, _, _, _, rfl, hp, hq⟩, b⟩
  · unfold tellP
    rw [if_neg hm]
    refine (place_no w hT bv lv A one1 l hB hl hm).mono ?_
    rintro e w' ⟨rfl, b⟩
    exact ⟨⟨_, _, _, _, _, _, rfl, rowIn_nil _ _ _ _, rowIn_nil _ _ _ _⟩, b⟩
theorem rplace_tell (w : World) (bv lv : Value) (A : List PAt) (l : List PSp) (hB : BookAt w bv A one1) (hl : SpsIn w lv l) (sl : ∀ x, x ∈ l → SmallSp x) (hll : l.length ≤ 1000) :
    Calls Tryz.prog 15 #[bv, lv] w fun e w' => (∃ pa pn pc qa qn qc, e = .returned (.tuple #[.slice pa pn pc, .slice qa qn qc, .int .i64 (tellP A l).2.2]) ∧ SpsIn w' (.slice pa pn pc) (tellP A l).1 ∧ AtsIn w' (.slice qa qn qc) (tellP A l).2.1) ∧ Below w.heap.size w w' := by
  by_cases hm : mayP A l
  · unfold tellP
    rw [if_pos hm]
    refine (rplace_yes w bv lv A l hB hl sl hm hll).mono ?_
    rintro e w' ⟨⟨pv, qv, rfl, hp, hq, -, -⟩, b⟩
    obtain ⟨pa, pc, _, _, rfl, _⟩ := hp.view
    obtain ⟨qa, qc, _, _, rfl, _⟩ := hq.view
    exact ⟨⟨_, _, _, _, _, _, rfl, hp, hq⟩, b⟩
  · unfold tellP
    rw [if_neg hm]
    refine (rplace_no w bv lv A l hB hl sl hm).mono ?_
    rintro e w' ⟨rfl, b⟩
    exact ⟨⟨_, _, _, _, _, _, rfl, rowIn_nil _ _ _ _, rowIn_nil _ _ _ _⟩, b⟩
end Go.Proofs.YtmmknjpcffaidaaGreatDoor

/- The walk of the law SpillTells. Condition: utf8's tables lie as they were laid; ints are of 64 bits. -/
namespace Go.Proofs.YtmmknjpcffaidaaGreatDoor
open Go.RowKit Go.Lib

/-- what stands while the law goes: the boxes of its arguments, its workbook -/
structure Tw (w : World) (b off : Nat) (A : List PAt) (g : Nat) (odd : PSp) (a : PAt) (y : World) : Prop where
  ob : y.heap[w.heap.size]? = some (.cells #[.int .i64 odd.1.1, .int .i64 odd.1.2.1, .int .i64 odd.1.2.2, .int .i64 odd.2.1, .int .i64 odd.2.2] 27 (0, 0))
  ab : y.heap[w.heap.size + 1]? = some (.cells #[.int .i64 a.1, .int .i64 a.2.1, .int .i64 a.2.2] 25 (0, 0))
  bb : y.heap[g]? = some (.cells (bookC b off) 35 (0, 0))
  bk : BookAt y (.agg (bookC b off)) A one1
  tabs : Tabs y
  low : Below w.heap.size w y
theorem Tw.keep {w y z : World} {b off : Nat} {A : List PAt} {g : Nat} {odd : PSp} {a : PAt} (h : Tw w b off A g odd a y) (hb : Below y.heap.size y z) : Tw w b off A g odd a z :=
  ⟨(hb.block _ (heap_lt h.ob)).trans h.ob, (hb.block _ (heap_lt h.ab)).trans h.ab, (hb.block _ (heap_lt h.bb)).trans h.bb, h.bk.below hb, h.tabs.below hb, h.low.trans (hb.mono h.low.size)⟩

theorem tdiv16 {c : Int} (h1 : -9223372036854775808 ≤ c) (h2 : c ≤ 9223372036854775807) : -9223372036854775808 ≤ c.tdiv 16 ∧ c.tdiv 16 ≤ 9223372036854775807 := by
  rw [Int.tdiv_eq_ediv]
  split
  · omega
  · have : (16 : Int).sign = 1 := rfl
    rw [this]
    omega
/-- the turned spills -/
def TlRel (u : World) (tv : Value) (n : Nat) (y : World) : Prop := ∃ tl : List PSp, tl.length = n ∧ SpsIn y tv tl ∧ (∀ x, x ∈ tl → SmallSp x) ∧ Below u.heap.size u y
theorem set_small {l : List PSp} {k : Nat} {x : PSp} (h : ∀ y, y ∈ l → SmallSp y) (hx : SmallSp x) : ∀ y, y ∈ l.set k x → SmallSp y := fun y hy => by
  rcases List.mem_or_eq_of_mem_set hy with h1 | h1
  · exact h y h1
  · exact h1 ▸ hx
theorem tl_keep {u y z : World} {a b c : Addr} {u1 u2 u3 : Value} (hS : (y.cell? a = some u1 ∧ y.cell? b = some u2 ∧ y.cell? c = some u3) ∧ Below u.heap.size u y) (hb : Below y.heap.size y z) :
    (z.cell? a = some u1 ∧ z.cell? b = some u2 ∧ z.cell? c = some u3) ∧ Below u.heap.size u z := by
  have k : ∀ {p : Addr} {u : Value}, y.cell? p = some u → z.cell? p = some u := fun {p u} hc => (hb.cell (World.block_lt_of_cell? _ _ hc)).trans hc
  exact ⟨⟨k hS.1.1, k hS.1.2.1, k hS.1.2.2⟩, hS.2.trans (hb.mono hS.2.size)⟩
def ToRel (u : World) (i : Value) (y : World) : Prop := ∃ j : Nat, i = .int .i64 (j : Int) ∧ j ≤ 3 ∧ Below u.heap.size u y
def TiRel (u : World) (i : Value) (y : World) : Prop := ∃ j : Nat, i = .int .i64 (j : Int) ∧ j ≤ 2 ∧ Below u.heap.size u y
theorem Tw.cells {w y : World} {b off : Nat} {A : List PAt} {g : Nat} {odd : PSp} {a : PAt} (h : Tw w b off A g odd a y) :
    (y.cell? ⟨g, 0, none⟩ = some (.slice (some ⟨b, off, none⟩) 2 2) ∧ y.cell? ⟨g, 1, none⟩ = some (.slice none 0 0) ∧ y.cell? ⟨g, 2, none⟩ = some (.slice none 0 0) ∧ y.cell? ⟨g, 3, none⟩ = some (.slice none 0 0)) ∧
    (y.cell? ⟨w.heap.size + 1, 0, none⟩ = some (.int .i64 a.1) ∧ y.cell? ⟨w.heap.size + 1, 1, none⟩ = some (.int .i64 a.2.1) ∧ y.cell? ⟨w.heap.size + 1, 2, none⟩ = some (.int .i64 a.2.2)) :=
  ⟨⟨cell_of h.bb rfl, cell_of h.bb rfl, cell_of h.bb rfl, cell_of h.bb rfl⟩, cell_of h.ab rfl, cell_of h.ab rfl, cell_of h.ab rfl⟩
set_option maxRecDepth 100000 in
set_option maxHeartbeats 8000000 in
theorem tells_any (w : World) (hT : Tabs w) (lv sv mv : Value) (L : List PAt) (z : List (Int × Int)) (which : Int) (odd : PSp) (M : List PSp) (a : PAt) (hl : AtsIn w lv L) (hL : ∀ p, p ∈ L → SmallAt p) (hz : PairsIn w sv z) (hZ : ∀ n, n ∈ z → SmallPair n)
    (hw1 : -9223372036854775808 ≤ which) (hw2 : which ≤ 9223372036854775807) (ho : SmallSp odd) (hm : SpsIn w mv M) (hM : ∀ x, x ∈ M → SmallSp x) (hmc : Capped mv) (ha : SmallAt a) :
    Calls Tryz.prog 3 #[lv, sv, .int .i64 which, spV odd, mv, atV a] w fun e w' => e = .returned (.bool true) ∧ Below w.heap.size w w' := by
  obtain ⟨A, hA⟩ : ∃ A, A = atsOf L := ⟨_, rfl⟩
  have HBO := hid (fun (y : World) (hb : Below w.heap.size w y) => by have := book_any y lv L (hl.below hb) hL; rwa [← hA] at this)
  have HSP := hid (fun (y : World) (hb : Below w.heap.size w y) => by have := spills_any y lv sv L z (hl.below hb) hL (hz.below hb) hZ; rwa [← hA] at this)
  have hok := atsOf_ok L
  rw [← hA] at hok
  obtain ⟨own, hown⟩ : ∃ own, own = ownOf A z := ⟨_, rfl⟩
  rw [← hown] at HSP
  have HSML := hid (show ∀ x, x ∈ own → SmallSp x by rw [hown]; exact small_ownOf hok.two hok.rising z)
  have HLEN := hid (show own.length ≤ 12 by rw [hown]; exact Nat.le_trans (ownOf_ok hok.rising z).few hok.few)
  have HAW := hid (fun (y : World) (hy : Tabs y) => awake_any y hy)
  have HT := hid hT
  have HO := hid ho
  have HMM := hid (fun (y : World) (hb : Below w.heap.size w y) => hm.below hb)
  have HMS := hid hM
  have HA := hid ha
  obtain ⟨la, ln, lc, rfl⟩ : ∃ a n c, lv = .slice a n c := by obtain ⟨a, c, _, _, e, _⟩ := hl.view; exact ⟨_, _, _, e⟩
  obtain ⟨za, zn, zc, rfl⟩ : ∃ a n c, sv = .slice a n c := by obtain ⟨a, c, _, _, e, _⟩ := hz.view; exact ⟨_, _, _, e⟩
  obtain ⟨ma, mn, mc, rfl, hmc1, hmc2⟩ := hmc
  obtain ⟨ma', mc', mb, mo, em, hm1, -⟩ := hm.view
  simp only [Value.slice.injEq] at em
  obtain ⟨-, hmn, -⟩ := em
  have HMN := hid hmn
  rw [← hmn] at hm1
  have b0 := ((Below.refl w.heap.size w).alloc (Nat.le_refl _) (.cells #[.int .i64 odd.1.1, .int .i64 odd.1.2.1, .int .i64 odd.1.2.2, .int .i64 odd.2.1, .int .i64 odd.2.2] 27)).alloc (by simp) (.cells #[.int .i64 a.1, .int .i64 a.2.1, .int .i64 a.2.2] 25)
  have o0 := heap_alloc_keep (heap_alloc_new w (.cells #[.int .i64 odd.1.1, .int .i64 odd.1.2.1, .int .i64 odd.1.2.2, .int .i64 odd.2.1, .int .i64 odd.2.2] 27)) (.cells #[.int .i64 a.1, .int .i64 a.2.1, .int .i64 a.2.2] 25)
  have a0 := heap_alloc2_new w (.cells #[.int .i64 odd.1.1, .int .i64 odd.1.2.1, .int .i64 odd.1.2.2, .int .i64 odd.2.1, .int .i64 odd.2.2] 27) (.cells #[.int .i64 a.1, .int .i64 a.2.1, .int .i64 a.2.2] 25)
  have H0 := hid (show _ ∧ _ ∧ _ from ⟨o0, a0, b0⟩)
  clear hl hL hz hZ hA hok hown hT ho hm hM ha b0 o0 a0 hmn
  unfold spV atV
  go_enter Tryz.func3, Tryz.ntmps3
  go_wp2_with fail
  generalize hw0 : World.alloc (World.alloc w _) _ = w0
  rw [hw0] at H0
  clear hw0
  refine (HAW.out _ (HT.out.below H0.out.2.2)).mono ?_
  rintro e w1 ⟨rfl, b1⟩
  have H1 := hid (show w1.heap[w.heap.size]? = _ ∧ w1.heap[w.heap.size + 1]? = _ ∧ Below w.heap.size w w1 from ⟨(b1.block _ (heap_lt H0.out.1)).trans H0.out.1, (b1.block _ (heap_lt H0.out.2.1)).trans H0.out.2.1, H0.out.2.2.trans (b1.mono H0.out.2.2.size)⟩)
  clear b1 HAW H0
  go_wp2_with fail
  refine (HBO.out _ H1.out.2.2).mono ?_
  rintro e w2 ⟨⟨bv, rfl, hbk⟩, b2⟩
  obtain ⟨b, off, hbv⟩ : ∃ b off, bv = .agg (bookC b off) := by obtain ⟨⟨b, off, _, _, e, _⟩, _⟩ := hbk; exact ⟨b, off, e⟩
  subst hbv
  obtain ⟨g, hg⟩ : ∃ g, g = w2.heap.size := ⟨_, rfl⟩
  have T3 : Tw w b off A g odd a (w2.alloc (.cells (bookC b off) 35)) := by
    have bl := H1.out.2.2.trans (b2.mono H1.out.2.2.size)
    exact ⟨heap_alloc_keep ((b2.block _ (heap_lt H1.out.1)).trans H1.out.1) _, heap_alloc_keep ((b2.block _ (heap_lt H1.out.2.1)).trans H1.out.2.1) _, by rw [hg]; exact heap_alloc_new w2 _, hbk.below ((Below.refl _ w2).alloc (Nat.le_refl _) _), HT.out.below (bl.alloc bl.size _), bl.alloc bl.size _⟩
  have HT3 := hid T3
  unfold bookC at HT3
  clear b2 H1 HBO HT hbk T3
  unfold bookC
  go_wp2_with fail
  rw [← hg]
  generalize World.alloc _ _ = w3 at HT3 ⊢
  have HT3 : Hid (Tw w b off A g odd a w3) := HT3
  clear hg
  refine (HSP.out _ HT3.out.low).mono ?_
  rintro e w4 ⟨⟨ov, rfl, hov, hcap⟩, b4⟩
  have HT4 := hid (HT3.out.keep b4)
  have HO4 := hid hov
  obtain ⟨tv, w5, happ, hto, b5⟩ := copy_sps hov hcap (by have := HLEN.out; omega)
  obtain ⟨oa, oc, ob, oo, rfl, -⟩ := hov.view
  obtain ⟨on, hon⟩ : ∃ on, on = own.length := ⟨_, rfl⟩
  rw [← hon] at HO4 happ ⊢
  have HON := hid hon
  have hl12 := HLEN.out
  rw [← hon] at hl12
  have HTO := hid hto
  have HB5 := hid b5
  obtain ⟨ta, tn, tc, rfl, htn⟩ := hto.view
  obtain rfl : tn = on := by omega
  clear b4 hov hcap hon HT3 HSP hto b5 htn
  go_upto_if 42 with (at_builtin; refine wpList_append_run rfl _ _ _ rfl _ _ rfl rfl happ ?_)
  go_cut [17] from 32 (fun _ wr => TlRel w4 (.slice ta tn tc) tn wr)
  case first =>
    clear happ
    by_cases h0 : tn = 0
    · have RR := hid (show TlRel w4 (.slice ta tn tc) tn w5 from ⟨own, HON.out.symm, HTO.out.read, HSML.out, HB5.out⟩)
      subst h0
      clear HTO HO4 HON
      go_wp2_with fail
      go_meet
      case rel => exact RR.out
    · have hne : own ≠ [] := fun h => h0 (by rw [HON.out, h]; rfl)
      obtain ⟨tg, tcap, et, htg, HTR⟩ := tr_of_own HTO.out hne (by rw [← HON.out]; omega)
      rw [← HON.out] at et HTR
      simp only [Value.slice.injEq, true_and] at et
      obtain ⟨rfl, rfl⟩ := et
      have HTR := hid HTR
      have hgt : ((tn : Int) > 0) = True := by rw [eq_iff_iff, iff_true]; omega
      clear hne
      go_wp2_with fail
      refine (pick_any which tn _ hw1 hw2 (by omega) (by omega)).mono ?_
      rintro e w6 ⟨rfl, rfl⟩
      obtain ⟨k, hk⟩ : ∃ k : Nat, pk which tn = (k : Int) := Int.eq_ofNat_of_zero_le (pk_range which tn (by omega)).1
      have hkn : k < tn := by have := (pk_range which tn (by omega)).2; omega
      rw [hk]
      clear hk
      have HT5 := hid (HT4.out.keep HB5.out)
      have o0 : w5.cell? ⟨w.heap.size, 0, none⟩ = some (.int .i64 odd.1.1) := cell_of HT5.out.ob rfl
      have o1 : w5.cell? ⟨w.heap.size, 1, none⟩ = some (.int .i64 odd.1.2.1) := cell_of HT5.out.ob rfl
      have o2 : w5.cell? ⟨w.heap.size, 2, none⟩ = some (.int .i64 odd.1.2.2) := cell_of HT5.out.ob rfl
      have o3 : w5.cell? ⟨w.heap.size, 3, none⟩ = some (.int .i64 odd.2.1) := cell_of HT5.out.ob rfl
      have o4 : w5.cell? ⟨w.heap.size, 4, none⟩ = some (.int .i64 odd.2.2) := cell_of HT5.out.ob rfl
      have HS6 := hid (HTR.out.set5 hkn odd)
      have B6 := hid (((((HB5.out.setCell (p := ⟨tg, k * 5, none⟩) htg (.int .i64 odd.1.1)).setCell (p := ⟨tg, k * 5 + 1, none⟩) htg (.int .i64 odd.1.2.1)).setCell (p := ⟨tg, k * 5 + 2, none⟩) htg (.int .i64 odd.1.2.2)).setCell (p := ⟨tg, k * 5 + 3, none⟩) htg (.int .i64 odd.2.1)).setCell (p := ⟨tg, k * 5 + 4, none⟩) htg (.int .i64 odd.2.2))
      have hkt : (k : Int) < (tn : Int) := by omega
      obtain ⟨x, hx⟩ : ∃ x, own[k]? = some x := ⟨_, List.getElem?_eq_getElem (by rw [← HON.out]; exact hkn)⟩
      have HX := hid hx
      obtain ⟨cur, hcur, -, hcell⟩ := HTR.out.blk
      have t0 : w5.cell? ⟨tg, k * 5, none⟩ = some (.int .i64 x.1.1) := cell_of hcur (hcell k x 0 _ hx rfl)
      have t1 : w5.cell? ⟨tg, k * 5 + 1, none⟩ = some (.int .i64 x.1.2.1) := cell_of hcur (hcell k x 1 _ hx rfl)
      have t2 : w5.cell? ⟨tg, k * 5 + 2, none⟩ = some (.int .i64 x.1.2.2) := cell_of hcur (hcell k x 2 _ hx rfl)
      have t3 : w5.cell? ⟨tg, k * 5 + 3, none⟩ = some (.int .i64 x.2.1) := cell_of hcur (hcell k x 3 _ hx rfl)
      have t4 : w5.cell? ⟨tg, k * 5 + 4, none⟩ = some (.int .i64 x.2.2) := cell_of hcur (hcell k x 4 _ hx rfl)
      have f0 := HTR.out.free (i := k * 5)
      have f1 := HTR.out.free (i := k * 5 + 1)
      have f2 := HTR.out.free (i := k * 5 + 2)
      have f3 := HTR.out.free (i := k * 5 + 3)
      have f4 := HTR.out.free (i := k * 5 + 4)
      obtain ⟨w6, hw6⟩ : ∃ w6, w6 = (((((w5.setCell ⟨tg, k * 5, none⟩ (.int .i64 odd.1.1)).setCell ⟨tg, k * 5 + 1, none⟩ (.int .i64 odd.1.2.1)).setCell ⟨tg, k * 5 + 2, none⟩ (.int .i64 odd.1.2.2)).setCell ⟨tg, k * 5 + 3, none⟩ (.int .i64 odd.2.1)).setCell ⟨tg, k * 5 + 4, none⟩ (.int .i64 odd.2.2)) := ⟨_, rfl⟩
      rw [← hw6] at HS6 B6
      have HW6 := hid hw6
      clear hx hcur hcell hw6
      go_wp2_with fail
      rw [← HW6.out]
      clear o0 o1 o2 o3 o4 t0 t1 t2 t3 t4 f0 f1 f2 f3 f4 HTR HTO HT5 HW6
      have h16 := tdiv16 hw1 hw2
      refine (pick_any (which.tdiv 16) 2 _ h16.1 h16.2 (by omega) (by omega)).mono ?_
      rintro e w7 ⟨rfl, rfl⟩
      clear h16
      by_cases hp : pk (which.tdiv 16) 2 = 0
      · obtain ⟨oa', oc', ob', oo', eo, -, hov⟩ := HO4.out.view
        simp only [Value.slice.injEq] at eo
        obtain ⟨rfl, -, rfl⟩ := eo
        obtain ⟨rfl, v0, v1, v2, -, -⟩ := hov k x HX.out
        have u0 := old_cell B6.out v0
        have u1 := old_cell B6.out v1
        have u2 := old_cell B6.out v2
        have hset : (own.set k odd)[k]? = some odd := List.getElem?_set_self (by rw [← HON.out]; exact hkn)
        obtain ⟨cur, hcur, -, hcell⟩ := HS6.out.blk
        have t0 : w6.cell? ⟨tg, k * 5, none⟩ = some (.int .i64 odd.1.1) := cell_of hcur (hcell k odd 0 _ hset rfl)
        have t1 : w6.cell? ⟨tg, k * 5 + 1, none⟩ = some (.int .i64 odd.1.2.1) := cell_of hcur (hcell k odd 1 _ hset rfl)
        have t2 : w6.cell? ⟨tg, k * 5 + 2, none⟩ = some (.int .i64 odd.1.2.2) := cell_of hcur (hcell k odd 2 _ hset rfl)
        have f0 := HS6.out.free (i := k * 5)
        have f1 := HS6.out.free (i := k * 5 + 1)
        have f2 := HS6.out.free (i := k * 5 + 2)
        have HS7 := HS6.out.set3 odd hset x.1
        have RR := hid (show TlRel w4 (.slice (some ⟨tg, 0, none⟩) tn tc) tn (((w6.setCell ⟨tg, k * 5, none⟩ (.int .i64 x.1.1)).setCell ⟨tg, k * 5 + 1, none⟩ (.int .i64 x.1.2.1)).setCell ⟨tg, k * 5 + 2, none⟩ (.int .i64 x.1.2.2)) from
          ⟨_, by rw [List.length_set, List.length_set]; exact HON.out.symm, HS7.reads, set_small (set_small HSML.out HO.out) (show SmallSp (x.1, odd.2) from ⟨(HSML.out x (List.mem_of_getElem? HX.out)).1, HO.out.2⟩), ((B6.out.setCell (p := ⟨tg, k * 5, none⟩) htg _).setCell (p := ⟨tg, k * 5 + 1, none⟩) htg _).setCell (p := ⟨tg, k * 5 + 2, none⟩) htg _⟩)
        rw [hp]
        clear hp hov v0 v1 v2 hset hcur hcell HS7 HS6 B6
        go_wp2_with fail
        go_meet
        case rel => exact RR.out
      · have RR := hid (show TlRel w4 (.slice (some ⟨tg, 0, none⟩) tn tc) tn w6 from ⟨_, by rw [List.length_set]; exact HON.out.symm, HS6.out.reads, set_small HSML.out HO.out, B6.out⟩)
        clear HS6 B6
        go_wp2_with fail
        go_meet
        case rel => exact RR.out
  case rest =>
    obtain ⟨tl, htl, htr, hts, htb⟩ := hcut
    have HT6 := hid (HT4.out.keep htb)
    have HO6 := hid (HO4.out.below htb)
    have HTR := hid htr
    have HTS := hid hts
    have HTL := hid htl
    have HM6 := hid (HMM.out wc HT6.out.low)
    obtain ⟨mx, hmx⟩ : ∃ mx, mx = min mn 12 := ⟨_, rfl⟩
    have emn : min (mn : Int) 12 = (mx : Int) := by omega
    have HM7 := hid (show SpsIn wc (.slice ma mx mc) (M.take mx) from SpsIn.take HM6.out (by omega))
    have hmx1 : mx ≤ mn := by omega
    have hmx2 : mx ≤ mc := by omega
    have HMX := hid (show (M.take mx).length ≤ 1000 by rw [List.length_take]; omega)
    clear htl htr hts htb hmx HM6 HMM HTO HB5 happ HO4 HT4 HT3
    go_wp2_with fail
    obtain ⟨gx, hgx⟩ : ∃ gx, gx = wc.heap.size := ⟨_, rfl⟩
    have b7 := (Below.refl wc.heap.size wc).alloc (Nat.le_refl _) (.cells #[.slice oa tn oc, .slice ta tn tc, .slice ma mx mc] 28)
    have g7 := heap_alloc_new wc (.cells #[.slice oa tn oc, .slice ta tn tc, .slice ma mx mc] 28)
    rw [← hgx] at g7
    have HXV := hid (fun (y : World) (hb : Below (wc.alloc (.cells #[.slice oa tn oc, .slice ta tn tc, .slice ma mx mc] 28)).heap.size (wc.alloc (.cells #[.slice oa tn oc, .slice ta tn tc, .slice ma mx mc] 28)) y) (j : Nat) (hj : j < 3) =>
      show ∃ xa xn xc X, y.cell? ⟨gx, j, none⟩ = some (.slice xa xn xc) ∧ SpsIn y (.slice xa xn xc) X ∧ (∀ x, x ∈ X → SmallSp x) ∧ X.length ≤ 1000 from by
        have h3 : j = 0 ∨ j = 1 ∨ j = 2 := by omega
        rcases h3 with rfl | rfl | rfl
        · exact ⟨_, _, _, own, old_cell hb (cell_of g7 rfl), (HO6.out.below b7).below hb, HSML.out, by rw [← HON.out]; omega⟩
        · exact ⟨_, _, _, tl, old_cell hb (cell_of g7 rfl), (HTR.out.below b7).below hb, HTS.out, by rw [HTL.out]; omega⟩
        · exact ⟨_, _, _, M.take mx, old_cell hb (cell_of g7 rfl), (HM7.out.below b7).below hb, fun x hx => HMS.out x (List.mem_of_mem_take hx), HMX.out⟩)
    have HT7 := hid (HT6.out.keep b7)
    rw [← hgx]
    clear b7 g7 hgx emn HO6 HTR HM7 HT6
    generalize World.alloc wc _ = w7 at HXV HT7 ⊢
    clear HMX HTL HTS HMS HSML HMN hmx1 hmx2 hm1 hmc1 hmc2
    rename_i K hK
    have HC := hid hK
    clear hK
    have R0 := hid (show ToRel w7 (.int .i64 0) w7 from ⟨0, rfl, by omega, Below.refl _ _⟩)
    go_loopw [73] (fun i wr => ToRel w7 i wr) (fun i _ => 3 - (RowKit.intOf i).toNat)
    case atStart => exact R0.out
    case round =>
      obtain ⟨j, rfl, hj, hb⟩ := hrel
      have HB := hid hb
      clear hb R0
      by_cases hj3 : j < 3
      · obtain ⟨xa, xn, xc, X, k0, hx, hxs, hxl⟩ := HXV.out _ HB.out j hj3
        have HTA := hid (HT7.out.keep HB.out)
        obtain ⟨⟨q0, q1, q2, q3⟩, -⟩ := HTA.out.cells
        have HX := hid hx
        have HXS := hid hxs
        have HXL := hid hxl
        have hj4 : ((j : Int) < 3) = True := by rw [eq_iff_iff, iff_true]; omega
        clear hx hxs hxl
        go_wp2_with fail
        refine (place_tell _ HTA.out.tabs _ _ A X HTA.out.bk HX.out HXL.out).mono ?_
        rintro e w8 ⟨⟨pa, pn, pc, qa, qn, qc, rfl, hp, hq⟩, b8⟩
        have HT8 := hid (HTA.out.keep b8)
        have HX8 := hid (HX.out.below b8)
        have HB8 := hid (HB.out.trans (b8.mono HB.out.size))
        have HP8 := hid hp
        have HQ8 := hid hq
        clear k0 q0 q1 q2 q3 b8 hp hq HTA HX HB
        obtain ⟨⟨q0, q1, q2, q3⟩, -⟩ := HT8.out.cells
        go_wp2_with fail
        refine (rplace_tell _ _ _ A X HT8.out.bk HX8.out HXS.out HXL.out).mono ?_
        rintro e w9 ⟨⟨ra, rn, rc, sa, sn, sc, rfl, hr, hs⟩, b9⟩
        have HT9 := hid (HT8.out.keep b9)
        have HX9 := hid (HX8.out.below b9)
        have HB9 := hid (HB8.out.trans (b9.mono HB8.out.size))
        have HP9 := hid (HP8.out.below b9)
        have HQ9 := hid (HQ8.out.below b9)
        have HR9 := hid hr
        have HS9 := hid hs
        clear q0 q1 q2 q3 b9 hr hs HT8 HX8 HB8 HP8 HQ8
        obtain ⟨te, hte⟩ : ∃ te, te = (tellP A X).2.2 := ⟨_, rfl⟩
        rw [← hte]
        clear hte
        have HSM := hid (tell_small (A := A) HXS.out)
        go_wp2_with fail
        refine (spsame_any _ _ _ _ _ HP9.out HR9.out HSM.out.1 HSM.out.1).mono ?_
        rintro e wa ⟨rfl, ba⟩
        rw [decide_eq_true rfl]
        have HTa := hid (HT9.out.keep ba)
        have HXa := hid (HX9.out.below ba)
        have HBa := hid (HB9.out.trans (ba.mono HB9.out.size))
        have HQa := hid (HQ9.out.below ba)
        have HSa := hid (HS9.out.below ba)
        clear ba HT9 HX9 HB9 HP9 HQ9 HR9 HS9
        go_wp2_with fail
        refine (atsame_any _ _ _ _ _ HQa.out HSa.out HSM.out.2 HSM.out.2).mono ?_
        rintro e wb ⟨rfl, bb⟩
        rw [decide_eq_true rfl]
        have HTb := hid (HTa.out.keep bb)
        have HXb := hid (HXa.out.below bb)
        have HBb := hid (HBa.out.trans (bb.mono HBa.out.size))
        clear bb HTa HXa HBa HQa HSa HSM
        go_wp2_with fail
        have HPK := hid (fun (c n : Int) (w : World) h1 h2 h3 h4 => pick_any c n w h1 h2 h3 h4)
        have a1 := HA.out.1.1
        have a2 := HA.out.1.2
        have a3 := HA.out.2.1.1
        have a4 := HA.out.2.1.2
        have a5 := HA.out.2.2.1
        have a6 := HA.out.2.2.2
        have K0 := hid (tl_keep (u := w7) ⟨HTb.out.cells.2, HBb.out⟩ (Below.refl _ wb).drew)
        have KA := hid (tl_keep (u := w7) ⟨HTb.out.cells.2, HBb.out⟩ ((Below.refl wb.heap.size wb).alloc (Nat.le_refl _) (.cells #[.int .i64 a.1, .int .i64 a.2.1, .int .i64 a.2.2, .int .i64 (pk a.1 2), .int .i64 (pk a.2.1 9), .int .i64 (pk a.2.2 9)] 25)).drew)
        have KB := hid (tl_keep (u := w7) ⟨HTb.out.cells.2, HBb.out⟩ ((Below.refl wb.heap.size wb).drew.alloc (Nat.le_refl _) (.cells #[.int .i64 a.1, .int .i64 a.2.1, .int .i64 a.2.2, .int .i64 (pk a.1 2), .int .i64 (pk a.2.1 9), .int .i64 (pk a.2.2 9)] 25)))
        have KC := hid (tl_keep (u := w7) ⟨HTb.out.cells.2, HBb.out⟩ ((Below.refl wb.heap.size wb).alloc (Nat.le_refl _) (.cells #[.int .i64 a.1, .int .i64 a.2.1, .int .i64 a.2.2, .int .i64 (pk a.1 2), .int .i64 (pk a.2.1 9), .int .i64 (pk a.2.2 9)] 25)))
        apply one_end (A := fun y => y.heap[wb.heap.size]? = some (.cells #[.int .i64 a.1, .int .i64 a.2.1, .int .i64 a.2.2, .int .i64 (pk a.1 2), .int .i64 (pk a.2.1 9), .int .i64 (pk a.2.2 9)] 25 (0, 0)) ∧ Below wb.heap.size wb y)
        · intro key
          go_region_held (fun y => (y.cell? ⟨w.heap.size + 1, 0, none⟩ = some (.int .i64 a.1) ∧ y.cell? ⟨w.heap.size + 1, 1, none⟩ = some (.int .i64 a.2.1) ∧ y.cell? ⟨w.heap.size + 1, 2, none⟩ = some (.int .i64 a.2.2)) ∧ Below w7.heap.size w7 y) (first | with_reducible exact K0.out | with_reducible exact KA.out | with_reducible exact KB.out | with_reducible exact KC.out) (first | (go_at_call 13; refine (HPK.out _ _ _ (by omega) (by omega) (by omega) (by omega)).mono ?_; rintro e wp ⟨rfl, rfl⟩))
          all_goals exact key _ ⟨heap_alloc_new wb _, ((Below.refl _ wb).alloc (Nat.le_refl _) _).drew⟩
        · rintro wd ⟨gd, bd⟩
          have HTd := hid (HTb.out.keep bd)
          have HXd := hid (HXb.out.below bd)
          have HBd := hid (HBb.out.trans (bd.mono HBb.out.size))
          obtain ⟨gy, hgy⟩ : ∃ gy, gy = wb.heap.size := ⟨_, rfl⟩
          rw [← hgy] at gd ⊢
          obtain ⟨yp, hyp⟩ : ∃ yp : PAt, yp = (pk a.1 2, pk a.2.1 9, pk a.2.2 9) := ⟨_, rfl⟩
          have HYV := hid (fun (y : World) (hb : Below wd.heap.size wd y) (i : Nat) (hi : i < 2) =>
            show ∃ c : PAt, y.cell? ⟨gy, i * 3, none⟩ = some (.int .i64 c.1) ∧ y.cell? ⟨gy, i * 3 + 1, none⟩ = some (.int .i64 c.2.1) ∧ y.cell? ⟨gy, i * 3 + 2, none⟩ = some (.int .i64 c.2.2) from by
              have h3 : i = 0 ∨ i = 1 := by omega
              rcases h3 with rfl | rfl
              · exact ⟨a, old_cell hb (cell_of gd rfl), old_cell hb (cell_of gd rfl), old_cell hb (cell_of gd rfl)⟩
              · exact ⟨(pk a.1 2, pk a.2.1 9, pk a.2.2 9), old_cell hb (cell_of gd rfl), old_cell hb (cell_of gd rfl), old_cell hb (cell_of gd rfl)⟩)
          clear gd bd K0 KA KB KC a1 a2 a3 a4 a5 a6 HPK hgy hyp HTb HXb HBb
          go_wp2_with fail
          rename_i K2 hK2
          have HC2 := hid hK2
          clear hK2
          have R2 := hid (show TiRel wd (.int .i64 0) wd from ⟨0, rfl, by omega, Below.refl _ _⟩)
          go_loopw [119] (fun i wr => TiRel wd i wr) (fun i _ => 2 - (RowKit.intOf i).toNat)
          case atStart => exact R2.out
          case round =>
            obtain ⟨i, rfl, hi, hbi⟩ := hrel
            have HBi := hid hbi
            clear hbi R2
            by_cases hi2 : i < 2
            · obtain ⟨c, c0, c1, c2⟩ := HYV.out _ HBi.out i hi2
              have hi4 : ((i : Int) < 2) = True := by rw [eq_iff_iff, iff_true]; omega
              have HXi := hid (HXd.out.below HBi.out)
              obtain ⟨gc, hgc⟩ : ∃ gc, gc = wr.heap.size := ⟨_, rfl⟩
              have be := (Below.refl wr.heap.size wr).alloc (Nat.le_refl _) (.cells #[.int .i64 c.1, .int .i64 c.2.1, .int .i64 c.2.2] 25)
              have ge := heap_alloc_new wr (.cells #[.int .i64 c.1, .int .i64 c.2.1, .int .i64 c.2.2] 25)
              rw [← hgc] at ge
              have HGe := hid ge
              have HXe := hid (HXi.out.below be)
              have HBe := hid (HBi.out.trans (be.mono HBi.out.size))
              obtain ⟨cs, hcs⟩ : ∃ cs, cs = (coverP X c).getD zeroSp := ⟨_, rfl⟩
              obtain ⟨ci, hci⟩ : ∃ ci, ci = (coverP X c).isSome := ⟨_, rfl⟩
              have hsm : SmallSp cs := by
                rw [hcs]
                unfold coverP
                cases hf : X.find? (fun x => decide (hasP x c)) with
                | none => exact ⟨⟨by decide, by decide, by decide⟩, by decide, by decide⟩
                | some x => exact HXS.out x (List.mem_of_find?_eq_some hf)
              have HEQ := hid (fun w => show (Op.equalIn 10000 27 (.agg #[.int .i64 cs.1.1, .int .i64 cs.1.2.1, .int .i64 cs.1.2.2, .int .i64 cs.2.1, .int .i64 cs.2.2]) (.agg #[.int .i64 cs.1.1, .int .i64 cs.1.2.1, .int .i64 cs.1.2.2, .int .i64 cs.2.1, .int .i64 cs.2.2])).run Tryz.prog w = .ok true w from by
                have := eq_sp cs cs hsm hsm w
                rwa [decide_eq_true rfl] at this)
              have HCV := hid (fun (y : World) (h : SpsIn y (.slice xa xn xc) X) => show Calls Tryz.prog 18 #[.slice xa xn xc, .agg #[.int .i64 c.1, .int .i64 c.2.1, .int .i64 c.2.2]] y fun e w' => e = .returned (.tuple #[.agg #[.int .i64 cs.1.1, .int .i64 cs.1.2.1, .int .i64 cs.1.2.2, .int .i64 cs.2.1, .int .i64 cs.2.2], .bool ci]) ∧ Below y.heap.size y w' from by rw [hcs, hci]; exact cover_any y _ X h c)
              have HRV := hid (fun (y : World) (h : SpsIn y (.slice xa xn xc) X) => show Calls Tryz.prog 19 #[.slice xa xn xc, .agg #[.int .i64 c.1, .int .i64 c.2.1, .int .i64 c.2.2]] y fun e w' => e = .returned (.tuple #[.agg #[.int .i64 cs.1.1, .int .i64 cs.1.2.1, .int .i64 cs.1.2.2, .int .i64 cs.2.1, .int .i64 cs.2.2], .bool ci]) ∧ Below y.heap.size y w' from by rw [hcs, hci]; exact rcover_any y _ X c h)
              clear hcs hci hsm be ge
              go_wp2_with fail
              rw [← hgc]
              clear hgc c0 c1 c2
              generalize World.alloc wr _ = we at HGe HXe HBe ⊢
              refine (HCV.out _ HXe.out).mono ?_
              rintro e wf ⟨rfl, bf⟩
              have gf := (bf.block _ (heap_lt HGe.out)).trans HGe.out
              have bg := (Below.refl wf.heap.size wf).alloc (Nat.le_refl _) (.cells #[.int .i64 cs.1.1, .int .i64 cs.1.2.1, .int .i64 cs.1.2.2, .int .i64 cs.2.1, .int .i64 cs.2.2] 27)
              obtain ⟨g8, hg8⟩ : ∃ g8, g8 = wf.heap.size := ⟨_, rfl⟩
              have g8n := heap_alloc_new wf (.cells #[.int .i64 cs.1.1, .int .i64 cs.1.2.1, .int .i64 cs.1.2.2, .int .i64 cs.2.1, .int .i64 cs.2.2] 27)
              rw [← hg8] at g8n
              have HG8 := hid g8n
              have HGg := hid (heap_alloc_keep gf (.cells #[.int .i64 cs.1.1, .int .i64 cs.1.2.1, .int .i64 cs.1.2.2, .int .i64 cs.2.1, .int .i64 cs.2.2] 27))
              have HXg := hid ((HXe.out.below bf).below bg)
              have HBg := hid (HBe.out.trans ((bf.mono HBe.out.size).trans (bg.mono (Nat.le_trans HBe.out.size bf.size))))
              have c0 : wf.cell? ⟨gc, 0, none⟩ = some (.int .i64 c.1) := cell_of gf rfl
              have c1 : wf.cell? ⟨gc, 1, none⟩ = some (.int .i64 c.2.1) := cell_of gf rfl
              have c2 : wf.cell? ⟨gc, 2, none⟩ = some (.int .i64 c.2.2) := cell_of gf rfl
              have hgl := heap_lt gf
              clear bf bg gf g8n HXe HBe HGe HCV HGg
              go_wp2_with fail
              rw [← hg8]
              clear c0 c1 c2 hgl hg8
              generalize World.alloc wf _ = wg at HG8 HXg HBg ⊢
              refine (HRV.out _ HXg.out).mono ?_
              rintro e wh ⟨rfl, bh⟩
              have gh := (bh.block _ (heap_lt HG8.out)).trans HG8.out
              have e0 : wh.cell? ⟨g8, 0, none⟩ = some (.int .i64 cs.1.1) := cell_of gh rfl
              have e1 : wh.cell? ⟨g8, 1, none⟩ = some (.int .i64 cs.1.2.1) := cell_of gh rfl
              have e2 : wh.cell? ⟨g8, 2, none⟩ = some (.int .i64 cs.1.2.2) := cell_of gh rfl
              have e3 : wh.cell? ⟨g8, 3, none⟩ = some (.int .i64 cs.2.1) := cell_of gh rfl
              have e4 : wh.cell? ⟨g8, 4, none⟩ = some (.int .i64 cs.2.2) := cell_of gh rfl
              have hgl := heap_lt gh
              have HBh := hid (HBg.out.trans (bh.mono HBg.out.size))
              have HBz := hid (HBh.out.alloc HBh.out.size (.cells #[.int .i64 cs.1.1, .int .i64 cs.1.2.1, .int .i64 cs.1.2.2, .int .i64 cs.2.1, .int .i64 cs.2.2] 27))
              have heq := HEQ.out
              clear bh gh HG8 HXg HBg HRV HBh HEQ
              cases ci
              · go_wp2_with fail
                go_roundw
                case rel => exact ⟨i + 1, by simp, by omega, HBz.out⟩
                case measure => simp [RowKit.intOf]; omega
              · go_wp2_with fail
                go_roundw
                case rel => exact ⟨i + 1, by simp, by omega, HBz.out⟩
                case measure => simp [RowKit.intOf]; omega
            · obtain rfl : i = 2 := by omega
              go_wp2_with fail
              refine HC2.out _ _ ?_
              go_wp2_with fail
              exact ⟨⟨j + 1, by simp, by omega, HBd.out.trans (HBi.out.mono HBd.out.size)⟩, by simp [RowKit.intOf]; omega⟩
      · obtain rfl : j = 3 := by omega
        go_wp2_with fail
        refine HC.out _ _ ?_
        go_wp2_with fail
        go_ret
        exact ⟨rfl, HT7.out.low.trans (HB.out.mono HT7.out.low.size)⟩
end Go.Proofs.YtmmknjpcffaidaaGreatDoor
