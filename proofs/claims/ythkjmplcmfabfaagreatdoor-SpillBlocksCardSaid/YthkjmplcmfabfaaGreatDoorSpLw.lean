/- What the Spill laws share: when Place may answer; the law's workbook behind a pointer. Condition: utf8's tables lie as they were laid. -/
import Derived.Test.YthkjmplcmfabfaaGreatDoorSpAwake
namespace Go.Proofs.YthkjmplcmfabfaaGreatDoor
open Go.RowKit Go.Lib

theorem own_mayP {A : List PAt} (hr : Rising A) (z : List (Int × Int)) : mayP A (ownOf A z) := by
  have h := ownOf_ok hr z
  intro j hj x hx
  have hm := List.mem_of_getElem? hx
  have hs := h.size x hm
  have hp : x.2.1 * x.2.2 ≤ 25 := Int.le_trans (Int.mul_le_mul hs.2.1 hs.2.2.2 (by omega) (by omega)) (by decide)
  refine ⟨⟨h.here x hm, hs.1, hs.2.2.1, by omega, by omega, by omega⟩, fun y h0 hy => ?_⟩
  obtain ⟨h1, e1⟩ := List.getElem?_eq_some_iff.1 hx
  obtain ⟨h2, e2⟩ := List.getElem?_eq_some_iff.1 hy
  have := List.pairwise_iff_getElem.1 h.order (j - 1) j h2 h1 (by omega)
  rwa [e1, e2] at this
theorem mayP_take {A : List PAt} {l : List PSp} (h : mayP A l) (k : Nat) : mayP A (l.take k) := by
  intro j hj x hx
  rw [List.length_take] at hj
  rw [List.getElem?_take_of_lt (by omega)] at hx
  refine ⟨(h j (by omega) x hx).1, fun y h0 hy => (h j (by omega) x hx).2 y h0 ?_⟩
  rwa [List.getElem?_take_of_lt (by omega)] at hy
theorem small_ownOf {A : List PAt} (h2 : ∀ p, p ∈ A → InTwo p) (hr : Rising A) (z : List (Int × Int)) : ∀ x, x ∈ ownOf A z → SmallSp x := fun x hx => by
  have h := ownOf_ok hr z
  have hs := h.size x hx
  exact ⟨small_two (h2 _ (h.here x hx)), by omega, by omega⟩
theorem small_placed {T : PAt → Prop} {l : List PSp} (h : ∀ x, x ∈ l → SmallSp x) : ∀ x, x ∈ (placeP T l).1 → SmallSp x := fun x hx => h x (placeP_mem l T x hx).1
theorem small_blocked {T : PAt → Prop} {l : List PSp} (h : ∀ x, x ∈ l → SmallSp x) : ∀ p, p ∈ (placeP T l).2 → SmallAt p := fun p hp => by
  obtain ⟨x, hx, rfl⟩ := placeP_blocked l T p hp
  exact (h x hx).1

/-- what stands while a law goes: its workbook behind a pointer -/
structure Lw (w : World) (bv : Value) (bc : Array Value) (A : List PAt) (g : Nat) (y : World) : Prop where
  b : y.heap[g]? = some (.cells bc 30 (0, 0))
  bk : BookAt y bv A one1
  tabs : Tabs y
  low : Below w.heap.size w y
theorem Lw.keep {w y z : World} {bv : Value} {bc : Array Value} {A : List PAt} {g : Nat} (h : Lw w bv bc A g y) (hb : Below y.heap.size y z) : Lw w bv bc A g z :=
  ⟨(hb.block _ (heap_lt h.b)).trans h.b, h.bk.below hb, h.tabs.below hb, h.low.trans (hb.mono h.low.size)⟩
end Go.Proofs.YthkjmplcmfabfaaGreatDoor
