/- Contract of book.Set at a workbook of two sheets: an input is put into a place where none is. Condition: utf8's tables lie as they were laid. -/
import Derived.Test.YthkjmplcmfabfaaGreatDoorSpFindC
import Derived.Test.YthkjmplcmfabfaaGreatDoorSpCopy
import Derived.Test.YthkjmplcmfabfaaGreatDoorSpLawQ
namespace Go.Proofs.YthkjmplcmfabfaaGreatDoor
open Go.RowKit Go.Lib

/-- what stands while Set goes, ahead of its copy -/
structure Sw (w : World) (b off bc : Nat) (p : PAt) (y : World) : Prop where
  bk : y.heap[w.heap.size]? = some (.cells (bookC b off bc) 30 (0, 0))
  at' : y.heap[w.heap.size + 1]? = some (.cells #[.int .i64 p.1, .int .i64 p.2.1, .int .i64 p.2.2] 38 (0, 0))
  res : y.heap[w.heap.size + 1 + 1]? = some (.cells #[.slice none 0 0, .slice none 0 0, .slice none 0 0, .slice none 0 0] 30 (0, 0))
  low : Below w.heap.size w y
theorem Sw.keep {w y z : World} {b off bc : Nat} {p : PAt} (h : Sw w b off bc p y) (hb : Below y.heap.size y z) : Sw w b off bc p z :=
  ⟨(hb.block _ (heap_lt h.bk)).trans h.bk, (hb.block _ (heap_lt h.at')).trans h.at', (hb.block _ (heap_lt h.res)).trans h.res, h.low.trans (hb.mono h.low.size)⟩

/-- .. and behind it: the sheet that is changed, and the other one -/
structure Sy (w : World) (p : PAt) (D gs gc n B : Nat) (un uo : Value) (Ln Lo : List PAt) (tx : PAt → ByteArray) (y : World) : Prop where
  at' : y.heap[w.heap.size + 1]? = some (.cells #[.int .i64 p.1, .int .i64 p.2.1, .int .i64 p.2.2] 38 (0, 0))
  res : y.heap[w.heap.size + 1 + 1]? = some (.cells #[.slice none 0 0, .slice none 0 0, .slice none 0 0, .slice none 0 0] 30 (0, 0))
  out : y.heap[D]? = some (.cells (bookC gs 0 gc) 30 (0, 0))
  sh : ∃ cs, y.heap[gs]? = some (.cells cs 55 (0, 0)) ∧ cs[0]? = some (.string nameS) ∧ cs[2]? = some (.string nameT) ∧ cs[n * 2 + 1]? = some un ∧ cs[(1 - n) * 2 + 1]? = some uo
  this : ClsOwn y B un tx Ln
  that : ClsOwn y B uo tx Lo
  apart : ∀ h, un.ownBlock = some h → uo.ownBlock ≠ some h
  low : Below w.heap.size w y
  lo : w.heap.size + 3 ≤ B
  loD : B ≤ D
  loG : B ≤ gs
  n2 : n < 2
section
variable {w y z : World} {p : PAt} {D gs gc n B : Nat} {un uo : Value} {Ln Lo : List PAt} {tx : PAt → ByteArray}
theorem Sy.keep (h : Sy w p D gs gc n B un uo Ln Lo tx y) (hb : Below y.heap.size y z) : Sy w p D gs gc n B un uo Ln Lo tx z := by
  obtain ⟨cs, hs, h0, h1, h2, h3⟩ := h.sh
  exact ⟨(hb.block _ (heap_lt h.at')).trans h.at', (hb.block _ (heap_lt h.res)).trans h.res, (hb.block _ (heap_lt h.out)).trans h.out, ⟨cs, (hb.block _ (heap_lt hs)).trans hs, h0, h1, h2, h3⟩, h.this.below hb, h.that.below hb, h.apart, h.low.trans (hb.mono h.low.size), h.lo, h.loD, h.loG, h.n2⟩
theorem cls_congr {w : World} {B : Nat} {v : Value} {tx tx' : PAt → ByteArray} {l : List PAt} (h : ClsOwn w B v tx l) (he : ∀ q, q ∈ l → tx' q = tx q) : ClsOwn w B v tx' l := by
  unfold ClsOwn at *
  have e : l.flatMap (cellC tx') = l.flatMap (cellC tx) := by
    rw [List.flatMap_def, List.flatMap_def]
    congr 1
    refine List.map_congr_left (fun q hq => ?_)
    unfold cellC
    rw [he q hq]
  rw [e]
  exact h
theorem cells_congr {w : World} {v : Value} {tx tx' : PAt → ByteArray} {l : List PAt} (h : CellsIn w v tx l) (he : ∀ q, q ∈ l → tx' q = tx q) : CellsIn w v tx' l := by
  unfold CellsIn at *
  have e : l.map (cellC tx') = l.map (cellC tx) := List.map_congr_left (fun q hq => by unfold cellC; rw [he q hq])
  rw [e]
  exact h
theorem BookAt.congr {w : World} {v : Value} {A : List PAt} {tx tx' : PAt → ByteArray} (h : BookAt w v A tx) (he : ∀ q, q ∈ A → tx' q = tx q) : BookAt w v A tx' := by
  obtain ⟨⟨b, off, bc, v0, v1, hbc, e, h2, h3, h4, h5, h6, h7⟩, hr, ht, hf, ho⟩ := h
  exact ⟨⟨b, off, bc, v0, v1, hbc, e, h2, h3, h4, h5, cells_congr h6 (fun q hq => he q (onSheet_mem.1 hq).2), cells_congr h7 (fun q hq => he q (onSheet_mem.1 hq).2)⟩, hr, ht, hf, fun p hp => by rw [he p hp]; exact ho p hp⟩

/-- behind the new row of cells, laid into its sheet -/
theorem Sy.put {tx' : PAt → ByteArray} {Ln' : List PAt} {v' : Value} (h : Sy w p D gs gc n B un uo Ln Lo tx y) (hc : Chg (own un) y z) (ho : ClsOwn z B v' tx' Ln') (hb : ∀ g, v'.ownBlock = some g → un.ownBlock = some g ∨ y.heap.size ≤ g) (he : ∀ q, q ∈ Lo → tx' q = tx q) :
    Sy w p D gs gc n B v' uo Ln' Lo tx' (z.setCell ⟨gs, n * 2 + 1, none⟩ v') := by
  obtain ⟨cs, hs, h0, h1, h2, h3⟩ := h.sh
  have hl := h.this.low
  have lo := h.lo
  have kn : ∀ {k : Nat} {o : Obj}, k < B → y.heap[k]? = some o → z.heap[k]? = some o := fun {k o} hk hh => hc.heap hh (fun hm => by have := (hl k (by simpa [own] using hm)).1; omega)
  have hgs : z.heap[gs]? = some (.cells cs 55 (0, 0)) := hc.heap hs (fun hm => cls_ne_sheet h.this hs (by simpa [own] using hm))
  have hD : z.heap[D]? = some (.cells (bookC gs 0 gc) 30 (0, 0)) := hc.heap h.out (fun hm => by
    have hm' : un.ownBlock = some D := by simpa [own] using hm
    rcases h.this.2 with ⟨rfl, _⟩ | ⟨g', cap, cur, rfl, _, hg', _⟩
    · cases hm'
    · cases hm'
      exact heap_ne hg' h.out (by decide) rfl)
  have nD : D ≠ gs := heap_ne h.out hs (by decide)
  have hn := h.n2
  have lg := h.loG
  refine ⟨heap_setCell_far (kn (by omega) h.at') (by omega) _, heap_setCell_far (kn (by omega) h.res) (by omega) _, heap_setCell_far hD nD _, ⟨_, heap_setCell_at hgs _, ?_, ?_, ?_, ?_⟩, cls_store ho hgs, ?_, ?_, ?_, h.lo, h.loD, h.loG, h.n2⟩
  · rw [Array.getElem?_setIfInBounds_ne (by omega)]; exact h0
  · rw [Array.getElem?_setIfInBounds_ne (by omega)]; exact h1
  · rw [Array.getElem?_setIfInBounds_self_of_lt (Array.getElem?_eq_some_iff.1 h2).1]
  · rw [Array.getElem?_setIfInBounds_ne (by omega)]; exact h3
  · exact cls_store (cls_congr (h.that.chg hc (fun g hg hm => h.apart g (by simpa [own] using hm) hg)) he) hgs
  · intro g hg hg2
    rcases hb g hg with h5 | h5
    · exact h.apart g h5 hg2
    · exact Nat.lt_irrefl g (Nat.lt_of_lt_of_le (h.that.low g hg2).2 h5)
  · exact (h.low.trans (hc.below (fun x hx => by have := (hl x (by simpa [own] using hx)).1; omega) h.low.size)).setCell (show w.heap.size ≤ gs by omega) _
/-- it is a workbook -/
theorem Sy.book {A : List PAt} {F : List Nat} (h : Sy w p D gs gc n B un uo Ln Lo tx y) (hc : Chg F y z) (hF : ∀ x, x ∈ F → x < B) (hgc : 2 ≤ gc) (hn : Ln = onSheet A (n : Int)) (ho : Lo = onSheet A ((1 - n : Nat) : Int)) (hr : Rising A) (h2 : ∀ q, q ∈ A → InTwo q) (hf : A.length ≤ 13) (hk : ∀ q, q ∈ A → InOk (tx q)) : BookAt z (.agg (bookC gs 0 gc)) A tx := by
  obtain ⟨cs, hs, e0, e1, e2, e3⟩ := h.sh
  subst hn ho
  have n2 := h.n2
  have lg := h.loG
  have hs := hc.heap hs (fun hm => by have := hF _ hm; omega)
  have ht := h.this.chg hc (fun g hg hm => by have := hF _ hm; have := (h.this.low g hg).1; omega)
  have hu := h.that.chg hc (fun g hg hm => by have := hF _ hm; have := (h.that.low g hg).1; omega)
  have : n = 0 ∨ n = 1 := by omega
  rcases this with rfl | rfl
  · exact ⟨⟨gs, 0, gc, _, _, hgc, rfl, cell_of hs e0, cell_of hs e2, cell_of hs e1, cell_of hs e3, ht.read, hu.read⟩, hr, h2, hf, hk⟩
  · exact ⟨⟨gs, 0, gc, _, _, hgc, rfl, cell_of hs e0, cell_of hs e3, cell_of hs e1, cell_of hs e2, hu.read, ht.read⟩, hr, h2, hf, hk⟩
theorem BookOwn.view {B : Nat} {ov : Value} {A : List PAt} (h : BookOwn w B ov A tx) : ∃ gs gc, ov = .agg (bookC gs 0 gc) := by
  obtain ⟨g, bc, u0, u1, S, e, -⟩ := h
  exact ⟨g, bc, e⟩
theorem Sw.start {b off bc : Nat} {A : List PAt} {z' : World} (h : Sw w b off bc p y) (hb : Below y.heap.size y z) (ho : BookOwn z y.heap.size (.agg (bookC gs 0 gc)) A tx) (hn : n < 2) (hz : Below z.heap.size z z') (hD : z'.heap[z.heap.size]? = some (.cells (bookC gs 0 gc) 30 (0, 0))) :
    2 ≤ gc ∧ ∃ un uo, Sy w p z.heap.size gs gc n y.heap.size un uo (onSheet A (n : Int)) (onSheet A ((1 - n : Nat) : Int)) tx z' := by
  obtain ⟨g, bc', u0, u1, S, e, hc, hg, hs, c0, c1, hap⟩ := ho
  have e' : gs = g ∧ gc = bc' := by simpa [bookC] using e
  obtain ⟨rfl, rfl⟩ := e'
  have hS := h.keep hb
  have hsz := heap_lt h.res
  have k := hS.keep hz
  have : n = 0 ∨ n = 1 := by omega
  refine ⟨hc, ?_⟩
  rcases this with rfl | rfl
  · exact ⟨u0, u1, k.at', k.res, hD, ⟨_, (hz.block _ (heap_lt hs)).trans hs, rfl, rfl, rfl, rfl⟩, c0.below hz, c1.below hz, hap, k.low, by omega, hb.size, hg, by omega⟩
  · exact ⟨u1, u0, k.at', k.res, hD, ⟨_, (hz.block _ (heap_lt hs)).trans hs, rfl, rfl, rfl, rfl⟩, c1.below hz, c0.below hz, fun x hx hy => hap x hy hx, k.low, by omega, hb.size, hg, by omega⟩
end
end Go.Proofs.YthkjmplcmfabfaaGreatDoor
