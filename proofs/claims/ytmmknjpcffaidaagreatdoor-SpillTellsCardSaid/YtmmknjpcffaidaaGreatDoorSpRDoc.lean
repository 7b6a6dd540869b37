/- Contracts of the document's among and Cover. No condition but that places are ints of 64 bits. Contract of the document's Right. Condition: the places are ints of 64 bits. The document's way to place spills is the plain one: what blocks a spill is the sheet's edge, a cell, or one that is placed; no program in sight. No condition. Contract of the document's Blocked. Condition: the places are ints of 64 bits. Contract of the document's Place. Condition: the spills are ints of 64 bits. -/
import Derived.Test.YtmmknjpcffaidaaGreatDoorSpRArea
import Derived.Test.YtmmknjpcffaidaaGreatDoorSpBin
import Derived.Test.YtmmknjpcffaidaaGreatDoorSpEq
import Derived.Test.YtmmknjpcffaidaaGreatDoorSpCover
import Derived.Test.YtmmknjpcffaidaaGreatDoorSpMay
import Derived.Test.YtmmknjpcffaidaaGreatDoorSpPlace
import Derived.Test.YtmmknjpcffaidaaGreatDoorSpLawS
import Derived.Test.YtmmknjpcffaidaaGreatDoorSpRBook
import Derived.Test.YtmmknjpcffaidaaGreatDoorSpPl

/- Contracts of the document's among and Cover. No condition but that places are ints of 64 bits. -/
namespace Go.Proofs.YtmmknjpcffaidaaGreatDoor
open Go.RowKit Go.Lib

def AmRel (w : World) (p : PAt) (l : List PAt) (i : Value) (wr : World) : Prop := ∃ j : Nat, i = .int .i64 (j : Int) ∧ j ≤ l.length ∧ p ∉ l.take j ∧ BiM w p wr
set_option maxRecDepth 20000 in
set_option maxHeartbeats 1000000 in
theorem among_any (w : World) (v : Value) (l : List PAt) (p : PAt) (hl : AtsIn w v l) (sl : ∀ x, x ∈ l → SmallAt x) (sp : SmallAt p) :
    Calls Tryz.prog 49 #[v, atV p] w fun e w' => e = .returned (.bool (decide (p ∈ l))) ∧ Below w.heap.size w w' := by
  obtain ⟨la, lc, lb, lo, rfl, hll, hlv⟩ := hl.view
  have HLV := hid hlv
  have HSL := hid sl
  have HSP := hid sp
  obtain ⟨ln, hln⟩ : ∃ n, n = l.length := ⟨_, rfl⟩
  rw [← hln] at hll ⊢
  have HLN := hid hln
  obtain ⟨bo, hbo⟩ : ∃ bo, bo = decide (p ∈ l) := ⟨_, rfl⟩
  rw [← hbo]
  have HBO := hid hbo
  have R0 := hid (show AmRel w p l (.int .i64 0) (w.alloc (.cells (atC p).toArray 25)) from ⟨0, rfl, by omega, by simp, heap_alloc_new w _, (Below.refl _ w).alloc (Nat.le_refl _) _⟩)
  clear hl hlv sl sp hln hbo
  unfold atV
  go_enter Tryz.func49, Tryz.ntmps49
  go_wp2_with fail
  have R1 := hid (show AmRel w p l (.int .i64 0) (w.alloc (.cells #[.int .i64 p.1, .int .i64 p.2.1, .int .i64 p.2.2] 25)) from R0.out)
  clear R0
  go_loopw [5] (fun i wr => AmRel w p l i wr) (fun i _ => ln - (RowKit.intOf i).toNat)
  case atStart => exact R1.out
  case round =>
    obtain ⟨j, rfl, hj, hs, hm⟩ := hrel
    rw [← HLN.out] at hj
    have HS := hid hs
    have HM := hid hm
    clear hs R1
    by_cases hjn : j < ln
    · obtain ⟨x, hx⟩ : ∃ x, l[j]? = some x := ⟨_, List.getElem?_eq_getElem (by rw [← HLN.out]; omega)⟩
      obtain ⟨rfl, x0, x1, x2⟩ := HLV.out j x hx
      have kk : ∀ {p : Addr} {u : Value}, w.cell? p = some u → wr.cell? p = some u := fun {p u} hc => (HM.out.low.cell (World.block_lt_of_cell? _ _ hc)).trans hc
      have x0' := kk x0
      have x1' := kk x1
      have x2' := kk x2
      have y0 : wr.cell? ⟨w.heap.size, 0, none⟩ = some (.int .i64 p.1) := cell_of hm.tgt rfl
      have y1 : wr.cell? ⟨w.heap.size, 1, none⟩ = some (.int .i64 p.2.1) := cell_of hm.tgt rfl
      have y2 : wr.cell? ⟨w.heap.size, 2, none⟩ = some (.int .i64 p.2.2) := cell_of hm.tgt rfl
      have heq := fun w => eq_at x p (HSL.out x (List.mem_of_getElem? hx)) HSP.out w
      unfold atV at heq
      have hx1 : ((j : Int) < (ln : Int)) = True := by rw [eq_iff_iff, iff_true]; omega
      have HX := hid hx
      clear kk x0 x1 x2 hx hm
      by_cases he : x = p
      · rw [decide_eq_true he] at heq
        have HE := hid (show bo = true by rw [HBO.out]; exact decide_eq_true (he ▸ List.mem_of_getElem? HX.out))
        clear he
        go_wp2_with fail
        go_quiet (fail)
        clear heq x0' y0 x1' y1 x2' y2
        go_wp2_with fail
        go_ret
        exact ⟨ret_bool HE.out.symm, below_drewN HM.out.low _⟩
      · rw [decide_eq_false he] at heq
        have HT := hid (show p ∉ l.take (j + 1) by
          obtain ⟨h1, e1⟩ := List.getElem?_eq_some_iff.1 HX.out
          rw [List.take_succ_eq_append_getElem h1, List.mem_append, not_or]
          exact ⟨HS.out, by rw [e1]; simpa using fun h => he h.symm⟩)
        clear he
        go_wp2_with fail
        go_quiet (fail)
        clear heq x0' y0 x1' y1 x2' y2
        go_wp2_with fail
        go_roundw
        case rel => exact ⟨j + 1, by simp, by rw [← HLN.out]; omega, HT.out, HM.out.keep (below_drewN (Below.refl _ _) _)⟩
        case measure => simp [RowKit.intOf]; omega
    · have hx1 : ((j : Int) < (ln : Int)) = False := by rw [eq_iff_iff, iff_false]; omega
      have HE := hid (show bo = false by rw [HBO.out]; exact decide_eq_false (by have h := HS.out; rwa [List.take_of_length_le (by rw [← HLN.out]; omega)] at h))
      clear hm
      go_wp2_with fail
      go_ret
      exact ⟨ret_bool HE.out.symm, HM.out.low⟩

/-- what stands while Cover goes: the place, the answer's block -/
structure Cv (w : World) (p : PAt) (y : World) : Prop where
  tgt : y.heap[w.heap.size]? = some (.cells (atC p).toArray 25 (0, 0))
  rs : y.heap[w.heap.size + 1]? = some (.cells #[.int .i64 0, .int .i64 0, .int .i64 0, .int .i64 0, .int .i64 0] 27 (0, 0))
  low : Below w.heap.size w y
theorem Cv.keep {w y z : World} {p : PAt} (h : Cv w p y) (hb : Below y.heap.size y z) : Cv w p z := ⟨(hb.block _ (heap_lt h.tgt)).trans h.tgt, (hb.block _ (heap_lt h.rs)).trans h.rs, h.low.trans (hb.mono h.low.size)⟩
def CvRel (w : World) (p : PAt) (l : List PSp) (i : Value) (wr : World) : Prop := ∃ j : Nat, i = .int .i64 (j : Int) ∧ j ≤ l.length ∧ (∀ x, x ∈ l.take j → ¬ hasP x p) ∧ Cv w p wr
theorem cv5_keep {w y z : World} {p : PAt} {a b c d e f g h : Addr} {u1 u2 u3 u4 u5 u6 u7 u8 : Value} (hS : (y.cell? a = some u1 ∧ y.cell? b = some u2 ∧ y.cell? c = some u3) ∧ (y.cell? d = some u4 ∧ y.cell? e = some u5 ∧ y.cell? f = some u6 ∧ y.cell? g = some u7 ∧ y.cell? h = some u8) ∧ Cv w p y) (hb : Below y.heap.size y z) :
    (z.cell? a = some u1 ∧ z.cell? b = some u2 ∧ z.cell? c = some u3) ∧ (z.cell? d = some u4 ∧ z.cell? e = some u5 ∧ z.cell? f = some u6 ∧ z.cell? g = some u7 ∧ z.cell? h = some u8) ∧ Cv w p z := by
  have k : ∀ {p : Addr} {u : Value}, y.cell? p = some u → z.cell? p = some u := fun {p u} hc => (hb.cell (World.block_lt_of_cell? _ _ hc)).trans hc
  obtain ⟨⟨h1, h2, h3⟩, ⟨h4, h5, h6, h7, h8⟩, h9⟩ := hS
  exact ⟨⟨k h1, k h2, k h3⟩, ⟨k h4, k h5, k h6, k h7, k h8⟩, h9.keep hb⟩
theorem coverP_first {l : List PSp} {p : PAt} {j : Nat} {x : PSp} (hx : l[j]? = some x) (h : hasP x p) (hn : ∀ y, y ∈ l.take j → ¬ hasP y p) : coverP l p = some x := by
  unfold coverP
  obtain ⟨hj, e⟩ := List.getElem?_eq_some_iff.1 hx
  have hs : l = l.take j ++ x :: l.drop (j + 1) := by rw [← e, ← List.drop_eq_getElem_cons hj, List.take_append_drop]
  rw [hs, List.find?_append]
  have h0 : (l.take j).find? (fun x => decide (hasP x p)) = none := List.find?_eq_none.2 (fun y hy => by simpa using hn y hy)
  rw [h0]
  simp [h]
set_option maxRecDepth 20000 in
set_option maxHeartbeats 2000000 in
theorem rcover_any (w : World) (v : Value) (l : List PSp) (p : PAt) (hl : SpsIn w v l) :
    Calls Tryz.prog 19 #[v, atV p] w fun e w' => e = .returned (.tuple #[spV ((coverP l p).getD zeroSp), .bool (coverP l p).isSome]) ∧ Below w.heap.size w w' := by
  obtain ⟨la, lc, lb, lo, rfl, hll, hlv⟩ := hl.view
  have HLV := hid hlv
  obtain ⟨ln, hln⟩ : ∃ n, n = l.length := ⟨_, rfl⟩
  rw [← hln] at hll ⊢
  have HLN := hid hln
  obtain ⟨co, hco⟩ : ∃ co, co = coverP l p := ⟨_, rfl⟩
  rw [← hco]
  have HCO := hid hco
  have R0 := hid (show CvRel w p l (.int .i64 0) ((w.alloc (.cells #[.int .i64 p.1, .int .i64 p.2.1, .int .i64 p.2.2] 25)).alloc (.cells #[.int .i64 0, .int .i64 0, .int .i64 0, .int .i64 0, .int .i64 0] 27)) from
    ⟨0, rfl, by omega, by simp, heap_alloc_keep (heap_alloc_new w _) _, heap_alloc2_new w _ _, ((Below.refl _ w).alloc (Nat.le_refl _) _).alloc (by simp) _⟩)
  have HAR := hid (fun x w => refArea_any x w)
  have HHA := hid (fun x w => r2has_any x p w)
  clear hl hlv hln hco
  unfold atV at *
  go_enter Tryz.func19, Tryz.ntmps19
  go_wp2_with fail
  go_loopw [6] (fun i wr => CvRel w p l i wr) (fun i _ => ln - (RowKit.intOf i).toNat)
  case atStart => exact R0.out
  case round =>
    obtain ⟨j, rfl, hj, hs, hm⟩ := hrel
    rw [← HLN.out] at hj
    have HS := hid hs
    have HM := hid hm
    clear hs R0
    by_cases hjn : j < ln
    · obtain ⟨x, hx⟩ : ∃ x, l[j]? = some x := ⟨_, List.getElem?_eq_getElem (by rw [← HLN.out]; omega)⟩
      obtain ⟨rfl, x0, x1, x2, x3, x4⟩ := HLV.out j x hx
      have kk : ∀ {p : Addr} {u : Value}, w.cell? p = some u → wr.cell? p = some u := fun {p u} hc => (HM.out.low.cell (World.block_lt_of_cell? _ _ hc)).trans hc
      have a0 : wr.cell? ⟨w.heap.size, 0, none⟩ = some (.int .i64 p.1) := cell_of hm.tgt rfl
      have a1 : wr.cell? ⟨w.heap.size, 1, none⟩ = some (.int .i64 p.2.1) := cell_of hm.tgt rfl
      have a2 : wr.cell? ⟨w.heap.size, 2, none⟩ = some (.int .i64 p.2.2) := cell_of hm.tgt rfl
      have K0 := hid (cv5_keep (w := w) (p := p) ⟨⟨a0, a1, a2⟩, ⟨kk x0, kk x1, kk x2, kk x3, kk x4⟩, hm⟩ (Below.refl wr.heap.size wr).drew)
      have hx1 : ((j : Int) < (ln : Int)) = True := by rw [eq_iff_iff, iff_true]; omega
      have HX := hid hx
      have HXC := hid (fun (y : World) (hb : Below w.heap.size w y) => show y.cell? ⟨lb, lo + j * 5, none⟩ = some (.int .i64 x.1.1) ∧ y.cell? ⟨lb, lo + j * 5 + 1, none⟩ = some (.int .i64 x.1.2.1) ∧ y.cell? ⟨lb, lo + j * 5 + 2, none⟩ = some (.int .i64 x.1.2.2) ∧ y.cell? ⟨lb, lo + j * 5 + 3, none⟩ = some (.int .i64 x.2.1) ∧ y.cell? ⟨lb, lo + j * 5 + 4, none⟩ = some (.int .i64 x.2.2) from
        have k2 : ∀ {p : Addr} {u : Value}, w.cell? p = some u → y.cell? p = some u := fun {p u} hc => (hb.cell (World.block_lt_of_cell? _ _ hc)).trans hc
        ⟨k2 x0, k2 x1, k2 x2, k2 x3, k2 x4⟩)
      have HAX := hid (HAR.out x)
      have HHX := hid (HHA.out x)
      obtain ⟨bo, hbo⟩ : ∃ bo, bo = decide (hasP x p) := ⟨_, rfl⟩
      rw [← hbo] at HHX
      have HB := hid hbo
      clear kk x0 x1 x2 x3 x4 hx hm hbo a0 a1 a2
      unfold spV at HAX HHX
      go_wp2_with fail
      go_region_held (fun y => (y.cell? ⟨w.heap.size, 0, none⟩ = some (.int .i64 p.1) ∧ y.cell? ⟨w.heap.size, 1, none⟩ = some (.int .i64 p.2.1) ∧ y.cell? ⟨w.heap.size, 2, none⟩ = some (.int .i64 p.2.2)) ∧ (y.cell? ⟨lb, lo + j * 5, none⟩ = some (.int .i64 x.1.1) ∧ y.cell? ⟨lb, lo + j * 5 + 1, none⟩ = some (.int .i64 x.1.2.1) ∧ y.cell? ⟨lb, lo + j * 5 + 2, none⟩ = some (.int .i64 x.1.2.2) ∧ y.cell? ⟨lb, lo + j * 5 + 3, none⟩ = some (.int .i64 x.2.1) ∧ y.cell? ⟨lb, lo + j * 5 + 4, none⟩ = some (.int .i64 x.2.2)) ∧ Cv w p y) (first | exact K0.out | (refine cv5_keep ?_ ‹Below _ _ _›; assumption)) (first | (go_at_call 21; refine (HAX.out _).mono ?_; rintro e w4 ⟨rfl, b4⟩) | (go_at_call 36; refine (HHX.out _).mono ?_; rintro e w5 ⟨rfl, b5⟩))
      have HM5 := hid (show Cv w p w5 by apply bi_of; assumption)
      clear K0 HAX HHX
      cases bo
      · have HT := hid (show ∀ y, y ∈ l.take (j + 1) → ¬ hasP y p from fun y hy => by
          obtain ⟨h1, e1⟩ := List.getElem?_eq_some_iff.1 HX.out
          rw [List.take_succ_eq_append_getElem h1, List.mem_append] at hy
          rcases hy with hy | hy
          · exact HS.out y hy
          · rw [e1, List.mem_singleton] at hy
            rw [hy]
            exact of_decide_eq_false HB.out.symm)
        go_wp2_with fail
        go_roundw
        case rel => exact ⟨j + 1, by simp, by rw [← HLN.out]; omega, HT.out, HM5.out⟩
        case measure => simp [RowKit.intOf]; omega
      · have HE := hid (show co = some x by rw [HCO.out]; exact coverP_first HX.out (of_decide_eq_true HB.out.symm) HS.out)
        obtain ⟨x0, x1, x2, x3, x4⟩ := HXC.out _ HM5.out.low
        have r0 : w5.cell? ⟨w.heap.size + 1, 0, none⟩ = some (.int .i64 0) := cell_of HM5.out.rs rfl
        have r1 : w5.cell? ⟨w.heap.size + 1, 1, none⟩ = some (.int .i64 0) := cell_of HM5.out.rs rfl
        have r2 : w5.cell? ⟨w.heap.size + 1, 2, none⟩ = some (.int .i64 0) := cell_of HM5.out.rs rfl
        have r3 : w5.cell? ⟨w.heap.size + 1, 3, none⟩ = some (.int .i64 0) := cell_of HM5.out.rs rfl
        have r4 : w5.cell? ⟨w.heap.size + 1, 4, none⟩ = some (.int .i64 0) := cell_of HM5.out.rs rfl
        have f0 := free_of (i := 0) HM5.out.rs
        have f1 := free_of (i := 1) HM5.out.rs
        have f2 := free_of (i := 2) HM5.out.rs
        have f3 := free_of (i := 3) HM5.out.rs
        have f4 := free_of (i := 4) HM5.out.rs
        go_wp2_with fail
        refine bodyPost_ret (v := .tuple #[.agg #[.int .i64 x.1.1, .int .i64 x.1.2.1, .int .i64 x.1.2.2, .int .i64 x.2.1, .int .i64 x.2.2], .bool true]) (by simp [results, Tryz.results19, go_sem, *]) rfl ?_
        exact ⟨by rw [HE.out]; rfl, ((((HM5.out.low.setCell (by simp) _).setCell (by simp) _).setCell (by simp) _).setCell (by simp) _).setCell (by simp) _⟩
    · have hx1 : ((j : Int) < (ln : Int)) = False := by rw [eq_iff_iff, iff_false]; omega
      have HE := hid (show co = none by rw [HCO.out]; exact coverP_none (by have h := HS.out; rwa [List.take_of_length_le (by rw [← HLN.out]; omega)] at h))
      have r0 : wr.cell? ⟨w.heap.size + 1, 0, none⟩ = some (.int .i64 0) := cell_of HM.out.rs rfl
      have r1 : wr.cell? ⟨w.heap.size + 1, 1, none⟩ = some (.int .i64 0) := cell_of HM.out.rs rfl
      have r2 : wr.cell? ⟨w.heap.size + 1, 2, none⟩ = some (.int .i64 0) := cell_of HM.out.rs rfl
      have r3 : wr.cell? ⟨w.heap.size + 1, 3, none⟩ = some (.int .i64 0) := cell_of HM.out.rs rfl
      have r4 : wr.cell? ⟨w.heap.size + 1, 4, none⟩ = some (.int .i64 0) := cell_of HM.out.rs rfl
      have f0 := free_of (i := 0) HM.out.rs
      have f1 := free_of (i := 1) HM.out.rs
      have f2 := free_of (i := 2) HM.out.rs
      have f3 := free_of (i := 3) HM.out.rs
      have f4 := free_of (i := 4) HM.out.rs
      clear hm
      go_wp2_with fail
      refine bodyPost_ret (v := .tuple #[.agg #[.int .i64 0, .int .i64 0, .int .i64 0, .int .i64 0, .int .i64 0], .bool false]) (by simp [results, Tryz.results19, go_sem, *]) rfl ?_
      exact ⟨by rw [HE.out]; rfl, ((((HM.out.low.setCell (by simp) _).setCell (by simp) _).setCell (by simp) _).setCell (by simp) _).setCell (by simp) _⟩
end Go.Proofs.YtmmknjpcffaidaaGreatDoor

/- Contract of the document's Right. Condition: the places are ints of 64 bits. -/
namespace Go.Proofs.YtmmknjpcffaidaaGreatDoor
open Go.RowKit Go.Lib

def RtRel (w : World) (A : List PAt) (l : List PSp) (i : Value) (wr : World) : Prop := ∃ j : Nat, i = .int .i64 (j : Int) ∧ j ≤ l.length ∧ mayUp A l j ∧ Below w.heap.size w wr
theorem rt_keep {w y z : World} {a b c d e f : Addr} {u1 u2 u3 u4 u5 u6 : Value} (hS : (y.cell? a = some u1 ∧ y.cell? b = some u2 ∧ y.cell? c = some u3) ∧ (y.cell? d = some u4 ∧ y.cell? e = some u5 ∧ y.cell? f = some u6) ∧ Below w.heap.size w y) (hb : Below y.heap.size y z) :
    (z.cell? a = some u1 ∧ z.cell? b = some u2 ∧ z.cell? c = some u3) ∧ (z.cell? d = some u4 ∧ z.cell? e = some u5 ∧ z.cell? f = some u6) ∧ Below w.heap.size w z := by
  have k : ∀ {p : Addr} {u : Value}, y.cell? p = some u → z.cell? p = some u := fun {p u} hc => (hb.cell (World.block_lt_of_cell? _ _ hc)).trans hc
  obtain ⟨⟨h1, h2, h3⟩, ⟨h4, h5, h6⟩, h9⟩ := hS
  exact ⟨⟨k h1, k h2, k h3⟩, ⟨k h4, k h5, k h6⟩, h9.trans (hb.mono h9.size)⟩
open Classical in
set_option maxRecDepth 20000 in
set_option maxHeartbeats 8000000 in
theorem rright14_any (w : World) (lv cv : Value) (A : List PAt) (l : List PSp) (hl : SpsIn w lv l) (hc : AtsIn w cv A) (sa : ∀ p, p ∈ A → SmallAt p) (sl : ∀ x, x ∈ l → SmallSp x) :
    Calls Tryz.prog 32 #[lv, cv] w fun e w' => e = .returned (.bool (decide (mayP A l))) ∧ Below w.heap.size w w' := by
  have HAM := hid (fun (y : World) (hb : Below w.heap.size w y) (p : PAt) (hp : SmallAt p) => among_any y cv A p (hc.below hb) sa hp)
  have HAH := hid (fun a b w => ahead_any a b w)
  obtain ⟨ca, cc, cb, co, rfl, -⟩ := hc.view
  obtain ⟨la, lc, lb, lo, rfl, hll, hlv⟩ := hl.view
  have HLV := hid hlv
  have HSL := hid sl
  obtain ⟨ln, hln⟩ : ∃ n, n = l.length := ⟨_, rfl⟩
  rw [← hln] at hll ⊢
  have HLN := hid hln
  obtain ⟨an, han⟩ : ∃ n, n = A.length := ⟨_, rfl⟩
  rw [← han] at HAM ⊢
  obtain ⟨bo, hbo⟩ : ∃ bo, bo = decide (mayP A l) := ⟨_, rfl⟩
  rw [← hbo]
  have HBO := hid hbo
  have R0 := hid (show RtRel w A l (.int .i64 0) w from ⟨0, rfl, by omega, mayUp_zero A l, Below.refl _ _⟩)
  clear hl hc sa sl hlv hln han hbo
  unfold atV at HAM HAH
  go_enter Tryz.func32, Tryz.ntmps32
  go_wp2_with fail
  go_loopw [5] (fun i wr => RtRel w A l i wr) (fun i _ => ln - (RowKit.intOf i).toNat)
  case atStart => exact R0.out
  case round =>
    obtain ⟨j, rfl, hj, hs, hb⟩ := hrel
    rw [← HLN.out] at hj
    have HS := hid hs
    have HB := hid hb
    clear hs hb R0
    by_cases hjn : j < ln
    · obtain ⟨x, hx⟩ : ∃ x, l[j]? = some x := ⟨_, List.getElem?_eq_getElem (by rw [← HLN.out]; omega)⟩
      obtain ⟨rfl, x0, x1, x2, x3, x4⟩ := HLV.out j x hx
      have HX := hid hx
      have kk : ∀ {p : Addr} {u : Value}, w.cell? p = some u → wr.cell? p = some u := fun {p u} hc => (HB.out.cell (World.block_lt_of_cell? _ _ hc)).trans hc
      have x0' := kk x0
      have x1' := kk x1
      have x2' := kk x2
      have hx1 : ((j : Int) < (ln : Int)) = True := by rw [eq_iff_iff, iff_true]; omega
      have HXC := hid (fun (y : World) (hb : Below w.heap.size w y) => show (y.cell? ⟨lb, lo + j * 5, none⟩ = some (.int .i64 x.1.1) ∧ y.cell? ⟨lb, lo + j * 5 + 1, none⟩ = some (.int .i64 x.1.2.1) ∧ y.cell? ⟨lb, lo + j * 5 + 2, none⟩ = some (.int .i64 x.1.2.2)) ∧ y.cell? ⟨lb, lo + j * 5 + 3, none⟩ = some (.int .i64 x.2.1) ∧ y.cell? ⟨lb, lo + j * 5 + 4, none⟩ = some (.int .i64 x.2.2) from
        have k2 : ∀ {p : Addr} {u : Value}, w.cell? p = some u → y.cell? p = some u := fun {p u} hc => (hb.cell (World.block_lt_of_cell? _ _ hc)).trans hc
        ⟨⟨k2 x0, k2 x1, k2 x2⟩, k2 x3, k2 x4⟩)
      have hsm := HSL.out x (List.mem_of_getElem? hx)
      have HAX := hid (HAM.out wr HB.out x.1 hsm.1)
      obtain ⟨ai, hai⟩ : ∃ ai, ai = decide (x.1 ∈ A) := ⟨_, rfl⟩
      rw [← hai] at HAX
      have HAI := hid hai
      clear kk x0 x1 x2 x3 x4 hx hai hsm
      go_wp2_with fail
      refine HAX.out.mono ?_
      rintro e w4 ⟨rfl, b4⟩
      have HB4 := hid (HB.out.trans (b4.mono HB.out.size))
      clear x0' x1' x2' b4 HB HAX
      obtain ⟨-, x3, x4⟩ := HXC.out _ HB4.out
      obtain ⟨R, hR⟩ : ∃ R, R = x.2.1 := ⟨_, rfl⟩
      obtain ⟨C, hC⟩ : ∃ C, C = x.2.2 := ⟨_, rfl⟩
      rw [← hR] at x3
      rw [← hC] at x4
      have HRC := hid (show R = x.2.1 ∧ C = x.2.2 from ⟨hR, hC⟩)
      clear hR hC
      cases ai
      · have HE := hid (show bo = false by
          rw [HBO.out]
          refine decide_eq_false (not_mayP HX.out fun h => ?_)
          have h2 := h.1
          unfold okP at h2
          rw [← HRC.out.1, ← HRC.out.2] at h2
          exact (of_decide_eq_false HAI.out.symm) h2.1)
        go_wp2_with fail
        go_quiet (fail)
        go_wp2_with fail
        go_ret
        exact ⟨ret_bool HE.out.symm, below_drewN HB4.out _⟩
      · by_cases t0 : R < 1
        · have d0 : (R < 1) = True := by rw [eq_iff_iff, iff_true]; omega
          have HE := hid (show bo = false by
            rw [HBO.out]
            refine decide_eq_false (not_mayP HX.out fun h => ?_)
            have h2 := h.1
            unfold okP at h2
            rw [← HRC.out.1, ← HRC.out.2] at h2
            omega)
          go_wp2_with fail
          go_quiet (fail)
          go_wp2_with fail
          go_ret
          exact ⟨ret_bool HE.out.symm, below_drewN HB4.out _⟩
        · have d0 : (R < 1) = False := by rw [eq_iff_iff, iff_false]; omega
          by_cases t1 : C < 1
          · have d1 : (C < 1) = True := by rw [eq_iff_iff, iff_true]; omega
            have HE := hid (show bo = false by
              rw [HBO.out]
              refine decide_eq_false (not_mayP HX.out fun h => ?_)
              have h2 := h.1
              unfold okP at h2
              rw [← HRC.out.1, ← HRC.out.2] at h2
              omega)
            go_wp2_with fail
            go_quiet (fail)
            go_wp2_with fail
            go_ret
            exact ⟨ret_bool HE.out.symm, below_drewN HB4.out _⟩
          · have d1 : (C < 1) = False := by rw [eq_iff_iff, iff_false]; omega
            by_cases t2 : R > 400
            · have d2 : (R > 400) = True := by rw [eq_iff_iff, iff_true]; omega
              have HE := hid (show bo = false by
                rw [HBO.out]
                refine decide_eq_false (not_mayP HX.out fun h => ?_)
                have h2 := h.1
                unfold okP at h2
                rw [← HRC.out.1, ← HRC.out.2] at h2
                omega)
              go_wp2_with fail
              go_quiet (fail)
              go_wp2_with fail
              go_ret
              exact ⟨ret_bool HE.out.symm, below_drewN HB4.out _⟩
            · have d2 : (R > 400) = False := by rw [eq_iff_iff, iff_false]; omega
              by_cases t3 : C > 400
              · have d3 : (C > 400) = True := by rw [eq_iff_iff, iff_true]; omega
                have HE := hid (show bo = false by
                  rw [HBO.out]
                  refine decide_eq_false (not_mayP HX.out fun h => ?_)
                  have h2 := h.1
                  unfold okP at h2
                  rw [← HRC.out.1, ← HRC.out.2] at h2
                  omega)
                go_wp2_with fail
                go_quiet (fail)
                go_wp2_with fail
                go_ret
                exact ⟨ret_bool HE.out.symm, below_drewN HB4.out _⟩
              · have d3 : (C > 400) = False := by rw [eq_iff_iff, iff_false]; omega
                obtain ⟨P, hP⟩ : ∃ P, P = R * C := ⟨_, rfl⟩
                have hp0 : 0 ≤ P := by rw [hP]; exact Int.mul_nonneg (by omega) (by omega)
                have hp1 : P ≤ 160000 := by rw [hP]; exact Int.le_trans (Int.mul_le_mul (show R ≤ 400 by omega) (show C ≤ 400 by omega) (by omega) (by omega)) (by decide)
                have HP := hid hP
                have hmul : R * C = P := hP.symm
                clear hP
                by_cases t4 : P > 400
                · have d4 : (P > 400) = True := by rw [eq_iff_iff, iff_true]; omega
                  have HE := hid (show bo = false by
                    rw [HBO.out]
                    refine decide_eq_false (not_mayP HX.out fun h => ?_)
                    have h2 := h.1
                    unfold okP at h2
                    rw [← HRC.out.1, ← HRC.out.2] at h2
                    have := HP.out; omega)
                  go_wp2_with fail
                  go_quiet (fail)
                  go_wp2_with fail
                  go_ret
                  exact ⟨ret_bool HE.out.symm, below_drewN HB4.out _⟩
                · have d4 : (P > 400) = False := by rw [eq_iff_iff, iff_false]; omega
                  have HOK := hid (show okP A x by
                    unfold okP
                    rw [← HRC.out.1, ← HRC.out.2]
                    exact ⟨of_decide_eq_true HAI.out.symm, by omega, by omega, by omega, by omega, by have := HP.out; omega⟩)
                  clear HRC HAI
                  rcases j with _ | j
                  · have HN := hid (mayUp_next HS.out HX.out HOK.out (fun y h => by omega))
                    go_wp2_with fail
                    go_quiet (fail)
                    go_wp2_with fail
                    go_roundw
                    case rel => exact ⟨1, by simp, by rw [← HLN.out]; omega, HN.out, below_drewN HB4.out _⟩
                    case measure => simp [RowKit.intOf]; omega
                  · obtain ⟨z, hz⟩ : ∃ z, l[j]? = some z := ⟨_, List.getElem?_eq_getElem (by rw [← HLN.out]; omega)⟩
                    obtain ⟨-, z0, z1, z2, -, -⟩ := HLV.out j z hz
                    have HZ := hid hz
                    have HKC := hid (fun (y : World) (hb : Below w.heap.size w y) => show (y.cell? ⟨lb, lo + j * 5, none⟩ = some (.int .i64 z.1.1) ∧ y.cell? ⟨lb, lo + j * 5 + 1, none⟩ = some (.int .i64 z.1.2.1) ∧ y.cell? ⟨lb, lo + j * 5 + 2, none⟩ = some (.int .i64 z.1.2.2)) ∧ (y.cell? ⟨lb, lo + (j + 1) * 5, none⟩ = some (.int .i64 x.1.1) ∧ y.cell? ⟨lb, lo + (j + 1) * 5 + 1, none⟩ = some (.int .i64 x.1.2.1) ∧ y.cell? ⟨lb, lo + (j + 1) * 5 + 2, none⟩ = some (.int .i64 x.1.2.2)) ∧ Below w.heap.size w y from
                      have k2 : ∀ {p : Addr} {u : Value}, w.cell? p = some u → y.cell? p = some u := fun {p u} hc => (hb.cell (World.block_lt_of_cell? _ _ hc)).trans hc
                      ⟨⟨k2 z0, k2 z1, k2 z2⟩, (HXC.out y hb).1, hb⟩)
                    have HAZ := hid (HAH.out z.1 x.1)
                    obtain ⟨ah, hah⟩ : ∃ ah, ah = decide (aheadP z.1 x.1) := ⟨_, rfl⟩
                    rw [← hah] at HAZ
                    have HAE := hid hah
                    have hwj : IntKind.i64.wrap (j : Int) = (j : Int) := IntWalk.i64_in _ (by omega)
                    have hj1 : (j : Int) < (ln : Int) := by omega
                    have hj2 : ((j : Int) + 1 > 0) = True := by rw [eq_iff_iff, iff_true]; omega
                    clear z0 z1 z2 hz hah
                    go_wp2_with fail
                    go_quiet (fail)
                    generalize hg : World.drewN w4 _ = w5
                    have HB5 := hid (show Below w.heap.size w w5 from hg ▸ below_drewN HB4.out _)
                    clear hg x3 x4
                    go_wp2_with fail
                    have K0 := hid (HKC.out w5.drew HB5.out.drew)
                    go_region_held (fun y => (y.cell? ⟨lb, lo + j * 5, none⟩ = some (.int .i64 z.1.1) ∧ y.cell? ⟨lb, lo + j * 5 + 1, none⟩ = some (.int .i64 z.1.2.1) ∧ y.cell? ⟨lb, lo + j * 5 + 2, none⟩ = some (.int .i64 z.1.2.2)) ∧ (y.cell? ⟨lb, lo + (j + 1) * 5, none⟩ = some (.int .i64 x.1.1) ∧ y.cell? ⟨lb, lo + (j + 1) * 5 + 1, none⟩ = some (.int .i64 x.1.2.1) ∧ y.cell? ⟨lb, lo + (j + 1) * 5 + 2, none⟩ = some (.int .i64 x.1.2.2)) ∧ Below w.heap.size w y) (first | exact K0.out | (refine rt_keep ?_ ‹Below _ _ _›; assumption)) (first | (go_at_call 24; refine (HAZ.out _).mono ?_; rintro e w6 ⟨rfl, b6⟩))
                    have HB6 := hid (show Below w.heap.size w w6 by apply bi_of; assumption)
                    clear K0 HAZ HKC
                    cases ah
                    · have HE := hid (show bo = false by
                        rw [HBO.out]
                        refine decide_eq_false (not_mayP HX.out fun h => ?_)
                        exact (of_decide_eq_false HAE.out.symm) (h.2 z (by omega) (by simpa using HZ.out)))
                      go_wp2_with fail
                      go_ret
                      exact ⟨ret_bool HE.out.symm, HB6.out⟩
                    · have HN := hid (mayUp_next HS.out HX.out HOK.out (fun y _ hy => by
                        simp only [Nat.add_sub_cancel] at hy
                        rw [HZ.out] at hy
                        exact Option.some.inj hy ▸ of_decide_eq_true HAE.out.symm))
                      go_wp2_with fail
                      go_roundw
                      case rel => exact ⟨j + 1 + 1, by simp, by rw [← HLN.out]; omega, HN.out, HB6.out⟩
                      case measure => simp [RowKit.intOf]; omega
    · have hx1 : ((j : Int) < (ln : Int)) = False := by rw [eq_iff_iff, iff_false]; omega
      have HE := hid (show bo = true by
        rw [HBO.out]
        refine decide_eq_true ?_
        have h := HS.out
        rwa [show j = l.length from by rw [← HLN.out]; omega] at h)
      go_wp2_with fail
      go_ret
      exact ⟨ret_bool HE.out.symm, HB.out⟩
end Go.Proofs.YtmmknjpcffaidaaGreatDoor

/- The document's way to place spills is the plain one: what blocks a spill is the sheet's edge, a cell, or one that is placed; no program in sight. No condition. -/
namespace Go.Proofs.YtmmknjpcffaidaaGreatDoor

/-- a spill is blocked, by the sheet's edge, by a cell, or by one that is placed -/
def blkP (A : List PAt) (P : List PSp) (x : PSp) : Prop := ¬ rightP x ∨ (∃ c, c ∈ A ∧ hasP x c ∧ c ≠ x.1) ∨ ∃ y, y ∈ P ∧ meetP x y

section
variable {A : List PAt} {l : List PSp} {n : Nat} {x : PSp}
theorem blk_iff (ho : inOrder l) (hA : ∀ x, x ∈ l → x.1 ∈ A) (hx : l[n]? = some x) :
    blkP A (placeP (fun p => p ∈ A) (l.take n)).1 x ↔ ¬ (rightP x ∧ freeP x (takenP (fun p => p ∈ A) (l.take n))) := by
  have hxA := hA x (List.mem_of_getElem? hx)
  constructor
  · rintro h ⟨hr, hf⟩
    rcases h with h | ⟨c, h1, h2, h3⟩ | ⟨y, h1, h2⟩
    · exact h hr
    · exact hf c (hasP_iff.1 h2).2 h3 (Or.inl h1)
    · obtain ⟨-, -, p, h3, h4⟩ := meetP_iff.1 h2
      by_cases hp : p = x.1
      · subst hp
        have hy := (placeP_mem _ _ _ h1).1
        exact placeP_free _ _ y h1 x.1 h4 (ahead_ne ho hx y hy).ne.symm hxA
      · exact hf p h3 hp (Or.inr ⟨y, h1, h4⟩)
  · intro h
    by_cases hr : rightP x
    · right
      have hf : ¬ freeP x (takenP (fun p => p ∈ A) (l.take n)) := fun hf => h ⟨hr, hf⟩
      have : ∃ p, tileP x p ∧ p ≠ x.1 ∧ takenP (fun p => p ∈ A) (l.take n) p := by
        apply Classical.byContradiction
        intro hn
        exact hf fun p h1 h2 h3 => hn ⟨p, h1, h2, h3⟩
      obtain ⟨p, h1, h2, h3 | ⟨y, h3, h4⟩⟩ := this
      · exact .inl ⟨p, h3, hasP_iff.2 ⟨hr, h1⟩, h2⟩
      · exact .inr ⟨y, h3, meetP_iff.2 ⟨hr, (placeP_mem _ _ _ h3).2, p, h1, h4⟩⟩
    · exact .inl hr
/-- the document's next step -/
theorem blk_next (ho : inOrder l) (hA : ∀ x, x ∈ l → x.1 ∈ A) (hx : l[n]? = some x) :
    (blkP A (placeP (fun p => p ∈ A) (l.take n)).1 x → (placeP (fun p => p ∈ A) (l.take (n + 1))).1 = (placeP (fun p => p ∈ A) (l.take n)).1 ∧ (placeP (fun p => p ∈ A) (l.take (n + 1))).2 = (placeP (fun p => p ∈ A) (l.take n)).2 ++ [x.1]) ∧
    (¬ blkP A (placeP (fun p => p ∈ A) (l.take n)).1 x → (placeP (fun p => p ∈ A) (l.take (n + 1))).1 = (placeP (fun p => p ∈ A) (l.take n)).1 ++ [x] ∧ (placeP (fun p => p ∈ A) (l.take (n + 1))).2 = (placeP (fun p => p ∈ A) (l.take n)).2) := by
  have hb := blk_iff ho hA hx
  refine ⟨fun h => (here_blocked ho hx (hb.1 h)).2.2, fun h => (here_placed ho hx ?_).2.2⟩
  apply Classical.byContradiction
  intro hn
  exact h (hb.2 hn)
end
end Go.Proofs.YtmmknjpcffaidaaGreatDoor

/- Contract of the document's Blocked. Condition: the places are ints of 64 bits. -/
namespace Go.Proofs.YtmmknjpcffaidaaGreatDoor
open Go.RowKit Go.Lib

theorem r2meet_sp (x v : PSp) {b : Bool} (h : b = decide (meetP x v)) : ∀ w, Calls Tryz.prog 51 #[.agg #[.int .i64 x.1.1, .int .i64 x.1.2.1, .int .i64 x.1.2.2, .int .i64 x.2.1, .int .i64 x.2.2], .agg #[.int .i64 v.1.1, .int .i64 v.1.2.1, .int .i64 v.1.2.2, .int .i64 v.2.1, .int .i64 v.2.2]] w fun e w' =>
    (∃ z : PSp, e = .returned (.tuple #[.agg #[.int .i64 z.1.1, .int .i64 z.1.2.1, .int .i64 z.1.2.2, .int .i64 z.2.1, .int .i64 z.2.2], .bool b])) ∧ Below w.heap.size w w' := fun w => by rw [h]; exact r2meet_any x v w
theorem r2has_sp (x : PSp) (c : PAt) {b : Bool} (h : b = decide (hasP x c)) : ∀ w, Calls Tryz.prog 36 #[.agg #[.int .i64 x.1.1, .int .i64 x.1.2.1, .int .i64 x.1.2.2, .int .i64 x.2.1, .int .i64 x.2.2], .agg #[.int .i64 c.1, .int .i64 c.2.1, .int .i64 c.2.2]] w fun e w' =>
    e = .returned (.bool b) ∧ Below w.heap.size w w' := fun w => by rw [h]; exact r2has_any x c w
theorem isArea_sp (x : PSp) {b : Bool} (h : b = decide (rightP x)) : ∀ w, Calls Tryz.prog 50 #[.agg #[.int .i64 x.1.1, .int .i64 x.1.2.1, .int .i64 x.1.2.2, .int .i64 x.2.1, .int .i64 x.2.2]] w fun e w' =>
    e = .returned (.bool b) ∧ Below w.heap.size w w' := fun w => by rw [h]; exact isArea_any x w
/-- the spill's box, its area's block -/
structure Bl (w : World) (g : Nat) (x : PSp) (y : World) : Prop where
  box : y.heap[w.heap.size]? = some (.cells #[.int .i64 x.1.1, .int .i64 x.1.2.1, .int .i64 x.1.2.2, .int .i64 x.2.1, .int .i64 x.2.2] 27 (0, 0))
  ak : Ak w g x y
theorem Bl.keep {w y z : World} {g : Nat} {x : PSp} (h : Bl w g x y) (hb : Below y.heap.size y z) : Bl w g x z := ⟨(hb.block _ (heap_lt h.box)).trans h.box, h.ak.keep hb⟩
def B1Rel (w : World) (g : Nat) (x : PSp) (A : List PAt) (i : Value) (wr : World) : Prop := ∃ j : Nat, i = .int .i64 (j : Int) ∧ j ≤ A.length ∧ (∀ c, c ∈ A.take j → ¬ (hasP x c ∧ c ≠ x.1)) ∧ Bl w g x wr
def B2Rel (w : World) (g : Nat) (x : PSp) (P : List PSp) (i : Value) (wr : World) : Prop := ∃ j : Nat, i = .int .i64 (j : Int) ∧ j ≤ P.length ∧ (∀ y, y ∈ P.take j → ¬ meetP x y) ∧ Ak w g x wr
theorem take_all {α : Type} {Q : α → Prop} {l : List α} {j : Nat} {x : α} (h : ∀ c, c ∈ l.take j → Q c) (hx : l[j]? = some x) (hq : Q x) : ∀ c, c ∈ l.take (j + 1) → Q c := fun c hc => by
  obtain ⟨h1, e1⟩ := List.getElem?_eq_some_iff.1 hx
  rw [List.take_succ_eq_append_getElem h1, List.mem_append] at hc
  rcases hc with hc | hc
  · exact h c hc
  · rw [e1, List.mem_singleton] at hc
    exact hc ▸ hq
theorem b8_keep {w y z : World} {x : PSp} {gg : Nat} {a b c d e f g h : Addr} {u1 u2 u3 u4 u5 u6 u7 u8 : Value} (hS : (y.cell? a = some u1 ∧ y.cell? b = some u2 ∧ y.cell? c = some u3) ∧ (y.cell? d = some u4 ∧ y.cell? e = some u5 ∧ y.cell? f = some u6 ∧ y.cell? g = some u7 ∧ y.cell? h = some u8) ∧ Bl w gg x y) (hb : Below y.heap.size y z) :
    (z.cell? a = some u1 ∧ z.cell? b = some u2 ∧ z.cell? c = some u3) ∧ (z.cell? d = some u4 ∧ z.cell? e = some u5 ∧ z.cell? f = some u6 ∧ z.cell? g = some u7 ∧ z.cell? h = some u8) ∧ Bl w gg x z := by
  have k : ∀ {p : Addr} {u : Value}, y.cell? p = some u → z.cell? p = some u := fun {p u} hc => (hb.cell (World.block_lt_of_cell? _ _ hc)).trans hc
  obtain ⟨⟨h1, h2, h3⟩, ⟨h4, h5, h6, h7, h8⟩, h9⟩ := hS
  exact ⟨⟨k h1, k h2, k h3⟩, ⟨k h4, k h5, k h6, k h7, k h8⟩, h9.keep hb⟩
open Classical in
set_option maxRecDepth 20000 in
set_option maxHeartbeats 8000000 in
theorem blocked_any (w : World) (cv pv : Value) (x : PSp) (A : List PAt) (P : List PSp) (hA : AtsIn w cv A) (hP : SpsIn w pv P) (sa : ∀ p, p ∈ A → SmallAt p) (sx : SmallAt x.1) :
    Calls Tryz.prog 33 #[spV x, cv, pv] w fun e w' => e = .returned (.bool (decide (blkP A P x))) ∧ Below w.heap.size w w' := by
  obtain ⟨aa, ac, cb, co, rfl, hal, hav⟩ := hA.view
  obtain ⟨pa, pc, pb, po, rfl, hpl, hpv⟩ := hP.view
  have HAV := hid hav
  have HPV := hid hpv
  have HSA := hid sa
  have HSX := hid sx
  obtain ⟨an, han⟩ : ∃ n, n = A.length := ⟨_, rfl⟩
  obtain ⟨pn, hpn⟩ : ∃ n, n = P.length := ⟨_, rfl⟩
  rw [← han] at hal ⊢
  rw [← hpn] at hpl ⊢
  have HAN := hid han
  have HPN := hid hpn
  obtain ⟨bo, hbo⟩ : ∃ bo, bo = decide (blkP A P x) := ⟨_, rfl⟩
  rw [← hbo]
  have HBO := hid hbo
  obtain ⟨ra, hra⟩ : ∃ ra, ra = decide (rightP x) := ⟨_, rfl⟩
  have HIA := hid (isArea_sp x hra)
  have HRA := hid hra
  have HAR := hid area_sp
  have X0 := hid (heap_alloc_new w (.cells #[.int .i64 x.1.1, .int .i64 x.1.2.1, .int .i64 x.1.2.2, .int .i64 x.2.1, .int .i64 x.2.2] 27))
  have B0 := hid ((Below.refl w.heap.size w).alloc (Nat.le_refl _) (.cells #[.int .i64 x.1.1, .int .i64 x.1.2.1, .int .i64 x.1.2.2, .int .i64 x.2.1, .int .i64 x.2.2] 27))
  clear hA hP sa sx hav hpv han hpn hbo hra
  unfold spV
  go_enter Tryz.func33, Tryz.ntmps33
  go_wp2_with fail
  generalize hw0 : World.alloc w _ = w0
  rw [hw0] at X0 B0
  clear hw0
  refine (HAR.out x _).mono ?_
  rintro e w1 ⟨rfl, b1⟩
  have X1 := hid ((b1.block _ (heap_lt X0.out)).trans X0.out)
  have B1 := hid (B0.out.trans (b1.mono B0.out.size))
  obtain ⟨g, hg⟩ : ∃ g, g = w1.heap.size := ⟨_, rfl⟩
  have L2 := hid (show Bl w g x (w1.alloc (.cells #[.int .i64 x.1.1, .int .i64 x.1.2.1, .int .i64 x.1.2.2, .int .i64 x.2.1, .int .i64 x.2.2] 51)) from ⟨heap_alloc_keep X1.out _, by rw [hg]; exact Ak.new B1.out⟩)
  clear X0 B0 b1 X1 B1
  go_wp2_with fail
  rw [← hg]
  clear hg
  generalize World.alloc w1 _ = w2 at L2 ⊢
  refine (HIA.out _).mono ?_
  rintro e w3 ⟨rfl, b3⟩
  have L3 := hid (L2.out.keep b3)
  clear b3 L2 HIA
  cases ra
  · have HE := hid (show bo = true by rw [HBO.out]; exact decide_eq_true (.inl (of_decide_eq_false HRA.out.symm)))
    go_wp2_with fail
    go_ret
    exact ⟨ret_bool HE.out.symm, L3.out.ak.low⟩
  · go_wp2_with fail
    rename_i K hK
    have HC := hid hK
    clear hK
    have R0 := hid (show B1Rel w g x A (.int .i64 0) w3 from ⟨0, rfl, by omega, by simp, L3.out⟩)
    clear L3
    go_loopw [9] (fun i wr => B1Rel w g x A i wr) (fun i _ => an - (RowKit.intOf i).toNat)
    case atStart => exact R0.out
    case round =>
      obtain ⟨j, rfl, hj, hs, hl⟩ := hrel
      rw [← HAN.out] at hj
      have HS := hid hs
      have HL := hid hl
      clear hs hl R0
      by_cases hjn : j < an
      · obtain ⟨c, hx⟩ : ∃ c, A[j]? = some c := ⟨_, List.getElem?_eq_getElem (by rw [← HAN.out]; omega)⟩
        obtain ⟨rfl, c0, c1, c2⟩ := HAV.out j c hx
        have HX := hid hx
        have hx1 : ((j : Int) < (an : Int)) = True := by rw [eq_iff_iff, iff_true]; omega
        have HCC := hid (fun (y : World) (hb : Below w.heap.size w y) => show y.cell? ⟨cb, co + j * 3, none⟩ = some (.int .i64 c.1) ∧ y.cell? ⟨cb, co + j * 3 + 1, none⟩ = some (.int .i64 c.2.1) ∧ y.cell? ⟨cb, co + j * 3 + 2, none⟩ = some (.int .i64 c.2.2) from ⟨old_cell hb c0, old_cell hb c1, old_cell hb c2⟩)
        have HGC := hid (fun (y : World) (h : Bl w g x y) => show y.cell? ⟨g, 0, none⟩ = some (.int .i64 x.1.1) ∧ y.cell? ⟨g, 1, none⟩ = some (.int .i64 x.1.2.1) ∧ y.cell? ⟨g, 2, none⟩ = some (.int .i64 x.1.2.2) ∧ y.cell? ⟨g, 3, none⟩ = some (.int .i64 x.2.1) ∧ y.cell? ⟨g, 4, none⟩ = some (.int .i64 x.2.2) from ⟨cell_of h.ak.ab rfl, cell_of h.ak.ab rfl, cell_of h.ak.ab rfl, cell_of h.ak.ab rfl, cell_of h.ak.ab rfl⟩)
        have HL0 := hid (HL.out.keep (Below.refl wr.heap.size wr).drew)
        have K0 := hid (show _ ∧ _ ∧ Bl w g x wr.drew from ⟨HCC.out _ HL0.out.ak.low, HGC.out _ HL0.out, HL0.out⟩)
        obtain ⟨ha, hha⟩ : ∃ ha, ha = decide (hasP x c) := ⟨_, rfl⟩
        have HHA := hid (r2has_sp x c hha)
        have HHE := hid hha
        clear c0 c1 c2 hx hha
        go_wp2_with fail
        go_region_held (fun y => (y.cell? ⟨cb, co + j * 3, none⟩ = some (.int .i64 c.1) ∧ y.cell? ⟨cb, co + j * 3 + 1, none⟩ = some (.int .i64 c.2.1) ∧ y.cell? ⟨cb, co + j * 3 + 2, none⟩ = some (.int .i64 c.2.2)) ∧ (y.cell? ⟨g, 0, none⟩ = some (.int .i64 x.1.1) ∧ y.cell? ⟨g, 1, none⟩ = some (.int .i64 x.1.2.1) ∧ y.cell? ⟨g, 2, none⟩ = some (.int .i64 x.1.2.2) ∧ y.cell? ⟨g, 3, none⟩ = some (.int .i64 x.2.1) ∧ y.cell? ⟨g, 4, none⟩ = some (.int .i64 x.2.2)) ∧ Bl w g x y) (first | exact K0.out | (refine b8_keep ?_ ‹Below _ _ _›; assumption)) (first | (go_at_call 36; refine (HHA.out _).mono ?_; rintro e w5 ⟨rfl, b5⟩))
        have HL5 := hid (show Bl w g x w5 by apply bi_of; assumption)
        clear K0 HHA HL0
        cases ha
        · have HT := hid (take_all HS.out HX.out (fun h => of_decide_eq_false HHE.out.symm h.1))
          go_wp2_with fail
          go_quiet (fail)
          go_wp2_with fail
          go_roundw
          case rel => exact ⟨j + 1, by simp, by rw [← HAN.out]; omega, HT.out, HL5.out.keep (below_drewN (Below.refl _ _) _)⟩
          case measure => simp [RowKit.intOf]; omega
        · obtain ⟨eb, heb⟩ : ∃ eb, eb = decide (c = x.1) := ⟨_, rfl⟩
          have heq := eqat_sp c x.1 (HSA.out c (List.mem_of_getElem? HX.out)) HSX.out heb
          have HEB := hid heb
          clear heb
          obtain ⟨c0, c1, c2⟩ := HCC.out _ HL5.out.ak.low
          have x0 : w5.cell? ⟨w.heap.size, 0, none⟩ = some (.int .i64 x.1.1) := cell_of HL5.out.box rfl
          have x1 : w5.cell? ⟨w.heap.size, 1, none⟩ = some (.int .i64 x.1.2.1) := cell_of HL5.out.box rfl
          have x2 : w5.cell? ⟨w.heap.size, 2, none⟩ = some (.int .i64 x.1.2.2) := cell_of HL5.out.box rfl
          cases eb
          · have HE := hid (show bo = true by rw [HBO.out]; exact decide_eq_true (.inr (.inl ⟨c, List.mem_of_getElem? HX.out, of_decide_eq_true HHE.out.symm, of_decide_eq_false HEB.out.symm⟩)))
            go_wp2_with fail
            go_quiet (fail)
            go_wp2_with fail
            go_ret
            exact ⟨ret_bool HE.out.symm, below_drewN HL5.out.ak.low _⟩
          · have HT := hid (take_all HS.out HX.out (fun h => h.2 (of_decide_eq_true HEB.out.symm)))
            go_wp2_with fail
            go_quiet (fail)
            clear heq c0 c1 c2 x0 x1 x2
            go_wp2_with fail
            go_roundw
            case rel => exact ⟨j + 1, by simp, by rw [← HAN.out]; omega, HT.out, HL5.out.keep (below_drewN (Below.refl _ _) _)⟩
            case measure => simp [RowKit.intOf]; omega
      · have hx1 : ((j : Int) < (an : Int)) = False := by rw [eq_iff_iff, iff_false]; omega
        have HN1 := hid (show ∀ c, c ∈ A → ¬ (hasP x c ∧ c ≠ x.1) from by have h := HS.out; rwa [List.take_of_length_le (by rw [← HAN.out]; omega)] at h)
        go_wp2_with fail
        refine HC.out _ _ ?_
        clear HC
        go_wp2_with fail
        have R2 := hid (show B2Rel w g x P (.int .i64 0) wr from ⟨0, rfl, by omega, by simp, HL.out.ak⟩)
        clear HL HS
        rename_i K2 hK2
        have HC2 := hid hK2
        clear hK2
        go_loopw [11] (fun i wr => B2Rel w g x P i wr) (fun i _ => pn - (RowKit.intOf i).toNat)
        case atStart => exact R2.out
        case round =>
          obtain ⟨k, rfl, hk, hs2, hak⟩ := hrel
          rw [← HPN.out] at hk
          have HS2 := hid hs2
          have HA := hid hak
          clear hs2 hak R2
          by_cases hkn : k < pn
          · obtain ⟨v, hv⟩ : ∃ v, P[k]? = some v := ⟨_, List.getElem?_eq_getElem (by rw [← HPN.out]; omega)⟩
            obtain ⟨rfl, k0, k1, k2, k3, k4⟩ := HPV.out k v hv
            have hx2 : ((k : Int) < (pn : Int)) = True := by rw [eq_iff_iff, iff_true]; omega
            have HV := hid hv
            obtain ⟨mb, hmb⟩ : ∃ mb, mb = decide (meetP x v) := ⟨_, rfl⟩
            have HME := hid (r2meet_sp x v hmb)
            have HMB := hid hmb
            obtain ⟨ga, hga⟩ : ∃ ga, ga = g := ⟨_, rfl⟩
            rw [← hga] at HA ⊢
            have HGA := hid hga
            clear hmb hga
            have HKA := hid (fun (y : World) (h : Ak w ga x y) => show (y.cell? ⟨ga, 0, none⟩ = some (.int .i64 x.1.1) ∧ y.cell? ⟨ga, 1, none⟩ = some (.int .i64 x.1.2.1) ∧ y.cell? ⟨ga, 2, none⟩ = some (.int .i64 x.1.2.2) ∧ y.cell? ⟨ga, 3, none⟩ = some (.int .i64 x.2.1) ∧ y.cell? ⟨ga, 4, none⟩ = some (.int .i64 x.2.2)) ∧ (y.cell? ⟨pb, po + k * 5, none⟩ = some (.int .i64 v.1.1) ∧ y.cell? ⟨pb, po + k * 5 + 1, none⟩ = some (.int .i64 v.1.2.1) ∧ y.cell? ⟨pb, po + k * 5 + 2, none⟩ = some (.int .i64 v.1.2.2) ∧ y.cell? ⟨pb, po + k * 5 + 3, none⟩ = some (.int .i64 v.2.1) ∧ y.cell? ⟨pb, po + k * 5 + 4, none⟩ = some (.int .i64 v.2.2)) ∧ Ak w ga x y from ⟨⟨cell_of h.ab rfl, cell_of h.ab rfl, cell_of h.ab rfl, cell_of h.ab rfl, cell_of h.ab rfl⟩, ⟨h.old k0, h.old k1, h.old k2, h.old k3, h.old k4⟩, h⟩)
            have HS0 := hid (HKA.out wr.drew (HA.out.keep (Below.refl _ wr).drew))
            clear hv k0 k1 k2 k3 k4
            go_wp2_with fail
            go_region_held (fun y => (y.cell? ⟨ga, 0, none⟩ = some (.int .i64 x.1.1) ∧ y.cell? ⟨ga, 1, none⟩ = some (.int .i64 x.1.2.1) ∧ y.cell? ⟨ga, 2, none⟩ = some (.int .i64 x.1.2.2) ∧ y.cell? ⟨ga, 3, none⟩ = some (.int .i64 x.2.1) ∧ y.cell? ⟨ga, 4, none⟩ = some (.int .i64 x.2.2)) ∧ (y.cell? ⟨pb, po + k * 5, none⟩ = some (.int .i64 v.1.1) ∧ y.cell? ⟨pb, po + k * 5 + 1, none⟩ = some (.int .i64 v.1.2.1) ∧ y.cell? ⟨pb, po + k * 5 + 2, none⟩ = some (.int .i64 v.1.2.2) ∧ y.cell? ⟨pb, po + k * 5 + 3, none⟩ = some (.int .i64 v.2.1) ∧ y.cell? ⟨pb, po + k * 5 + 4, none⟩ = some (.int .i64 v.2.2)) ∧ Ak w ga x y) (first | with_reducible exact HS0.out | with_reducible exact HKA.out w5' HA5.out | with_reducible exact HKA.out w4' HA4.out | with_reducible exact HKA.out _ HA.out.ald | with_reducible exact HKA.out _ HA.out.dal | with_reducible exact HKA.out _ HA4.out.al | with_reducible exact HKA.out _ HA5.out.al | with_reducible exact HKA.out _ (HA5.out.store5 (Nat.ne_of_gt (heap_lt HA4.out.ab)) HA4.out.low.size) | with_reducible exact HKA.out _ (HA5.out.store5 (Nat.ne_of_gt (heap_lt HA.out.ab)) HA.out.low.size))
              (first | (go_at_call 21; refine (HAR.out v _).mono ?_; rintro e w4' ⟨rfl, b4⟩; have HA4 := hid (show Ak w ga x w4' from Ak.keep (by apply cv_of; assumption) b4); (first | (with_reducible have HZ4 := hid (zer_dnew b4)) | (with_reducible have HZ4 := hid (zer_newd b4)) | skip)) | (go_at_call 51; refine (HME.out _).mono ?_; rintro e w5' ⟨⟨z', rfl⟩, b5⟩; have HA5 := hid (show Ak w ga x w5' from Ak.keep (by apply cv_of; assumption) b5); (first | (have HZ := hid ((b5.block _ (heap_lt HZ4.out)).trans HZ4.out); have f0 := free_of (i := 0) HZ.out; have d0 := cell_of (i := 0) HZ.out rfl; have f1 := free_of (i := 1) HZ.out; have d1 := cell_of (i := 1) HZ.out rfl; have f2 := free_of (i := 2) HZ.out; have d2 := cell_of (i := 2) HZ.out rfl; have f3 := free_of (i := 3) HZ.out; have d3 := cell_of (i := 3) HZ.out rfl; have f4 := free_of (i := 4) HZ.out; have d4 := cell_of (i := 4) HZ.out rfl) | (with_reducible have HZ := hid (zer_new b5); have f0 := free_of (i := 0) HZ.out; have d0 := cell_of (i := 0) HZ.out rfl; have f1 := free_of (i := 1) HZ.out; have d1 := cell_of (i := 1) HZ.out rfl; have f2 := free_of (i := 2) HZ.out; have d2 := cell_of (i := 2) HZ.out rfl; have f3 := free_of (i := 3) HZ.out; have d3 := cell_of (i := 3) HZ.out rfl; have f4 := free_of (i := 4) HZ.out; have d4 := cell_of (i := 4) HZ.out rfl) | skip)))
            all_goals
              have HA6 := hid (cv_of ‹_ ∧ _ ∧ Ak w ga x _›)
              clear ‹_ ∧ _ ∧ Ak w ga x _›
              cases mb
              · have HT := hid (take_all HS2.out HV.out (of_decide_eq_false HMB.out.symm))
                go_wp2_with fail
                go_roundw
                case rel => exact ⟨k + 1, by simp, by rw [← HPN.out]; omega, HT.out, HGA.out ▸ HA6.out⟩
                case measure => simp [RowKit.intOf]; omega
              · have HE := hid (show bo = true by rw [HBO.out]; exact decide_eq_true (.inr (.inr ⟨v, List.mem_of_getElem? HV.out, of_decide_eq_true HMB.out.symm⟩)))
                go_wp2_with fail
                go_ret
                exact ⟨ret_bool HE.out.symm, HA6.out.low⟩
          · have hx2 : ((k : Int) < (pn : Int)) = False := by rw [eq_iff_iff, iff_false]; omega
            have HE := hid (show bo = false by
              rw [HBO.out]
              refine decide_eq_false fun h => ?_
              have h2 := HS2.out
              rw [List.take_of_length_le (by rw [← HPN.out]; omega)] at h2
              rcases h with h | ⟨c, h3, h4, h5⟩ | ⟨y, h3, h4⟩
              · exact h (of_decide_eq_true HRA.out.symm)
              · exact HN1.out c h3 ⟨h4, h5⟩
              · exact h2 y h3 h4)
            go_wp2_with fail
            refine HC2.out _ _ ?_
            go_wp2_with fail
            go_ret
            exact ⟨ret_bool HE.out.symm, HA.out.low⟩
end Go.Proofs.YtmmknjpcffaidaaGreatDoor

/- Contract of the document's Place. Condition: the spills are ints of 64 bits. -/
namespace Go.Proofs.YtmmknjpcffaidaaGreatDoor
open Go.RowKit Go.Lib

/-- what stands while the document's Place goes: what is placed, what is blocked -/
structure Rp (w : World) (ps : List PSp) (qs : List PAt) (pv qv : Value) (y : World) : Prop where
  sp : SpsOwn y w.heap.size pv ps
  at' : AtsOwn y w.heap.size qv qs
  low : Below w.heap.size w y
section
variable {w y z : World} {ps : List PSp} {qs : List PAt} {pv qv : Value}
theorem Rp.keep (h : Rp w ps qs pv qv y) (hb : Below y.heap.size y z) : Rp w ps qs pv qv z :=
  ⟨h.sp.below hb, h.at'.below hb, h.low.trans (hb.mono h.low.size)⟩
theorem Rp.sp_at (h : Rp w ps qs pv qv y) : ∀ g, pv.ownBlock = some g → qv.ownBlock ≠ some g := fun g hg hq => by
  obtain ⟨c1, h1⟩ := ownsRow_heap h.sp g hg
  obtain ⟨c2, h2⟩ := ownsRow_heap h.at' g hq
  rw [h1] at h2
  simp at h2
theorem Rp.app_sp (h : Rp w ps qs pv qv y) {m g : Nat} (hm : m = ps.length) (hg : y.heap.size = g) (hl : m ≤ 1000000) (x : PSp) :
    ∃ a c w2, (Builtin.append_ #[28, 28] 28 #[pv, .slice (some ⟨g, 0, none⟩) 1 1]).run Tryz.prog (y.alloc (.cells (spC x).toArray 27)) = .ok (.slice a (m + 1) c) w2 ∧ Rp w (ps ++ [x]) qs (.slice a (m + 1) c) qv w2 := by
  obtain ⟨a, c, w2, h1, h2, h3, h4⟩ := h.sp.app h.low.size hm hg hl x
  refine ⟨a, c, w2, h1, h2, h.at'.chg h3 (fun g hg hb => h.sp_at g (mem_own hb) hg), h.low.trans (h3.below (fun g hg => (h.sp.low g (mem_own hg)).1) h.low.size)⟩
theorem Rp.app_at (h : Rp w ps qs pv qv y) {m g : Nat} (hm : m = qs.length) (hg : y.heap.size = g) (hl : m ≤ 1000000) (x : PAt) :
    ∃ a c w2, (Builtin.append_ #[22, 22] 22 #[qv, .slice (some ⟨g, 0, none⟩) 1 1]).run Tryz.prog (y.alloc (.cells (atC x).toArray 25)) = .ok (.slice a (m + 1) c) w2 ∧ Rp w ps (qs ++ [x]) pv (.slice a (m + 1) c) w2 := by
  obtain ⟨a, c, w2, h1, h2, h3, h4⟩ := h.at'.app h.low.size hm hg hl x
  refine ⟨a, c, w2, h1, h.sp.chg h3 (fun g hg hb => h.sp_at g hg (mem_own hb)), h2, h.low.trans (h3.below (fun g hg => (h.at'.low g (mem_own hg)).1) h.low.size)⟩
end
def RpRel (w : World) (A : List PAt) (l : List PSp) (pv qv i : Value) (wr : World) : Prop := ∃ j : Nat, i = .int .i64 (j : Int) ∧ j ≤ l.length ∧ Rp w (placeP (fun p => p ∈ A) (l.take j)).1 (placeP (fun p => p ∈ A) (l.take j)).2 pv qv wr
theorem placeP_len (T : PAt → Prop) (l : List PSp) : (placeP T l).1.length + (placeP T l).2.length = l.length := by
  induction l generalizing T with
  | nil => rfl
  | cons x l ih =>
    by_cases h : rightP x ∧ freeP x T
    · rw [placeP_yes h]
      have := ih (fun p => T p ∨ tileP x p)
      simp only [List.length_cons]
      omega
    · rw [placeP_no h]
      have := ih T
      simp only [List.length_cons]
      omega

open Classical in
set_option maxRecDepth 20000 in
set_option maxHeartbeats 4000000 in
theorem rplace_no (w : World) (bv lv : Value) (A : List PAt) (l : List PSp) (hB : BookAt w bv A one1) (hl : SpsIn w lv l) (sl : ∀ x, x ∈ l → SmallSp x) (hm : ¬ mayP A l) :
    Calls Tryz.prog 15 #[bv, lv] w fun e w' => e = .returned (.tuple #[.slice none 0 0, .slice none 0 0, .int .i64 140]) ∧ Below w.heap.size w w' := by
  have HB := hid hB
  have HL := hid hl
  have HCE := hid (fun (y : World) (hb : Below w.heap.size w y) => r9cells_any y bv A (hB.below hb))
  have HRI := hid (fun (y : World) (hb : Below w.heap.size w y) (cv : Value) (hc : AtsIn y cv A) => rright14_any y lv cv A l (hl.below hb) hc (fun p hp => small_two (hB.two p hp)) sl)
  rw [decide_eq_false hm] at HRI
  obtain ⟨⟨b, off, v0, v1, rfl, -⟩, -⟩ := hB
  obtain ⟨la, lc, lb, lo, rfl, -⟩ := hl.view
  have B0 := hid ((Below.refl w.heap.size w).alloc (Nat.le_refl _) (.cells (bookC b off) 35))
  clear sl hm hl
  go_enter Tryz.func15, Tryz.ntmps15
  go_wp2_with fail
  refine (HCE.out _ B0.out).mono ?_
  rintro e w1 ⟨⟨cv, rfl, hc⟩, b1⟩
  have B1 := hid (B0.out.trans (b1.mono B0.out.size))
  have HC1 := hid hc
  obtain ⟨ca, cc, cb, co, rfl, -⟩ := hc.view
  clear b1 B0 hc HCE
  go_wp2_with fail
  refine (HRI.out _ B1.out _ HC1.out).mono ?_
  rintro e w2 ⟨rfl, b2⟩
  have B2 := hid (B1.out.trans (b2.mono B1.out.size))
  clear b2 B1
  go_wp2_with fail
  go_ret3
  exact ⟨rfl, B2.out⟩

open Classical in
set_option maxRecDepth 20000 in
set_option maxHeartbeats 8000000 in
theorem rplace_yes (w : World) (bv lv : Value) (A : List PAt) (l : List PSp) (hB : BookAt w bv A one1) (hl : SpsIn w lv l) (sl : ∀ x, x ∈ l → SmallSp x) (hm : mayP A l) (hll : l.length ≤ 1000) :
    Calls Tryz.prog 15 #[bv, lv] w fun e w' => (∃ pv qv, e = .returned (.tuple #[pv, qv, .int .i64 0]) ∧ SpsIn w' pv (placeP (fun p => p ∈ A) l).1 ∧ AtsIn w' qv (placeP (fun p => p ∈ A) l).2 ∧ Capped pv ∧ Capped qv) ∧ Below w.heap.size w w' := by
  have HCE := hid (fun (y : World) (hb : Below w.heap.size w y) => r9cells_any y bv A (hB.below hb))
  have HRI := hid (fun (y : World) (hb : Below w.heap.size w y) (cv : Value) (hc : AtsIn y cv A) => rright14_any y lv cv A l (hl.below hb) hc (fun p hp => small_two (hB.two p hp)) sl)
  rw [decide_eq_true hm] at HRI
  have HBL := hid (fun (y : World) (cv pv : Value) (x : PSp) (P : List PSp) (hx : x ∈ l) (hc : AtsIn y cv A) (hp : SpsIn y pv P) => blocked_any y cv pv x A P hc hp (fun p hp => small_two (hB.two p hp)) (sl x hx).1)
  have HO := hid (mayP_order hm)
  have HOK := hid (fun x hx => ((mayP_ok hm) x hx).1)
  obtain ⟨⟨b, off, v0, v1, rfl, -⟩, -⟩ := hB
  have HL := hid (fun (y : World) (hb : Below w.heap.size w y) => hl.below hb)
  obtain ⟨la, lc, lb, lo, rfl, -, -⟩ := hl.view
  obtain ⟨ln, hln⟩ : ∃ n, n = l.length := ⟨_, rfl⟩
  rw [← hln] at hll HL ⊢
  have HLN := hid hln
  have B0 := hid ((Below.refl w.heap.size w).alloc (Nat.le_refl _) (.cells (bookC b off) 35))
  clear sl hm hl hln
  unfold spV at HBL
  go_enter Tryz.func15, Tryz.ntmps15
  go_wp2_with fail
  refine (HCE.out _ B0.out).mono ?_
  rintro e w1 ⟨⟨cv, rfl, hc⟩, b1⟩
  have B1 := hid (B0.out.trans (b1.mono B0.out.size))
  have HC1 := hid hc
  obtain ⟨ca, cc, cb, co, rfl, -⟩ := hc.view
  obtain ⟨la', lc', lb, lo, el, -, hlv⟩ := (HL.out _ B1.out).view
  simp only [Value.slice.injEq] at el
  obtain ⟨rfl, -, rfl⟩ := el
  have HLV := hid hlv
  clear b1 B0 hc HCE HL hlv
  go_wp2_with fail
  rw [← HLN.out] at HRI
  refine (HRI.out _ B1.out _ HC1.out).mono ?_
  rintro e w2 ⟨rfl, b2⟩
  have R2 := hid (show RpRel w1 A l (.slice none 0 0) (.slice none 0 0) (.int .i64 0) w2 from ⟨0, rfl, by omega, SpsOwn.nil _ _, AtsOwn.nil _ _, b2⟩)
  have HCN := hid (fun (y : World) (hb : Below w1.heap.size w1 y) => HC1.out.below hb)
  clear b2 HRI
  go_wp2_with fail
  go_loopw [10, 11, 12] (fun pv qv i wr => RpRel w1 A l pv qv i wr) (fun _ _ i _ => ln - (RowKit.intOf i).toNat)
  case atStart => exact R2.out
  case round =>
    obtain ⟨j, rfl, hj, R⟩ := hrel
    rw [← HLN.out] at hj
    obtain ⟨pa, pm, pc, rfl, hpm⟩ := R.sp.view
    obtain ⟨qa, qm, qc, rfl, hqm⟩ := R.at'.view
    have HPM := hid hpm
    have HQM := hid hqm
    have HR := hid R
    have hlen := placeP_len (fun p => p ∈ A) (l.take j)
    have hpm3 : pm ≤ 1000 := by rw [hpm]; rw [List.length_take] at hlen; omega
    have hqm3 : qm ≤ 1000 := by rw [hqm]; rw [List.length_take] at hlen; omega
    clear R R2 hlen hpm hqm
    by_cases hjn : j < ln
    · obtain ⟨x, hx⟩ : ∃ x, l[j]? = some x := ⟨_, List.getElem?_eq_getElem (by rw [← HLN.out]; omega)⟩
      obtain ⟨rfl, x0, x1, x2, x3, x4⟩ := HLV.out j x hx
      have HX := hid hx
      have HXC := hid (fun (y : World) (hb : Below w1.heap.size w1 y) => show y.cell? ⟨lb, lo + j * 5, none⟩ = some (.int .i64 x.1.1) ∧ y.cell? ⟨lb, lo + j * 5 + 1, none⟩ = some (.int .i64 x.1.2.1) ∧ y.cell? ⟨lb, lo + j * 5 + 2, none⟩ = some (.int .i64 x.1.2.2) ∧ y.cell? ⟨lb, lo + j * 5 + 3, none⟩ = some (.int .i64 x.2.1) ∧ y.cell? ⟨lb, lo + j * 5 + 4, none⟩ = some (.int .i64 x.2.2) from
        ⟨old_cell hb x0, old_cell hb x1, old_cell hb x2, old_cell hb x3, old_cell hb x4⟩)
      have hx1 : ((j : Int) < (ln : Int)) = True := by rw [eq_iff_iff, iff_true]; omega
      clear x0 x1 x2 x3 x4 hx
      obtain ⟨x0, x1, x2, x3, x4⟩ := HXC.out _ HR.out.low
      have HBK := hid (HBL.out wr _ _ x _ (List.mem_of_getElem? HX.out) (HCN.out _ HR.out.low) HR.out.sp.read)
      obtain ⟨bk, hbk⟩ : ∃ bk, bk = decide (blkP A (placeP (fun p => p ∈ A) (l.take j)).1 x) := ⟨_, rfl⟩
      rw [← hbk] at HBK
      have HE := hid hbk
      have HNX := hid (blk_next HO.out HOK.out HX.out)
      clear hbk
      go_wp2_with fail
      refine HBK.out.mono ?_
      rintro e w5 ⟨rfl, b5⟩
      have HR5 := hid (HR.out.keep b5)
      clear x0 x1 x2 x3 x4 b5 HR HBK
      obtain ⟨x0, x1, x2, x3, x4⟩ := HXC.out _ HR5.out.low
      cases bk
      · obtain ⟨a6, c6, w6, happ, R6⟩ := HR5.out.app_sp (g := w5.heap.size) HPM.out rfl (by omega) x
        have hn := HNX.out.2 (of_decide_eq_false HE.out.symm)
        have RR := hid (show RpRel w1 A l (.slice a6 (pm + 1) c6) (.slice qa qm qc) (.int .i64 ((j : Int) + 1)) w6 from ⟨j + 1, by simp, by rw [← HLN.out]; omega, by rw [hn.1, hn.2]; exact R6⟩)
        unfold spC at happ
        clear R6 hn HNX HE
        go_wp2_with (at_builtin; refine wpList_append_run rfl _ _ _ rfl _ _ rfl rfl happ ?_)
        go_roundw
        case rel => exact RR.out
        case measure => simp [RowKit.intOf]; omega
      · obtain ⟨a6, c6, w6, happ, R6⟩ := HR5.out.app_at (g := w5.heap.size) HQM.out rfl (by omega) x.1
        have hn := HNX.out.1 (of_decide_eq_true HE.out.symm)
        have RR := hid (show RpRel w1 A l (.slice pa pm pc) (.slice a6 (qm + 1) c6) (.int .i64 ((j : Int) + 1)) w6 from ⟨j + 1, by simp, by rw [← HLN.out]; omega, by rw [hn.1, hn.2]; exact R6⟩)
        unfold atC at happ
        clear R6 hn HNX HE
        go_wp2_with (at_builtin; refine wpList_append_run rfl _ _ _ rfl _ _ rfl rfl happ ?_)
        go_roundw
        case rel => exact RR.out
        case measure => simp [RowKit.intOf]; omega
    · have hx1 : ((j : Int) < (ln : Int)) = False := by rw [eq_iff_iff, iff_false]; omega
      have HF := hid (show Rp w1 (placeP (fun p => p ∈ A) l).1 (placeP (fun p => p ∈ A) l).2 (.slice pa pm pc) (.slice qa qm qc) wr from by
        have h := HR.out
        rwa [List.take_of_length_le (by rw [← HLN.out]; omega)] at h)
      clear HR
      go_wp2_with fail
      go_ret3
      exact ⟨⟨_, _, rfl, HF.out.sp.read, HF.out.at'.read, ownsRow_capped HF.out.sp, ownsRow_capped HF.out.at'⟩, B1.out.trans (HF.out.low.mono B1.out.size)⟩
end Go.Proofs.YtmmknjpcffaidaaGreatDoor
