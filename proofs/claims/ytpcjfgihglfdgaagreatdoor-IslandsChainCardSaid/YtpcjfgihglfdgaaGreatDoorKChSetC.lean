/- Contract of book.Set at a workbook of one sheet: an input is put into its first place, where one is. Condition: what the package-level variables hold lies as it was laid. Contract of the law's own place: the text of a cell of the first column. No condition. Strings of byte lists, joined. Contract of the law's own examples: they are as the chapter says. The law's end: the workbook whose first formula reads the last one is one circle. Condition: what the package-level variables hold lies as it was laid. -/
import Derived.Test.YtpcjfgihglfdgaaGreatDoorKChSetA
import Derived.Test.YtpcjfgihglfdgaaGreatDoorKChSetB
import Derived.Test.YtpcjfgihglfdgaaGreatDoorKSpName
import Derived.Test.YtpcjfgihglfdgaaGreatDoorKCjAny
import Derived.Test.YtpcjfgihglfdgaaGreatDoorKChGraB

namespace Go.Proofs.YtpcjfgihglfdgaaGreatDoor
open Go.RowKit Go.Lib

theorem heap_alloc3_new (w : World) (o1 o2 o3 : Obj) : (((w.alloc o1).alloc o2).alloc o3).heap[w.heap.size + 1 + 1]? = some o3 := by
  have h := heap_alloc_new ((w.alloc o1).alloc o2) o3
  simpa using h
def txPut (tx : PAt → ByteArray) (p : PAt) (s : ByteArray) : PAt → ByteArray := fun q => if q = p then s else tx q
theorem txPut_at (tx : PAt → ByteArray) (p : PAt) (s : ByteArray) : txPut tx p s p = s := if_pos rfl
theorem txPut_far {tx : PAt → ByteArray} {p q : PAt} {s : ByteArray} (h : q ≠ p) : txPut tx p s q = tx q := if_neg h
theorem cells_put {tx : PAt → ByteArray} {p : PAt} {s : ByteArray} {L : List PAt} (hp : p ∉ L) : L.flatMap (cellC (txPut tx p s)) = L.flatMap (cellC tx) := by
  rw [List.flatMap_def, List.flatMap_def]
  congr 1
  refine List.map_congr_left (fun q hq => ?_)
  unfold cellC
  rw [txPut_far (show q ≠ p from fun e => hp (by rw [← e]; exact hq))]
/-- a row of cells of a call's own, whose first text is changed -/
theorem cls_set0 {w : World} {B : Nat} {v : Value} {tx : PAt → ByteArray} {p : PAt} {L : List PAt} (h : ClsOwn w B v tx (p :: L)) (hp : p ∉ L) :
    ∃ g c cur, v = .slice (some ⟨g, 0, none⟩) (L.length + 1) c ∧ B ≤ g ∧ w.heap[g]? = some (.cells cur 28 (0, 0)) ∧ cur[2]? = some (.string (tx p)) ∧
      ∀ s, ClsOwn (w.setCell ⟨g, 2, none⟩ (.string s)) B v (txPut tx p s) (p :: L) := by
  rcases h.2 with ⟨_, h0⟩ | ⟨g, cap, cur, rfl, hb, hg, h1, h2, h3, h4⟩
  · cases h0
  · have e : cur = (.int .i64 p.2.1 :: .int .i64 p.2.2 :: .string (tx p) :: (L.flatMap (cellC tx) ++ cur.toList.drop ((L.length + 1) * 3)) : List Value).toArray := by
      have h5 := List.take_append_drop ((L.length + 1) * 3) cur.toList
      rw [show (p :: L).length = L.length + 1 from rfl] at h4
      rw [h4] at h5
      have h6 := congrArg List.toArray h5
      rw [Array.toArray_toList] at h6
      exact h6.symm
    obtain ⟨T, hT⟩ : ∃ T, T = cur.toList.drop ((L.length + 1) * 3) := ⟨_, rfl⟩
    rw [← hT] at e
    clear hT
    subst e
    refine ⟨g, cap, _, rfl, hb, hg, rfl, fun s => ?_⟩
    have hl := cls_flat tx L
    refine ⟨by rw [cls_flat], .inr ⟨g, cap, _, rfl, hb, heap_setCell_at (i := 2) hg (.string s), h1, h2, by simpa using h3, ?_⟩⟩
    rw [List.flatMap_cons, cells_put hp]
    rw [show cellC (txPut tx p s) p = [.int .i64 p.2.1, .int .i64 p.2.2, .string s] from by unfold cellC; rw [txPut_at]]
    simp [Nat.add_mul, List.take_left' hl]

/-- what stands while Set goes, ahead of its copy -/
structure Sw1 (w : World) (b off bc : Nat) (y : World) : Prop where
  bk : y.heap[w.heap.size]? = some (.cells (bookC1 b off bc) 39 (0, 0))
  at' : y.heap[w.heap.size + 1]? = some (.cells #[.int .i64 0, .int .i64 0, .int .i64 0] 46 (0, 0))
  res : y.heap[w.heap.size + 1 + 1]? = some (.cells #[.slice none 0 0, .slice none 0 0, .slice none 0 0, .slice none 0 0] 39 (0, 0))
  low : Below w.heap.size w y
theorem Sw1.keep {w y z : World} {b off bc : Nat} (h : Sw1 w b off bc y) (hb : Below y.heap.size y z) : Sw1 w b off bc z :=
  ⟨(hb.block _ (heap_lt h.bk)).trans h.bk, (hb.block _ (heap_lt h.at')).trans h.at', (hb.block _ (heap_lt h.res)).trans h.res, h.low.trans (hb.mono h.low.size)⟩

/-- .. and behind it -/
structure Sy1 (w : World) (D gs gc B : Nat) (u : Value) (L : List PAt) (tx : PAt → ByteArray) (y : World) : Prop where
  at' : y.heap[w.heap.size + 1]? = some (.cells #[.int .i64 0, .int .i64 0, .int .i64 0] 46 (0, 0))
  res : y.heap[w.heap.size + 1 + 1]? = some (.cells #[.slice none 0 0, .slice none 0 0, .slice none 0 0, .slice none 0 0] 39 (0, 0))
  out : y.heap[D]? = some (.cells (bookC1 gs 0 gc) 39 (0, 0))
  sh : ∃ S, y.heap[gs]? = some (.cells (.string nameS :: u :: S).toArray 25 (0, 0))
  this : ClsOwn y B u tx L
  low : Below w.heap.size w y
  lo : w.heap.size + 3 ≤ B
  loD : B ≤ D
  loG : B ≤ gs
section
variable {w y z : World} {D gs gc B : Nat} {u : Value} {L : List PAt} {tx : PAt → ByteArray}
theorem Sy1.keep (h : Sy1 w D gs gc B u L tx y) (hb : Below y.heap.size y z) : Sy1 w D gs gc B u L tx z := by
  obtain ⟨S, hs⟩ := h.sh
  exact ⟨(hb.block _ (heap_lt h.at')).trans h.at', (hb.block _ (heap_lt h.res)).trans h.res, (hb.block _ (heap_lt h.out)).trans h.out, ⟨S, (hb.block _ (heap_lt hs)).trans hs⟩, h.this.below hb, h.low.trans (hb.mono h.low.size), h.lo, h.loD, h.loG⟩
/-- behind the store -/
theorem Sy1.put {p : PAt} {g c : Nat} {s : ByteArray} {cur : Array Value} (h : Sy1 w D gs gc B (.slice (some ⟨g, 0, none⟩) (L.length + 1) c) (p :: L) tx y) (hg : y.heap[g]? = some (.cells cur 28 (0, 0))) (hB : B ≤ g)
    (ho : ClsOwn (y.setCell ⟨g, 2, none⟩ (.string s)) B (.slice (some ⟨g, 0, none⟩) (L.length + 1) c) (txPut tx p s) (p :: L)) : Sy1 w D gs gc B (.slice (some ⟨g, 0, none⟩) (L.length + 1) c) (p :: L) (txPut tx p s) (y.setCell ⟨g, 2, none⟩ (.string s)) := by
  obtain ⟨S, hs⟩ := h.sh
  have lo := h.lo
  exact ⟨heap_setCell_far h.at' (by omega) _, heap_setCell_far h.res (by omega) _, heap_setCell_far h.out (heap_ne h.out hg (by decide)) _, ⟨S, heap_setCell_far hs (heap_ne hs hg (by decide)) _⟩, ho, h.low.setCell (show w.heap.size ≤ g by omega) _, h.lo, h.loD, h.loG⟩
/-- it is a workbook -/
theorem Sy1.book {A : List PAt} {F : List Nat} (h : Sy1 w D gs gc B u L tx y) (hc : Chg F y z) (hF : ∀ x, x ∈ F → x < B) (hgc : 1 ≤ gc) (hn : L = onSheet A 0) (hr : Rising A) (h2 : ∀ q, q ∈ A → InTwo q) (hf : A.length ≤ 40) (hk : ∀ q, q ∈ A → InE (tx q)) : Bk1 z (.agg (bookC1 gs 0 gc)) A tx := by
  obtain ⟨S, hs⟩ := h.sh
  subst hn
  have lg := h.loG
  have hs := hc.heap hs (fun hm => by have := hF _ hm; omega)
  have ht := h.this.chg hc (fun g hg hm => by have := hF _ hm; have := (h.this.low g hg).1; omega)
  exact ⟨⟨gs, 0, gc, _, hgc, rfl, cell_of hs rfl, cell_of hs rfl, ht.read⟩, hr, h2, hf, hk⟩
theorem Sw1.start {b off bc : Nat} {A : List PAt} {z' : World} (h : Sw1 w b off bc y) (hb : Below y.heap.size y z) (ho : BookOwn1 z y.heap.size (.agg (bookC1 gs 0 gc)) A tx) (hz : Below z.heap.size z z') (hD : z'.heap[z.heap.size]? = some (.cells (bookC1 gs 0 gc) 39 (0, 0))) :
    1 ≤ gc ∧ ∃ u, Sy1 w z.heap.size gs gc y.heap.size u (onSheet A 0) tx z' := by
  obtain ⟨g, bc', u0, S, e, hc, hg, hs, c0⟩ := ho
  have e' : gs = g ∧ gc = bc' := by simpa [bookC1] using e
  obtain ⟨rfl, rfl⟩ := e'
  have hS := h.keep hb
  have hsz := heap_lt h.res
  have k := hS.keep hz
  exact ⟨hc, u0, k.at', k.res, hD, ⟨S, (hz.block _ (heap_lt hs)).trans hs⟩, c0.below hz, k.low, by omega, hb.size, hg⟩
end
theorem BookOwn1.view {w : World} {B : Nat} {ov : Value} {A : List PAt} {tx : PAt → ByteArray} (h : BookOwn1 w B ov A tx) : ∃ gs gc, ov = .agg (bookC1 gs 0 gc) := by
  obtain ⟨g, bc, u0, S, e, -⟩ := h
  exact ⟨g, bc, e⟩

set_option maxRecDepth 20000 in
set_option maxHeartbeats 2000000 in
theorem setAt_one (w : World) (hT : Env w) (v : Value) (A A' : List PAt) (tx : PAt → ByteArray) (h : Bk1 w v A tx) (hA : onSheet A 0 = ((0 : Int), (0 : Int), (0 : Int)) :: A') (hA' : ((0 : Int), (0 : Int), (0 : Int)) ∉ A') (s : ByteArray) (hs : InE s) (hs0 : ¬ (s.toList = [])) :
    Calls Tryz.prog 8 #[v, .agg #[.int .i64 0, .int .i64 0, .int .i64 0], .string s] w fun e w' => (∃ ov, e = .returned (.tuple #[ov, .int .i64 0]) ∧ ∀ (z : World) (F : List Nat), Chg F w' z → (∀ x, x ∈ F → x < w.heap.size) → Bk1 z ov A (txPut tx ((0 : Int), (0 : Int), (0 : Int)) s)) ∧ Below w.heap.size w w' := by
  have HTH := hid (fun (y : World) (hb : Below w.heap.size w y) => there_one y (hT.below hb) v A tx (h.below hb) ((0 : Int), (0 : Int), (0 : Int)) (by unfold InTwo; dsimp only; omega) rfl)
  have HIN := hid (fun (y : World) (hb : Below w.heap.size w y) => hs y (hT.below hb))
  have HCP := hid (fun (y : World) (hb : Below w.heap.size w y) => copied_one y v A tx (h.below hb))
  have HR := hid h.rise
  have HTW := hid h.two
  have HOK := hid h.ok
  have HF := hid h.few
  have HSO := hid hs
  have HA := hid hA
  have HA' := hid hA'
  obtain ⟨⟨b, off, bc, v0, hbc, rfl, -⟩, -, two, few, ok⟩ := h
  have W1 : Sw1 w b off bc (((w.alloc (.cells (bookC1 b off bc) 39)).alloc (.cells #[.int .i64 0, .int .i64 0, .int .i64 0] 46)).alloc (.cells #[.slice none 0 0, .slice none 0 0, .slice none 0 0, .slice none 0 0] 39)) :=
    ⟨heap_alloc_keep (heap_alloc_keep (heap_alloc_new w _) _) _, heap_alloc_keep (heap_alloc2_new w _ _) _, heap_alloc3_new w _ _ _, (((Below.refl w.heap.size w).alloc (Nat.le_refl _) _).alloc (by simp) _).alloc (by simp; omega) _⟩
  clear hT hs hA hA'
  have hs1 : s.toList.isEmpty = false := by cases h : s.toList with | nil => exact absurd h hs0 | cons x l => rfl
  unfold atV at HTH
  dsimp only at HTH
  go_enter Tryz.func8, Tryz.ntmps8
  go_wp2_with fail
  refine (HTH.out _ W1.low).mono ?_
  rintro e w2 ⟨rfl, b2⟩
  have HW2 := hid (W1.keep b2)
  have q0 : w2.cell? ⟨w.heap.size, 0, none⟩ = some (.slice (some ⟨b, off, none⟩) 1 bc) := cell_of HW2.out.bk rfl
  clear b2 W1 HTH
  go_wp2_with fail
  refine (HIN.out _ HW2.out.low).mono ?_
  rintro e w3 ⟨rfl, b3⟩
  have HW3 := hid (HW2.out.keep b3)
  have q0 : w3.cell? ⟨w.heap.size, 0, none⟩ = some (.slice (some ⟨b, off, none⟩) 1 bc) := cell_of HW3.out.bk rfl
  have q1 : w3.cell? ⟨w.heap.size, 1, none⟩ = some (.slice none 0 0) := cell_of HW3.out.bk rfl
  have q2 : w3.cell? ⟨w.heap.size, 2, none⟩ = some (.slice none 0 0) := cell_of HW3.out.bk rfl
  have q3 : w3.cell? ⟨w.heap.size, 3, none⟩ = some (.slice none 0 0) := cell_of HW3.out.bk rfl
  clear b3 HW2 HIN
  go_wp2_with fail
  refine (HCP.out _ HW3.out.low).mono ?_
  rintro e w4 ⟨⟨ov, rfl, hov⟩, b4⟩
  obtain ⟨gs, gc, rfl⟩ := hov.view
  have HOV := hid hov
  have HB4 := hid b4
  clear hov b4 HCP q0 q1 q2 q3
  have S4 := HW3.out.keep HB4.out
  have a0 : w4.cell? ⟨w.heap.size + 1, 0, none⟩ = some (.int .i64 0) := cell_of S4.at' rfl
  have hlt := heap_lt S4.at'
  have hst := HW3.out.start HB4.out HOV.out (z' := w4.alloc (.cells #[.slice (some ⟨gs, 0, none⟩) 1 gc, .slice none 0 0, .slice none 0 0, .slice none 0 0] 39)) ((Below.refl _ w4).alloc (Nat.le_refl _) _) (heap_alloc_new w4 _)
  clear S4 HOV HB4 HW3
  go_wp2_with fail
  clear a0 hlt
  generalize World.alloc w4 _ = w5 at hst ⊢
  generalize w4.heap.size = D at hst ⊢
  generalize w3.heap.size = B at hst ⊢
  obtain ⟨hgc, u, Y5⟩ := hst
  rw [HA.out] at Y5
  obtain ⟨g, c, cur, rfl, -⟩ := cls_set0 Y5.this HA'.out
  have HY5 := hid Y5
  clear Y5
  obtain ⟨m, hm⟩ : ∃ m, m = A'.length + 1 := ⟨_, rfl⟩
  have HM := hid hm
  have HFI := hid (fun (y : World) (hc : CellsIn y (.slice (some ⟨g, 0, none⟩) (A'.length + 1) c) tx (((0 : Int), (0 : Int), (0 : Int)) :: A')) => show Calls Tryz.prog 31 #[.slice (some ⟨g, 0, none⟩) m c, .agg #[.int .i64 0, .int .i64 0, .int .i64 0]] y fun e w' => e = .returned (.tuple #[.int .i64 0, .bool true]) ∧ Below y.heap.size y w' by
    have h1 := onSheet_rising HR.out 0
    rw [HA.out] at h1
    have := find_any y _ tx _ ((0 : Int), (0 : Int), (0 : Int)) (fun q hq => by rw [← HA.out] at hq; exact (onSheet_at hq).1) hc h1 (by rw [← HA.out]; exact Nat.le_trans (onSheet_le A _) (by have := HF.out; omega))
    rw [decide_eq_true (List.mem_cons_self ..), cutP_no (fun q hq => by have h2 := HTW.out q (by rw [← HA.out] at hq; exact (onSheet_at hq).2); unfold InTwo at h2; unfold aheadP; dsimp only; omega)] at this
    rw [HM.out]
    exact this)
  have HKC := hid (fun (y : World) (h : Sy1 w D gs gc B (.slice (some ⟨g, 0, none⟩) (A'.length + 1) c) (((0 : Int), (0 : Int), (0 : Int)) :: A') tx y) => show y.cell? ⟨gs, 1, none⟩ = some (.slice (some ⟨g, 0, none⟩) m c) ∧ y.cell? ⟨w.heap.size + 1, 0, none⟩ = some (.int .i64 0) ∧ y.cell? ⟨w.heap.size + 1, 1, none⟩ = some (.int .i64 0) ∧ y.cell? ⟨w.heap.size + 1, 2, none⟩ = some (.int .i64 0) from ⟨by obtain ⟨S, hs⟩ := h.sh; rw [HM.out]; exact cell_of hs rfl, cell_of h.at' rfl, cell_of h.at' rfl, cell_of h.at' rfl⟩)
  have HYD := hid (HY5.out.keep (Below.refl w5.heap.size w5).drew)
  have HS5 := hid (HKC.out _ HYD.out)
  clear hbc two few ok hm
  go_region_held (fun y => y.cell? ⟨gs, 1, none⟩ = some (.slice (some ⟨g, 0, none⟩) m c) ∧ y.cell? ⟨w.heap.size + 1, 0, none⟩ = some (.int .i64 0) ∧ y.cell? ⟨w.heap.size + 1, 1, none⟩ = some (.int .i64 0) ∧ y.cell? ⟨w.heap.size + 1, 2, none⟩ = some (.int .i64 0)) (first | with_reducible exact HS5.out | with_reducible exact HS6.out) (first | (go_at_call 31; refine (HFI.out _ HYD.out.this.read).mono ?_; rintro e w6 ⟨rfl, b6⟩; have HY6 := hid (HYD.out.keep b6); have HS6 := hid (HKC.out _ HY6.out); clear b6))
  clear HFI HS5 HYD HY5 HKC
  obtain ⟨g', c', cur, e1, hB, hg, hcur, hset⟩ := cls_set0 HY6.out.this HA'.out
  have e1' : g = g' ∧ c = c' := by simpa using e1
  obtain ⟨rfl, rfl⟩ := e1'
  clear e1
  have HY9 := hid (HY6.out.put hg hB (hset s))
  have m0 : w6.cell? ⟨gs, 1, none⟩ = some (.slice (some ⟨g, 0, none⟩) m c) := HS6.out.1
  have t0 : w6.cell? ⟨g, 2, none⟩ = some (.string (tx ((0 : Int), (0 : Int), (0 : Int)))) := cell_of hg hcur
  have f0 : w6.frozen? ⟨g, 2, none⟩ = false := free_of hg
  have hm0 : (0 : Int) < (m : Int) := by have := HM.out; omega
  have nD : ¬ D = g := heap_ne HY6.out.out hg (by decide)
  have nD' : ¬ g = D := fun e => nD e.symm
  have d0 : w6.cell? ⟨D, 0, none⟩ = some (.slice (some ⟨gs, 0, none⟩) 1 gc) := cell_of HY6.out.out rfl
  have d1 : w6.cell? ⟨D, 1, none⟩ = some (.slice none 0 0) := cell_of HY6.out.out rfl
  have d2 : w6.cell? ⟨D, 2, none⟩ = some (.slice none 0 0) := cell_of HY6.out.out rfl
  have d3 : w6.cell? ⟨D, 3, none⟩ = some (.slice none 0 0) := cell_of HY6.out.out rfl
  clear hg hB hcur hset HS6 HY6
  have HBF := hid (fun (y z : World) (F : List Nat) (hy : Sy1 w D gs gc B (.slice (some ⟨g, 0, none⟩) (A'.length + 1) c) (((0 : Int), (0 : Int), (0 : Int)) :: A') (txPut tx ((0 : Int), (0 : Int), (0 : Int)) s) y) (hc : Chg F y z) (hF : ∀ x, x ∈ F → x < B) => hy.book hc hF hgc (A := A) HA.out.symm HR.out HTW.out HF.out (fun q hq => by
      by_cases hq0 : q = ((0 : Int), (0 : Int), (0 : Int))
      · rw [hq0, txPut_at]; exact HSO.out
      · rw [txPut_far hq0]; exact HOK.out q hq))
  have HBK := hid (HBF.out _ _ [] HY9.out (Chg.refl [] _) (by simp))
  go_wp2_with fail
  refine (many1 _ _ A _ HBK.out).mono ?_
  rintro e w10 ⟨⟨mm, rfl, hmm⟩, b10⟩
  have HY10 := hid (HY9.out.keep b10)
  have hm2 : ¬ ((400 : Int) < (mm : Int)) := by omega
  clear HY9 HBK b10 d0 d1 d2 d3 m0 t0 f0
  have d0 : w10.cell? ⟨D, 0, none⟩ = some (.slice (some ⟨gs, 0, none⟩) 1 gc) := cell_of HY10.out.out rfl
  have d1 : w10.cell? ⟨D, 1, none⟩ = some (.slice none 0 0) := cell_of HY10.out.out rfl
  have d2 : w10.cell? ⟨D, 2, none⟩ = some (.slice none 0 0) := cell_of HY10.out.out rfl
  have d3 : w10.cell? ⟨D, 3, none⟩ = some (.slice none 0 0) := cell_of HY10.out.out rfl
  have r0 : w10.cell? ⟨w.heap.size + 1 + 1, 0, none⟩ = some (.slice none 0 0) := cell_of HY10.out.res rfl
  have r1 : w10.cell? ⟨w.heap.size + 1 + 1, 1, none⟩ = some (.slice none 0 0) := cell_of HY10.out.res rfl
  have r2 : w10.cell? ⟨w.heap.size + 1 + 1, 2, none⟩ = some (.slice none 0 0) := cell_of HY10.out.res rfl
  have r3 : w10.cell? ⟨w.heap.size + 1 + 1, 3, none⟩ = some (.slice none 0 0) := cell_of HY10.out.res rfl
  have f0 := free_of (i := 0) HY10.out.res
  have f1 := free_of (i := 1) HY10.out.res
  have f2 := free_of (i := 2) HY10.out.res
  have f3 := free_of (i := 3) HY10.out.res
  go_wp2_with fail
  refine bodyPost_ret (v := .tuple #[.agg (bookC1 gs 0 gc), .int .i64 0]) (by simp [results, Tryz.results8, go_sem, *]) rfl ?_
  have hlo := HY10.out.lo
  exact ⟨⟨_, rfl, fun z F hF hx => HBF.out _ _ ((w.heap.size + 1 + 1) :: F) HY10.out ((((((Chg.refl _ w10).setCell (.inl (by simp)) _).setCell (.inl (by simp)) _).setCell (.inl (by simp)) _).setCell (.inl (by simp)) _).trans hF (fun x hm => .inl (List.mem_cons_of_mem _ hm))) (fun x hm => by
    rcases List.mem_cons.1 hm with rfl | hm
    · omega
    · have := hx x hm; omega)⟩, (((HY10.out.low.setCell (by simp; omega) _).setCell (by simp; omega) _).setCell (by simp; omega) _).setCell (by simp; omega) _⟩
end Go.Proofs.YtpcjfgihglfdgaaGreatDoor

namespace Go.Proofs.YtpcjfgihglfdgaaGreatDoor
open Go.RowKit Go.Lib

theorem conv_dig (d : Nat) (hd : d < 10) (w : World) {g : Nat} (hg : g = w.heap.size) : (convert 50 9 (.slice (some ⟨g, 0, none⟩) 1 1)).run Tryz.prog (w.alloc (.cells #[.int .u8 (48 + (d : Int))] 5)) = .ok (.string (bs [UInt8.ofNat (48 + d)])) (w.alloc (.cells #[.int .u8 (48 + (d : Int))] 5)) := by
  subst hg
  refine conv_one _ _ _ _ ?_
  rw [show ((UInt8.ofNat (48 + d)).toNat : Int) = 48 + (d : Int) from by rw [UInt8.toNat_ofNat_of_lt' (show 48 + d < 256 by omega)]; rfl]
  exact cell_of (heap_alloc_new w _) rfl
set_option maxRecDepth 20000 in
set_option maxHeartbeats 400000 in
theorem place_any (n : Nat) (hn0 : 1 ≤ n) (hn : n ≤ 99) (w : World) : Calls Tryz.prog 5 #[.int .i64 (n : Int)] w fun e w' => e = .returned (.string (bs (refB n))) ∧ Below w.heap.size w w' := by
  obtain ⟨q, d, hq, hd, hnd⟩ : ∃ q d, q < 10 ∧ d < 10 ∧ n = q * 10 + d := ⟨n / 10, n % 10, by omega, by omega, by omega⟩
  have e1 : ((n : Int).tmod 10) = (d : Int) := by rw [Int.tmod_eq_emod_of_nonneg (by omega)]; omega
  have e2 : ((n : Int).tdiv 10) = (q : Int) := by rw [Int.tdiv_eq_ediv_of_nonneg (by omega)]; omega
  have e1' : ((n : Int) % 10) = (d : Int) := by omega
  have e2' : ((n : Int) / 10) = (q : Int) := by omega
  have e3 : IntKind.i64.wrap (48 + (d : Int)) = 48 + (d : Int) := IntWalk.i64_in _ (by omega)
  have e4 : IntKind.u8.wrap (48 + (d : Int)) = 48 + (d : Int) := IntWalk.u8_in _ (by omega)
  have p1 : (0 : Int) < (n : Int) := by omega
  have HND := hid hnd
  have v0 := conv_dig d hd w rfl
  clear hnd
  go_enter Tryz.func5, Tryz.ntmps5
  go_wp2_with fail
  refine wp_loop_rounds 3 ?_
  rw [rounds_succ]
  go_wp2_with fail
  rw [rounds_succ]
  by_cases hq0 : q = 0
  · have p2 : ¬ ((0 : Int) < (q : Int)) := by omega
    have c1 : (⟨#[65]⟩ : ByteArray) ++ (bs [48 + UInt8.ofNat d] ++ ⟨#[]⟩) = bs (refB n) := by
      rw [show refB n = [65] ++ ([48 + UInt8.ofNat d] ++ []) from by unfold refB digs; rw [if_pos (by have := HND.out; omega)]; rw [show n = d from by have := HND.out; omega]; simp]
      rw [← bs_append, ← bs_append]
      rfl
    have C1 := hid c1
    clear c1
    clear e1 e2 e1' e2' hq0 p1
    go_wp2_with fail
    go_ret
    exact ⟨congrArg (fun t => Ending.returned (.string t)) C1.out, (Below.refl _ w).alloc (Nat.le_refl _) _⟩
  · have p2 : (0 : Int) < (q : Int) := by omega
    have e5 : ((q : Int).tmod 10) = (q : Int) := by rw [Int.tmod_eq_emod_of_nonneg (by omega)]; omega
    have e6 : ((q : Int).tdiv 10) = 0 := by rw [Int.tdiv_eq_ediv_of_nonneg (by omega)]; omega
    have e5' : ((q : Int) % 10) = (q : Int) := by omega
    have e6' : ((q : Int) / 10) = 0 := by omega
    have e7 : IntKind.i64.wrap (48 + (q : Int)) = 48 + (q : Int) := IntWalk.i64_in _ (by omega)
    have e8 : IntKind.u8.wrap (48 + (q : Int)) = 48 + (q : Int) := IntWalk.u8_in _ (by omega)
    have v1 := conv_dig q hq (w.alloc (.cells #[.int .u8 (48 + (d : Int))] 5)) (g := w.heap.size + 1) (by simp)
    have c1 : (⟨#[65]⟩ : ByteArray) ++ (bs [48 + UInt8.ofNat q] ++ (bs [48 + UInt8.ofNat d] ++ ⟨#[]⟩)) = bs (refB n) := by
      rw [show refB n = [65] ++ ([48 + UInt8.ofNat q] ++ ([48 + UInt8.ofNat d] ++ [])) from by unfold refB digs; rw [if_neg (by have := HND.out; omega)]; rw [show n / 10 = q from by have := HND.out; omega, show n % 10 = d from by have := HND.out; omega]; simp]
      rw [← bs_append, ← bs_append, ← bs_append]
      rfl
    have C1 := hid c1
    clear c1
    clear e1 e2 e1' e2' hq0 p1
    go_wp2_with fail
    rw [rounds_succ]
    go_wp2_with fail
    go_ret
    exact ⟨congrArg (fun t => Ending.returned (.string t)) C1.out, ((Below.refl _ w).alloc (Nat.le_refl _) _).alloc (by simp) _⟩
end Go.Proofs.YtpcjfgihglfdgaaGreatDoor

namespace Go.Proofs.YtpcjfgihglfdgaaGreatDoor.Isl
open Go.RowKit Go.Lib

theorem ex1 : IsParts (natG [[1], [2], [1]]) [[1, 2], [0]] := example1
theorem ex2 : IsParts (natG [[], [0], []]) [[0], [1], [2]] := example2
theorem ex3 : IsParts (natG [[2], [], []]) [[1], [2], [0]] := example3
theorem few_small {G : List (List Int)} (h : (decide (G.length ≤ 100) && G.all fun l => decide (l.length ≤ 100)) = true) : Few G := by
  simp only [Bool.and_eq_true, decide_eq_true_eq, List.all_eq_true] at h
  exact ⟨100, h.2, by omega⟩
theorem same_true {w : World} {av bv : Value} {G H : List (List Int)} (hG : RowsIn w av G) (hH : RowsIn w bv H) (e : decide (G = H) = true) : Calls Tryz.prog 10 #[av, bv] w (SameEnd w true) := by
  have := same_any w av bv G H hG hH
  rw [e] at this
  exact this
theorem loop_is {w : World} {gv pv : Value} {G : List (List Int)} {part : List Int} {b : Bool} (h : RowsIn w gv G) (hp : IntsIn w pv part) (e : loopB G part = b) : Calls Tryz.prog 9 #[gv, pv] w (LoopEnd w b) := by
  have := loop_any w gv pv G part h hp
  rw [e] at this
  exact this
theorem chg_call {F : List Nat} {a b c : World} (h : Chg F a b) (k : Below b.heap.size b c) : Chg F a c := h.trans (Chg.of_below (F := []) k) (by simp)

def HeadEnd (w : World) (e : Ending) (w' : World) : Prop := e = .returned (.bool true) ∧ Below w.heap.size w w'

set_option maxRecDepth 20000 in
set_option maxHeartbeats 4000000 in
theorem examples_any (w : World) : Calls Tryz.prog 4 #[] w (HeadEnd w) := by
  go_enter Tryz.func4, Tryz.ntmps4
  go_wp2_with fail
  refine (parts_known (G := [[1], [2], [1]]) (rows3 (by repeat (with_reducible (first | (refine heap_new_at _ _ ?_ _; simp; done) | refine heap_alloc_keep ?_ _))) (ints1 (by repeat (with_reducible (first | (refine heap_new_at _ _ ?_ _; simp; done) | refine heap_alloc_keep ?_ _))) (by decide)) (ints1 (by repeat (with_reducible (first | (refine heap_new_at _ _ ?_ _; simp; done) | refine heap_alloc_keep ?_ _))) (by decide)) (ints1 (by repeat (with_reducible (first | (refine heap_new_at _ _ ?_ _; simp; done) | refine heap_alloc_keep ?_ _))) (by decide))) rfl (few_small (by decide)) ex1).mono ?_
  rintro e w1 ⟨v1, rfl, r1, b1⟩
  go_wp2_with fail
  refine (parts_known (G := [[], [0], []]) (rows3 (by repeat (with_reducible (first | (refine heap_new_at _ _ ?_ _; simp; done) | refine heap_alloc_keep ?_ _))) (ints_nil _) (ints1 (by repeat (with_reducible (first | (refine heap_new_at _ _ ?_ _; simp; done) | refine heap_alloc_keep ?_ _))) (by decide)) (ints_nil _)) rfl (few_small (by decide)) ex2).mono ?_
  rintro e w2 ⟨v2, rfl, r2, b2⟩
  go_wp2_with fail
  refine (parts_known (G := [[2], [], []]) (rows3 (by repeat (with_reducible (first | (refine heap_new_at _ _ ?_ _; simp; done) | refine heap_alloc_keep ?_ _))) (ints1 (by repeat (with_reducible (first | (refine heap_new_at _ _ ?_ _; simp; done) | refine heap_alloc_keep ?_ _))) (by decide)) (ints_nil _) (ints_nil _)) rfl (few_small (by decide)) ex3).mono ?_
  rintro e w3 ⟨v3, rfl, r3, b3⟩
  go_wp2_with fail
  refine (parts_no (G := [[1]]) (rows1 (by repeat (with_reducible (first | (refine heap_new_at _ _ ?_ _; simp; done) | refine heap_alloc_keep ?_ _))) (ints1 (by repeat (with_reducible (first | (refine heap_new_at _ _ ?_ _; simp; done) | refine heap_alloc_keep ?_ _))) (by decide))) rfl).mono ?_
  rintro e w4 ⟨rfl, b4⟩
  go_wp2_with fail
  refine (same_true (r1.below (Chg.nil_below (by repeat (first | exact Chg.refl _ _ | refine Chg.alloc ?_ _ | refine chg_call ?_ b1 | refine chg_call ?_ b2 | refine chg_call ?_ b3 | refine chg_call ?_ b4)))) (rows2 (by repeat (with_reducible (first | (refine heap_new_at _ _ ?_ _; simp; done) | refine heap_alloc_keep ?_ _))) (ints2 (by repeat (with_reducible (first | (refine heap_new_at _ _ ?_ _; simp; done) | refine heap_alloc_keep ?_ _))) (by decide) (by decide)) (ints1 (by repeat (with_reducible (first | (refine heap_new_at _ _ ?_ _; simp; done) | refine heap_alloc_keep ?_ _))) (by decide))) (by decide)).mono ?_
  rintro e w5 ⟨rfl, b5⟩
  go_wp2_with fail
  refine (same_true (r2.below (Chg.nil_below (by repeat (first | exact Chg.refl _ _ | refine Chg.alloc ?_ _ | refine chg_call ?_ b1 | refine chg_call ?_ b2 | refine chg_call ?_ b3 | refine chg_call ?_ b4 | refine chg_call ?_ b5)))) (rows3 (by repeat (with_reducible (first | (refine heap_new_at _ _ ?_ _; simp; done) | refine heap_alloc_keep ?_ _))) (ints1 (by repeat (with_reducible (first | (refine heap_new_at _ _ ?_ _; simp; done) | refine heap_alloc_keep ?_ _))) (by decide)) (ints1 (by repeat (with_reducible (first | (refine heap_new_at _ _ ?_ _; simp; done) | refine heap_alloc_keep ?_ _))) (by decide)) (ints1 (by repeat (with_reducible (first | (refine heap_new_at _ _ ?_ _; simp; done) | refine heap_alloc_keep ?_ _))) (by decide))) (by decide)).mono ?_
  rintro e w6 ⟨rfl, b6⟩
  go_wp2_with fail
  refine (same_true (r3.below (Chg.nil_below (by repeat (first | exact Chg.refl _ _ | refine Chg.alloc ?_ _ | refine chg_call ?_ b1 | refine chg_call ?_ b2 | refine chg_call ?_ b3 | refine chg_call ?_ b4 | refine chg_call ?_ b5 | refine chg_call ?_ b6)))) (rows3 (by repeat (with_reducible (first | (refine heap_new_at _ _ ?_ _; simp; done) | refine heap_alloc_keep ?_ _))) (ints1 (by repeat (with_reducible (first | (refine heap_new_at _ _ ?_ _; simp; done) | refine heap_alloc_keep ?_ _))) (by decide)) (ints1 (by repeat (with_reducible (first | (refine heap_new_at _ _ ?_ _; simp; done) | refine heap_alloc_keep ?_ _))) (by decide)) (ints1 (by repeat (with_reducible (first | (refine heap_new_at _ _ ?_ _; simp; done) | refine heap_alloc_keep ?_ _))) (by decide))) (by decide)).mono ?_
  rintro e w7 ⟨rfl, b7⟩
  go_wp2_with fail
  refine (loop_is (G := [[0]]) (part := [0]) (b := true) (rows1 (by repeat (with_reducible (first | (refine heap_new_at _ _ ?_ _; simp; done) | refine heap_alloc_keep ?_ _))) (ints1 (by repeat (with_reducible (first | (refine heap_new_at _ _ ?_ _; simp; done) | refine heap_alloc_keep ?_ _))) (by decide))) (ints1 (by repeat (with_reducible (first | (refine heap_new_at _ _ ?_ _; simp; done) | refine heap_alloc_keep ?_ _))) (by decide)) (by decide)).mono ?_
  rintro e w8 ⟨rfl, b8⟩
  go_wp2_with fail
  refine (loop_is (G := [[]]) (part := [0]) (b := false) (rows1 (by repeat (with_reducible (first | (refine heap_new_at _ _ ?_ _; simp; done) | refine heap_alloc_keep ?_ _))) (ints_nil _)) (ints1 (by repeat (with_reducible (first | (refine heap_new_at _ _ ?_ _; simp; done) | refine heap_alloc_keep ?_ _))) (by decide)) (by decide)).mono ?_
  rintro e w9 ⟨rfl, b9⟩
  go_wp2_with fail
  refine (loop_is (G := [[1], [0]]) (part := [0, 1]) (b := true) (rows2 (by repeat (with_reducible (first | (refine heap_new_at _ _ ?_ _; simp; done) | refine heap_alloc_keep ?_ _))) (ints1 (by repeat (with_reducible (first | (refine heap_new_at _ _ ?_ _; simp; done) | refine heap_alloc_keep ?_ _))) (by decide)) (ints1 (by repeat (with_reducible (first | (refine heap_new_at _ _ ?_ _; simp; done) | refine heap_alloc_keep ?_ _))) (by decide))) (ints2 (by repeat (with_reducible (first | (refine heap_new_at _ _ ?_ _; simp; done) | refine heap_alloc_keep ?_ _))) (by decide) (by decide)) (by decide)).mono ?_
  rintro e w10 ⟨rfl, b10⟩
  go_wp2_with fail
  go_ret
  exact ⟨rfl, (Chg.nil_below (by repeat (first | exact Chg.refl _ _ | refine Chg.alloc ?_ _ | refine chg_call ?_ b1 | refine chg_call ?_ b2 | refine chg_call ?_ b3 | refine chg_call ?_ b4 | refine chg_call ?_ b5 | refine chg_call ?_ b6 | refine chg_call ?_ b7 | refine chg_call ?_ b8 | refine chg_call ?_ b9 | refine chg_call ?_ b10)))⟩

end Go.Proofs.YtpcjfgihglfdgaaGreatDoor.Isl

namespace Go.Proofs.YtpcjfgihglfdgaaGreatDoor
open Go.RowKit Go.Lib

theorem parts_cast {w : World} {v : Value} {g : Isl.Gr} {out0 : List (List Nat)} (h : Isl.RowsIn w v (Isl.castG g)) (R : Isl.RightG g) (hl : g.length ≤ 40) (hm : ∀ l ∈ g, l.length ≤ 2) (hp : Isl.IsParts g out0) :
    Calls Tryz.prog 7 #[v] w fun e w' => ∃ v', e = .returned (.tuple #[v', .int .i64 0]) ∧ Isl.RowsIn w' v' (Isl.castG out0) ∧ Below w.heap.size w w' := by
  refine Isl.parts_known h ((Isl.right_iff _).2 ⟨by simp [Isl.castG]; omega, fun l hl2 x hx => ?_⟩) ⟨2, fun l hl2 => ?_, ?_⟩ (by rw [Isl.natG_cast]; exact hp)
  · unfold Isl.castG at hl2
    obtain ⟨l', h1, rfl⟩ := List.mem_map.1 hl2
    obtain ⟨x', h2, rfl⟩ := List.mem_map.1 hx
    obtain ⟨i, hi, e⟩ := List.getElem_of_mem h1
    have h3 := R i x' (by unfold Isl.edge Isl.edges; rw [List.getElem?_eq_getElem hi, e]; exact h2)
    rw [show (Isl.castG g).length = g.length from by simp [Isl.castG]]
    omega
  · unfold Isl.castG at hl2
    obtain ⟨l', h1, rfl⟩ := List.mem_map.1 hl2
    rw [List.length_map]
    exact hm l' h1
  · rw [show (Isl.castG g).length = g.length from by simp [Isl.castG]]; omega
theorem map_le {k : Nat} {f : Nat → List Nat} (h : ∀ i, (f i).length ≤ 2) : ∀ l ∈ (List.range k).map f, l.length ≤ 2 := by
  intro l hl
  obtain ⟨i, -, rfl⟩ := List.mem_map.1 hl
  exact h i
theorem few_down (k : Nat) : ∀ l ∈ Isl.downG k, l.length ≤ 2 := map_le (fun i => by by_cases h : i = 0 <;> simp [h])
theorem few_up (k : Nat) : ∀ l ∈ Isl.upG k, l.length ≤ 2 := map_le (fun i => Nat.le_trans (List.length_filter_le _ _) (by simp))
theorem few_ring (k : Nat) : ∀ l ∈ Isl.ringG k, l.length ≤ 2 := map_le (fun i => by by_cases h : i = 0 <;> simp [h])
theorem ring_circle {k : Nat} (h2 : 2 ≤ k) (h : k ≤ 31) : Isl.loopB (Isl.castG (Isl.ringG k)) ((List.range k).map fun (x : Nat) => (x : Int)) = true := by
  obtain ⟨m, rfl⟩ : ∃ m, k = m + 2 := ⟨k - 2, by omega⟩
  have e : (List.range (m + 2)).map (fun (x : Nat) => (x : Int)) = (0 : Int) :: (1 : Int) :: ((List.range (m + 2)).map (fun (x : Nat) => (x : Int))).drop 2 := by
    rw [List.range_succ_eq_map, List.range_succ_eq_map]
    rfl
  rw [e]
  show Isl.rightB _ = true
  refine (Isl.right_iff _).2 ⟨by simp [Isl.castG, Isl.ringG]; omega, fun l hl x hx => ?_⟩
  unfold Isl.castG at hl
  obtain ⟨l', h1, rfl⟩ := List.mem_map.1 hl
  obtain ⟨x', h2, rfl⟩ := List.mem_map.1 hx
  obtain ⟨i, hi, e⟩ := List.getElem_of_mem h1
  have h3 := Isl.ring_right (m + 2) i x' (by unfold Isl.edge Isl.edges; rw [List.getElem?_eq_getElem hi, e]; exact h2)
  rw [show (Isl.castG (Isl.ringG (m + 2))).length = (Isl.ringG (m + 2)).length from by simp [Isl.castG]]
  omega

noncomputable def rest14 : Code := sndSeq (sndSeq (sndSeq (sndSeq (sndSeq (sndSeq (sndSeq (sndSeq (sndSeq (sndSeq (sndSeq (sndSeq (sndSeq (sndSeq (Tryz.f3.body.getD .skip))))))))))))))
set_option maxRecDepth 20000 in
set_option maxHeartbeats 2000000 in
theorem tail14 {w y : World} {k h gs go gc : Nat} {tx : PAt → ByteArray} {v0 v1 v2 v5 v6 v7 v8 v9 v10 v11 v12 v13 v14 v15 v16 v17 v18 v19 v22 v23 v24 v25 v26 v27 v28 v29 v30 v31 v32 v33 v34 v35 v36 v37 v38 v39 v40 v41 v42 v43 v44 v45 v46 v47 v48 v49 v50 v51 v52 v53 v54 v55 v56 v57 v58 v59 v60 v61 v62 v63 v64 v65 v66 v67 v68 v69 v70 v71 v72 v73 v74 v75 v76 v77 v78 v79 v80 v81 v82 v83 v84 v85 v86 v87 v88 v89 v90 v91 v92 v93 v94 v95 v96 v97 v98 v99 v100 v101 v102 v103 v104 v105 v106 v107 v108 v109 v110 v111 v112 v113 v114 v115 v116 v117 v118 v119 v120 v121 v122 v123 v124 v125 v126 v127 v128 v129 v130 v131 v132 v133 v134 v135 v136 v137 v138 v139 v140 v141 v142 v143 v144 v145 v146 v147 v148 v149 v150 v151 v152 v153 v154 v155 v156 v157 v158 v159 v160 v161 v162 v163 v164 v165 v166 v167 v168 v169 v170 v171 v172 v173 v174 v175 v176 v177 v178 v179 v180 v181 v182 v183 v184 v185 v186 v187 v188 v189 v190 v191 v192 v193 v194 v195 v196 v197 v198 v199 v200 v201 v202 v203 v204 v205 v206 v207 v208 v209 v210 v211 v212 v213 v214 v215 v216 v217 v218 v219 v220 v221 v222 v223 v224 v225 v226 : Value} (hE : Env y) (hk2 : 2 ≤ k) (hk : k ≤ 31) (hb : y.heap[h]? = some (.cells (bookC1 gs go gc) 39 (0, 0))) (hB : Bk1 y (.agg (bookC1 gs go gc)) (placesN k) tx) (ht : ∀ i, i < k → tx ((0 : Int), (i : Int), (0 : Int)) = bs (61 :: lR k i)) (hw : Below w.heap.size w y) :
    Code.wp Tryz.prog rest14 (bodyPost Tryz.prog Tryz.f3 (fun e w' => e = .returned (.bool true) ∧ Below w.heap.size w w')) { tmps := #[v0, v1, v2, .bool true, .int .i64 (k : Int), v5, v6, v7, v8, v9, v10, v11, v12, v13, v14, v15, v16, v17, v18, v19, .pointer (some ⟨h, 0, none⟩), .int .i64 0, v22, v23, v24, v25, v26, v27, v28, v29, v30, v31, v32, v33, v34, v35, v36, v37, v38, v39, v40, v41, v42, v43, v44, v45, v46, v47, v48, v49, v50, v51, v52, v53, v54, v55, v56, v57, v58, v59, v60, v61, v62, v63, v64, v65, v66, v67, v68, v69, v70, v71, v72, v73, v74, v75, v76, v77, v78, v79, v80, v81, v82, v83, v84, v85, v86, v87, v88, v89, v90, v91, v92, v93, v94, v95, v96, v97, v98, v99, v100, v101, v102, v103, v104, v105, v106, v107, v108, v109, v110, v111, v112, v113, v114, v115, v116, v117, v118, v119, v120, v121, v122, v123, v124, v125, v126, v127, v128, v129, v130, v131, v132, v133, v134, v135, v136, v137, v138, v139, v140, v141, v142, v143, v144, v145, v146, v147, v148, v149, v150, v151, v152, v153, v154, v155, v156, v157, v158, v159, v160, v161, v162, v163, v164, v165, v166, v167, v168, v169, v170, v171, v172, v173, v174, v175, v176, v177, v178, v179, v180, v181, v182, v183, v184, v185, v186, v187, v188, v189, v190, v191, v192, v193, v194, v195, v196, v197, v198, v199, v200, v201, v202, v203, v204, v205, v206, v207, v208, v209, v210, v211, v212, v213, v214, v215, v216, v217, v218, v219, v220, v221, v222, v223, v224, v225, v226], defers := [] } y := by
  have HG := hid (graph_any hE hB (fm_ring ⟨by omega, by omega⟩ ht) (fa_ring ⟨by omega, by omega⟩))
  have HW := hid hw
  have q0 : y.cell? ⟨h, 0, none⟩ = some (.slice (some ⟨gs, go, none⟩) 1 gc) := cell_of hb rfl
  have q1 : y.cell? ⟨h, 1, none⟩ = some (.slice none 0 0) := cell_of hb rfl
  have q2 : y.cell? ⟨h, 2, none⟩ = some (.slice none 0 0) := cell_of hb rfl
  have q3 : y.cell? ⟨h, 3, none⟩ = some (.slice none 0 0) := cell_of hb rfl
  clear hE hB ht hw hb
  simp only [rest14, sndSeq, Tryz.f3, Option.getD_some]
  go_wp2_with fail
  refine HG.out.mono ?_
  rintro e w1 ⟨av, ev, rfl, -, hr, b1⟩
  rw [rows_ring] at hr
  have HR := hid hr
  have HW1 := hid (HW.out.trans (b1.mono HW.out.size))
  have HP := hid (parts_cast hr.rows (Isl.ring_right k) (by rw [Isl.ring_len]; omega) (few_ring k) (Isl.ring_parts k (by omega)))
  clear hr b1 HW HG q0 q1 q2 q3
  go_wp2_with fail
  refine HP.out.mono ?_
  rintro e w2 ⟨pv, rfl, hp, b2⟩
  have HW2 := hid (HW1.out.trans (b2.mono HW1.out.size))
  have HR2 := hid (HR.out.below b2)
  obtain ⟨pa, pc, rfl, _⟩ := Isl.rows_view hp
  obtain ⟨pb, po, la, lc, epa, z1, z2⟩ := Isl.rows_cell (i := 0) hp (show (Isl.castG [List.range k])[0]? = some ((List.range k).map fun (x : Nat) => (x : Int)) from rfl)
  rw [Nat.add_zero, List.length_map, List.length_range] at z1
  rw [List.length_map, List.length_range] at z2
  rw [show (Isl.castG [List.range k]).length = 1 from rfl]
  have HLP := hid (Isl.loop_is HR2.out.rows z2 (ring_circle hk2 hk))
  obtain rfl := epa
  clear hp b2 z2 HR HR2 HW1 HP
  go_wp2_with fail
  refine HLP.out.mono ?_
  rintro e w3 ⟨rfl, b3⟩
  have HW3 := hid (HW2.out.trans (b3.mono HW2.out.size))
  clear b3 HW2 HLP
  go_wp2_with fail
  go_ret
  exact ⟨rfl, HW3.out⟩
end Go.Proofs.YtpcjfgihglfdgaaGreatDoor
