/- Contract of slices.BinarySearchFunc at cells of one sheet; of book.find, book.whole. No condition. Contracts of book.sheet, book.there at a workbook of one sheet. Condition: what the package-level variables hold lies as it was laid. -/
import Derived.Test.YtpcjfgihglfdgaaGreatDoorKChGraB
import Derived.Test.YtpcjfgihglfdgaaGreatDoorKChCheck

/- Contract of slices.BinarySearchFunc at cells of one sheet. No condition. -/
namespace Go.Proofs.YtpcjfgihglfdgaaGreatDoor
open Go.RowKit Go.Lib

theorem ordC_ordP {q p : PAt} (h : q.1 = p.1) : ordC q.2.1 q.2.2 p.2.1 p.2.2 = ordP q p := by
  obtain ⟨q1, q2, q3⟩ := q
  obtain ⟨p1, p2, p3⟩ := p
  dsimp only at h
  subst h
  unfold ordC ordP aheadP cmpZ
  simp only [Prod.mk.injEq, true_and]
  repeat' split
  all_goals first | rfl | omega
/-- the memory of a search -/
structure BcM (w : World) (p : PAt) (y : World) : Prop where
  tgt : y.heap[w.heap.size]? = some (.cells #[.int .i64 p.2.1, .int .i64 p.2.2, .string ⟨#[]⟩] 28 (0, 0))
  low : Below w.heap.size w y
theorem BcM.keep {w y z : World} {p : PAt} (h : BcM w p y) (hb : Below y.heap.size y z) : BcM w p z := ⟨(hb.block _ (heap_lt h.tgt)).trans h.tgt, h.low.trans (hb.mono h.low.size)⟩
def BcC (tx : PAt → ByteArray) (w : World) (p q : PAt) (cb o : Nat) (y : World) : Prop :=
  (y.cell? ⟨cb, o, none⟩ = some (.int .i64 q.2.1) ∧ y.cell? ⟨cb, o + 1, none⟩ = some (.int .i64 q.2.2) ∧ y.cell? ⟨cb, o + 2, none⟩ = some (.string (tx q))) ∧
  (y.cell? ⟨w.heap.size, 0, none⟩ = some (.int .i64 p.2.1) ∧ y.cell? ⟨w.heap.size, 1, none⟩ = some (.int .i64 p.2.2) ∧ y.cell? ⟨w.heap.size, 2, none⟩ = some (.string ⟨#[]⟩)) ∧ BcM w p y
theorem BcM.cls {tx : PAt → ByteArray} {w y : World} {p q : PAt} {cb o : Nat} (h : BcM w p y) (h0 : w.cell? ⟨cb, o, none⟩ = some (.int .i64 q.2.1)) (h1 : w.cell? ⟨cb, o + 1, none⟩ = some (.int .i64 q.2.2)) (h2 : w.cell? ⟨cb, o + 2, none⟩ = some (.string (tx q))) : BcC tx w p q cb o y := by
  have k : ∀ {p : Addr} {u : Value}, w.cell? p = some u → y.cell? p = some u := fun {p u} hc => (h.low.cell (World.block_lt_of_cell? _ _ hc)).trans hc
  exact ⟨⟨k h0, k h1, k h2⟩, ⟨cell_of h.tgt rfl, cell_of h.tgt rfl, cell_of h.tgt rfl⟩, h⟩
theorem BcC.keep {tx : PAt → ByteArray} {w y z : World} {p q : PAt} {cb o : Nat} (h : BcC tx w p q cb o y) (hb : Below y.heap.size y z) : BcC tx w p q cb o z := by
  have k : ∀ {p : Addr} {u : Value}, y.cell? p = some u → z.cell? p = some u := fun {p u} hc => (hb.cell (World.block_lt_of_cell? _ _ hc)).trans hc
  exact ⟨⟨k h.1.1, k h.1.2.1, k h.1.2.2⟩, ⟨k h.2.1.1, k h.2.1.2.1, k h.2.1.2.2⟩, h.2.2.keep hb⟩

theorem bc_of {A B C : Prop} (h : A ∧ B ∧ C) : C := h.2.2
def BcRel (w : World) (A : List PAt) (p : PAt) (i j : Value) (wr : World) : Prop := ∃ a b : Nat, i = .int .i64 (a : Int) ∧ j = .int .i64 (b : Int) ∧ BiOk A p a b ∧ BcM w p wr
set_option maxHeartbeats 1000000 in
theorem binC_any (w : World) (v : Value) (tx : PAt → ByteArray) (A : List PAt) (p : PAt) (hs : ∀ q, q ∈ A → q.1 = p.1) (hA : CellsIn w v tx A) (hr : Rising A) (hl : A.length ≤ 1000) :
    Calls Tryz.prog 76 #[v, .agg #[.int .i64 p.2.1, .int .i64 p.2.2, .string ⟨#[]⟩], .func (.func 39) #[] #[]] w fun e w' => e = .returned (.tuple #[.int .i64 (cutP p A : Nat), .bool (decide (p ∈ A))]) ∧ Below w.heap.size w w' := by
  obtain ⟨ao, c, cb, co, rfl, -, hcl⟩ := hA.view
  have HO := hid (fun q (hq : q ∈ A) w => show Calls Tryz.prog 39 #[.agg #[.int .i64 q.2.1, .int .i64 q.2.2, .string (tx q)], .agg #[.int .i64 p.2.1, .int .i64 p.2.2, .string ⟨#[]⟩]] w fun e w' => e = .returned (.int .i64 (ordP q p)) ∧ Below w.heap.size w w' from by rw [← ordC_ordP (hs q hq)]; exact border_any _ _ _ _ _ _ w)
  have HCL := hid hcl
  have HR := hid hr
  obtain ⟨n, hn⟩ : ∃ n, n = A.length := ⟨_, rfl⟩
  rw [← hn] at hl ⊢
  have HN := hid hn
  have M0 : BcM w p (w.alloc (.cells #[.int .i64 p.2.1, .int .i64 p.2.2, .string ⟨#[]⟩] 28)) := ⟨heap_alloc_new w _, (Below.refl _ w).alloc (Nat.le_refl _) _⟩
  have HM0 := hid M0
  obtain ⟨cu, hcu⟩ : ∃ cu, cu = cutP p A := ⟨_, rfl⟩
  obtain ⟨bo, hbo⟩ : ∃ bo, bo = decide (p ∈ A) := ⟨_, rfl⟩
  rw [← hcu, ← hbo]
  have HCU := hid hcu
  have HBO := hid hbo
  clear hs hA hr hcl hn M0 hcu hbo
  go_enter Tryz.func76, Tryz.ntmps76
  go_wp2_with fail
  go_loopw [9, 10] (fun i j wr => BcRel w A p i j wr) (fun i j _ => (RowKit.intOf j).toNat - (RowKit.intOf i).toNat)
  case atStart => exact ⟨0, n, rfl, rfl, by rw [HN.out]; exact biOk_start A p, HM0.out⟩
  case round =>
    obtain ⟨i, j, rfl, rfl, hok, hm⟩ := hrel
    have HOK := hid hok
    have HM := hid hm
    have l1 := hok.le
    have l2 := hok.len
    rw [← HN.out] at l2
    clear hok hm
    by_cases hij : i < j
    · obtain ⟨h, hh⟩ : ∃ h, h = (i + j) / 2 := ⟨_, rfl⟩
      have h1 : i ≤ h := by omega
      have h2 : h < j := by omega
      obtain ⟨q, hq⟩ : ∃ q, A[h]? = some q := ⟨_, List.getElem?_eq_getElem (by rw [← HN.out]; omega)⟩
      obtain ⟨rfl, k0, k1, k2⟩ := HCL.out h q hq
      have HC := hid ((HM.out.cls k0 k1 k2).keep (Below.refl _ wr).drew)
      have HH := hid hh
      have HQ := hid hq
      clear k0 k1 k2 hh hq
      go_wp2_with fail
      have hd : ((i : Int) + (j : Int)) / 2 = (h : Int) := by rw [HH.out]; omega
      rw [hd]
      have hx1 : (h : Int) < (n : Int) := by omega
      have hx2 : h < n := by omega
      clear hd
      by_cases ha : aheadP q p
      · have HO2 := hid (fun w => show Calls Tryz.prog 39 #[.agg #[.int .i64 q.2.1, .int .i64 q.2.2, .string (tx q)], .agg #[.int .i64 p.2.1, .int .i64 p.2.2, .string ⟨#[]⟩]] w fun e w' => e = .returned (.int .i64 (-1)) ∧ Below w.heap.size w w' by have := HO.out q (List.mem_of_getElem? HQ.out) w; rwa [show ordP q p = -1 from if_pos ha] at this)
        have HK := hid (HOK.out.up HR.out HQ.out h1 h2 ha)
        clear ha
        go_region_held (fun y => (y.cell? ⟨cb, co + h * 3, none⟩ = some (.int .i64 q.2.1) ∧ y.cell? ⟨cb, co + h * 3 + 1, none⟩ = some (.int .i64 q.2.2) ∧ y.cell? ⟨cb, co + h * 3 + 2, none⟩ = some (.string (tx q))) ∧ (y.cell? ⟨w.heap.size, 0, none⟩ = some (.int .i64 p.2.1) ∧ y.cell? ⟨w.heap.size, 1, none⟩ = some (.int .i64 p.2.2) ∧ y.cell? ⟨w.heap.size, 2, none⟩ = some (.string ⟨#[]⟩)) ∧ BcM w p y) (first | exact HC.out | (refine BcC.keep ?_ ‹Below _ _ _›; assumption)) (first | (go_at_call 39; refine (HO2.out _).mono ?_; rintro e w3 ⟨rfl, b3⟩))
        have HM3 := hid (show BcM w p w3 by apply bc_of; assumption)
        go_wp2_with fail
        go_roundw
        case rel => exact ⟨h + 1, j, by simp, rfl, HK.out, HM3.out⟩
        case measure => simp [RowKit.intOf]; omega
      · have HK := hid (HOK.out.down HR.out HQ.out h1 h2 ha)
        by_cases he : q = p
        · have HO2 := hid (fun w => show Calls Tryz.prog 39 #[.agg #[.int .i64 q.2.1, .int .i64 q.2.2, .string (tx q)], .agg #[.int .i64 p.2.1, .int .i64 p.2.2, .string ⟨#[]⟩]] w fun e w' => e = .returned (.int .i64 (0)) ∧ Below w.heap.size w w' by have := HO.out q (List.mem_of_getElem? HQ.out) w; rwa [show ordP q p = 0 from by unfold ordP; rw [if_neg ha, if_pos he]] at this)
          clear ha he
          go_region_held (fun y => (y.cell? ⟨cb, co + h * 3, none⟩ = some (.int .i64 q.2.1) ∧ y.cell? ⟨cb, co + h * 3 + 1, none⟩ = some (.int .i64 q.2.2) ∧ y.cell? ⟨cb, co + h * 3 + 2, none⟩ = some (.string (tx q))) ∧ (y.cell? ⟨w.heap.size, 0, none⟩ = some (.int .i64 p.2.1) ∧ y.cell? ⟨w.heap.size, 1, none⟩ = some (.int .i64 p.2.2) ∧ y.cell? ⟨w.heap.size, 2, none⟩ = some (.string ⟨#[]⟩)) ∧ BcM w p y) (first | exact HC.out | (refine BcC.keep ?_ ‹Below _ _ _›; assumption)) (first | (go_at_call 39; refine (HO2.out _).mono ?_; rintro e w3 ⟨rfl, b3⟩))
          have HM3 := hid (show BcM w p w3 by apply bc_of; assumption)
          go_wp2_with fail
          go_roundw
          case rel => exact ⟨i, h, rfl, rfl, HK.out, HM3.out⟩
          case measure => simp [RowKit.intOf]; omega
        · have HO2 := hid (fun w => show Calls Tryz.prog 39 #[.agg #[.int .i64 q.2.1, .int .i64 q.2.2, .string (tx q)], .agg #[.int .i64 p.2.1, .int .i64 p.2.2, .string ⟨#[]⟩]] w fun e w' => e = .returned (.int .i64 (1)) ∧ Below w.heap.size w w' by have := HO.out q (List.mem_of_getElem? HQ.out) w; rwa [show ordP q p = 1 from by unfold ordP; rw [if_neg ha, if_neg he]] at this)
          clear ha he
          go_region_held (fun y => (y.cell? ⟨cb, co + h * 3, none⟩ = some (.int .i64 q.2.1) ∧ y.cell? ⟨cb, co + h * 3 + 1, none⟩ = some (.int .i64 q.2.2) ∧ y.cell? ⟨cb, co + h * 3 + 2, none⟩ = some (.string (tx q))) ∧ (y.cell? ⟨w.heap.size, 0, none⟩ = some (.int .i64 p.2.1) ∧ y.cell? ⟨w.heap.size, 1, none⟩ = some (.int .i64 p.2.2) ∧ y.cell? ⟨w.heap.size, 2, none⟩ = some (.string ⟨#[]⟩)) ∧ BcM w p y) (first | exact HC.out | (refine BcC.keep ?_ ‹Below _ _ _›; assumption)) (first | (go_at_call 39; refine (HO2.out _).mono ?_; rintro e w3 ⟨rfl, b3⟩))
          have HM3 := hid (show BcM w p w3 by apply bc_of; assumption)
          go_wp2_with fail
          go_roundw
          case rel => exact ⟨i, h, rfl, rfl, HK.out, HM3.out⟩
          case measure => simp [RowKit.intOf]; omega
    · obtain rfl : i = j := by omega
      have HI := hid (show cu = i from by rw [HCU.out]; exact HOK.out.cut)
      have hmem := HOK.out.mem HR.out
      by_cases hin : i < n
      · obtain ⟨q, hq⟩ : ∃ q, A[i]? = some q := ⟨_, List.getElem?_eq_getElem (by rw [← HN.out]; omega)⟩
        obtain ⟨rfl, k0, k1, k2⟩ := HCL.out i q hq
        have HC := hid ((HM.out.cls k0 k1 k2).keep (Below.refl _ wr).drew)
        have ha : ¬ aheadP q p := HOK.out.high q (List.mem_of_getElem? (i := 0) (by rw [List.getElem?_drop]; simpa using hq))
        have hx1 : ((i : Int) < (n : Int)) = True := by rw [eq_iff_iff, iff_true]; omega
        rw [hq] at hmem
        have HQ := hid hq
        clear k0 k1 k2 hq
        by_cases he : q = p
        · have HB2 := hid (show bo = true from by rw [HBO.out]; exact decide_eq_true (hmem.2 (by rw [he])))
          have HO2 := hid (fun w => show Calls Tryz.prog 39 #[.agg #[.int .i64 q.2.1, .int .i64 q.2.2, .string (tx q)], .agg #[.int .i64 p.2.1, .int .i64 p.2.2, .string ⟨#[]⟩]] w fun e w' => e = .returned (.int .i64 (0)) ∧ Below w.heap.size w w' by have := HO.out q (List.mem_of_getElem? HQ.out) w; rwa [show ordP q p = 0 from by unfold ordP; rw [if_neg ha, if_pos he]] at this)
          clear ha he hmem
          go_wp2_with fail
          go_region_held (fun y => (y.cell? ⟨cb, co + i * 3, none⟩ = some (.int .i64 q.2.1) ∧ y.cell? ⟨cb, co + i * 3 + 1, none⟩ = some (.int .i64 q.2.2) ∧ y.cell? ⟨cb, co + i * 3 + 2, none⟩ = some (.string (tx q))) ∧ (y.cell? ⟨w.heap.size, 0, none⟩ = some (.int .i64 p.2.1) ∧ y.cell? ⟨w.heap.size, 1, none⟩ = some (.int .i64 p.2.2) ∧ y.cell? ⟨w.heap.size, 2, none⟩ = some (.string ⟨#[]⟩)) ∧ BcM w p y) (first | exact HC.out | (refine BcC.keep ?_ ‹Below _ _ _›; assumption)) (first | (go_at_call 39; refine (HO2.out _).mono ?_; rintro e w3 ⟨rfl, b3⟩))
          have HM3 := hid (show BcM w p w3 by apply bc_of; assumption)
          go_wp2_with fail
          go_ret2
          exact ⟨by rw [HI.out, HB2.out]; rfl, HM3.out.low⟩
        · have HB2 := hid (show bo = false from by rw [HBO.out]; exact decide_eq_false (fun h => he (Option.some.inj (hmem.1 h))))
          have HO2 := hid (fun w => show Calls Tryz.prog 39 #[.agg #[.int .i64 q.2.1, .int .i64 q.2.2, .string (tx q)], .agg #[.int .i64 p.2.1, .int .i64 p.2.2, .string ⟨#[]⟩]] w fun e w' => e = .returned (.int .i64 (1)) ∧ Below w.heap.size w w' by have := HO.out q (List.mem_of_getElem? HQ.out) w; rwa [show ordP q p = 1 from by unfold ordP; rw [if_neg ha, if_neg he]] at this)
          clear ha he hmem
          go_wp2_with fail
          go_region_held (fun y => (y.cell? ⟨cb, co + i * 3, none⟩ = some (.int .i64 q.2.1) ∧ y.cell? ⟨cb, co + i * 3 + 1, none⟩ = some (.int .i64 q.2.2) ∧ y.cell? ⟨cb, co + i * 3 + 2, none⟩ = some (.string (tx q))) ∧ (y.cell? ⟨w.heap.size, 0, none⟩ = some (.int .i64 p.2.1) ∧ y.cell? ⟨w.heap.size, 1, none⟩ = some (.int .i64 p.2.2) ∧ y.cell? ⟨w.heap.size, 2, none⟩ = some (.string ⟨#[]⟩)) ∧ BcM w p y) (first | exact HC.out | (refine BcC.keep ?_ ‹Below _ _ _›; assumption)) (first | (go_at_call 39; refine (HO2.out _).mono ?_; rintro e w3 ⟨rfl, b3⟩))
          have HM3 := hid (show BcM w p w3 by apply bc_of; assumption)
          go_wp2_with fail
          go_ret2
          exact ⟨by rw [HI.out, HB2.out]; rfl, HM3.out.low⟩
      · have HB2 := hid (show bo = false from by rw [HBO.out]; exact decide_eq_false (fun h => by rw [hmem, List.getElem?_eq_none (by rw [← HN.out]; omega)] at h; cases h))
        have hd : decide ((i : Int) < (n : Int)) = false := decide_eq_false (by omega)
        clear hmem
        go_wp2_with fail
        go_quiet (fail)
        go_wp2_with fail
        go_ret2
        exact ⟨by rw [HI.out, HB2.out]; rfl, below_drewN HM.out.low _⟩
end Go.Proofs.YtpcjfgihglfdgaaGreatDoor

/- Contracts of book.find, book.sheet, book.whole, book.there at a workbook of two sheets. Condition: utf8's tables lie as they were laid. -/
namespace Go.Proofs.YtpcjfgihglfdgaaGreatDoor
open Go.RowKit Go.Lib

set_option maxHeartbeats 400000 in
theorem find_any (w : World) (v : Value) (tx : PAt → ByteArray) (A : List PAt) (p : PAt) (hs : ∀ q, q ∈ A → q.1 = p.1) (hA : CellsIn w v tx A) (hr : Rising A) (hl : A.length ≤ 1000) :
    Calls Tryz.prog 31 #[v, atV p] w fun e w' => e = .returned (.tuple #[.int .i64 (cutP p A : Nat), .bool (decide (p ∈ A))]) ∧ Below w.heap.size w w' := by
  have B0 := hid ((Below.refl w.heap.size w).alloc (Nat.le_refl _) (.cells #[.int .i64 p.1, .int .i64 p.2.1, .int .i64 p.2.2] 46))
  have HB := hid (fun (y : World) (hb : Below w.heap.size w y) => binC_any y v tx A p hs (hA.below hb) hr hl)
  obtain ⟨ao, c, cb, co, rfl, -⟩ := hA.view
  clear hs hA hr hl
  unfold atV
  go_enter Tryz.func31, Tryz.ntmps31
  go_wp2_with fail
  refine (HB.out _ B0.out).mono ?_
  rintro e w1 ⟨rfl, b1⟩
  have B1 := hid (B0.out.trans (b1.mono B0.out.size))
  clear b1
  go_wp2_with fail
  go_ret2
  exact ⟨rfl, B1.out⟩

set_option maxHeartbeats 1000000 in
theorem whole_any (x : PSp) (w : World) : Calls Tryz.prog 66 #[spV x] w fun e w' => e = .returned (.bool (decide (rightP x))) ∧ Below w.heap.size w w' := by
  have h1 := meet_any x x
  obtain ⟨b, hb⟩ : ∃ b, b = decide (rightP x) := ⟨_, rfl⟩
  have e1 : decide (meetP x x) = b := by rw [hb]; exact decide_eq_decide.2 meetP_self
  rw [← hb]
  rw [e1] at h1
  have H1 := hid h1
  clear h1 e1 hb
  unfold spV at *
  go_enter Tryz.func66, Tryz.ntmps66
  go_wp2_with fail
  refine (H1.out _).mono ?_
  rintro e w1 ⟨⟨z, rfl⟩, b1⟩
  unfold spV
  go_wp2_with fail
  go_ret
  exact ⟨rfl, ((((Below.refl _ w).alloc (Nat.le_refl _) _).trans (b1.mono (by simp)))).alloc (Nat.le_trans (by simp) b1.size) _⟩

set_option maxHeartbeats 400000 in
theorem sheet_one (w : World) (b off bc : Nat) (n : Int) (h0 : 0 ≤ n) (h2 : n < 1) : Calls Tryz.prog 67 #[.agg (bookC1 b off bc), .int .i64 n] w fun e w' => e = .returned (.bool true) ∧ Below w.heap.size w w' := by
  have B0 := hid ((Below.refl w.heap.size w).alloc (Nat.le_refl _) (.cells (bookC1 b off bc) 39))
  have d0 : (n ≥ 0) = True := by rw [eq_iff_iff, iff_true]; omega
  have d1 : (n < 1) = True := by rw [eq_iff_iff, iff_true]; omega
  go_enter Tryz.func67, Tryz.ntmps67
  go_wp2_with fail
  go_ret
  exact ⟨rfl, B0.out⟩

/-- what stands while there goes -/
structure Th1 (w : World) (b off bc : Nat) (p : PAt) (y : World) : Prop where
  bb : y.heap[w.heap.size]? = some (.cells (bookC1 b off bc) 39 (0, 0))
  ab : y.heap[w.heap.size + 1]? = some (.cells #[.int .i64 p.1, .int .i64 p.2.1, .int .i64 p.2.2] 46 (0, 0))
  low : Below w.heap.size w y
theorem Th1.keep {w y z : World} {b off bc : Nat} {p : PAt} (h : Th1 w b off bc p y) (hb : Below y.heap.size y z) : Th1 w b off bc p z :=
  ⟨(hb.block _ (heap_lt h.bb)).trans h.bb, (hb.block _ (heap_lt h.ab)).trans h.ab, h.low.trans (hb.mono h.low.size)⟩
set_option maxRecDepth 20000 in
set_option maxHeartbeats 1000000 in
theorem there_one (w : World) (hT : Env w) (v : Value) (A : List PAt) (tx : PAt → ByteArray) (h : Bk1 w v A tx) (p : PAt) (hp : InTwo p) (hp0 : p.1 = 0) : Calls Tryz.prog 28 #[v, atV p] w fun e w' => e = .returned (.int .i64 0) ∧ Below w.heap.size w w' := by
  have HCK := hid (fun (y : World) (hb : Below w.heap.size w y) => check1 y (hT.below hb) v A tx (h.below hb))
  obtain ⟨⟨b, off, bc, v0, hbc, rfl, -⟩, -⟩ := h
  rw [show (Value.agg #[.slice (some ⟨b, off, none⟩) 1 bc, .slice none 0 0, .slice none 0 0, .slice none 0 0]) = .agg (bookC1 b off bc) from rfl] at *
  have T0 := hid (show Th1 w b off bc p ((w.alloc (.cells (bookC1 b off bc) 39)).alloc (.cells #[.int .i64 p.1, .int .i64 p.2.1, .int .i64 p.2.2] 46)) from ⟨heap_alloc_keep (heap_alloc_new w _) _, heap_alloc2_new w _ _, ((Below.refl _ w).alloc (Nat.le_refl _) _).alloc (by simp) _⟩)
  have hw : decide (rightP (p, 1, 1)) = true := decide_eq_true (by unfold InTwo at hp; unfold rightP; dsimp only; omega)
  have HWH := hid (fun w => whole_any (p, 1, 1) w)
  rw [hw] at HWH
  have HSH := hid (fun w => sheet_one w b off bc p.1 hp.1 (by omega))
  clear hT hp hw hp0
  unfold atV
  unfold spV at HWH
  dsimp only at HWH
  go_enter Tryz.func28, Tryz.ntmps28
  go_wp2_with fail
  refine (HCK.out _ T0.out.low).mono ?_
  rintro e w1 ⟨rfl, b1⟩
  have T1 := hid ((T0.out.keep b1).keep ((Below.refl w1.heap.size w1).alloc (Nat.le_refl _) (.cells #[.int .i64 0, .int .i64 0, .int .i64 0] 46)))
  have q := (T0.out.keep b1)
  have a0 : w1.cell? ⟨w.heap.size + 1, 0, none⟩ = some (.int .i64 p.1) := cell_of q.ab rfl
  have a1 : w1.cell? ⟨w.heap.size + 1, 1, none⟩ = some (.int .i64 p.2.1) := cell_of q.ab rfl
  have a2 : w1.cell? ⟨w.heap.size + 1, 2, none⟩ = some (.int .i64 p.2.2) := cell_of q.ab rfl
  have hlt := heap_lt q.ab
  clear b1 T0 HCK q
  go_wp2_with fail
  clear a0 a1 a2 hlt
  generalize World.alloc w1 _ = w2 at T1 ⊢
  refine (HWH.out _).mono ?_
  rintro e w3 ⟨rfl, b3⟩
  have T3 := hid (T1.out.keep b3)
  have a0 : w3.cell? ⟨w.heap.size + 1, 0, none⟩ = some (.int .i64 p.1) := cell_of T3.out.ab rfl
  have q0 : w3.cell? ⟨w.heap.size, 0, none⟩ = some (.slice (some ⟨b, off, none⟩) 1 bc) := cell_of T3.out.bb rfl
  have q1 : w3.cell? ⟨w.heap.size, 1, none⟩ = some (.slice none 0 0) := cell_of T3.out.bb rfl
  have q2 : w3.cell? ⟨w.heap.size, 2, none⟩ = some (.slice none 0 0) := cell_of T3.out.bb rfl
  have q3 : w3.cell? ⟨w.heap.size, 3, none⟩ = some (.slice none 0 0) := cell_of T3.out.bb rfl
  clear b3 T1 HWH
  go_wp2_with fail
  refine (HSH.out _).mono ?_
  rintro e w4 ⟨rfl, b4⟩
  have T4 := hid (T3.out.keep b4)
  clear b4 T3 a0 q0 q1 q2 q3
  go_wp2_with fail
  go_ret
  exact ⟨rfl, T4.out.low⟩
end Go.Proofs.YtpcjfgihglfdgaaGreatDoor
