/- Contract of slices.BinarySearchFunc at places. No condition. -/
import Derived.Test.YthkjmplcmfabfaaGreatDoorSpMem
import Derived.Deep.RegionHeldLaw
namespace Go.Proofs.YthkjmplcmfabfaaGreatDoor
open Go.RowKit Go.Lib

/-- what a search between i and j knows -/
structure BiOk (A : List PAt) (p : PAt) (i j : Nat) : Prop where
  le : i ≤ j
  len : j ≤ A.length
  low : ∀ y, y ∈ A.take i → aheadP y p
  high : ∀ y, y ∈ A.drop j → ¬ aheadP y p
theorem biOk_start (A : List PAt) (p : PAt) : BiOk A p 0 A.length := ⟨by omega, by omega, by simp, by simp⟩
theorem rising_split {A : List PAt} (hr : Rising A) {h : Nat} {y : PAt} (hy : A[h]? = some y) : (∀ z, z ∈ A.take h → aheadP z y) ∧ (∀ z, z ∈ A.drop (h + 1) → aheadP y z) := by
  obtain ⟨hk, e⟩ := List.getElem?_eq_some_iff.1 hy
  have hs : A = A.take h ++ y :: A.drop (h + 1) := by rw [← e, ← List.drop_eq_getElem_cons hk, List.take_append_drop]
  unfold Rising at hr
  rw [hs, List.pairwise_append] at hr
  exact ⟨fun z hz => hr.2.2 z hz y (by simp), (List.pairwise_cons.1 hr.2.1).1⟩
theorem BiOk.up {A : List PAt} {p y : PAt} {i j h : Nat} (hr : Rising A) (b : BiOk A p i j) (hy : A[h]? = some y) (_h1 : i ≤ h) (h2 : h < j) (ha : aheadP y p) : BiOk A p (h + 1) j := by
  refine ⟨by omega, b.len, fun z hz => ?_, b.high⟩
  obtain ⟨hk, e⟩ := List.getElem?_eq_some_iff.1 hy
  rw [List.take_succ_eq_append_getElem hk, e] at hz
  rcases List.mem_append.1 hz with hz | hz
  · exact ((rising_split hr hy).1 z hz).trans ha
  · simp only [List.mem_singleton] at hz
    exact hz ▸ ha
theorem BiOk.down {A : List PAt} {p y : PAt} {i j h : Nat} (hr : Rising A) (b : BiOk A p i j) (hy : A[h]? = some y) (h1 : i ≤ h) (h2 : h < j) (ha : ¬ aheadP y p) : BiOk A p i h := by
  refine ⟨h1, by have := b.len; omega, b.low, fun z hz => ?_⟩
  obtain ⟨hk, e⟩ := List.getElem?_eq_some_iff.1 hy
  rw [List.drop_eq_getElem_cons hk, e] at hz
  rcases List.mem_cons.1 hz with rfl | hz
  · exact ha
  · intro hp
    exact ha (((rising_split hr hy).2 z hz).trans hp)
theorem BiOk.cut {A : List PAt} {p : PAt} {i : Nat} (b : BiOk A p i i) : cutP p A = i := by
  have e : A.countP (fun y => decide (aheadP y p)) = (A.take i).countP (fun y => decide (aheadP y p)) + (A.drop i).countP (fun y => decide (aheadP y p)) := by
    conv => lhs; rw [← List.take_append_drop i A]
    exact List.countP_append
  unfold cutP
  have e1 : (A.take i).countP (fun y => decide (aheadP y p)) = (A.take i).length := List.countP_eq_length.2 (fun y hy => by simpa using b.low y hy)
  have e2 : (A.drop i).countP (fun y => decide (aheadP y p)) = 0 := List.countP_eq_zero.2 (fun y hy => by simpa using b.high y hy)
  have := b.len
  rw [e, e1, e2, List.length_take]
  omega
theorem BiOk.mem {A : List PAt} {p : PAt} {i : Nat} (hr : Rising A) (b : BiOk A p i i) : p ∈ A ↔ A[i]? = some p := by
  refine ⟨fun h => ?_, List.mem_of_getElem?⟩
  rw [← List.take_append_drop i A, List.mem_append] at h
  rcases h with h | h
  · exact absurd rfl (b.low p h).ne
  · cases hd : A.drop i with
    | nil => simp [hd] at h
    | cons y l =>
      have hy : A[i]? = some y := by
        have := List.getElem?_drop (xs := A) (i := i) (j := 0)
        rw [hd] at this
        simpa using this.symm
      rw [hd] at h
      rcases List.mem_cons.1 h with rfl | h
      · exact hy
      · have hi := (List.getElem?_eq_some_iff.1 hy).1
        have hl : l = A.drop (i + 1) := by
          have := List.drop_eq_getElem_cons hi
          rw [hd] at this
          exact (List.cons.inj this).2
        exact absurd ((rising_split hr hy).2 p (hl ▸ h)) (b.high y (by rw [hd]; simp))

/-- the memory of a search -/
structure BiM (w : World) (p : PAt) (y : World) : Prop where
  tgt : y.heap[w.heap.size]? = some (.cells (atC p).toArray 38 (0, 0))
  low : Below w.heap.size w y
theorem BiM.keep {w y z : World} {p : PAt} (h : BiM w p y) (hb : Below y.heap.size y z) : BiM w p z := ⟨(hb.block _ (heap_lt h.tgt)).trans h.tgt, h.low.trans (hb.mono h.low.size)⟩
def BiC (w : World) (p q : PAt) (cb o : Nat) (y : World) : Prop :=
  (y.cell? ⟨cb, o, none⟩ = some (.int .i64 q.1) ∧ y.cell? ⟨cb, o + 1, none⟩ = some (.int .i64 q.2.1) ∧ y.cell? ⟨cb, o + 2, none⟩ = some (.int .i64 q.2.2)) ∧
  (y.cell? ⟨w.heap.size, 0, none⟩ = some (.int .i64 p.1) ∧ y.cell? ⟨w.heap.size, 1, none⟩ = some (.int .i64 p.2.1) ∧ y.cell? ⟨w.heap.size, 2, none⟩ = some (.int .i64 p.2.2)) ∧ BiM w p y
theorem BiM.cls {w y : World} {p q : PAt} {cb o : Nat} (h : BiM w p y) (h0 : w.cell? ⟨cb, o, none⟩ = some (.int .i64 q.1)) (h1 : w.cell? ⟨cb, o + 1, none⟩ = some (.int .i64 q.2.1)) (h2 : w.cell? ⟨cb, o + 2, none⟩ = some (.int .i64 q.2.2)) : BiC w p q cb o y := by
  have k : ∀ {p : Addr} {u : Value}, w.cell? p = some u → y.cell? p = some u := fun {p u} hc => (h.low.cell (World.block_lt_of_cell? _ _ hc)).trans hc
  exact ⟨⟨k h0, k h1, k h2⟩, ⟨cell_of h.tgt rfl, cell_of h.tgt rfl, cell_of h.tgt rfl⟩, h⟩
theorem BiC.keep {w y z : World} {p q : PAt} {cb o : Nat} (h : BiC w p q cb o y) (hb : Below y.heap.size y z) : BiC w p q cb o z := by
  have k : ∀ {p : Addr} {u : Value}, y.cell? p = some u → z.cell? p = some u := fun {p u} hc => (hb.cell (World.block_lt_of_cell? _ _ hc)).trans hc
  exact ⟨⟨k h.1.1, k h.1.2.1, k h.1.2.2⟩, ⟨k h.2.1.1, k h.2.1.2.1, k h.2.1.2.2⟩, h.2.2.keep hb⟩

theorem bi_of {A B C : Prop} (h : A ∧ B ∧ C) : C := h.2.2
def BiRel (w : World) (A : List PAt) (p : PAt) (i j : Value) (wr : World) : Prop := ∃ a b : Nat, i = .int .i64 (a : Int) ∧ j = .int .i64 (b : Int) ∧ BiOk A p a b ∧ BiM w p wr
set_option maxHeartbeats 1000000 in
theorem bin_any (w : World) (v : Value) (A : List PAt) (hA : AtsIn w v A) (hr : Rising A) (hl : A.length ≤ 1000) (p : PAt) :
    Calls Tryz.prog 33 #[v, atV p, .func (.func 34) #[] #[]] w fun e w' => e = .returned (.tuple #[.int .i64 (cutP p A : Nat), .bool (decide (p ∈ A))]) ∧ Below w.heap.size w w' := by
  obtain ⟨ao, c, cb, co, rfl, -, hcl⟩ := hA.view
  have HO := hid (fun a w => order_any a p w)
  have HCL := hid hcl
  have HR := hid hr
  obtain ⟨n, hn⟩ : ∃ n, n = A.length := ⟨_, rfl⟩
  rw [← hn] at hl ⊢
  have HN := hid hn
  have M0 : BiM w p (w.alloc (.cells (atC p).toArray 38)) := ⟨heap_alloc_new w _, (Below.refl _ w).alloc (Nat.le_refl _) _⟩
  have HM0 := hid M0
  obtain ⟨cu, hcu⟩ : ∃ cu, cu = cutP p A := ⟨_, rfl⟩
  obtain ⟨bo, hbo⟩ : ∃ bo, bo = decide (p ∈ A) := ⟨_, rfl⟩
  rw [← hcu, ← hbo]
  have HCU := hid hcu
  have HBO := hid hbo
  clear hA hr hcl hn M0 hcu hbo
  unfold atV atC at *
  go_enter Tryz.func33, Tryz.ntmps33
  go_wp2_with fail
  go_loopw [9, 10] (fun i j wr => BiRel w A p i j wr) (fun i j _ => (RowKit.intOf j).toNat - (RowKit.intOf i).toNat)
  case atStart => exact ⟨0, n, rfl, rfl, by rw [HN.out]; exact biOk_start A p, HM0.out⟩
  case round =>
    obtain ⟨i, j, rfl, rfl, hok, hm⟩ := hrel
    have HOK := hid hok
    have HM := hid hm
    have l1 := hok.le
    have l2 := hok.len
    rw [← HN.out] at l2
    clear hok hm
    by_cases hij : i < j
    · obtain ⟨h, hh⟩ : ∃ h, h = (i + j) / 2 := ⟨_, rfl⟩
      have h1 : i ≤ h := by omega
      have h2 : h < j := by omega
      obtain ⟨q, hq⟩ : ∃ q, A[h]? = some q := ⟨_, List.getElem?_eq_getElem (by rw [← HN.out]; omega)⟩
      obtain ⟨rfl, k0, k1, k2⟩ := HCL.out h q hq
      have HC := hid ((HM.out.cls k0 k1 k2).keep (Below.refl _ wr).drew)
      have HH := hid hh
      have HQ := hid hq
      clear k0 k1 k2 hh hq
      go_wp2_with fail
      have hd : ((i : Int) + (j : Int)) / 2 = (h : Int) := by rw [HH.out]; omega
      rw [hd]
      have hx1 : (h : Int) < (n : Int) := by omega
      have hx2 : h < n := by omega
      clear hd
      by_cases ha : aheadP q p
      · have HO2 := hid (fun w => show Calls Tryz.prog 34 #[.agg #[.int .i64 q.1, .int .i64 q.2.1, .int .i64 q.2.2], .agg #[.int .i64 p.1, .int .i64 p.2.1, .int .i64 p.2.2]] w fun e w' => e = .returned (.int .i64 (-1)) ∧ Below w.heap.size w w' by have := HO.out q w; rwa [show ordP q p = -1 from if_pos ha] at this)
        have HK := hid (HOK.out.up HR.out HQ.out h1 h2 ha)
        clear ha
        go_region_held (fun y => (y.cell? ⟨cb, co + h * 3, none⟩ = some (.int .i64 q.1) ∧ y.cell? ⟨cb, co + h * 3 + 1, none⟩ = some (.int .i64 q.2.1) ∧ y.cell? ⟨cb, co + h * 3 + 2, none⟩ = some (.int .i64 q.2.2)) ∧ (y.cell? ⟨w.heap.size, 0, none⟩ = some (.int .i64 p.1) ∧ y.cell? ⟨w.heap.size, 1, none⟩ = some (.int .i64 p.2.1) ∧ y.cell? ⟨w.heap.size, 2, none⟩ = some (.int .i64 p.2.2)) ∧ BiM w p y) (first | exact HC.out | (refine BiC.keep ?_ ‹Below _ _ _›; assumption)) (first | (go_at_call 34; refine (HO2.out _).mono ?_; rintro e w3 ⟨rfl, b3⟩))
        have HM3 := hid (show BiM w p w3 by apply bi_of; assumption)
        go_wp2_with fail
        go_roundw
        case rel => exact ⟨h + 1, j, by simp, rfl, HK.out, HM3.out⟩
        case measure => simp [RowKit.intOf]; omega
      · have HK := hid (HOK.out.down HR.out HQ.out h1 h2 ha)
        by_cases he : q = p
        · have HO2 := hid (fun w => show Calls Tryz.prog 34 #[.agg #[.int .i64 q.1, .int .i64 q.2.1, .int .i64 q.2.2], .agg #[.int .i64 p.1, .int .i64 p.2.1, .int .i64 p.2.2]] w fun e w' => e = .returned (.int .i64 (0)) ∧ Below w.heap.size w w' by have := HO.out q w; rwa [show ordP q p = 0 from by unfold ordP; rw [if_neg ha, if_pos he]] at this)
          clear ha he
          go_region_held (fun y => (y.cell? ⟨cb, co + h * 3, none⟩ = some (.int .i64 q.1) ∧ y.cell? ⟨cb, co + h * 3 + 1, none⟩ = some (.int .i64 q.2.1) ∧ y.cell? ⟨cb, co + h * 3 + 2, none⟩ = some (.int .i64 q.2.2)) ∧ (y.cell? ⟨w.heap.size, 0, none⟩ = some (.int .i64 p.1) ∧ y.cell? ⟨w.heap.size, 1, none⟩ = some (.int .i64 p.2.1) ∧ y.cell? ⟨w.heap.size, 2, none⟩ = some (.int .i64 p.2.2)) ∧ BiM w p y) (first | exact HC.out | (refine BiC.keep ?_ ‹Below _ _ _›; assumption)) (first | (go_at_call 34; refine (HO2.out _).mono ?_; rintro e w3 ⟨rfl, b3⟩))
          have HM3 := hid (show BiM w p w3 by apply bi_of; assumption)
          go_wp2_with fail
          go_roundw
          case rel => exact ⟨i, h, rfl, rfl, HK.out, HM3.out⟩
          case measure => simp [RowKit.intOf]; omega
        · have HO2 := hid (fun w => show Calls Tryz.prog 34 #[.agg #[.int .i64 q.1, .int .i64 q.2.1, .int .i64 q.2.2], .agg #[.int .i64 p.1, .int .i64 p.2.1, .int .i64 p.2.2]] w fun e w' => e = .returned (.int .i64 (1)) ∧ Below w.heap.size w w' by have := HO.out q w; rwa [show ordP q p = 1 from by unfold ordP; rw [if_neg ha, if_neg he]] at this)
          clear ha he
          go_region_held (fun y => (y.cell? ⟨cb, co + h * 3, none⟩ = some (.int .i64 q.1) ∧ y.cell? ⟨cb, co + h * 3 + 1, none⟩ = some (.int .i64 q.2.1) ∧ y.cell? ⟨cb, co + h * 3 + 2, none⟩ = some (.int .i64 q.2.2)) ∧ (y.cell? ⟨w.heap.size, 0, none⟩ = some (.int .i64 p.1) ∧ y.cell? ⟨w.heap.size, 1, none⟩ = some (.int .i64 p.2.1) ∧ y.cell? ⟨w.heap.size, 2, none⟩ = some (.int .i64 p.2.2)) ∧ BiM w p y) (first | exact HC.out | (refine BiC.keep ?_ ‹Below _ _ _›; assumption)) (first | (go_at_call 34; refine (HO2.out _).mono ?_; rintro e w3 ⟨rfl, b3⟩))
          have HM3 := hid (show BiM w p w3 by apply bi_of; assumption)
          go_wp2_with fail
          go_roundw
          case rel => exact ⟨i, h, rfl, rfl, HK.out, HM3.out⟩
          case measure => simp [RowKit.intOf]; omega
    · obtain rfl : i = j := by omega
      have HI := hid (show cu = i from by rw [HCU.out]; exact HOK.out.cut)
      have hmem := HOK.out.mem HR.out
      by_cases hin : i < n
      · obtain ⟨q, hq⟩ : ∃ q, A[i]? = some q := ⟨_, List.getElem?_eq_getElem (by rw [← HN.out]; omega)⟩
        obtain ⟨rfl, k0, k1, k2⟩ := HCL.out i q hq
        have HC := hid ((HM.out.cls k0 k1 k2).keep (Below.refl _ wr).drew)
        have ha : ¬ aheadP q p := HOK.out.high q (List.mem_of_getElem? (i := 0) (by rw [List.getElem?_drop]; simpa using hq))
        have hx1 : ((i : Int) < (n : Int)) = True := by rw [eq_iff_iff, iff_true]; omega
        rw [hq] at hmem
        clear k0 k1 k2 hq
        by_cases he : q = p
        · have HB2 := hid (show bo = true from by rw [HBO.out]; exact decide_eq_true (hmem.2 (by rw [he])))
          have HO2 := hid (fun w => show Calls Tryz.prog 34 #[.agg #[.int .i64 q.1, .int .i64 q.2.1, .int .i64 q.2.2], .agg #[.int .i64 p.1, .int .i64 p.2.1, .int .i64 p.2.2]] w fun e w' => e = .returned (.int .i64 (0)) ∧ Below w.heap.size w w' by have := HO.out q w; rwa [show ordP q p = 0 from by unfold ordP; rw [if_neg ha, if_pos he]] at this)
          clear ha he hmem
          go_wp2_with fail
          go_region_held (fun y => (y.cell? ⟨cb, co + i * 3, none⟩ = some (.int .i64 q.1) ∧ y.cell? ⟨cb, co + i * 3 + 1, none⟩ = some (.int .i64 q.2.1) ∧ y.cell? ⟨cb, co + i * 3 + 2, none⟩ = some (.int .i64 q.2.2)) ∧ (y.cell? ⟨w.heap.size, 0, none⟩ = some (.int .i64 p.1) ∧ y.cell? ⟨w.heap.size, 1, none⟩ = some (.int .i64 p.2.1) ∧ y.cell? ⟨w.heap.size, 2, none⟩ = some (.int .i64 p.2.2)) ∧ BiM w p y) (first | exact HC.out | (refine BiC.keep ?_ ‹Below _ _ _›; assumption)) (first | (go_at_call 34; refine (HO2.out _).mono ?_; rintro e w3 ⟨rfl, b3⟩))
          have HM3 := hid (show BiM w p w3 by apply bi_of; assumption)
          go_wp2_with fail
          go_ret2
          exact ⟨by rw [HI.out, HB2.out]; rfl, HM3.out.low⟩
        · have HB2 := hid (show bo = false from by rw [HBO.out]; exact decide_eq_false (fun h => he (Option.some.inj (hmem.1 h))))
          have HO2 := hid (fun w => show Calls Tryz.prog 34 #[.agg #[.int .i64 q.1, .int .i64 q.2.1, .int .i64 q.2.2], .agg #[.int .i64 p.1, .int .i64 p.2.1, .int .i64 p.2.2]] w fun e w' => e = .returned (.int .i64 (1)) ∧ Below w.heap.size w w' by have := HO.out q w; rwa [show ordP q p = 1 from by unfold ordP; rw [if_neg ha, if_neg he]] at this)
          clear ha he hmem
          go_wp2_with fail
          go_region_held (fun y => (y.cell? ⟨cb, co + i * 3, none⟩ = some (.int .i64 q.1) ∧ y.cell? ⟨cb, co + i * 3 + 1, none⟩ = some (.int .i64 q.2.1) ∧ y.cell? ⟨cb, co + i * 3 + 2, none⟩ = some (.int .i64 q.2.2)) ∧ (y.cell? ⟨w.heap.size, 0, none⟩ = some (.int .i64 p.1) ∧ y.cell? ⟨w.heap.size, 1, none⟩ = some (.int .i64 p.2.1) ∧ y.cell? ⟨w.heap.size, 2, none⟩ = some (.int .i64 p.2.2)) ∧ BiM w p y) (first | exact HC.out | (refine BiC.keep ?_ ‹Below _ _ _›; assumption)) (first | (go_at_call 34; refine (HO2.out _).mono ?_; rintro e w3 ⟨rfl, b3⟩))
          have HM3 := hid (show BiM w p w3 by apply bi_of; assumption)
          go_wp2_with fail
          go_ret2
          exact ⟨by rw [HI.out, HB2.out]; rfl, HM3.out.low⟩
      · have HB2 := hid (show bo = false from by rw [HBO.out]; exact decide_eq_false (fun h => by rw [hmem, List.getElem?_eq_none (by rw [← HN.out]; omega)] at h; cases h))
        have hd : decide ((i : Int) < (n : Int)) = false := decide_eq_false (by omega)
        clear hmem
        go_wp2_with fail
        go_quiet (fail)
        go_wp2_with fail
        go_ret2
        exact ⟨by rw [HI.out, HB2.out]; rfl, below_drewN HM.out.low _⟩
end Go.Proofs.YthkjmplcmfabfaaGreatDoor
