/- Contract of spill.Cover. No condition. -/
import Derived.Test.YthkjmplcmfabfaaGreatDoorSpMem
import Derived.Deep.RegionHeldLaw
namespace Go.Proofs.YthkjmplcmfabfaaGreatDoor
open Go.RowKit Go.Lib

def zeroSp : PSp := ((0, 0, 0), 0, 0)
/-- the memory of Cover's closure: a place, a spill -/
theorem cv_keep {w y z : World} {a b c d e f g h : Addr} {u1 u2 u3 u4 u5 u6 u7 u8 : Value} (hS : (y.cell? a = some u1 ∧ y.cell? b = some u2 ∧ y.cell? c = some u3) ∧ (y.cell? d = some u4 ∧ y.cell? e = some u5 ∧ y.cell? f = some u6 ∧ y.cell? g = some u7 ∧ y.cell? h = some u8) ∧ Below w.heap.size w y) (hb : Below y.heap.size y z) :
    (z.cell? a = some u1 ∧ z.cell? b = some u2 ∧ z.cell? c = some u3) ∧ (z.cell? d = some u4 ∧ z.cell? e = some u5 ∧ z.cell? f = some u6 ∧ z.cell? g = some u7 ∧ z.cell? h = some u8) ∧ Below w.heap.size w z := by
  have k : ∀ {p : Addr} {u : Value}, y.cell? p = some u → z.cell? p = some u := fun {p u} hc => (hb.cell (World.block_lt_of_cell? _ _ hc)).trans hc
  obtain ⟨⟨h1, h2, h3⟩, ⟨h4, h5, h6, h7, h8⟩, h9⟩ := hS
  exact ⟨⟨k h1, k h2, k h3⟩, ⟨k h4, k h5, k h6, k h7, k h8⟩, h9.trans (hb.mono h9.size)⟩
theorem cv_of {A B C : Prop} (h : A ∧ B ∧ C) : C := h.2.2

set_option maxRecDepth 20000 in
set_option maxHeartbeats 1000000 in
theorem cover1_any (x : PSp) (p : PAt) (w : World) (b : Nat) (h0 : w.cell? ⟨b, 0, none⟩ = some (.int .i64 p.1)) (h1 : w.cell? ⟨b, 1, none⟩ = some (.int .i64 p.2.1)) (h2 : w.cell? ⟨b, 2, none⟩ = some (.int .i64 p.2.2)) :
    Calls Tryz.prog 30 #[spV x, .pointer (some ⟨b, 0, none⟩)] w fun e w' => e = .returned (.bool (decide (hasP x p))) ∧ Below w.heap.size w w' := by
  obtain ⟨bo, hbo⟩ : ∃ bo, bo = decide (hasP x p) := ⟨_, rfl⟩
  have ha := fun w => area_any x w
  have hh := fun w => has_any x p w
  rw [← hbo] at hh ⊢
  unfold spV at ha hh
  unfold atV at hh
  have HA := hid ha
  have HH := hid hh
  have bA := (Below.refl w.heap.size w).alloc (Nat.le_refl _) (.cells #[.int .i64 x.1.1, .int .i64 x.1.2.1, .int .i64 x.1.2.2, .int .i64 x.2.1, .int .i64 x.2.2] 40)
  have k : ∀ {p : Addr} {u : Value}, w.cell? p = some u → (w.alloc (.cells #[.int .i64 x.1.1, .int .i64 x.1.2.1, .int .i64 x.1.2.2, .int .i64 x.2.1, .int .i64 x.2.2] 40)).cell? p = some u := fun {p u} hc => (bA.cell (World.block_lt_of_cell? _ _ hc)).trans hc
  have g := heap_alloc_new w (.cells #[.int .i64 x.1.1, .int .i64 x.1.2.1, .int .i64 x.1.2.2, .int .i64 x.2.1, .int .i64 x.2.2] 40)
  have HS := hid (cv_keep (w := w) ⟨⟨k h0, k h1, k h2⟩, ⟨cell_of (i := 0) g rfl, cell_of (i := 1) g rfl, cell_of (i := 2) g rfl, cell_of (i := 3) g rfl, cell_of (i := 4) g rfl⟩, bA⟩ (Below.refl _ _).drew)
  clear h0 h1 h2 bA g hbo ha hh k
  unfold spV
  go_enter Tryz.func30, Tryz.ntmps30
  go_wp2_with fail
  generalize World.alloc _ _ = w2 at HS ⊢
  go_region_held (fun y => (y.cell? ⟨b, 0, none⟩ = some (.int .i64 p.1) ∧ y.cell? ⟨b, 1, none⟩ = some (.int .i64 p.2.1) ∧ y.cell? ⟨b, 2, none⟩ = some (.int .i64 p.2.2)) ∧ (y.cell? ⟨w.heap.size, 0, none⟩ = some (.int .i64 x.1.1) ∧ y.cell? ⟨w.heap.size, 1, none⟩ = some (.int .i64 x.1.2.1) ∧ y.cell? ⟨w.heap.size, 2, none⟩ = some (.int .i64 x.1.2.2) ∧ y.cell? ⟨w.heap.size, 3, none⟩ = some (.int .i64 x.2.1) ∧ y.cell? ⟨w.heap.size, 4, none⟩ = some (.int .i64 x.2.2)) ∧ Below w.heap.size w y) (first | exact HS.out | (refine cv_keep ?_ ‹Below _ _ _›; assumption)) (first | (go_at_call 18; refine (HA.out _).mono ?_; rintro e w3 ⟨rfl, b3⟩) | (go_at_call 10; refine (HH.out _).mono ?_; rintro e w4 ⟨rfl, b4⟩))
  have HB4 := hid (show Below w.heap.size w w4 by apply cv_of; assumption)
  go_wp2_with fail
  go_ret
  exact ⟨rfl, HB4.out⟩

/-- where the first spill is that has a place -/
def FirstIs (l : List PSp) (p : PAt) (i : Int) : Prop := (i = -1 ∧ ∀ x, x ∈ l → ¬ hasP x p) ∨ ∃ (j : Nat) (x : PSp), i = j ∧ l[j]? = some x ∧ hasP x p ∧ ∀ y, y ∈ l.take j → ¬ hasP y p
theorem FirstIs.none {l : List PSp} {p : PAt} (h : FirstIs l p (-1)) : coverP l p = none := by
  rcases h with ⟨-, h⟩ | ⟨j, x, h, -⟩
  · exact coverP_none h
  · omega
theorem FirstIs.some {l : List PSp} {p : PAt} {j : Nat} (h : FirstIs l p (j : Int)) : ∃ x, l[j]? = some x ∧ coverP l p = some x := by
  rcases h with ⟨h, -⟩ | ⟨k, x, h, hx, hh, hn⟩
  · omega
  · obtain rfl : j = k := by omega
    refine ⟨x, hx, ?_⟩
    unfold coverP
    rw [List.find?_eq_some_iff_append]
    refine ⟨by simpa using hh, l.take j, l.drop (j + 1), split_at hx, fun a ha => by simpa using hn a ha⟩

def IxRel (w : World) (l : List PSp) (p : PAt) (i : Value) (wr : World) : Prop := ∃ j : Nat, i = .int .i64 (j : Int) ∧ j ≤ l.length ∧ (∀ y, y ∈ l.take j → ¬ hasP y p) ∧ Below w.heap.size w wr
set_option maxHeartbeats 1000000 in
theorem indexSp_any (w : World) (lv : Value) (l : List PSp) (hl : SpsIn w lv l) (p : PAt) (b : Nat) (h0 : w.cell? ⟨b, 0, none⟩ = some (.int .i64 p.1)) (h1 : w.cell? ⟨b, 1, none⟩ = some (.int .i64 p.2.1)) (h2 : w.cell? ⟨b, 2, none⟩ = some (.int .i64 p.2.2)) :
    Calls Tryz.prog 29 #[lv, .func (.func 30) #[] #[.pointer (some ⟨b, 0, none⟩)]] w fun e w' => (∃ i : Int, e = .returned (.int .i64 i) ∧ FirstIs l p i) ∧ Below w.heap.size w w' := by
  obtain ⟨la, lc, lb, lo, rfl, hll, hlv⟩ := hl.view
  have HLV := hid hlv
  obtain ⟨n, hn⟩ : ∃ n, n = l.length := ⟨_, rfl⟩
  rw [← hn] at hll ⊢
  have HN := hid hn
  have HC1 := hid (fun (x : PSp) (y : World) (hy : Below w.heap.size w y) => cover1_any x p y b ((hy.cell (World.block_lt_of_cell? _ _ h0)).trans h0) ((hy.cell (World.block_lt_of_cell? _ _ h1)).trans h1) ((hy.cell (World.block_lt_of_cell? _ _ h2)).trans h2))
  unfold spV at HC1
  clear hlv hn h0 h1 h2 hl
  go_enter Tryz.func29, Tryz.ntmps29
  go_wp2_with fail
  go_loopw [8] (fun i wr => IxRel w l p i wr) (fun i _ => n - (RowKit.intOf i).toNat)
  case atStart => exact ⟨0, rfl, by omega, by simp, Below.refl _ _⟩
  case round =>
    obtain ⟨j, rfl, hj, hno, hb⟩ := hrel
    rw [← HN.out] at hj
    have HNO := hid hno
    have HB := hid hb
    clear hno hb
    by_cases hjn : j < n
    · obtain ⟨x, hx⟩ : ∃ x, l[j]? = some x := ⟨_, List.getElem?_eq_getElem (by rw [← HN.out]; omega)⟩
      obtain ⟨rfl, k0, k1, k2, k3, k4⟩ := HLV.out j x hx
      have kk : ∀ {p : Addr} {u : Value}, w.cell? p = some u → wr.cell? p = some u := fun {p u} hc => (HB.out.cell (World.block_lt_of_cell? _ _ hc)).trans hc
      have k0' := kk k0
      have k1' := kk k1
      have k2' := kk k2
      have k3' := kk k3
      have k4' := kk k4
      have HX := hid hx
      clear kk k0 k1 k2 k3 k4 hx
      go_wp2_with fail
      refine (HC1.out x _ HB.out).mono ?_
      rintro e w3 ⟨rfl, b3⟩
      have HB3 := hid (HB.out.trans (b3.mono HB.out.size))
      clear b3 k0' k1' k2' k3' k4'
      by_cases hh : hasP x p
      · have HF := hid (show FirstIs l p (j : Int) from .inr ⟨j, x, rfl, HX.out, hh, HNO.out⟩)
        rw [decide_eq_true hh]
        clear hh
        go_wp2_with fail
        go_ret
        exact ⟨⟨_, rfl, HF.out⟩, HB3.out⟩
      · have HT := hid (show ∀ y, y ∈ l.take (j + 1) → ¬ hasP y p from fun y hy => by
          rw [take_next HX.out] at hy
          rcases List.mem_append.1 hy with hy | hy
          · exact HNO.out y hy
          · simp only [List.mem_singleton] at hy
            exact hy ▸ hh)
        rw [decide_eq_false hh]
        clear hh
        go_wp2_with fail
        go_roundw
        case rel => exact ⟨j + 1, by simp, by rw [← HN.out]; omega, HT.out, HB3.out⟩
        case measure => simp [RowKit.intOf]; omega
    · obtain rfl : j = n := by omega
      have HF := hid (show FirstIs l p (-1) from .inl ⟨rfl, fun x hx => HNO.out x (by rw [HN.out, List.take_length]; exact hx)⟩)
      go_wp2_with fail
      go_ret
      exact ⟨⟨_, rfl, HF.out⟩, HB.out⟩

set_option maxHeartbeats 1000000 in
theorem cover_any (w : World) (lv : Value) (l : List PSp) (hl : SpsIn w lv l) (p : PAt) :
    Calls Tryz.prog 14 #[lv, atV p] w fun e w' => e = .returned (.tuple #[spV ((coverP l p).getD zeroSp), .bool (coverP l p).isSome]) ∧ Below w.heap.size w w' := by
  have bA := ((Below.refl w.heap.size w).alloc (Nat.le_refl _) (.cells #[.int .i64 p.1, .int .i64 p.2.1, .int .i64 p.2.2] 38)).alloc (by simp) (.cells #[.int .i64 0, .int .i64 0, .int .i64 0, .int .i64 0, .int .i64 0] 40)
  have gA := heap_alloc_keep (heap_alloc_new w (.cells #[.int .i64 p.1, .int .i64 p.2.1, .int .i64 p.2.2] 38)) (.cells #[.int .i64 0, .int .i64 0, .int .i64 0, .int .i64 0, .int .i64 0] 40)
  have gS := heap_alloc2_new w (.cells #[.int .i64 p.1, .int .i64 p.2.1, .int .i64 p.2.2] 38) (.cells #[.int .i64 0, .int .i64 0, .int .i64 0, .int .i64 0, .int .i64 0] 40)
  have HIX := hid (indexSp_any _ lv l (hl.below bA) p w.heap.size (cell_of gA rfl) (cell_of gA rfl) (cell_of gA rfl))
  have HG := hid (show _ ∧ _ from ⟨gS, bA⟩)
  obtain ⟨la, lc, lb, lo, rfl, hll, hlv⟩ := hl.view
  have HLV := hid hlv
  obtain ⟨n, hn⟩ : ∃ n, n = l.length := ⟨_, rfl⟩
  rw [← hn] at hll HIX ⊢
  have HN := hid hn
  obtain ⟨cv, hcv⟩ : ∃ cv, cv = coverP l p := ⟨_, rfl⟩
  rw [← hcv]
  have HCV := hid hcv
  clear hl hlv hn bA gA gS hcv
  unfold atV
  go_enter Tryz.func14, Tryz.ntmps14
  go_wp2_with fail
  refine HIX.out.mono ?_
  rintro e w3 ⟨⟨i, rfl, hi⟩, b3⟩
  have hB3 := HG.out.2.trans (b3.mono HG.out.2.size)
  have hS3 := (b3.block (w.heap.size + 1) (heap_lt HG.out.1)).trans HG.out.1
  have HB3 := hid hB3
  have HS3 := hid hS3
  have f0 := free_of (i := 0) hS3
  have f1 := free_of (i := 1) hS3
  have f2 := free_of (i := 2) hS3
  have f3 := free_of (i := 3) hS3
  have f4 := free_of (i := 4) hS3
  have d0 := cell_of (i := 0) hS3 rfl
  have d1 := cell_of (i := 1) hS3 rfl
  have d2 := cell_of (i := 2) hS3 rfl
  have d3 := cell_of (i := 3) hS3 rfl
  have d4 := cell_of (i := 4) hS3 rfl
  clear b3 hB3 hS3 HIX HG
  by_cases h0 : i = -1
  · subst h0
    have HE := hid (show cv = none by rw [HCV.out]; exact hi.none)
    clear hi
    go_wp2_with fail
    refine bodyPost_ret (v := .tuple #[.agg #[.int .i64 0, .int .i64 0, .int .i64 0, .int .i64 0, .int .i64 0], .bool false]) (by simp [results, Tryz.results14, go_sem, *]) rfl ?_
    exact ⟨by rw [HE.out]; rfl, ((((HB3.out.setCell (by simp) _).setCell (by simp) _).setCell (by simp) _).setCell (by simp) _).setCell (by simp) _⟩
  · have hex : ∃ j : Nat, i = (j : Int) := by
      rcases hi with ⟨h, -⟩ | ⟨j, x, h, -⟩
      · exact absurd h h0
      · exact ⟨j, h⟩
    obtain ⟨j, rfl⟩ := hex
    obtain ⟨x, hx, hc⟩ := hi.some
    obtain ⟨rfl, k0, k1, k2, k3, k4⟩ := HLV.out j x hx
    have kk : ∀ {p : Addr} {u : Value}, w.cell? p = some u → w3.cell? p = some u := fun {p u} hc => (HB3.out.cell (World.block_lt_of_cell? _ _ hc)).trans hc
    have k0' := kk k0
    have k1' := kk k1
    have k2' := kk k2
    have k3' := kk k3
    have k4' := kk k4
    have hjn : j < n := by rw [HN.out]; exact (List.getElem?_eq_some_iff.1 hx).1
    have HE := hid (show cv = some x by rw [HCV.out]; exact hc)
    clear hi h0 hx hc kk k0 k1 k2 k3 k4
    go_wp2_with fail
    refine bodyPost_ret (v := .tuple #[.agg #[.int .i64 x.1.1, .int .i64 x.1.2.1, .int .i64 x.1.2.2, .int .i64 x.2.1, .int .i64 x.2.2], .bool true]) (by simp [results, Tryz.results14, go_sem, *]) rfl ?_
    exact ⟨by rw [HE.out]; rfl, ((((HB3.out.setCell (by simp) _).setCell (by simp) _).setCell (by simp) _).setCell (by simp) _).setCell (by simp) _⟩
end Go.Proofs.YthkjmplcmfabfaaGreatDoor
