/- Contracts of book.fold, book.twice at the two sheets' names. Condition: utf8's tables lie as they were laid. -/
import Derived.Test.YthkjmplcmfabfaaGreatDoorSpName
import Derived.Test.YthkjmplcmfabfaaGreatDoorSpMapL
import Derived.Deep.RegionHeldLaw
namespace Go.Proofs.YthkjmplcmfabfaaGreatDoor
open Go.RowKit Go.Lib Go.Shelf

/-- utf8's two tables lie as they were laid -/
def Tabs (w : World) : Prop := Lib.Utf8Tabs (laysMap_ren.g 3) (laysMap_ren.g 4) w
theorem Tabs.below {w w' : World} (h : Tabs w) (hb : Below w.heap.size w w') : Tabs w' := Utf8Tabs_below h hb

theorem mapExtra : Builder.Extra Tryz.prog laysMap_ren where
  sizeBuilder := by kernel_rfl
  liesBuilder := by kernel_rfl
  t5 := laysMap.t5
  a5 := laysMap.a5
  z5 := laysMap.z5
  v5 := laysMap.v5
  infoByte := by kernel_rfl
  cellsByte := by kernel_rfl
  sizeByte := by kernel_rfl
  neB5 := by decide

def low (x : Int) : Int := if 65 ≤ x ∧ x ≤ 90 then x + 32 else x
set_option maxHeartbeats 400000 in
theorem foldOne_any (x : Int) (h0 : 0 ≤ x) (h1 : x ≤ 1114111) (w : World) : Calls Tryz.prog 98 #[.int .i32 x] w fun e w' => e = .returned (.int .i32 (low x)) ∧ w' = w := by
  by_cases ha : 65 ≤ x
  · by_cases hb : x ≤ 90
    · have e : x + 32 = low x := by unfold low; rw [if_pos ⟨ha, hb⟩]
      have E := hid e
      clear e
      go_enter Tryz.func98, Tryz.ntmps98
      go_wp2
      go_ret
      exact ⟨ret_int (by rw [← E.out]; omega), rfl⟩
    · have e : x = low x := by unfold low; rw [if_neg (fun h => hb h.2)]
      have E := hid e
      clear e
      go_enter Tryz.func98, Tryz.ntmps98
      go_wp2
      go_ret
      exact ⟨ret_int E.out, rfl⟩
  · have e : x = low x := by unfold low; rw [if_neg (fun h => ha h.1)]
    have E := hid e
    clear e
    go_enter Tryz.func98, Tryz.ntmps98
    go_wp2
    go_ret
    exact ⟨ret_int E.out, rfl⟩

theorem map_low (s : ByteArray) (hs : s.size < 35184372088832) (w : World) (hT : Tabs w) : Calls Tryz.prog 97 #[.func (.func 98) #[] #[], .string s] w fun e w' => e = .returned (.string ⟨(Lib.mapD low s.data.toList).toArray⟩) ∧ Below w.heap.size w w' := by
  refine Any.strings_Map_runes laysMap mapExtra 98 #[] (fun args w => enters_of Tryz.func98 (by kernel_rfl) rfl args w) low s w hs ?_ ?_ hT
  · intro W x hx _
    exact (foldOne_any (x : Int) (by omega) (by omega) W).mono fun e w' ⟨he, hw⟩ => ⟨he, 0, hw⟩
  · intro x hx
    unfold low
    split <;> omega

def lowName (s : ByteArray) : ByteArray := ⟨(Lib.mapD low s.data.toList).toArray⟩
set_option maxHeartbeats 400000 in
theorem fold_any (s : ByteArray) (hs : s.size < 35184372088832) (w : World) (hT : Tabs w) : Calls Tryz.prog 75 #[.string s] w fun e w' => e = .returned (.string (lowName s)) ∧ Below w.heap.size w w' := by
  have H := hid (map_low s hs w hT)
  clear hT
  go_enter Tryz.func75, Tryz.ntmps75
  go_wp2_with fail
  refine H.out.mono ?_
  rintro e w1 ⟨rfl, b1⟩
  go_wp2_with fail
  go_ret
  exact ⟨rfl, b1⟩

theorem low_S : lowName nameS = ⟨#[115]⟩ := by kernel_rfl
theorem low_T : lowName nameT = ⟨#[116]⟩ := by kernel_rfl

set_option maxHeartbeats 400000 in
theorem check1_any (s : ByteArray) (v : Value) (hv : ∃ a n c, v = .slice a n c) (w : World) : Calls Tryz.prog 52 #[.agg #[.string s, v]] w fun e w' => e = .returned (.string s) ∧ Below w.heap.size w w' := by
  obtain ⟨a, n, c, rfl⟩ := hv
  go_enter Tryz.func52, Tryz.ntmps52
  go_wp2_with fail
  go_ret
  exact ⟨rfl, (Below.refl _ w).alloc (Nat.le_refl _) _⟩

theorem tabs_of {A B C D E : Prop} {y : World} (h : A ∧ B ∧ C ∧ D ∧ Tabs y ∧ E) : Tabs y := h.2.2.2.2.1
theorem below_of {A B C D E : Prop} {n : Nat} {w y : World} (h : A ∧ B ∧ C ∧ D ∧ E ∧ Below n w y) : Below n w y := h.2.2.2.2.2
theorem low_ne : ((lowName nameS).toList == (lowName nameT).toList) = false := by rw [low_S, low_T]; kernel_rfl
theorem str_eq (s t : ByteArray) : (s.toList == t.toList) = decide (s = t) := by
  rw [Bool.eq_iff_iff, beq_iff_eq, decide_eq_true_iff]
  constructor
  · intro h
    apply ByteArray.ext
    apply Array.ext'
    rw [← Lib.toList_data, ← Lib.toList_data]
    exact h
  · rintro rfl
    rfl
set_option maxRecDepth 20000 in
set_option maxHeartbeats 1000000 in
theorem twice1_other (w : World) (hT : Tabs w) (bf bs : Nat) (v : Value) (hv : ∃ a n c, v = .slice a n c) (h1 : w.cell? ⟨bf, 0, none⟩ = some (.func (.func 52) #[] #[])) (h2 : w.cell? ⟨bs, 0, none⟩ = some (.string nameT)) :
    Calls Tryz.prog 74 #[.agg #[.string nameS, v], .pointer (some ⟨bf, 0, none⟩), .pointer (some ⟨bs, 0, none⟩)] w fun e w' => e = .returned (.bool false) ∧ Below w.heap.size w w' := by
  have HC := hid (fun w => check1_any nameS v hv w)
  have HF := hid (fun s w hs hT => fold_any s hs w hT)
  obtain ⟨a, n, c, rfl⟩ := hv
  have hk : ∀ y z, (y.cell? ⟨bf, 0, none⟩ = some (.func (.func 52) #[] #[]) ∧ y.cell? ⟨bs, 0, none⟩ = some (.string nameT) ∧ y.cell? ⟨w.heap.size, 0, none⟩ = some (.string nameS) ∧ y.cell? ⟨w.heap.size, 1, none⟩ = some (.slice a n c) ∧ Tabs y ∧ Below w.heap.size w y) → Below y.heap.size y z → (z.cell? ⟨bf, 0, none⟩ = some (.func (.func 52) #[] #[]) ∧ z.cell? ⟨bs, 0, none⟩ = some (.string nameT) ∧ z.cell? ⟨w.heap.size, 0, none⟩ = some (.string nameS) ∧ z.cell? ⟨w.heap.size, 1, none⟩ = some (.slice a n c) ∧ Tabs z ∧ Below w.heap.size w z) := fun y z h hb =>
    ⟨(hb.cell (World.block_lt_of_cell? _ _ h.1)).trans h.1, (hb.cell (World.block_lt_of_cell? _ _ h.2.1)).trans h.2.1, (hb.cell (World.block_lt_of_cell? _ _ h.2.2.1)).trans h.2.2.1, (hb.cell (World.block_lt_of_cell? _ _ h.2.2.2.1)).trans h.2.2.2.1, h.2.2.2.2.1.below hb, h.2.2.2.2.2.trans (hb.mono h.2.2.2.2.2.size)⟩
  have k1 := World.block_lt_of_cell? _ _ h1
  have k2 := World.block_lt_of_cell? _ _ h2
  have hs : ∀ o : Obj, o = .cells #[.string nameS, .slice a n c] 55 → (fun y => y.cell? ⟨bf, 0, none⟩ = some (.func (.func 52) #[] #[]) ∧ y.cell? ⟨bs, 0, none⟩ = some (.string nameT) ∧ y.cell? ⟨w.heap.size, 0, none⟩ = some (.string nameS) ∧ y.cell? ⟨w.heap.size, 1, none⟩ = some (.slice a n c) ∧ Tabs y ∧ Below w.heap.size w y) (w.alloc o) := fun o ho => by
    have b0 := (Below.refl w.heap.size w).alloc (Nat.le_refl _) o
    subst ho
    exact ⟨(b0.cell k1).trans h1, (b0.cell k2).trans h2, cell_of (heap_alloc_new w _) rfl, cell_of (heap_alloc_new w _) rfl, hT.below b0, b0⟩
  have HK := hid hk
  have HS := hid (hs _ rfl)
  clear hT h1 h2 hk hs k1 k2
  go_enter Tryz.func74, Tryz.ntmps74
  go_wp2_with fail
  have HS0 := HS.out
  generalize World.alloc _ _ = w2 at HS0 ⊢
  have HS2 := hid (HK.out _ _ HS0 (Below.refl _ w2).drew)
  clear HS HS0
  go_region_held (fun y => y.cell? ⟨bf, 0, none⟩ = some (.func (.func 52) #[] #[]) ∧ y.cell? ⟨bs, 0, none⟩ = some (.string nameT) ∧ y.cell? ⟨w.heap.size, 0, none⟩ = some (.string nameS) ∧ y.cell? ⟨w.heap.size, 1, none⟩ = some (.slice a n c) ∧ Tabs y ∧ Below w.heap.size w y) (first | exact HS2.out | (refine HK.out _ _ ?_ ‹Below _ _ _›; assumption)) (first | (go_at_call 52; refine (HC.out _).mono ?_; rintro e w3 ⟨rfl, b3⟩) | (go_at_call 75; refine (HF.out _ _ (by decide) (by apply tabs_of; assumption)).mono ?_; rintro e w4 ⟨rfl, b4⟩))
  have hB : Below w.heap.size w w4 := by apply below_of; assumption
  rw [low_ne]
  go_wp2
  go_ret
  exact ⟨rfl, hB⟩

set_option maxHeartbeats 400000 in
theorem indexSh_none (ao : Option Addr) (c : Nat) (fv : Value) (w : World) : Calls Tryz.prog 96 #[.slice ao 0 c, fv] w fun e w' => e = .returned (.int .i64 (-1)) ∧ w = w' := by
  go_enter Tryz.func96, Tryz.ntmps96
  go_wp2_with fail
  refine wp_loop_rounds 1 ?_
  rw [rounds_succ]
  go_wp2_with fail
  go_ret
  exact ⟨rfl, rfl⟩

set_option maxHeartbeats 400000 in
theorem indexSh_one (w : World) (hT : Tabs w) (b off c bf bs : Nat) (v : Value) (hv : ∃ a n c, v = .slice a n c) (h1 : w.cell? ⟨bf, 0, none⟩ = some (.func (.func 52) #[] #[])) (h2 : w.cell? ⟨bs, 0, none⟩ = some (.string nameT))
    (h3 : w.cell? ⟨b, off, none⟩ = some (.string nameS)) (h4 : w.cell? ⟨b, off + 1, none⟩ = some v) :
    Calls Tryz.prog 96 #[.slice (some ⟨b, off, none⟩) 1 c, .func (.func 74) #[] #[.pointer (some ⟨bf, 0, none⟩), .pointer (some ⟨bs, 0, none⟩)]] w fun e w' => e = .returned (.int .i64 (-1)) ∧ Below w.heap.size w w' := by
  have H := hid (twice1_other w hT bf bs v hv h1 h2)
  obtain ⟨va, vn, vc, rfl⟩ := hv
  clear hT h1 h2
  go_enter Tryz.func96, Tryz.ntmps96
  go_wp2_with fail
  refine wp_loop_rounds 2 ?_
  rw [rounds_succ]
  go_wp2_with fail
  refine H.out.mono ?_
  rintro e w1 ⟨rfl, b1⟩
  go_wp2_with fail
  rw [rounds_succ]
  go_wp2_with fail
  go_ret
  exact ⟨rfl, b1⟩

set_option maxHeartbeats 400000 in
theorem twice_none (ao : Option Addr) (c : Nat) (s : ByteArray) (w : World) : Calls Tryz.prog 51 #[.slice ao 0 c, .string s, .func (.func 52) #[] #[]] w fun e w' => e = .returned (.bool false) ∧ Below w.heap.size w w' := by
  have H := hid (fun fv w => indexSh_none ao c fv w)
  go_enter Tryz.func51, Tryz.ntmps51
  go_wp2_with (first | (go_at_call 96; refine (H.out _ _).mono ?_; rintro e w1 ⟨rfl, rfl⟩) | go_in)
  go_ret
  exact ⟨rfl, ((Below.refl _ w).alloc (Nat.le_refl _) _).alloc (by simp) _⟩

set_option maxHeartbeats 400000 in
theorem twice_one (w : World) (hT : Tabs w) (b off c : Nat) (v : Value) (hv : ∃ a n c, v = .slice a n c) (h3 : w.cell? ⟨b, off, none⟩ = some (.string nameS)) (h4 : w.cell? ⟨b, off + 1, none⟩ = some v) :
    Calls Tryz.prog 51 #[.slice (some ⟨b, off, none⟩) 1 c, .string nameT, .func (.func 52) #[] #[]] w fun e w' => e = .returned (.bool false) ∧ Below w.heap.size w w' := by
  have b0 : Below w.heap.size w ((w.alloc (.cells #[.string nameT] 9)).alloc (.cells #[.func (.func 52) #[] #[]] 121)) := ((Below.refl _ w).alloc (Nat.le_refl _) _).alloc (by simp) _
  have H := hid (indexSh_one _ (hT.below b0) b off c (w.heap.size + 1) w.heap.size v hv (cell_of (heap_alloc2_new w _ _) rfl) (cell_of (heap_alloc_keep (heap_alloc_new w _) _) rfl) ((b0.cell (World.block_lt_of_cell? _ _ h3)).trans h3) ((b0.cell (World.block_lt_of_cell? _ _ h4)).trans h4))
  have B0 := hid b0
  clear hT h3 h4 b0
  go_enter Tryz.func51, Tryz.ntmps51
  go_wp2_with (first | (go_at_call 96; refine H.out.mono ?_; rintro e w1 ⟨rfl, b1⟩) | go_in)
  go_ret
  exact ⟨rfl, B0.out.trans (b1.mono (by simp; omega))⟩
end Go.Proofs.YthkjmplcmfabfaaGreatDoor
