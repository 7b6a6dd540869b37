/- Contract of book.Cells at a workbook of two sheets. Condition: utf8's tables lie as they were laid. -/
import Derived.Test.YthkjmplcmfabfaaGreatDoorSpCheck
import Derived.Test.YthkjmplcmfabfaaGreatDoorSpOwn
namespace Go.Proofs.YthkjmplcmfabfaaGreatDoor
open Go.RowKit Go.Lib

/-- the places of the first sheets -/
def uptoSh (A : List PAt) (j : Nat) : List PAt := ((List.range j).map fun (i : Nat) => onSheet A (i : Int)).flatten
theorem uptoSh_succ (A : List PAt) (j : Nat) : uptoSh A (j + 1) = uptoSh A j ++ onSheet A (j : Int) := by
  unfold uptoSh
  rw [List.range_succ, List.map_append, List.flatten_append]
  simp
theorem uptoSh_two {A : List PAt} (h : Rising A) (h2 : ∀ p, p ∈ A → InTwo p) : uptoSh A 2 = A := by
  conv => rhs; rw [← two_sheets h h2]
  simp [uptoSh, List.range_succ]

/-- what stands while Cells goes -/
structure Cx (w : World) (cs : Array Value) (y : World) : Prop where
  book : y.heap[w.heap.size]? = some (.cells cs 30 (0, 0))
  low : Below w.heap.size w y
theorem Cx.keep {w y z : World} {cs : Array Value} (h : Cx w cs y) (hb : Below y.heap.size y z) : Cx w cs z :=
  ⟨(hb.block _ (heap_lt h.book)).trans h.book, h.low.trans (hb.mono h.low.size)⟩
theorem Cx.chg {w y z : World} {cs : Array Value} {F : List Nat} (h : Cx w cs y) (hc : Chg F y z) (hF : ∀ g ∈ F, w.heap.size + 1 ≤ g) : Cx w cs z :=
  ⟨hc.heap h.book (fun hf => by have := hF _ hf; omega), h.low.trans (hc.below (B := w.heap.size) (fun g hg => by have := hF g hg; omega) h.low.size)⟩
theorem Cx.lt {w y : World} {cs : Array Value} (h : Cx w cs y) : w.heap.size < y.heap.size := heap_lt h.book
theorem Cx.c0 {w y : World} {b off bc : Nat} (h : Cx w (bookC b off bc) y) : y.cell? ⟨w.heap.size, 0, none⟩ = some (.slice (some ⟨b, off, none⟩) 2 bc) := cell_of h.book rfl
theorem Cx.c1 {w y : World} {b off bc : Nat} (h : Cx w (bookC b off bc) y) : y.cell? ⟨w.heap.size, 1, none⟩ = some (.slice none 0 0) := cell_of h.book rfl
theorem Cx.c2 {w y : World} {b off bc : Nat} (h : Cx w (bookC b off bc) y) : y.cell? ⟨w.heap.size, 2, none⟩ = some (.slice none 0 0) := cell_of h.book rfl
theorem Cx.c3 {w y : World} {b off bc : Nat} (h : Cx w (bookC b off bc) y) : y.cell? ⟨w.heap.size, 3, none⟩ = some (.slice none 0 0) := cell_of h.book rfl

def CsRel (w : World) (cs : Array Value) (A : List PAt) (o i : Value) (wr : World) : Prop := ∃ j : Nat, i = .int .i64 (j : Int) ∧ j ≤ 2 ∧ Cx w cs wr ∧ AtsOwn wr (w.heap.size + 1) o (uptoSh A j)
def CiRel (w : World) (cs : Array Value) (A : List PAt) (j n : Nat) (o i : Value) (wr : World) : Prop := ∃ k : Nat, i = .int .i64 (k : Int) ∧ k ≤ n ∧ Cx w cs wr ∧ AtsOwn wr (w.heap.size + 1) o (uptoSh A j ++ (onSheet A (j : Int)).take k)
theorem uptoSh_le (A : List PAt) {j : Nat} (h : j ≤ 2) : (uptoSh A j).length ≤ 2 * A.length := by
  have h0 := onSheet_le A 0
  have h1 := onSheet_le A 1
  have : j = 0 ∨ j = 1 ∨ j = 2 := by omega
  rcases this with rfl | rfl | rfl
  · simp [uptoSh]
  · simp [uptoSh, List.range_succ]; omega
  · simp [uptoSh, List.range_succ]; omega

set_option maxRecDepth 20000 in
set_option maxHeartbeats 2000000 in
theorem cells_any (w : World) (hT : Tabs w) (v : Value) (A : List PAt) (tx : PAt → ByteArray) (h : BookAt w v A tx) : Calls Tryz.prog 16 #[v] w fun e w' => (∃ ov, e = .returned (.tuple #[ov, .int .i64 0]) ∧ AtsIn w' ov A) ∧ Below w.heap.size w w' := by
  have HB := hid h
  have HCK := hid (fun y (hy : Tabs y) (hb : BookAt y v A tx) => check_any y hy v A tx hb)
  obtain ⟨⟨b, off, bc, v0, v1, hbc, rfl, -⟩, -⟩ := h
  have HX0 := hid (show Cx w (bookC b off bc) (w.alloc (.cells (bookC b off bc) 30)) from ⟨heap_alloc_new w _, (Below.refl _ w).alloc (Nat.le_refl _) _⟩)
  have HT := hid hT
  clear hT
  go_enter Tryz.func16, Tryz.ntmps16
  go_wp2_with fail
  refine (HCK.out _ (HT.out.below HX0.out.low) (HB.out.below HX0.out.low)).mono ?_
  rintro e w1 ⟨rfl, b1⟩
  have HX1 := hid (HX0.out.keep b1)
  clear b1 HX0 HCK HT
  have q0 := HX1.out.c0
  have hlt := HX1.out.lt
  go_wp2_with fail
  have X2 : Cx w (bookC b off bc) (w1.alloc (.cells #[.int .i64 0, .int .i64 0, .int .i64 0] 38)) := HX1.out.keep ((Below.refl _ w1).alloc (Nat.le_refl _) _)
  generalize World.alloc _ _ = w2 at X2 ⊢
  have HX2 := hid X2
  clear X2 q0 hlt HX1
  rename_i K hK
  have HC := hid hK
  clear hK
  go_loopw [6, 22] (fun o i wr => CsRel w (bookC b off bc) A o i wr) (fun _ i _ => 2 - (RowKit.intOf i).toNat)
  case atStart => exact ⟨0, rfl, by omega, HX2.out, AtsOwn.nil _ _⟩
  case round =>
    obtain ⟨j, rfl, hj, X3, O3⟩ := hrel
    obtain ⟨oa, om, oc, rfl, hom⟩ := O3.view
    have HOM := hid hom
    clear hom
    have HX3 := hid X3
    have HO3 := hid O3
    have hlt := X3.lt
    by_cases hg : j < 2
    · obtain ⟨nm, sv, s0, s1, hc, hcw⟩ := HB.out.sheet X3.low hg
      obtain ⟨ao, cc, cb, co, rfl, hl, hcl⟩ := hcw.view
      obtain ⟨n, hn⟩ : ∃ n, n = (onSheet A (j : Int)).length := ⟨_, rfl⟩
      have hn12 : n ≤ 13 := by rw [hn]; exact Nat.le_trans (onSheet_le _ _) HB.out.few
      rw [← hn] at s1 hl
      have HN := hid hn
      have HCL := hid hcl
      have hgt : ((j : Int) < 2) = True := by rw [eq_iff_iff, iff_true]; omega
      clear X3 O3 hc hcw hn hcl
      go_wp2_with fail
      have m1 := cell_of (i := 1) (heap_alloc_new wr (.cells #[.string nm, .slice ao n cc] 55)) rfl
      have bA : Below wr.heap.size wr (wr.alloc (.cells #[.string nm, .slice ao n cc] 55)) := (Below.refl _ wr).alloc (Nat.le_refl _) _
      have X4 := HX3.out.keep bA
      have O4 := HO3.out.below bA
      generalize World.alloc _ _ = w3 at m1 bA X4 O4 ⊢
      have HR := hid (show CiRel w (bookC b off bc) A j n (.slice oa om oc) (.int .i64 0) w3 from ⟨0, rfl, by omega, X4, by simpa using O4⟩)
      have HM := hid m1
      have HX4 := hid X4
      clear X4 O4 HX3 HO3 s0 s1 m1 bA hlt
      rename_i K' hK'
      have HC' := hid hK'
      clear hK'
      go_loopw [6, 30] (fun o i wr => CiRel w (bookC b off bc) A j n o i wr) (fun _ i _ => n - (RowKit.intOf i).toNat)
      case atStart => exact HR.out
      case round =>
        obtain ⟨k, rfl, hk, X5, O5⟩ := hrel
        obtain ⟨pa, pm, pc, rfl, hpm⟩ := O5.view
        have HPM := hid hpm
        clear hpm
        have HX5 := hid X5
        have HO5 := hid O5
        by_cases hkn : k < n
        · obtain ⟨p, hp⟩ : ∃ p, (onSheet A (j : Int))[k]? = some p := ⟨_, List.getElem?_eq_getElem (by rw [← HN.out]; exact hkn)⟩
          obtain ⟨rfl, p0, p1, p2⟩ := HCL.out k p hp
          have kk : ∀ {q : Addr} {u : Value}, w.cell? q = some u → wr.cell? q = some u := fun {q u} hc => (X5.low.cell (World.block_lt_of_cell? _ _ hc)).trans hc
          have p0' := kk p0
          have p1' := kk p1
          have p2' := kk p2
          have hpa := (onSheet_at (List.mem_of_getElem? hp)).1
          obtain ⟨r, hr⟩ : ∃ r, r = p.2.1 := ⟨_, rfl⟩
          obtain ⟨k2, hk2⟩ : ∃ k2, k2 = p.2.2 := ⟨_, rfl⟩
          obtain ⟨tp, htp⟩ : ∃ tp, tp = tx p := ⟨_, rfl⟩
          rw [← hr] at p0'
          rw [← hk2] at p1'
          rw [← htp] at p2'
          have hup := uptoSh_le A hj
          have hfew := HB.out.few
          have htk : pm ≤ 1000 := by rw [HPM.out, List.length_append, List.length_take]; omega
          have bA : Below wr.heap.size wr (wr.alloc (.cells #[.int .i64 r, .int .i64 k2, .string tp] 58)) := (Below.refl _ wr).alloc (Nat.le_refl _) _
          have bX := HX5.out.keep bA
          have happ := (HO5.out.below bA).app (g := wr.heap.size + 1) (by have := bX.lt; omega) HPM.out (by simp) (by omega) p
          have ep : atC p = [.int .i64 (j : Int), .int .i64 r, .int .i64 k2] := by rw [hr, hk2, ← hpa]; rfl
          rw [ep] at happ
          obtain ⟨a2, c2, w2', happ, hown, hchg, -⟩ := happ
          have hX6 := bX.chg hchg (fun g hg => by
            have hg' : (Value.slice pa pm pc).ownBlock = some g := by simpa [own] using hg
            exact (HO5.out.low g hg').1)
          have hown2 : AtsOwn w2' (w.heap.size + 1) (.slice a2 (pm + 1) c2) (uptoSh A j ++ (onSheet A (j : Int)).take (k + 1)) := by
            have e : uptoSh A j ++ (onSheet A (j : Int)).take k ++ [p] = uptoSh A j ++ (onSheet A (j : Int)).take (k + 1) := by
              obtain ⟨hk', ek⟩ := List.getElem?_eq_some_iff.1 hp
              rw [List.append_assoc, List.take_succ_eq_append_getElem hk', ek]
            exact Eq.mp (congrArg (AtsOwn w2' (w.heap.size + 1) _) e) hown
          have RR := hid (show CiRel w (bookC b off bc) A j n (.slice a2 (pm + 1) c2) (.int .i64 ((k : Int) + 1)) w2' from ⟨k + 1, by simp, by omega, hX6, hown2⟩)
          clear kk p0 p1 p2 hpa hr hk2 htp hup hfew htk hp X5 O5 hX6 hown hown2 hchg ep bX bA HCL HR HM
          go_wp2_with (at_builtin; refine wpList_append_run rfl _ _ _ rfl _ _ rfl rfl happ ?_)
          go_roundw
          case rel => exact RR.out
          case measure => simp [RowKit.intOf]; omega
        · obtain rfl : k = n := by omega
          have O6 : AtsOwn wr (w.heap.size + 1) (.slice pa pm pc) (uptoSh A (j + 1)) := by
            have e : uptoSh A j ++ (onSheet A (j : Int)).take k = uptoSh A (j + 1) := by rw [uptoSh_succ, HN.out, List.take_length]
            exact Eq.mp (congrArg (AtsOwn wr (w.heap.size + 1) (.slice pa pm pc)) e) HO5.out
          have RR := hid (show CsRel w (bookC b off bc) A (.slice pa pm pc) (.int .i64 ((j : Int) + 1)) wr from ⟨j + 1, by simp, by omega, HX5.out, O6⟩)
          clear X5 O5 O6 HO5 HCL HR HM
          go_wp2_with fail
          refine HC'.out _ _ ?_
          go_wp2_with fail
          exact ⟨RR.out, by simp [RowKit.intOf]; omega⟩
    · obtain rfl : j = 2 := by omega
      have R : AtsIn wr (.slice oa om oc) A := Eq.mp (congrArg (AtsIn wr (.slice oa om oc)) (uptoSh_two HB.out.rise HB.out.two)) O3.read
      clear X3 O3
      go_wp2_with fail
      refine HC.out _ _ ?_
      go_wp2_with fail
      go_ret2
      exact ⟨⟨_, rfl, R⟩, HX3.out.low⟩
end Go.Proofs.YthkjmplcmfabfaaGreatDoor
