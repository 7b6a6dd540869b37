/- Contracts of book.many, book.Check at a workbook of two sheets. Condition: utf8's tables lie as they were laid. -/
import Derived.Test.YthkjmplcmfabfaaGreatDoorSpCheckT
import Derived.Deep.RegionHeldLaw
namespace Go.Proofs.YthkjmplcmfabfaaGreatDoor
open Go.RowKit Go.Lib

set_option maxHeartbeats 1000000 in
theorem many_any (w : World) (v : Value) (A : List PAt) (tx : PAt → ByteArray) (h : BookAt w v A tx) : Calls Tryz.prog 27 #[v] w fun e w' => (∃ n : Nat, e = .returned (.int .i64 (n : Int)) ∧ n ≤ 26) ∧ Below w.heap.size w w' := by
  obtain ⟨⟨b, off, bc, v0, v1, hbc, rfl, h2, h3, h4, h5, h6, h7⟩, hr, ht, hf, ho⟩ := h
  obtain ⟨a0, c0, b0, o0, rfl, l0, k0⟩ := h6.view
  obtain ⟨a1, c1, b1, o1, rfl, l1, k1⟩ := h7.view
  have hn0 := onSheet_le A 0
  have hn1 := onSheet_le A 1
  obtain ⟨n0, e0⟩ : ∃ n, n = (onSheet A 0).length := ⟨_, rfl⟩
  obtain ⟨n1, e1⟩ : ∃ n, n = (onSheet A 1).length := ⟨_, rfl⟩
  rw [← e0] at h3 hn0
  rw [← e1] at h5 hn1
  have m0 : n0 ≤ 13 := by omega
  have m1 : n1 ≤ 13 := by omega
  have b00 := World.block_lt_of_cell? _ _ h2
  have g2 := fun o1 o2 o3 => ((((Below.refl w.heap.size w).alloc (Nat.le_refl _) o1).alloc (by simp) o2).alloc (by simp; omega) o3)
  clear k0 k1 h6 h7 hr ht hf ho hn0 hn1 e0 e1 l0 l1
  go_enter Tryz.func27, Tryz.ntmps27
  go_wp2_with fail
  refine wp_loop_rounds 3 ?_
  rw [rounds_succ]
  go_wp2_with fail
  rw [rounds_succ]
  go_wp2_with fail
  rw [rounds_succ]
  go_wp2_with fail
  go_ret
  exact ⟨⟨n0 + n1, by simp, by omega⟩, g2 _ _ _⟩

theorem ckS_keep {w y z : World} {g b off bc : Nat} {nm : ByteArray} {aa : Option Addr} {an ac : Nat} (h : y.cell? ⟨g, 0, none⟩ = some (.string nm) ∧ y.cell? ⟨g, 1, none⟩ = some (.slice aa an ac) ∧ y.cell? ⟨w.heap.size, 0, none⟩ = some (.slice (some ⟨b, off, none⟩) 2 bc) ∧ Ck w (bookC b off bc) y) (hb : Below y.heap.size y z) : z.cell? ⟨g, 0, none⟩ = some (.string nm) ∧ z.cell? ⟨g, 1, none⟩ = some (.slice aa an ac) ∧ z.cell? ⟨w.heap.size, 0, none⟩ = some (.slice (some ⟨b, off, none⟩) 2 bc) ∧ Ck w (bookC b off bc) z :=
  ⟨(hb.cell (World.block_lt_of_cell? _ _ h.1)).trans h.1, (hb.cell (World.block_lt_of_cell? _ _ h.2.1)).trans h.2.1, (hb.cell (World.block_lt_of_cell? _ _ h.2.2.1)).trans h.2.2.1, h.2.2.2.keep hb⟩
theorem ck_of {A B C : Prop} {w y : World} {cs : Array Value} (h : A ∧ B ∧ C ∧ Ck w cs y) : Ck w cs y := h.2.2.2

set_option maxRecDepth 20000 in
set_option maxHeartbeats 2000000 in
theorem check_any (w : World) (hT : Tabs w) (v : Value) (A : List PAt) (tx : PAt → ByteArray) (h : BookAt w v A tx) : Calls Tryz.prog 32 #[v] w fun e w' => e = .returned (.tuple #[.agg #[.int .i64 0, .int .i64 0, .int .i64 0], .int .i64 0]) ∧ Below w.heap.size w w' := by
  have HMY := hid (fun w h => many_any w v A tx h)
  have HBK := hid h
  obtain ⟨⟨b, off, bc, v0, v1, hbc, rfl, h2, h3, h4, h5, h6, h7⟩, hr, ht, hf, ho⟩ := h
  have b0 : ∀ o1 o2, Below w.heap.size w ((w.alloc o1).alloc o2) := fun o1 o2 => ((Below.refl w.heap.size w).alloc (Nat.le_refl _) o1).alloc (by simp) o2
  have K0 : Ck w (bookC b off bc) ((w.alloc (.cells (bookC b off bc) 30)).alloc (.cells #[.int .i64 0, .int .i64 0, .int .i64 0] 38)) := ⟨heap_alloc_keep (heap_alloc_new w _) _, heap_alloc2_new w _ _, hT.below (b0 _ _), b0 _ _⟩
  have HK0 := hid K0
  clear K0 b0 hT
  go_enter Tryz.func32, Tryz.ntmps32
  go_wp2_with fail
  refine (HMY.out _ (HBK.out.below HK0.out.low)).mono ?_
  rintro e w1 ⟨⟨n, rfl, hn⟩, b1⟩
  have HK1 := hid (HK0.out.keep b1)
  have q0 := HK1.out.c0
  have q1 := HK1.out.c1
  have q2 := HK1.out.c2
  have q3 := HK1.out.c3
  have kk : ∀ {y : World} {p : Addr} {u : Value}, Below w.heap.size w y → w.cell? p = some u → y.cell? p = some u := fun hb hc => (hb.cell (World.block_lt_of_cell? _ _ hc)).trans hc
  have HKK := hid (fun (y : World) (hy : Below w.heap.size w y) => show y.cell? ⟨b, off, none⟩ = some (.string nameS) ∧ y.cell? ⟨b, off + 1, none⟩ = some v0 ∧ y.cell? ⟨b, off + 2, none⟩ = some (.string nameT) ∧ y.cell? ⟨b, off + 3, none⟩ = some v1 from ⟨kk hy h2, kk hy h3, kk hy h4, kk hy h5⟩)
  have HV6 := hid h6
  have HV7 := hid h7
  obtain ⟨ua, un, uc, hu⟩ : ∃ a n c, v0 = .slice a n c := by obtain ⟨a, c, _, _, e, _⟩ := h6.view; exact ⟨_, _, _, e⟩
  obtain ⟨ta, tn, tc, ht'⟩ : ∃ a n c, v1 = .slice a n c := by obtain ⟨a, c, _, _, e, _⟩ := h7.view; exact ⟨_, _, _, e⟩
  have HU := hid hu
  have HT := hid ht'
  rw [hu, ht'] at HKK
  have HRT := hid hr
  have HTW := hid ht
  have hbl := World.block_lt_of_cell? _ _ h2
  clear b1 HK0 kk h2 h3 h4 h5 h6 h7 hr ht hf ho hu ht'
  have hRS := hid (fun w => Right_any nameS (.inl rfl) w)
  have hRT := hid (fun w => Right_any nameT (.inr rfl) w)
  have hTN := hid (fun ao c s w => twice_none ao c s w)
  have hTO := hid (fun w hT b off c v hv h3 h4 => twice_one w hT b off c v hv h3 h4)
  go_wp2_with fail
  rename_i K hK
  have HC := hid hK
  clear hK
  obtain ⟨r0, r1, r2, r3⟩ := HKK.out _ HK1.out.low
  have hlw := HK1.out.low_lt
  refine wp_loop_rounds 3 ?_
  rw [rounds_succ]
  go_wp2_with fail
  have K2 : Ck w (bookC b off bc) (w1.alloc (.cells #[.string nameS, .slice ua un uc] 55)) := HK1.out.keep ((Below.refl _ w1).alloc (Nat.le_refl _) _)
  have n0 := cell_of (i := 0) (heap_alloc_new w1 (.cells #[.string nameS, .slice ua un uc] 55)) rfl
  have n1 := cell_of (i := 1) (heap_alloc_new w1 (.cells #[.string nameS, .slice ua un uc] 55)) rfl
  obtain ⟨g, hg⟩ : ∃ g, g = w1.heap.size := ⟨_, rfl⟩
  rw [← hg] at n0 n1 ⊢
  generalize World.alloc _ _ = w2 at K2 n0 n1 ⊢
  have HS2 := hid (ckS_keep (nm := nameS) ⟨n0, n1, K2.c0, K2⟩ (Below.refl _ w2).drew)
  clear K2 n0 n1 hg r0 r1 r2 r3 q0 q1 q2 q3 HK1
  go_region_held (fun y => y.cell? ⟨g, 0, none⟩ = some (.string nameS) ∧ y.cell? ⟨g, 1, none⟩ = some (.slice ua un uc) ∧ y.cell? ⟨w.heap.size, 0, none⟩ = some (.slice (some ⟨b, off, none⟩) 2 bc) ∧ Ck w (bookC b off bc) y) (first | exact HS2.out | (refine ckS_keep ?_ ‹Below _ _ _›; assumption)) (first | (go_at_call 50; refine (hRS.out _).mono ?_; rintro e w3 ⟨rfl, b3⟩) | (go_at_call 51; refine (hTN.out _ _ _ _).mono ?_; rintro e w4 ⟨rfl, b4⟩))
  have K4 : Ck w (bookC b off bc) w4 := by apply ck_of; assumption
  have HK4 := hid K4
  have q0 := K4.c0
  obtain ⟨r0, r1, r2, r3⟩ := HKK.out _ K4.low
  clear K4 HS2
  go_wp2_with fail
  rw [rounds_succ]
  go_wp2_with fail
  have K2 : Ck w (bookC b off bc) (w4.alloc (.cells #[.string nameT, .slice ta tn tc] 55)) := HK4.out.keep ((Below.refl _ w4).alloc (Nat.le_refl _) _)
  have n0 := cell_of (i := 0) (heap_alloc_new w4 (.cells #[.string nameT, .slice ta tn tc] 55)) rfl
  have n1 := cell_of (i := 1) (heap_alloc_new w4 (.cells #[.string nameT, .slice ta tn tc] 55)) rfl
  obtain ⟨g', hg⟩ : ∃ g, g = w4.heap.size := ⟨_, rfl⟩
  rw [← hg] at n0 n1 ⊢
  generalize World.alloc _ _ = w5 at K2 n0 n1 ⊢
  have HS2 := hid (ckS_keep (nm := nameT) ⟨n0, n1, K2.c0, K2⟩ (Below.refl _ w5).drew)
  have hTO2 := hid (fun (y : World) (h : y.cell? ⟨g', 0, none⟩ = some (.string nameT) ∧ y.cell? ⟨g', 1, none⟩ = some (.slice ta tn tc) ∧ y.cell? ⟨w.heap.size, 0, none⟩ = some (.slice (some ⟨b, off, none⟩) 2 bc) ∧ Ck w (bookC b off bc) y) => hTO.out y h.2.2.2.tabs b off bc (.slice ua un uc) ⟨_, _, _, rfl⟩ (HKK.out y h.2.2.2.low).1 (HKK.out y h.2.2.2.low).2.1)
  clear K2 n0 n1 hg r0 r1 r2 r3 q0 HK4 hTO hTN hRS
  go_region_held (fun y => y.cell? ⟨g', 0, none⟩ = some (.string nameT) ∧ y.cell? ⟨g', 1, none⟩ = some (.slice ta tn tc) ∧ y.cell? ⟨w.heap.size, 0, none⟩ = some (.slice (some ⟨b, off, none⟩) 2 bc) ∧ Ck w (bookC b off bc) y) (first | exact HS2.out | (refine ckS_keep ?_ ‹Below _ _ _›; assumption)) (first | (go_at_call 50; refine (hRT.out _).mono ?_; rintro e w6 ⟨rfl, b6⟩) | (go_at_call 51; refine (hTO2.out _ ?_).mono ?_; assumption; rintro e w7 ⟨rfl, b7⟩))
  have K7 : Ck w (bookC b off bc) w7 := by apply ck_of; assumption
  have HK7 := hid K7
  clear K7 HS2 hTO2 hRT
  go_wp2_with fail
  rw [rounds_succ]
  go_wp2_with fail
  refine HC.out _ _ ?_
  exact check_tail HK7.out HBK.out
end Go.Proofs.YthkjmplcmfabfaaGreatDoor
