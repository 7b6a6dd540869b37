/- Contract of the law's awake: chapter 14's examples. Condition: utf8's tables lie as they were laid. -/
import Derived.Test.YthkjmplcmfabfaaGreatDoorSpAwakeP
namespace Go.Proofs.YthkjmplcmfabfaaGreatDoor
open Go.RowKit Go.Lib

/-- what stands while awake goes -/
structure Aw (w : World) (bv : Value) (bc : Array Value) (g1 g2 g3 : Nat) (y : World) : Prop where
  b : y.heap[g1]? = some (.cells bc 30 (0, 0))
  s1 : y.heap[g2]? = some (.cells (spC exOne).toArray 40 (0, 0))
  s2 : y.heap[g3]? = some (.cells (spC exTwo).toArray 40 (0, 0))
  bk : BookAt y bv exA one1
  tabs : Tabs y
  low : Below w.heap.size w y
theorem Aw.keep {w y z : World} {bv : Value} {bc : Array Value} {g1 g2 g3 : Nat} (h : Aw w bv bc g1 g2 g3 y) (hb : Below y.heap.size y z) : Aw w bv bc g1 g2 g3 z :=
  ⟨(hb.block _ (heap_lt h.b)).trans h.b, (hb.block _ (heap_lt h.s1)).trans h.s1, (hb.block _ (heap_lt h.s2)).trans h.s2, h.bk.below hb, h.tabs.below hb, h.low.trans (hb.mono h.low.size)⟩
instance (p : PAt) : Decidable (SmallAt p) := by unfold SmallAt; infer_instance
instance (x : PSp) : Decidable (SmallSp x) := by unfold SmallSp; infer_instance
theorem small_one : SmallSp exOne := by decide
theorem small_two' : SmallSp exTwo := by decide
theorem small_zero : SmallAt (0, 0, 0) := by decide
theorem small_list2 : ∀ x, x ∈ [exOne, exTwo] → SmallSp x := fun x hx => by
  simp only [List.mem_cons, List.not_mem_nil, or_false] at hx
  rcases hx with rfl | rfl
  · exact small_one
  · exact small_two'

set_option maxRecDepth 100000 in
set_option maxHeartbeats 4000000 in
theorem awake_any (w : World) (hT : Tabs w) : Calls Tryz.prog 4 #[] w fun e w' => e = .returned (.bool true) ∧ Below w.heap.size w w' := by
  have HT := hid hT
  clear hT
  go_enter Tryz.func4, Tryz.ntmps4
  go_wp2_with fail
  have bA := (Below.refl w.heap.size w).alloc (Nat.le_refl _) (.cells #[.int .i64 0, .int .i64 0, .int .i64 0, .int .i64 0, .int .i64 2, .int .i64 1] 38)
  refine (book_any _ _ [(0, 0, 0), (0, 2, 1)] (atsIn_new2 w (0, 0, 0) (0, 2, 1)) (fun p hp => by
    simp only [List.mem_cons, List.not_mem_nil, or_false] at hp
    rcases hp with rfl | rfl <;> decide)).mono ?_
  rintro e w1 ⟨⟨bv, rfl, hbk⟩, b1⟩
  rw [ex_ats] at hbk
  have HB1 := hid (bA.trans (b1.mono (by simp)))
  have HBK := hid hbk
  obtain ⟨⟨b, off, bc, v0, v1, hbc, rfl, -⟩, -⟩ := hbk
  clear b1 bA
  go_wp2_with fail
  obtain ⟨k1, hk1⟩ : ∃ k, k = w1.heap.size := ⟨_, rfl⟩
  have b3 := (((Below.refl w1.heap.size w1).alloc (Nat.le_refl _) (.cells #[.slice (some ⟨b, off, none⟩) 2 bc, .slice none 0 0, .slice none 0 0, .slice none 0 0] 30)).alloc (by simp) (.cells #[.int .i64 0, .int .i64 0, .int .i64 0, .int .i64 2, .int .i64 2] 40)).alloc (by simp; omega) (.cells #[.int .i64 0, .int .i64 2, .int .i64 1, .int .i64 9, .int .i64 9] 40)
  have g1 := heap_alloc_keep (heap_alloc_keep (heap_alloc_new w1 (.cells #[.slice (some ⟨b, off, none⟩) 2 bc, .slice none 0 0, .slice none 0 0, .slice none 0 0] 30)) (.cells #[.int .i64 0, .int .i64 0, .int .i64 0, .int .i64 2, .int .i64 2] 40)) (.cells #[.int .i64 0, .int .i64 2, .int .i64 1, .int .i64 9, .int .i64 9] 40)
  have g2 := heap_alloc_keep (heap_alloc2_new w1 (.cells #[.slice (some ⟨b, off, none⟩) 2 bc, .slice none 0 0, .slice none 0 0, .slice none 0 0] 30) (.cells #[.int .i64 0, .int .i64 0, .int .i64 0, .int .i64 2, .int .i64 2] 40)) (.cells #[.int .i64 0, .int .i64 2, .int .i64 1, .int .i64 9, .int .i64 9] 40)
  have g3 := heap_alloc2_new (w1.alloc (.cells #[.slice (some ⟨b, off, none⟩) 2 bc, .slice none 0 0, .slice none 0 0, .slice none 0 0] 30)) (.cells #[.int .i64 0, .int .i64 0, .int .i64 0, .int .i64 2, .int .i64 2] 40) (.cells #[.int .i64 0, .int .i64 2, .int .i64 1, .int .i64 9, .int .i64 9] 40)
  have hsz : (((w1.alloc (.cells #[.slice (some ⟨b, off, none⟩) 2 bc, .slice none 0 0, .slice none 0 0, .slice none 0 0] 30)).alloc (.cells #[.int .i64 0, .int .i64 0, .int .i64 0, .int .i64 2, .int .i64 2] 40)).alloc (.cells #[.int .i64 0, .int .i64 2, .int .i64 1, .int .i64 9, .int .i64 9] 40)).heap.size = k1 + 1 + 1 + 1 := by rw [hk1]; simp
  have A3 : Aw w (.agg #[.slice (some ⟨b, off, none⟩) 2 bc, .slice none 0 0, .slice none 0 0, .slice none 0 0]) #[.slice (some ⟨b, off, none⟩) 2 bc, .slice none 0 0, .slice none 0 0, .slice none 0 0] k1 (k1 + 1) (k1 + 1 + 1) (((w1.alloc (.cells #[.slice (some ⟨b, off, none⟩) 2 bc, .slice none 0 0, .slice none 0 0, .slice none 0 0] 30)).alloc (.cells #[.int .i64 0, .int .i64 0, .int .i64 0, .int .i64 2, .int .i64 2] 40)).alloc (.cells #[.int .i64 0, .int .i64 2, .int .i64 1, .int .i64 9, .int .i64 9] 40)) := ⟨by rw [hk1]; exact g1, by rw [hk1]; exact g2, by rw [hk1]; rw [World.size_alloc] at g3; exact g3, HBK.out.below b3, (HT.out.below HB1.out).below b3, HB1.out.trans (b3.mono HB1.out.size)⟩
  rw [← hk1]
  generalize World.alloc (World.alloc (World.alloc w1 (.cells #[.slice (some ⟨b, off, none⟩) 2 bc, .slice none 0 0, .slice none 0 0, .slice none 0 0] 30)) (.cells #[.int .i64 0, .int .i64 0, .int .i64 0, .int .i64 2, .int .i64 2] 40)) (.cells #[.int .i64 0, .int .i64 2, .int .i64 1, .int .i64 9, .int .i64 9] 40) = w3 at A3 hsz ⊢
  clear b3 g1 g2 g3 hk1 HBK HB1 HT
  have HA3 := hid A3
  have sp := spsIn_new2 w3 exOne exTwo
  rw [hsz] at sp
  have A3' := A3.keep ((Below.refl _ w3).alloc (Nat.le_refl _) (.cells #[.int .i64 0, .int .i64 0, .int .i64 0, .int .i64 2, .int .i64 2, .int .i64 0, .int .i64 2, .int .i64 1, .int .i64 9, .int .i64 9] 40))
  have HA3' := hid A3'
  have HSP := hid sp
  clear A3 A3' sp hsz
  refine (place_yes _ HA3'.out.tabs _ _ exA one1 [exOne, exTwo] HA3'.out.bk HSP.out may_12 (by decide)).mono ?_
  rintro e w4 ⟨⟨pv, qv, rfl, hp, hq, -⟩, b4⟩
  rw [place_12] at hp hq
  have HA4 := hid (HA3'.out.keep b4)
  have HP4 := hid hp
  have HQ4 := hid hq
  obtain ⟨pa, pc, _, _, rfl, -⟩ := hp.view
  obtain ⟨qa, qc, _, _, rfl, -⟩ := hq.view
  clear hp hq b4 HSP HA3 HA3'
  have b0 := cell_of (i := 0) HA4.out.b rfl
  have b1 := cell_of (i := 1) HA4.out.b rfl
  have b2 := cell_of (i := 2) HA4.out.b rfl
  have b3 := cell_of (i := 3) HA4.out.b rfl
  have s0 := cell_of (i := 0) (v := .int .i64 0) HA4.out.s1 rfl
  have s1 := cell_of (i := 1) (v := .int .i64 0) HA4.out.s1 rfl
  have s2 := cell_of (i := 2) (v := .int .i64 0) HA4.out.s1 rfl
  have s3 := cell_of (i := 3) (v := .int .i64 2) HA4.out.s1 rfl
  have s4 := cell_of (i := 4) (v := .int .i64 2) HA4.out.s1 rfl
  have u0 := cell_of (i := 0) (v := .int .i64 0) HA4.out.s2 rfl
  have u1 := cell_of (i := 1) (v := .int .i64 2) HA4.out.s2 rfl
  have u2 := cell_of (i := 2) (v := .int .i64 1) HA4.out.s2 rfl
  have u3 := cell_of (i := 3) (v := .int .i64 9) HA4.out.s2 rfl
  have u4 := cell_of (i := 4) (v := .int .i64 9) HA4.out.s2 rfl
  have hl1 := heap_lt HA4.out.b
  have hl2 := heap_lt HA4.out.s1
  have hl3 := heap_lt HA4.out.s2
  go_wp2_with fail
  clear b0 b1 b2 b3 s0 s1 s2 s3 s4 u0 u1 u2 u3 u4 hl1 hl2 hl3
  have bW := (Below.refl w4.heap.size w4).alloc (Nat.le_refl _) (.cells #[.int .i64 0, .int .i64 0, .int .i64 0, .int .i64 3, .int .i64 2] 40)
  have A5 := HA4.out.keep bW
  have P5 := HP4.out.below bW
  have Q5 := HQ4.out.below bW
  have hsz : (w4.alloc (.cells #[.int .i64 0, .int .i64 0, .int .i64 0, .int .i64 3, .int .i64 2] 40)).heap.size = w4.heap.size + 1 := by simp
  generalize World.alloc w4 (.cells #[.int .i64 0, .int .i64 0, .int .i64 0, .int .i64 3, .int .i64 2] 40) = w5 at A5 P5 Q5 hsz ⊢
  have sp := spsIn_new2 w5 exWide exTwo
  rw [hsz] at sp
  have bL := (Below.refl w5.heap.size w5).alloc (Nat.le_refl _) (.cells #[.int .i64 0, .int .i64 0, .int .i64 0, .int .i64 3, .int .i64 2, .int .i64 0, .int .i64 2, .int .i64 1, .int .i64 9, .int .i64 9] 40)
  have HA5 := hid (A5.keep bL)
  have HP5 := hid (P5.below bL)
  have HQ5 := hid (Q5.below bL)
  have HSP := hid sp
  clear A5 P5 Q5 sp hsz bL bW HA4 HP4 HQ4
  refine (place_yes _ HA5.out.tabs _ _ exA one1 [exWide, exTwo] HA5.out.bk HSP.out may_w2 (by decide)).mono ?_
  rintro e w6 ⟨⟨rv, sv, rfl, hr, hs, -⟩, b6⟩
  rw [place_w2] at hr hs
  have HA6 := hid (HA5.out.keep b6)
  have HP6 := hid (HP5.out.below b6)
  have HQ6 := hid (HQ5.out.below b6)
  have HR6 := hid hr
  have HS6 := hid hs
  obtain ⟨ra, rc, _, _, rfl, -⟩ := hr.view
  obtain ⟨sa, sc, _, _, rfl, -⟩ := hs.view
  clear hr hs b6 HSP HA5 HP5 HQ5
  have b0 := cell_of (i := 0) HA6.out.b rfl
  have b1 := cell_of (i := 1) HA6.out.b rfl
  have b2 := cell_of (i := 2) HA6.out.b rfl
  have b3 := cell_of (i := 3) HA6.out.b rfl
  have s0 := cell_of (i := 0) (v := .int .i64 0) HA6.out.s1 rfl
  have s1 := cell_of (i := 1) (v := .int .i64 0) HA6.out.s1 rfl
  have s2 := cell_of (i := 2) (v := .int .i64 0) HA6.out.s1 rfl
  have s3 := cell_of (i := 3) (v := .int .i64 2) HA6.out.s1 rfl
  have s4 := cell_of (i := 4) (v := .int .i64 2) HA6.out.s1 rfl
  have u0 := cell_of (i := 0) (v := .int .i64 0) HA6.out.s2 rfl
  have u1 := cell_of (i := 1) (v := .int .i64 2) HA6.out.s2 rfl
  have u2 := cell_of (i := 2) (v := .int .i64 1) HA6.out.s2 rfl
  have u3 := cell_of (i := 3) (v := .int .i64 9) HA6.out.s2 rfl
  have u4 := cell_of (i := 4) (v := .int .i64 9) HA6.out.s2 rfl
  have hl1 := heap_lt HA6.out.b
  have hl2 := heap_lt HA6.out.s1
  have hl3 := heap_lt HA6.out.s2
  go_wp2_with fail
  clear b0 b1 b2 b3 s0 s1 s2 s3 s4 u0 u1 u2 u3 u4 hl1 hl2 hl3
  have sp := spsIn_new2 w6 exTwo exOne
  have bL := (Below.refl w6.heap.size w6).alloc (Nat.le_refl _) (.cells #[.int .i64 0, .int .i64 2, .int .i64 1, .int .i64 9, .int .i64 9, .int .i64 0, .int .i64 0, .int .i64 0, .int .i64 2, .int .i64 2] 40)
  have HA7 := hid (HA6.out.keep bL)
  have HSP := hid sp
  have HB7 := hid bL
  clear sp bL
  refine (place_no _ HA7.out.tabs _ _ exA one1 [exTwo, exOne] HA7.out.bk HSP.out may_21).mono ?_
  rintro e w8 ⟨rfl, b8⟩
  have b68 := HB7.out.trans (b8.mono HB7.out.size)
  have HA8 := hid (HA6.out.keep b68)
  have HP8 := hid (HP6.out.below b68)
  have HQ8 := hid (HQ6.out.below b68)
  have HR8 := hid (HR6.out.below b68)
  have HS8 := hid (HS6.out.below b68)
  clear b8 b68 HB7 HSP HA7 HA6 HP6 HQ6 HR6 HS6
  go_wp2_with fail
  refine (place_none _).mono ?_
  rintro e w9 ⟨rfl, b9⟩
  have HA9 := hid (HA8.out.keep b9)
  have HP9 := hid (HP8.out.below b9)
  have HQ9 := hid (HQ8.out.below b9)
  have HR9 := hid (HR8.out.below b9)
  have HS9 := hid (HS8.out.below b9)
  clear b9 HA8 HP8 HQ8 HR8 HS8
  go_wp2_with fail
  refine (cover_any _ _ [exOne, exTwo] HP9.out (0, 1, 1)).mono ?_
  rw [cover_11]
  rintro e w10 ⟨rfl, b10⟩
  have HA10 := hid (HA9.out.keep b10)
  have HP10 := hid (HP9.out.below b10)
  have HQ10 := hid (HQ9.out.below b10)
  have HR10 := hid (HR9.out.below b10)
  have HS10 := hid (HS9.out.below b10)
  clear b10 HA9 HP9 HQ9 HR9 HS9
  simp only [Option.getD_some, Option.isSome_some, spV, exOne]
  go_wp2_with fail
  obtain ⟨k4, hk4⟩ : ∃ k, k = w10.heap.size := ⟨_, rfl⟩
  have C17 := heap_alloc_new w10 (.cells #[.int .i64 0, .int .i64 0, .int .i64 0, .int .i64 2, .int .i64 2] 40)
  have bO := (Below.refl w10.heap.size w10).alloc (Nat.le_refl _) (.cells #[.int .i64 0, .int .i64 0, .int .i64 0, .int .i64 2, .int .i64 2] 40)
  rw [← hk4] at C17 ⊢
  have A11 := HA10.out.keep bO
  have P11 := HP10.out.below bO
  have Q11 := HQ10.out.below bO
  have R11 := HR10.out.below bO
  have S11 := HS10.out.below bO
  generalize World.alloc w10 (.cells #[.int .i64 0, .int .i64 0, .int .i64 0, .int .i64 2, .int .i64 2] 40) = w11 at C17 A11 P11 Q11 R11 S11 ⊢
  refine (cover_any _ _ [exOne, exTwo] P11 (0, 1, 2)).mono ?_
  rw [cover_12]
  rintro e w12 ⟨rfl, b12⟩
  have HA12 := hid (A11.keep b12)
  have HP12 := hid (P11.below b12)
  have HQ12 := hid (Q11.below b12)
  have HR12 := hid (R11.below b12)
  have HS12 := hid (S11.below b12)
  have HC12 := hid ((b12.block _ (heap_lt C17)).trans C17)
  clear b12 A11 P11 Q11 R11 S11 C17 hk4 HA10 HP10 HQ10 HR10 HS10 bO
  simp only [Option.getD_none, Option.isSome_none, spV, zeroSp]
  have b0 := cell_of (i := 0) HA12.out.b rfl
  have b1 := cell_of (i := 1) HA12.out.b rfl
  have b2 := cell_of (i := 2) HA12.out.b rfl
  have b3 := cell_of (i := 3) HA12.out.b rfl
  have s0 := cell_of (i := 0) (v := .int .i64 0) HA12.out.s1 rfl
  have s1 := cell_of (i := 1) (v := .int .i64 0) HA12.out.s1 rfl
  have s2 := cell_of (i := 2) (v := .int .i64 0) HA12.out.s1 rfl
  have s3 := cell_of (i := 3) (v := .int .i64 2) HA12.out.s1 rfl
  have s4 := cell_of (i := 4) (v := .int .i64 2) HA12.out.s1 rfl
  have u0 := cell_of (i := 0) (v := .int .i64 0) HA12.out.s2 rfl
  have u1 := cell_of (i := 1) (v := .int .i64 2) HA12.out.s2 rfl
  have u2 := cell_of (i := 2) (v := .int .i64 1) HA12.out.s2 rfl
  have u3 := cell_of (i := 3) (v := .int .i64 9) HA12.out.s2 rfl
  have u4 := cell_of (i := 4) (v := .int .i64 9) HA12.out.s2 rfl
  have hl1 := heap_lt HA12.out.b
  have hl2 := heap_lt HA12.out.s1
  have hl3 := heap_lt HA12.out.s2
  have y0 := cell_of (i := 0) (v := .int .i64 0) HC12.out rfl
  have y1 := cell_of (i := 1) (v := .int .i64 0) HC12.out rfl
  have y2 := cell_of (i := 2) (v := .int .i64 0) HC12.out rfl
  have y3 := cell_of (i := 3) (v := .int .i64 2) HC12.out rfl
  have y4 := cell_of (i := 4) (v := .int .i64 2) HC12.out rfl
  have hl4 := heap_lt HC12.out
  go_wp2_with fail
  clear b0 b1 b2 b3 s0 s1 s2 s3 s4 u0 u1 u2 u3 u4 hl1 hl2 hl3 y0 y1 y2 y3 y4 hl4
  have bZ := (Below.refl w12.heap.size w12).alloc (Nat.le_refl _) (.cells #[.int .i64 0, .int .i64 0, .int .i64 0, .int .i64 0, .int .i64 0] 40)
  have hsz : (w12.alloc (.cells #[.int .i64 0, .int .i64 0, .int .i64 0, .int .i64 0, .int .i64 0] 40)).heap.size = w12.heap.size + 1 := by simp
  have A13 := HA12.out.keep bZ
  have P13 := HP12.out.below bZ
  have Q13 := HQ12.out.below bZ
  have R13 := HR12.out.below bZ
  have S13 := HS12.out.below bZ
  have C13 := (bZ.block _ (heap_lt HC12.out)).trans HC12.out
  generalize World.alloc w12 (.cells #[.int .i64 0, .int .i64 0, .int .i64 0, .int .i64 0, .int .i64 0] 40) = w13 at A13 P13 Q13 R13 S13 C13 hsz ⊢
  have sp := spsIn_new2 w13 exOne exTwo
  rw [hsz] at sp
  have bL := (Below.refl w13.heap.size w13).alloc (Nat.le_refl _) (.cells #[.int .i64 0, .int .i64 0, .int .i64 0, .int .i64 2, .int .i64 2, .int .i64 0, .int .i64 2, .int .i64 1, .int .i64 9, .int .i64 9] 40)
  have HA13 := hid (A13.keep bL)
  have HP13 := hid (P13.below bL)
  have HQ13 := hid (Q13.below bL)
  have HR13 := hid (R13.below bL)
  have HS13 := hid (S13.below bL)
  have HC13 := hid ((bL.block _ (heap_lt C13)).trans C13)
  have HSP := hid sp
  clear A13 P13 Q13 R13 S13 C13 sp hsz bL bZ HA12 HP12 HQ12 HR12 HS12 HC12
  refine (spsame_any _ _ _ [exOne, exTwo] [exOne, exTwo] HP13.out HSP.out small_list2 small_list2).mono ?_
  rw [decide_eq_true rfl]
  rintro e w14 ⟨rfl, b14⟩
  have HA14 := hid (HA13.out.keep b14)
  have HQ14 := hid (HQ13.out.below b14)
  have HR14 := hid (HR13.out.below b14)
  have HS14 := hid (HS13.out.below b14)
  have HC14 := hid ((b14.block _ (heap_lt HC13.out)).trans HC13.out)
  clear b14 HSP HA13 HP13 HQ13 HR13 HS13 HC13
  have b0 := cell_of (i := 0) HA14.out.b rfl
  have b1 := cell_of (i := 1) HA14.out.b rfl
  have b2 := cell_of (i := 2) HA14.out.b rfl
  have b3 := cell_of (i := 3) HA14.out.b rfl
  have s0 := cell_of (i := 0) (v := .int .i64 0) HA14.out.s1 rfl
  have s1 := cell_of (i := 1) (v := .int .i64 0) HA14.out.s1 rfl
  have s2 := cell_of (i := 2) (v := .int .i64 0) HA14.out.s1 rfl
  have s3 := cell_of (i := 3) (v := .int .i64 2) HA14.out.s1 rfl
  have s4 := cell_of (i := 4) (v := .int .i64 2) HA14.out.s1 rfl
  have u0 := cell_of (i := 0) (v := .int .i64 0) HA14.out.s2 rfl
  have u1 := cell_of (i := 1) (v := .int .i64 2) HA14.out.s2 rfl
  have u2 := cell_of (i := 2) (v := .int .i64 1) HA14.out.s2 rfl
  have u3 := cell_of (i := 3) (v := .int .i64 9) HA14.out.s2 rfl
  have u4 := cell_of (i := 4) (v := .int .i64 9) HA14.out.s2 rfl
  have hl1 := heap_lt HA14.out.b
  have hl2 := heap_lt HA14.out.s1
  have hl3 := heap_lt HA14.out.s2
  have y0 := cell_of (i := 0) (v := .int .i64 0) HC14.out rfl
  have y1 := cell_of (i := 1) (v := .int .i64 0) HC14.out rfl
  have y2 := cell_of (i := 2) (v := .int .i64 0) HC14.out rfl
  have y3 := cell_of (i := 3) (v := .int .i64 2) HC14.out rfl
  have y4 := cell_of (i := 4) (v := .int .i64 2) HC14.out rfl
  have hl4 := heap_lt HC14.out
  go_wp2_with fail
  clear b0 b1 b2 b3 s0 s1 s2 s3 s4 u0 u1 u2 u3 u4 hl1 hl2 hl3 y0 y1 y2 y3 y4 hl4
  have sp := spsIn_new1 w14 exTwo
  have bL := (Below.refl w14.heap.size w14).alloc (Nat.le_refl _) (.cells #[.int .i64 0, .int .i64 2, .int .i64 1, .int .i64 9, .int .i64 9] 40)
  have HA15 := hid (HA14.out.keep bL)
  have HQ15 := hid (HQ14.out.below bL)
  have HR15 := hid (HR14.out.below bL)
  have HS15 := hid (HS14.out.below bL)
  have HC15 := hid ((bL.block _ (heap_lt HC14.out)).trans HC14.out)
  have HSP := hid sp
  clear sp bL HA14 HQ14 HR14 HS14 HC14
  refine (spsame_any _ _ _ [exTwo] [exTwo] HR15.out HSP.out (by simp [small_two']) (by simp [small_two'])).mono ?_
  rw [decide_eq_true rfl]
  rintro e w16 ⟨rfl, b16⟩
  have HA16 := hid (HA15.out.keep b16)
  have HS16 := hid (HS15.out.below b16)
  have HC16 := hid ((b16.block _ (heap_lt HC15.out)).trans HC15.out)
  clear b16 HSP HA15 HQ15 HR15 HS15 HC15
  have b0 := cell_of (i := 0) HA16.out.b rfl
  have b1 := cell_of (i := 1) HA16.out.b rfl
  have b2 := cell_of (i := 2) HA16.out.b rfl
  have b3 := cell_of (i := 3) HA16.out.b rfl
  have s0 := cell_of (i := 0) (v := .int .i64 0) HA16.out.s1 rfl
  have s1 := cell_of (i := 1) (v := .int .i64 0) HA16.out.s1 rfl
  have s2 := cell_of (i := 2) (v := .int .i64 0) HA16.out.s1 rfl
  have s3 := cell_of (i := 3) (v := .int .i64 2) HA16.out.s1 rfl
  have s4 := cell_of (i := 4) (v := .int .i64 2) HA16.out.s1 rfl
  have u0 := cell_of (i := 0) (v := .int .i64 0) HA16.out.s2 rfl
  have u1 := cell_of (i := 1) (v := .int .i64 2) HA16.out.s2 rfl
  have u2 := cell_of (i := 2) (v := .int .i64 1) HA16.out.s2 rfl
  have u3 := cell_of (i := 3) (v := .int .i64 9) HA16.out.s2 rfl
  have u4 := cell_of (i := 4) (v := .int .i64 9) HA16.out.s2 rfl
  have hl1 := heap_lt HA16.out.b
  have hl2 := heap_lt HA16.out.s1
  have hl3 := heap_lt HA16.out.s2
  have y0 := cell_of (i := 0) (v := .int .i64 0) HC16.out rfl
  have y1 := cell_of (i := 1) (v := .int .i64 0) HC16.out rfl
  have y2 := cell_of (i := 2) (v := .int .i64 0) HC16.out rfl
  have y3 := cell_of (i := 3) (v := .int .i64 2) HC16.out rfl
  have y4 := cell_of (i := 4) (v := .int .i64 2) HC16.out rfl
  have hl4 := heap_lt HC16.out
  go_wp2_with fail
  clear b0 b1 b2 b3 s0 s1 s2 s3 s4 u0 u1 u2 u3 u4 hl1 hl2 hl3 y0 y1 y2 y3 y4 hl4
  have sp := atsIn_new1 w16 (0, 0, 0)
  have bL := (Below.refl w16.heap.size w16).alloc (Nat.le_refl _) (.cells #[.int .i64 0, .int .i64 0, .int .i64 0] 38)
  have HA17 := hid (HA16.out.keep bL)
  have HS17 := hid (HS16.out.below bL)
  have HC17 := hid ((bL.block _ (heap_lt HC16.out)).trans HC16.out)
  have HSP := hid sp
  clear sp bL HA16 HS16 HC16
  refine (atsame_any _ _ _ [(0, 0, 0)] [(0, 0, 0)] HS17.out HSP.out (by simp [small_zero]) (by simp [small_zero])).mono ?_
  rw [decide_eq_true rfl]
  rintro e w18 ⟨rfl, b18⟩
  have HA18 := hid (HA17.out.keep b18)
  have HC18 := hid ((b18.block _ (heap_lt HC17.out)).trans HC17.out)
  clear b18 HSP HA17 HS17 HC17
  have heq := fun w => eq_sp exOne exOne small_one small_one w
  rw [decide_eq_true rfl] at heq
  simp only [spV, exOne] at heq
  have b0 := cell_of (i := 0) HA18.out.b rfl
  have b1 := cell_of (i := 1) HA18.out.b rfl
  have b2 := cell_of (i := 2) HA18.out.b rfl
  have b3 := cell_of (i := 3) HA18.out.b rfl
  have s0 := cell_of (i := 0) (v := .int .i64 0) HA18.out.s1 rfl
  have s1 := cell_of (i := 1) (v := .int .i64 0) HA18.out.s1 rfl
  have s2 := cell_of (i := 2) (v := .int .i64 0) HA18.out.s1 rfl
  have s3 := cell_of (i := 3) (v := .int .i64 2) HA18.out.s1 rfl
  have s4 := cell_of (i := 4) (v := .int .i64 2) HA18.out.s1 rfl
  have u0 := cell_of (i := 0) (v := .int .i64 0) HA18.out.s2 rfl
  have u1 := cell_of (i := 1) (v := .int .i64 2) HA18.out.s2 rfl
  have u2 := cell_of (i := 2) (v := .int .i64 1) HA18.out.s2 rfl
  have u3 := cell_of (i := 3) (v := .int .i64 9) HA18.out.s2 rfl
  have u4 := cell_of (i := 4) (v := .int .i64 9) HA18.out.s2 rfl
  have hl1 := heap_lt HA18.out.b
  have hl2 := heap_lt HA18.out.s1
  have hl3 := heap_lt HA18.out.s2
  have y0 := cell_of (i := 0) (v := .int .i64 0) HC18.out rfl
  have y1 := cell_of (i := 1) (v := .int .i64 0) HC18.out rfl
  have y2 := cell_of (i := 2) (v := .int .i64 0) HC18.out rfl
  have y3 := cell_of (i := 3) (v := .int .i64 2) HC18.out rfl
  have y4 := cell_of (i := 4) (v := .int .i64 2) HC18.out rfl
  have hl4 := heap_lt HC18.out
  go_wp2_with fail
  go_ret
  exact ⟨rfl, HA18.out.low⟩
end Go.Proofs.YthkjmplcmfabfaaGreatDoor
