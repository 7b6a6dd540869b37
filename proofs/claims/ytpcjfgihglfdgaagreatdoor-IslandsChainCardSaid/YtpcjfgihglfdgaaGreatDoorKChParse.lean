/- Rule of the parser's primary at a call; contracts of tree.Parse and tree.Read at any pieces that the rules take. Condition: what the package-level variables hold lies as it was laid. Contracts of tree.Read at "1", of book.formula and book.input at "=1". No condition. Contracts of tree.Read, book.formula, book.input at any text whose pieces the parser's rules take. Condition: what the package-level variables hold lies as it was laid. -/
import Derived.Test.YtpcjfgihglfdgaaGreatDoorKChArgs
import Derived.Test.YtpcjfgihglfdgaaGreatDoorKChSpan
import Derived.Defers
import Derived.Recover
import Derived.Test.YtpcjfgihglfdgaaGreatDoorKChBareO
import Derived.Test.YtpcjfgihglfdgaaGreatDoorKSpRead

namespace Go.Proofs.YtpcjfgihglfdgaaGreatDoor
open Go.RowKit Go.Lib

section
variable {T : List (Int × ByteArray × Nat)}
set_option maxRecDepth 20000 in
set_option maxHeartbeats 2000000 in
/-- a call -/
theorem prim_call {a b q : Nat} {s : ByteArray} {o : Ow} {ks : Fo} (ht : T[a]? = some (7, s, q)) (HO : CallOk T a o ks b) (n40b : NoSign T b [40]) : PrimOk T a o ks b := by
  intro p tb tf tc w h
  have hp := h.plt
  have bA := ((Below.refl w.heap.size w).alloc (Nat.le_refl _) (.cells (nodeL 0 0).toArray 79)).alloc (by simp) (.cells (nodeL 0 0).toArray 79)
  have H0 := hid (h.keep bA)
  have C0 := hid (((Chg.refl [p] w).alloc (.cells (nodeL 0 0).toArray 79)).alloc (.cells (nodeL 0 0).toArray 79))
  have N2 := hid (show NdV w.heap.size (nodeL 0 0) ((w.alloc (.cells (nodeL 0 0).toArray 79)).alloc (.cells (nodeL 0 0).toArray 79)) from heap_alloc_keep (heap_alloc_new w _) _)
  have N3 := hid (show NdV (w.heap.size + 1) (nodeL 0 0) ((w.alloc (.cells (nodeL 0 0).toArray 79)).alloc (.cells (nodeL 0 0).toArray 79)) from heap_alloc2_new w _ _)
  obtain ⟨g2, hg2⟩ : ∃ g2, g2 = w.heap.size := ⟨_, rfl⟩
  obtain ⟨g3, hg3⟩ : ∃ g3, g3 = w.heap.size + 1 := ⟨_, rfl⟩
  have X40 : Hid (NoSign T a [40]) := hid (.inr (.inl ⟨_, ht, show (7 : Int) ≠ 8 by decide⟩))
  have X123 : Hid (NoSign T a [123]) := hid (.inr (.inl ⟨_, ht, show (7 : Int) ≠ 8 by decide⟩))
  have X40b := hid n40b
  have XT := hid ht
  have XO := hid HO
  have hlen := h.py.len
  have hlt := (List.getElem?_eq_some_iff.1 ht).1
  obtain ⟨n, hn⟩ : ∃ n, n = T.length := ⟨_, rfl⟩
  rw [← hn] at hlt hlen
  have XN := hid hn
  have hab : (((a : Int)) < (n : Int)) = True := by rw [eq_iff_iff, iff_true]; omega
  have hab' : (a < n) = True := by rw [eq_iff_iff, iff_true]; exact hlt
  clear h bA n40b ht HO hn
  go_enter Tryz.func266, Tryz.ntmps266
  go_wp2_with fail
  generalize World.alloc (World.alloc _ _) _ = w0 at H0 C0 N2 N3 ⊢
  rw [← hg3] at N3 ⊢
  rw [← hg2] at N2 ⊢
  have HG := hid (show (g2 ≠ p ∧ g3 ≠ p) ∧ (p < g2 ∧ p < g3) ∧ (w.heap.size ≤ g2 ∧ w.heap.size ≤ g3) ∧ g2 ≠ g3 by omega)
  clear hg2 hg3 hp
  refine (has_none H0.out 40 X40.out).mono ?_
  rintro e w1 ⟨rfl, rfl⟩
  go_wp2_with fail
  refine (has_none H0.out 123 X123.out).mono ?_
  rintro e w1 ⟨rfl, rfl⟩
  have c0 := cell_of (i := 0) H0.out.py.par rfl
  have c1 := cell_of (i := 1) H0.out.py.par rfl
  rw [← XN.out] at c0
  obtain ⟨k0, -, -⟩ := H0.out.py.row a _ XT.out
  go_wp2_with fail
  go_quiet (fail)
  have H1 := hid (H0.out.keep (below_drewN (Below.refl w0.heap.size w0) nq))
  have C1 := hid (C0.out.drewN nq)
  have N21 := hid (show NdV g2 (nodeL 0 0) (w0.drewN nq) from N2.out)
  have N31 := hid (show NdV g3 (nodeL 0 0) (w0.drewN nq) from N3.out)
  obtain ⟨w1, hw1⟩ : ∃ w1, w1 = w0.drewN nq := ⟨_, rfl⟩
  rw [← hw1] at H1 C1 N21 N31 ⊢
  clear hw1 c0 c1 k0 H0 C0 N2 N3 hab hab'
  go_wp2_with fail
  refine (XO.out _ _ _ _ _ H1.out).mono ?_
  rintro e w2 ⟨ao, cc, rfl, hk, h2, hc2⟩
  obtain ⟨m, hm⟩ : ∃ m, m = ks.len := ⟨_, rfl⟩
  have XM := hid hm
  have hg3 : g2 < w1.heap.size ∧ g3 < w1.heap.size := ⟨heap_lt N21.out, heap_lt N31.out⟩
  have S1 := hid C1.out.size
  have K2 := hid (And.intro hg3 hk)
  have H2 := hid h2
  have C2 := hid (C1.out.trans hc2 (by simp))
  have N22 := hid (show NdV g2 (nodeL 0 0) w2 from hc2.heap N21.out (by simpa using HG.out.1.1))
  have N32 := hid (show NdV g3 (nodeL 0 0) w2 from hc2.heap N31.out (by simpa using HG.out.1.2))
  rw [← hm]
  clear h2 hc2 H1 C1 N21 N31 hk hm hg3
  go_wp2_with (refine wpList_store_row rfl 79 _ _ rfl g3 (o.cells (.slice ao m cc)).toArray rfl rfl 79 _ N32.out (node_info 0 0) (by rfl) (ow_one o ao m cc) ?_)
  have N34 := hid (show NdV g3 (o.cells (.slice ao m cc)) (w2.setRow g3 (o.cells (.slice ao m cc)).toArray) from heap_setRow_at N32.out)
  have N24 := hid (show NdV g2 (nodeL 0 0) (w2.setRow g3 (o.cells (.slice ao m cc)).toArray) from heap_setRow_far N22.out HG.out.2.2.2 _)
  have H4 := hid (H2.out.row HG.out.2.1.2 (o.cells (.slice ao m cc)).toArray)
  have C4 := hid (C2.out.setRow (.inr HG.out.2.2.1.2) (o.cells (.slice ao m cc)).toArray)
  have K4 := hid (show KidsV (w2.setRow g3 (o.cells (.slice ao m cc)).toArray) (w1.heap.size ≤ ·) (.slice ao ks.len cc) ks from K2.out.2.put (Nat.not_le.2 K2.out.1.2) _)
  generalize World.setRow _ _ _ = w4 at N34 N24 H4 C4 K4 ⊢
  clear N22 N32 H2 C2
  refine wp_loop_rounds 1 ?_
  rw [rounds_succ]
  go_wp2_with fail
  refine (has_none H4.out 40 X40b.out).mono ?_
  rintro e w5 ⟨rfl, rfl⟩
  go_wp2_with (first | (refine wpList_load_row rfl 79 _ rfl g3 rfl 79 _ (0, 0) _ N34.out Tryz.underlying79 rfl (ow_info o (.slice ao m cc)) ?_) | (refine wpList_store_row rfl 79 _ _ rfl g2 (o.cells (.slice ao m cc)).toArray rfl rfl 79 _ N24.out (node_info 0 0) (by rfl) (ow_one o ao m cc) ?_))
  refine bodyPost_ret (v := .agg (o.cells (.slice ao m cc)).toArray) (results_cell_row rfl _ _ g2 79 (o.cells (.slice ao m cc)).toArray (0, 0) _ rfl (heap_setRow_at N24.out) Tryz.underlying79 rfl (ow_info o (.slice ao m cc))) rfl ?_
  refine ⟨ao, cc, by rw [XM.out], ?_, H4.out.row HG.out.2.1.1 _, C4.out.setRow (.inr HG.out.2.2.1.1) _⟩
  exact (K4.out.put (Nat.not_le.2 K2.out.1.1) _).mono (fun x hx => Nat.le_trans S1.out hx)
def RightOk (o : Ow) (ks : Fo) : Prop := ∀ w B ao c, Tabs w → KidsV w B (.slice ao ks.len c) ks → Calls Tryz.prog 96 #[.agg (o.cells (.slice ao ks.len c)).toArray] w fun e w' => e = .returned (.bool true) ∧ Below w.heap.size w w'
set_option maxRecDepth 20000 in
set_option maxHeartbeats 2000000 in
theorem right_any {o : Ow} {ks : Fo} (hs : SizeOk o ks) (hd : dF ks + 1 ≤ 20) (hm : mF ks + 1 ≤ 200) : RightOk o ks := by
  intro w B ao c hT hv
  obtain ⟨n, hn⟩ : ∃ n, n = ks.len := ⟨_, rfl⟩
  have XS := hid (fun w (hT : Tabs w) (hv : KidsV w B (.slice ao n c) ks) => show Calls Tryz.prog 153 #[.agg (o.cells (.slice ao n c)).toArray] w fun e w' => e = .returned (.tuple #[.int .i64 (dF ks + 1 : Nat), .int .i64 (mF ks + 1 : Nat), .bool true]) ∧ Below w.heap.size w w' from by rw [hn] at hv ⊢; exact hs w B ao c hT hv)
  rw [← hn] at hv ⊢
  obtain ⟨d, hd1⟩ : ∃ d, d = dF ks + 1 := ⟨_, rfl⟩
  obtain ⟨m, hm1⟩ : ∃ m, m = mF ks + 1 := ⟨_, rfl⟩
  rw [← hd1] at hd XS
  rw [← hm1] at hm XS
  have hd2 : ((d : Int) ≤ 20) = True := by rw [eq_iff_iff, iff_true]; omega
  have hm2 : ((m : Int) ≤ 200) = True := by rw [eq_iff_iff, iff_true]; omega
  have A1 : NdV w.heap.size (o.cells (.slice ao n c)) (w.alloc (.cells (o.cells (.slice ao n c)).toArray 79)) := heap_alloc_new w _
  have B1 := hid ((Below.refl w.heap.size w).alloc (Nat.le_refl _) (.cells (o.cells (.slice ao n c)).toArray 79))
  have HA := hid A1
  have HT := hid hT
  have HV := hid hv
  clear A1 hT hv hs hn hd1 hm1 hd hm
  go_enter Tryz.func96, Tryz.ntmps96
  go_wp2_with (refine wpList_load_row rfl 79 _ rfl w.heap.size rfl 79 _ (0, 0) _ HA.out Tryz.underlying79 rfl (ow_info o (.slice ao n c)) ?_)
  refine (XS.out _ (HT.out.below B1.out) (HV.out.keep B1.out)).mono ?_
  rintro e w1 ⟨rfl, b1⟩
  have B2 := hid (B1.out.trans (b1.mono B1.out.size))
  clear b1 HA B1
  go_wp2_with fail
  go_ret
  exact ⟨rfl, B2.out⟩
set_option maxRecDepth 20000 in
set_option maxHeartbeats 2000000 in
theorem parse_any {o : Ow} {ks : Fo} (hE : ExprOk T 0 1 o ks T.length) (hR : RightOk o ks) (hlen : T.length ≤ 100) (w : World) (hEnv : Env w) (tb tf tc : Nat) (htb : tb < w.heap.size)
    (hrow : ∀ j t, T[j]? = some t → w.cell? ⟨tb, tf + j * 3, none⟩ = some (.int .i64 t.1) ∧ w.cell? ⟨tb, tf + j * 3 + 1, none⟩ = some (.string t.2.1) ∧ w.cell? ⟨tb, tf + j * 3 + 2, none⟩ = some (.int .i64 t.2.2)) :
    Calls Tryz.prog 95 #[.slice (some ⟨tb, tf, none⟩) T.length tc] w fun e w' => ∃ ao c, e = .returned (.tuple #[.agg (o.cells (.slice ao ks.len c)).toArray, .int .i64 0, .int .i64 0]) ∧ KidsV w' (w.heap.size ≤ ·) (.slice ao ks.len c) ks ∧ Below w.heap.size w w' := by
  obtain ⟨n, hn⟩ : ∃ n, n = T.length := ⟨_, rfl⟩
  rw [← hn]
  have XN := hid hn
  have XE := hid hE
  have XR := hid hR
  have XEnv := hid hEnv
  have bA := (((((Below.refl w.heap.size w).alloc (Nat.le_refl _) (.cells (nodeL 0 0).toArray 79)).alloc (by simp) (.cells #[.int .i64 0] 3)).alloc (by simp; omega) (.cells #[.int .i64 0] 31)).alloc (by simp; omega) (.cells #[.slice (some ⟨tb, tf, none⟩) n tc, .int .i64 0] 245)).alloc (by simp; omega) (.cells #[.pointer (some ⟨w.heap.size + 1 + 1 + 1, 0, none⟩)] 243)
  obtain ⟨W, hW⟩ : ∃ W, W = ((((w.alloc (.cells (nodeL 0 0).toArray 79)).alloc (.cells #[.int .i64 0] 3)).alloc (.cells #[.int .i64 0] 31)).alloc (.cells #[.slice (some ⟨tb, tf, none⟩) n tc, .int .i64 0] 245)).alloc (.cells #[.pointer (some ⟨w.heap.size + 1 + 1 + 1, 0, none⟩)] 243) := ⟨_, rfl⟩
  have n0 : NdV w.heap.size (nodeL 0 0) W := by rw [hW]; exact heap_alloc_keep (heap_alloc_keep (heap_alloc_keep (heap_alloc_keep (heap_alloc_new w _) _) _) _) _
  have n1 : W.heap[w.heap.size + 1]? = some (.cells #[.int .i64 0] 3 (0, 0)) := by rw [hW]; exact heap_alloc_keep (heap_alloc_keep (heap_alloc_keep (heap_alloc2_new w _ _) _) _) _
  have n2 : W.heap[w.heap.size + 1 + 1]? = some (.cells #[.int .i64 0] 31 (0, 0)) := by rw [hW]; exact heap_alloc_keep (heap_alloc_keep (by have := heap_alloc2_new (w.alloc (.cells (nodeL 0 0).toArray 79)) (.cells #[.int .i64 0] 3) (.cells #[.int .i64 0] 31); rwa [World.size_alloc] at this) _) _
  have n3 : W.heap[w.heap.size + 1 + 1 + 1]? = some (.cells #[.slice (some ⟨tb, tf, none⟩) n tc, .int .i64 0] 245 (0, 0)) := by rw [hW]; exact heap_alloc_keep (by have := heap_alloc2_new ((w.alloc (.cells (nodeL 0 0).toArray 79)).alloc (.cells #[.int .i64 0] 3)) (.cells #[.int .i64 0] 31) (.cells #[.slice (some ⟨tb, tf, none⟩) n tc, .int .i64 0] 245); rwa [World.size_alloc, World.size_alloc] at this) _
  have n4 : W.heap[w.heap.size + 1 + 1 + 1 + 1]? = some (.cells #[.pointer (some ⟨w.heap.size + 1 + 1 + 1, 0, none⟩)] 243 (0, 0)) := by rw [hW]; have := heap_alloc2_new (((w.alloc (.cells (nodeL 0 0).toArray 79)).alloc (.cells #[.int .i64 0] 3)).alloc (.cells #[.int .i64 0] 31)) (.cells #[.slice (some ⟨tb, tf, none⟩) n tc, .int .i64 0] 245) (.cells #[.pointer (some ⟨w.heap.size + 1 + 1 + 1, 0, none⟩)] 243); rwa [World.size_alloc, World.size_alloc, World.size_alloc] at this
  have bW : Below w.heap.size w W := by rw [hW]; exact bA
  have kp : ∀ {p : Addr} {u : Value}, w.cell? p = some u → W.cell? p = some u := fun {p u} hc => cell_keep hc bW
  have PX := hid (show Pz T (w.heap.size + 1 + 1 + 1) tb tf tc 0 W from ⟨⟨by rw [← hn]; exact n3, fun j t hj => ⟨kp (hrow j t hj).1, kp (hrow j t hj).2.1, kp (hrow j t hj).2.2⟩, by omega, hlen⟩, by omega, w, hEnv, by omega, bW⟩)
  have N0 := hid n0
  have N1 := hid n1
  have N2 := hid n2
  have N4 := hid n4
  have BW := hid bW
  have HW := hid hW
  clear n0 n1 n2 n3 n4 bW bA htb hrow hE hR hlen hEnv hW hn kp
  go_enter_defers Tryz.func95, Tryz.ntmps95
  go_wp2_with fail
  rw [← HW.out]
  clear HW
  refine (XE.out _ _ _ _ _ PX.out).mono ?_
  rintro e w1 ⟨ao, cc, rfl, hk, h1, hc1⟩
  obtain ⟨m, hm⟩ : ∃ m, m = ks.len := ⟨_, rfl⟩
  have XM := hid hm
  obtain ⟨Wn, hWn⟩ : ∃ Wn, Wn = W.heap.size := ⟨_, rfl⟩
  have SW := hid (show w.heap.size + 1 + 1 < Wn ∧ w.heap.size ≤ Wn from by rw [hWn]; exact ⟨heap_lt N2.out, BW.out.size⟩)
  rw [← hWn] at hk
  have KK := hid hk
  rw [← hm]
  clear hk hm hWn
  rw [← XN.out] at h1
  have P1 := hid h1
  have B1 := hid (hc1.below (B := w.heap.size) (fun x hx => by simp only [List.mem_singleton] at hx; omega) BW.out.size)
  have BW1 := hid (BW.out.trans B1.out)
  have M0 := hid (show NdV w.heap.size (nodeL 0 0) w1 from hc1.heap N0.out (by simp only [List.mem_singleton]; omega))
  have M1 := hid (hc1.heap N1.out (by simp only [List.mem_singleton]; omega))
  have M2 := hid (hc1.heap N2.out (by simp only [List.mem_singleton]; omega))
  have M4 := hid (hc1.heap N4.out (by simp only [List.mem_singleton]; omega))
  clear h1 hc1 PX N0 N1 N2 N4 BW B1
  obtain ⟨g, hg⟩ : ∃ g, g = w.heap.size := ⟨_, rfl⟩
  rw [← hg] at P1 M0 M1 M2 M4 ⊢
  have HG := hid hg
  clear hg
  have L0 := hid (show NdV g (o.cells (.slice ao m cc)) (w1.setRow g (o.cells (.slice ao m cc)).toArray) from heap_setRow_at M0.out)
  have L1 := hid (heap_setRow_far M1.out (show g + 1 ≠ g by omega) (o.cells (.slice ao m cc)).toArray)
  have L2 := hid (heap_setRow_far M2.out (show g + 1 + 1 ≠ g by omega) (o.cells (.slice ao m cc)).toArray)
  have L3 := hid (heap_setRow_far (show w1.heap[g + 1 + 1 + 1]? = some (.cells #[.slice (some ⟨tb, tf, none⟩) n tc, .int .i64 (n : Int)] 245 (0, 0)) from by have := P1.out.py.par; rw [← XN.out] at this; exact this) (show g + 1 + 1 + 1 ≠ g by omega) (o.cells (.slice ao m cc)).toArray)
  have L4 := hid (heap_setRow_far M4.out (show g + 1 + 1 + 1 + 1 ≠ g by omega) (o.cells (.slice ao m cc)).toArray)
  have BL := hid (((Chg.of_below (F := []) BW1.out).setRow (F := []) (.inr (Nat.le_of_eq HG.out.symm)) (o.cells (.slice ao m cc)).toArray).nil_below)
  have KL := hid (show KidsV (w1.setRow g (o.cells (.slice ao m cc)).toArray) (Wn ≤ ·) (.slice ao ks.len cc) ks from KK.out.put (by have := SW.out.1; rw [← HG.out] at this; show ¬ Wn ≤ g; omega) _)
  have q4 : (w1.setRow g (o.cells (.slice ao m cc)).toArray).cell? ⟨g + 1 + 1 + 1 + 1, 0, none⟩ = some (.pointer (some ⟨g + 1 + 1 + 1, 0, none⟩)) := cell_of L4.out rfl
  have q3 : (w1.setRow g (o.cells (.slice ao m cc)).toArray).cell? ⟨g + 1 + 1 + 1, 1, none⟩ = some (.int .i64 (n : Int)) := cell_of L3.out rfl
  go_wp2_with (refine wpList_store_row rfl 79 _ _ rfl g (o.cells (.slice ao m cc)).toArray rfl rfl 79 _ M0.out (node_info 0 0) (by rfl) (ow_one o ao m cc) ?_)
  generalize World.setRow _ _ _ = w2 at L0 L1 L2 L3 L4 BL KL q4 q3 ⊢
  have E2 := hid (show Env w2 from XEnv.out.below BL.out)
  clear q4 q3 P1 M0 M1 M2 M4 BW1
  refine (must_yes _).mono ?_
  rintro e w3 ⟨rfl, rfl⟩
  go_wp2_with (refine wpList_load_row rfl 79 _ rfl g rfl 79 _ (0, 0) _ L0.out Tryz.underlying79 rfl (ow_info o (.slice ao m cc)) ?_)
  refine (show Calls Tryz.prog 96 #[.agg (o.cells (.slice ao m cc)).toArray] w2 fun e w' => e = .returned (.bool true) ∧ Below w2.heap.size w2 w' from by rw [XM.out]; exact XR.out w2 _ ao cc E2.out.tabs KL.out).mono ?_
  rintro e w3 ⟨rfl, b3⟩
  have K3 := hid (KL.out.keep b3)
  have K0 := hid (show NdV g (o.cells (.slice ao m cc)) w3 from (b3.block _ (heap_lt L0.out)).trans L0.out)
  have K1 := hid ((b3.block _ (heap_lt L1.out)).trans L1.out)
  have K2 := hid ((b3.block _ (heap_lt L2.out)).trans L2.out)
  have BK := hid (BL.out.trans (b3.mono BL.out.size))
  clear b3 L0 L1 L2 L3 L4 BL
  have f1 : (w3.setRow g (o.cells (.slice ao m cc)).toArray).frozen? ⟨g + 1, 0, none⟩ = false := free_of (heap_setRow_far K1.out (show g + 1 ≠ g by omega) _)
  have f2 : (w3.setRow g (o.cells (.slice ao m cc)).toArray).frozen? ⟨g + 1 + 1, 0, none⟩ = false := free_of (heap_setRow_far K2.out (show g + 1 + 1 ≠ g by omega) _)
  have d1 : (w3.setRow g (o.cells (.slice ao m cc)).toArray).cell? ⟨g + 1, 0, none⟩ = some (.int .i64 0) := cell_of (heap_setRow_far K1.out (show g + 1 ≠ g by omega) _) rfl
  have d2 : (w3.setRow g (o.cells (.slice ao m cc)).toArray).cell? ⟨g + 1 + 1, 0, none⟩ = some (.int .i64 0) := cell_of (heap_setRow_far K2.out (show g + 1 + 1 ≠ g by omega) _) rfl
  go_wp2_with (first | (refine wpList_load_row rfl 79 _ rfl g rfl 79 _ (0, 0) _ K0.out Tryz.underlying79 rfl (ow_info o (.slice ao m cc)) ?_) | (refine wpList_store_row rfl 79 _ _ rfl g (o.cells (.slice ao m cc)).toArray rfl rfl 79 _ K0.out (ow_info o (.slice ao m cc)) (by rfl) (ow_one o ao m cc) ?_))
  refine leaves_cons (f := 150) (args := #[.pointer (some ⟨g + 1 + 1 + 1 + 1, 0, none⟩), .pointer (some ⟨g, 0, none⟩), .pointer (some ⟨g + 1, 0, none⟩), .pointer (some ⟨g + 1 + 1, 0, none⟩)]) (by simp) (by simp [go_sem]) ?_
  refine (parse1_idle _ _ _ _ _).mono ?_
  rintro e u' w4 ⟨rfl, rfl, rfl⟩
  have R0 : NdV g (o.cells (.slice ao m cc)) (((w3.setRow g (o.cells (.slice ao m cc)).toArray).setCell ⟨g + 1, 0, none⟩ (.int .i64 0)).setCell ⟨g + 1 + 1, 0, none⟩ (.int .i64 0)) := heap_setCell_far (heap_setCell_far (heap_setRow_at K0.out) (by omega) _) (by omega) _
  have R1 : (((w3.setRow g (o.cells (.slice ao m cc)).toArray).setCell ⟨g + 1, 0, none⟩ (.int .i64 0)).setCell ⟨g + 1 + 1, 0, none⟩ (.int .i64 0)).heap[g + 1]? = some (.cells #[.int .i64 0] 3 (0, 0)) := heap_setCell_far (heap_setCell_at (i := 0) (heap_setRow_far K1.out (show g + 1 ≠ g by omega) _) _) (by omega) _
  have R2 : (((w3.setRow g (o.cells (.slice ao m cc)).toArray).setCell ⟨g + 1, 0, none⟩ (.int .i64 0)).setCell ⟨g + 1 + 1, 0, none⟩ (.int .i64 0)).heap[g + 1 + 1]? = some (.cells #[.int .i64 0] 31 (0, 0)) := heap_setCell_at (i := 0) (heap_setCell_far (heap_setRow_far K2.out (show g + 1 + 1 ≠ g by omega) _) (show g + 1 + 1 ≠ g + 1 by omega) _) _
  have BR : Below w.heap.size w (((w3.setRow g (o.cells (.slice ao m cc)).toArray).setCell ⟨g + 1, 0, none⟩ (.int .i64 0)).setCell ⟨g + 1 + 1, 0, none⟩ (.int .i64 0)) := ((((Chg.of_below (F := []) BK.out).setRow (F := []) (.inr (Nat.le_of_eq HG.out.symm)) (o.cells (.slice ao m cc)).toArray).nil_below).setCell (by rw [← HG.out]; show g ≤ g + 1; omega) _).setCell (by rw [← HG.out]; show g ≤ g + 1 + 1; omega) _
  have KR : KidsV (((w3.setRow g (o.cells (.slice ao m cc)).toArray).setCell ⟨g + 1, 0, none⟩ (.int .i64 0)).setCell ⟨g + 1 + 1, 0, none⟩ (.int .i64 0)) (Wn ≤ ·) (.slice ao ks.len cc) ks := by
    have hs := SW.out.1
    rw [← HG.out] at hs
    exact K3.out.chg (F := [g, g + 1, g + 1 + 1]) ((((Chg.refl _ w3).setRow (.inl (by simp)) _).setCell (.inl (by simp)) _).setCell (.inl (by simp)) _) (by intro x hx; simp only [List.mem_cons, List.not_mem_nil, or_false] at hx; show ¬ Wn ≤ x; omega)
  generalize World.setCell (World.setCell _ _ _) _ _ = w4 at R0 R1 R2 BR KR ⊢
  have hl0 := run_loadVar_row (P := Tryz.prog) w4 g 79 79 (o.cells (.slice ao m cc)).toArray (0, 0) _ R0 Tryz.underlying79 rfl (ow_info o (.slice ao m cc))
  have c1 : w4.cell? ⟨g + 1, 0, none⟩ = some (.int .i64 0) := cell_of R1 rfl
  have c2 : w4.cell? ⟨g + 1 + 1, 0, none⟩ = some (.int .i64 0) := cell_of R2 rfl
  have hl1 : (loadVar 3 ⟨g + 1, 0, none⟩).run Tryz.prog w4 = .ok (.int .i64 0) w4 := by simp [go_sem, c1]
  have hl2 : (loadVar 31 ⟨g + 1 + 1, 0, none⟩).run Tryz.prog w4 = .ok (.int .i64 0) w4 := by simp [go_sem, c2]
  exact ⟨_, results_three rfl _ _ _ _ _ _ _ _ rfl rfl rfl hl0 hl1 hl2, ao, cc, by rw [XM.out], KR.mono (fun x hx => Nat.le_trans SW.out.2 hx), BR⟩
end
end Go.Proofs.YtpcjfgihglfdgaaGreatDoor

namespace Go.Proofs.YtpcjfgihglfdgaaGreatDoor
open Go.RowKit Go.Lib

theorem results_row_tmps {fn : Func} {p q r : Tmp} {t1 : TypeId} (h : fn.results = #[.cell p t1, .tmp q, .tmp r]) (tmps : Array Value) (w : World) (a1 : Addr) (v1 v2 v3 : Value)
    (hp : tmps.getD p undef = .pointer (some a1)) (hq : tmps.getD q undef = v2) (hr : tmps.getD r undef = v3)
    (h1 : (loadVar t1 a1).run Tryz.prog w = .ok v1 w) : (results fn tmps).run Tryz.prog w = .ok (.tuple #[v1, v2, v3]) w := by
  have hp' : tmps[p]?.getD undef = .pointer (some a1) := by simpa using hp
  have hq' : tmps[q]?.getD undef = v2 := by simpa using hq
  have hr' : tmps[r]?.getD undef = v3 := by simpa using hr
  simp [results, h, hp', hq', hr', asAddr, h1, Result.andThen]
end Go.Proofs.YtpcjfgihglfdgaaGreatDoor

namespace Go.Proofs.YtpcjfgihglfdgaaGreatDoor
open Go.RowKit Go.Lib

/-- pieces as the parser reads them: each with its place -/
def tp : Nat → List (Int × ByteArray × Nat) → List (Int × ByteArray × Nat)
  | _, [] => []
  | a, p :: ps => (p.1, p.2.1, a) :: tp (a + p.2.2) ps
theorem tp_len : ∀ (a : Nat) (ps : List (Int × ByteArray × Nat)), (tp a ps).length = ps.length
  | _, [] => rfl
  | a, p :: ps => by rw [tp, List.length_cons, tp_len, List.length_cons]
theorem tp_toks : ∀ (a : Nat) (ps : List (Int × ByteArray × Nat)) (j : Nat) (t : Int × ByteArray × Nat), (tp a ps)[j]? = some t → (toks a ps)[j]? = some (tokV t.1 t.2.1 t.2.2)
  | _, [], _, _, h => by cases h
  | a, p :: ps, 0, t, h => by
    have e : (p.1, p.2.1, a) = t := Option.some.inj h
    subst e
    rfl
  | a, p :: ps, j + 1, t, h => tp_toks (a + p.2.2) ps j t h
/-- a text that is read as a tree -/
structure Reads (l : List UInt8) (o : Ow) (ks : Fo) : Prop where
  read : ∃ ps, Pieces l 0 ps ∧ 0 < ps.length ∧ ps.length ≤ 100 ∧ ExprOk (tp 0 ps) 0 1 o ks (tp 0 ps).length
  right : RightOk o ks
  len : l.length ≤ 199
set_option maxRecDepth 20000 in
set_option maxHeartbeats 2000000 in
theorem treeRead_any {l : List UInt8} {o : Ow} {ks : Fo} (h : Reads l o ks) (w : World) (he : Env w) : Calls Tryz.prog 44 #[.string (bs l)] w fun e w' => ∃ ao c, e = .returned (.tuple #[.agg (o.cells (.slice ao ks.len c)).toArray, .int .i64 0, .int .i64 0]) ∧ KidsV w' (w.heap.size ≤ ·) (.slice ao ks.len c) ks ∧ Below w.heap.size w w' := by
  obtain ⟨⟨ps, h1, h2, h3, h4⟩, h5, h6⟩ := h
  have N0 := hid (show NdV w.heap.size (nodeL 0 0) (w.alloc (.cells (nodeL 0 0).toArray 79)) from heap_alloc_new w _)
  have B0 := hid ((Below.refl w.heap.size w).alloc (Nat.le_refl _) (.cells (nodeL 0 0).toArray 79))
  obtain ⟨g, hg⟩ : ∃ g, g = w.heap.size := ⟨_, rfl⟩
  obtain ⟨n, hn⟩ : ∃ n, n = ks.len := ⟨_, rfl⟩
  have XN := hid hn
  have X1 := hid h1
  have X2 := hid h2
  have X3 := hid h3
  have X4 := hid h4
  have X5 := hid h5
  have X6 := hid h6
  have XE := hid he
  clear h1 h2 h3 h4 h5 h6 he hn
  go_enter Tryz.func44, Tryz.ntmps44
  go_wp2_with fail
  generalize World.alloc _ _ = w0 at N0 B0 ⊢
  rw [← hg] at N0 ⊢
  have HG := hid hg
  clear hg
  refine (tokens_any l ps X1.out (by have := X3.out; omega) (by have := X6.out; omega) w0 (XE.out.below B0.out)).mono ?_
  rintro e w1 ⟨⟨v, rfl, ⟨a, c, rfl⟩, hr⟩, b1⟩
  obtain ⟨ao, c', b, off, e1, -, hr⟩ := hr
  rw [toks_len] at e1
  simp only [Value.slice.injEq, true_and] at e1
  obtain ⟨rfl, rfl⟩ := e1
  obtain ⟨t0, ht0⟩ : ∃ t0, (tp 0 ps)[0]? = some t0 := ⟨_, List.getElem?_eq_getElem (by rw [tp_len]; exact X2.out)⟩
  obtain ⟨rfl, hc0⟩ := hr 0 _ (tp_toks 0 ps 0 t0 ht0)
  have hlt := World.block_lt_of_cell? _ _ (hc0 0 _ rfl)
  have N1 := hid (show NdV g (nodeL 0 0) w1 from (b1.block _ (heap_lt N0.out)).trans N0.out)
  have B1 := hid (B0.out.trans (b1.mono B0.out.size))
  have HP := hid (parse_any X4.out X5.out (by rw [tp_len]; exact X3.out) w1 (XE.out.below B1.out) b off c hlt (fun j t hj => by
    have h := (hr j _ (tp_toks 0 ps j t hj)).2
    exact ⟨h 0 _ rfl, h 1 _ rfl, h 2 _ rfl⟩))
  rw [tp_len] at HP
  rw [← XN.out] at HP
  clear hr hc0 ht0 hlt b1 N0 B0
  go_wp2_with fail
  refine HP.out.mono ?_
  rintro e w2 ⟨ao, cc, rfl, hk, b2⟩
  have hlt := heap_lt (show NdV g (nodeL 0 0) w2 from (b2.block _ (heap_lt N1.out)).trans N1.out)
  have N2 := hid (show NdV g (nodeL 0 0) ((w2.alloc (.cells (nodeL 0 0).toArray 79)).setRow w2.heap.size (o.cells (.slice ao n cc)).toArray) from heap_setRow_far (heap_alloc_keep ((b2.block _ (heap_lt N1.out)).trans N1.out) _) (Nat.ne_of_lt hlt) _)
  have M2 := hid (show NdV w2.heap.size (o.cells (.slice ao n cc)) ((w2.alloc (.cells (nodeL 0 0).toArray 79)).setRow w2.heap.size (o.cells (.slice ao n cc)).toArray) from heap_setRow_at (heap_alloc_new w2 _))
  have cc2 := ((Chg.refl [] w2).alloc (.cells (nodeL 0 0).toArray 79)).setRow (F := []) (g := w2.heap.size) (.inr (Nat.le_refl _)) (o.cells (.slice ao n cc)).toArray
  have B2 := hid ((B1.out.trans (b2.mono B1.out.size)).trans (cc2.nil_below.mono (Nat.le_trans B1.out.size b2.size)))
  have hg1 : g < w1.heap.size := heap_lt N1.out
  have K2 := hid (And.intro hg1 (hk.keep cc2.nil_below))
  have S1 := hid B1.out.size
  clear b2 hlt N1 B1 HP hk cc2 hg1
  go_wp2_with (first | (refine wpList_store_row rfl 79 _ _ rfl w2.heap.size (o.cells (.slice ao n cc)).toArray rfl rfl 79 _ (heap_alloc_new w2 _) (node_info 0 0) (by rfl) (ow_one o ao n cc) ?_) | (refine wpList_load_row rfl 79 _ rfl w2.heap.size rfl 79 _ (0, 0) _ M2.out Tryz.underlying79 rfl (ow_info o (.slice ao n cc)) ?_) | (refine wpList_store_row rfl 79 _ _ rfl g (o.cells (.slice ao n cc)).toArray rfl rfl 79 _ N2.out (node_info 0 0) (by rfl) (ow_one o ao n cc) ?_))
  refine bodyPost_ret (v := .tuple #[.agg (o.cells (.slice ao n cc)).toArray, .int .i64 0, .int .i64 0]) (results_row_tmps rfl _ _ ⟨g, 0, none⟩ _ _ _ rfl rfl rfl (run_loadVar_row (P := Tryz.prog) _ g 79 79 (o.cells (.slice ao n cc)).toArray (0, 0) _ (heap_setRow_at N2.out) Tryz.underlying79 rfl (ow_info o (.slice ao n cc)))) rfl ?_
  refine ⟨ao, cc, by rw [XN.out], ?_, ((Chg.of_below (F := []) B2.out).setRow (F := []) (.inr (Nat.le_of_eq HG.out.symm)) _).nil_below⟩
  rw [← XN.out]
  have k := K2.out.2
  exact (k.put (Nat.not_le.2 K2.out.1) _).mono (fun x hx => Nat.le_trans S1.out hx)
set_option maxRecDepth 20000 in
set_option maxHeartbeats 2000000 in
theorem formula_any {l : List UInt8} {o : Ow} {ks : Fo} (h : Reads l o ks) (w : World) (he : Env w) : Calls Tryz.prog 68 #[.string (bs (61 :: l))] w fun e w' => ∃ ao c, e = .returned (.tuple #[.agg (o.cells (.slice ao ks.len c)).toArray, .bool true]) ∧ KidsV w' (w.heap.size ≤ ·) (.slice ao ks.len c) ks ∧ Below w.heap.size w w' := by
  obtain ⟨n, hn⟩ : ∃ n, n = ks.len := ⟨_, rfl⟩
  obtain ⟨s, hs⟩ : ∃ s, s = bs (61 :: l) := ⟨_, rfl⟩
  have XN := hid hn
  have XH := hid h
  have XE := hid he
  have XC := hid (fun w => show Calls Tryz.prog 43 #[.string s, .string ⟨#[61]⟩] w fun e w' => e = .returned (.tuple #[.string (bs l), .bool true]) ∧ w = w' from by rw [hs]; exact cutPrefix_yes [61] l w)
  have hsz : s.size ≤ 200 := by rw [hs, bs_size, List.length_cons]; have := h.len; omega
  have hsz' : ¬ (200 < (s.size : Int)) := by omega
  rw [← hs]
  clear hn h he hs
  have N0 := hid (show NdV w.heap.size (nodeL 0 0) (w.alloc (.cells (nodeL 0 0).toArray 79)) from heap_alloc_new w _)
  have B0 := hid ((Below.refl w.heap.size w).alloc (Nat.le_refl _) (.cells (nodeL 0 0).toArray 79))
  obtain ⟨g, hg⟩ : ∃ g, g = w.heap.size := ⟨_, rfl⟩
  go_enter Tryz.func68, Tryz.ntmps68
  go_wp2_with fail
  generalize World.alloc _ _ = w0 at N0 B0 ⊢
  rw [← hg] at N0 ⊢
  have HG := hid hg
  clear hg
  refine (XC.out _).mono ?_
  rintro e w1 ⟨rfl, rfl⟩
  go_wp2_with fail
  refine (treeRead_any XH.out w0 (XE.out.below B0.out)).mono ?_
  rintro e w2 ⟨ao, cc, rfl, hk, b2⟩
  have hlt := heap_lt (show NdV g (nodeL 0 0) w2 from (b2.block _ (heap_lt N0.out)).trans N0.out)
  rw [← XN.out] at hk ⊢
  have N2 := hid (show NdV g (nodeL 0 0) ((w2.alloc (.cells (nodeL 0 0).toArray 79)).setRow w2.heap.size (o.cells (.slice ao n cc)).toArray) from heap_setRow_far (heap_alloc_keep ((b2.block _ (heap_lt N0.out)).trans N0.out) _) (Nat.ne_of_lt hlt) _)
  have M2 := hid (show NdV w2.heap.size (o.cells (.slice ao n cc)) ((w2.alloc (.cells (nodeL 0 0).toArray 79)).setRow w2.heap.size (o.cells (.slice ao n cc)).toArray) from heap_setRow_at (heap_alloc_new w2 _))
  have cc2 := ((Chg.refl [] w2).alloc (.cells (nodeL 0 0).toArray 79)).setRow (F := []) (g := w2.heap.size) (.inr (Nat.le_refl _)) (o.cells (.slice ao n cc)).toArray
  have B2 := hid ((B0.out.trans (b2.mono B0.out.size)).trans (cc2.nil_below.mono (Nat.le_trans B0.out.size b2.size)))
  have hg1 : g < w0.heap.size := heap_lt N0.out
  have K2 := hid (And.intro hg1 (hk.keep cc2.nil_below))
  have S1 := hid B0.out.size
  clear b2 hlt N0 B0 hk cc2 hg1
  go_wp2_with (first | (refine wpList_store_row rfl 79 _ _ rfl w2.heap.size (o.cells (.slice ao n cc)).toArray rfl rfl 79 _ (heap_alloc_new w2 _) (node_info 0 0) (by rfl) (ow_one o ao n cc) ?_) | (refine wpList_load_row rfl 79 _ rfl w2.heap.size rfl 79 _ (0, 0) _ M2.out Tryz.underlying79 rfl (ow_info o (.slice ao n cc)) ?_) | (refine wpList_store_row rfl 79 _ _ rfl g (o.cells (.slice ao n cc)).toArray rfl rfl 79 _ N2.out (node_info 0 0) (by rfl) (ow_one o ao n cc) ?_))
  refine bodyPost_ret (v := .tuple #[.agg (o.cells (.slice ao n cc)).toArray, .bool true]) (results_row_tmp rfl _ _ g _ _ rfl rfl (run_loadVar_row (P := Tryz.prog) _ g 79 79 (o.cells (.slice ao n cc)).toArray (0, 0) _ (heap_setRow_at N2.out) Tryz.underlying79 rfl (ow_info o (.slice ao n cc)))) rfl ?_
  refine ⟨ao, cc, by rw [XN.out], ?_, ((Chg.of_below (F := []) B2.out).setRow (F := []) (.inr (Nat.le_of_eq HG.out.symm)) _).nil_below⟩
  rw [← XN.out]
  exact (K2.out.2.put (Nat.not_le.2 K2.out.1) _).mono (fun x hx => Nat.le_trans S1.out hx)
set_option maxRecDepth 20000 in
set_option maxHeartbeats 1000000 in
theorem input_any {l : List UInt8} {o : Ow} {ks : Fo} (h : Reads l o ks) (w : World) (he : Env w) : Calls Tryz.prog 29 #[.string (bs (61 :: l))] w fun e w' => e = .returned (.bool true) ∧ Below w.heap.size w w' := by
  obtain ⟨n, hn⟩ : ∃ n, n = ks.len := ⟨_, rfl⟩
  have hix := index_bs0 (l := 61 :: l) (b := 61) rfl
  have e61 : ((61 : UInt8).toNat : Int) = 61 := rfl
  rw [e61] at hix
  clear e61
  have htl : (bs (61 :: l)).toList = 61 :: l := bs_toList _
  obtain ⟨s, hs⟩ : ∃ s, s = bs (61 :: l) := ⟨_, rfl⟩
  have XH := hid (show Calls Tryz.prog 68 #[.string s] w fun e w' => ∃ ao c, e = .returned (.tuple #[.agg (o.cells (.slice ao n c)).toArray, .bool true]) ∧ KidsV w' (w.heap.size ≤ ·) (.slice ao n c) ks ∧ Below w.heap.size w w' from by rw [hs, hn]; exact formula_any h w he)
  have hsz : s.size ≤ 200 := by rw [hs, bs_size, List.length_cons]; have := h.len; omega
  have hsz' : ¬ (200 < (s.size : Int)) := by omega
  rw [← hs] at hix htl ⊢
  have hpos : 0 < s.size := by rw [hs, bs_size]; simp
  have h1 : (s.toList == []) = false := by rw [htl]; rfl
  have h2 : (s.toList = []) = False := by rw [htl]; simp
  have h3 : s.toList.isEmpty = false := by rw [htl]; rfl
  clear hn h he hs htl
  go_enter Tryz.func29, Tryz.ntmps29
  go_wp2_with fail
  refine XH.out.mono ?_
  rintro e w1 ⟨ao, cc, rfl, hk, b1⟩
  have N1 := heap_alloc_new w1 (.cells (nodeL 0 0).toArray 79)
  have BB := hid ((((Chg.of_below (F := []) b1).alloc (.cells (nodeL 0 0).toArray 79)).setRow (F := []) (g := w1.heap.size) (.inr b1.size) (o.cells (.slice ao n cc)).toArray).nil_below)
  clear b1 hk
  go_wp2_with (refine wpList_store_row rfl 79 _ _ rfl w1.heap.size (o.cells (.slice ao n cc)).toArray rfl rfl 79 _ N1 (node_info 0 0) (by rfl) (ow_one o ao n cc) ?_)
  go_ret
  exact ⟨rfl, BB.out⟩
end Go.Proofs.YtpcjfgihglfdgaaGreatDoor
