/- Contract of book.Set at a workbook of two sheets: an input is taken out again. Condition: utf8's tables lie as they were laid. -/
import Derived.Test.YthkjmplcmfabfaaGreatDoorSpSetF
namespace Go.Proofs.YthkjmplcmfabfaaGreatDoor
open Go.RowKit Go.Lib

theorem cls_del {w : World} {B i : Nat} {v : Value} {tx : PAt → ByteArray} {L : List PAt} {p : PAt} (hi : i = cutP p L)
    (h : w.ownsRow B 58 3 v ((putP p L).length - 1) (((putP p L).flatMap (cellC tx)).take (i * 3) ++ ((putP p L).flatMap (cellC tx)).drop ((i + 1) * 3))) : ClsOwn w B v tx L := by
  rw [(cls_take tx _ i).1, (cls_take tx _ (i + 1)).2, ← List.flatMap_append, hi, put_out, putP_length] at h
  exact h
set_option maxRecDepth 20000 in
set_option maxHeartbeats 2000000 in
theorem setOut_any (w : World) (hT : Tabs w) (v : Value) (A : List PAt) (tx : PAt → ByteArray) (p : PAt) (h : BookAt w v (putP p A) tx) (hp : InTwo p) (hpA : p ∉ A) (hRA : Rising A) :
    Calls Tryz.prog 9 #[v, atV p, .string ⟨#[]⟩] w fun e w' => (∃ ov, e = .returned (.tuple #[ov, .int .i64 0]) ∧ BookAt w' ov A tx) ∧ Below w.heap.size w w' := by
  obtain ⟨pn, r, k⟩ := p
  obtain ⟨n, hn⟩ : ∃ n : Nat, pn = (n : Int) := Int.eq_ofNat_of_zero_le hp.1
  subst hn
  have hn2 : n < 2 := by have := hp.2.1; dsimp only at this; omega
  have HTH := hid (fun (y : World) (hb : Below w.heap.size w y) => there_two y (hT.below hb) v _ tx (h.below hb) ((n : Int), r, k) hp)
  have HCP := hid (fun (y : World) (hb : Below w.heap.size w y) => copied_any y v _ tx (h.below hb))
  have HR := hid h.rise
  have HRA := hid hRA
  have HFW := hid h.few
  have HTW := hid h.two
  have HOK := hid h.ok
  have HPT := hid hp
  have HPA := hid hpA
  obtain ⟨⟨b, off, bc, v0, v1, hbc, rfl, -⟩, -, two, few, ok⟩ := h
  have W1 : Sw w b off bc ((n : Int), r, k) (((w.alloc (.cells (bookC b off bc) 30)).alloc (.cells #[.int .i64 n, .int .i64 r, .int .i64 k] 38)).alloc (.cells #[.slice none 0 0, .slice none 0 0, .slice none 0 0, .slice none 0 0] 30)) :=
    ⟨heap_alloc_keep (heap_alloc_keep (heap_alloc_new w _) _) _, heap_alloc_keep (heap_alloc2_new w _ _) _, heap_alloc3_new w _ _ _, (((Below.refl w.heap.size w).alloc (Nat.le_refl _) _).alloc (by simp) _).alloc (by simp; omega) _⟩
  clear hT hp hpA hRA
  unfold atV at *
  dsimp only at HTH ⊢
  go_enter Tryz.func9, Tryz.ntmps9
  go_wp2_with fail
  refine (HTH.out _ W1.low).mono ?_
  rintro e w3 ⟨rfl, b3⟩
  have HW3 := hid (W1.keep b3)
  have q0 : w3.cell? ⟨w.heap.size, 0, none⟩ = some (.slice (some ⟨b, off, none⟩) 2 bc) := cell_of HW3.out.bk rfl
  have q1 : w3.cell? ⟨w.heap.size, 1, none⟩ = some (.slice none 0 0) := cell_of HW3.out.bk rfl
  have q2 : w3.cell? ⟨w.heap.size, 2, none⟩ = some (.slice none 0 0) := cell_of HW3.out.bk rfl
  have q3 : w3.cell? ⟨w.heap.size, 3, none⟩ = some (.slice none 0 0) := cell_of HW3.out.bk rfl
  clear b3 W1 HTH
  go_wp2_with fail
  refine (HCP.out _ HW3.out.low).mono ?_
  rintro e w4 ⟨⟨ov, rfl, hov⟩, b4⟩
  obtain ⟨gs, gc, rfl⟩ := hov.view
  have HOV := hid hov
  have HB4 := hid b4
  clear hov b4 HCP q0 q1 q2 q3
  have hn0 : (0 : Int) ≤ (n : Int) := by omega
  have hn3 : (n : Int) < 2 := by omega
  have S4 := HW3.out.keep HB4.out
  have a0 : w4.cell? ⟨w.heap.size + 1, 0, none⟩ = some (.int .i64 n) := cell_of S4.at' rfl
  have hlt := heap_lt S4.at'
  have hst := HW3.out.start (n := n) HB4.out HOV.out hn2 (z' := w4.alloc (.cells #[.slice (some ⟨gs, 0, none⟩) 2 gc, .slice none 0 0, .slice none 0 0, .slice none 0 0] 30)) ((Below.refl _ w4).alloc (Nat.le_refl _) _) (heap_alloc_new w4 _)
  clear S4 HOV HB4 HW3
  go_wp2_with fail
  clear a0 hlt
  generalize World.alloc w4 _ = w5 at hst ⊢
  generalize w4.heap.size = D at hst ⊢
  generalize w3.heap.size = B at hst ⊢
  obtain ⟨hgc, un, uo, Y5⟩ := hst
  have HY5 := hid Y5
  obtain ⟨ua, um, uc, rfl, hum⟩ := Y5.this.view
  clear Y5 hum
  obtain ⟨L, hL⟩ : ∃ L, L = onSheet (putP ((n : Int), r, k) A) (n : Int) := ⟨_, rfl⟩
  obtain ⟨M, hM⟩ : ∃ M, M = onSheet (putP ((n : Int), r, k) A) ((1 - n : Nat) : Int) := ⟨_, rfl⟩
  rw [← hL, ← hM] at HY5
  have HL := hid hL
  have HM := hid hM
  obtain ⟨i, hi⟩ : ∃ i, i = cutP ((n : Int), r, k) L := ⟨_, rfl⟩
  have HI := hid hi
  have hL0 : L = putP ((n : Int), r, k) (onSheet A (n : Int)) := by rw [hL]; exact onSheet_put HRA.out HPA.out
  have HL0 := hid hL0
  have HI0 := hid (show i = cutP ((n : Int), r, k) (onSheet A (n : Int)) by rw [hi, hL0]; exact cutP_put _ _)
  have HM0 := hid (show M = onSheet A ((1 - n : Nat) : Int) by rw [hM]; exact onSheet_put_far HRA.out HPA.out (by dsimp only; omega))
  clear hL0
  have HFI := hid (fun (y : World) (hc : CellsIn y (.slice ua um uc) tx L) => show Calls Tryz.prog 24 #[.slice ua um uc, .agg #[.int .i64 n, .int .i64 r, .int .i64 k]] y fun e w' => e = .returned (.tuple #[.int .i64 (i : Int), .bool true]) ∧ Below y.heap.size y w' by
    have := find_any y (.slice ua um uc) tx L ((n : Int), r, k) (fun q hq => by rw [HL.out] at hq; exact (onSheet_mem.1 hq).1) hc (by rw [HL.out]; exact onSheet_rising HR.out _) (by rw [HL.out]; exact Nat.le_trans (onSheet_le _ _) (by have := HFW.out; omega))
    rw [decide_eq_true (show ((n : Int), r, k) ∈ L by rw [HL0.out]; exact put_in _ _), ← HI.out] at this
    exact this)
  have HKC := hid (fun (y : World) (h : Sy w ((n : Int), r, k) D gs gc n B (.slice ua um uc) uo L M tx y) => show y.cell? ⟨gs, n * 2 + 1, none⟩ = some (.slice ua um uc) ∧ y.cell? ⟨w.heap.size + 1, 0, none⟩ = some (.int .i64 n) ∧ y.cell? ⟨w.heap.size + 1, 1, none⟩ = some (.int .i64 r) ∧ y.cell? ⟨w.heap.size + 1, 2, none⟩ = some (.int .i64 k) from ⟨by obtain ⟨cs, hs, _, _, h2, _⟩ := h.sh; exact cell_of hs h2, cell_of h.at' rfl, cell_of h.at' rfl, cell_of h.at' rfl⟩)
  have HYD := hid (HY5.out.keep (Below.refl w5.heap.size w5).drew)
  have HS5 := hid (HKC.out _ HYD.out)
  clear hL hM hi hbc two few ok
  go_region_held (fun y => y.cell? ⟨gs, n * 2 + 1, none⟩ = some (.slice ua um uc) ∧ y.cell? ⟨w.heap.size + 1, 0, none⟩ = some (.int .i64 n) ∧ y.cell? ⟨w.heap.size + 1, 1, none⟩ = some (.int .i64 r) ∧ y.cell? ⟨w.heap.size + 1, 2, none⟩ = some (.int .i64 k)) (first | with_reducible exact HS5.out | with_reducible exact HS6.out) (first | (go_at_call 24; refine (HFI.out _ HYD.out.this.read).mono ?_; rintro e w6 ⟨rfl, b6⟩; have HY6 := hid (HYD.out.keep b6); have HS6 := hid (HKC.out _ HY6.out); clear b6))
  clear HFI HS5 HYD HY5 HKC
  have hil : i < L.length := by rw [HI0.out, HL0.out, putP_length]; have := cutP_le ((n : Int), r, k) (onSheet A (n : Int)); omega
  have HDEL := hid (delOwn_any w6 B (.slice ua um uc) L.length i (L.flatMap (cellC tx)) HY6.out.this (cls_one tx L) hil)
  have hll : L.length ≤ 13 := by rw [HL.out]; exact Nat.le_trans (onSheet_le _ _) HFW.out
  have hw : IntKind.i64.wrap ((i : Int) + 1) = (i : Int) + 1 := by rw [IntKind.wrap_i64]; omega
  have m0 : w6.cell? ⟨gs, n * 2 + 1, none⟩ = some (.slice ua um uc) := HS6.out.1
  clear hil hll HS6
  go_wp2_with fail
  refine HDEL.out.mono ?_
  rintro e w8 ⟨⟨v', rfl, ho, hb⟩, hc⟩
  obtain ⟨va, vc, rfl, -⟩ := ownsRow_view ho
  have hsh := HY6.out.sheets hc
  have t0 := hsh.1
  have f0 := hsh.2.1
  have HY9 := hid (HY6.out.put (tx' := tx) (Ln' := onSheet A (n : Int)) hc (cls_del (p := ((n : Int), r, k)) HI0.out (by rw [← HL0.out]; exact ho)) (fun g hg => .inl (hb ▸ hg)) (fun q hq => rfl))
  clear ho hb hc hsh HDEL m0 HY6 hw
  rename_i K1 h1 hh K0 h0
  have H1 := hid h1
  clear h1 hh
  go_wp2_with fail
  refine H1.out _ _ ?_
  clear t0 f0
  generalize World.setCell w8 _ _ = w9 at HY9 ⊢
  have HBF := hid (fun (y z : World) (F : List Nat) (hy : Sy w ((n : Int), r, k) D gs gc n B (.slice va (L.length - 1) vc) uo (onSheet A (n : Int)) M tx y) (hc : Chg F y z) (hF : ∀ x, x ∈ F → x < B) => hy.book hc hF hgc (A := A) rfl HM0.out HRA.out (fun q hq => HTW.out q (putP_mem.2 (.inr hq))) (by have := HFW.out; rw [putP_length] at this; omega) (fun q hq => HOK.out q (putP_mem.2 (.inr hq))))
  have HBK := hid (HBF.out w9 w9 [] HY9.out (Chg.refl [] w9) (by simp))
  have d0 : w9.cell? ⟨D, 0, none⟩ = some (.slice (some ⟨gs, 0, none⟩) 2 gc) := cell_of HY9.out.out rfl
  have d1 : w9.cell? ⟨D, 1, none⟩ = some (.slice none 0 0) := cell_of HY9.out.out rfl
  have d2 : w9.cell? ⟨D, 2, none⟩ = some (.slice none 0 0) := cell_of HY9.out.out rfl
  have d3 : w9.cell? ⟨D, 3, none⟩ = some (.slice none 0 0) := cell_of HY9.out.out rfl
  go_wp2_with fail
  refine (many_any _ _ _ _ HBK.out).mono ?_
  rintro e w10 ⟨⟨m, rfl, hm⟩, b10⟩
  have HY10 := hid (HY9.out.keep b10)
  have hm2 : ¬ ((400 : Int) < (m : Int)) := by omega
  clear HY9 HBK b10 d0 d1 d2 d3
  have d0 : w10.cell? ⟨D, 0, none⟩ = some (.slice (some ⟨gs, 0, none⟩) 2 gc) := cell_of HY10.out.out rfl
  have d1 : w10.cell? ⟨D, 1, none⟩ = some (.slice none 0 0) := cell_of HY10.out.out rfl
  have d2 : w10.cell? ⟨D, 2, none⟩ = some (.slice none 0 0) := cell_of HY10.out.out rfl
  have d3 : w10.cell? ⟨D, 3, none⟩ = some (.slice none 0 0) := cell_of HY10.out.out rfl
  have r0 : w10.cell? ⟨w.heap.size + 1 + 1, 0, none⟩ = some (.slice none 0 0) := cell_of HY10.out.res rfl
  have r1 : w10.cell? ⟨w.heap.size + 1 + 1, 1, none⟩ = some (.slice none 0 0) := cell_of HY10.out.res rfl
  have r2 : w10.cell? ⟨w.heap.size + 1 + 1, 2, none⟩ = some (.slice none 0 0) := cell_of HY10.out.res rfl
  have r3 : w10.cell? ⟨w.heap.size + 1 + 1, 3, none⟩ = some (.slice none 0 0) := cell_of HY10.out.res rfl
  have f0 := free_of (i := 0) HY10.out.res
  have f1 := free_of (i := 1) HY10.out.res
  have f2 := free_of (i := 2) HY10.out.res
  have f3 := free_of (i := 3) HY10.out.res
  go_wp2_with fail
  refine bodyPost_ret (v := .tuple #[.agg (bookC gs 0 gc), .int .i64 0]) (by simp [results, Tryz.results9, go_sem, *]) rfl ?_
  have hlo := HY10.out.lo
  exact ⟨⟨_, rfl, HBF.out _ _ [w.heap.size + 1 + 1] HY10.out (((((Chg.refl _ w10).setCell (.inl (by simp)) _).setCell (.inl (by simp)) _).setCell (.inl (by simp)) _).setCell (.inl (by simp)) _) (fun x hx => by simp only [List.mem_singleton] at hx; omega)⟩, (((HY10.out.low.setCell (by simp; omega) _).setCell (by simp; omega) _).setCell (by simp; omega) _).setCell (by simp; omega) _⟩
end Go.Proofs.YthkjmplcmfabfaaGreatDoor
