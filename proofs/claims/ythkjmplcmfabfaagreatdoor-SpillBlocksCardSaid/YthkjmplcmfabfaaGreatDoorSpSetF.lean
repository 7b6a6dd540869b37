/- Contract of book.Set at a workbook of two sheets: an input is put into a place where none is. Condition: utf8's tables lie as they were laid. -/
import Derived.Test.YthkjmplcmfabfaaGreatDoorSpSetE
namespace Go.Proofs.YthkjmplcmfabfaaGreatDoor
open Go.RowKit Go.Lib

theorem heap_alloc3_new (w : World) (o1 o2 o3 : Obj) : (((w.alloc o1).alloc o2).alloc o3).heap[w.heap.size + 1 + 1]? = some o3 := by
  have h := heap_alloc_new ((w.alloc o1).alloc o2) o3
  simpa using h
def txPut (tx : PAt → ByteArray) (p : PAt) (s : ByteArray) : PAt → ByteArray := fun q => if q = p then s else tx q

theorem txPut_at (tx : PAt → ByteArray) (p : PAt) (s : ByteArray) : txPut tx p s p = s := if_pos rfl
theorem txPut_far {tx : PAt → ByteArray} {p q : PAt} {s : ByteArray} (h : q ≠ p) : txPut tx p s q = tx q := if_neg h
theorem cls_ins {w : World} {B i : Nat} {v : Value} {tx : PAt → ByteArray} {L : List PAt} {p : PAt} {s : ByteArray} (hi : i = cutP p L) (hp : p ∉ L)
    (h : w.ownsRow B 58 3 v (L.length + 1) ((L.flatMap (cellC tx)).take (i * 3) ++ ([.int .i64 p.2.1, .int .i64 p.2.2, .string s] ++ (L.flatMap (cellC tx)).drop (i * 3)))) : ClsOwn w B v (txPut tx p s) (putP p L) := by
  have e0 : ∀ l : List PAt, p ∉ l → l.flatMap (cellC (txPut tx p s)) = l.flatMap (cellC tx) := fun l hl => by
    rw [List.flatMap_def, List.flatMap_def]
    congr 1
    refine List.map_congr_left (fun q hq => ?_)
    unfold cellC
    rw [txPut_far (show q ≠ p from fun e => hl (by rw [← e]; exact hq))]
  unfold ClsOwn
  rw [putP_length]
  have e : (putP p L).flatMap (cellC (txPut tx p s)) = (L.flatMap (cellC tx)).take (i * 3) ++ ([.int .i64 p.2.1, .int .i64 p.2.2, .string s] ++ (L.flatMap (cellC tx)).drop (i * 3)) := by
    unfold putP
    rw [List.flatMap_append, List.flatMap_cons, e0 _ (fun hc => hp (List.mem_of_mem_take hc)), e0 _ (fun hc => hp (List.mem_of_mem_drop hc)), (cls_take tx L i).1, (cls_take tx L i).2, ← hi]
    unfold cellC
    rw [txPut_at]
  rw [e]
  exact h
/-- the sheets behind a change of a row of cells -/
theorem Sy.sheets {w y z : World} {p : PAt} {D gs gc n B : Nat} {un uo : Value} {Ln Lo : List PAt} {tx : PAt → ByteArray} (h : Sy w p D gs gc n B un uo Ln Lo tx y) (hc : Chg (own un) y z) : z.cell? ⟨gs, n * 2 + 1, none⟩ = some un ∧ z.frozen? ⟨gs, n * 2 + 1, none⟩ = false ∧ z.cell? ⟨w.heap.size + 1, 1, none⟩ = some (.int .i64 p.2.1) ∧ z.cell? ⟨w.heap.size + 1, 2, none⟩ = some (.int .i64 p.2.2) := by
  obtain ⟨cs, hs, _, _, h2, _⟩ := h.sh
  have hgs : z.heap[gs]? = some (.cells cs 55 (0, 0)) := hc.heap hs (fun hm => cls_ne_sheet h.this hs (by simpa [own] using hm))
  have lo := h.lo
  have hat := hc.heap h.at' (fun hm => by have := (h.this.low _ (by simpa [own] using hm)).1; omega)
  exact ⟨cell_of hgs h2, free_of hgs, cell_of hat rfl, cell_of hat rfl⟩
set_option maxRecDepth 20000 in
set_option maxHeartbeats 2000000 in
theorem setIn_any (w : World) (hT : Tabs w) (v : Value) (A : List PAt) (tx : PAt → ByteArray) (h : BookAt w v A tx) (p : PAt) (hp : InTwo p) (hpA : p ∉ A) (hA : A.length ≤ 12) (s : ByteArray) (hs : InOk s) (hs0 : ¬ (s.toList = [])) :
    Calls Tryz.prog 9 #[v, atV p, .string s] w fun e w' => (∃ ov, e = .returned (.tuple #[ov, .int .i64 0]) ∧ BookAt w' ov (putP p A) (txPut tx p s)) ∧ Below w.heap.size w w' := by
  obtain ⟨pn, r, k⟩ := p
  obtain ⟨n, hn⟩ : ∃ n : Nat, pn = (n : Int) := Int.eq_ofNat_of_zero_le hp.1
  subst hn
  have hn2 : n < 2 := by have := hp.2.1; dsimp only at this; omega
  have HTH := hid (fun (y : World) (hb : Below w.heap.size w y) => there_two y (hT.below hb) v A tx (h.below hb) ((n : Int), r, k) hp)
  have HIN := hid (fun (y : World) (hb : Below w.heap.size w y) => hs y (hT.below hb))
  have HCP := hid (fun (y : World) (hb : Below w.heap.size w y) => copied_any y v A tx (h.below hb))
  have HR := hid h.rise
  have HTW := hid h.two
  have HOK := hid h.ok
  have HPT := hid hp
  have HSO := hid hs
  have HPA := hid hpA
  have HA := hid hA
  obtain ⟨⟨b, off, bc, v0, v1, hbc, rfl, -⟩, -, two, few, ok⟩ := h
  have W1 : Sw w b off bc ((n : Int), r, k) (((w.alloc (.cells (bookC b off bc) 30)).alloc (.cells #[.int .i64 n, .int .i64 r, .int .i64 k] 38)).alloc (.cells #[.slice none 0 0, .slice none 0 0, .slice none 0 0, .slice none 0 0] 30)) :=
    ⟨heap_alloc_keep (heap_alloc_keep (heap_alloc_new w _) _) _, heap_alloc_keep (heap_alloc2_new w _ _) _, heap_alloc3_new w _ _ _, (((Below.refl w.heap.size w).alloc (Nat.le_refl _) _).alloc (by simp) _).alloc (by simp; omega) _⟩
  clear hT hs hp hpA hA
  have hs1 : s.toList.isEmpty = false := by cases h : s.toList with | nil => exact absurd h hs0 | cons x l => rfl
  unfold atV at *
  dsimp only at HTH ⊢
  go_enter Tryz.func9, Tryz.ntmps9
  go_wp2_with fail
  refine (HTH.out _ W1.low).mono ?_
  rintro e w2 ⟨rfl, b2⟩
  have HW2 := hid (W1.keep b2)
  have q0 : w2.cell? ⟨w.heap.size, 0, none⟩ = some (.slice (some ⟨b, off, none⟩) 2 bc) := cell_of HW2.out.bk rfl
  clear b2 W1 HTH
  go_wp2_with fail
  refine (HIN.out _ HW2.out.low).mono ?_
  rintro e w3 ⟨rfl, b3⟩
  have HW3 := hid (HW2.out.keep b3)
  have q0 : w3.cell? ⟨w.heap.size, 0, none⟩ = some (.slice (some ⟨b, off, none⟩) 2 bc) := cell_of HW3.out.bk rfl
  have q1 : w3.cell? ⟨w.heap.size, 1, none⟩ = some (.slice none 0 0) := cell_of HW3.out.bk rfl
  have q2 : w3.cell? ⟨w.heap.size, 2, none⟩ = some (.slice none 0 0) := cell_of HW3.out.bk rfl
  have q3 : w3.cell? ⟨w.heap.size, 3, none⟩ = some (.slice none 0 0) := cell_of HW3.out.bk rfl
  clear b3 HW2 HIN
  go_wp2_with fail
  refine (HCP.out _ HW3.out.low).mono ?_
  rintro e w4 ⟨⟨ov, rfl, hov⟩, b4⟩
  obtain ⟨gs, gc, rfl⟩ := hov.view
  have HOV := hid hov
  have HB4 := hid b4
  clear hov b4 HCP q0 q1 q2 q3
  have hn0 : (0 : Int) ≤ (n : Int) := by omega
  have hn3 : (n : Int) < 2 := by omega
  have S4 := HW3.out.keep HB4.out
  have a0 : w4.cell? ⟨w.heap.size + 1, 0, none⟩ = some (.int .i64 n) := cell_of S4.at' rfl
  have hlt := heap_lt S4.at'
  have hst := HW3.out.start (n := n) HB4.out HOV.out hn2 (z' := w4.alloc (.cells #[.slice (some ⟨gs, 0, none⟩) 2 gc, .slice none 0 0, .slice none 0 0, .slice none 0 0] 30)) ((Below.refl _ w4).alloc (Nat.le_refl _) _) (heap_alloc_new w4 _)
  clear S4 HOV HB4 HW3
  go_wp2_with fail
  clear a0 hlt
  generalize World.alloc w4 _ = w5 at hst ⊢
  generalize w4.heap.size = D at hst ⊢
  generalize w3.heap.size = B at hst ⊢
  obtain ⟨hgc, un, uo, Y5⟩ := hst
  have HY5 := hid Y5
  obtain ⟨ua, um, uc, rfl, hum⟩ := Y5.this.view
  clear Y5 hum
  obtain ⟨L, hL⟩ : ∃ L, L = onSheet A (n : Int) := ⟨_, rfl⟩
  obtain ⟨M, hM⟩ : ∃ M, M = onSheet A ((1 - n : Nat) : Int) := ⟨_, rfl⟩
  rw [← hL, ← hM] at HY5
  have HL := hid hL
  have HM := hid hM
  obtain ⟨i, hi⟩ : ∃ i, i = cutP ((n : Int), r, k) L := ⟨_, rfl⟩
  have HI := hid hi
  have HFI := hid (fun (y : World) (hc : CellsIn y (.slice ua um uc) tx L) => show Calls Tryz.prog 24 #[.slice ua um uc, .agg #[.int .i64 n, .int .i64 r, .int .i64 k]] y fun e w' => e = .returned (.tuple #[.int .i64 (i : Int), .bool false]) ∧ Below y.heap.size y w' by
    have := find_any y (.slice ua um uc) tx L ((n : Int), r, k) (fun q hq => by rw [HL.out] at hq; exact (onSheet_mem.1 hq).1) hc (by rw [HL.out]; exact onSheet_rising HR.out _) (by rw [HL.out]; exact Nat.le_trans (onSheet_le A _) (by have := HA.out; omega))
    rw [decide_eq_false (fun hc => HPA.out (by rw [HL.out] at hc; exact (onSheet_mem.1 hc).2)), ← HI.out] at this
    exact this)
  have HKC := hid (fun (y : World) (h : Sy w ((n : Int), r, k) D gs gc n B (.slice ua um uc) uo L M tx y) => show y.cell? ⟨gs, n * 2 + 1, none⟩ = some (.slice ua um uc) ∧ y.cell? ⟨w.heap.size + 1, 0, none⟩ = some (.int .i64 n) ∧ y.cell? ⟨w.heap.size + 1, 1, none⟩ = some (.int .i64 r) ∧ y.cell? ⟨w.heap.size + 1, 2, none⟩ = some (.int .i64 k) from ⟨by obtain ⟨cs, hs, _, _, h2, _⟩ := h.sh; exact cell_of hs h2, cell_of h.at' rfl, cell_of h.at' rfl, cell_of h.at' rfl⟩)
  have HYD := hid (HY5.out.keep (Below.refl w5.heap.size w5).drew)
  have HS5 := hid (HKC.out _ HYD.out)
  clear hL hM hi q0 hbc two few ok
  go_region_held (fun y => y.cell? ⟨gs, n * 2 + 1, none⟩ = some (.slice ua um uc) ∧ y.cell? ⟨w.heap.size + 1, 0, none⟩ = some (.int .i64 n) ∧ y.cell? ⟨w.heap.size + 1, 1, none⟩ = some (.int .i64 r) ∧ y.cell? ⟨w.heap.size + 1, 2, none⟩ = some (.int .i64 k)) (first | with_reducible exact HS5.out | with_reducible exact HS6.out) (first | (go_at_call 24; refine (HFI.out _ HYD.out.this.read).mono ?_; rintro e w6 ⟨rfl, b6⟩; have HY6 := hid (HYD.out.keep b6); have HS6 := hid (HKC.out _ HY6.out); clear b6))
  clear HFI HS5 HYD HY5 HKC
  go_wp2_with fail
  have HS7 := hid (show w6.drew.cell? ⟨w.heap.size + 1, 1, none⟩ = some (.int .i64 r) ∧ w6.drew.cell? ⟨w.heap.size + 1, 2, none⟩ = some (.int .i64 k) from ⟨HS6.out.2.2.1, HS6.out.2.2.2⟩)
  have m0 : w6.cell? ⟨gs, n * 2 + 1, none⟩ = some (.slice ua um uc) := HS6.out.1
  have bA := ((Below.refl w6.heap.size w6).alloc (Nat.le_refl _) (.cells #[.int .i64 r, .int .i64 k, .string s] 58)).drew
  have HYA := hid (HY6.out.keep bA)
  have gA : (w6.alloc (.cells #[.int .i64 r, .int .i64 k, .string s] 58)).drew.heap[w6.heap.size]? = _ := heap_alloc_new w6 (.cells #[.int .i64 r, .int .i64 k, .string s] 58)
  have mA : (w6.alloc (.cells #[.int .i64 r, .int .i64 k, .string s] 58)).drew.cell? ⟨gs, n * 2 + 1, none⟩ = some (.slice ua um uc) := (bA.cell (World.block_lt_of_cell? _ _ m0)).trans m0
  have HSA := hid (show (w6.alloc (.cells #[.int .i64 r, .int .i64 k, .string s] 58)).drew.cell? ⟨w.heap.size + 1, 1, none⟩ = some (.int .i64 r) ∧ (w6.alloc (.cells #[.int .i64 r, .int .i64 k, .string s] 58)).drew.cell? ⟨w.heap.size + 1, 2, none⟩ = some (.int .i64 k) from ⟨cell_of HYA.out.at' rfl, cell_of HYA.out.at' rfl⟩)
  have HINS := hid (insOwn_any ((w6.alloc (.cells #[.int .i64 r, .int .i64 k, .string s] 58)).drew) B (.slice ua um uc) L.length i w6.heap.size (L.flatMap (cellC tx)) [.int .i64 r, .int .i64 k, .string s] HYA.out.this (cls_one tx L) gA (fun hc => Nat.lt_irrefl _ (HY6.out.this.low _ hc).2) rfl (by intro u hu; simp at hu; rcases hu with rfl | rfl | rfl <;> rfl) (by rw [HI.out]; exact cutP_le _ _) (by rw [HL.out]; exact Nat.le_trans (onSheet_le A _) (by have := HA.out; omega)) (Nat.le_of_lt (Nat.lt_of_le_of_lt HYA.out.loD (heap_lt HYA.out.out))))
  clear bA gA
  refine wp_region_held_drew (S := fun y => y.cell? ⟨w.heap.size + 1, 1, none⟩ = some (.int .i64 r) ∧ y.cell? ⟨w.heap.size + 1, 2, none⟩ = some (.int .i64 k)) (by kernel_rfl) HS7.out (fun hS => ?_)
  refine wpAnyH_take (i := 0) (oi := { dst := Option.some 71, op := Op.move (Operand.tmp 10), type := 69, pos := "book.go:276", after := #[], guard := Option.none }) (v := ?_) rfl (by kernel_rfl) (by kernel_rfl) (by kernel_rfl) (fun _ _ _ h => h) (Or.inl ⟨by rfl, ?_⟩) hS ?_
  rotate_left 1
  · rintro wx ⟨s0, s1⟩
    (go_simp <;> (try with_reducible rfl))
  try simp only [Act.put, List.setIfInBounds_toArray, List.set_cons_zero, List.set_cons_succ]
  refine wpAnyH_take (i := 1) (oi := { dst := Option.some 72, op := Op.move (Operand.tmp 10), type := 69, pos := "book.go:276", after := #[], guard := Option.none }) (v := ?_) rfl (by kernel_rfl) (by kernel_rfl) (by kernel_rfl) (fun _ _ _ h => h) (Or.inl ⟨by rfl, ?_⟩) hS ?_
  rotate_left 1
  · rintro wx ⟨s0, s1⟩
    (go_simp <;> (try with_reducible rfl))
  try simp only [Act.put, List.setIfInBounds_toArray, List.set_cons_zero, List.set_cons_succ]
  refine wpAnyH_take (i := 2) (oi := { dst := Option.some 73, op := Op.nilCheck (Operand.tmp 72), type := 0, pos := "book.go:276", after := #[{ on := 1, ground := Ground.data }], guard := Option.none }) (v := ?_) rfl (by kernel_rfl) (by kernel_rfl) (by kernel_rfl) (fun _ _ _ h => h) (Or.inl ⟨by rfl, ?_⟩) hS ?_
  rotate_left 1
  · rintro wx ⟨s0, s1⟩
    (go_simp <;> (try with_reducible rfl))
  try simp only [Act.put, List.setIfInBounds_toArray, List.set_cons_zero, List.set_cons_succ]
  refine wpAnyH_take (i := 4) (oi := { dst := Option.some 75, op := Op.move (Operand.tmp 11), type := 3, pos := "book.go:276", after := #[], guard := Option.none }) (v := ?_) rfl (by kernel_rfl) (by kernel_rfl) (by kernel_rfl) (fun _ _ _ h => h) (Or.inl ⟨by rfl, ?_⟩) hS ?_
  rotate_left 1
  · rintro wx ⟨s0, s1⟩
    (go_simp <;> (try with_reducible rfl))
  try simp only [Act.put, List.setIfInBounds_toArray, List.set_cons_zero, List.set_cons_succ]
  refine wpAnyH_take (i := 5) (oi := { dst := Option.some 76, op := Op.fieldAddr 38 (Operand.tmp 4) 1, type := 0, pos := "book.go:276", after := #[], guard := Option.none }) (v := ?_) rfl (by kernel_rfl) (by kernel_rfl) (by kernel_rfl) (fun _ _ _ h => h) (Or.inl ⟨by rfl, ?_⟩) hS ?_
  rotate_left 1
  · rintro wx ⟨s0, s1⟩
    (go_simp <;> (try with_reducible rfl))
  try simp only [Act.put, List.setIfInBounds_toArray, List.set_cons_zero, List.set_cons_succ]
  refine wpAnyH_take (i := 6) (oi := { dst := Option.some 77, op := Op.load 3 (Operand.tmp 76), type := 3, pos := "book.go:276", after := #[{ on := 5, ground := Ground.data }], guard := Option.none }) (v := ?_) rfl (by kernel_rfl) (by kernel_rfl) (by kernel_rfl) (fun _ _ _ h => h) (Or.inl ⟨by rfl, ?_⟩) hS ?_
  rotate_left 1
  · rintro wx ⟨s0, s1⟩
    (go_simp <;> (try with_reducible rfl))
  try simp only [Act.put, List.setIfInBounds_toArray, List.set_cons_zero, List.set_cons_succ]
  refine wpAnyH_take (i := 7) (oi := { dst := Option.some 78, op := Op.fieldAddr 38 (Operand.tmp 4) 2, type := 0, pos := "book.go:276", after := #[], guard := Option.none }) (v := ?_) rfl (by kernel_rfl) (by kernel_rfl) (by kernel_rfl) (fun _ _ _ h => h) (Or.inl ⟨by rfl, ?_⟩) hS ?_
  rotate_left 1
  · rintro wx ⟨s0, s1⟩
    (go_simp <;> (try with_reducible rfl))
  try simp only [Act.put, List.setIfInBounds_toArray, List.set_cons_zero, List.set_cons_succ]
  refine wpAnyH_take (i := 8) (oi := { dst := Option.some 79, op := Op.load 3 (Operand.tmp 78), type := 3, pos := "book.go:276", after := #[{ on := 7, ground := Ground.data }], guard := Option.none }) (v := ?_) rfl (by kernel_rfl) (by kernel_rfl) (by kernel_rfl) (fun _ _ _ h => h) (Or.inl ⟨by rfl, ?_⟩) hS ?_
  rotate_left 1
  · rintro wx ⟨s0, s1⟩
    (go_simp <;> (try with_reducible rfl))
  try simp only [Act.put, List.setIfInBounds_toArray, List.set_cons_zero, List.set_cons_succ]
  refine wpAnyH_take (i := 9) (oi := { dst := Option.some 80, op := Op.move (Operand.tmp 2), type := 9, pos := "book.go:276", after := #[], guard := Option.none }) (v := ?_) rfl (by kernel_rfl) (by kernel_rfl) (by kernel_rfl) (fun _ _ _ h => h) (Or.inl ⟨by rfl, ?_⟩) hS ?_
  rotate_left 1
  · rintro wx ⟨s0, s1⟩
    (go_simp <;> (try with_reducible rfl))
  try simp only [Act.put, List.setIfInBounds_toArray, List.set_cons_zero, List.set_cons_succ]
  refine wpAnyH_take (i := 10) (oi := { dst := Option.some 81, op := Op.build 58 #[(0, Operand.tmp 77), (1, Operand.tmp 79), (2, Operand.tmp 80)], type := 58, pos := "book.go:276", after := #[{ on := 6, ground := Ground.data }, { on := 8, ground := Ground.data }, { on := 9, ground := Ground.data }], guard := Option.none }) (v := ?_) rfl (by kernel_rfl) (by kernel_rfl) (by kernel_rfl) (fun _ _ _ h => h) (Or.inl ⟨by rfl, ?_⟩) hS ?_
  rotate_left 1
  · rintro wx ⟨s0, s1⟩
    (go_simp <;> (try with_reducible rfl))
  try simp only [Act.put, List.setIfInBounds_toArray, List.set_cons_zero, List.set_cons_succ]
  refine wpAnyH_ready (rs := [3, 11]) (by kernel_rfl) (by simp) ?_
  refine AllReadyH.cons (o := { dst := Option.some 74, op := Op.load 53 (Operand.tmp 73), type := 53, pos := "book.go:276", after := #[{ on := 2, ground := Ground.data }], guard := Option.none }) rfl (fun K hK => ?_) ?_
  rotate_left 1
  refine AllReadyH.cons (o := { dst := Option.some 82, op := Op.buildSlice 53 1 #[(0, Operand.tmp 81)], type := 53, pos := "book.go:276", after := #[{ on := 10, ground := Ground.data }], guard := Option.none }) rfl (fun K hK => ?_) AllReadyH.nil
  · go_simp
    refine hK.out _ _ HSA.out (fun hS2 => ?_)
    clear hK K hS
    revert hS2; intro hS
    try simp only [Act.put, List.setIfInBounds_toArray, List.set_cons_zero, List.set_cons_succ]
    refine wpAnyH_ready (rs := [3]) (by kernel_rfl) (by simp) ?_
    refine AllReadyH.cons (o := { dst := Option.some 74, op := Op.load 53 (Operand.tmp 73), type := 53, pos := "book.go:276", after := #[{ on := 2, ground := Ground.data }], guard := Option.none }) rfl (fun K hK => ?_) AllReadyH.nil
    go_simp
    refine hK.out _ _ HSA.out (fun hS2 => ?_)
    clear hK K hS
    revert hS2; intro hS
    try simp only [Act.put, List.setIfInBounds_toArray, List.set_cons_zero, List.set_cons_succ]
    refine wpAnyH_ready (rs := [12]) (by kernel_rfl) (by simp) ?_
    refine AllReadyH.cons (o := { dst := Option.some 83, op := Op.call { callee := Callee.value (Operand.func 26), args := #[Operand.tmp 74, Operand.tmp 75, Operand.tmp 82], argTypes := #[53, 3, 53] }, type := 53, pos := "book.go:276", after := #[{ on := 3, ground := Ground.data }, { on := 4, ground := Ground.data }, { on := 11, ground := Ground.data }], guard := Option.none }) rfl (fun K hK => ?_) AllReadyH.nil
    go_simp; refine HINS.out.mono ?_; rintro e w8 ⟨⟨v', rfl, ho, hb⟩, hc⟩; obtain ⟨va, vc, rfl, -⟩ := ownsRow_view ho; have HO8 := hid ho; have HB8 := hid hb; have HC8 := hid hc; have hsh := HYA.out.sheets hc; have t0 := hsh.1; have f0 := hsh.2.1; have HSB := hid (show w8.cell? ⟨w.heap.size + 1, 1, none⟩ = some (.int .i64 r) ∧ w8.cell? ⟨w.heap.size + 1, 2, none⟩ = some (.int .i64 k) from hsh.2.2); have HY9 := hid (HYA.out.put (tx' := txPut tx ((n : Int), r, k) s) (Ln' := putP ((n : Int), r, k) L) hc (cls_ins (p := ((n : Int), r, k)) HI.out (fun hm => HPA.out (by rw [HL.out] at hm; exact (onSheet_mem.1 hm).2)) ho) hb (fun q hq => txPut_far (fun e => HPA.out (by rw [HM.out] at hq; rw [← e]; exact (onSheet_mem.1 hq).2)))); have HSC := hid (show (w8.setCell ⟨gs, n * 2 + 1, none⟩ _).cell? ⟨w.heap.size + 1, 1, none⟩ = some (.int .i64 r) ∧ (w8.setCell ⟨gs, n * 2 + 1, none⟩ _).cell? ⟨w.heap.size + 1, 2, none⟩ = some (.int .i64 k) from ⟨cell_of HY9.out.at' rfl, cell_of HY9.out.at' rfl⟩); clear ho hb hc hsh
    refine hK.out _ _ HSB.out (fun hS2 => ?_)
    clear hK K hS
    revert hS2; intro hS
    try simp only [Act.put, List.setIfInBounds_toArray, List.set_cons_zero, List.set_cons_succ]
    refine wpAnyH_take (i := 13) (oi := { dst := Option.some 84, op := Op.nilCheck (Operand.tmp 71), type := 0, pos := "book.go:276", after := #[{ on := 0, ground := Ground.data }, { on := 0, ground := Ground.phase }, { on := 1, ground := Ground.phase }, { on := 2, ground := Ground.phase }, { on := 3, ground := Ground.phase }, { on := 4, ground := Ground.phase }, { on := 5, ground := Ground.phase }, { on := 6, ground := Ground.phase }, { on := 7, ground := Ground.phase }, { on := 8, ground := Ground.phase }, { on := 9, ground := Ground.phase }, { on := 10, ground := Ground.phase }, { on := 11, ground := Ground.phase }, { on := 12, ground := Ground.phase }], guard := Option.none }) (v := ?_) rfl (by kernel_rfl) (by kernel_rfl) (by kernel_rfl) (fun _ _ _ h => h) (Or.inl ⟨by rfl, ?_⟩) hS ?_
    rotate_left 1
    · rintro wx ⟨s0, s1⟩
      (go_simp <;> (try with_reducible rfl))
    try simp only [Act.put, List.setIfInBounds_toArray, List.set_cons_zero, List.set_cons_succ]
    refine wpAnyH_ready (rs := [14]) (by kernel_rfl) (by simp) ?_
    refine AllReadyH.cons (o := { dst := Option.none, op := Op.store 53 (Operand.tmp 84) (Operand.tmp 83), type := 0, pos := "book.go:276", after := #[{ on := 13, ground := Ground.data }, { on := 12, ground := Ground.data }, { on := 12, ground := Ground.chain }, { on := 0, ground := Ground.phase }, { on := 1, ground := Ground.phase }, { on := 2, ground := Ground.phase }, { on := 3, ground := Ground.phase }, { on := 4, ground := Ground.phase }, { on := 5, ground := Ground.phase }, { on := 6, ground := Ground.phase }, { on := 7, ground := Ground.phase }, { on := 8, ground := Ground.phase }, { on := 9, ground := Ground.phase }, { on := 10, ground := Ground.phase }, { on := 11, ground := Ground.phase }, { on := 12, ground := Ground.phase }], guard := Option.none }) rfl (fun K hK => ?_) AllReadyH.nil
    go_simp
    refine hK.out _ _ HSC.out (fun hS2 => ?_)
    clear hK K hS
    revert hS2; intro hS
    try simp only [Act.put, List.setIfInBounds_toArray, List.set_cons_zero, List.set_cons_succ]
    refine wpAnyH_done (by kernel_rfl) ?_ _
    clear hS t0 f0 HSA HSB HSC HINS HYA mA m0 HS7 HO8 HB8 HC8 HY6
    generalize World.setCell w8 _ _ = w9 at HY9 ⊢
    have HBF := hid (fun (y z : World) (F : List Nat) (hy : Sy w ((n : Int), r, k) D gs gc n B (.slice va (L.length + 1) vc) uo (putP ((n : Int), r, k) L) M (txPut tx ((n : Int), r, k) s) y) (hc : Chg F y z) (hF : ∀ x, x ∈ F → x < B) => hy.book hc hF hgc (A := putP ((n : Int), r, k) A) (by rw [HL.out]; exact (onSheet_put HR.out HPA.out).symm) (by rw [HM.out]; exact (onSheet_put_far HR.out HPA.out (by dsimp only; omega)).symm) (putP_rising HR.out HPA.out) (fun q hq => by
      rcases putP_mem.1 hq with rfl | hq
      · exact HPT.out
      · exact HTW.out q hq) (by rw [putP_length]; have := HA.out; omega) (fun q hq => by
      rcases putP_mem.1 hq with rfl | hq
      · rw [txPut_at]; exact HSO.out
      · rw [txPut_far (show q ≠ ((n : Int), r, k) from fun e => HPA.out (by rw [← e]; exact hq))]; exact HOK.out q hq))
    have HBK := hid (HBF.out w9 w9 [] HY9.out (Chg.refl [] w9) (by simp))
    have d0 : w9.cell? ⟨D, 0, none⟩ = some (.slice (some ⟨gs, 0, none⟩) 2 gc) := cell_of HY9.out.out rfl
    have d1 : w9.cell? ⟨D, 1, none⟩ = some (.slice none 0 0) := cell_of HY9.out.out rfl
    have d2 : w9.cell? ⟨D, 2, none⟩ = some (.slice none 0 0) := cell_of HY9.out.out rfl
    have d3 : w9.cell? ⟨D, 3, none⟩ = some (.slice none 0 0) := cell_of HY9.out.out rfl
    go_wp2_with fail
    refine (many_any _ _ _ _ HBK.out).mono ?_
    rintro e w10 ⟨⟨m, rfl, hm⟩, b10⟩
    have HY10 := hid (HY9.out.keep b10)
    have hm2 : ¬ ((400 : Int) < (m : Int)) := by omega
    clear HY9 HBK b10 d0 d1 d2 d3
    have d0 : w10.cell? ⟨D, 0, none⟩ = some (.slice (some ⟨gs, 0, none⟩) 2 gc) := cell_of HY10.out.out rfl
    have d1 : w10.cell? ⟨D, 1, none⟩ = some (.slice none 0 0) := cell_of HY10.out.out rfl
    have d2 : w10.cell? ⟨D, 2, none⟩ = some (.slice none 0 0) := cell_of HY10.out.out rfl
    have d3 : w10.cell? ⟨D, 3, none⟩ = some (.slice none 0 0) := cell_of HY10.out.out rfl
    have r0 : w10.cell? ⟨w.heap.size + 1 + 1, 0, none⟩ = some (.slice none 0 0) := cell_of HY10.out.res rfl
    have r1 : w10.cell? ⟨w.heap.size + 1 + 1, 1, none⟩ = some (.slice none 0 0) := cell_of HY10.out.res rfl
    have r2 : w10.cell? ⟨w.heap.size + 1 + 1, 2, none⟩ = some (.slice none 0 0) := cell_of HY10.out.res rfl
    have r3 : w10.cell? ⟨w.heap.size + 1 + 1, 3, none⟩ = some (.slice none 0 0) := cell_of HY10.out.res rfl
    have f0 := free_of (i := 0) HY10.out.res
    have f1 := free_of (i := 1) HY10.out.res
    have f2 := free_of (i := 2) HY10.out.res
    have f3 := free_of (i := 3) HY10.out.res
    go_wp2_with fail
    refine bodyPost_ret (v := .tuple #[.agg (bookC gs 0 gc), .int .i64 0]) (by simp [results, Tryz.results9, go_sem, *]) rfl ?_
    have hlo := HY10.out.lo
    exact ⟨⟨_, rfl, HBF.out _ _ [w.heap.size + 1 + 1] HY10.out (((((Chg.refl _ w10).setCell (.inl (by simp)) _).setCell (.inl (by simp)) _).setCell (.inl (by simp)) _).setCell (.inl (by simp)) _) (fun x hx => by simp only [List.mem_singleton] at hx; omega)⟩, (((HY10.out.low.setCell (by simp; omega) _).setCell (by simp; omega) _).setCell (by simp; omega) _).setCell (by simp; omega) _⟩
  · go_simp
    refine hK.out _ _ HS7.out (fun hS2 => ?_)
    clear hK K hS
    revert hS2; intro hS
    try simp only [Act.put, List.setIfInBounds_toArray, List.set_cons_zero, List.set_cons_succ]
    refine wpAnyH_ready (rs := [11]) (by kernel_rfl) (by simp) ?_
    refine AllReadyH.cons (o := { dst := Option.some 82, op := Op.buildSlice 53 1 #[(0, Operand.tmp 81)], type := 53, pos := "book.go:276", after := #[{ on := 10, ground := Ground.data }], guard := Option.none }) rfl (fun K hK => ?_) AllReadyH.nil
    go_simp
    refine hK.out _ _ HSA.out (fun hS2 => ?_)
    clear hK K hS
    revert hS2; intro hS
    try simp only [Act.put, List.setIfInBounds_toArray, List.set_cons_zero, List.set_cons_succ]
    refine wpAnyH_ready (rs := [12]) (by kernel_rfl) (by simp) ?_
    refine AllReadyH.cons (o := { dst := Option.some 83, op := Op.call { callee := Callee.value (Operand.func 26), args := #[Operand.tmp 74, Operand.tmp 75, Operand.tmp 82], argTypes := #[53, 3, 53] }, type := 53, pos := "book.go:276", after := #[{ on := 3, ground := Ground.data }, { on := 4, ground := Ground.data }, { on := 11, ground := Ground.data }], guard := Option.none }) rfl (fun K hK => ?_) AllReadyH.nil
    go_simp; refine HINS.out.mono ?_; rintro e w8 ⟨⟨v', rfl, ho, hb⟩, hc⟩; obtain ⟨va, vc, rfl, -⟩ := ownsRow_view ho; have HO8 := hid ho; have HB8 := hid hb; have HC8 := hid hc; have hsh := HYA.out.sheets hc; have t0 := hsh.1; have f0 := hsh.2.1; have HSB := hid (show w8.cell? ⟨w.heap.size + 1, 1, none⟩ = some (.int .i64 r) ∧ w8.cell? ⟨w.heap.size + 1, 2, none⟩ = some (.int .i64 k) from hsh.2.2); have HY9 := hid (HYA.out.put (tx' := txPut tx ((n : Int), r, k) s) (Ln' := putP ((n : Int), r, k) L) hc (cls_ins (p := ((n : Int), r, k)) HI.out (fun hm => HPA.out (by rw [HL.out] at hm; exact (onSheet_mem.1 hm).2)) ho) hb (fun q hq => txPut_far (fun e => HPA.out (by rw [HM.out] at hq; rw [← e]; exact (onSheet_mem.1 hq).2)))); have HSC := hid (show (w8.setCell ⟨gs, n * 2 + 1, none⟩ _).cell? ⟨w.heap.size + 1, 1, none⟩ = some (.int .i64 r) ∧ (w8.setCell ⟨gs, n * 2 + 1, none⟩ _).cell? ⟨w.heap.size + 1, 2, none⟩ = some (.int .i64 k) from ⟨cell_of HY9.out.at' rfl, cell_of HY9.out.at' rfl⟩); clear ho hb hc hsh
    refine hK.out _ _ HSB.out (fun hS2 => ?_)
    clear hK K hS
    revert hS2; intro hS
    try simp only [Act.put, List.setIfInBounds_toArray, List.set_cons_zero, List.set_cons_succ]
    refine wpAnyH_take (i := 13) (oi := { dst := Option.some 84, op := Op.nilCheck (Operand.tmp 71), type := 0, pos := "book.go:276", after := #[{ on := 0, ground := Ground.data }, { on := 0, ground := Ground.phase }, { on := 1, ground := Ground.phase }, { on := 2, ground := Ground.phase }, { on := 3, ground := Ground.phase }, { on := 4, ground := Ground.phase }, { on := 5, ground := Ground.phase }, { on := 6, ground := Ground.phase }, { on := 7, ground := Ground.phase }, { on := 8, ground := Ground.phase }, { on := 9, ground := Ground.phase }, { on := 10, ground := Ground.phase }, { on := 11, ground := Ground.phase }, { on := 12, ground := Ground.phase }], guard := Option.none }) (v := ?_) rfl (by kernel_rfl) (by kernel_rfl) (by kernel_rfl) (fun _ _ _ h => h) (Or.inl ⟨by rfl, ?_⟩) hS ?_
    rotate_left 1
    · rintro wx ⟨s0, s1⟩
      (go_simp <;> (try with_reducible rfl))
    try simp only [Act.put, List.setIfInBounds_toArray, List.set_cons_zero, List.set_cons_succ]
    refine wpAnyH_ready (rs := [14]) (by kernel_rfl) (by simp) ?_
    refine AllReadyH.cons (o := { dst := Option.none, op := Op.store 53 (Operand.tmp 84) (Operand.tmp 83), type := 0, pos := "book.go:276", after := #[{ on := 13, ground := Ground.data }, { on := 12, ground := Ground.data }, { on := 12, ground := Ground.chain }, { on := 0, ground := Ground.phase }, { on := 1, ground := Ground.phase }, { on := 2, ground := Ground.phase }, { on := 3, ground := Ground.phase }, { on := 4, ground := Ground.phase }, { on := 5, ground := Ground.phase }, { on := 6, ground := Ground.phase }, { on := 7, ground := Ground.phase }, { on := 8, ground := Ground.phase }, { on := 9, ground := Ground.phase }, { on := 10, ground := Ground.phase }, { on := 11, ground := Ground.phase }, { on := 12, ground := Ground.phase }], guard := Option.none }) rfl (fun K hK => ?_) AllReadyH.nil
    go_simp
    refine hK.out _ _ HSC.out (fun hS2 => ?_)
    clear hK K hS
    revert hS2; intro hS
    try simp only [Act.put, List.setIfInBounds_toArray, List.set_cons_zero, List.set_cons_succ]
    refine wpAnyH_done (by kernel_rfl) ?_ _
    clear hS t0 f0 HSA HSB HSC HINS HYA mA m0 HS7 HO8 HB8 HC8 HY6
    generalize World.setCell w8 _ _ = w9 at HY9 ⊢
    have HBF := hid (fun (y z : World) (F : List Nat) (hy : Sy w ((n : Int), r, k) D gs gc n B (.slice va (L.length + 1) vc) uo (putP ((n : Int), r, k) L) M (txPut tx ((n : Int), r, k) s) y) (hc : Chg F y z) (hF : ∀ x, x ∈ F → x < B) => hy.book hc hF hgc (A := putP ((n : Int), r, k) A) (by rw [HL.out]; exact (onSheet_put HR.out HPA.out).symm) (by rw [HM.out]; exact (onSheet_put_far HR.out HPA.out (by dsimp only; omega)).symm) (putP_rising HR.out HPA.out) (fun q hq => by
      rcases putP_mem.1 hq with rfl | hq
      · exact HPT.out
      · exact HTW.out q hq) (by rw [putP_length]; have := HA.out; omega) (fun q hq => by
      rcases putP_mem.1 hq with rfl | hq
      · rw [txPut_at]; exact HSO.out
      · rw [txPut_far (show q ≠ ((n : Int), r, k) from fun e => HPA.out (by rw [← e]; exact hq))]; exact HOK.out q hq))
    have HBK := hid (HBF.out w9 w9 [] HY9.out (Chg.refl [] w9) (by simp))
    have d0 : w9.cell? ⟨D, 0, none⟩ = some (.slice (some ⟨gs, 0, none⟩) 2 gc) := cell_of HY9.out.out rfl
    have d1 : w9.cell? ⟨D, 1, none⟩ = some (.slice none 0 0) := cell_of HY9.out.out rfl
    have d2 : w9.cell? ⟨D, 2, none⟩ = some (.slice none 0 0) := cell_of HY9.out.out rfl
    have d3 : w9.cell? ⟨D, 3, none⟩ = some (.slice none 0 0) := cell_of HY9.out.out rfl
    go_wp2_with fail
    refine (many_any _ _ _ _ HBK.out).mono ?_
    rintro e w10 ⟨⟨m, rfl, hm⟩, b10⟩
    have HY10 := hid (HY9.out.keep b10)
    have hm2 : ¬ ((400 : Int) < (m : Int)) := by omega
    clear HY9 HBK b10 d0 d1 d2 d3
    have d0 : w10.cell? ⟨D, 0, none⟩ = some (.slice (some ⟨gs, 0, none⟩) 2 gc) := cell_of HY10.out.out rfl
    have d1 : w10.cell? ⟨D, 1, none⟩ = some (.slice none 0 0) := cell_of HY10.out.out rfl
    have d2 : w10.cell? ⟨D, 2, none⟩ = some (.slice none 0 0) := cell_of HY10.out.out rfl
    have d3 : w10.cell? ⟨D, 3, none⟩ = some (.slice none 0 0) := cell_of HY10.out.out rfl
    have r0 : w10.cell? ⟨w.heap.size + 1 + 1, 0, none⟩ = some (.slice none 0 0) := cell_of HY10.out.res rfl
    have r1 : w10.cell? ⟨w.heap.size + 1 + 1, 1, none⟩ = some (.slice none 0 0) := cell_of HY10.out.res rfl
    have r2 : w10.cell? ⟨w.heap.size + 1 + 1, 2, none⟩ = some (.slice none 0 0) := cell_of HY10.out.res rfl
    have r3 : w10.cell? ⟨w.heap.size + 1 + 1, 3, none⟩ = some (.slice none 0 0) := cell_of HY10.out.res rfl
    have f0 := free_of (i := 0) HY10.out.res
    have f1 := free_of (i := 1) HY10.out.res
    have f2 := free_of (i := 2) HY10.out.res
    have f3 := free_of (i := 3) HY10.out.res
    go_wp2_with fail
    refine bodyPost_ret (v := .tuple #[.agg (bookC gs 0 gc), .int .i64 0]) (by simp [results, Tryz.results9, go_sem, *]) rfl ?_
    have hlo := HY10.out.lo
    exact ⟨⟨_, rfl, HBF.out _ _ [w.heap.size + 1 + 1] HY10.out (((((Chg.refl _ w10).setCell (.inl (by simp)) _).setCell (.inl (by simp)) _).setCell (.inl (by simp)) _).setCell (.inl (by simp)) _) (fun x hx => by simp only [List.mem_singleton] at hx; omega)⟩, (((HY10.out.low.setCell (by simp; omega) _).setCell (by simp; omega) _).setCell (by simp; omega) _).setCell (by simp; omega) _⟩
end Go.Proofs.YthkjmplcmfabfaaGreatDoor
