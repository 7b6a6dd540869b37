/- Contracts of book.many, book.Check at a workbook of one sheet. Condition: what the package-level variables hold lies as it was laid. Contracts of the expander's small functions at a workbook without names. Condition: what the package-level variables hold lies as it was laid. A row of nodes of the call's own gets one more: the plain part. No condition. -/
import Derived.Test.YtpcjfgihglfdgaaGreatDoorKChShape
import Derived.Deep.RegionHeldLaw
import Derived.Shelf.SlMaps.Clone
import Derived.Maps.OwnSet
import Derived.StringKeys
import Derived.Test.YtpcjfgihglfdgaaGreatDoorKChCall

namespace Go.Proofs.YtpcjfgihglfdgaaGreatDoor
open Go.RowKit Go.Lib

set_option maxHeartbeats 1000000 in
theorem many1 (w : World) (v : Value) (A : List PAt) (tx : PAt → ByteArray) (h : Bk1 w v A tx) : Calls Tryz.prog 34 #[v] w fun e w' => (∃ n : Nat, e = .returned (.int .i64 (n : Int)) ∧ n ≤ 40) ∧ Below w.heap.size w w' := by
  obtain ⟨⟨b, off, bc, v0, hbc, rfl, h2, h3, h6⟩, hr, ht, hf, ho⟩ := h
  obtain ⟨a0, c0, b0, o0, rfl, l0, k0⟩ := h6.view
  have hn0 := onSheet_le A 0
  obtain ⟨n0, e0⟩ : ∃ n, n = (onSheet A 0).length := ⟨_, rfl⟩
  rw [← e0] at h3 hn0
  have m0 : n0 ≤ 40 := by omega
  have b00 := World.block_lt_of_cell? _ _ h2
  have g2 := fun o1 o2 => (((Below.refl w.heap.size w).alloc (Nat.le_refl _) o1).alloc (by simp) o2)
  clear k0 h6 hr ht hf ho hn0 e0 l0
  go_enter Tryz.func34, Tryz.ntmps34
  go_wp2_with fail
  refine wp_loop_rounds 2 ?_
  rw [rounds_succ]
  go_wp2_with fail
  rw [rounds_succ]
  go_wp2_with fail
  go_ret
  exact ⟨⟨n0, by simp, by omega⟩, g2 _ _⟩

theorem ckS_keep1 {w y z : World} {g b off bc : Nat} {nm : ByteArray} {aa : Option Addr} {an ac : Nat} (h : y.cell? ⟨g, 0, none⟩ = some (.string nm) ∧ y.cell? ⟨g, 1, none⟩ = some (.slice aa an ac) ∧ y.cell? ⟨w.heap.size, 0, none⟩ = some (.slice (some ⟨b, off, none⟩) 1 bc) ∧ Ck1 w (bookC1 b off bc) y) (hb : Below y.heap.size y z) : z.cell? ⟨g, 0, none⟩ = some (.string nm) ∧ z.cell? ⟨g, 1, none⟩ = some (.slice aa an ac) ∧ z.cell? ⟨w.heap.size, 0, none⟩ = some (.slice (some ⟨b, off, none⟩) 1 bc) ∧ Ck1 w (bookC1 b off bc) z :=
  ⟨(hb.cell (World.block_lt_of_cell? _ _ h.1)).trans h.1, (hb.cell (World.block_lt_of_cell? _ _ h.2.1)).trans h.2.1, (hb.cell (World.block_lt_of_cell? _ _ h.2.2.1)).trans h.2.2.1, h.2.2.2.keep hb⟩
theorem ck_of1 {A B C : Prop} {w y : World} {cs : Array Value} (h : A ∧ B ∧ C ∧ Ck1 w cs y) : Ck1 w cs y := h.2.2.2

set_option maxRecDepth 20000 in
set_option maxHeartbeats 2000000 in
theorem check1 (w : World) (hT : Env w) (v : Value) (A : List PAt) (tx : PAt → ByteArray) (h : Bk1 w v A tx) : Calls Tryz.prog 11 #[v] w fun e w' => e = .returned (.tuple #[.agg #[.int .i64 0, .int .i64 0, .int .i64 0], .int .i64 0]) ∧ Below w.heap.size w w' := by
  have HMY := hid (fun w h => many1 w v A tx h)
  have HBK := hid h
  obtain ⟨⟨b, off, bc, v0, hbc, rfl, h2, h3, h6⟩, hr, ht, hf, ho⟩ := h
  have b0 : ∀ o1 o2, Below w.heap.size w ((w.alloc o1).alloc o2) := fun o1 o2 => ((Below.refl w.heap.size w).alloc (Nat.le_refl _) o1).alloc (by simp) o2
  have K0 : Ck1 w (bookC1 b off bc) ((w.alloc (.cells (bookC1 b off bc) 39)).alloc (.cells #[.int .i64 0, .int .i64 0, .int .i64 0] 46)) := ⟨heap_alloc_keep (heap_alloc_new w _) _, heap_alloc2_new w _ _, hT.below (b0 _ _), b0 _ _⟩
  have HK0 := hid K0
  clear K0 b0 hT
  go_enter Tryz.func11, Tryz.ntmps11
  go_wp2_with fail
  refine (HMY.out _ (HBK.out.below HK0.out.low)).mono ?_
  rintro e w1 ⟨⟨n, rfl, hn⟩, b1⟩
  have HK1 := hid (HK0.out.keep b1)
  have q0 := HK1.out.c0
  have q1 := HK1.out.c1
  have q2 := HK1.out.c2
  have q3 := HK1.out.c3
  have kk : ∀ {y : World} {p : Addr} {u : Value}, Below w.heap.size w y → w.cell? p = some u → y.cell? p = some u := fun hb hc => (hb.cell (World.block_lt_of_cell? _ _ hc)).trans hc
  have HKK := hid (fun (y : World) (hy : Below w.heap.size w y) => show y.cell? ⟨b, off, none⟩ = some (.string nameS) ∧ y.cell? ⟨b, off + 1, none⟩ = some v0 from ⟨kk hy h2, kk hy h3⟩)
  have HV6 := hid h6
  obtain ⟨ua, un, uc, hu⟩ : ∃ a n c, v0 = .slice a n c := by obtain ⟨a, c, _, _, e, _⟩ := h6.view; exact ⟨_, _, _, e⟩
  have HU := hid hu
  rw [hu] at HKK
  have HRT := hid hr
  have HTW := hid ht
  have hbl := World.block_lt_of_cell? _ _ h2
  clear b1 HK0 kk h2 h3 h6 hr ht hf ho hu
  have hRS := hid (fun w => Right_any nameS (.inl rfl) w)
  have hTN := hid (fun ao c s w => twice_none ao c s w)
  go_wp2_with fail
  rename_i K hK
  have HC := hid hK
  clear hK
  obtain ⟨r0, r1⟩ := HKK.out _ HK1.out.low
  have hlw := HK1.out.low_lt
  refine wp_loop_rounds 2 ?_
  rw [rounds_succ]
  go_wp2_with fail
  have K2 : Ck1 w (bookC1 b off bc) (w1.alloc (.cells #[.string nameS, .slice ua un uc] 25)) := HK1.out.keep ((Below.refl _ w1).alloc (Nat.le_refl _) _)
  have n0 := cell_of (i := 0) (heap_alloc_new w1 (.cells #[.string nameS, .slice ua un uc] 25)) rfl
  have n1 := cell_of (i := 1) (heap_alloc_new w1 (.cells #[.string nameS, .slice ua un uc] 25)) rfl
  obtain ⟨g, hg⟩ : ∃ g, g = w1.heap.size := ⟨_, rfl⟩
  rw [← hg] at n0 n1 ⊢
  generalize World.alloc _ _ = w2 at K2 n0 n1 ⊢
  have HS2 := hid (ckS_keep1 (nm := nameS) ⟨n0, n1, K2.c0, K2⟩ (Below.refl _ w2).drew)
  clear K2 n0 n1 hg r0 r1 q0 q1 q2 q3 HK1
  go_region_held (fun y => y.cell? ⟨g, 0, none⟩ = some (.string nameS) ∧ y.cell? ⟨g, 1, none⟩ = some (.slice ua un uc) ∧ y.cell? ⟨w.heap.size, 0, none⟩ = some (.slice (some ⟨b, off, none⟩) 1 bc) ∧ Ck1 w (bookC1 b off bc) y) (first | exact HS2.out | (refine ckS_keep1 ?_ ‹Below _ _ _›; assumption)) (first | (go_at_call 36; refine (hRS.out _).mono ?_; rintro e w3 ⟨rfl, b3⟩) | (go_at_call 37; refine (hTN.out _ _ _ _).mono ?_; rintro e w4 ⟨rfl, b4⟩))
  have K4 : Ck1 w (bookC1 b off bc) w4 := by apply ck_of1; assumption
  have HK4 := hid K4
  have q0 := K4.c0
  obtain ⟨r0, r1⟩ := HKK.out _ K4.low
  clear K4 HS2
  go_wp2_with fail
  rw [rounds_succ]
  go_wp2_with fail
  refine HC.out _ _ ?_
  exact check1_tail HK4.out HBK.out
end Go.Proofs.YtpcjfgihglfdgaaGreatDoor

namespace Go.Proofs.YtpcjfgihglfdgaaGreatDoor
open Go.RowKit Go.Lib Go.Maps

/-- local names: none -/
def LocV (z : World) (lv : Value) : Prop := lv = .map none ∨ ∃ r, lv = .map (some r) ∧ z.heap[r]? = some (.map #[] 0)
theorem LocV.keep {z z' : World} {lv : Value} (h : LocV z lv) (hb : Below z.heap.size z z') : LocV z' lv := by
  rcases h with h | ⟨r, h1, h2⟩
  · exact .inl h
  · exact .inr ⟨r, h1, (hb.block _ (heap_lt h2)).trans h2⟩
theorem LocV.chg {z z' : World} {lv : Value} {F : List Nat} (h : LocV z lv) (hc : Chg F z z') (hF : ∀ x ∈ F, ∃ cs t fr, z.heap[x]? = some (.cells cs t fr)) : LocV z' lv := by
  rcases h with h | ⟨r, h1, h2⟩
  · exact .inl h
  · refine .inr ⟨r, h1, hc.heap h2 (fun hx => ?_)⟩
    obtain ⟨cs, t, fr, h3⟩ := hF r hx
    rw [h2] at h3
    cases h3
set_option maxRecDepth 100000 in
set_option maxHeartbeats 1000000 in
theorem clone_nil (w : World) : Calls Tryz.prog 320 #[.map none] w fun e w' => e = .returned (.map none) ∧ w' = w := by
  have hq := fun w => run_eql_map_nil_sl (P := Tryz.prog) w 260 _ _ none Tryz.underlying260
  go_enter Tryz.func320, Tryz.ntmps320
  go_wp2
  go_ret
  exact ⟨rfl, rfl⟩
set_option maxRecDepth 100000 in
set_option maxHeartbeats 1000000 in
theorem clone_some (b : Nat) (w : World) (hb : w.heap[b]? = some (.map #[] 0)) : Calls Tryz.prog 320 #[.map (some b)] w fun e w' => e = .returned (.map (some w.heap.size)) ∧ w' = w.alloc (.map #[] 0) := by
  have hq := fun w => run_eql_map_nil_sl (P := Tryz.prog) w 260 _ _ (some b) Tryz.underlying260
  go_enter Tryz.func320, Tryz.ntmps320
  go_wp2
  rw [run_callFunc_extern Tryz.func350 (by kernel_rfl) (by kernel_rfl) (by kernel_rfl) (e := Extern.MapsClone.clone) (by kernel_rfl), run_maps_clone_sl w 260 hb]
  simp only [Result.andThen]
  rw [Oper.upon_value]
  go_wp2
  rw [run_typeAssert_map_sl _ 260 20 _ _ _ Tryz.underlying260]
  simp only [Result.andThen]
  rw [Oper.upon_value]
  go_wp2
  go_ret
  exact ⟨rfl, rfl⟩
theorem clone_any {w : World} {lv : Value} (h : LocV w lv) : Calls Tryz.prog 320 #[lv] w fun e w' => ∃ lv', e = .returned lv' ∧ LocV w' lv' ∧ (∃ q, lv' = .map q) ∧ Below w.heap.size w w' := by
  rcases h with rfl | ⟨r, rfl, h2⟩
  · refine (clone_nil w).mono ?_
    rintro e w' ⟨rfl, rfl⟩
    exact ⟨_, rfl, .inl rfl, ⟨_, rfl⟩, Below.refl _ _⟩
  · refine (clone_some r w h2).mono ?_
    rintro e w' ⟨rfl, rfl⟩
    exact ⟨_, rfl, .inr ⟨_, rfl, heap_alloc_new w _⟩, ⟨_, rfl⟩, (Below.refl _ w).alloc (Nat.le_refl _) _⟩
theorem view_info0 : (Tryz.prog.info? 262).map (·.size) = some 2 := by kernel_rfl
abbrev viewC (s : Int) (lv : Value) : List Value := [.int .i64 s, lv]
theorem view_one (s : Int) (q : Option Nat) : (viewC s (.map q)).toArray.all (·.oneCell') = true := by simp [Value.oneCell']
theorem view_info (s : Int) (lv : Value) : (Tryz.prog.info? 262).map (·.size) = some (viewC s lv).toArray.size := view_info0
set_option maxHeartbeats 1000000 in
/-- a view with no local names more -/
theorem with_any {w : World} {s : Int} {lv : Value} (h : LocV w lv) : Calls Tryz.prog 283 #[.agg (viewC s lv).toArray, .slice none 0 0] w fun e w' => ∃ lv', e = .returned (.agg (viewC s lv').toArray) ∧ LocV w' lv' ∧ Below w.heap.size w w' := by
  have hmm := @run_makeMap Tryz.prog
  have b0 := ((Below.refl w.heap.size w).alloc (Nat.le_refl _) (.cells #[.int .i64 s, lv] 262)).alloc (by simp) (.cells #[.int .i64 0, .map none] 262)
  have HB := hid b0
  have n0 : ((w.alloc (.cells #[.int .i64 s, lv] 262)).alloc (.cells #[.int .i64 0, .map none] 262)).heap[w.heap.size]? = some (.cells #[.int .i64 s, lv] 262 (0, 0)) := heap_alloc_keep (heap_alloc_new w _) _
  have n1 : ((w.alloc (.cells #[.int .i64 s, lv] 262)).alloc (.cells #[.int .i64 0, .map none] 262)).heap[w.heap.size + 1]? = some (.cells #[.int .i64 0, .map none] 262 (0, 0)) := heap_alloc2_new w _ _
  have c1 := cell_of (i := 1) n0 rfl
  have HN0 := hid n0
  have HN1 := hid n1
  have HL := hid (h.keep b0)
  obtain ⟨g, hg⟩ : ∃ g, g = w.heap.size := ⟨_, rfl⟩
  clear h b0 n0 n1
  go_enter Tryz.func283, Tryz.ntmps283
  go_wp2_with fail
  generalize World.alloc (World.alloc _ _) _ = w0 at HB HN0 HN1 HL c1 ⊢
  rw [← hg] at HN0 HN1 c1 ⊢
  have HG := hid hg
  clear hg
  refine (clone_any HL.out).mono ?_
  rintro e w1 ⟨lv', rfl, hl, ⟨q, hq⟩, b1⟩
  subst hq
  have m0 : w1.heap[g]? = some (.cells #[.int .i64 s, lv] 262 (0, 0)) := (b1.block _ (heap_lt HN0.out)).trans HN0.out
  have m1 : w1.heap[g + 1]? = some (.cells #[.int .i64 0, .map none] 262 (0, 0)) := (b1.block _ (heap_lt HN1.out)).trans HN1.out
  have a1 := cell_of (i := 1) m0 rfl
  have f1 := free_of (i := 1) m0
  have M0 := hid m0
  have M1 := hid m1
  have BB := hid (HB.out.trans (b1.mono HB.out.size))
  have HL1 := hid hl
  clear hl b1 m0 m1 c1 HB HN0 HN1 HL
  rcases q with _ | r
  · have hq := fun w => run_eql_map_nil_sl (P := Tryz.prog) w 260 _ _ none Tryz.underlying260
    have e0 : ((w1.setCell ⟨g, 1, none⟩ (.map none)).alloc (.map #[] 0)).heap[g]? = some (.cells #[.int .i64 s, .map none] 262 (0, 0)) := heap_alloc_keep (heap_setCell_at (i := 1) M0.out _) _
    have x1 := cell_of (i := 1) e0 rfl
    have y1 := free_of (i := 1) e0
    have E0 := hid e0
    clear e0
    have HV := hid (show (((w1.setCell ⟨g, 1, none⟩ (.map none)).alloc (.map #[] 0)).setCell ⟨g, 1, none⟩ (.map (some w1.heap.size))).heap[g]? = some (.cells #[.int .i64 s, .map (some w1.heap.size)] 262 (0, 0)) ∧ (((w1.setCell ⟨g, 1, none⟩ (.map none)).alloc (.map #[] 0)).setCell ⟨g, 1, none⟩ (.map (some w1.heap.size))).heap[g + 1]? = some (.cells #[.int .i64 0, .map none] 262 (0, 0)) ∧ LocV ((((w1.setCell ⟨g, 1, none⟩ (.map none)).alloc (.map #[] 0)).setCell ⟨g, 1, none⟩ (.map (some w1.heap.size))).setRow (g + 1) (viewC s (.map (some w1.heap.size))).toArray) (.map (some w1.heap.size)) ∧ Below w.heap.size w ((((w1.setCell ⟨g, 1, none⟩ (.map none)).alloc (.map #[] 0)).setCell ⟨g, 1, none⟩ (.map (some w1.heap.size))).setRow (g + 1) (viewC s (.map (some w1.heap.size))).toArray) from
      ⟨heap_setCell_at (i := 1) E0.out _, heap_setCell_far (heap_alloc_keep (heap_setCell_far M1.out (by omega) _) _) (by omega) _, .inr ⟨_, rfl, heap_setRow_far (heap_setCell_far (by have := heap_alloc_new (w1.setCell ⟨g, 1, none⟩ (.map none)) (.map #[] 0); rwa [World.size_setCell] at this) (by have := heap_lt M0.out; show w1.heap.size ≠ g; omega) _) (by have := heap_lt M1.out; omega) _⟩, (((((Chg.of_below (F := []) BB.out).setCell (.inr (by show _ ≤ g; rw [HG.out]; exact Nat.le_refl _)) _).alloc _).setCell (.inr (by show _ ≤ g; rw [HG.out]; exact Nat.le_refl _)) _).setRow (.inr (by rw [HG.out]; exact Nat.le_succ _)) _).nil_below⟩)
    go_wp2_with fail
    refine wp_loop_rounds 1 ?_
    rw [rounds_succ]
    go_wp2_with (first | (refine wpList_load_row rfl 262 _ rfl g rfl 262 _ (0, 0) _ HV.out.1 Tryz.underlying262 rfl (view_info s (.map (some w1.heap.size))) ?_) | (refine wpList_store_row rfl 262 _ _ rfl (g + 1) (viewC s (.map (some w1.heap.size))).toArray rfl rfl 262 _ HV.out.2.1 (view_info s (.map (some w1.heap.size))) (by rfl) (view_one s _) ?_))
    refine bodyPost_ret (v := .agg (viewC s (.map (some w1.heap.size))).toArray) (results_cell_row rfl _ _ (g + 1) 262 (viewC s (.map (some w1.heap.size))).toArray (0, 0) _ rfl (heap_setRow_at HV.out.2.1) Tryz.underlying262 rfl (view_info s (.map (some w1.heap.size)))) rfl ?_
    exact ⟨_, rfl, HV.out.2.2.1, HV.out.2.2.2⟩
  · have hq := fun w => run_eql_map_nil_sl (P := Tryz.prog) w 260 _ _ (some r) Tryz.underlying260
    have HV := hid (show (w1.setCell ⟨g, 1, none⟩ (.map (some r))).heap[g]? = some (.cells #[.int .i64 s, .map (some r)] 262 (0, 0)) ∧ (w1.setCell ⟨g, 1, none⟩ (.map (some r))).heap[g + 1]? = some (.cells #[.int .i64 0, .map none] 262 (0, 0)) ∧ LocV ((w1.setCell ⟨g, 1, none⟩ (.map (some r))).setRow (g + 1) (viewC s (.map (some r))).toArray) (.map (some r)) ∧ Below w.heap.size w ((w1.setCell ⟨g, 1, none⟩ (.map (some r))).setRow (g + 1) (viewC s (.map (some r))).toArray) from
      ⟨heap_setCell_at (i := 1) M0.out _, heap_setCell_far M1.out (by omega) _, HL1.out.chg (F := [g, g + 1]) (((Chg.refl _ w1).setCell (.inl (by simp)) _).setRow (.inl (by simp)) _) (fun x hx => by
        simp only [List.mem_cons, List.not_mem_nil, or_false] at hx
        rcases hx with rfl | rfl
        · exact ⟨_, _, _, M0.out⟩
        · exact ⟨_, _, _, M1.out⟩), (((Chg.of_below (F := []) BB.out).setCell (.inr (by show _ ≤ g; rw [HG.out]; exact Nat.le_refl _)) _).setRow (.inr (by rw [HG.out]; exact Nat.le_succ _)) _).nil_below⟩)
    go_wp2_with fail
    refine wp_loop_rounds 1 ?_
    rw [rounds_succ]
    go_wp2_with (first | (refine wpList_load_row rfl 262 _ rfl g rfl 262 _ (0, 0) _ HV.out.1 Tryz.underlying262 rfl (view_info s (.map (some r))) ?_) | (refine wpList_store_row rfl 262 _ _ rfl (g + 1) (viewC s (.map (some r))).toArray rfl rfl 262 _ HV.out.2.1 (view_info s (.map (some r))) (by rfl) (view_one s _) ?_))
    refine bodyPost_ret (v := .agg (viewC s (.map (some r))).toArray) (results_cell_row rfl _ _ (g + 1) 262 (viewC s (.map (some r))).toArray (0, 0) _ rfl (heap_setRow_at HV.out.2.1) Tryz.underlying262 rfl (view_info s (.map (some r)))) rfl ?_
    exact ⟨_, rfl, HV.out.2.2.1, HV.out.2.2.2⟩

theorem str_keyed : Keyed Tryz.prog 9 := string_keyed Tryz.underlying9
theorem look_none {z : World} {lv : Value} (h : LocV z lv) (S : ByteArray) (hS : S.size ≤ 1000000) : (Instr.lookup 260 lv (.string S) false).run Tryz.prog z = .ok (.bool false) z := by
  have hz : (zeroValue 4).run Tryz.prog z = .ok (.bool false) z := by kernel_rfl
  have hkey := WideMaps.keyOf_string_mk (P := Tryz.prog) Tryz.underlying9 (s := S) (by unfold maxLen; omega)
  rcases h with rfl | ⟨r, rfl, h2⟩
  · have := look_nil (w := z) false str_keyed Tryz.underlying260 hz hkey
    simpa using this
  · have hown : z.ownsMap Tryz.prog 9 (plainElem (H := Unit) Tryz.prog 4) r 0 (.map []) := ⟨#[], 0, h2, ⟨by simp, MapKept.stamped_empty 0, by simp⟩, Nat.le_refl _, rfl⟩
    obtain ⟨v, ps, hr, hv⟩ := hown.lookup str_keyed Tryz.underlying260 hz (plainElem_bool Tryz.underlying4 false) hkey
    rw [hr]
    have e : (DataW.map (H := Unit) []).atKey (.string S.data.toList) (.lit (.bool false)) = .lit (.bool false) := rfl
    rw [e] at hv
    cases v <;> simp [plainElem, Tryz.underlying4] at hv
    rw [hv.1]
set_option maxRecDepth 20000 in
set_option maxHeartbeats 1000000 in
theorem names_none (o : Ow) (h14 : o.k ≠ 14) (h16 : o.k ≠ 16) (ao : Option Addr) (n c : Nat) (w : World) : Calls Tryz.prog 322 #[.agg (o.cells (.slice ao n c)).toArray] w fun e w' => e = .returned (.slice none 0 0) ∧ Below w.heap.size w w' := by
  have e14 : (o.k != 14) = true := by simpa using h14
  have e16 : (o.k != 16) = true := by simpa using h16
  have b0 := hid ((Below.refl w.heap.size w).alloc (Nat.le_refl _) (.cells (o.cells (.slice ao n c)).toArray 79))
  have A1 := heap_alloc_new w (.cells (o.cells (.slice ao n c)).toArray 79)
  have a0 := cell_of (i := 0) A1 rfl
  have a1 := cell_of (i := 1) A1 rfl
  clear A1
  by_cases hs : o.s.toList = []
  · have h2 : (o.s.toList == []) = true := by rw [hs]; rfl
    go_enter Tryz.func322, Tryz.ntmps322
    go_wp2_with fail
    go_ret
    exact ⟨rfl, b0.out⟩
  · have h2 : (o.s.toList == []) = false := by simpa using hs
    go_enter Tryz.func322, Tryz.ntmps322
    go_wp2_with fail
    go_ret
    exact ⟨rfl, b0.out⟩
set_option maxRecDepth 20000 in
set_option maxHeartbeats 1000000 in
theorem known_none (o : Ow) (h14 : o.k ≠ 14) (h16 : o.k ≠ 16) (ao : Option Addr) (n c : Nat) (j : Int) (w : World) : Calls Tryz.prog 285 #[.agg (o.cells (.slice ao n c)).toArray, .int .i64 j] w fun e w' => e = .returned (.slice none 0 0) ∧ Below w.heap.size w w' := by
  have e16 : (o.k != 16) = true := by simpa using h16
  have b0 := hid ((Below.refl w.heap.size w).alloc (Nat.le_refl _) (.cells (o.cells (.slice ao n c)).toArray 79))
  have HA := hid (heap_alloc_new w (.cells (o.cells (.slice ao n c)).toArray 79))
  have HN := hid (fun w => names_none o h14 h16 ao n c w)
  clear h14 h16
  go_enter Tryz.func285, Tryz.ntmps285
  go_wp2_with (refine wpList_load_row rfl 79 _ rfl w.heap.size rfl 79 _ (0, 0) _ HA.out Tryz.underlying79 rfl (ow_info o (.slice ao n c)) ?_)
  refine (HN.out _).mono ?_
  rintro e w1 ⟨rfl, b1⟩
  have a0 := cell_of (i := 0) ((b1.block _ (heap_lt HA.out)).trans HA.out) rfl
  have B1 := hid (b0.out.trans (b1.mono b0.out.size))
  clear b1
  go_wp2_with fail
  go_ret
  exact ⟨rfl, B1.out⟩
/-- an expander over a workbook without names -/
structure Xp (xb : Nat) (m : Nat) (z : World) : Prop where
  row : ∃ sv tv rv mv, z.heap[xb]? = some (.cells #[sv, .slice none 0 0, tv, rv, .int .i64 m, mv] 258 (0, 0))
  env : ∃ y, Env y ∧ y.heap.size ≤ xb ∧ Below y.heap.size y z
theorem Xp.keep {xb m : Nat} {z z' : World} (h : Xp xb m z) (hb : Below z.heap.size z z') : Xp xb m z' := by
  obtain ⟨⟨sv, tv, rv, mv, h1⟩, y, h2, h3, h4⟩ := h
  exact ⟨⟨sv, tv, rv, mv, (hb.block _ (heap_lt h1)).trans h1⟩, y, h2, h3, h4.trans (hb.mono h4.size)⟩
theorem Xp.chg {xb m : Nat} {z z' : World} {F : List Nat} (h : Xp xb m z) (hc : Chg F z z') (hF : ∀ x ∈ F, xb < x) : Xp xb m z' := by
  obtain ⟨⟨sv, tv, rv, mv, h1⟩, y, h2, h3, h4⟩ := h
  exact ⟨⟨sv, tv, rv, mv, hc.heap h1 (fun hx => Nat.lt_irrefl _ (hF _ hx))⟩, y, h2, h3, h4.trans (hc.below (fun x hx => by have := hF _ hx; omega) h4.size)⟩
theorem Xp.lt {xb m : Nat} {z : World} (h : Xp xb m z) : xb < z.heap.size := by
  obtain ⟨⟨sv, tv, rv, mv, h1⟩, _⟩ := h
  exact heap_lt h1
theorem Xp.en {xb m : Nat} {z : World} (h : Xp xb m z) : Env z := by obtain ⟨_, y, h1, _, h3⟩ := h; exact h1.below h3
set_option maxRecDepth 20000 in
set_option maxHeartbeats 1000000 in
theorem idxName_nil (f : Value) (w : World) : Calls Tryz.prog 140 #[.slice none 0 0, f] w fun e w' => e = .returned (.int .i64 (-1)) ∧ w = w' := by
  go_enter Tryz.func140, Tryz.ntmps140
  go_wp2_with fail
  refine wp_loop_rounds 1 ?_
  rw [rounds_succ]
  go_wp2_with fail
  go_ret
  exact ⟨rfl, rfl⟩
set_option maxRecDepth 20000 in
set_option maxHeartbeats 1000000 in
theorem name1_none {xb m xx ss : Nat} {z : World} (h : Xp xb m z) (hx : z.cell? ⟨xx, 0, none⟩ = some (.pointer (some ⟨xb, 0, none⟩))) (s : Int) : Calls Tryz.prog 281 #[.int .i64 s, .pointer (some ⟨xx, 0, none⟩), .pointer (some ⟨ss, 0, none⟩)] z fun e z' => e = .returned (.int .i64 (-1)) ∧ Below z.heap.size z z' := by
  obtain ⟨⟨sv, tv, rv, mv, h1⟩, -⟩ := h
  have b0 := (Below.refl z.heap.size z).alloc (Nat.le_refl _) (.cells #[.int .i64 s] 3)
  have HB := hid b0
  have c1 := cell_of (i := 1) (heap_alloc_keep h1 (.cells #[.int .i64 s] 3)) rfl
  have hx' := cell_keep hx b0
  clear h1 b0 hx
  go_enter Tryz.func281, Tryz.ntmps281
  go_wp2_with fail
  refine (idxName_nil _ _).mono ?_
  rintro e w1 ⟨rfl, rfl⟩
  go_wp2_with fail
  go_ret
  exact ⟨rfl, HB.out⟩
set_option maxRecDepth 20000 in
set_option maxHeartbeats 1000000 in
theorem name_none {xb m : Nat} {z : World} (h : Xp xb m z) (s : Int) (S : ByteArray) : Calls Tryz.prog 218 #[.pointer (some ⟨xb, 0, none⟩), .int .i64 s, .string S] z fun e z' => e = .returned (.int .i64 (-1)) ∧ Below z.heap.size z z' := by
  have b0 := ((Below.refl z.heap.size z).alloc (Nat.le_refl _) (.cells #[.pointer (some ⟨xb, 0, none⟩)] 255)).alloc (by simp) (.cells #[.string S] 9)
  have H0 := hid (h.keep b0)
  have HB := hid b0
  have HX := hid (cell_of (i := 0) (heap_alloc_keep (heap_alloc_new z (.cells #[.pointer (some ⟨xb, 0, none⟩)] 255)) (.cells #[.string S] 9)) rfl)
  clear h b0
  go_enter Tryz.func218, Tryz.ntmps218
  go_wp2_with fail
  refine (name1_none H0.out HX.out _).mono ?_
  rintro e w1 ⟨rfl, b1⟩
  have H1 := hid (H0.out.keep b1)
  have HX1 := hid (cell_keep HX.out b1)
  have HB1 := hid (HB.out.trans (b1.mono HB.out.size))
  clear b1 H0 HX HB
  go_wp2_with fail
  refine (name1_none H1.out HX1.out _).mono ?_
  rintro e w2 ⟨rfl, b2⟩
  have HB2 := hid (HB1.out.trans (b2.mono HB1.out.size))
  clear b2
  go_wp2_with fail
  go_ret
  exact ⟨rfl, HB2.out⟩
set_option maxRecDepth 20000 in
set_option maxHeartbeats 1000000 in
theorem node_any {xb m : Nat} {z : World} (h : Xp xb m z) (hm : m < 200) (o : Ow) (ao : Option Addr) (n c : Nat) : Calls Tryz.prog 221 #[.pointer (some ⟨xb, 0, none⟩), .agg (o.cells (.slice ao n c)).toArray] z fun e z' => e = .returned (.agg (o.cells (.slice ao n c)).toArray) ∧ Xp xb (m + 1) z' ∧ Chg [xb] z z' := by
  have hxb := h.lt
  obtain ⟨⟨sv, tv, rv, mv, h1⟩, y, he1, he2, he3⟩ := h
  have c4 := cell_of (i := 4) h1 rfl
  have f4 := free_of (i := 4) h1
  have hw : wrap64 ((m : Int) + 1) = (m : Int) + 1 := IntWalk.wrap64_in _ (by omega)
  have hm2 : ¬ (200 < (m : Int) + 1) := by omega
  have R1 := heap_setCell_at (i := 4) h1 (.int .i64 ((m : Int) + 1))
  have b1 := (Chg.refl [xb] z).setCell (p := ⟨xb, 4, none⟩) (.inl (by simp)) (.int .i64 ((m : Int) + 1))
  have HE := hid (show ∃ y, Env y ∧ y.heap.size ≤ xb ∧ Below y.heap.size y (z.setCell ⟨xb, 4, none⟩ (.int .i64 ((m : Int) + 1))) from ⟨y, he1, he2, he3.trans (b1.below (fun x hx => by simp only [List.mem_cons, List.not_mem_nil, or_false] at hx; omega) he3.size)⟩)
  have hz1 : (z.setCell ⟨xb, 4, none⟩ (.int .i64 ((m : Int) + 1))).heap.size = z.heap.size := World.size_setCell ..
  have b2 := (b1.alloc (.cells (o.cells (.slice ao n c)).toArray 79)).alloc (.cells (nodeL 0 0).toArray 79)
  have R2 := heap_alloc_keep (heap_alloc_keep R1 (.cells (o.cells (.slice ao n c)).toArray 79)) (.cells (nodeL 0 0).toArray 79)
  have M0 : NdV z.heap.size (o.cells (.slice ao n c)) (((z.setCell ⟨xb, 4, none⟩ (.int .i64 ((m : Int) + 1))).alloc (.cells (o.cells (.slice ao n c)).toArray 79)).alloc (.cells (nodeL 0 0).toArray 79)) := by
    have := heap_alloc_keep (heap_alloc_new (z.setCell ⟨xb, 4, none⟩ (.int .i64 ((m : Int) + 1))) (.cells (o.cells (.slice ao n c)).toArray 79)) (.cells (nodeL 0 0).toArray 79)
    rwa [hz1] at this
  have M1 : NdV (z.heap.size + 1) (nodeL 0 0) (((z.setCell ⟨xb, 4, none⟩ (.int .i64 ((m : Int) + 1))).alloc (.cells (o.cells (.slice ao n c)).toArray 79)).alloc (.cells (nodeL 0 0).toArray 79)) := by
    have := heap_alloc2_new (z.setCell ⟨xb, 4, none⟩ (.int .i64 ((m : Int) + 1))) (.cells (o.cells (.slice ao n c)).toArray 79) (.cells (nodeL 0 0).toArray 79)
    rwa [hz1] at this
  have d4 : (z.setCell ⟨xb, 4, none⟩ (.int .i64 ((m : Int) + 1))).cell? ⟨xb, 4, none⟩ = some (.int .i64 ((m : Int) + 1)) := cell_of (i := 4) R1 rfl
  have K0 := hid (show NdV z.heap.size (o.cells (.slice ao n c)) _ ∧ NdV (z.heap.size + 1) (nodeL 0 0) _ from ⟨M0, M1⟩)
  have KB := hid (show Chg [xb] z _ ∧ (_ : World).heap[xb]? = _ from ⟨b2, R2⟩)
  clear h1 R1 R2 b1 b2 M0 M1 he1 he2 he3 hz1
  go_enter Tryz.func221, Tryz.ntmps221
  go_wp2_with (first | (refine wpList_load_row rfl 79 _ rfl z.heap.size rfl 79 _ (0, 0) _ K0.out.1 Tryz.underlying79 rfl (ow_info o (.slice ao n c)) ?_) | (refine wpList_store_row rfl 79 _ _ rfl (z.heap.size + 1) (o.cells (.slice ao n c)).toArray rfl rfl 79 _ K0.out.2 (node_info 0 0) (by rfl) (ow_one o ao n c) ?_))
  refine bodyPost_ret (v := .agg (o.cells (.slice ao n c)).toArray) (results_cell_row rfl _ _ (z.heap.size + 1) 79 (o.cells (.slice ao n c)).toArray (0, 0) _ rfl (heap_setRow_at K0.out.2) Tryz.underlying79 rfl (ow_info o (.slice ao n c))) rfl ?_
  obtain ⟨y, he1, he2, he3⟩ := HE.out
  refine ⟨rfl, ⟨⟨sv, tv, rv, mv, heap_setRow_far KB.out.2 (by omega) _⟩, y, he1, he2, ?_⟩, KB.out.1.setRow (.inr (Nat.le_succ _)) _⟩
  exact he3.trans ((((Chg.refl [z.heap.size + 1] _).alloc _).alloc _).setRow (.inl (by simp)) _ |>.below (fun x hx => by simp only [List.mem_cons, List.not_mem_nil, or_false] at hx; have := he3.size; rw [World.size_setCell] at this; omega) he3.size)
end Go.Proofs.YtpcjfgihglfdgaaGreatDoor

namespace Go.Proofs.YtpcjfgihglfdgaaGreatDoor
open Go.RowKit Go.Lib

/-- the first nodes of a row -/
def Fo.take : Fo → Nat → Fo
  | .nil, _ => .nil
  | .cons _ _ _, 0 => .nil
  | .cons o k r, j + 1 => .cons o k (r.take j)
theorem Fo.take_zero (f : Fo) : f.take 0 = .nil := by cases f <;> rfl
theorem Fo.take_len (f : Fo) : f.take f.len = f := by
  induction f with
  | nil => rfl
  | cons o k r _ ih => rw [Fo.len, Fo.take, ih]
theorem Fo.len_take {f : Fo} : ∀ {j : Nat}, j ≤ f.len → (f.take j).len = j := by
  induction f with
  | nil => intro j h; have : j = 0 := Nat.le_zero.1 h; subst this; rfl
  | cons o k r _ ih =>
    intro j h
    cases j with
    | zero => rfl
    | succ j => rw [Fo.take, Fo.len, ih (by rw [Fo.len] at h; omega)]
theorem Fo.take_step {f : Fo} : ∀ {j : Nat} {o : Ow} {k : Fo}, f.get j = some (o, k) → f.take (j + 1) = (f.take j).app (.cons o k .nil) := by
  induction f with
  | nil => intro j o k h; cases h
  | cons o' k' r _ ih =>
    intro j o k h
    cases j with
    | zero =>
      have e : (o', k') = (o, k) := Option.some.inj h
      obtain ⟨rfl, rfl⟩ := Prod.mk.inj e
      show Fo.cons o' k' (r.take 0) = _
      rw [Fo.take_zero]
      rfl
    | succ j =>
      show Fo.cons o' k' (r.take (j + 1)) = _
      rw [ih (j := j) h]
      rfl
section
variable {y z : World} {B nb : Nat} {v : Value} {f k : Fo} {o : Ow} {F : List Nat} {ao : Option Addr} {c : Nat}
theorem NodesOwn.low (h : NodesOwn y B v f) : ∀ x ∈ v.ownBlock.toList, B ≤ x ∧ x < y.heap.size := fun x hx => by
  obtain ⟨-, L, h1, -⟩ := h
  exact h1.lt x (by simpa using hx)
theorem nodes_push (h : NodesOwn y B v f) (hB : B ≤ y.heap.size) (hn : f.len ≤ 1000) (hc : Chg F y z) (hF : ∀ x ∈ F, x < B) (h0 : z.heap[nb]? = some (.cells (o.cells (.slice ao k.len c)).toArray 79 (0, 0)))
    (hk : KidsV z (y.heap.size ≤ ·) (.slice ao k.len c) k) : ∃ g cap z3, (Builtin.append_ #[57, 57] 57 #[v, .slice (some ⟨nb, 0, none⟩) 1 1]).run Tryz.prog z = .ok (.slice (some ⟨g, 0, none⟩) (f.len + 1) cap) z3 ∧
      NodesOwn z3 B (.slice (some ⟨g, 0, none⟩) (f.len + 1) cap) (f.app (.cons o k .nil)) ∧ Chg v.ownBlock.toList z z3 := by
  obtain ⟨-, L, h1, h2, h3, h4⟩ := h
  obtain ⟨i0, hi, hz0, hz1, hz2⟩ := info_parts node_info3
  have hlow := fun x hx => h1.lt x hx
  have hown : z.ownsRow B 79 20 v f.len L.flatten := hc.owns h1 (fun x hx hm => by have := (hlow x hx).1; have := hF x hm; omega)
  have hzs := hc.size
  obtain ⟨g, cap, z3, r1, r2, r3, r4, r5⟩ := run_append_lies (P := Tryz.prog) z 57 57 B 79 i0 (.agg (nodeL 0 0).toArray) 20 168 Tryz.underlying57 hi hz0 hz1 hz2 rfl (by decide) v f.len _ hown
    ⟨nb, 0, none⟩ 1 1 (o.cells (.slice ao k.len c)) rfl (fun j u hu => by rw [Addr.add_lit]; exact cell_of h0 (by simpa using hu)) (fun u hu => by
      have := ow_one o ao k.len c
      exact (Array.all_eq_true_iff_forall_mem.1 this) u (by simpa using hu)) (by omega) (by unfold maxLen; omega) (by omega) (by omega) z.heap.size rfl
  have c1 : Chg v.ownBlock.toList z z3 := (Chg.refl _ z).grown r3 (fun x hx => .inl (by simp [hx]))
  refine ⟨g, cap, z3, r1, ⟨fun hf => (by cases f <;> cases hf), L ++ [o.cells (.slice ao k.len c)], ?_, ?_, ?_, ?_⟩, c1⟩
  · rw [Fo.len_app, List.flatten_append]
    simpa [Fo.len] using r2
  · rw [Fo.len_app, List.length_append, h2]; rfl
  · intro c' hc'
    rcases List.mem_append.1 hc' with h5 | h5
    · exact h3 c' h5
    · simp only [List.mem_singleton] at h5
      subst h5
      rfl
  · intro j o' k' hj
    rcases get_app hj with h5 | ⟨rfl, rfl, rfl⟩
    · obtain ⟨ao', c', h6, h7⟩ := h4 j o' k' h5
      refine ⟨ao', c', ?_, ?_⟩
      · rw [List.getElem?_append_left (List.getElem?_eq_some_iff.1 h6).1]; exact h6
      · have h9 := h7.lt.chg hc (fun x hx hb => by have := hF x hx; have := hb.1.1; omega)
        have hgne : ∀ x, (B ≤ x ∧ v.ownBlock ≠ some x) ∧ x < y.heap.size → x ≠ g := fun x hx e => by
          rcases r4 with h5 | h5
          · exact hx.1.2 (by rw [e]; exact h5)
          · omega
        have h10 := h9.chg c1 (fun x hx hB => hB.1.2 (by simpa using hx))
        exact h10.mono (fun x hx => ⟨hx.1.1, by simp only [Value.ownBlock, ne_eq, Option.some.injEq]; exact fun e => hgne x hx e.symm⟩)
    · refine ⟨ao, c, ?_, ?_⟩
      · rw [← h2, List.getElem?_append_right (Nat.le_refl _), Nat.sub_self]; rfl
      · have hgne : ∀ x, (y.heap.size ≤ x ∧ x < z.heap.size) → x ≠ g := fun x hx e => by
          rcases r4 with h5 | h5
          · have := (hlow g h5).2; omega
          · omega
        have h10 := hk.lt.chg c1 (fun x hx hB => by have := (hlow x (by simpa using hx)).2; have := hB.1; omega)
        exact h10.mono (fun x hx => ⟨by have := hx.1; omega, by simp only [Value.ownBlock, ne_eq, Option.some.injEq]; exact fun e => hgne x hx e.symm⟩)
end
end Go.Proofs.YtpcjfgihglfdgaaGreatDoor
