/- IslandsRefused answers true. -/
import Derived.Test.YtagfgbmaibadjaaIsOf
import Derived.Test.YtagfgbmaibadjaaIsEx
import Derived.Test.YtagfgbmaibadjaaIsLow
import Derived.Outline
namespace Go.Proofs.Ytagfgbmaibadjaa
open Go.RowKit Go.Lib

theorem pick_is (c n : Int) (w : World) (h1 : -9223372036854775808 ≤ c) (h2 : c ≤ 9223372036854775807) (h3 : 1 ≤ n) (h4 : n ≤ 9223372036854775807) :
    Calls Try.prog 20 #[.int .i64 c, .int .i64 n] w fun e w' => ∃ p : Int, 0 ≤ p ∧ p < n ∧ e = .returned (.int .i64 p) ∧ w = w' := by
  by_cases hc : c < 0
  · have b1 : 0 ≤ -(c + 1) := by omega
    go_enter Try.func20, Try.ntmps20
    go_wp2
    go_ret
    refine ⟨_, ?_, ?_, rfl, rfl⟩
    · rw [neg_tmod_emod _ _ (by omega)]
      exact Int.emod_nonneg _ (by omega)
    · rw [neg_tmod_emod _ _ (by omega)]
      exact Int.emod_lt_of_pos _ (by omega)
  · have b1 : 0 ≤ c := by omega
    go_enter Try.func20, Try.ntmps20
    go_wp2
    go_ret
    exact ⟨_, Int.emod_nonneg _ (by omega), Int.emod_lt_of_pos _ (by omega), rfl, rfl⟩

theorem great_rows (y : World) (s m : Nat) (h : y.heap[s]? = some (.cells (List.replicate m (Value.slice none 0 0)).toArray 24 (0, 0))) (n c : Nat) (hn : n ≤ m ∧ m ≤ 1000000) : RowsIn y (.slice (some ⟨s, 0, none⟩) n c) (List.replicate n []) := by
  refine ⟨_, c, s, 0, by rw [List.length_replicate], by rw [List.length_replicate]; omega, fun i l hl => ⟨rfl, ?_⟩⟩
  have hil := (List.getElem?_eq_some_iff.1 hl).1
  rw [List.length_replicate] at hil
  rw [List.getElem?_replicate, if_pos hil] at hl
  have := Option.some.inj hl
  subst this
  refine ⟨.slice none 0 0, ?_, ints_nil y⟩
  rw [Nat.zero_add]
  refine cell_of h ?_
  rw [List.getElem?_toArray, List.getElem?_replicate, if_pos (by omega)]
theorem few_great : Few (List.replicate 2000 []) := ⟨0, fun l hl => by rw [List.eq_of_mem_replicate hl]; simp, by rw [List.length_replicate]; omega⟩
theorem great_new (y : World) (GO : Obj) (m : Nat) (hGO : GO = .cells (List.replicate m (Value.slice none 0 0)).toArray 24 (0, 0)) (n c : Nat) (hn : n ≤ m ∧ m ≤ 1000000) : RowsIn (y.alloc GO) (.slice (some ⟨y.heap.size, 0, none⟩) n c) (List.replicate n []) :=
  great_rows _ _ m (by rw [hGO]; exact heap_alloc_new y _) n c hn
theorem great_right : rightB (List.replicate 2000 []) = true := (right_iff _).2 ⟨by rw [List.length_replicate]; omega, fun l hl x hx => by rw [List.eq_of_mem_replicate hl] at hx; simp at hx⟩
theorem great_wrong : rightB (List.replicate 2001 []) = false := by
  rw [Bool.eq_false_iff]
  intro h
  have := ((right_iff _).1 h).1
  rw [List.length_replicate] at this
  omega
theorem great_parts : IsParts (natG (List.replicate 2000 [])) ((List.range 2000).map fun i => [i]) := by
  have hl : (natG (List.replicate 2000 [])).length = 2000 := by rw [natG_length, List.length_replicate]
  have := parts_low (g := natG (List.replicate 2000 [])) (fun i j h => by
    unfold edge at h
    rw [natG_edges, List.getElem?_replicate] at h
    split at h <;> simp at h)
  rw [hl] at this
  exact this
theorem bad_wrong {G : List (List Int)} {k : Nat} {l : List Int} {x : Int} (hk : k < G.length) (hx : x < 0 ∨ (G.length : Int) ≤ x) (hl : x ∈ l) : rightB (G.set k l) = false := by
  rw [Bool.eq_false_iff]
  intro h
  have h2 := ((right_iff _).1 h).2 l (List.mem_of_getElem? (i := k) (by rw [List.getElem?_set_self hk])) x hl
  rw [List.length_set] at h2
  omega
theorem loop_bad {G : List (List Int)} (h : rightB G = false) : loopB G [0, 0] = false := h
theorem below_low {B : Nat} {w w' : World} (h : Chg [] w w') (hB : B ≤ w.heap.size) : Below B w w' := h.below (by simp) hB

set_option maxRecDepth 20000 in
set_option maxHeartbeats 4000000 in
theorem refused_any (w : World) (v0 : Value) (L : List (List Nat)) (h : RawIn w v0 L) (t : Nat) (ht : t ≤ 255) (c : Int) (hc1 : -9223372036854775808 ≤ c) (hc2 : c ≤ 9223372036854775807) : Calls Try.prog 9 #[v0, .int .u8 (t : Int), .int .i64 c] w (HeadEnd w) := by
  have H := hid h
  obtain ⟨GO, hGO⟩ : ∃ GO, GO = Obj.cells (List.replicate 2001 (Value.slice none 0 0)).toArray 24 (0, 0) := ⟨_, rfl⟩
  have HGO := hid hGO
  have hmk : ∀ u : World, (Instr.makeSlice 22 (.int .i64 2001) (.int .i64 2001)).run Try.prog u = .ok (.slice (some ⟨u.heap.size, 0, none⟩) 2001 2001) (u.alloc GO) := fun u => by rw [hGO]; exact make_rows 2001 (by omega) u
  clear hGO
  have HGR := hid great_wrong
  have HG2 := hid great_right
  have HGL := hid (show loopB (List.replicate 2001 []) [1, 2] = false from great_wrong)
  clear h
  go_enter Try.func9, Try.ntmps9
  go_wp2_with fail
  refine (examples_any w).mono ?_
  rintro e w1 ⟨rfl, hb1⟩
  go_wp2_with fail
  refine (of_any w1 v0 L (H.out.below hb1)).mono ?_
  rintro e w2 ⟨b, n, hn, rfl, r2, hb2⟩
  have hn60 : n ≤ 60 := by rw [hn]; unfold nodesOf; omega
  have hgl : (castG (ofG L)).length = n := by rw [castG_length, ofG_length, hn]
  obtain ⟨G, hG⟩ : ∃ G, G = castG (ofG L) := ⟨_, rfl⟩
  rw [← hG] at r2 hgl
  have hrow8 : ∀ l ∈ G, l.length ≤ 8 := by
    intro l hl
    rw [hG] at hl
    unfold castG at hl
    obtain ⟨l', hl', rfl⟩ := List.mem_map.1 hl
    unfold ofG at hl'
    obtain ⟨i, _, rfl⟩ := List.mem_map.1 hl'
    rw [List.length_map]
    exact rowOf_length L i
  obtain ⟨v3, us3, w3, happ1, R3, hb3⟩ := copy_rows r2 (by omega)
  obtain ⟨v4, w4, happ2, R4, ch4⟩ := R3.push hb3.size (intsT_nil w3) (by omega)
  obtain ⟨N, hN⟩ : ∃ N, N = n + 1 := ⟨_, rfl⟩
  have hGN : (G ++ [([] : List Int)]).length = N := by rw [List.length_append, hgl, hN]; rfl
  have hview : ∃ gb c4, v4 = .slice (some ⟨gb, 0, none⟩) N c4 ∧ N ≤ c4 ∧ c4 ≤ 9223372036854775807 ∧ w2.heap.size ≤ gb := by
    rcases R4.row.2 with ⟨_, h0⟩ | ⟨gb, cap, cur, e, k1, k2, k3, k4, _⟩
    · omega
    · unfold maxLen at k4
      exact ⟨gb, cap, by rw [e, hGN], by omega, by omega, k1⟩
  obtain ⟨gb, c4, rfl, hc4, hc4m, hgb⟩ := hview
  have hbw4 : Below w.heap.size w w4 := by
    have s1 := hb1.size
    have s2 := hb2.size
    have s3 := hb3.size
    refine hb1.trans ((below_low (Chg.of_below hb2) (by omega)).trans ((below_low (Chg.of_below hb3) (by omega)).trans (ch4.below (fun y hy => ?_) (by omega))))
    simp only [own, Option.mem_toList] at hy
    have := (R3.row.lt y hy).1
    omega
  have HBW4 := hid hbw4
  have HR4 := hid R4
  have HG8 := hid hrow8
  have HGN := hid hGN
  have hN2 : N ≤ 61 := by omega
  have hN0 : 0 < N := by omega
  have hgb2 : w.heap.size ≤ gb := by have := hb1.size; have := hb2.size; omega
  clear hn hgl hG r2 R3 R4 hb1 hb2 hb3 ch4 hbw4 hrow8 hGN hN hn60 hgb
  go_wp2_with (first | (at_builtin; refine wpList_append_run rfl (.const (.slice none 0 0)) (.tmp 24) 22 rfl _ _ rfl rfl happ1 ?_) | (at_builtin; refine wpList_append_run rfl (.tmp 25) (.tmp 26) 22 rfl _ _ rfl rfl happ2 ?_))
  clear happ1 happ2
  refine (pick_is c 1000 w4 hc1 hc2 (by omega) (by omega)).mono ?_
  rintro e w4' ⟨p, hp0, hp1, rfl, rfl⟩
  obtain ⟨k, hk⟩ : ∃ k, k = t % N := ⟨_, rfl⟩
  have hwr : IntKind.i64.wrap (t : Int) = (t : Int) := IntWalk.i64_in _ (by omega)
  have hm2 : (t : Int) % (N : Int) = (k : Int) := by rw [hk]; simp
  have hm1 : Int.tmod (t : Int) (N : Int) = (k : Int) := by rw [Int.tmod_eq_emod_of_nonneg (by omega)]; exact hm2
  have hkN : k < N := by rw [hk]; exact Nat.mod_lt _ hN0
  have hnz : ¬ N = 0 := by omega
  clear hk
  obtain ⟨l, hl⟩ : ∃ l, (G ++ [([] : List Int)])[k]? = some l := ⟨_, List.getElem?_eq_getElem (by rw [HGN.out]; exact hkN)⟩
  have hl8 : l.length ≤ 8 := by
    have hm := List.mem_of_getElem? hl
    rw [List.mem_append, List.mem_singleton] at hm
    rcases hm with hm | rfl
    · exact HG8.out l hm
    · simp
  obtain ⟨uk, huk, tk⟩ := HR4.out.each k l hl
  have gck : w4.cell? ⟨gb, k, none⟩ = some uk := by
    have := HR4.out.row.cells (g := gb) rfl k uk huk
    rw [add_zero_off, Nat.zero_add] at this
    exact this
  obtain ⟨ka, kc, rfl⟩ := tk.view
  obtain ⟨v5, w5, happ3, O5, hb5⟩ := copy_ints tk (by omega)
  have key : ∀ x : Int, (-2000 ≤ x ∧ x ≤ 2000) → (x < 0 ∨ (N : Int) ≤ x) → ∃ a6 c6 w6, (Builtin.append_ #[24, 24] 24 #[v5, .slice (some ⟨w5.heap.size, 0, none⟩) 1 1]).run Try.prog (w5.alloc (.cells #[.int .i64 x] 3)) = .ok (.slice a6 (l.length + 1) c6) w6 ∧
      w6.cell? ⟨gb, k, none⟩ = some (.slice ka l.length kc) ∧ w6.frozen? ⟨gb, k, none⟩ = false ∧ RowsOwn (w6.setCell ⟨gb, k, none⟩ (.slice a6 (l.length + 1) c6)) w2.heap.size (.slice (some ⟨gb, 0, none⟩) N c4) ((us3 ++ [Value.slice none 0 0]).set k (.slice a6 (l.length + 1) c6)) ((G ++ [[]]).set k (l ++ [x])) ∧
      Below w.heap.size w (w6.setCell ⟨gb, k, none⟩ (.slice a6 (l.length + 1) c6)) := by
    intro x hx1 hx2
    obtain ⟨a6, c6, w6, happ4, O6, ch6, _⟩ := app_int O5 hb5.size (by omega) x
    have hb6 : Below w4.heap.size w4 w6 := hb5.trans (ch6.below (fun y hy => by
      simp only [own, Option.mem_toList] at hy
      exact (O5.lt y hy).1) hb5.size)
    have R6 := HR4.out.below hb6
    have t6 : IntsT w6 (.slice a6 (l.length + 1) c6) (l ++ [x]) := owns_intsT (B := w4.heap.size) (by simpa using O6) (fun y hy => by
      rw [List.mem_append, List.mem_singleton] at hy
      rcases hy with hy | rfl
      · obtain ⟨j, hj⟩ := List.getElem?_of_mem hy
        obtain ⟨_, _, _, _, _, _, k3⟩ := tk
        exact (k3 j y hj).2.2.1
      · omega)
    obtain ⟨cs, hcs⟩ := owns_cells R6.row (g := gb) rfl
    have hgw : w.heap.size ≤ w4.heap.size := HBW4.out.size
    exact ⟨a6, c6, w6, happ4, (hb6.cell (World.block_lt_of_cell? _ _ gck)).trans gck, free_of hcs, R6.set (by rw [HGN.out]; exact hkN) t6, (HBW4.out.trans (below_low (Chg.of_below hb6) hgw)).setCell hgb2 _⟩
  have KEY := hid key
  have HGX := hid (fun x : Int => fun hx : (x < 0 ∨ (N : Int) ≤ x) => bad_wrong (G := G ++ [[]]) (k := k) (l := l ++ [x]) (x := x) (by rw [HGN.out]; exact hkN) (by rw [HGN.out]; exact hx) (by simp))
  clear key hl huk tk O5 hb5
  by_cases hc : c < 0
  · go_wp2_with fail
    refine (pick_is c 1000 w4 hc1 hc2 (by omega) (by omega)).mono ?_
    rintro e w4' ⟨p2, hp2, hp3, rfl, rfl⟩
    obtain ⟨a6, c6, w6, happ4, gc6, gf6, R7, hb7⟩ := KEY.out (-1 - p2) (by omega) (by omega)
    have HR7 := hid R7
    have HB7 := hid hb7
    have HBAD := hid (HGX.out (-1 - p2) (by omega))
    have HLB := hid (loop_bad HBAD.out)
    clear R7 hb7
    go_wp2_with (first | (at_builtin; refine wpList_append_run rfl (.const (.slice none 0 0)) (.tmp 48) 24 rfl _ _ rfl rfl happ3 ?_) | (at_builtin; refine wpList_append_run rfl (.tmp 49) (.tmp 51) 24 rfl _ _ rfl rfl happ4 ?_))
    refine (parts_no HR7.out.rows.rows HBAD.out).mono ?_
    rintro e w8 ⟨rfl, hb8⟩
    clear happ3 happ4 gc6 gf6 gck
    go_wp2_with fail
    refine (parts_no (great_new _ GO 2001 HGO.out 2001 2001 (by omega)) HGR.out).mono ?_
    rintro e w9 ⟨rfl, hb9⟩
    go_wp2_with fail
    refine (parts_known ((great_new _ GO 2001 HGO.out 2000 2001 (by omega)).below hb9) HG2.out few_great great_parts).mono ?_
    rintro e w10 ⟨v10, rfl, r10, hb10⟩
    obtain ⟨a10, c10, rfl, _⟩ := rows_view r10
    have hl10 : (castG ((List.range 2000).map fun i => [i])).length = 2000 := by rw [castG_length, List.length_map, List.length_range]
    rw [hl10]
    clear r10 hl10
    go_wp2_with fail
    refine (loop_is (b := false) (HR7.out.rows.rows.below (Chg.nil_below (by repeat (first | exact Chg.refl _ _ | refine Chg.alloc ?_ _ | refine chg_call ?_ hb8 | refine chg_call ?_ hb9 | refine chg_call ?_ hb10 | refine chg_call ?_ hb11)))) (ints2 (by repeat (with_reducible (first | (refine heap_new_at _ _ ?_ _; simp; done) | refine heap_alloc_keep ?_ _))) (by decide) (by decide)) HLB.out).mono ?_
    rintro e w11 ⟨rfl, hb11⟩
    go_wp2_with fail
    refine (loop_is (b := false) ((great_new w8 GO 2001 HGO.out 2001 2001 (by omega)).below (Chg.nil_below (by repeat (first | exact Chg.refl _ _ | refine Chg.alloc ?_ _ | refine chg_call ?_ hb8 | refine chg_call ?_ hb9 | refine chg_call ?_ hb10 | refine chg_call ?_ hb11)))) (ints2 (by repeat (with_reducible (first | (refine heap_new_at _ _ ?_ _; simp; done) | refine heap_alloc_keep ?_ _))) (by decide) (by decide)) HGL.out).mono ?_
    rintro e w12 ⟨rfl, hb12⟩
    go_wp2_with fail
    go_ret
    exact ⟨rfl, HB7.out.trans (below_low (chg_call (by repeat (first | exact Chg.refl _ _ | refine Chg.alloc ?_ _ | refine chg_call ?_ hb8 | refine chg_call ?_ hb9 | refine chg_call ?_ hb10 | refine chg_call ?_ hb11)) hb12) HB7.out.size)⟩
  · obtain ⟨x, hx⟩ : ∃ x, x = (N : Int) + p := ⟨_, rfl⟩
    obtain ⟨a6, c6, w6, happ4, gc6, gf6, R7, hb7⟩ := KEY.out x (by omega) (by omega)
    have HR7 := hid R7
    have HB7 := hid hb7
    have HBAD := hid (HGX.out x (by omega))
    have HLB := hid (loop_bad HBAD.out)
    clear R7 hb7
    subst hx
    go_wp2_with (first | (at_builtin; refine wpList_append_run rfl (.const (.slice none 0 0)) (.tmp 48) 24 rfl _ _ rfl rfl happ3 ?_) | (at_builtin; refine wpList_append_run rfl (.tmp 49) (.tmp 51) 24 rfl _ _ rfl rfl happ4 ?_))
    refine (parts_no HR7.out.rows.rows HBAD.out).mono ?_
    rintro e w8 ⟨rfl, hb8⟩
    clear happ3 happ4 gc6 gf6 gck
    go_wp2_with fail
    refine (parts_no (great_new _ GO 2001 HGO.out 2001 2001 (by omega)) HGR.out).mono ?_
    rintro e w9 ⟨rfl, hb9⟩
    go_wp2_with fail
    refine (parts_known ((great_new _ GO 2001 HGO.out 2000 2001 (by omega)).below hb9) HG2.out few_great great_parts).mono ?_
    rintro e w10 ⟨v10, rfl, r10, hb10⟩
    obtain ⟨a10, c10, rfl, _⟩ := rows_view r10
    have hl10 : (castG ((List.range 2000).map fun i => [i])).length = 2000 := by rw [castG_length, List.length_map, List.length_range]
    rw [hl10]
    clear r10 hl10
    go_wp2_with fail
    refine (loop_is (b := false) (HR7.out.rows.rows.below (Chg.nil_below (by repeat (first | exact Chg.refl _ _ | refine Chg.alloc ?_ _ | refine chg_call ?_ hb8 | refine chg_call ?_ hb9 | refine chg_call ?_ hb10 | refine chg_call ?_ hb11)))) (ints2 (by repeat (with_reducible (first | (refine heap_new_at _ _ ?_ _; simp; done) | refine heap_alloc_keep ?_ _))) (by decide) (by decide)) HLB.out).mono ?_
    rintro e w11 ⟨rfl, hb11⟩
    go_wp2_with fail
    refine (loop_is (b := false) ((great_new w8 GO 2001 HGO.out 2001 2001 (by omega)).below (Chg.nil_below (by repeat (first | exact Chg.refl _ _ | refine Chg.alloc ?_ _ | refine chg_call ?_ hb8 | refine chg_call ?_ hb9 | refine chg_call ?_ hb10 | refine chg_call ?_ hb11)))) (ints2 (by repeat (with_reducible (first | (refine heap_new_at _ _ ?_ _; simp; done) | refine heap_alloc_keep ?_ _))) (by decide) (by decide)) HGL.out).mono ?_
    rintro e w12 ⟨rfl, hb12⟩
    go_wp2_with fail
    go_ret
    exact ⟨rfl, HB7.out.trans (below_low (chg_call (by repeat (first | exact Chg.refl _ _ | refine Chg.alloc ?_ _ | refine chg_call ?_ hb8 | refine chg_call ?_ hb9 | refine chg_call ?_ hb10 | refine chg_call ?_ hb11)) hb12) HB7.out.size)⟩

end Go.Proofs.Ytagfgbmaibadjaa
