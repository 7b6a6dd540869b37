/- The law's Set: its first formula reads the last one from now on. Condition: what the package-level variables hold lies as it was laid. -/
import Derived.Test.YtpcjfgihglfdgaaGreatDoorKChSetC

namespace Go.Proofs.YtpcjfgihglfdgaaGreatDoor
open Go.RowKit Go.Lib

theorem placesN_rising (k : Nat) : Rising (placesN k) := by
  unfold Rising placesN
  rw [List.pairwise_map]
  refine List.pairwise_lt_range.imp (fun {a b} h => ?_)
  unfold aheadP
  dsimp only
  omega
theorem bk_places {z : World} {b bc k : Nat} {dv : Value} {tx : PAt → ByteArray} (hbc : 1 ≤ bc) (h0 : z.cell? ⟨b, 0, none⟩ = some (.string nameS)) (h1 : z.cell? ⟨b, 1, none⟩ = some dv) (hc : CellsIn z dv tx (placesN k)) (hk : k ≤ 40) (hi : ∀ i, i < k → InE (tx ((0 : Int), (i : Int), (0 : Int)))) : Bk1 z (.agg (bookC1 b 0 bc)) (placesN k) tx := by
  have hp : ∀ p, p ∈ placesN k → ∃ i : Nat, i < k ∧ p = ((0 : Int), (i : Int), (0 : Int)) := fun p hp => by
    simp only [placesN, List.mem_map, List.mem_range] at hp
    obtain ⟨i, hi, rfl⟩ := hp
    exact ⟨i, hi, rfl⟩
  refine ⟨⟨b, 0, bc, dv, hbc, rfl, h0, h1, by rw [onSheet_places]; exact hc⟩, placesN_rising k, fun p h => ?_, by rw [placesN_len]; exact hk, fun p h => ?_⟩
  · obtain ⟨i, h1, rfl⟩ := hp p h
    unfold InTwo
    dsimp only
    omega
  · obtain ⟨i, h1, rfl⟩ := hp p h
    exact hi i h1
theorem places_head (m : Nat) : placesN (m + 1) = ((0 : Int), (0 : Int), (0 : Int)) :: (placesN (m + 1)).drop 1 ∧ ((0 : Int), (0 : Int), (0 : Int)) ∉ (placesN (m + 1)).drop 1 := by
  unfold placesN
  rw [List.range_succ_eq_map]
  refine ⟨rfl, fun h => ?_⟩
  simp only [List.map_cons, List.map_map, List.drop_succ_cons, List.drop_zero, List.mem_map, Function.comp_apply, Prod.mk.injEq] at h
  obtain ⟨a, -, -, h, -⟩ := h
  omega
theorem tx_ring {k : Nat} : ∀ i, i < k → txPut txD ((0 : Int), (0 : Int), (0 : Int)) (bs (61 :: refB k)) ((0 : Int), (i : Int), (0 : Int)) = bs (61 :: lR k i) := fun i _ => by
  by_cases h0 : i = 0
  · subst h0
    exact txPut_at _ _ _
  · rw [txPut_far (by simp; omega)]
    unfold txD lD lR
    simp [h0]
theorem set_ring {y : World} {b k : Nat} {dv : Value} (hE : Env y) (hk2 : 2 ≤ k) (hk : k ≤ 31) (h0 : y.cell? ⟨b, 0, none⟩ = some (.string nameS)) (h1 : y.cell? ⟨b, 1, none⟩ = some dv) (hc : CellsIn y dv txD (placesN k)) :
    Calls Tryz.prog 8 #[.agg #[.slice (some ⟨b, 0, none⟩) 1 1, .slice none 0 0, .slice none 0 0, .slice none 0 0], .agg #[.int .i64 0, .int .i64 0, .int .i64 0], .string (bs (61 :: refB k))] y fun e w' => (∃ gs go gc, e = .returned (.tuple #[.agg (bookC1 gs go gc), .int .i64 0]) ∧ ∀ (z : World) (F : List Nat), Chg F w' z → (∀ x, x ∈ F → x < y.heap.size) → Bk1 z (.agg (bookC1 gs go gc)) (placesN k) (txPut txD ((0 : Int), (0 : Int), (0 : Int)) (bs (61 :: refB k)))) ∧ Below y.heap.size y w' := by
  obtain ⟨m, rfl⟩ : ∃ m, k = m + 1 := ⟨k - 1, by omega⟩
  have hd : ∀ i, i < m + 1 → InE (txD ((0 : Int), (i : Int), (0 : Int))) := fun i hi => inE_of (reads_down (i := i) (by omega))
  refine (setAt_one y hE _ (placesN (m + 1)) ((placesN (m + 1)).drop 1) txD (bk_places (by omega) h0 h1 hc (by omega) hd) (by rw [onSheet_places]; exact (places_head m).1) (places_head m).2 (bs (61 :: refB (m + 1))) (inE_of (reads_ref (m + 1) (by omega) (by omega))) (by simp [bs])).mono ?_
  rintro e w' ⟨⟨ov, rfl, hB⟩, hb⟩
  obtain ⟨⟨gs, go, gc, v0, -, rfl, -⟩, -⟩ := hB w' [] (Chg.refl _ _) (by simp)
  exact ⟨⟨gs, go, gc, rfl, hB⟩, hb⟩

noncomputable def rest13 : Code := sndSeq (sndSeq (sndSeq (sndSeq (sndSeq (sndSeq (sndSeq (sndSeq (sndSeq (sndSeq (sndSeq (sndSeq (sndSeq (Tryz.f3.body.getD .skip)))))))))))))
set_option maxRecDepth 20000 in
set_option maxHeartbeats 2000000 in
theorem tail13 {w y : World} {k g : Nat} {dv : Value} {v0 v1 v2 v6 v7 v8 v9 v10 v11 v12 v13 v14 v15 v16 v17 v18 v19 v20 v21 v22 v23 v24 v25 v26 v27 v28 v29 v30 v31 v32 v33 v34 v35 v36 v37 v38 v39 v40 v41 v42 v43 v44 v45 v46 v47 v48 v49 v50 v51 v52 v53 v54 v55 v56 v57 v58 v59 v60 v61 v62 v63 v64 v65 v66 v67 v68 v69 v70 v71 v72 v73 v74 v75 v76 v77 v78 v79 v80 v81 v82 v83 v84 v85 v86 v87 v88 v89 v90 v91 v92 v93 v94 v95 v96 v97 v98 v99 v100 v101 v102 v103 v104 v105 v106 v107 v108 v109 v110 v111 v112 v113 v114 v115 v116 v117 v118 v119 v120 v121 v122 v123 v124 v125 v126 v127 v128 v129 v130 v131 v132 v133 v134 v135 v136 v137 v138 v139 v140 v141 v142 v143 v144 v145 v146 v147 v148 v149 v150 v151 v152 v153 v154 v155 v156 v157 v158 v159 v160 v161 v162 v163 v164 v165 v166 v167 v168 v169 v170 v171 v172 v173 v174 v175 v176 v177 v178 v179 v180 v181 v182 v183 v184 v185 v186 v187 v188 v189 v190 v191 v192 v193 v194 v195 v196 v197 v198 v199 v200 v201 v202 v203 v204 v205 v206 v207 v208 v209 v210 v211 v212 v213 v214 v215 v216 v217 v218 v219 v220 v221 v222 v223 v224 v225 v226 : Value} (hE : Env y) (hk2 : 2 ≤ k) (hk : k ≤ 31) (hg : y.heap[g]? = some (.cells #[.string nameS, dv] 25 (0, 0))) (hc : CellsIn y dv txD (placesN k)) (hw : Below w.heap.size w y) :
    Code.wp Tryz.prog rest13 (bodyPost Tryz.prog Tryz.f3 (fun e w' => e = .returned (.bool true) ∧ Below w.heap.size w w')) { tmps := #[v0, v1, v2, .bool true, .int .i64 (k : Int), .pointer (some ⟨g, 0, none⟩), v6, v7, v8, v9, v10, v11, v12, v13, v14, v15, v16, v17, v18, v19, v20, v21, v22, v23, v24, v25, v26, v27, v28, v29, v30, v31, v32, v33, v34, v35, v36, v37, v38, v39, v40, v41, v42, v43, v44, v45, v46, v47, v48, v49, v50, v51, v52, v53, v54, v55, v56, v57, v58, v59, v60, v61, v62, v63, v64, v65, v66, v67, v68, v69, v70, v71, v72, v73, v74, v75, v76, v77, v78, v79, v80, v81, v82, v83, v84, v85, v86, v87, v88, v89, v90, v91, v92, v93, v94, v95, v96, v97, v98, v99, v100, v101, v102, v103, v104, v105, v106, v107, v108, v109, v110, v111, v112, v113, v114, v115, v116, v117, v118, v119, v120, v121, v122, v123, v124, v125, v126, v127, v128, v129, v130, v131, v132, v133, v134, v135, v136, v137, v138, v139, v140, v141, v142, v143, v144, v145, v146, v147, v148, v149, v150, v151, v152, v153, v154, v155, v156, v157, v158, v159, v160, v161, v162, v163, v164, v165, v166, v167, v168, v169, v170, v171, v172, v173, v174, v175, v176, v177, v178, v179, v180, v181, v182, v183, v184, v185, v186, v187, v188, v189, v190, v191, v192, v193, v194, v195, v196, v197, v198, v199, v200, v201, v202, v203, v204, v205, v206, v207, v208, v209, v210, v211, v212, v213, v214, v215, v216, v217, v218, v219, v220, v221, v222, v223, v224, v225, v226], defers := [] } y := by
  have HW := hid hw
  have HPL := hid (fun w => place_any k (by omega) (by omega) w)
  obtain ⟨ta, tn, tc, hdv⟩ : ∃ a n c, dv = .slice a n c := by obtain ⟨a, c, _, _, e, _⟩ := hc.view; exact ⟨_, _, _, e⟩
  subst hdv
  have HSE := hid (fun (z : World) (b : Nat) (hb : Below y.heap.size y z) (h0 : z.cell? ⟨b, 0, none⟩ = some (.string nameS)) (h1 : z.cell? ⟨b, 1, none⟩ = some _) => set_ring (hE.below hb) hk2 hk h0 h1 (hc.below hb))
  have HE := hid hE
  have q0 : y.cell? ⟨g, 0, none⟩ = some (.string nameS) := cell_of hg rfl
  have q1 : y.cell? ⟨g, 1, none⟩ = some (.slice ta tn tc) := cell_of hg rfl
  have HS0 := hid (show y.drew.cell? ⟨g, 0, none⟩ = some (.string nameS) ∧ y.drew.cell? ⟨g, 1, none⟩ = some (.slice ta tn tc) from ⟨q0, q1⟩)
  clear hE hw hc
  simp only [rest13, sndSeq, Tryz.f3, Option.getD_some]
  go_wp2_with fail
  rename_i K hK0
  have HC := hid hK0
  clear hK0
  have HSF := hid (fun (z : World) (hb : Below y.heap.size y z) => show z.cell? ⟨g, 0, none⟩ = some (.string nameS) ∧ z.cell? ⟨g, 1, none⟩ = some (.slice ta tn tc) from ⟨(hb.cell (World.block_lt_of_cell? _ _ q0)).trans q0, (hb.cell (World.block_lt_of_cell? _ _ q1)).trans q1⟩)
  have BW0 := hid (Below.refl y.heap.size y).drew
  have hsz : ¬ (9223372036854775807 < 1 + (bs (refB k)).size) := by rw [bs_size]; have := refB_len (n := k) (by omega); omega
  clear hg
  refine wp_region_held_drew (S := fun z => z.cell? ⟨g, 0, none⟩ = some (.string nameS) ∧ z.cell? ⟨g, 1, none⟩ = some (.slice ta tn tc)) (by kernel_rfl) HS0.out (fun hS => ?_)
  refine wpAnyH_take (i := 0) (oi := ⟨some 173, Op.load 25 (Operand.tmp 5), 25, "more.go:80", #[], none⟩) (v := ?_) rfl (by kernel_rfl) (by kernel_rfl) (by kernel_rfl) (fun _ _ _ h => h) (Or.inl ⟨by rfl, ?_⟩) hS ?_
  rotate_left 1
  · rintro wx ⟨s0, s1⟩
    (go_simp <;> (try with_reducible rfl))
  try simp only [Act.put, List.setIfInBounds_toArray, List.set_cons_zero, List.set_cons_succ]
  refine wpAnyH_take (i := 3) (oi := ⟨some 176, Op.build 46 #[], 46, "more.go:80", #[], none⟩) (v := ?_) rfl (by kernel_rfl) (by kernel_rfl) (by kernel_rfl) (fun _ _ _ h => h) (Or.inl ⟨by rfl, ?_⟩) hS ?_
  rotate_left 1
  · rintro wx ⟨s0, s1⟩
    (go_simp <;> (try with_reducible rfl))
  try simp only [Act.put, List.setIfInBounds_toArray, List.set_cons_zero, List.set_cons_succ]
  refine wpAnyH_take (i := 4) (oi := ⟨some 177, Op.move (Operand.tmp 4), 3, "more.go:80", #[], none⟩) (v := ?_) rfl (by kernel_rfl) (by kernel_rfl) (by kernel_rfl) (fun _ _ _ h => h) (Or.inl ⟨by rfl, ?_⟩) hS ?_
  rotate_left 1
  · rintro wx ⟨s0, s1⟩
    (go_simp <;> (try with_reducible rfl))
  try simp only [Act.put, List.setIfInBounds_toArray, List.set_cons_zero, List.set_cons_succ]
  generalize World.drew y = z0 at BW0 HS0 ⊢
  refine wpAnyH_ready (rs := [1, 5, 11]) (by kernel_rfl) (by simp) ?_
  refine AllReadyH.cons (o := ⟨some 174, Op.buildSlice 34 1 #[(0, Operand.tmp 173)], 34, "more.go:80", #[⟨0, .data⟩], none⟩) rfl (fun K hK => ?_) ?_
  rotate_left 1
  refine AllReadyH.cons (o := ⟨some 178, Op.call { callee := Callee.value (Operand.func 5), args := #[Operand.tmp 177], argTypes := #[3] }, 9, "more.go:80", #[⟨4, .data⟩], none⟩) rfl (fun K hK => ?_) ?_
  rotate_left 1
  refine AllReadyH.cons (o := ⟨some 20, Op.alloc 39, 0, "more.go:80", #[], none⟩) rfl (fun K hK => ?_) AllReadyH.nil
  · go_simp; have hn := heap_alloc_new z0 (.cells #[.slice none 0 0, .slice none 0 0, .slice none 0 0, .slice none 0 0] 39); have hb := (Below.refl z0.heap.size z0).alloc (Nat.le_refl _) (.cells #[.slice none 0 0, .slice none 0 0, .slice none 0 0, .slice none 0 0] 39); obtain ⟨b2, e1⟩ : ∃ b, b = z0.heap.size := ⟨_, rfl⟩; have L2 := hid (show y.heap.size ≤ b2 from by rw [e1]; exact BW0.out.size); have E2 := hid (show z0.heap.size ≤ b2 from by rw [e1]; exact Nat.le_refl _); rw [← e1] at hn ⊢; generalize World.alloc z0 _ = z1 at hn hb ⊢; have BW1 := hid (BW0.out.trans (hb.mono BW0.out.size)); have G21 := hid hn; clear e1 hn hb
    refine hK.out _ _ (HSF.out _ BW1.out) (fun hS2 => ?_)
    clear hK K hS
    revert hS2; intro hS
    try simp only [Act.put, List.setIfInBounds_toArray, List.set_cons_zero, List.set_cons_succ]
    refine wpAnyH_ready (rs := [1, 5]) (by kernel_rfl) (by simp) ?_
    refine AllReadyH.cons (o := ⟨some 174, Op.buildSlice 34 1 #[(0, Operand.tmp 173)], 34, "more.go:80", #[⟨0, .data⟩], none⟩) rfl (fun K hK => ?_) ?_
    rotate_left 1
    refine AllReadyH.cons (o := ⟨some 178, Op.call { callee := Callee.value (Operand.func 5), args := #[Operand.tmp 177], argTypes := #[3] }, 9, "more.go:80", #[⟨4, .data⟩], none⟩) rfl (fun K hK => ?_) AllReadyH.nil
    · go_simp; refine (HPL.out _).mono ?_; rintro e z2 ⟨rfl, hb⟩; have BW2 := hid (BW1.out.trans (hb.mono BW1.out.size)); have G22 := hid ((hb.block _ (heap_lt G21.out)).trans G21.out); clear hb
      refine hK.out _ _ (HSF.out _ BW2.out) (fun hS2 => ?_)
      clear hK K hS
      revert hS2; intro hS
      try simp only [Act.put, List.setIfInBounds_toArray, List.set_cons_zero, List.set_cons_succ]
      refine wpAnyH_take (i := 6) (oi := ⟨some 179, Op.binOp BinOp.add 9 (Operand.const (Value.string { data := #[61] })) (Operand.tmp 178) 9, 9, "more.go:80", #[⟨5, .data⟩], none⟩) (v := ?_) rfl (by kernel_rfl) (by kernel_rfl) (by kernel_rfl) (fun _ _ _ h => h) (Or.inl ⟨by rfl, ?_⟩) hS ?_
      rotate_left 1
      · rintro wx ⟨s0, s1⟩
        (go_simp <;> (try with_reducible rfl))
      try simp only [Act.put, List.setIfInBounds_toArray, List.set_cons_zero, List.set_cons_succ]
      rw [show (⟨#[61]⟩ : ByteArray) ++ bs (refB k) = bs (61 :: refB k) from bs_append [61] (refB k)]
      refine wpAnyH_ready (rs := [1]) (by kernel_rfl) (by simp) ?_
      refine AllReadyH.cons (o := ⟨some 174, Op.buildSlice 34 1 #[(0, Operand.tmp 173)], 34, "more.go:80", #[⟨0, .data⟩], none⟩) rfl (fun K hK => ?_) AllReadyH.nil
      go_simp; have hn := heap_alloc_new z2 (.cells #[.string nameS, .slice ta tn tc] 25); have hb := (Below.refl z2.heap.size z2).alloc (Nat.le_refl _) (.cells #[.string nameS, .slice ta tn tc] 25); obtain ⟨b1, e1⟩ : ∃ b, b = z2.heap.size := ⟨_, rfl⟩; rw [← e1] at hn ⊢; generalize World.alloc z2 _ = z3 at hn hb ⊢; have BW3 := hid (BW2.out.trans (hb.mono BW2.out.size)); have G23 := hid ((hb.block _ (heap_lt G22.out)).trans G22.out); have G13 := hid hn; clear e1 hn hb
      refine hK.out _ _ (HSF.out _ BW3.out) (fun hS2 => ?_)
      clear hK K hS
      revert hS2; intro hS
      try simp only [Act.put, List.setIfInBounds_toArray, List.set_cons_zero, List.set_cons_succ]
      refine wpAnyH_take (i := 2) (oi := ⟨some 175, Op.build 39 #[(0, Operand.tmp 174)], 39, "more.go:80", #[⟨1, .data⟩], none⟩) (v := ?_) rfl (by kernel_rfl) (by kernel_rfl) (by kernel_rfl) (fun _ _ _ h => h) (Or.inl ⟨by rfl, ?_⟩) hS ?_
      rotate_left 1
      · rintro wx ⟨s0, s1⟩
        (go_simp <;> (try with_reducible rfl))
      try simp only [Act.put, List.setIfInBounds_toArray, List.set_cons_zero, List.set_cons_succ]
      refine wpAnyH_ready (rs := [7]) (by kernel_rfl) (by simp) ?_
      refine AllReadyH.cons (o := ⟨some 180, Op.call { callee := Callee.value (Operand.func 8), args := #[Operand.tmp 175, Operand.tmp 176, Operand.tmp 179], argTypes := #[39, 46, 9] }, 43, "more.go:80", #[⟨2, .data⟩, ⟨3, .data⟩, ⟨6, .data⟩, ⟨5, .chain⟩], none⟩) rfl (fun K hK => ?_) AllReadyH.nil
      go_simp; refine (HSE.out z3 b1 BW3.out (cell_of G13.out rfl) (cell_of G13.out rfl)).mono ?_; rintro e z4 ⟨⟨gs, go, gc, rfl, hq⟩, hb⟩; have BW4 := hid (BW3.out.trans (hb.mono BW3.out.size)); have G14 := hid ((hb.block _ (heap_lt G13.out)).trans G13.out); have G24 := hid ((hb.block _ (heap_lt G23.out)).trans G23.out); have BK := hid (fun z' (hc : Chg [b2] z4 z') => hq z' [b2] hc (fun x hx => by simp only [List.mem_singleton] at hx; rw [hx]; exact heap_lt G23.out)); clear hb hq
      refine hK.out _ _ (HSF.out _ BW4.out) (fun hS2 => ?_)
      clear hK K hS
      revert hS2; intro hS
      try simp only [Act.put, List.setIfInBounds_toArray, List.set_cons_zero, List.set_cons_succ]
      refine wpAnyH_take (i := 8) (oi := ⟨some 172, Op.move (Operand.tmp 180), 43, "more.go:80", #[⟨7, .data⟩], none⟩) (v := ?_) rfl (by kernel_rfl) (by kernel_rfl) (by kernel_rfl) (fun _ _ _ h => h) (Or.inl ⟨by rfl, ?_⟩) hS ?_
      rotate_left 1
      · rintro wx ⟨s0, s1⟩
        (go_simp <;> (try with_reducible rfl))
      try simp only [Act.put, List.setIfInBounds_toArray, List.set_cons_zero, List.set_cons_succ]
      refine wpAnyH_take (i := 9) (oi := ⟨some 181, Op.extract (Operand.tmp 172) 0, 39, "more.go:80", #[⟨8, .data⟩], none⟩) (v := ?_) rfl (by kernel_rfl) (by kernel_rfl) (by kernel_rfl) (fun _ _ _ h => h) (Or.inl ⟨by rfl, ?_⟩) hS ?_
      rotate_left 1
      · rintro wx ⟨s0, s1⟩
        (go_simp <;> (try with_reducible rfl))
      try simp only [Act.put, List.setIfInBounds_toArray, List.set_cons_zero, List.set_cons_succ]
      refine wpAnyH_take (i := 10) (oi := ⟨some 182, Op.extract (Operand.tmp 172) 1, 31, "more.go:80", #[⟨8, .data⟩, ⟨12, .gcOnly .lateStores⟩], none⟩) (v := ?_) rfl (by kernel_rfl) (by kernel_rfl) (by kernel_rfl) (fun _ _ _ h => h) (Or.inl ⟨by rfl, ?_⟩) hS ?_
      rotate_left 1
      · rintro wx ⟨s0, s1⟩
        (go_simp <;> (try with_reducible rfl))
      try simp only [Act.put, List.setIfInBounds_toArray, List.set_cons_zero, List.set_cons_succ]
      have t0 : z4.cell? ⟨b2, 0, none⟩ = some (.slice none 0 0) := cell_of G24.out rfl
      have t1 : z4.cell? ⟨b2, 1, none⟩ = some (.slice none 0 0) := cell_of G24.out rfl
      have t2 : z4.cell? ⟨b2, 2, none⟩ = some (.slice none 0 0) := cell_of G24.out rfl
      have t3 : z4.cell? ⟨b2, 3, none⟩ = some (.slice none 0 0) := cell_of G24.out rfl
      have f0 := free_of (i := 0) G24.out
      have f1 := free_of (i := 1) G24.out
      have f2 := free_of (i := 2) G24.out
      have f3 := free_of (i := 3) G24.out
      refine wpAnyH_ready (rs := [12]) (by kernel_rfl) (by simp) ?_
      refine AllReadyH.cons (o := ⟨none, Op.store 39 (Operand.tmp 20) (Operand.tmp 181), 0, "more.go:80", #[⟨11, .data⟩, ⟨9, .data⟩, ⟨7, .chain⟩, ⟨0, .phase⟩, ⟨1, .phase⟩, ⟨2, .phase⟩, ⟨3, .phase⟩, ⟨4, .phase⟩, ⟨5, .phase⟩, ⟨6, .phase⟩, ⟨7, .phase⟩, ⟨8, .phase⟩, ⟨9, .phase⟩, ⟨10, .textOnly .lateStores⟩, ⟨11, .phase⟩], none⟩) rfl (fun K hK => ?_) AllReadyH.nil
      go_simp
      refine hK.out _ _ (HSF.out _ ((((BW4.out.setCell L2.out _).setCell L2.out _).setCell L2.out _).setCell L2.out _)) (fun hS2 => ?_)
      clear hK K hS
      revert hS2; intro hS
      try simp only [Act.put, List.setIfInBounds_toArray, List.set_cons_zero, List.set_cons_succ]
      refine wpAnyH_take (i := 13) (oi := ⟨some 21, Op.assign (Operand.tmp 182), 31, "more.go:80", #[⟨10, .data⟩, ⟨12, .chain⟩, ⟨0, .phase⟩, ⟨1, .phase⟩, ⟨2, .phase⟩, ⟨3, .phase⟩, ⟨4, .phase⟩, ⟨5, .phase⟩, ⟨6, .phase⟩, ⟨7, .phase⟩, ⟨8, .phase⟩, ⟨9, .phase⟩, ⟨10, .phase⟩, ⟨11, .phase⟩, ⟨12, .phase⟩], none⟩) (v := ?_) rfl (by kernel_rfl) (by kernel_rfl) (by kernel_rfl) (fun _ _ _ h => h) (Or.inl ⟨by rfl, ?_⟩) hS ?_
      rotate_left 1
      · rintro wx ⟨s0, s1⟩
        (go_simp <;> (try with_reducible rfl))
      try simp only [Act.put, List.setIfInBounds_toArray, List.set_cons_zero, List.set_cons_succ]
      refine wpAnyH_done (by kernel_rfl) ?_ _
      refine HC.out _ _ ?_
      have c5 := ((((BW4.out.setCell (p := ⟨b2, 0, none⟩) L2.out (.slice (some ⟨gs, go, none⟩) 1 gc)).setCell (p := ⟨b2, 1, none⟩) L2.out (.slice none 0 0)).setCell (p := ⟨b2, 2, none⟩) L2.out (.slice none 0 0)).setCell (p := ⟨b2, 3, none⟩) L2.out (.slice none 0 0))
      have c6 := heap_setCell_at (i := 3) (heap_setCell_at (i := 2) (heap_setCell_at (i := 1) (heap_setCell_at (i := 0) G24.out (.slice (some ⟨gs, go, none⟩) 1 gc)) (.slice none 0 0)) (.slice none 0 0)) (.slice none 0 0)
      exact tail14 (h := b2) (HE.out.below c5) hk2 hk (by simpa [bookC1] using c6) (BK.out _ (((((Chg.refl _ z4).setCell (.inl (by simp)) _).setCell (.inl (by simp)) _).setCell (.inl (by simp)) _).setCell (.inl (by simp)) _)) tx_ring (HW.out.trans (c5.mono HW.out.size))
    · go_simp; have hn := heap_alloc_new z1 (.cells #[.string nameS, .slice ta tn tc] 25); have hb := (Below.refl z1.heap.size z1).alloc (Nat.le_refl _) (.cells #[.string nameS, .slice ta tn tc] 25); obtain ⟨b1, e1⟩ : ∃ b, b = z1.heap.size := ⟨_, rfl⟩; rw [← e1] at hn ⊢; generalize World.alloc z1 _ = z2 at hn hb ⊢; have BW2 := hid (BW1.out.trans (hb.mono BW1.out.size)); have G22 := hid ((hb.block _ (heap_lt G21.out)).trans G21.out); have G12 := hid hn; clear e1 hn hb
      refine hK.out _ _ (HSF.out _ BW2.out) (fun hS2 => ?_)
      clear hK K hS
      revert hS2; intro hS
      try simp only [Act.put, List.setIfInBounds_toArray, List.set_cons_zero, List.set_cons_succ]
      refine wpAnyH_take (i := 2) (oi := ⟨some 175, Op.build 39 #[(0, Operand.tmp 174)], 39, "more.go:80", #[⟨1, .data⟩], none⟩) (v := ?_) rfl (by kernel_rfl) (by kernel_rfl) (by kernel_rfl) (fun _ _ _ h => h) (Or.inl ⟨by rfl, ?_⟩) hS ?_
      rotate_left 1
      · rintro wx ⟨s0, s1⟩
        (go_simp <;> (try with_reducible rfl))
      try simp only [Act.put, List.setIfInBounds_toArray, List.set_cons_zero, List.set_cons_succ]
      refine wpAnyH_ready (rs := [5]) (by kernel_rfl) (by simp) ?_
      refine AllReadyH.cons (o := ⟨some 178, Op.call { callee := Callee.value (Operand.func 5), args := #[Operand.tmp 177], argTypes := #[3] }, 9, "more.go:80", #[⟨4, .data⟩], none⟩) rfl (fun K hK => ?_) AllReadyH.nil
      go_simp; refine (HPL.out _).mono ?_; rintro e z3 ⟨rfl, hb⟩; have BW3 := hid (BW2.out.trans (hb.mono BW2.out.size)); have G13 := hid ((hb.block _ (heap_lt G12.out)).trans G12.out); have G23 := hid ((hb.block _ (heap_lt G22.out)).trans G22.out); clear hb
      refine hK.out _ _ (HSF.out _ BW3.out) (fun hS2 => ?_)
      clear hK K hS
      revert hS2; intro hS
      try simp only [Act.put, List.setIfInBounds_toArray, List.set_cons_zero, List.set_cons_succ]
      refine wpAnyH_take (i := 6) (oi := ⟨some 179, Op.binOp BinOp.add 9 (Operand.const (Value.string { data := #[61] })) (Operand.tmp 178) 9, 9, "more.go:80", #[⟨5, .data⟩], none⟩) (v := ?_) rfl (by kernel_rfl) (by kernel_rfl) (by kernel_rfl) (fun _ _ _ h => h) (Or.inl ⟨by rfl, ?_⟩) hS ?_
      rotate_left 1
      · rintro wx ⟨s0, s1⟩
        (go_simp <;> (try with_reducible rfl))
      try simp only [Act.put, List.setIfInBounds_toArray, List.set_cons_zero, List.set_cons_succ]
      rw [show (⟨#[61]⟩ : ByteArray) ++ bs (refB k) = bs (61 :: refB k) from bs_append [61] (refB k)]
      refine wpAnyH_ready (rs := [7]) (by kernel_rfl) (by simp) ?_
      refine AllReadyH.cons (o := ⟨some 180, Op.call { callee := Callee.value (Operand.func 8), args := #[Operand.tmp 175, Operand.tmp 176, Operand.tmp 179], argTypes := #[39, 46, 9] }, 43, "more.go:80", #[⟨2, .data⟩, ⟨3, .data⟩, ⟨6, .data⟩, ⟨5, .chain⟩], none⟩) rfl (fun K hK => ?_) AllReadyH.nil
      go_simp; refine (HSE.out z3 b1 BW3.out (cell_of G13.out rfl) (cell_of G13.out rfl)).mono ?_; rintro e z4 ⟨⟨gs, go, gc, rfl, hq⟩, hb⟩; have BW4 := hid (BW3.out.trans (hb.mono BW3.out.size)); have G14 := hid ((hb.block _ (heap_lt G13.out)).trans G13.out); have G24 := hid ((hb.block _ (heap_lt G23.out)).trans G23.out); have BK := hid (fun z' (hc : Chg [b2] z4 z') => hq z' [b2] hc (fun x hx => by simp only [List.mem_singleton] at hx; rw [hx]; exact heap_lt G23.out)); clear hb hq
      refine hK.out _ _ (HSF.out _ BW4.out) (fun hS2 => ?_)
      clear hK K hS
      revert hS2; intro hS
      try simp only [Act.put, List.setIfInBounds_toArray, List.set_cons_zero, List.set_cons_succ]
      refine wpAnyH_take (i := 8) (oi := ⟨some 172, Op.move (Operand.tmp 180), 43, "more.go:80", #[⟨7, .data⟩], none⟩) (v := ?_) rfl (by kernel_rfl) (by kernel_rfl) (by kernel_rfl) (fun _ _ _ h => h) (Or.inl ⟨by rfl, ?_⟩) hS ?_
      rotate_left 1
      · rintro wx ⟨s0, s1⟩
        (go_simp <;> (try with_reducible rfl))
      try simp only [Act.put, List.setIfInBounds_toArray, List.set_cons_zero, List.set_cons_succ]
      refine wpAnyH_take (i := 9) (oi := ⟨some 181, Op.extract (Operand.tmp 172) 0, 39, "more.go:80", #[⟨8, .data⟩], none⟩) (v := ?_) rfl (by kernel_rfl) (by kernel_rfl) (by kernel_rfl) (fun _ _ _ h => h) (Or.inl ⟨by rfl, ?_⟩) hS ?_
      rotate_left 1
      · rintro wx ⟨s0, s1⟩
        (go_simp <;> (try with_reducible rfl))
      try simp only [Act.put, List.setIfInBounds_toArray, List.set_cons_zero, List.set_cons_succ]
      refine wpAnyH_take (i := 10) (oi := ⟨some 182, Op.extract (Operand.tmp 172) 1, 31, "more.go:80", #[⟨8, .data⟩, ⟨12, .gcOnly .lateStores⟩], none⟩) (v := ?_) rfl (by kernel_rfl) (by kernel_rfl) (by kernel_rfl) (fun _ _ _ h => h) (Or.inl ⟨by rfl, ?_⟩) hS ?_
      rotate_left 1
      · rintro wx ⟨s0, s1⟩
        (go_simp <;> (try with_reducible rfl))
      try simp only [Act.put, List.setIfInBounds_toArray, List.set_cons_zero, List.set_cons_succ]
      have t0 : z4.cell? ⟨b2, 0, none⟩ = some (.slice none 0 0) := cell_of G24.out rfl
      have t1 : z4.cell? ⟨b2, 1, none⟩ = some (.slice none 0 0) := cell_of G24.out rfl
      have t2 : z4.cell? ⟨b2, 2, none⟩ = some (.slice none 0 0) := cell_of G24.out rfl
      have t3 : z4.cell? ⟨b2, 3, none⟩ = some (.slice none 0 0) := cell_of G24.out rfl
      have f0 := free_of (i := 0) G24.out
      have f1 := free_of (i := 1) G24.out
      have f2 := free_of (i := 2) G24.out
      have f3 := free_of (i := 3) G24.out
      refine wpAnyH_ready (rs := [12]) (by kernel_rfl) (by simp) ?_
      refine AllReadyH.cons (o := ⟨none, Op.store 39 (Operand.tmp 20) (Operand.tmp 181), 0, "more.go:80", #[⟨11, .data⟩, ⟨9, .data⟩, ⟨7, .chain⟩, ⟨0, .phase⟩, ⟨1, .phase⟩, ⟨2, .phase⟩, ⟨3, .phase⟩, ⟨4, .phase⟩, ⟨5, .phase⟩, ⟨6, .phase⟩, ⟨7, .phase⟩, ⟨8, .phase⟩, ⟨9, .phase⟩, ⟨10, .textOnly .lateStores⟩, ⟨11, .phase⟩], none⟩) rfl (fun K hK => ?_) AllReadyH.nil
      go_simp
      refine hK.out _ _ (HSF.out _ ((((BW4.out.setCell L2.out _).setCell L2.out _).setCell L2.out _).setCell L2.out _)) (fun hS2 => ?_)
      clear hK K hS
      revert hS2; intro hS
      try simp only [Act.put, List.setIfInBounds_toArray, List.set_cons_zero, List.set_cons_succ]
      refine wpAnyH_take (i := 13) (oi := ⟨some 21, Op.assign (Operand.tmp 182), 31, "more.go:80", #[⟨10, .data⟩, ⟨12, .chain⟩, ⟨0, .phase⟩, ⟨1, .phase⟩, ⟨2, .phase⟩, ⟨3, .phase⟩, ⟨4, .phase⟩, ⟨5, .phase⟩, ⟨6, .phase⟩, ⟨7, .phase⟩, ⟨8, .phase⟩, ⟨9, .phase⟩, ⟨10, .phase⟩, ⟨11, .phase⟩, ⟨12, .phase⟩], none⟩) (v := ?_) rfl (by kernel_rfl) (by kernel_rfl) (by kernel_rfl) (fun _ _ _ h => h) (Or.inl ⟨by rfl, ?_⟩) hS ?_
      rotate_left 1
      · rintro wx ⟨s0, s1⟩
        (go_simp <;> (try with_reducible rfl))
      try simp only [Act.put, List.setIfInBounds_toArray, List.set_cons_zero, List.set_cons_succ]
      refine wpAnyH_done (by kernel_rfl) ?_ _
      refine HC.out _ _ ?_
      have c5 := ((((BW4.out.setCell (p := ⟨b2, 0, none⟩) L2.out (.slice (some ⟨gs, go, none⟩) 1 gc)).setCell (p := ⟨b2, 1, none⟩) L2.out (.slice none 0 0)).setCell (p := ⟨b2, 2, none⟩) L2.out (.slice none 0 0)).setCell (p := ⟨b2, 3, none⟩) L2.out (.slice none 0 0))
      have c6 := heap_setCell_at (i := 3) (heap_setCell_at (i := 2) (heap_setCell_at (i := 1) (heap_setCell_at (i := 0) G24.out (.slice (some ⟨gs, go, none⟩) 1 gc)) (.slice none 0 0)) (.slice none 0 0)) (.slice none 0 0)
      exact tail14 (h := b2) (HE.out.below c5) hk2 hk (by simpa [bookC1] using c6) (BK.out _ (((((Chg.refl _ z4).setCell (.inl (by simp)) _).setCell (.inl (by simp)) _).setCell (.inl (by simp)) _).setCell (.inl (by simp)) _)) tx_ring (HW.out.trans (c5.mono HW.out.size))
  · go_simp; have hn := heap_alloc_new z0 (.cells #[.string nameS, .slice ta tn tc] 25); have hb := (Below.refl z0.heap.size z0).alloc (Nat.le_refl _) (.cells #[.string nameS, .slice ta tn tc] 25); obtain ⟨b1, e1⟩ : ∃ b, b = z0.heap.size := ⟨_, rfl⟩; rw [← e1] at hn ⊢; generalize World.alloc z0 _ = z1 at hn hb ⊢; have BW1 := hid (BW0.out.trans (hb.mono BW0.out.size)); have G11 := hid hn; clear e1 hn hb
    refine hK.out _ _ (HSF.out _ BW1.out) (fun hS2 => ?_)
    clear hK K hS
    revert hS2; intro hS
    try simp only [Act.put, List.setIfInBounds_toArray, List.set_cons_zero, List.set_cons_succ]
    refine wpAnyH_take (i := 2) (oi := ⟨some 175, Op.build 39 #[(0, Operand.tmp 174)], 39, "more.go:80", #[⟨1, .data⟩], none⟩) (v := ?_) rfl (by kernel_rfl) (by kernel_rfl) (by kernel_rfl) (fun _ _ _ h => h) (Or.inl ⟨by rfl, ?_⟩) hS ?_
    rotate_left 1
    · rintro wx ⟨s0, s1⟩
      (go_simp <;> (try with_reducible rfl))
    try simp only [Act.put, List.setIfInBounds_toArray, List.set_cons_zero, List.set_cons_succ]
    refine wpAnyH_ready (rs := [5, 11]) (by kernel_rfl) (by simp) ?_
    refine AllReadyH.cons (o := ⟨some 178, Op.call { callee := Callee.value (Operand.func 5), args := #[Operand.tmp 177], argTypes := #[3] }, 9, "more.go:80", #[⟨4, .data⟩], none⟩) rfl (fun K hK => ?_) ?_
    rotate_left 1
    refine AllReadyH.cons (o := ⟨some 20, Op.alloc 39, 0, "more.go:80", #[], none⟩) rfl (fun K hK => ?_) AllReadyH.nil
    · go_simp; have hn := heap_alloc_new z1 (.cells #[.slice none 0 0, .slice none 0 0, .slice none 0 0, .slice none 0 0] 39); have hb := (Below.refl z1.heap.size z1).alloc (Nat.le_refl _) (.cells #[.slice none 0 0, .slice none 0 0, .slice none 0 0, .slice none 0 0] 39); obtain ⟨b2, e1⟩ : ∃ b, b = z1.heap.size := ⟨_, rfl⟩; have L2 := hid (show y.heap.size ≤ b2 from by rw [e1]; exact BW1.out.size); have E2 := hid (show z1.heap.size ≤ b2 from by rw [e1]; exact Nat.le_refl _); rw [← e1] at hn ⊢; generalize World.alloc z1 _ = z2 at hn hb ⊢; have BW2 := hid (BW1.out.trans (hb.mono BW1.out.size)); have G12 := hid ((hb.block _ (heap_lt G11.out)).trans G11.out); have G22 := hid hn; clear e1 hn hb
      refine hK.out _ _ (HSF.out _ BW2.out) (fun hS2 => ?_)
      clear hK K hS
      revert hS2; intro hS
      try simp only [Act.put, List.setIfInBounds_toArray, List.set_cons_zero, List.set_cons_succ]
      refine wpAnyH_ready (rs := [5]) (by kernel_rfl) (by simp) ?_
      refine AllReadyH.cons (o := ⟨some 178, Op.call { callee := Callee.value (Operand.func 5), args := #[Operand.tmp 177], argTypes := #[3] }, 9, "more.go:80", #[⟨4, .data⟩], none⟩) rfl (fun K hK => ?_) AllReadyH.nil
      go_simp; refine (HPL.out _).mono ?_; rintro e z3 ⟨rfl, hb⟩; have BW3 := hid (BW2.out.trans (hb.mono BW2.out.size)); have G13 := hid ((hb.block _ (heap_lt G12.out)).trans G12.out); have G23 := hid ((hb.block _ (heap_lt G22.out)).trans G22.out); clear hb
      refine hK.out _ _ (HSF.out _ BW3.out) (fun hS2 => ?_)
      clear hK K hS
      revert hS2; intro hS
      try simp only [Act.put, List.setIfInBounds_toArray, List.set_cons_zero, List.set_cons_succ]
      refine wpAnyH_take (i := 6) (oi := ⟨some 179, Op.binOp BinOp.add 9 (Operand.const (Value.string { data := #[61] })) (Operand.tmp 178) 9, 9, "more.go:80", #[⟨5, .data⟩], none⟩) (v := ?_) rfl (by kernel_rfl) (by kernel_rfl) (by kernel_rfl) (fun _ _ _ h => h) (Or.inl ⟨by rfl, ?_⟩) hS ?_
      rotate_left 1
      · rintro wx ⟨s0, s1⟩
        (go_simp <;> (try with_reducible rfl))
      try simp only [Act.put, List.setIfInBounds_toArray, List.set_cons_zero, List.set_cons_succ]
      rw [show (⟨#[61]⟩ : ByteArray) ++ bs (refB k) = bs (61 :: refB k) from bs_append [61] (refB k)]
      refine wpAnyH_ready (rs := [7]) (by kernel_rfl) (by simp) ?_
      refine AllReadyH.cons (o := ⟨some 180, Op.call { callee := Callee.value (Operand.func 8), args := #[Operand.tmp 175, Operand.tmp 176, Operand.tmp 179], argTypes := #[39, 46, 9] }, 43, "more.go:80", #[⟨2, .data⟩, ⟨3, .data⟩, ⟨6, .data⟩, ⟨5, .chain⟩], none⟩) rfl (fun K hK => ?_) AllReadyH.nil
      go_simp; refine (HSE.out z3 b1 BW3.out (cell_of G13.out rfl) (cell_of G13.out rfl)).mono ?_; rintro e z4 ⟨⟨gs, go, gc, rfl, hq⟩, hb⟩; have BW4 := hid (BW3.out.trans (hb.mono BW3.out.size)); have G14 := hid ((hb.block _ (heap_lt G13.out)).trans G13.out); have G24 := hid ((hb.block _ (heap_lt G23.out)).trans G23.out); have BK := hid (fun z' (hc : Chg [b2] z4 z') => hq z' [b2] hc (fun x hx => by simp only [List.mem_singleton] at hx; rw [hx]; exact heap_lt G23.out)); clear hb hq
      refine hK.out _ _ (HSF.out _ BW4.out) (fun hS2 => ?_)
      clear hK K hS
      revert hS2; intro hS
      try simp only [Act.put, List.setIfInBounds_toArray, List.set_cons_zero, List.set_cons_succ]
      refine wpAnyH_take (i := 8) (oi := ⟨some 172, Op.move (Operand.tmp 180), 43, "more.go:80", #[⟨7, .data⟩], none⟩) (v := ?_) rfl (by kernel_rfl) (by kernel_rfl) (by kernel_rfl) (fun _ _ _ h => h) (Or.inl ⟨by rfl, ?_⟩) hS ?_
      rotate_left 1
      · rintro wx ⟨s0, s1⟩
        (go_simp <;> (try with_reducible rfl))
      try simp only [Act.put, List.setIfInBounds_toArray, List.set_cons_zero, List.set_cons_succ]
      refine wpAnyH_take (i := 9) (oi := ⟨some 181, Op.extract (Operand.tmp 172) 0, 39, "more.go:80", #[⟨8, .data⟩], none⟩) (v := ?_) rfl (by kernel_rfl) (by kernel_rfl) (by kernel_rfl) (fun _ _ _ h => h) (Or.inl ⟨by rfl, ?_⟩) hS ?_
      rotate_left 1
      · rintro wx ⟨s0, s1⟩
        (go_simp <;> (try with_reducible rfl))
      try simp only [Act.put, List.setIfInBounds_toArray, List.set_cons_zero, List.set_cons_succ]
      refine wpAnyH_take (i := 10) (oi := ⟨some 182, Op.extract (Operand.tmp 172) 1, 31, "more.go:80", #[⟨8, .data⟩, ⟨12, .gcOnly .lateStores⟩], none⟩) (v := ?_) rfl (by kernel_rfl) (by kernel_rfl) (by kernel_rfl) (fun _ _ _ h => h) (Or.inl ⟨by rfl, ?_⟩) hS ?_
      rotate_left 1
      · rintro wx ⟨s0, s1⟩
        (go_simp <;> (try with_reducible rfl))
      try simp only [Act.put, List.setIfInBounds_toArray, List.set_cons_zero, List.set_cons_succ]
      have t0 : z4.cell? ⟨b2, 0, none⟩ = some (.slice none 0 0) := cell_of G24.out rfl
      have t1 : z4.cell? ⟨b2, 1, none⟩ = some (.slice none 0 0) := cell_of G24.out rfl
      have t2 : z4.cell? ⟨b2, 2, none⟩ = some (.slice none 0 0) := cell_of G24.out rfl
      have t3 : z4.cell? ⟨b2, 3, none⟩ = some (.slice none 0 0) := cell_of G24.out rfl
      have f0 := free_of (i := 0) G24.out
      have f1 := free_of (i := 1) G24.out
      have f2 := free_of (i := 2) G24.out
      have f3 := free_of (i := 3) G24.out
      refine wpAnyH_ready (rs := [12]) (by kernel_rfl) (by simp) ?_
      refine AllReadyH.cons (o := ⟨none, Op.store 39 (Operand.tmp 20) (Operand.tmp 181), 0, "more.go:80", #[⟨11, .data⟩, ⟨9, .data⟩, ⟨7, .chain⟩, ⟨0, .phase⟩, ⟨1, .phase⟩, ⟨2, .phase⟩, ⟨3, .phase⟩, ⟨4, .phase⟩, ⟨5, .phase⟩, ⟨6, .phase⟩, ⟨7, .phase⟩, ⟨8, .phase⟩, ⟨9, .phase⟩, ⟨10, .textOnly .lateStores⟩, ⟨11, .phase⟩], none⟩) rfl (fun K hK => ?_) AllReadyH.nil
      go_simp
      refine hK.out _ _ (HSF.out _ ((((BW4.out.setCell L2.out _).setCell L2.out _).setCell L2.out _).setCell L2.out _)) (fun hS2 => ?_)
      clear hK K hS
      revert hS2; intro hS
      try simp only [Act.put, List.setIfInBounds_toArray, List.set_cons_zero, List.set_cons_succ]
      refine wpAnyH_take (i := 13) (oi := ⟨some 21, Op.assign (Operand.tmp 182), 31, "more.go:80", #[⟨10, .data⟩, ⟨12, .chain⟩, ⟨0, .phase⟩, ⟨1, .phase⟩, ⟨2, .phase⟩, ⟨3, .phase⟩, ⟨4, .phase⟩, ⟨5, .phase⟩, ⟨6, .phase⟩, ⟨7, .phase⟩, ⟨8, .phase⟩, ⟨9, .phase⟩, ⟨10, .phase⟩, ⟨11, .phase⟩, ⟨12, .phase⟩], none⟩) (v := ?_) rfl (by kernel_rfl) (by kernel_rfl) (by kernel_rfl) (fun _ _ _ h => h) (Or.inl ⟨by rfl, ?_⟩) hS ?_
      rotate_left 1
      · rintro wx ⟨s0, s1⟩
        (go_simp <;> (try with_reducible rfl))
      try simp only [Act.put, List.setIfInBounds_toArray, List.set_cons_zero, List.set_cons_succ]
      refine wpAnyH_done (by kernel_rfl) ?_ _
      refine HC.out _ _ ?_
      have c5 := ((((BW4.out.setCell (p := ⟨b2, 0, none⟩) L2.out (.slice (some ⟨gs, go, none⟩) 1 gc)).setCell (p := ⟨b2, 1, none⟩) L2.out (.slice none 0 0)).setCell (p := ⟨b2, 2, none⟩) L2.out (.slice none 0 0)).setCell (p := ⟨b2, 3, none⟩) L2.out (.slice none 0 0))
      have c6 := heap_setCell_at (i := 3) (heap_setCell_at (i := 2) (heap_setCell_at (i := 1) (heap_setCell_at (i := 0) G24.out (.slice (some ⟨gs, go, none⟩) 1 gc)) (.slice none 0 0)) (.slice none 0 0)) (.slice none 0 0)
      exact tail14 (h := b2) (HE.out.below c5) hk2 hk (by simpa [bookC1] using c6) (BK.out _ (((((Chg.refl _ z4).setCell (.inl (by simp)) _).setCell (.inl (by simp)) _).setCell (.inl (by simp)) _).setCell (.inl (by simp)) _)) tx_ring (HW.out.trans (c5.mono HW.out.size))
    · go_simp; refine (HPL.out _).mono ?_; rintro e z2 ⟨rfl, hb⟩; have BW2 := hid (BW1.out.trans (hb.mono BW1.out.size)); have G12 := hid ((hb.block _ (heap_lt G11.out)).trans G11.out); clear hb
      refine hK.out _ _ (HSF.out _ BW2.out) (fun hS2 => ?_)
      clear hK K hS
      revert hS2; intro hS
      try simp only [Act.put, List.setIfInBounds_toArray, List.set_cons_zero, List.set_cons_succ]
      refine wpAnyH_take (i := 6) (oi := ⟨some 179, Op.binOp BinOp.add 9 (Operand.const (Value.string { data := #[61] })) (Operand.tmp 178) 9, 9, "more.go:80", #[⟨5, .data⟩], none⟩) (v := ?_) rfl (by kernel_rfl) (by kernel_rfl) (by kernel_rfl) (fun _ _ _ h => h) (Or.inl ⟨by rfl, ?_⟩) hS ?_
      rotate_left 1
      · rintro wx ⟨s0, s1⟩
        (go_simp <;> (try with_reducible rfl))
      try simp only [Act.put, List.setIfInBounds_toArray, List.set_cons_zero, List.set_cons_succ]
      rw [show (⟨#[61]⟩ : ByteArray) ++ bs (refB k) = bs (61 :: refB k) from bs_append [61] (refB k)]
      refine wpAnyH_ready (rs := [7, 11]) (by kernel_rfl) (by simp) ?_
      refine AllReadyH.cons (o := ⟨some 180, Op.call { callee := Callee.value (Operand.func 8), args := #[Operand.tmp 175, Operand.tmp 176, Operand.tmp 179], argTypes := #[39, 46, 9] }, 43, "more.go:80", #[⟨2, .data⟩, ⟨3, .data⟩, ⟨6, .data⟩, ⟨5, .chain⟩], none⟩) rfl (fun K hK => ?_) ?_
      rotate_left 1
      refine AllReadyH.cons (o := ⟨some 20, Op.alloc 39, 0, "more.go:80", #[], none⟩) rfl (fun K hK => ?_) AllReadyH.nil
      · go_simp; have hn := heap_alloc_new z2 (.cells #[.slice none 0 0, .slice none 0 0, .slice none 0 0, .slice none 0 0] 39); have hb := (Below.refl z2.heap.size z2).alloc (Nat.le_refl _) (.cells #[.slice none 0 0, .slice none 0 0, .slice none 0 0, .slice none 0 0] 39); obtain ⟨b2, e1⟩ : ∃ b, b = z2.heap.size := ⟨_, rfl⟩; have L2 := hid (show y.heap.size ≤ b2 from by rw [e1]; exact BW2.out.size); have E2 := hid (show z2.heap.size ≤ b2 from by rw [e1]; exact Nat.le_refl _); rw [← e1] at hn ⊢; generalize World.alloc z2 _ = z3 at hn hb ⊢; have BW3 := hid (BW2.out.trans (hb.mono BW2.out.size)); have G13 := hid ((hb.block _ (heap_lt G12.out)).trans G12.out); have G23 := hid hn; clear e1 hn hb
        refine hK.out _ _ (HSF.out _ BW3.out) (fun hS2 => ?_)
        clear hK K hS
        revert hS2; intro hS
        try simp only [Act.put, List.setIfInBounds_toArray, List.set_cons_zero, List.set_cons_succ]
        refine wpAnyH_ready (rs := [7]) (by kernel_rfl) (by simp) ?_
        refine AllReadyH.cons (o := ⟨some 180, Op.call { callee := Callee.value (Operand.func 8), args := #[Operand.tmp 175, Operand.tmp 176, Operand.tmp 179], argTypes := #[39, 46, 9] }, 43, "more.go:80", #[⟨2, .data⟩, ⟨3, .data⟩, ⟨6, .data⟩, ⟨5, .chain⟩], none⟩) rfl (fun K hK => ?_) AllReadyH.nil
        go_simp; refine (HSE.out z3 b1 BW3.out (cell_of G13.out rfl) (cell_of G13.out rfl)).mono ?_; rintro e z4 ⟨⟨gs, go, gc, rfl, hq⟩, hb⟩; have BW4 := hid (BW3.out.trans (hb.mono BW3.out.size)); have G14 := hid ((hb.block _ (heap_lt G13.out)).trans G13.out); have G24 := hid ((hb.block _ (heap_lt G23.out)).trans G23.out); have BK := hid (fun z' (hc : Chg [b2] z4 z') => hq z' [b2] hc (fun x hx => by simp only [List.mem_singleton] at hx; rw [hx]; exact heap_lt G23.out)); clear hb hq
        refine hK.out _ _ (HSF.out _ BW4.out) (fun hS2 => ?_)
        clear hK K hS
        revert hS2; intro hS
        try simp only [Act.put, List.setIfInBounds_toArray, List.set_cons_zero, List.set_cons_succ]
        refine wpAnyH_take (i := 8) (oi := ⟨some 172, Op.move (Operand.tmp 180), 43, "more.go:80", #[⟨7, .data⟩], none⟩) (v := ?_) rfl (by kernel_rfl) (by kernel_rfl) (by kernel_rfl) (fun _ _ _ h => h) (Or.inl ⟨by rfl, ?_⟩) hS ?_
        rotate_left 1
        · rintro wx ⟨s0, s1⟩
          (go_simp <;> (try with_reducible rfl))
        try simp only [Act.put, List.setIfInBounds_toArray, List.set_cons_zero, List.set_cons_succ]
        refine wpAnyH_take (i := 9) (oi := ⟨some 181, Op.extract (Operand.tmp 172) 0, 39, "more.go:80", #[⟨8, .data⟩], none⟩) (v := ?_) rfl (by kernel_rfl) (by kernel_rfl) (by kernel_rfl) (fun _ _ _ h => h) (Or.inl ⟨by rfl, ?_⟩) hS ?_
        rotate_left 1
        · rintro wx ⟨s0, s1⟩
          (go_simp <;> (try with_reducible rfl))
        try simp only [Act.put, List.setIfInBounds_toArray, List.set_cons_zero, List.set_cons_succ]
        refine wpAnyH_take (i := 10) (oi := ⟨some 182, Op.extract (Operand.tmp 172) 1, 31, "more.go:80", #[⟨8, .data⟩, ⟨12, .gcOnly .lateStores⟩], none⟩) (v := ?_) rfl (by kernel_rfl) (by kernel_rfl) (by kernel_rfl) (fun _ _ _ h => h) (Or.inl ⟨by rfl, ?_⟩) hS ?_
        rotate_left 1
        · rintro wx ⟨s0, s1⟩
          (go_simp <;> (try with_reducible rfl))
        try simp only [Act.put, List.setIfInBounds_toArray, List.set_cons_zero, List.set_cons_succ]
        have t0 : z4.cell? ⟨b2, 0, none⟩ = some (.slice none 0 0) := cell_of G24.out rfl
        have t1 : z4.cell? ⟨b2, 1, none⟩ = some (.slice none 0 0) := cell_of G24.out rfl
        have t2 : z4.cell? ⟨b2, 2, none⟩ = some (.slice none 0 0) := cell_of G24.out rfl
        have t3 : z4.cell? ⟨b2, 3, none⟩ = some (.slice none 0 0) := cell_of G24.out rfl
        have f0 := free_of (i := 0) G24.out
        have f1 := free_of (i := 1) G24.out
        have f2 := free_of (i := 2) G24.out
        have f3 := free_of (i := 3) G24.out
        refine wpAnyH_ready (rs := [12]) (by kernel_rfl) (by simp) ?_
        refine AllReadyH.cons (o := ⟨none, Op.store 39 (Operand.tmp 20) (Operand.tmp 181), 0, "more.go:80", #[⟨11, .data⟩, ⟨9, .data⟩, ⟨7, .chain⟩, ⟨0, .phase⟩, ⟨1, .phase⟩, ⟨2, .phase⟩, ⟨3, .phase⟩, ⟨4, .phase⟩, ⟨5, .phase⟩, ⟨6, .phase⟩, ⟨7, .phase⟩, ⟨8, .phase⟩, ⟨9, .phase⟩, ⟨10, .textOnly .lateStores⟩, ⟨11, .phase⟩], none⟩) rfl (fun K hK => ?_) AllReadyH.nil
        go_simp
        refine hK.out _ _ (HSF.out _ ((((BW4.out.setCell L2.out _).setCell L2.out _).setCell L2.out _).setCell L2.out _)) (fun hS2 => ?_)
        clear hK K hS
        revert hS2; intro hS
        try simp only [Act.put, List.setIfInBounds_toArray, List.set_cons_zero, List.set_cons_succ]
        refine wpAnyH_take (i := 13) (oi := ⟨some 21, Op.assign (Operand.tmp 182), 31, "more.go:80", #[⟨10, .data⟩, ⟨12, .chain⟩, ⟨0, .phase⟩, ⟨1, .phase⟩, ⟨2, .phase⟩, ⟨3, .phase⟩, ⟨4, .phase⟩, ⟨5, .phase⟩, ⟨6, .phase⟩, ⟨7, .phase⟩, ⟨8, .phase⟩, ⟨9, .phase⟩, ⟨10, .phase⟩, ⟨11, .phase⟩, ⟨12, .phase⟩], none⟩) (v := ?_) rfl (by kernel_rfl) (by kernel_rfl) (by kernel_rfl) (fun _ _ _ h => h) (Or.inl ⟨by rfl, ?_⟩) hS ?_
        rotate_left 1
        · rintro wx ⟨s0, s1⟩
          (go_simp <;> (try with_reducible rfl))
        try simp only [Act.put, List.setIfInBounds_toArray, List.set_cons_zero, List.set_cons_succ]
        refine wpAnyH_done (by kernel_rfl) ?_ _
        refine HC.out _ _ ?_
        have c5 := ((((BW4.out.setCell (p := ⟨b2, 0, none⟩) L2.out (.slice (some ⟨gs, go, none⟩) 1 gc)).setCell (p := ⟨b2, 1, none⟩) L2.out (.slice none 0 0)).setCell (p := ⟨b2, 2, none⟩) L2.out (.slice none 0 0)).setCell (p := ⟨b2, 3, none⟩) L2.out (.slice none 0 0))
        have c6 := heap_setCell_at (i := 3) (heap_setCell_at (i := 2) (heap_setCell_at (i := 1) (heap_setCell_at (i := 0) G24.out (.slice (some ⟨gs, go, none⟩) 1 gc)) (.slice none 0 0)) (.slice none 0 0)) (.slice none 0 0)
        exact tail14 (h := b2) (HE.out.below c5) hk2 hk (by simpa [bookC1] using c6) (BK.out _ (((((Chg.refl _ z4).setCell (.inl (by simp)) _).setCell (.inl (by simp)) _).setCell (.inl (by simp)) _).setCell (.inl (by simp)) _)) tx_ring (HW.out.trans (c5.mono HW.out.size))
      · go_simp; refine (HSE.out z2 b1 BW2.out (cell_of G12.out rfl) (cell_of G12.out rfl)).mono ?_; rintro e z3 ⟨⟨gs, go, gc, rfl, hq⟩, hb⟩; have BW3 := hid (BW2.out.trans (hb.mono BW2.out.size)); have G13 := hid ((hb.block _ (heap_lt G12.out)).trans G12.out); have HQ := hid hq; clear hb hq
        refine hK.out _ _ (HSF.out _ BW3.out) (fun hS2 => ?_)
        clear hK K hS
        revert hS2; intro hS
        try simp only [Act.put, List.setIfInBounds_toArray, List.set_cons_zero, List.set_cons_succ]
        refine wpAnyH_take (i := 8) (oi := ⟨some 172, Op.move (Operand.tmp 180), 43, "more.go:80", #[⟨7, .data⟩], none⟩) (v := ?_) rfl (by kernel_rfl) (by kernel_rfl) (by kernel_rfl) (fun _ _ _ h => h) (Or.inl ⟨by rfl, ?_⟩) hS ?_
        rotate_left 1
        · rintro wx ⟨s0, s1⟩
          (go_simp <;> (try with_reducible rfl))
        try simp only [Act.put, List.setIfInBounds_toArray, List.set_cons_zero, List.set_cons_succ]
        refine wpAnyH_take (i := 9) (oi := ⟨some 181, Op.extract (Operand.tmp 172) 0, 39, "more.go:80", #[⟨8, .data⟩], none⟩) (v := ?_) rfl (by kernel_rfl) (by kernel_rfl) (by kernel_rfl) (fun _ _ _ h => h) (Or.inl ⟨by rfl, ?_⟩) hS ?_
        rotate_left 1
        · rintro wx ⟨s0, s1⟩
          (go_simp <;> (try with_reducible rfl))
        try simp only [Act.put, List.setIfInBounds_toArray, List.set_cons_zero, List.set_cons_succ]
        refine wpAnyH_take (i := 10) (oi := ⟨some 182, Op.extract (Operand.tmp 172) 1, 31, "more.go:80", #[⟨8, .data⟩, ⟨12, .gcOnly .lateStores⟩], none⟩) (v := ?_) rfl (by kernel_rfl) (by kernel_rfl) (by kernel_rfl) (fun _ _ _ h => h) (Or.inl ⟨by rfl, ?_⟩) hS ?_
        rotate_left 1
        · rintro wx ⟨s0, s1⟩
          (go_simp <;> (try with_reducible rfl))
        try simp only [Act.put, List.setIfInBounds_toArray, List.set_cons_zero, List.set_cons_succ]
        refine wpAnyH_ready (rs := [11]) (by kernel_rfl) (by simp) ?_
        refine AllReadyH.cons (o := ⟨some 20, Op.alloc 39, 0, "more.go:80", #[], none⟩) rfl (fun K hK => ?_) AllReadyH.nil
        go_simp; have hn := heap_alloc_new z3 (.cells #[.slice none 0 0, .slice none 0 0, .slice none 0 0, .slice none 0 0] 39); have hb := (Below.refl z3.heap.size z3).alloc (Nat.le_refl _) (.cells #[.slice none 0 0, .slice none 0 0, .slice none 0 0, .slice none 0 0] 39); obtain ⟨b2, e1⟩ : ∃ b, b = z3.heap.size := ⟨_, rfl⟩; have L2 := hid (show y.heap.size ≤ b2 from by rw [e1]; exact BW3.out.size); have E2 := hid (show z3.heap.size ≤ b2 from by rw [e1]; exact Nat.le_refl _); rw [← e1] at hn ⊢; generalize World.alloc z3 _ = z4 at hn hb ⊢; have BW4 := hid (BW3.out.trans (hb.mono BW3.out.size)); have G14 := hid ((hb.block _ (heap_lt G13.out)).trans G13.out); have G24 := hid hn; have BK := hid (fun z' (hc : Chg [b2] z4 z') => HQ.out z' [] ((Chg.of_below hb).trans hc (fun x hx => .inr (by simp only [List.mem_singleton] at hx; rw [hx]; exact E2.out))) (by simp)); clear e1 hn hb
        refine hK.out _ _ (HSF.out _ BW4.out) (fun hS2 => ?_)
        clear hK K hS
        revert hS2; intro hS
        try simp only [Act.put, List.setIfInBounds_toArray, List.set_cons_zero, List.set_cons_succ]
        have t0 : z4.cell? ⟨b2, 0, none⟩ = some (.slice none 0 0) := cell_of G24.out rfl
        have t1 : z4.cell? ⟨b2, 1, none⟩ = some (.slice none 0 0) := cell_of G24.out rfl
        have t2 : z4.cell? ⟨b2, 2, none⟩ = some (.slice none 0 0) := cell_of G24.out rfl
        have t3 : z4.cell? ⟨b2, 3, none⟩ = some (.slice none 0 0) := cell_of G24.out rfl
        have f0 := free_of (i := 0) G24.out
        have f1 := free_of (i := 1) G24.out
        have f2 := free_of (i := 2) G24.out
        have f3 := free_of (i := 3) G24.out
        refine wpAnyH_ready (rs := [12]) (by kernel_rfl) (by simp) ?_
        refine AllReadyH.cons (o := ⟨none, Op.store 39 (Operand.tmp 20) (Operand.tmp 181), 0, "more.go:80", #[⟨11, .data⟩, ⟨9, .data⟩, ⟨7, .chain⟩, ⟨0, .phase⟩, ⟨1, .phase⟩, ⟨2, .phase⟩, ⟨3, .phase⟩, ⟨4, .phase⟩, ⟨5, .phase⟩, ⟨6, .phase⟩, ⟨7, .phase⟩, ⟨8, .phase⟩, ⟨9, .phase⟩, ⟨10, .textOnly .lateStores⟩, ⟨11, .phase⟩], none⟩) rfl (fun K hK => ?_) AllReadyH.nil
        go_simp
        refine hK.out _ _ (HSF.out _ ((((BW4.out.setCell L2.out _).setCell L2.out _).setCell L2.out _).setCell L2.out _)) (fun hS2 => ?_)
        clear hK K hS
        revert hS2; intro hS
        try simp only [Act.put, List.setIfInBounds_toArray, List.set_cons_zero, List.set_cons_succ]
        refine wpAnyH_take (i := 13) (oi := ⟨some 21, Op.assign (Operand.tmp 182), 31, "more.go:80", #[⟨10, .data⟩, ⟨12, .chain⟩, ⟨0, .phase⟩, ⟨1, .phase⟩, ⟨2, .phase⟩, ⟨3, .phase⟩, ⟨4, .phase⟩, ⟨5, .phase⟩, ⟨6, .phase⟩, ⟨7, .phase⟩, ⟨8, .phase⟩, ⟨9, .phase⟩, ⟨10, .phase⟩, ⟨11, .phase⟩, ⟨12, .phase⟩], none⟩) (v := ?_) rfl (by kernel_rfl) (by kernel_rfl) (by kernel_rfl) (fun _ _ _ h => h) (Or.inl ⟨by rfl, ?_⟩) hS ?_
        rotate_left 1
        · rintro wx ⟨s0, s1⟩
          (go_simp <;> (try with_reducible rfl))
        try simp only [Act.put, List.setIfInBounds_toArray, List.set_cons_zero, List.set_cons_succ]
        refine wpAnyH_done (by kernel_rfl) ?_ _
        refine HC.out _ _ ?_
        have c5 := ((((BW4.out.setCell (p := ⟨b2, 0, none⟩) L2.out (.slice (some ⟨gs, go, none⟩) 1 gc)).setCell (p := ⟨b2, 1, none⟩) L2.out (.slice none 0 0)).setCell (p := ⟨b2, 2, none⟩) L2.out (.slice none 0 0)).setCell (p := ⟨b2, 3, none⟩) L2.out (.slice none 0 0))
        have c6 := heap_setCell_at (i := 3) (heap_setCell_at (i := 2) (heap_setCell_at (i := 1) (heap_setCell_at (i := 0) G24.out (.slice (some ⟨gs, go, none⟩) 1 gc)) (.slice none 0 0)) (.slice none 0 0)) (.slice none 0 0)
        exact tail14 (h := b2) (HE.out.below c5) hk2 hk (by simpa [bookC1] using c6) (BK.out _ (((((Chg.refl _ z4).setCell (.inl (by simp)) _).setCell (.inl (by simp)) _).setCell (.inl (by simp)) _).setCell (.inl (by simp)) _)) tx_ring (HW.out.trans (c5.mono HW.out.size))
  · go_simp; refine (HPL.out _).mono ?_; rintro e z1 ⟨rfl, hb⟩; have BW1 := hid (BW0.out.trans (hb.mono BW0.out.size)); clear hb
    refine hK.out _ _ (HSF.out _ BW1.out) (fun hS2 => ?_)
    clear hK K hS
    revert hS2; intro hS
    try simp only [Act.put, List.setIfInBounds_toArray, List.set_cons_zero, List.set_cons_succ]
    refine wpAnyH_take (i := 6) (oi := ⟨some 179, Op.binOp BinOp.add 9 (Operand.const (Value.string { data := #[61] })) (Operand.tmp 178) 9, 9, "more.go:80", #[⟨5, .data⟩], none⟩) (v := ?_) rfl (by kernel_rfl) (by kernel_rfl) (by kernel_rfl) (fun _ _ _ h => h) (Or.inl ⟨by rfl, ?_⟩) hS ?_
    rotate_left 1
    · rintro wx ⟨s0, s1⟩
      (go_simp <;> (try with_reducible rfl))
    try simp only [Act.put, List.setIfInBounds_toArray, List.set_cons_zero, List.set_cons_succ]
    rw [show (⟨#[61]⟩ : ByteArray) ++ bs (refB k) = bs (61 :: refB k) from bs_append [61] (refB k)]
    refine wpAnyH_ready (rs := [1, 11]) (by kernel_rfl) (by simp) ?_
    refine AllReadyH.cons (o := ⟨some 174, Op.buildSlice 34 1 #[(0, Operand.tmp 173)], 34, "more.go:80", #[⟨0, .data⟩], none⟩) rfl (fun K hK => ?_) ?_
    rotate_left 1
    refine AllReadyH.cons (o := ⟨some 20, Op.alloc 39, 0, "more.go:80", #[], none⟩) rfl (fun K hK => ?_) AllReadyH.nil
    · go_simp; have hn := heap_alloc_new z1 (.cells #[.slice none 0 0, .slice none 0 0, .slice none 0 0, .slice none 0 0] 39); have hb := (Below.refl z1.heap.size z1).alloc (Nat.le_refl _) (.cells #[.slice none 0 0, .slice none 0 0, .slice none 0 0, .slice none 0 0] 39); obtain ⟨b2, e1⟩ : ∃ b, b = z1.heap.size := ⟨_, rfl⟩; have L2 := hid (show y.heap.size ≤ b2 from by rw [e1]; exact BW1.out.size); have E2 := hid (show z1.heap.size ≤ b2 from by rw [e1]; exact Nat.le_refl _); rw [← e1] at hn ⊢; generalize World.alloc z1 _ = z2 at hn hb ⊢; have BW2 := hid (BW1.out.trans (hb.mono BW1.out.size)); have G22 := hid hn; clear e1 hn hb
      refine hK.out _ _ (HSF.out _ BW2.out) (fun hS2 => ?_)
      clear hK K hS
      revert hS2; intro hS
      try simp only [Act.put, List.setIfInBounds_toArray, List.set_cons_zero, List.set_cons_succ]
      refine wpAnyH_ready (rs := [1]) (by kernel_rfl) (by simp) ?_
      refine AllReadyH.cons (o := ⟨some 174, Op.buildSlice 34 1 #[(0, Operand.tmp 173)], 34, "more.go:80", #[⟨0, .data⟩], none⟩) rfl (fun K hK => ?_) AllReadyH.nil
      go_simp; have hn := heap_alloc_new z2 (.cells #[.string nameS, .slice ta tn tc] 25); have hb := (Below.refl z2.heap.size z2).alloc (Nat.le_refl _) (.cells #[.string nameS, .slice ta tn tc] 25); obtain ⟨b1, e1⟩ : ∃ b, b = z2.heap.size := ⟨_, rfl⟩; rw [← e1] at hn ⊢; generalize World.alloc z2 _ = z3 at hn hb ⊢; have BW3 := hid (BW2.out.trans (hb.mono BW2.out.size)); have G23 := hid ((hb.block _ (heap_lt G22.out)).trans G22.out); have G13 := hid hn; clear e1 hn hb
      refine hK.out _ _ (HSF.out _ BW3.out) (fun hS2 => ?_)
      clear hK K hS
      revert hS2; intro hS
      try simp only [Act.put, List.setIfInBounds_toArray, List.set_cons_zero, List.set_cons_succ]
      refine wpAnyH_take (i := 2) (oi := ⟨some 175, Op.build 39 #[(0, Operand.tmp 174)], 39, "more.go:80", #[⟨1, .data⟩], none⟩) (v := ?_) rfl (by kernel_rfl) (by kernel_rfl) (by kernel_rfl) (fun _ _ _ h => h) (Or.inl ⟨by rfl, ?_⟩) hS ?_
      rotate_left 1
      · rintro wx ⟨s0, s1⟩
        (go_simp <;> (try with_reducible rfl))
      try simp only [Act.put, List.setIfInBounds_toArray, List.set_cons_zero, List.set_cons_succ]
      refine wpAnyH_ready (rs := [7]) (by kernel_rfl) (by simp) ?_
      refine AllReadyH.cons (o := ⟨some 180, Op.call { callee := Callee.value (Operand.func 8), args := #[Operand.tmp 175, Operand.tmp 176, Operand.tmp 179], argTypes := #[39, 46, 9] }, 43, "more.go:80", #[⟨2, .data⟩, ⟨3, .data⟩, ⟨6, .data⟩, ⟨5, .chain⟩], none⟩) rfl (fun K hK => ?_) AllReadyH.nil
      go_simp; refine (HSE.out z3 b1 BW3.out (cell_of G13.out rfl) (cell_of G13.out rfl)).mono ?_; rintro e z4 ⟨⟨gs, go, gc, rfl, hq⟩, hb⟩; have BW4 := hid (BW3.out.trans (hb.mono BW3.out.size)); have G14 := hid ((hb.block _ (heap_lt G13.out)).trans G13.out); have G24 := hid ((hb.block _ (heap_lt G23.out)).trans G23.out); have BK := hid (fun z' (hc : Chg [b2] z4 z') => hq z' [b2] hc (fun x hx => by simp only [List.mem_singleton] at hx; rw [hx]; exact heap_lt G23.out)); clear hb hq
      refine hK.out _ _ (HSF.out _ BW4.out) (fun hS2 => ?_)
      clear hK K hS
      revert hS2; intro hS
      try simp only [Act.put, List.setIfInBounds_toArray, List.set_cons_zero, List.set_cons_succ]
      refine wpAnyH_take (i := 8) (oi := ⟨some 172, Op.move (Operand.tmp 180), 43, "more.go:80", #[⟨7, .data⟩], none⟩) (v := ?_) rfl (by kernel_rfl) (by kernel_rfl) (by kernel_rfl) (fun _ _ _ h => h) (Or.inl ⟨by rfl, ?_⟩) hS ?_
      rotate_left 1
      · rintro wx ⟨s0, s1⟩
        (go_simp <;> (try with_reducible rfl))
      try simp only [Act.put, List.setIfInBounds_toArray, List.set_cons_zero, List.set_cons_succ]
      refine wpAnyH_take (i := 9) (oi := ⟨some 181, Op.extract (Operand.tmp 172) 0, 39, "more.go:80", #[⟨8, .data⟩], none⟩) (v := ?_) rfl (by kernel_rfl) (by kernel_rfl) (by kernel_rfl) (fun _ _ _ h => h) (Or.inl ⟨by rfl, ?_⟩) hS ?_
      rotate_left 1
      · rintro wx ⟨s0, s1⟩
        (go_simp <;> (try with_reducible rfl))
      try simp only [Act.put, List.setIfInBounds_toArray, List.set_cons_zero, List.set_cons_succ]
      refine wpAnyH_take (i := 10) (oi := ⟨some 182, Op.extract (Operand.tmp 172) 1, 31, "more.go:80", #[⟨8, .data⟩, ⟨12, .gcOnly .lateStores⟩], none⟩) (v := ?_) rfl (by kernel_rfl) (by kernel_rfl) (by kernel_rfl) (fun _ _ _ h => h) (Or.inl ⟨by rfl, ?_⟩) hS ?_
      rotate_left 1
      · rintro wx ⟨s0, s1⟩
        (go_simp <;> (try with_reducible rfl))
      try simp only [Act.put, List.setIfInBounds_toArray, List.set_cons_zero, List.set_cons_succ]
      have t0 : z4.cell? ⟨b2, 0, none⟩ = some (.slice none 0 0) := cell_of G24.out rfl
      have t1 : z4.cell? ⟨b2, 1, none⟩ = some (.slice none 0 0) := cell_of G24.out rfl
      have t2 : z4.cell? ⟨b2, 2, none⟩ = some (.slice none 0 0) := cell_of G24.out rfl
      have t3 : z4.cell? ⟨b2, 3, none⟩ = some (.slice none 0 0) := cell_of G24.out rfl
      have f0 := free_of (i := 0) G24.out
      have f1 := free_of (i := 1) G24.out
      have f2 := free_of (i := 2) G24.out
      have f3 := free_of (i := 3) G24.out
      refine wpAnyH_ready (rs := [12]) (by kernel_rfl) (by simp) ?_
      refine AllReadyH.cons (o := ⟨none, Op.store 39 (Operand.tmp 20) (Operand.tmp 181), 0, "more.go:80", #[⟨11, .data⟩, ⟨9, .data⟩, ⟨7, .chain⟩, ⟨0, .phase⟩, ⟨1, .phase⟩, ⟨2, .phase⟩, ⟨3, .phase⟩, ⟨4, .phase⟩, ⟨5, .phase⟩, ⟨6, .phase⟩, ⟨7, .phase⟩, ⟨8, .phase⟩, ⟨9, .phase⟩, ⟨10, .textOnly .lateStores⟩, ⟨11, .phase⟩], none⟩) rfl (fun K hK => ?_) AllReadyH.nil
      go_simp
      refine hK.out _ _ (HSF.out _ ((((BW4.out.setCell L2.out _).setCell L2.out _).setCell L2.out _).setCell L2.out _)) (fun hS2 => ?_)
      clear hK K hS
      revert hS2; intro hS
      try simp only [Act.put, List.setIfInBounds_toArray, List.set_cons_zero, List.set_cons_succ]
      refine wpAnyH_take (i := 13) (oi := ⟨some 21, Op.assign (Operand.tmp 182), 31, "more.go:80", #[⟨10, .data⟩, ⟨12, .chain⟩, ⟨0, .phase⟩, ⟨1, .phase⟩, ⟨2, .phase⟩, ⟨3, .phase⟩, ⟨4, .phase⟩, ⟨5, .phase⟩, ⟨6, .phase⟩, ⟨7, .phase⟩, ⟨8, .phase⟩, ⟨9, .phase⟩, ⟨10, .phase⟩, ⟨11, .phase⟩, ⟨12, .phase⟩], none⟩) (v := ?_) rfl (by kernel_rfl) (by kernel_rfl) (by kernel_rfl) (fun _ _ _ h => h) (Or.inl ⟨by rfl, ?_⟩) hS ?_
      rotate_left 1
      · rintro wx ⟨s0, s1⟩
        (go_simp <;> (try with_reducible rfl))
      try simp only [Act.put, List.setIfInBounds_toArray, List.set_cons_zero, List.set_cons_succ]
      refine wpAnyH_done (by kernel_rfl) ?_ _
      refine HC.out _ _ ?_
      have c5 := ((((BW4.out.setCell (p := ⟨b2, 0, none⟩) L2.out (.slice (some ⟨gs, go, none⟩) 1 gc)).setCell (p := ⟨b2, 1, none⟩) L2.out (.slice none 0 0)).setCell (p := ⟨b2, 2, none⟩) L2.out (.slice none 0 0)).setCell (p := ⟨b2, 3, none⟩) L2.out (.slice none 0 0))
      have c6 := heap_setCell_at (i := 3) (heap_setCell_at (i := 2) (heap_setCell_at (i := 1) (heap_setCell_at (i := 0) G24.out (.slice (some ⟨gs, go, none⟩) 1 gc)) (.slice none 0 0)) (.slice none 0 0)) (.slice none 0 0)
      exact tail14 (h := b2) (HE.out.below c5) hk2 hk (by simpa [bookC1] using c6) (BK.out _ (((((Chg.refl _ z4).setCell (.inl (by simp)) _).setCell (.inl (by simp)) _).setCell (.inl (by simp)) _).setCell (.inl (by simp)) _)) tx_ring (HW.out.trans (c5.mono HW.out.size))
    · go_simp; have hn := heap_alloc_new z1 (.cells #[.string nameS, .slice ta tn tc] 25); have hb := (Below.refl z1.heap.size z1).alloc (Nat.le_refl _) (.cells #[.string nameS, .slice ta tn tc] 25); obtain ⟨b1, e1⟩ : ∃ b, b = z1.heap.size := ⟨_, rfl⟩; rw [← e1] at hn ⊢; generalize World.alloc z1 _ = z2 at hn hb ⊢; have BW2 := hid (BW1.out.trans (hb.mono BW1.out.size)); have G12 := hid hn; clear e1 hn hb
      refine hK.out _ _ (HSF.out _ BW2.out) (fun hS2 => ?_)
      clear hK K hS
      revert hS2; intro hS
      try simp only [Act.put, List.setIfInBounds_toArray, List.set_cons_zero, List.set_cons_succ]
      refine wpAnyH_take (i := 2) (oi := ⟨some 175, Op.build 39 #[(0, Operand.tmp 174)], 39, "more.go:80", #[⟨1, .data⟩], none⟩) (v := ?_) rfl (by kernel_rfl) (by kernel_rfl) (by kernel_rfl) (fun _ _ _ h => h) (Or.inl ⟨by rfl, ?_⟩) hS ?_
      rotate_left 1
      · rintro wx ⟨s0, s1⟩
        (go_simp <;> (try with_reducible rfl))
      try simp only [Act.put, List.setIfInBounds_toArray, List.set_cons_zero, List.set_cons_succ]
      refine wpAnyH_ready (rs := [7, 11]) (by kernel_rfl) (by simp) ?_
      refine AllReadyH.cons (o := ⟨some 180, Op.call { callee := Callee.value (Operand.func 8), args := #[Operand.tmp 175, Operand.tmp 176, Operand.tmp 179], argTypes := #[39, 46, 9] }, 43, "more.go:80", #[⟨2, .data⟩, ⟨3, .data⟩, ⟨6, .data⟩, ⟨5, .chain⟩], none⟩) rfl (fun K hK => ?_) ?_
      rotate_left 1
      refine AllReadyH.cons (o := ⟨some 20, Op.alloc 39, 0, "more.go:80", #[], none⟩) rfl (fun K hK => ?_) AllReadyH.nil
      · go_simp; have hn := heap_alloc_new z2 (.cells #[.slice none 0 0, .slice none 0 0, .slice none 0 0, .slice none 0 0] 39); have hb := (Below.refl z2.heap.size z2).alloc (Nat.le_refl _) (.cells #[.slice none 0 0, .slice none 0 0, .slice none 0 0, .slice none 0 0] 39); obtain ⟨b2, e1⟩ : ∃ b, b = z2.heap.size := ⟨_, rfl⟩; have L2 := hid (show y.heap.size ≤ b2 from by rw [e1]; exact BW2.out.size); have E2 := hid (show z2.heap.size ≤ b2 from by rw [e1]; exact Nat.le_refl _); rw [← e1] at hn ⊢; generalize World.alloc z2 _ = z3 at hn hb ⊢; have BW3 := hid (BW2.out.trans (hb.mono BW2.out.size)); have G13 := hid ((hb.block _ (heap_lt G12.out)).trans G12.out); have G23 := hid hn; clear e1 hn hb
        refine hK.out _ _ (HSF.out _ BW3.out) (fun hS2 => ?_)
        clear hK K hS
        revert hS2; intro hS
        try simp only [Act.put, List.setIfInBounds_toArray, List.set_cons_zero, List.set_cons_succ]
        refine wpAnyH_ready (rs := [7]) (by kernel_rfl) (by simp) ?_
        refine AllReadyH.cons (o := ⟨some 180, Op.call { callee := Callee.value (Operand.func 8), args := #[Operand.tmp 175, Operand.tmp 176, Operand.tmp 179], argTypes := #[39, 46, 9] }, 43, "more.go:80", #[⟨2, .data⟩, ⟨3, .data⟩, ⟨6, .data⟩, ⟨5, .chain⟩], none⟩) rfl (fun K hK => ?_) AllReadyH.nil
        go_simp; refine (HSE.out z3 b1 BW3.out (cell_of G13.out rfl) (cell_of G13.out rfl)).mono ?_; rintro e z4 ⟨⟨gs, go, gc, rfl, hq⟩, hb⟩; have BW4 := hid (BW3.out.trans (hb.mono BW3.out.size)); have G14 := hid ((hb.block _ (heap_lt G13.out)).trans G13.out); have G24 := hid ((hb.block _ (heap_lt G23.out)).trans G23.out); have BK := hid (fun z' (hc : Chg [b2] z4 z') => hq z' [b2] hc (fun x hx => by simp only [List.mem_singleton] at hx; rw [hx]; exact heap_lt G23.out)); clear hb hq
        refine hK.out _ _ (HSF.out _ BW4.out) (fun hS2 => ?_)
        clear hK K hS
        revert hS2; intro hS
        try simp only [Act.put, List.setIfInBounds_toArray, List.set_cons_zero, List.set_cons_succ]
        refine wpAnyH_take (i := 8) (oi := ⟨some 172, Op.move (Operand.tmp 180), 43, "more.go:80", #[⟨7, .data⟩], none⟩) (v := ?_) rfl (by kernel_rfl) (by kernel_rfl) (by kernel_rfl) (fun _ _ _ h => h) (Or.inl ⟨by rfl, ?_⟩) hS ?_
        rotate_left 1
        · rintro wx ⟨s0, s1⟩
          (go_simp <;> (try with_reducible rfl))
        try simp only [Act.put, List.setIfInBounds_toArray, List.set_cons_zero, List.set_cons_succ]
        refine wpAnyH_take (i := 9) (oi := ⟨some 181, Op.extract (Operand.tmp 172) 0, 39, "more.go:80", #[⟨8, .data⟩], none⟩) (v := ?_) rfl (by kernel_rfl) (by kernel_rfl) (by kernel_rfl) (fun _ _ _ h => h) (Or.inl ⟨by rfl, ?_⟩) hS ?_
        rotate_left 1
        · rintro wx ⟨s0, s1⟩
          (go_simp <;> (try with_reducible rfl))
        try simp only [Act.put, List.setIfInBounds_toArray, List.set_cons_zero, List.set_cons_succ]
        refine wpAnyH_take (i := 10) (oi := ⟨some 182, Op.extract (Operand.tmp 172) 1, 31, "more.go:80", #[⟨8, .data⟩, ⟨12, .gcOnly .lateStores⟩], none⟩) (v := ?_) rfl (by kernel_rfl) (by kernel_rfl) (by kernel_rfl) (fun _ _ _ h => h) (Or.inl ⟨by rfl, ?_⟩) hS ?_
        rotate_left 1
        · rintro wx ⟨s0, s1⟩
          (go_simp <;> (try with_reducible rfl))
        try simp only [Act.put, List.setIfInBounds_toArray, List.set_cons_zero, List.set_cons_succ]
        have t0 : z4.cell? ⟨b2, 0, none⟩ = some (.slice none 0 0) := cell_of G24.out rfl
        have t1 : z4.cell? ⟨b2, 1, none⟩ = some (.slice none 0 0) := cell_of G24.out rfl
        have t2 : z4.cell? ⟨b2, 2, none⟩ = some (.slice none 0 0) := cell_of G24.out rfl
        have t3 : z4.cell? ⟨b2, 3, none⟩ = some (.slice none 0 0) := cell_of G24.out rfl
        have f0 := free_of (i := 0) G24.out
        have f1 := free_of (i := 1) G24.out
        have f2 := free_of (i := 2) G24.out
        have f3 := free_of (i := 3) G24.out
        refine wpAnyH_ready (rs := [12]) (by kernel_rfl) (by simp) ?_
        refine AllReadyH.cons (o := ⟨none, Op.store 39 (Operand.tmp 20) (Operand.tmp 181), 0, "more.go:80", #[⟨11, .data⟩, ⟨9, .data⟩, ⟨7, .chain⟩, ⟨0, .phase⟩, ⟨1, .phase⟩, ⟨2, .phase⟩, ⟨3, .phase⟩, ⟨4, .phase⟩, ⟨5, .phase⟩, ⟨6, .phase⟩, ⟨7, .phase⟩, ⟨8, .phase⟩, ⟨9, .phase⟩, ⟨10, .textOnly .lateStores⟩, ⟨11, .phase⟩], none⟩) rfl (fun K hK => ?_) AllReadyH.nil
        go_simp
        refine hK.out _ _ (HSF.out _ ((((BW4.out.setCell L2.out _).setCell L2.out _).setCell L2.out _).setCell L2.out _)) (fun hS2 => ?_)
        clear hK K hS
        revert hS2; intro hS
        try simp only [Act.put, List.setIfInBounds_toArray, List.set_cons_zero, List.set_cons_succ]
        refine wpAnyH_take (i := 13) (oi := ⟨some 21, Op.assign (Operand.tmp 182), 31, "more.go:80", #[⟨10, .data⟩, ⟨12, .chain⟩, ⟨0, .phase⟩, ⟨1, .phase⟩, ⟨2, .phase⟩, ⟨3, .phase⟩, ⟨4, .phase⟩, ⟨5, .phase⟩, ⟨6, .phase⟩, ⟨7, .phase⟩, ⟨8, .phase⟩, ⟨9, .phase⟩, ⟨10, .phase⟩, ⟨11, .phase⟩, ⟨12, .phase⟩], none⟩) (v := ?_) rfl (by kernel_rfl) (by kernel_rfl) (by kernel_rfl) (fun _ _ _ h => h) (Or.inl ⟨by rfl, ?_⟩) hS ?_
        rotate_left 1
        · rintro wx ⟨s0, s1⟩
          (go_simp <;> (try with_reducible rfl))
        try simp only [Act.put, List.setIfInBounds_toArray, List.set_cons_zero, List.set_cons_succ]
        refine wpAnyH_done (by kernel_rfl) ?_ _
        refine HC.out _ _ ?_
        have c5 := ((((BW4.out.setCell (p := ⟨b2, 0, none⟩) L2.out (.slice (some ⟨gs, go, none⟩) 1 gc)).setCell (p := ⟨b2, 1, none⟩) L2.out (.slice none 0 0)).setCell (p := ⟨b2, 2, none⟩) L2.out (.slice none 0 0)).setCell (p := ⟨b2, 3, none⟩) L2.out (.slice none 0 0))
        have c6 := heap_setCell_at (i := 3) (heap_setCell_at (i := 2) (heap_setCell_at (i := 1) (heap_setCell_at (i := 0) G24.out (.slice (some ⟨gs, go, none⟩) 1 gc)) (.slice none 0 0)) (.slice none 0 0)) (.slice none 0 0)
        exact tail14 (h := b2) (HE.out.below c5) hk2 hk (by simpa [bookC1] using c6) (BK.out _ (((((Chg.refl _ z4).setCell (.inl (by simp)) _).setCell (.inl (by simp)) _).setCell (.inl (by simp)) _).setCell (.inl (by simp)) _)) tx_ring (HW.out.trans (c5.mono HW.out.size))
      · go_simp; refine (HSE.out z2 b1 BW2.out (cell_of G12.out rfl) (cell_of G12.out rfl)).mono ?_; rintro e z3 ⟨⟨gs, go, gc, rfl, hq⟩, hb⟩; have BW3 := hid (BW2.out.trans (hb.mono BW2.out.size)); have G13 := hid ((hb.block _ (heap_lt G12.out)).trans G12.out); have HQ := hid hq; clear hb hq
        refine hK.out _ _ (HSF.out _ BW3.out) (fun hS2 => ?_)
        clear hK K hS
        revert hS2; intro hS
        try simp only [Act.put, List.setIfInBounds_toArray, List.set_cons_zero, List.set_cons_succ]
        refine wpAnyH_take (i := 8) (oi := ⟨some 172, Op.move (Operand.tmp 180), 43, "more.go:80", #[⟨7, .data⟩], none⟩) (v := ?_) rfl (by kernel_rfl) (by kernel_rfl) (by kernel_rfl) (fun _ _ _ h => h) (Or.inl ⟨by rfl, ?_⟩) hS ?_
        rotate_left 1
        · rintro wx ⟨s0, s1⟩
          (go_simp <;> (try with_reducible rfl))
        try simp only [Act.put, List.setIfInBounds_toArray, List.set_cons_zero, List.set_cons_succ]
        refine wpAnyH_take (i := 9) (oi := ⟨some 181, Op.extract (Operand.tmp 172) 0, 39, "more.go:80", #[⟨8, .data⟩], none⟩) (v := ?_) rfl (by kernel_rfl) (by kernel_rfl) (by kernel_rfl) (fun _ _ _ h => h) (Or.inl ⟨by rfl, ?_⟩) hS ?_
        rotate_left 1
        · rintro wx ⟨s0, s1⟩
          (go_simp <;> (try with_reducible rfl))
        try simp only [Act.put, List.setIfInBounds_toArray, List.set_cons_zero, List.set_cons_succ]
        refine wpAnyH_take (i := 10) (oi := ⟨some 182, Op.extract (Operand.tmp 172) 1, 31, "more.go:80", #[⟨8, .data⟩, ⟨12, .gcOnly .lateStores⟩], none⟩) (v := ?_) rfl (by kernel_rfl) (by kernel_rfl) (by kernel_rfl) (fun _ _ _ h => h) (Or.inl ⟨by rfl, ?_⟩) hS ?_
        rotate_left 1
        · rintro wx ⟨s0, s1⟩
          (go_simp <;> (try with_reducible rfl))
        try simp only [Act.put, List.setIfInBounds_toArray, List.set_cons_zero, List.set_cons_succ]
        refine wpAnyH_ready (rs := [11]) (by kernel_rfl) (by simp) ?_
        refine AllReadyH.cons (o := ⟨some 20, Op.alloc 39, 0, "more.go:80", #[], none⟩) rfl (fun K hK => ?_) AllReadyH.nil
        go_simp; have hn := heap_alloc_new z3 (.cells #[.slice none 0 0, .slice none 0 0, .slice none 0 0, .slice none 0 0] 39); have hb := (Below.refl z3.heap.size z3).alloc (Nat.le_refl _) (.cells #[.slice none 0 0, .slice none 0 0, .slice none 0 0, .slice none 0 0] 39); obtain ⟨b2, e1⟩ : ∃ b, b = z3.heap.size := ⟨_, rfl⟩; have L2 := hid (show y.heap.size ≤ b2 from by rw [e1]; exact BW3.out.size); have E2 := hid (show z3.heap.size ≤ b2 from by rw [e1]; exact Nat.le_refl _); rw [← e1] at hn ⊢; generalize World.alloc z3 _ = z4 at hn hb ⊢; have BW4 := hid (BW3.out.trans (hb.mono BW3.out.size)); have G14 := hid ((hb.block _ (heap_lt G13.out)).trans G13.out); have G24 := hid hn; have BK := hid (fun z' (hc : Chg [b2] z4 z') => HQ.out z' [] ((Chg.of_below hb).trans hc (fun x hx => .inr (by simp only [List.mem_singleton] at hx; rw [hx]; exact E2.out))) (by simp)); clear e1 hn hb
        refine hK.out _ _ (HSF.out _ BW4.out) (fun hS2 => ?_)
        clear hK K hS
        revert hS2; intro hS
        try simp only [Act.put, List.setIfInBounds_toArray, List.set_cons_zero, List.set_cons_succ]
        have t0 : z4.cell? ⟨b2, 0, none⟩ = some (.slice none 0 0) := cell_of G24.out rfl
        have t1 : z4.cell? ⟨b2, 1, none⟩ = some (.slice none 0 0) := cell_of G24.out rfl
        have t2 : z4.cell? ⟨b2, 2, none⟩ = some (.slice none 0 0) := cell_of G24.out rfl
        have t3 : z4.cell? ⟨b2, 3, none⟩ = some (.slice none 0 0) := cell_of G24.out rfl
        have f0 := free_of (i := 0) G24.out
        have f1 := free_of (i := 1) G24.out
        have f2 := free_of (i := 2) G24.out
        have f3 := free_of (i := 3) G24.out
        refine wpAnyH_ready (rs := [12]) (by kernel_rfl) (by simp) ?_
        refine AllReadyH.cons (o := ⟨none, Op.store 39 (Operand.tmp 20) (Operand.tmp 181), 0, "more.go:80", #[⟨11, .data⟩, ⟨9, .data⟩, ⟨7, .chain⟩, ⟨0, .phase⟩, ⟨1, .phase⟩, ⟨2, .phase⟩, ⟨3, .phase⟩, ⟨4, .phase⟩, ⟨5, .phase⟩, ⟨6, .phase⟩, ⟨7, .phase⟩, ⟨8, .phase⟩, ⟨9, .phase⟩, ⟨10, .textOnly .lateStores⟩, ⟨11, .phase⟩], none⟩) rfl (fun K hK => ?_) AllReadyH.nil
        go_simp
        refine hK.out _ _ (HSF.out _ ((((BW4.out.setCell L2.out _).setCell L2.out _).setCell L2.out _).setCell L2.out _)) (fun hS2 => ?_)
        clear hK K hS
        revert hS2; intro hS
        try simp only [Act.put, List.setIfInBounds_toArray, List.set_cons_zero, List.set_cons_succ]
        refine wpAnyH_take (i := 13) (oi := ⟨some 21, Op.assign (Operand.tmp 182), 31, "more.go:80", #[⟨10, .data⟩, ⟨12, .chain⟩, ⟨0, .phase⟩, ⟨1, .phase⟩, ⟨2, .phase⟩, ⟨3, .phase⟩, ⟨4, .phase⟩, ⟨5, .phase⟩, ⟨6, .phase⟩, ⟨7, .phase⟩, ⟨8, .phase⟩, ⟨9, .phase⟩, ⟨10, .phase⟩, ⟨11, .phase⟩, ⟨12, .phase⟩], none⟩) (v := ?_) rfl (by kernel_rfl) (by kernel_rfl) (by kernel_rfl) (fun _ _ _ h => h) (Or.inl ⟨by rfl, ?_⟩) hS ?_
        rotate_left 1
        · rintro wx ⟨s0, s1⟩
          (go_simp <;> (try with_reducible rfl))
        try simp only [Act.put, List.setIfInBounds_toArray, List.set_cons_zero, List.set_cons_succ]
        refine wpAnyH_done (by kernel_rfl) ?_ _
        refine HC.out _ _ ?_
        have c5 := ((((BW4.out.setCell (p := ⟨b2, 0, none⟩) L2.out (.slice (some ⟨gs, go, none⟩) 1 gc)).setCell (p := ⟨b2, 1, none⟩) L2.out (.slice none 0 0)).setCell (p := ⟨b2, 2, none⟩) L2.out (.slice none 0 0)).setCell (p := ⟨b2, 3, none⟩) L2.out (.slice none 0 0))
        have c6 := heap_setCell_at (i := 3) (heap_setCell_at (i := 2) (heap_setCell_at (i := 1) (heap_setCell_at (i := 0) G24.out (.slice (some ⟨gs, go, none⟩) 1 gc)) (.slice none 0 0)) (.slice none 0 0)) (.slice none 0 0)
        exact tail14 (h := b2) (HE.out.below c5) hk2 hk (by simpa [bookC1] using c6) (BK.out _ (((((Chg.refl _ z4).setCell (.inl (by simp)) _).setCell (.inl (by simp)) _).setCell (.inl (by simp)) _).setCell (.inl (by simp)) _)) tx_ring (HW.out.trans (c5.mono HW.out.size))
end Go.Proofs.YtpcjfgihglfdgaaGreatDoor
