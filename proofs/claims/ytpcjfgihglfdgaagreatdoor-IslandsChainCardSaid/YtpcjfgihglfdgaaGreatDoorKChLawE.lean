/- The law's middle: both chains stand in order, one by one. Condition: what the package-level variables hold lies as it was laid. -/
import Derived.Test.YtpcjfgihglfdgaaGreatDoorKChLawD

namespace Go.Proofs.YtpcjfgihglfdgaaGreatDoor
open Go.RowKit Go.Lib

def SgR (y : World) (k : Nat) (iv : Value) (z : World) : Prop := ∃ j : Nat, iv = .int .i64 (j : Int) ∧ j ≤ k ∧ z = y
theorem cast_len (g : Isl.Gr) : (Isl.castG g).length = g.length := by simp [Isl.castG]
theorem cast_row {k i : Nat} {f : Nat → List Nat} (h : i < k) : (Isl.castG ((List.range k).map f))[i]? = some ((f i).map fun (x : Nat) => (x : Int)) := by
  unfold Isl.castG
  rw [List.map_map, List.getElem?_map, List.getElem?_range h]
  rfl
noncomputable def rest7 : Code := sndSeq (sndSeq (sndSeq (sndSeq (sndSeq (sndSeq (sndSeq (Tryz.f3.body.getD .skip)))))))
set_option maxRecDepth 20000 in
set_option maxHeartbeats 2000000 in
theorem tail7 {w y : World} {k g : Nat} {dv uv : Value} {v0 v1 v2 v7 v8 v9 v10 v11 v12 v13 v14 v15 v16 v17 v18 v19 v20 v21 v22 v23 v24 v25 v26 v27 v28 v29 v30 v31 v32 v33 v34 v35 v36 v37 v38 v39 v40 v41 v42 v43 v44 v45 v46 v47 v48 v49 v50 v51 v52 v53 v54 v55 v56 v57 v58 v59 v60 v61 v62 v63 v64 v65 v66 v67 v68 v69 v70 v71 v72 v73 v74 v75 v76 v77 v78 v79 v80 v81 v82 v83 v84 v85 v86 v87 v88 v89 v90 v91 v92 v93 v94 v95 v96 v97 v98 v99 v100 v101 v102 v103 v104 v105 v106 v107 v108 v109 v110 v111 v112 v113 v114 v115 v116 v117 v118 v119 v120 v121 v122 v123 v124 v125 v126 v127 v128 v129 v130 v131 v132 v133 v134 v135 v136 v137 v138 v139 v140 v141 v142 v143 v144 v145 v146 v147 v148 v149 v150 v151 v152 v153 v154 v155 v156 v157 v158 v159 v160 v161 v162 v163 v164 v165 v166 v167 v168 v169 v170 v171 v172 v173 v174 v175 v176 v177 v178 v179 v180 v181 v182 v183 v184 v185 v186 v187 v188 v189 v190 v191 v192 v193 v194 v195 v196 v197 v198 v199 v200 v201 v202 v203 v204 v205 v206 v207 v208 v209 v210 v211 v212 v213 v214 v215 v216 v217 v218 v219 v220 v221 v222 v223 v224 v225 v226 : Value} (hE : Env y) (hk2 : 2 ≤ k) (hk : k ≤ 31) (hg : y.heap[g]? = some (.cells #[.string nameS, dv] 25 (0, 0))) (hg1 : y.heap[g + 1]? = some (.cells #[.string nameS, uv] 25 (0, 0)))
    (hc : CellsIn y dv txD (placesN k)) (hu : CellsIn y uv txU (placesN k)) (hw : Below w.heap.size w y) :
    Code.wp Tryz.prog rest7 (bodyPost Tryz.prog Tryz.f3 (fun e w' => e = .returned (.bool true) ∧ Below w.heap.size w w')) { tmps := #[v0, v1, v2, .bool true, .int .i64 (k : Int), .pointer (some ⟨g, 0, none⟩), .pointer (some ⟨g + 1, 0, none⟩), v7, v8, v9, v10, v11, v12, v13, v14, v15, v16, v17, v18, v19, v20, v21, v22, v23, v24, v25, v26, v27, v28, v29, v30, v31, v32, v33, v34, v35, v36, v37, v38, v39, v40, v41, v42, v43, v44, v45, v46, v47, v48, v49, v50, v51, v52, v53, v54, v55, v56, v57, v58, v59, v60, v61, v62, v63, v64, v65, v66, v67, v68, v69, v70, v71, v72, v73, v74, v75, v76, v77, v78, v79, v80, v81, v82, v83, v84, v85, v86, v87, v88, v89, v90, v91, v92, v93, v94, v95, v96, v97, v98, v99, v100, v101, v102, v103, v104, v105, v106, v107, v108, v109, v110, v111, v112, v113, v114, v115, v116, v117, v118, v119, v120, v121, v122, v123, v124, v125, v126, v127, v128, v129, v130, v131, v132, v133, v134, v135, v136, v137, v138, v139, v140, v141, v142, v143, v144, v145, v146, v147, v148, v149, v150, v151, v152, v153, v154, v155, v156, v157, v158, v159, v160, v161, v162, v163, v164, v165, v166, v167, v168, v169, v170, v171, v172, v173, v174, v175, v176, v177, v178, v179, v180, v181, v182, v183, v184, v185, v186, v187, v188, v189, v190, v191, v192, v193, v194, v195, v196, v197, v198, v199, v200, v201, v202, v203, v204, v205, v206, v207, v208, v209, v210, v211, v212, v213, v214, v215, v216, v217, v218, v219, v220, v221, v222, v223, v224, v225, v226], defers := [] } y := by
  have HW := hid hw
  obtain ⟨ta, tn, tc, hdv⟩ : ∃ a n c, dv = .slice a n c := by obtain ⟨a, c, _, _, e, _⟩ := hc.view; exact ⟨_, _, _, e⟩
  subst hdv
  obtain ⟨sa, sn, sc, hdu⟩ : ∃ a n c, uv = .slice a n c := by obtain ⟨a, c, _, _, e, _⟩ := hu.view; exact ⟨_, _, _, e⟩
  subst hdu
  have HE := hid hE
  have HC0 := hid hc
  have HU0 := hid hu
  have HG := hid hg
  have HG1 := hid hg1
  have HGD := hid (fun (z : World) (b : Nat) (hb : Below y.heap.size y z) (h : z.heap[b]? = some (.cells #[.string nameS, .slice ta tn tc] 25 (0, 0))) => graph_any (hE.below hb) (bk_places (bc := 1) (Nat.le_refl _) (cell_of h rfl) (cell_of h rfl) (hc.below hb) (by omega) (fun i hi => inE_of (reads_down (i := i) (by omega)))) (fm_down (k := k) (by omega)) (fa_down (by omega)))
  have HGU := hid (fun (z : World) (b : Nat) (hb : Below y.heap.size y z) (h : z.heap[b]? = some (.cells #[.string nameS, .slice sa sn sc] 25 (0, 0))) => graph_any (hE.below hb) (bk_places (bc := 1) (Nat.le_refl _) (cell_of h rfl) (cell_of h rfl) (hu.below hb) (by omega) (fun i hi => inE_of (reads_up (i := i) (by omega)))) (fm_up (k := k) (by omega)) (fa_up (by omega)))
  have q0 : y.cell? ⟨g, 0, none⟩ = some (.string nameS) := cell_of hg rfl
  have q1 : y.cell? ⟨g, 1, none⟩ = some (.slice ta tn tc) := cell_of hg rfl
  have b0 : Below y.heap.size y (y.alloc (.cells #[.string nameS, .slice ta tn tc] 25)) := (Below.refl y.heap.size y).alloc (Nat.le_refl _) _
  have G0 := hid (HGD.out _ y.heap.size b0 (heap_alloc_new y _))
  have B0 := hid b0
  clear hE hw hc hu hg hg1 b0
  simp only [rest7, sndSeq, Tryz.f3, Option.getD_some]
  go_wp2_with fail
  refine G0.out.mono ?_
  rintro e w1 ⟨av, ev, rfl, ⟨aa, ac, rfl⟩, hr, b1⟩
  rw [rows_down] at hr
  have B1 := hid (B0.out.trans (b1.mono B0.out.size))
  have HP := hid (parts_cast hr.rows (Isl.down_right k) (by rw [Isl.down_len]; omega) (few_down k) (Isl.down_parts k))
  clear hr b1 B0 G0 q0 q1
  go_wp2_with fail
  refine HP.out.mono ?_
  rintro e w2 ⟨pv, rfl, hp, b2⟩
  have B2 := hid (B1.out.trans (b2.mono B1.out.size))
  have HPD := hid hp
  obtain ⟨pa, pc, rfl, -⟩ := Isl.rows_view hp
  have hg2 := (B2.out.block _ (heap_lt HG1.out)).trans HG1.out
  have q0 : w2.cell? ⟨g + 1, 0, none⟩ = some (.string nameS) := cell_of hg2 rfl
  have q1 : w2.cell? ⟨g + 1, 1, none⟩ = some (.slice sa sn sc) := cell_of hg2 rfl
  have b0 : Below w2.heap.size w2 (w2.alloc (.cells #[.string nameS, .slice sa sn sc] 25)) := (Below.refl w2.heap.size w2).alloc (Nat.le_refl _) _
  have B3 := hid (B2.out.trans (b0.mono B2.out.size))
  have G0 := hid (HGU.out _ w2.heap.size B3.out (heap_alloc_new w2 _))
  have HPD3 := hid (HPD.out.below b0)
  rw [cast_len, List.length_map, List.length_range] at HPD3
  rw [cast_len, List.length_map, List.length_range]
  clear hp b2 B1 HP hg2 b0 HPD
  go_wp2_with fail
  refine G0.out.mono ?_
  rintro e w3 ⟨av2, ev2, rfl, -, hr, b1⟩
  rw [rows_up] at hr
  have B4 := hid (B3.out.trans (b1.mono B3.out.size))
  have HP := hid (parts_cast hr.rows (Isl.up_right k) (by rw [Isl.up_len]; omega) (few_up k) (Isl.up_parts k))
  have HPD4 := hid (HPD3.out.below b1)
  clear hr b1 B3 B2 G0 q0 q1 HPD3
  go_wp2_with fail
  refine HP.out.mono ?_
  rintro e w4 ⟨pv2, rfl, hp, b2⟩
  have B5 := hid (B4.out.trans (b2.mono B4.out.size))
  have HPD5 := hid (HPD4.out.below b2)
  have HPU := hid hp
  obtain ⟨ra, rc, rfl, -⟩ := Isl.rows_view hp
  rw [cast_len, List.length_map, List.length_range] at HPU
  rw [cast_len, List.length_map, List.length_range]
  clear hp b2 B4 HP HPD4
  go_wp2_with fail
  rename_i K hK
  have HC := hid hK
  clear hK
  go_loopw [19] (fun iv z => SgR w4 k iv z) (fun iv _ => k - (RowKit.intOf iv).toNat)
  case atStart => exact ⟨0, rfl, Nat.zero_le _, rfl⟩
  case round =>
    obtain ⟨j, rfl, hj, rfl⟩ := hrel
    by_cases hjn : j < k
    · obtain ⟨b7, o7, lo7, lc7, rfl, q1, q2⟩ := Isl.rows_cell HPD5.out (cast_row (f := fun i => [i]) hjn)
      obtain ⟨b8, o8, rfl, q3, -⟩ := Isl.ints_cell q2 (i := 0) rfl
      obtain ⟨b9, o9, lo9, lc9, rfl, r1, r2⟩ := Isl.rows_cell HPU.out (cast_row (f := fun i => [k - 1 - i]) hjn)
      obtain ⟨b6, o6, rfl, r3, -⟩ := Isl.ints_cell r2 (i := 0) rfl
      rw [Nat.add_zero] at q3 r3
      simp only [List.length_cons, List.length_nil, Nat.zero_add, List.length_map] at q1 r1
      dsimp only at r3
      rw [show ((k - 1 - j : Nat) : Int) = (k : Int) - 1 - (j : Int) from by omega] at r3
      have g1 : IntKind.i64.wrap ((k : Int) - 1) = (k : Int) - 1 := IntWalk.i64_in _ (by omega)
      have g2 : IntKind.i64.wrap ((k : Int) - 1 - (j : Int)) = (k : Int) - 1 - (j : Int) := IntWalk.i64_in _ (by omega)
      clear q2 r2
      go_wp2_with fail
      go_roundw
      case rel => exact ⟨j + 1, by simp, by omega, rfl⟩
      case measure => simp [RowKit.intOf]; omega
    · obtain rfl : j = k := by omega
      go_wp2_with fail
      refine HC.out _ _ ?_
      exact tail13 (HE.out.below B5.out) hk2 hk ((B5.out.block _ (heap_lt HG.out)).trans HG.out) (HC0.out.below B5.out) (HW.out.trans (B5.out.mono HW.out.size))
end Go.Proofs.YtpcjfgihglfdgaaGreatDoor
