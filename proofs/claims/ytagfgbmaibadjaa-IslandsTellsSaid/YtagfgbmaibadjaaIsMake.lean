/- islands.Parts: the making of its three tables. -/
import Derived.Test.YtagfgbmaibadjaaIsTabs
namespace Go.Proofs.Ytagfgbmaibadjaa
open Go.RowKit Go.Lib

def fstSeq : Code → Code
  | .seq a _ => a
  | c => c

set_option maxRecDepth 20000 in
set_option maxHeartbeats 4000000 in
theorem parts_mk {w x : World} {B wb n bw bl bo m : Nat} {ev ov : Value} {s : St} {c : Code} {Q : Exit → Act → World → Prop} (v1 v2 v3 v4 v6 v7 v8 v9 v10 v11 v12 v13 v14 v15 v16 v17 v18 v19 v20 v21 v22 v23 v24 v25 v26 v27 v28 v29 v30 v31 v32 v33 v34 v35 v36 v37 v38 v39 v40 v41 v42 v43 v44 v45 v46 v47 v48 v49 v50 v51 v52 v53 v54 v55 v56 v57 v58 v59 v60 v61 v62 v63 v64 v65 v66 v67 v68 v69 v70 v71 v72 v73 v74 v75 v76 v77 v78 v79 v80 v81 v82 v83 v84 v85 v86 v87 v88 v89 v90 v91 v92 v93 v94 v95 v96 v97 v98 v99 v100 v101 v102 v103 v104 v105 v106 v107 v108 v109 v110 v111 v112 v113 v114 v115 v116 v117 v118 v119 v120 v121 v122 v123 v124 v125 v126 v127 v128 v129 v130 v131 v132 v133 v134 v135 v136 v137 v138 v139 v140 v141 v142 v143 v144 v145 v146 v147 v148 v149 v150 v151 v152 v153 v154 v155 v156 v157 v158 v159 v160 v161 v162 v163 v164 v165 v166 v167 v168 v169 v170 v171 v172 v173 v174 v175 v176 v177 v178 v179 v180 v181 v182 v183 v184 : Value) (A : WAt x B wb ev n bw bl bo ov s) (hm : m = s.many) (hm2 : m ≤ 2000) (hb : Below B w x)
    (hend : ∀ (pbx pr nbx nr rr : Nat) (y : World) (v1 v2 v3 v4 v6 v10 v11 v12 v13 v14 v15 v16 v17 v18 v19 v20 v21 v22 v23 v24 v25 v26 v27 v28 v29 v30 v31 v32 v33 v34 v35 v36 v37 v38 v39 v40 v41 v42 v43 v44 v45 v46 v47 v48 v49 v50 v51 v52 v53 v54 v55 v56 v57 v58 v59 v60 v61 v62 v63 v64 v65 v66 v67 v68 v69 v70 v71 v72 v73 v74 v75 v76 v77 v78 v79 v80 v81 v82 v83 v84 v85 v86 v87 v88 v89 v90 v91 v92 v93 v94 v95 v96 v97 v98 v99 v100 v101 v102 v103 v104 v105 v106 v107 v108 v109 v110 v111 v112 v113 v114 v115 v116 v117 v118 v119 v120 v121 v122 v123 v124 v125 v126 v127 v128 v129 v130 v131 v132 v133 v134 v135 v136 v137 v138 v139 v140 v141 v142 v143 v144 v145 v146 v147 v148 v149 v150 v151 v152 v153 v154 v155 v156 v157 v158 v159 v160 v161 v162 v163 v164 v165 v166 v167 v168 v169 v170 v171 v172 v173 v174 v175 v176 v177 v178 v179 v180 v181 v182 v183 v184 : Value), Tab y B wb ev n bw bl bo ov s m pbx pr nbx nr rr (fun _ => .slice none 0 0) (fun _ => []) (fun _ => 0) → Below B w y → Code.wp Try.prog c Q { tmps := #[ev, v1, v2, v3, v4, .pointer (some ⟨wb, 0, none⟩), v6, .pointer (some ⟨pbx, 0, none⟩), .pointer (some ⟨nbx, 0, none⟩), .slice (some ⟨rr, 0, none⟩) m m, v10, v11, v12, v13, v14, v15, v16, v17, v18, v19, v20, v21, v22, v23, v24, v25, v26, v27, v28, v29, v30, v31, v32, v33, v34, v35, v36, v37, v38, v39, v40, v41, v42, v43, v44, v45, v46, v47, v48, v49, v50, v51, v52, v53, v54, v55, v56, v57, v58, v59, v60, v61, v62, v63, v64, v65, v66, v67, v68, v69, v70, v71, v72, v73, v74, v75, v76, v77, v78, v79, v80, v81, v82, v83, v84, v85, v86, v87, v88, v89, v90, v91, v92, v93, v94, v95, v96, v97, v98, v99, v100, v101, v102, v103, v104, v105, v106, v107, v108, v109, v110, v111, v112, v113, v114, v115, v116, v117, v118, v119, v120, v121, v122, v123, v124, v125, v126, v127, v128, v129, v130, v131, v132, v133, v134, v135, v136, v137, v138, v139, v140, v141, v142, v143, v144, v145, v146, v147, v148, v149, v150, v151, v152, v153, v154, v155, v156, v157, v158, v159, v160, v161, v162, v163, v164, v165, v166, v167, v168, v169, v170, v171, v172, v173, v174, v175, v176, v177, v178, v179, v180, v181, v182, v183, v184], defers := [] } y) :
    Code.wp Try.prog (.seq (fstSeq (sndSeq rest13)) (.seq (fstSeq (sndSeq (sndSeq rest13))) (.seq (fstSeq (sndSeq (sndSeq (sndSeq rest13)))) c))) Q { tmps := #[ev, v1, v2, v3, v4, .pointer (some ⟨wb, 0, none⟩), v6, v7, v8, v9, v10, v11, v12, v13, v14, v15, v16, v17, v18, v19, v20, v21, v22, v23, v24, v25, v26, v27, v28, v29, v30, v31, v32, v33, v34, v35, v36, v37, v38, v39, v40, v41, v42, v43, v44, v45, v46, v47, v48, v49, v50, v51, v52, v53, v54, v55, v56, v57, v58, v59, v60, v61, v62, v63, v64, v65, v66, v67, v68, v69, v70, v71, v72, v73, v74, v75, v76, v77, v78, v79, v80, v81, v82, v83, v84, v85, v86, v87, v88, v89, v90, v91, v92, v93, v94, v95, v96, v97, v98, v99, v100, v101, v102, v103, v104, v105, v106, v107, v108, v109, v110, v111, v112, v113, v114, v115, v116, v117, v118, v119, v120, v121, v122, v123, v124, v125, v126, v127, v128, v129, v130, v131, v132, v133, v134, v135, v136, v137, v138, v139, v140, v141, v142, v143, v144, v145, v146, v147, v148, v149, v150, v151, v152, v153, v154, v155, v156, v157, v158, v159, v160, v161, v162, v163, v164, v165, v166, v167, v168, v169, v170, v171, v172, v173, v174, v175, v176, v177, v178, v179, v180, v181, v182, v183, v184], defers := [] } x := by
  have HE := hid hend
  have HA := hid A
  have HB := hid hb
  have c6 : x.cell? ⟨wb, 6, none⟩ = some (.int .i64 (m : Int)) := by rw [hm]; exact cell_of (i := 6) A.hd rfl
  have hmk1 := make_rows m (by omega)
  have hmk2 := make_ints m (by omega)
  have TS := tab_start A m
  simp only [List.toArray_replicate] at TS hmk1 hmk2
  have HTS := hid TS
  have c6b := ((((Chg.refl [] x).alloc (.cells (Array.replicate m (Value.slice none 0 0)) 24)).alloc (.cells #[.slice (some ⟨x.heap.size, 0, none⟩) m m] 22))).cell c6 (by simp)
  have c6c := ((((((Chg.refl [] x).alloc (.cells (Array.replicate m (Value.slice none 0 0)) 24)).alloc (.cells #[.slice (some ⟨x.heap.size, 0, none⟩) m m] 22))).alloc (.cells (Array.replicate m (Value.int .i64 0)) 3)).alloc (.cells #[.slice (some ⟨x.heap.size + 1 + 1, 0, none⟩) m m] 24)).cell c6 (by simp)
  clear A TS hm hb hend
  simp only [fstSeq, rest13, sndSeq, Try.f13, Option.getD_some]
  go_wp2_with fail
  refine HE.out (x.heap.size + 1) x.heap.size (x.heap.size + 1 + 1 + 1) (x.heap.size + 1 + 1) (x.heap.size + 1 + 1 + 1 + 1) _ _ _ _ _ _ _ _ _ _ _ _ _ _ _ _ _ _ _ _ _ _ _ _ _ _ _ _ _ _ _ _ _ _ _ _ _ _ _ _ _ _ _ _ _ _ _ _ _ _ _ _ _ _ _ _ _ _ _ _ _ _ _ _ _ _ _ _ _ _ _ _ _ _ _ _ _ _ _ _ _ _ _ _ _ _ _ _ _ _ _ _ _ _ _ _ _ _ _ _ _ _ _ _ _ _ _ _ _ _ _ _ _ _ _ _ _ _ _ _ _ _ _ _ _ _ _ _ _ _ _ _ _ _ _ _ _ _ _ _ _ _ _ _ _ _ _ _ _ _ _ _ _ _ _ _ _ _ _ _ _ _ _ _ _ _ _ _ _ _ _ _ _ _ _ _ _ _ _ _ _ HTS.out ?_
  have hb1 : B ≤ x.heap.size := by have := HA.out.b0; have := heap_lt HA.out.hd; omega
  exact HB.out.trans (Chg.below (F := []) ((((((Chg.refl [] x).alloc _).alloc _).alloc _).alloc _).alloc _) (by simp) hb1)

end Go.Proofs.Ytagfgbmaibadjaa
