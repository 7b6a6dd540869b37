/- The document's own Parts, from its tables on. -/
import Derived.Test.YtagfgbmaibadjaaIsDocT
namespace Go.Proofs.Ytagfgbmaibadjaa
open Go.RowKit Go.Lib

theorem round14_eq : round14 = .seq (frontSeq round14) (.seq scan14 tail14) := rfl

set_option maxRecDepth 20000 in
set_option maxHeartbeats 4000000 in
theorem doc_round {w x : World} {B n m fb pb nb xb tb L k0 oc ec : Nat} {ao oa : Option Addr} {vs vsb : Nat → Value} {g : Gr} {c : Nat → Nat} {P : List Nat} {Q : Exit → Act → World → Prop} (v1 v2 v3 v5 v8 v9 v13 v14 v15 v16 v17 v18 v19 v20 v21 v22 v23 v24 v25 v26 v27 v28 v29 v30 v31 v32 v33 v34 v35 v36 v37 v38 v39 v40 v41 v42 v43 v44 v45 v46 v47 v48 v49 v50 v51 v52 v53 v54 v55 v56 v57 v58 v59 v60 v61 v62 v63 v64 v65 v66 v67 v68 v69 v70 v71 v72 v73 v74 v75 v76 v77 v78 v79 v80 v81 v82 v83 v84 v85 v86 v87 v88 v89 v90 v91 v92 v93 v94 v95 v96 v97 v98 v99 v100 v101 v102 v103 v104 v105 v106 v107 v108 v109 v110 v111 v112 v113 v114 v115 v116 v117 v118 v119 v120 v121 v122 v123 v124 v125 v126 v127 v128 v129 v130 v131 v132 v133 v134 v135 v136 v137 v138 v139 v140 v141 v142 v143 v144 v145 v146 v147 v148 v149 v150 v151 v152 v153 v154 v155 v156 v157 v158 v159 v160 v161 v162 v163 v164 v165 v166 v167 v168 v169 v170 v171 v172 v173 v174 v175 v176 v177 v178 v179 v180 v181 v182 v183 v184 v185 v186 v187 : Value) (hn : n = g.length) (hn2 : n ≤ 2000) (hmn : m ≤ n) (N : NumU g c m) (R : RightG g) (hk0 : k0 = P.length) (hkm : k0 < m) (hM : (pairs g c).length ≤ 1000000) (O : Out g c m P)
    (T : DocAt w x B n m fb pb nb xb tb L vs vsb g c (wants (pairs g c) P) (fun p => P.contains p) P (.slice oa k0 oc))
    (hend : ∀ (q : Nat) (oa2 : Option Addr) (oc2 : Nat) (y : World) (u13 u14 u15 u16 u17 u93 u94 u95 u96 u97 u98 u99 u100 u101 u102 u103 u104 u105 u106 u107 u108 u109 u110 u111 u112 u113 u114 u115 u116 u117 u118 u119 u120 u121 u122 u123 u124 u125 u126 u127 u128 u129 u130 u131 u132 u133 u134 u135 u136 u137 u138 u139 u140 u141 u142 u143 u144 u145 u146 u147 u148 u149 u150 u151 u152 u153 u154 u155 u156 u157 u158 u159 u160 u161 u162 u163 u164 u165 u166 u167 u168 u169 u170 u171 u172 u173 u174 u175 u176 u177 u178 u179 u180 u181 u182 u183 u184 u185 u186 : Value), DocAt w y B n m fb pb nb xb tb L vs vsb g c (wants (pairs g c) (P ++ [q])) (fun p => (P ++ [q]).contains p) (P ++ [q]) (.slice oa2 (k0 + 1) oc2) → Out g c m (P ++ [q]) → Q .normal { tmps := #[.slice ao n ec, v1, v2, v3, .slice (some ⟨fb, 0, none⟩) n n, v5, .slice (some ⟨pb, 0, none⟩) m m, .slice (some ⟨nb, 0, none⟩) m m, v8, v9, .slice (some ⟨xb, 0, none⟩) n n, .slice (some ⟨tb, 0, none⟩) m m, .slice oa2 (k0 + 1) oc2, u13, u14, u15, u16, u17, v18, v19, v20, v21, v22, v23, v24, v25, v26, v27, v28, v29, v30, v31, v32, v33, v34, v35, v36, v37, v38, v39, v40, v41, v42, v43, v44, v45, v46, v47, v48, v49, v50, v51, v52, v53, v54, v55, v56, v57, v58, v59, v60, v61, v62, v63, v64, v65, v66, v67, v68, v69, v70, v71, v72, v73, v74, v75, v76, v77, v78, v79, v80, v81, v82, v83, v84, v85, v86, v87, v88, v89, v90, v91, v92, u93, u94, u95, u96, u97, u98, u99, u100, u101, u102, u103, u104, u105, u106, u107, u108, u109, u110, u111, u112, u113, u114, u115, u116, u117, u118, u119, u120, u121, u122, u123, u124, u125, u126, u127, u128, u129, u130, u131, u132, u133, u134, u135, u136, u137, u138, u139, u140, u141, u142, u143, u144, u145, u146, u147, u148, u149, u150, u151, u152, u153, u154, u155, u156, u157, u158, u159, u160, u161, u162, u163, u164, u165, u166, u167, u168, u169, u170, u171, u172, u173, u174, u175, u176, u177, u178, u179, u180, u181, u182, u183, u184, u185, u186, v187], defers := [] } y) :
    Code.wp Try.prog round14 Q { tmps := #[.slice ao n ec, v1, v2, v3, .slice (some ⟨fb, 0, none⟩) n n, v5, .slice (some ⟨pb, 0, none⟩) m m, .slice (some ⟨nb, 0, none⟩) m m, v8, v9, .slice (some ⟨xb, 0, none⟩) n n, .slice (some ⟨tb, 0, none⟩) m m, .slice oa k0 oc, v13, v14, v15, v16, v17, v18, v19, v20, v21, v22, v23, v24, v25, v26, v27, v28, v29, v30, v31, v32, v33, v34, v35, v36, v37, v38, v39, v40, v41, v42, v43, v44, v45, v46, v47, v48, v49, v50, v51, v52, v53, v54, v55, v56, v57, v58, v59, v60, v61, v62, v63, v64, v65, v66, v67, v68, v69, v70, v71, v72, v73, v74, v75, v76, v77, v78, v79, v80, v81, v82, v83, v84, v85, v86, v87, v88, v89, v90, v91, v92, v93, v94, v95, v96, v97, v98, v99, v100, v101, v102, v103, v104, v105, v106, v107, v108, v109, v110, v111, v112, v113, v114, v115, v116, v117, v118, v119, v120, v121, v122, v123, v124, v125, v126, v127, v128, v129, v130, v131, v132, v133, v134, v135, v136, v137, v138, v139, v140, v141, v142, v143, v144, v145, v146, v147, v148, v149, v150, v151, v152, v153, v154, v155, v156, v157, v158, v159, v160, v161, v162, v163, v164, v165, v166, v167, v168, v169, v170, v171, v172, v173, v174, v175, v176, v177, v178, v179, v180, v181, v182, v183, v184, v185, v186, v187], defers := [] } x := by
  have HE := hid hend
  have HN := hid hn
  have HR := hid R
  have HNUM := hid N
  have HO := hid O
  have HT := hid T
  have HK0 := hid hk0
  have HM := hid hM
  have HS := hid (fun (Q : Exit → Act → World → Prop) => @doc_scan x n m fb nb tb ec ao (fun y => DocAt w y B n m fb pb nb xb tb L vs vsb g c (wants (pairs g c) P) (fun p => P.contains p) P (.slice oa k0 oc)) c (wants (pairs g c) P) (fun p => P.contains p) Q)
  have HTL := hid (fun (Q : Exit → Act → World → Prop) (y : World) (q : Nat) => @doc_tail w y B n m fb pb nb xb tb L q k0 oc ec ao oa vs vsb g c P Q)
  clear hend hn N R hk0 hM O T
  rw [round14_eq]
  obtain ⟨r0, hr0⟩ : ∃ r0, r0 = frontSeq round14 := ⟨_, rfl⟩
  rw [← hr0]
  generalize scan14 = SC at HS ⊢
  generalize tail14 = TL at HTL ⊢
  rw [hr0]
  simp only [round14, rest14, frontSeq, inBlk, inLp, sndSeq, Try.f14, Option.getD_some]
  clear hr0
  go_wp2_with fail
  rename_i K hK
  have HK := hid hK
  clear hK
  refine HS.out _ _ _ _ _ _ _ _ _ _ _ _ _ _ _ _ _ _ _ _ _ _ _ _ _ _ _ _ _ _ _ _ _ _ _ _ _ _ _ _ _ _ _ _ _ _ _ _ _ _ _ _ _ _ _ _ _ _ _ _ _ _ _ _ _ _ _ _ _ _ _ _ _ _ _ _ _ _ _ _ _ _ _ _ _ _ _ _ _ _ _ _ _ _ _ _ _ _ _ _ _ _ _ _ _ _ _ _ _ _ _ _ _ _ _ _ _ _ _ _ _ _ _ _ _ _ _ _ _ _ _ _ _ _ _ _ _ _ _ _ _ _ _ _ _ _ _ _ _ _ _ _ _ _ _ _ _ _ _ _ _ _ _ _ _ _ _ _ _ _ _ _ _ _ _ _ _ _ _ _ _ _ _ _ hn2 hmn (fun y T => ⟨T.rf, T.rn, T.rt⟩) HT.out (fun i hi => HNUM.out.lt i (by have := HN.out; omega)) (fun q => by have := wants_le (pairs g c) P q; have := HM.out; omega) ?_ ?_
  · obtain ⟨i, h1, h2, h3⟩ := HNUM.out.next HR.out HO.out (by have := HK0.out; omega)
    exact ⟨i, by have := HN.out; omega, by simpa using h2, h3⟩
  · intro i0 y u14 u93 u94 u95 u96 u97 u98 u99 u100 u101 u102 u103 u104 u105 u106 u107 u108 u109 u110 u111 u112 u113 u114 u115 u116 u117 u118 u119 u120 u121 u122 u123 u124 T hi0 hrd hleast
    have hil : i0 < g.length := by have := HN.out; omega
    have hqP : c i0 ∉ P := by simpa using hrd.1
    refine HK.out _ _ ?_
    refine HTL.out _ y (c i0) _ _ _ _ _ _ _ _ _ _ _ _ _ _ _ _ _ _ _ _ _ _ _ _ _ _ _ _ _ _ _ _ _ _ _ _ _ _ _ _ _ _ _ _ _ _ _ _ _ _ _ _ _ _ _ _ _ _ _ _ _ _ _ _ _ _ _ _ _ _ _ _ _ _ _ _ _ _ _ _ _ _ _ _ _ _ _ _ _ _ _ _ _ _ _ _ _ _ _ _ _ _ _ _ _ _ _ _ _ _ _ _ _ _ _ _ _ _ _ _ _ _ _ _ _ _ _ _ _ _ _ _ _ _ _ _ _ _ _ _ _ _ _ _ _ _ _ _ _ _ _ _ _ _ _ _ _ _ _ _ _ _ _ _ _ _ _ _ _ _ _ _ _ _ _ _ _ _ _ _ HN.out hn2 hmn (HNUM.out.lt i0 hil) hqP HR.out HK0.out (by omega) HM.out (fun i hi => HNUM.out.lt i (by have := HN.out; omega)) T (fun oa2 oc2 y u15 u16 u17 u125 u126 u127 u128 u129 u130 u131 u132 u133 u134 u135 u136 u137 u138 u139 u140 u141 u142 u143 u144 u145 u146 u147 u148 u149 u150 u151 u152 u153 u154 u155 u156 u157 u158 u159 u160 u161 u162 u163 u164 u165 u166 u167 u168 u169 u170 u171 u172 u173 u174 u175 u176 u177 u178 u179 u180 u181 u182 u183 u184 u185 u186 T2 => ?_)
    exact HE.out (c i0) oa2 oc2 y _ _ _ _ _ _ _ _ _ _ _ _ _ _ _ _ _ _ _ _ _ _ _ _ _ _ _ _ _ _ _ _ _ _ _ _ _ _ _ _ _ _ _ _ _ _ _ _ _ _ _ _ _ _ _ _ _ _ _ _ _ _ _ _ _ _ _ _ _ _ _ _ _ _ _ _ _ _ _ _ _ _ _ _ _ _ _ _ _ _ _ _ _ _ _ _ _ _ _ T2 (HO.out.more (HNUM.out.lt i0 hil) hqP hrd.2 (fun q' h1 h2 h3 => HNUM.out.least hil (fun j hj h4 => hleast j hj ⟨by simpa using h4.1, h4.2⟩) h1 h2 h3))

noncomputable def test14 : Code := frontSeq (inLp (inBlk (frontSeq (sndSeq (sndSeq (sndSeq rest14))))))
theorem rest14_eq : rest14 = .seq (frontSeq rest14) (.seq (frontSeq (sndSeq rest14)) (.seq (frontSeq (sndSeq (sndSeq rest14))) (.seq (.block 4 (.loop (.seq test14 (.block 5 round14)))) (sndSeq (sndSeq (sndSeq (sndSeq rest14))))))) := rfl

def DocRel (w : World) (B n m fb pb nb xb tb L : Nat) (vs vsb : Nat → Value) (g : Gr) (c : Nat → Nat) (ov : Value) (wr : World) : Prop :=
  ∃ P, DocAt w wr B n m fb pb nb xb tb L vs vsb g c (wants (pairs g c) P) (fun p => P.contains p) P ov ∧ Out g c m P

set_option maxRecDepth 20000 in
set_option maxHeartbeats 4000000 in
theorem doc_last {w x : World} {B n m fb pb nb ec M : Nat} {ao : Option Addr} {vs : Nat → Value} {g : Gr} {c : Nat → Nat} (v1 v2 v3 v8 v9 v10 v11 v12 v13 v14 v15 v16 v17 v18 v19 v20 v21 v22 v23 v24 v25 v26 v27 v28 v29 v30 v31 v32 v33 v34 v35 v36 v37 v38 v39 v40 v41 v42 v43 v44 v45 v46 v47 v48 v49 v50 v51 v52 v53 v54 v55 v56 v57 v58 v59 v60 v61 v62 v63 v64 v65 v66 v67 v68 v69 v70 v71 v72 v73 v74 v75 v76 v77 v78 v79 v80 v81 v82 v83 v84 v85 v86 v87 v88 v89 v90 v91 v92 v93 v94 v95 v96 v97 v98 v99 v100 v101 v102 v103 v104 v105 v106 v107 v108 v109 v110 v111 v112 v113 v114 v115 v116 v117 v118 v119 v120 v121 v122 v123 v124 v125 v126 v127 v128 v129 v130 v131 v132 v133 v134 v135 v136 v137 v138 v139 v140 v141 v142 v143 v144 v145 v146 v147 v148 v149 v150 v151 v152 v153 v154 v155 v156 v157 v158 v159 v160 v161 v162 v163 v164 v165 v166 v167 v168 v169 v170 v171 v172 v173 v174 v175 v176 v177 v178 v179 v180 v181 v182 v183 v184 v185 v186 v187 : Value) (h : RowsIn w (.slice ao n ec) (castG g)) (hn : n = g.length) (hn2 : n ≤ 2000) (hmn : m ≤ n) (N : NumU g c m) (R : RightG g) (hM : ∀ k, (edges g k).length ≤ M) (hM2 : (n + 1) * M ≤ 1000000)
    (rf : RowF x fb n (fun i => (c i : Int))) (rp : RowV x pb m vs) (rv : Rows3 x B m vs (partOf g c) [nb]) (rn : RowF x nb m (fun q => (wants (pairs g c) [] q : Int))) (hfn : fb ≠ nb) (hnb : w.heap.size ≤ nb) (hb : Below w.heap.size w x) :
    Code.wp Try.prog rest14 (bodyPost Try.prog Try.f14 (PartsPost w g)) { tmps := #[.slice ao n ec, v1, v2, v3, .slice (some ⟨fb, 0, none⟩) n n, .int .i64 (m : Int), .slice (some ⟨pb, 0, none⟩) m m, .slice (some ⟨nb, 0, none⟩) m m, v8, v9, v10, v11, v12, v13, v14, v15, v16, v17, v18, v19, v20, v21, v22, v23, v24, v25, v26, v27, v28, v29, v30, v31, v32, v33, v34, v35, v36, v37, v38, v39, v40, v41, v42, v43, v44, v45, v46, v47, v48, v49, v50, v51, v52, v53, v54, v55, v56, v57, v58, v59, v60, v61, v62, v63, v64, v65, v66, v67, v68, v69, v70, v71, v72, v73, v74, v75, v76, v77, v78, v79, v80, v81, v82, v83, v84, v85, v86, v87, v88, v89, v90, v91, v92, v93, v94, v95, v96, v97, v98, v99, v100, v101, v102, v103, v104, v105, v106, v107, v108, v109, v110, v111, v112, v113, v114, v115, v116, v117, v118, v119, v120, v121, v122, v123, v124, v125, v126, v127, v128, v129, v130, v131, v132, v133, v134, v135, v136, v137, v138, v139, v140, v141, v142, v143, v144, v145, v146, v147, v148, v149, v150, v151, v152, v153, v154, v155, v156, v157, v158, v159, v160, v161, v162, v163, v164, v165, v166, v167, v168, v169, v170, v171, v172, v173, v174, v175, v176, v177, v178, v179, v180, v181, v182, v183, v184, v185, v186, v187], defers := [] } x := by
  have HBK := hid (back_any (h.below hb) hn hn2 R hM hM2)
  have HRD := hid (fun (Q : Exit → Act → World → Prop) (y : World) (xb tb L k0 oc : Nat) (oa : Option Addr) (vsb : Nat → Value) (P : List Nat) => @doc_round w y B n m fb pb nb xb tb L k0 oc ec ao oa vs vsb g c P Q)
  have HN := hid hn
  have HR := hid R
  have HNUM := hid N
  have HM := hid (show (pairs g c).length ≤ 1000000 by have := pairs_len (c := c) hM; rw [← hn] at this; omega)
  have hmk := make_bools m (by omega)
  have HX := hid (And.intro rf (And.intro rp (And.intro rv (And.intro rn (And.intro hfn (And.intro hnb hb))))))
  clear hn R N hM hM2 rf rp rv rn hfn hnb hb h
  rw [rest14_eq]
  obtain ⟨RDf, hRDf⟩ : ∃ RDf : List Oper → Code, RDf [{ dst := some 13, op := .move (.tmp 0), type := 0, pos := "", after := #[], guard := none }, { dst := some 14, op := .move (.tmp 0), type := 0, pos := "", after := #[], guard := none }, { dst := some 15, op := .move (.tmp 0), type := 0, pos := "", after := #[], guard := none }, { dst := some 16, op := .move (.tmp 0), type := 0, pos := "", after := #[], guard := none }, { dst := some 17, op := .move (.tmp 0), type := 0, pos := "", after := #[], guard := none }, { dst := some 93, op := .move (.tmp 0), type := 0, pos := "", after := #[], guard := none }, { dst := some 94, op := .move (.tmp 0), type := 0, pos := "", after := #[], guard := none }, { dst := some 95, op := .move (.tmp 0), type := 0, pos := "", after := #[], guard := none }, { dst := some 96, op := .move (.tmp 0), type := 0, pos := "", after := #[], guard := none }, { dst := some 97, op := .move (.tmp 0), type := 0, pos := "", after := #[], guard := none }, { dst := some 98, op := .move (.tmp 0), type := 0, pos := "", after := #[], guard := none }, { dst := some 99, op := .move (.tmp 0), type := 0, pos := "", after := #[], guard := none }, { dst := some 100, op := .move (.tmp 0), type := 0, pos := "", after := #[], guard := none }, { dst := some 101, op := .move (.tmp 0), type := 0, pos := "", after := #[], guard := none }, { dst := some 102, op := .move (.tmp 0), type := 0, pos := "", after := #[], guard := none }, { dst := some 103, op := .move (.tmp 0), type := 0, pos := "", after := #[], guard := none }, { dst := some 104, op := .move (.tmp 0), type := 0, pos := "", after := #[], guard := none }, { dst := some 105, op := .move (.tmp 0), type := 0, pos := "", after := #[], guard := none }, { dst := some 106, op := .move (.tmp 0), type := 0, pos := "", after := #[], guard := none }, { dst := some 107, op := .move (.tmp 0), type := 0, pos := "", after := #[], guard := none }, { dst := some 108, op := .move (.tmp 0), type := 0, pos := "", after := #[], guard := none }, { dst := some 109, op := .move (.tmp 0), type := 0, pos := "", after := #[], guard := none }, { dst := some 110, op := .move (.tmp 0), type := 0, pos := "", after := #[], guard := none }, { dst := some 111, op := .move (.tmp 0), type := 0, pos := "", after := #[], guard := none }, { dst := some 112, op := .move (.tmp 0), type := 0, pos := "", after := #[], guard := none }, { dst := some 113, op := .move (.tmp 0), type := 0, pos := "", after := #[], guard := none }, { dst := some 114, op := .move (.tmp 0), type := 0, pos := "", after := #[], guard := none }, { dst := some 115, op := .move (.tmp 0), type := 0, pos := "", after := #[], guard := none }, { dst := some 116, op := .move (.tmp 0), type := 0, pos := "", after := #[], guard := none }, { dst := some 117, op := .move (.tmp 0), type := 0, pos := "", after := #[], guard := none }, { dst := some 118, op := .move (.tmp 0), type := 0, pos := "", after := #[], guard := none }, { dst := some 119, op := .move (.tmp 0), type := 0, pos := "", after := #[], guard := none }, { dst := some 120, op := .move (.tmp 0), type := 0, pos := "", after := #[], guard := none }, { dst := some 121, op := .move (.tmp 0), type := 0, pos := "", after := #[], guard := none }, { dst := some 122, op := .move (.tmp 0), type := 0, pos := "", after := #[], guard := none }, { dst := some 123, op := .move (.tmp 0), type := 0, pos := "", after := #[], guard := none }, { dst := some 124, op := .move (.tmp 0), type := 0, pos := "", after := #[], guard := none }, { dst := some 125, op := .move (.tmp 0), type := 0, pos := "", after := #[], guard := none }, { dst := some 126, op := .move (.tmp 0), type := 0, pos := "", after := #[], guard := none }, { dst := some 127, op := .move (.tmp 0), type := 0, pos := "", after := #[], guard := none }, { dst := some 128, op := .move (.tmp 0), type := 0, pos := "", after := #[], guard := none }, { dst := some 129, op := .move (.tmp 0), type := 0, pos := "", after := #[], guard := none }, { dst := some 130, op := .move (.tmp 0), type := 0, pos := "", after := #[], guard := none }, { dst := some 131, op := .move (.tmp 0), type := 0, pos := "", after := #[], guard := none }, { dst := some 132, op := .move (.tmp 0), type := 0, pos := "", after := #[], guard := none }, { dst := some 133, op := .move (.tmp 0), type := 0, pos := "", after := #[], guard := none }, { dst := some 134, op := .move (.tmp 0), type := 0, pos := "", after := #[], guard := none }, { dst := some 135, op := .move (.tmp 0), type := 0, pos := "", after := #[], guard := none }, { dst := some 136, op := .move (.tmp 0), type := 0, pos := "", after := #[], guard := none }, { dst := some 137, op := .move (.tmp 0), type := 0, pos := "", after := #[], guard := none }, { dst := some 138, op := .move (.tmp 0), type := 0, pos := "", after := #[], guard := none }, { dst := some 139, op := .move (.tmp 0), type := 0, pos := "", after := #[], guard := none }, { dst := some 140, op := .move (.tmp 0), type := 0, pos := "", after := #[], guard := none }, { dst := some 141, op := .move (.tmp 0), type := 0, pos := "", after := #[], guard := none }, { dst := some 142, op := .move (.tmp 0), type := 0, pos := "", after := #[], guard := none }, { dst := some 143, op := .move (.tmp 0), type := 0, pos := "", after := #[], guard := none }, { dst := some 144, op := .move (.tmp 0), type := 0, pos := "", after := #[], guard := none }, { dst := some 145, op := .move (.tmp 0), type := 0, pos := "", after := #[], guard := none }, { dst := some 146, op := .move (.tmp 0), type := 0, pos := "", after := #[], guard := none }, { dst := some 147, op := .move (.tmp 0), type := 0, pos := "", after := #[], guard := none }, { dst := some 148, op := .move (.tmp 0), type := 0, pos := "", after := #[], guard := none }, { dst := some 149, op := .move (.tmp 0), type := 0, pos := "", after := #[], guard := none }, { dst := some 150, op := .move (.tmp 0), type := 0, pos := "", after := #[], guard := none }, { dst := some 151, op := .move (.tmp 0), type := 0, pos := "", after := #[], guard := none }, { dst := some 152, op := .move (.tmp 0), type := 0, pos := "", after := #[], guard := none }, { dst := some 153, op := .move (.tmp 0), type := 0, pos := "", after := #[], guard := none }, { dst := some 154, op := .move (.tmp 0), type := 0, pos := "", after := #[], guard := none }, { dst := some 155, op := .move (.tmp 0), type := 0, pos := "", after := #[], guard := none }, { dst := some 156, op := .move (.tmp 0), type := 0, pos := "", after := #[], guard := none }, { dst := some 157, op := .move (.tmp 0), type := 0, pos := "", after := #[], guard := none }, { dst := some 158, op := .move (.tmp 0), type := 0, pos := "", after := #[], guard := none }, { dst := some 159, op := .move (.tmp 0), type := 0, pos := "", after := #[], guard := none }, { dst := some 160, op := .move (.tmp 0), type := 0, pos := "", after := #[], guard := none }, { dst := some 161, op := .move (.tmp 0), type := 0, pos := "", after := #[], guard := none }, { dst := some 162, op := .move (.tmp 0), type := 0, pos := "", after := #[], guard := none }, { dst := some 163, op := .move (.tmp 0), type := 0, pos := "", after := #[], guard := none }, { dst := some 164, op := .move (.tmp 0), type := 0, pos := "", after := #[], guard := none }, { dst := some 165, op := .move (.tmp 0), type := 0, pos := "", after := #[], guard := none }, { dst := some 166, op := .move (.tmp 0), type := 0, pos := "", after := #[], guard := none }, { dst := some 167, op := .move (.tmp 0), type := 0, pos := "", after := #[], guard := none }, { dst := some 168, op := .move (.tmp 0), type := 0, pos := "", after := #[], guard := none }, { dst := some 169, op := .move (.tmp 0), type := 0, pos := "", after := #[], guard := none }, { dst := some 170, op := .move (.tmp 0), type := 0, pos := "", after := #[], guard := none }, { dst := some 171, op := .move (.tmp 0), type := 0, pos := "", after := #[], guard := none }, { dst := some 172, op := .move (.tmp 0), type := 0, pos := "", after := #[], guard := none }, { dst := some 173, op := .move (.tmp 0), type := 0, pos := "", after := #[], guard := none }, { dst := some 174, op := .move (.tmp 0), type := 0, pos := "", after := #[], guard := none }, { dst := some 175, op := .move (.tmp 0), type := 0, pos := "", after := #[], guard := none }, { dst := some 176, op := .move (.tmp 0), type := 0, pos := "", after := #[], guard := none }, { dst := some 177, op := .move (.tmp 0), type := 0, pos := "", after := #[], guard := none }, { dst := some 178, op := .move (.tmp 0), type := 0, pos := "", after := #[], guard := none }, { dst := some 179, op := .move (.tmp 0), type := 0, pos := "", after := #[], guard := none }, { dst := some 180, op := .move (.tmp 0), type := 0, pos := "", after := #[], guard := none }, { dst := some 181, op := .move (.tmp 0), type := 0, pos := "", after := #[], guard := none }, { dst := some 182, op := .move (.tmp 0), type := 0, pos := "", after := #[], guard := none }, { dst := some 183, op := .move (.tmp 0), type := 0, pos := "", after := #[], guard := none }, { dst := some 184, op := .move (.tmp 0), type := 0, pos := "", after := #[], guard := none }, { dst := some 185, op := .move (.tmp 0), type := 0, pos := "", after := #[], guard := none }, { dst := some 186, op := .move (.tmp 0), type := 0, pos := "", after := #[], guard := none }, { dst := some 12, op := .move (.tmp 0), type := 0, pos := "", after := #[], guard := none }] = round14 := ⟨fun _ => round14, rfl⟩
  rw [← hRDf] at HRD ⊢
  have HRDF := hid hRDf
  clear hRDf
  simp only [test14, rest14, frontSeq, inBlk, inLp, sndSeq, Try.f14, Option.getD_some]
  go_wp2_with fail
  refine HBK.out.mono ?_
  rintro e w2 ⟨rfl, _, hb2, vsb, rb, rvb⟩
  dsimp only
  obtain ⟨xb, hxb⟩ : ∃ xb, xb = x.heap.size := ⟨_, rfl⟩
  rw [← hxb] at rb rvb hb2 ⊢
  have ch2 : Chg [] x w2 := Chg.of_below (hxb ▸ hb2)
  have cha : Chg [] w2 (w2.alloc (.cells (List.replicate m (Value.bool false)).toArray 4)) := (Chg.refl _ w2).alloc _
  have ch3 : Chg [] x (w2.alloc (.cells (List.replicate m (Value.bool false)).toArray 4)) := ch2.alloc _
  obtain ⟨rf, rp, rv, rn, hfn, hnb, hbx⟩ := HX.out
  have hfb := rf.lt
  have hpb := heap_lt rp
  have hnbl := rn.lt
  have hxl := heap_lt rb
  have hs2 := hb2.size
  have e0 := heap_alloc_new w2 (.cells (List.replicate m (Value.bool false)).toArray 4)
  have R0 := hid (show DocRel w B n m fb pb nb xb w2.heap.size (w2.heap.size + 1) vs vsb g c (.slice none 0 0) (w2.alloc (.cells (List.replicate m (Value.bool false)).toArray 4)) from
    ⟨[], ⟨rf.chg ch3 (by simp), rp.chg ch3 (by simp), rv.chg ch3 (by simp), rb.chg cha (by simp), rvb.chg cha (by simp), rn.chg ch3 (by simp), by
      unfold RowB
      rw [e0]
      have : (fun i => Value.bool (([] : List Nat).contains i)) = fun _ => Value.bool false := by funext i; simp
      rw [this, List.map_const']; simp, hfn, by omega, by omega, fun p hp b hb => by have := ((rv.row p hp).lt b hb).2; omega, fun i hi b hb => by have := ((rvb.row i hi).lt b hb).2; omega, by simp, by
      have := hbx.size
      omega, hbx.trans (ch3.below (by simp) hbx.size), World.ownsRow_nil _ _ _ _⟩, out_nil _ _ _⟩)
  simp only [List.toArray_replicate] at R0
  clear e0 hs2 hxl hnbl hpb hfb rf rp rv rn hfn hnb hbx ch3 cha ch2 rb rvb hb2 hxb
  go_wp2_with fail
  rename_i K hK
  have HK := hid hK
  clear hK hmk
  go_loopw [12] (fun ov y => DocRel w B n m fb pb nb xb w2.heap.size (w2.heap.size + 1) vs vsb g c ov y) (fun ov _ => m - lenOfV ov)
  case atStart => exact R0.out
  case round =>
    clear R0
    obtain ⟨P, T, O⟩ := hrel
    obtain ⟨oa, oc, rfl, _⟩ := ownsRow_view T.out
    obtain ⟨k0, hk0⟩ : ∃ k0, k0 = P.length := ⟨_, rfl⟩
    rw [← hk0]
    have HK0 := hid hk0
    have hkm : k0 ≤ m := by rw [hk0]; exact O.length
    have HO := hid O
    rw [← hk0] at T
    have HT := hid T
    clear T O hk0
    by_cases hgo : k0 < m
    · go_wp2_with fail
      refine HRD.out _ wr xb w2.heap.size (w2.heap.size + 1) k0 oc oa vsb P _ _ _ _ _ _ _ _ _ _ _ _ _ _ _ _ _ _ _ _ _ _ _ _ _ _ _ _ _ _ _ _ _ _ _ _ _ _ _ _ _ _ _ _ _ _ _ _ _ _ _ _ _ _ _ _ _ _ _ _ _ _ _ _ _ _ _ _ _ _ _ _ _ _ _ _ _ _ _ _ _ _ _ _ _ _ _ _ _ _ _ _ _ _ _ _ _ _ _ _ _ _ _ _ _ _ _ _ _ _ _ _ _ _ _ _ _ _ _ _ _ _ _ _ _ _ _ _ _ _ _ _ _ _ _ _ _ _ _ _ _ _ _ _ _ _ _ _ _ _ _ _ _ _ _ _ _ _ _ _ _ _ _ _ _ _ _ _ _ _ _ _ _ _ _ _ _ _ _ _ _ HN.out hn2 hmn HNUM.out HR.out HK0.out hgo HM.out HO.out HT.out (fun q oa2 oc2 y u13 u14 u15 u16 u17 u93 u94 u95 u96 u97 u98 u99 u100 u101 u102 u103 u104 u105 u106 u107 u108 u109 u110 u111 u112 u113 u114 u115 u116 u117 u118 u119 u120 u121 u122 u123 u124 u125 u126 u127 u128 u129 u130 u131 u132 u133 u134 u135 u136 u137 u138 u139 u140 u141 u142 u143 u144 u145 u146 u147 u148 u149 u150 u151 u152 u153 u154 u155 u156 u157 u158 u159 u160 u161 u162 u163 u164 u165 u166 u167 u168 u169 u170 u171 u172 u173 u174 u175 u176 u177 u178 u179 u180 u181 u182 u183 u184 u185 u186 T2 O2 => ?_)
      have RR := hid (show DocRel w B n m fb pb nb xb w2.heap.size (w2.heap.size + 1) vs vsb g c (.slice oa2 (k0 + 1) oc2) y from ⟨_, T2, O2⟩)
      clear T2 O2
      go_wp2_with fail
      go_roundw
      case rel => exact RR.out
      case measure => simp [lenOfV]; omega
    · have RR := hid (show PartsPost w g (.returned (.tuple #[.slice oa k0 oc, .int .i64 0])) wr from ⟨_, P.map (partOf g c), rfl, HNUM.out.parts HR.out HO.out (by have := HK0.out; omega), by
        have T := HT.out
        refine OutAt.rows (L := min B (w2.heap.size + 1)) (us := P.map vs) ⟨?_, fun k l hkl => ?_⟩ (fun l hl y hy => ?_)
        · rw [List.length_map, ← HK0.out]
          exact ownsRow_lower (HK0.out ▸ T.out) (Nat.min_le_right _ _)
        · rw [List.getElem?_map, Option.map_eq_some_iff] at hkl
          obtain ⟨p, hp, rfl⟩ := hkl
          exact ⟨vs p, by rw [List.getElem?_map, hp]; rfl, ownsRow_lower (T.rv.row p (HO.out.lt p (List.mem_of_getElem? hp))) (Nat.min_le_left _ _)⟩
        · obtain ⟨p, hp, rfl⟩ := List.mem_map.1 hl
          have := (mem_part.1 hy).1
          have := HN.out
          omega, HT.out.bel⟩)
      go_wp2_with fail
      refine HK.out _ _ ?_
      go_wp2_with fail
      go_ret2
      exact RR.out

end Go.Proofs.Ytagfgbmaibadjaa
