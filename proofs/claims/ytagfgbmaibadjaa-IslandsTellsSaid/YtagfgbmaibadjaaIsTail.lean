/- islands.Parts behind the making of its walker: the loop over the nodes. -/
import Derived.Test.YtagfgbmaibadjaaIsMake
import Derived.Test.YtagfgbmaibadjaaIsWalk
namespace Go.Proofs.Ytagfgbmaibadjaa
open Go.RowKit Go.Lib

/-- the loop over the nodes -/
def NodeRel (w : World) (B wb : Nat) (ev : Value) (n bw bl bo : Nat) (g : Gr) (kv : Value) (wr : World) : Prop :=
  ∃ (k : Nat) (ov : Value) (s : St), kv = .int .i64 (k : Int) ∧ k ≤ n ∧ WAt wr B wb ev n bw bl bo ov s ∧ Inv g s [] ∧ Cnt g s [] ∧ (∀ i, i < k → 0 < s.wn i) ∧ Below B w wr

set_option maxRecDepth 20000 in
set_option maxHeartbeats 4000000 in
theorem parts_tail {w x : World} {B wb n bw bl bo ec M : Nat} {ao : Option Addr} {g : Gr} (v1 v2 v3 v6 v7 v8 v9 v10 v11 v12 v13 v14 v15 v16 v17 v18 v19 v20 v21 v22 v23 v24 v25 v26 v27 v28 v29 v30 v31 v32 v33 v34 v35 v36 v37 v38 v39 v40 v41 v42 v43 v44 v45 v46 v47 v48 v49 v50 v51 v52 v53 v54 v55 v56 v57 v58 v59 v60 v61 v62 v63 v64 v65 v66 v67 v68 v69 v70 v71 v72 v73 v74 v75 v76 v77 v78 v79 v80 v81 v82 v83 v84 v85 v86 v87 v88 v89 v90 v91 v92 v93 v94 v95 v96 v97 v98 v99 v100 v101 v102 v103 v104 v105 v106 v107 v108 v109 v110 v111 v112 v113 v114 v115 v116 v117 v118 v119 v120 v121 v122 v123 v124 v125 v126 v127 v128 v129 v130 v131 v132 v133 v134 v135 v136 v137 v138 v139 v140 v141 v142 v143 v144 v145 v146 v147 v148 v149 v150 v151 v152 v153 v154 v155 v156 v157 v158 v159 v160 v161 v162 v163 v164 v165 v166 v167 v168 v169 v170 v171 v172 v173 v174 v175 v176 v177 v178 v179 v180 v181 v182 v183 v184 : Value) (hn : n = g.length) (hn2 : n ≤ 2000) (R : RightG g) (hB : w.heap.size = B) (hM : ∀ k, (edges g k).length ≤ M) (hM2 : (n + 1) * M ≤ 1000000)
    (hG : RowsIn w (.slice ao n ec) (castG g)) (A : WAt x B wb (.slice ao n ec) n bw bl bo (.slice none 0 0) start) (hb : Below B w x) :
    Code.wp Try.prog rest13 (bodyPost Try.prog Try.f13 (PartsPost w g)) { tmps := #[.slice ao n ec, v1, v2, v3, .int .i64 (n : Int), .pointer (some ⟨wb, 0, none⟩), v6, v7, v8, v9, v10, v11, v12, v13, v14, v15, v16, v17, v18, v19, v20, v21, v22, v23, v24, v25, v26, v27, v28, v29, v30, v31, v32, v33, v34, v35, v36, v37, v38, v39, v40, v41, v42, v43, v44, v45, v46, v47, v48, v49, v50, v51, v52, v53, v54, v55, v56, v57, v58, v59, v60, v61, v62, v63, v64, v65, v66, v67, v68, v69, v70, v71, v72, v73, v74, v75, v76, v77, v78, v79, v80, v81, v82, v83, v84, v85, v86, v87, v88, v89, v90, v91, v92, v93, v94, v95, v96, v97, v98, v99, v100, v101, v102, v103, v104, v105, v106, v107, v108, v109, v110, v111, v112, v113, v114, v115, v116, v117, v118, v119, v120, v121, v122, v123, v124, v125, v126, v127, v128, v129, v130, v131, v132, v133, v134, v135, v136, v137, v138, v139, v140, v141, v142, v143, v144, v145, v146, v147, v148, v149, v150, v151, v152, v153, v154, v155, v156, v157, v158, v159, v160, v161, v162, v163, v164, v165, v166, v167, v168, v169, v170, v171, v172, v173, v174, v175, v176, v177, v178, v179, v180, v181, v182, v183, v184], defers := [] } x := by
  have HN := hid hn
  have HR := hid R
  have HG := hid hG
  have HA := hid A
  have HB := hid hB
  have HM := hid hM
  have HM2 := hid hM2
  have HBX := hid hb
  clear hn R hG A hB hb hM hM2
  simp only [rest13, sndSeq, Try.f13, Option.getD_some]
  go_wp2_with fail
  rename_i K hK
  have HK := hid hK
  clear hK
  go_loopw [38] (fun kv wr => NodeRel w B wb (.slice ao n ec) n bw bl bo g kv wr) (fun kv _ => n - (intOf kv).toNat)
  case atStart => exact ⟨0, _, _, rfl, by omega, HA.out, inv_start g, cnt_start g, by simp, HBX.out⟩
  case round =>
    obtain ⟨k, ov, s, rfl, hk, A, I, C, hmet, hbr⟩ := hrel
    have d1 := cell_of (i := 1) A.hd rfl
    have HA1 := hid A
    have HI := hid I
    have HC := hid C
    have HM1 := hid hmet
    have HBR := hid hbr
    by_cases hgo : k < n
    · obtain ⟨eb, eo, rfl⟩ := rows_at HG.out HN.out hgo
      have g1 := A.rw.get hgo
      clear A I C hmet hbr
      by_cases h0 : s.wn k = 0
      · have g1' : wr.cell? ⟨bw, k, none⟩ = some (.int .i64 0) := by rw [g1]; simp [natI, h0]
        have HW := hid (walk_any HA1.out HN.out hn2 HR.out HI.out HC.out hgo h0 (fun y hy => HG.out.below (HB.out ▸ HBR.out.trans hy)))
        clear g1 h0
        go_wp2_with fail
        refine HW.out.mono ?_
        rintro e w2 ⟨rfl, ov2, s2, A2, ch2, I2, C2, m1, m2⟩
        have RR := hid (show NodeRel w B wb (.slice (some ⟨eb, eo, none⟩) n ec) n bw bl bo g (.int .i64 ((k : Int) + 1)) w2 from
          ⟨k + 1, ov2, s2, by simp, by omega, A2, I2, C2, fun i hi => by
            by_cases e : i = k
            · subst e; exact m2
            · exact m1 i (HM1.out i (by omega)), HBR.out.trans (ch2.1.below HA1.out.blocks (by have := HA1.out.b0; have := heap_lt HA1.out.hd; omega))⟩)
        clear A2 ch2 I2 C2 m1 m2
        go_wp2_with fail
        go_roundw
        case rel => exact RR.out
        case measure => simp [intOf]; omega
      · obtain ⟨y, hy⟩ : ∃ y, y = s.wn k := ⟨_, rfl⟩
        have g1' : wr.cell? ⟨bw, k, none⟩ = some (.int .i64 (y : Int)) := by rw [g1, hy]; rfl
        have hy0 : 0 < y := by omega
        have HY := hid hy
        clear g1 h0 hy
        go_wp2_with fail
        go_roundw
        case rel => exact ⟨k + 1, ov, s, by simp, by omega, HA1.out, HI.out, HC.out, fun i hi => by
          by_cases e : i = k
          · subst e; rw [← HY.out]; exact hy0
          · exact HM1.out i (by omega), HBR.out⟩
        case measure => simp [intOf]; omega
    · obtain rfl : k = n := by omega
      obtain ⟨NUM, hisl⟩ := num_of HR.out HI.out (fun i hi => HM1.out i (HN.out ▸ hi))
      obtain ⟨cf, hcf⟩ : ∃ cf : Nat → Nat, cf = fun i => (s.isl i).getD 0 := ⟨_, rfl⟩
      rw [← hcf] at NUM
      obtain ⟨m, hm⟩ : ∃ m, m = s.many := ⟨_, rfl⟩
      rw [← hm] at NUM
      have hm2 : m ≤ 2000 := by have := C.many; have := C.le; have := HN.out; omega
      have HNUM := hid NUM
      have HMM := hid hm
      have hci := hid (show ∀ i, i < k → islI s.isl i = (cf i : Int) from fun i hi => by
        unfold islI
        have h := hisl i (HN.out ▸ hi)
        rw [h, hcf])
      clear A I C hmet hbr d1 NUM hisl hcf hm
      go_wp2_with fail
      refine HK.out _ _ ?_
      have HP := @parts_mk w wr B wb k bw bl bo m (.slice ao k ec) ov s rest13t (bodyPost Try.prog Try.f13 (PartsPost w g))
      refine HP _ _ _ _ _ _ _ _ _ _ _ _ _ _ _ _ _ _ _ _ _ _ _ _ _ _ _ _ _ _ _ _ _ _ _ _ _ _ _ _ _ _ _ _ _ _ _ _ _ _ _ _ _ _ _ _ _ _ _ _ _ _ _ _ _ _ _ _ _ _ _ _ _ _ _ _ _ _ _ _ _ _ _ _ _ _ _ _ _ _ _ _ _ _ _ _ _ _ _ _ _ _ _ _ _ _ _ _ _ _ _ _ _ _ _ _ _ _ _ _ _ _ _ _ _ _ _ _ _ _ _ _ _ _ _ _ _ _ _ _ _ _ _ _ _ _ _ _ _ _ _ _ _ _ _ _ _ _ _ _ _ _ _ _ _ _ _ _ _ _ _ _ _ _ _ _ _ _ _ _ _ _ _ HA1.out HMM.out hm2 HBR.out ?_
      intro pbx pr nbx nr rr y v1 v2 v3 v4 v6 v10 v11 v12 v13 v14 v15 v16 v17 v18 v19 v20 v21 v22 v23 v24 v25 v26 v27 v28 v29 v30 v31 v32 v33 v34 v35 v36 v37 v38 v39 v40 v41 v42 v43 v44 v45 v46 v47 v48 v49 v50 v51 v52 v53 v54 v55 v56 v57 v58 v59 v60 v61 v62 v63 v64 v65 v66 v67 v68 v69 v70 v71 v72 v73 v74 v75 v76 v77 v78 v79 v80 v81 v82 v83 v84 v85 v86 v87 v88 v89 v90 v91 v92 v93 v94 v95 v96 v97 v98 v99 v100 v101 v102 v103 v104 v105 v106 v107 v108 v109 v110 v111 v112 v113 v114 v115 v116 v117 v118 v119 v120 v121 v122 v123 v124 v125 v126 v127 v128 v129 v130 v131 v132 v133 v134 v135 v136 v137 v138 v139 v140 v141 v142 v143 v144 v145 v146 v147 v148 v149 v150 v151 v152 v153 v154 v155 v156 v157 v158 v159 v160 v161 v162 v163 v164 v165 v166 v167 v168 v169 v170 v171 v172 v173 v174 v175 v176 v177 v178 v179 v180 v181 v182 v183 v184 T hby
      exact parts_tab _ _ _ _ _ _ _ _ _ _ _ _ _ _ _ _ _ _ _ _ _ _ _ _ _ _ _ _ _ _ _ _ _ _ _ _ _ _ _ _ _ _ _ _ _ _ _ _ _ _ _ _ _ _ _ _ _ _ _ _ _ _ _ _ _ _ _ _ _ _ _ _ _ _ _ _ _ _ _ _ _ _ _ _ _ _ _ _ _ _ _ _ _ _ _ _ _ _ _ _ _ _ _ _ _ _ _ _ _ _ _ _ _ _ _ _ _ _ _ _ _ _ _ _ _ _ _ _ _ _ _ _ _ _ _ _ _ _ _ _ _ _ _ _ _ _ _ _ _ _ _ _ _ _ _ _ _ _ _ _ _ _ _ _ _ _ _ _ _ _ _ _ _ _ _ _ _ _ _ _ HN.out hn2 hm2 HB.out HR.out hci.out HNUM.out HM.out HM2.out HG.out T hby

end Go.Proofs.Ytagfgbmaibadjaa
