/- The document's own Parts: the scan for the one that is next. -/
import Derived.Test.YtagfgbmaibadjaaIsUpP
namespace Go.Proofs.Ytagfgbmaibadjaa
open Go.RowKit Go.Lib

def frontSeq : Code → Code
  | .seq a _ => a
  | c => c
def inBlk : Code → Code
  | .block _ c => c
  | c => c
def inLp : Code → Code
  | .loop c => c
  | c => c
/-- behind the tables' filling -/
noncomputable def rest14 : Code := sndSeq (sndSeq (sndSeq (sndSeq (sndSeq (sndSeq (Try.f14.body.getD .skip))))))
/-- the loop's round -/
noncomputable def round14 : Code := inBlk (sndSeq (inLp (inBlk (frontSeq (sndSeq (sndSeq (sndSeq rest14)))))))
noncomputable def scan14 : Code := frontSeq (sndSeq round14)
noncomputable def tail14 : Code := sndSeq (sndSeq round14)

def scanV (c : Nat → Nat) : Option Nat → Value
  | none => .int .i64 (-1)
  | some i => .int .i64 (c i : Int)
def ReadyAt (c nd : Nat → Nat) (f : Nat → Bool) (j : Nat) : Prop := f (c j) = false ∧ nd (c j) = 0
def ScanRel (D : World → Prop) (c nd : Nat → Nat) (f : Nat → Bool) (n : Nat) (nv iv : Value) (wr : World) : Prop :=
  ∃ (i : Nat) (o : Option Nat), iv = .int .i64 (i : Int) ∧ i ≤ n ∧ nv = scanV c o ∧ D wr ∧ (o = none → ∀ j, j < i → ¬ ReadyAt c nd f j) ∧ ∀ i0, o = some i0 → i0 < n ∧ ReadyAt c nd f i0 ∧ ∀ j, j < i0 → ¬ ReadyAt c nd f j

set_option maxRecDepth 20000 in
set_option maxHeartbeats 4000000 in
theorem doc_scan {x : World} {n m fb nb tb ec : Nat} {ao : Option Addr} {D : World → Prop} {c nd : Nat → Nat} {f : Nat → Bool} {Q : Exit → Act → World → Prop} (v1 v2 v3 v5 v6 v8 v9 v10 v12 v14 v15 v16 v17 v18 v19 v20 v21 v22 v23 v24 v25 v26 v27 v28 v29 v30 v31 v32 v33 v34 v35 v36 v37 v38 v39 v40 v41 v42 v43 v44 v45 v46 v47 v48 v49 v50 v51 v52 v53 v54 v55 v56 v57 v58 v59 v60 v61 v62 v63 v64 v65 v66 v67 v68 v69 v70 v71 v72 v73 v74 v75 v76 v77 v78 v79 v80 v81 v82 v83 v84 v85 v86 v87 v88 v89 v90 v91 v92 v93 v94 v95 v96 v97 v98 v99 v100 v101 v102 v103 v104 v105 v106 v107 v108 v109 v110 v111 v112 v113 v114 v115 v116 v117 v118 v119 v120 v121 v122 v123 v124 v125 v126 v127 v128 v129 v130 v131 v132 v133 v134 v135 v136 v137 v138 v139 v140 v141 v142 v143 v144 v145 v146 v147 v148 v149 v150 v151 v152 v153 v154 v155 v156 v157 v158 v159 v160 v161 v162 v163 v164 v165 v166 v167 v168 v169 v170 v171 v172 v173 v174 v175 v176 v177 v178 v179 v180 v181 v182 v183 v184 v185 v186 v187 : Value) (hn2 : n ≤ 2000) (_hm : m ≤ n)
    (hD : ∀ y, D y → RowF y fb n (fun i => (c i : Int)) ∧ RowF y nb m (fun q => (nd q : Int)) ∧ RowB y tb m f) (hx : D x) (hc : ∀ i, i < n → c i < m) (hnd : ∀ q, nd q ≤ 1000000000) (hex : ∃ i, i < n ∧ ReadyAt c nd f i)
    (hend : ∀ (i0 : Nat) (y : World) (u14 u93 u94 u95 u96 u97 u98 u99 u100 u101 u102 u103 u104 u105 u106 u107 u108 u109 u110 u111 u112 u113 u114 u115 u116 u117 u118 u119 u120 u121 u122 u123 u124 : Value), D y → i0 < n → ReadyAt c nd f i0 → (∀ j, j < i0 → ¬ ReadyAt c nd f j) → Q .normal { tmps := #[.slice ao n ec, v1, v2, v3, .slice (some ⟨fb, 0, none⟩) n n, v5, v6, .slice (some ⟨nb, 0, none⟩) m m, v8, v9, v10, .slice (some ⟨tb, 0, none⟩) m m, v12, .int .i64 (c i0 : Int), u14, v15, v16, v17, v18, v19, v20, v21, v22, v23, v24, v25, v26, v27, v28, v29, v30, v31, v32, v33, v34, v35, v36, v37, v38, v39, v40, v41, v42, v43, v44, v45, v46, v47, v48, v49, v50, v51, v52, v53, v54, v55, v56, v57, v58, v59, v60, v61, v62, v63, v64, v65, v66, v67, v68, v69, v70, v71, v72, v73, v74, v75, v76, v77, v78, v79, v80, v81, v82, v83, v84, v85, v86, v87, v88, v89, v90, v91, v92, u93, u94, u95, u96, u97, u98, u99, u100, u101, u102, u103, u104, u105, u106, u107, u108, u109, u110, u111, u112, u113, u114, u115, u116, u117, u118, u119, u120, u121, u122, u123, u124, v125, v126, v127, v128, v129, v130, v131, v132, v133, v134, v135, v136, v137, v138, v139, v140, v141, v142, v143, v144, v145, v146, v147, v148, v149, v150, v151, v152, v153, v154, v155, v156, v157, v158, v159, v160, v161, v162, v163, v164, v165, v166, v167, v168, v169, v170, v171, v172, v173, v174, v175, v176, v177, v178, v179, v180, v181, v182, v183, v184, v185, v186, v187], defers := [] } y) :
    Code.wp Try.prog scan14 Q { tmps := #[.slice ao n ec, v1, v2, v3, .slice (some ⟨fb, 0, none⟩) n n, v5, v6, .slice (some ⟨nb, 0, none⟩) m m, v8, v9, v10, .slice (some ⟨tb, 0, none⟩) m m, v12, .int .i64 (-1), v14, v15, v16, v17, v18, v19, v20, v21, v22, v23, v24, v25, v26, v27, v28, v29, v30, v31, v32, v33, v34, v35, v36, v37, v38, v39, v40, v41, v42, v43, v44, v45, v46, v47, v48, v49, v50, v51, v52, v53, v54, v55, v56, v57, v58, v59, v60, v61, v62, v63, v64, v65, v66, v67, v68, v69, v70, v71, v72, v73, v74, v75, v76, v77, v78, v79, v80, v81, v82, v83, v84, v85, v86, v87, v88, v89, v90, v91, v92, v93, v94, v95, v96, v97, v98, v99, v100, v101, v102, v103, v104, v105, v106, v107, v108, v109, v110, v111, v112, v113, v114, v115, v116, v117, v118, v119, v120, v121, v122, v123, v124, v125, v126, v127, v128, v129, v130, v131, v132, v133, v134, v135, v136, v137, v138, v139, v140, v141, v142, v143, v144, v145, v146, v147, v148, v149, v150, v151, v152, v153, v154, v155, v156, v157, v158, v159, v160, v161, v162, v163, v164, v165, v166, v167, v168, v169, v170, v171, v172, v173, v174, v175, v176, v177, v178, v179, v180, v181, v182, v183, v184, v185, v186, v187], defers := [] } x := by
  have HE := hid hend
  have HD := hid hD
  have HC := hid hc
  have HEX := hid hex
  have HND := hid hnd
  have R0 := hid (show ScanRel D c nd f n (.int .i64 (-1)) (.int .i64 0) x from ⟨0, none, rfl, by omega, rfl, hx, fun _ j hj => by omega, fun i0 h => by simp at h⟩)
  clear hend hD hx hc hex hnd
  simp only [scan14, round14, rest14, frontSeq, inBlk, inLp, sndSeq, Try.f14, Option.getD_some]
  go_wp2_with fail
  go_loopw [13, 14] (fun nv iv y => ScanRel D c nd f n nv iv y) (fun _ iv _ => n - (intOf iv).toNat)
  case atStart => exact R0.out
  case round =>
    clear R0
    obtain ⟨i, o, rfl, hi, rfl, hd, ho, hs⟩ := hrel
    have HDW := hid hd
    have HO := hid ho
    have HS := hid hs
    cases o with
    | some i0 =>
      have hneg : ¬ ((c i0 : Int) < 0) := by omega
      clear hd ho hs
      simp only [scanV]
      by_cases hgo : i < n
      · go_wp2_with fail
        refine HE.out i0 wr _ _ _ _ _ _ _ _ _ _ _ _ _ _ _ _ _ _ _ _ _ _ _ _ _ _ _ _ _ _ _ _ _ HDW.out (HS.out i0 rfl).1 (HS.out i0 rfl).2.1 (HS.out i0 rfl).2.2
      · go_wp2_with fail
        refine HE.out i0 wr _ _ _ _ _ _ _ _ _ _ _ _ _ _ _ _ _ _ _ _ _ _ _ _ _ _ _ _ _ _ _ _ _ HDW.out (HS.out i0 rfl).1 (HS.out i0 rfl).2.1 (HS.out i0 rfl).2.2
    | none =>
      simp only [scanV]
      by_cases hgo : i < n
      · obtain ⟨f1, f2, f3⟩ := HD.out wr hd
        have hcm := HC.out i hgo
        have g1 := f1.get hgo
        have g2 := f2.get hcm
        have g3 := f3.get hcm
        have hb1 := HND.out (c i)
        obtain ⟨ci, hci⟩ : ∃ ci, ci = c i := ⟨_, rfl⟩
        rw [← hci] at g1 g2 g3 hcm hb1
        have HCI := hid hci
        clear f1 f2 f3 hd ho hs hci
        cases hf : f ci with
        | true =>
          rw [hf] at g3
          have RR := hid (show ScanRel D c nd f n (.int .i64 (-1)) (.int .i64 ((i : Int) + 1)) wr from ⟨i + 1, none, by simp, by omega, rfl, HDW.out, fun _ j hj => by
            by_cases e : j = i
            · rw [e]
              intro h
              have := h.1
              rw [← HCI.out, hf] at this
              cases this
            · exact HO.out rfl j (by omega), fun i0 h => by simp at h⟩)
          clear hf
          go_wp2_with fail
          go_roundw
          case rel => exact RR.out
          case measure => simp [intOf]; omega
        | false =>
          rw [hf] at g3
          obtain ⟨k, hk⟩ : ∃ k, k = nd ci := ⟨_, rfl⟩
          rw [← hk] at g2 hb1
          have HK := hid hk
          have HF := hid hf
          clear hf hk
          cases k with
          | zero =>
            have RR := hid (show ScanRel D c nd f n (.int .i64 (ci : Int)) (.int .i64 ((i : Int) + 1)) wr from ⟨i + 1, some i, by simp, by omega, by rw [HCI.out]; rfl, HDW.out, fun h => by simp at h, fun i0 h => by
              have := Option.some.inj h
              subst this
              exact ⟨hgo, ⟨by rw [← HCI.out]; exact HF.out, by rw [← HCI.out]; exact HK.out.symm⟩, HO.out rfl⟩⟩)
            have g2' : wr.cell? ⟨nb, ci, none⟩ = some (.int .i64 0) := g2
            clear g2
            go_wp2_with fail
            go_roundw
            case rel => exact RR.out
            case measure => simp [intOf]; omega
          | succ k =>
            have RR := hid (show ScanRel D c nd f n (.int .i64 (-1)) (.int .i64 ((i : Int) + 1)) wr from ⟨i + 1, none, by simp, by omega, rfl, HDW.out, fun _ j hj => by
              by_cases e : j = i
              · rw [e]
                intro h
                have h1 := h.2
                have h2 := HK.out
                rw [HCI.out] at h2
                omega
              · exact HO.out rfl j (by omega), fun i0 h => by simp at h⟩)
            have hz : ¬ (((k + 1 : Nat) : Int) = 0) := by omega
            go_wp2_with fail
            go_roundw
            case rel => exact RR.out
            case measure => simp [intOf]; omega
      · obtain ⟨i0, h1, h2⟩ := HEX.out
        exact absurd h2 (HO.out rfl i0 (by omega))

end Go.Proofs.Ytagfgbmaibadjaa
