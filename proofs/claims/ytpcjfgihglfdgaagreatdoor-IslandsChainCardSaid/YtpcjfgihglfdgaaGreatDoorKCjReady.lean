/- islands.Parts: the heap is made, each island is asked whether it may be next. -/
import Derived.Test.YtpcjfgihglfdgaaGreatDoorKCjLastP

namespace Go.Proofs.YtpcjfgihglfdgaaGreatDoor.Isl
open Go.RowKit Go.Lib

def ReadyRel (w : World) (B wb : Nat) (ev : Value) (n bw bl bo : Nat) (g : Gr) (cf : Nat → Nat) (ov : Value) (s : St) (m pbx pr nbx nr rr hb : Nat) (vs : Nat → Value) (L : Nat) (pv : Value) (x : World) : Prop :=
  ∃ (p h : Nat), pv = .int .i64 (p : Int) ∧ p ≤ m ∧ LastAt w x B wb ev n bw bl bo g cf ov s m pbx pr nbx nr rr hb vs (wants (pairs g cf) []) h (fun v => ∃ q, q < p ∧ wants (pairs g cf) [] q = 0 ∧ v = fstOf g cf q) L (.slice none 0 0) [] []

/-- the heap's cells, as they begin -/
def zeros : List Value := ((List.range 2000).map fun _ => Value.int .i64 0) ++ [Value.int .i64 0]
theorem infoT50 : (Tryz.prog.info? 91).map (fun i => i.zero) = some (some (.agg zeros.toArray)) := by kernel_rfl
theorem zero50 (x : World) : (zeroValue 91).run Tryz.prog x = .ok (.agg zeros.toArray) x := by
  obtain ⟨i, h1, h2⟩ : ∃ i, Tryz.prog.info? 91 = some i ∧ i.zero = some (.agg zeros.toArray) := by
    have h := infoT50
    cases hi : Tryz.prog.info? 91 with
    | none => rw [hi] at h; simp at h
    | some i => rw [hi] at h; simp at h; exact ⟨i, rfl, h⟩
  unfold zeroValue typeInfo
  simp [h1, h2]

theorem heap_new {x y : World} {B wb n bw bl bo m pbx pr nbx nr rr : Nat} {w : World} {ev ov : Value} {g : Gr} {cf : Nat → Nat} {s : St} {vs : Nat → Value} {nd : Nat → Nat}
    (T : Tab x B wb ev n bw bl bo ov s m pbx pr nbx nr rr vs (tabXs m (partOf g cf) (pairs g cf)) nd) (hb : Below B w x) (hy : y = x.alloc (.cells zeros.toArray 91)) :
    LastAt w y B wb ev n bw bl bo g cf ov s m pbx pr nbx nr rr x.heap.size vs nd 0 (fun v => ∃ q, q < 0 ∧ nd q = 0 ∧ v = fstOf g cf q) (x.heap.size + 1) (.slice none 0 0) [] [] := by
  subst hy
  have c := (Chg.refl [] x).alloc (.cells zeros.toArray 91)
  have hs := T.size
  refine ⟨T.keep c (by simp) (T.rows.chg c (by simp)) (T.rp.chg c (by simp)) (T.rq.chg c (by simp)), ⟨fun _ => 0, heap_alloc_new x _, ⟨fun i j hi => by omega, fun v => ?_⟩, fun j h0 hj => by omega⟩, out_start _ _, hs, ?_, by omega, by simp, hb.trans (c.below (by simp) hs)⟩
  · constructor
    · rintro ⟨q, hq, _⟩; omega
    · rintro ⟨i, hi, _⟩; omega
  · have h1 := heap_lt T.hpb
    have h2 := heap_lt T.rp
    have h3 := heap_lt T.hnb
    have h4 := heap_lt T.rn
    have h5 := heap_lt T.rq
    have h6 := T.low
    rintro b (hm | hm | ⟨i, hi, hm⟩)
    · simp only [List.mem_cons, List.not_mem_nil, or_false] at hm
      rcases hm with rfl | rfl | rfl | rfl | rfl | rfl | rfl | rfl | rfl | rfl
      · omega
      · omega
      · omega
      · omega
      · omega
      · have := h6 b (by simp); omega
      · have := h6 b (by simp); omega
      · have := h6 b (by simp); omega
      · have := h6 b (by simp); omega
      · omega
    · have := h6 b (by simp [hm]); omega
    · simp only [own, Option.mem_toList] at hm
      have := ((T.rows.row i hi).lt b hm).2
      omega

set_option maxRecDepth 20000 in
set_option maxHeartbeats 4000000 in
theorem parts_ready {w x : World} {B wb n bw bl bo : Nat} {ev ov : Value} {g : Gr} {cf : Nat → Nat} {s : St} {m pbx pr nbx nr rr : Nat} {vs : Nat → Value} (v0 v1 v2 v3 v4 v6 v10 v11 v12 v13 v14 v15 v16 v17 v18 v19 v20 v21 v22 v23 v24 v25 v26 v27 v28 v29 v30 v31 v32 v33 v34 v35 v36 v37 v38 v39 v40 v41 v42 v43 v44 v45 v46 v47 v48 v49 v50 v51 v52 v53 v54 v55 v56 v57 v58 v59 v60 v61 v62 v63 v64 v65 v66 v67 v68 v69 v70 v71 v72 v73 v74 v75 v76 v77 v78 v79 v80 v81 v82 v83 v84 v85 v86 v87 v88 v89 v90 v91 v92 v93 v94 v95 v96 v97 v98 v99 v100 v101 v102 v103 v104 v105 v106 v107 v108 v109 v110 v111 v112 v113 v114 v115 v116 v117 v118 v119 v120 v121 v122 v123 v124 v125 v126 v127 v128 v129 v130 v131 v132 v133 v134 v135 v136 v137 v138 v139 v140 v141 v142 v143 v144 v145 v146 v147 v148 v149 v150 v151 v152 v153 v154 v155 v156 v157 v158 v159 v160 v161 v162 v163 v164 v165 v166 v167 v168 v169 v170 v171 v172 v173 v174 v175 v176 v177 v178 v179 v180 v181 v182 v183 v184 : Value)
    (hn : n = g.length) (hn2 : n ≤ 2000) (hm : m ≤ 2000) (hB : w.heap.size = B) (R : RightG g) (hcf : ∀ i, i < n → islI s.isl i = (cf i : Int)) (N : Num g cf m) (hM : (pairs g cf).length ≤ 1000000)
    (T : Tab x B wb ev n bw bl bo ov s m pbx pr nbx nr rr vs (tabXs m (partOf g cf) (pairs g cf)) (wants (pairs g cf) [])) (hb : Below B w x) :
    Code.wp Tryz.prog rest13h (bodyPost Tryz.prog Tryz.f7 (PartsPost w g)) { tmps := #[v0, v1, v2, v3, v4, .pointer (some ⟨wb, 0, none⟩), v6, .pointer (some ⟨pbx, 0, none⟩), .pointer (some ⟨nbx, 0, none⟩), .slice (some ⟨rr, 0, none⟩) m m, v10, v11, v12, v13, v14, v15, v16, v17, v18, v19, v20, v21, v22, v23, v24, v25, v26, v27, v28, v29, v30, v31, v32, v33, v34, v35, v36, v37, v38, v39, v40, v41, v42, v43, v44, v45, v46, v47, v48, v49, v50, v51, v52, v53, v54, v55, v56, v57, v58, v59, v60, v61, v62, v63, v64, v65, v66, v67, v68, v69, v70, v71, v72, v73, v74, v75, v76, v77, v78, v79, v80, v81, v82, v83, v84, v85, v86, v87, v88, v89, v90, v91, v92, v93, v94, v95, v96, v97, v98, v99, v100, v101, v102, v103, v104, v105, v106, v107, v108, v109, v110, v111, v112, v113, v114, v115, v116, v117, v118, v119, v120, v121, v122, v123, v124, v125, v126, v127, v128, v129, v130, v131, v132, v133, v134, v135, v136, v137, v138, v139, v140, v141, v142, v143, v144, v145, v146, v147, v148, v149, v150, v151, v152, v153, v154, v155, v156, v157, v158, v159, v160, v161, v162, v163, v164, v165, v166, v167, v168, v169, v170, v171, v172, v173, v174, v175, v176, v177, v178, v179, v180, v181, v182, v183, v184], defers := [] } x := by
  have HN := hid hn
  have HR := hid R
  have HB := hid hB
  have HNUM := hid N
  have HCF := hid hcf
  have HM := hid hM
  obtain ⟨y, hy⟩ : ∃ y, y = x.alloc (.cells zeros.toArray 91) := ⟨_, rfl⟩
  have A := heap_new T hb hy
  have HA := hid A
  obtain ⟨hq, hhq⟩ : ∃ hq, hq = x.heap.size := ⟨_, rfl⟩
  have pb1 := cell_of (i := 0) A.tab.hpb rfl
  have hal : (x.alloc (.cells zeros.toArray 91)) = y := hy.symm
  clear hn R T hB N hcf hM hb A hy
  have hmf : ∀ (fn : Fn) (first cap : Array Value) (x : World), (Instr.makeFunc fn first cap).run Tryz.prog x = .ok (.func fn first cap) x := fun _ _ _ _ => rfl
  have hz := zero50 x
  simp only [rest13h, rest13t, rest13, sndSeq, Tryz.f7, Option.getD_some]
  go_wp2_with fail
  rename_i K hK
  have HK := hid hK
  have HA2 := HA.out
  rw [← hhq] at HA2 ⊢
  obtain ⟨L, hL⟩ : ∃ L, L = hq + 1 := ⟨_, rfl⟩
  rw [← hL] at HA2
  have HA := hid HA2
  clear hK hhq hz hal HA2 hL pb1
  go_loopw [140] (fun pv y => ReadyRel w B wb ev n bw bl bo g cf ov s m pbx pr nbx nr rr hq vs L pv y) (fun pv _ => m - (intOf pv).toNat)
  case atStart => exact ⟨0, 0, rfl, by omega, HA.out⟩
  case round =>
    clear HA
    obtain ⟨p, h, rfl, hp, A⟩ := hrel
    have HA := hid A
    by_cases hpm : p < m
    · have HML := hid (may_last A HNUM.out HN.out hn2 hm hpm (by
        rintro v ⟨q', hq', _, rfl⟩
        have := (HNUM.out.fst (show q' < m by omega)).1
        have := HN.out
        omega) (by
        rintro _ ⟨q', hq', _, h4⟩
        have := HNUM.out.fst_inj hpm (show q' < m by omega) h4
        omega) (by
        have := wants_le (pairs g cf) [] p
        have := HM.out
        omega))
      have fin := hid (fun (x' : World) (h2 : Nat) (A7 : LastAt w x' B wb ev n bw bl bo g cf ov s m pbx pr nbx nr rr hq vs (wants (pairs g cf) []) h2 (fun v => (wants (pairs g cf) [] p = 0 ∧ v = fstOf g cf p) ∨ ∃ q, q < p ∧ wants (pairs g cf) [] q = 0 ∧ v = fstOf g cf q) L (.slice none 0 0) [] []) =>
        (show ReadyRel w B wb ev n bw bl bo g cf ov s m pbx pr nbx nr rr hq vs L (.int .i64 ((p : Int) + 1)) x' from
          ⟨p + 1, h2, by simp, by omega, A7.heapStep (Chg.refl _ _) (A7.heap.alike (fun v => by
            constructor
            · rintro (⟨h1, rfl⟩ | ⟨q', b1, b2, rfl⟩)
              · exact ⟨p, by omega, h1, rfl⟩
              · exact ⟨q', by omega, b2, rfl⟩
            · rintro ⟨q', b1, b2, rfl⟩
              by_cases e : q' = p
              · subst e
                exact .inl ⟨b2, rfl⟩
              · exact .inr ⟨q', by omega, b2, rfl⟩))⟩))
      clear A
      go_wp2_with fail
      refine HML.out.mono ?_
      rintro e x' ⟨rfl, h2, A7⟩
      have RR := hid (fin.out x' h2 A7)
      clear A7 fin HML
      go_wp2_with fail
      go_roundw
      case rel => exact RR.out
      case measure => simp [intOf]; omega
    · obtain rfl : p = m := by omega
      clear A
      go_wp2_with fail
      refine HK.out _ _ ?_
      have HP := @parts_last w wr B wb n bw bl bo ev ov g cf s p pbx pr nbx nr rr hq vs h L
      simp only [rest13c, rest13h, rest13t, rest13, sndSeq, Tryz.f7, Option.getD_some] at HP
      refine HP _ _ _ _ _ _ _ _ _ _ _ _ _ _ _ _ _ _ _ _ _ _ _ _ _ _ _ _ _ _ _ _ _ _ _ _ _ _ _ _ _ _ _ _ _ _ _ _ _ _ _ _ _ _ _ _ _ _ _ _ _ _ _ _ _ _ _ _ _ _ _ _ _ _ _ _ _ _ _ _ _ _ _ _ _ _ _ _ _ _ _ _ _ _ _ _ _ _ _ _ _ _ _ _ _ _ _ _ _ _ _ _ _ _ _ _ _ _ _ _ _ _ _ _ _ _ _ _ _ _ _ _ _ _ _ _ _ _ _ _ _ _ _ _ _ _ _ _ _ _ _ _ _ _ _ _ _ _ _ _ _ _ _ _ _ _ _ _ _ _ _ _ _ _ _ _ _ _ _ HN.out hn2 hm HB.out HR.out HCF.out HNUM.out HM.out ?_
      exact HA.out.heapStep (Chg.refl _ _) (HA.out.heap.alike (fun v => by
        unfold SetOf
        simp))

end Go.Proofs.YtpcjfgihglfdgaaGreatDoor.Isl
